/- ControlSettles returns true for all arguments: if the demands remain as they are, after 200 ticks the currents are the targets. Conditions: none; the table ramp.happens holds what its text says. -/
import Derived.Test.YtlihnbimgclogaaGreatDoorQh3
namespace Go.Proofs.YtlihnbimgclogaaGreatDoor
open Go.Sx
theorem aBC:∀g S,asy g=some S→Valid Tryz.prog aS g S:=aT (l:=[(127,uN),(151,YU)]) ⟨Oj,aum,trivial⟩
theorem aor (cs:List Cd) (os:List ByteArray) (ks:List Ko) (gs:List Ch) (bs:List Ba) (nm:ByteArray) (at_ ph mi ma st fb ow:Int):bV Tryz.prog aS (asy) dZ aC Tryz.f128 [.agg [.xl dU cs,.xl .str os,.xl dV ks,.xl dP gs,.xl dW bs],.v (.agg #[.string nm,.int .i64 at_,.int .i64 ph,.int .i64 mi,.int .i64 ma,.int .i64 st,.int .i64 fb,.int .i64 ow])]=.ok (.v (.bool ((inB at_ (0:Int) (IntKind.i64.wrap ((List.length cs:Int)-1)))&&((inB ow (0:Int) (IntKind.i64.wrap ((List.length os:Int)-1)))&&((inB ph (1:Int) (7:Int))&&((inB mi (1:Int) (80:Int))&&((inB ma (1:Int) (80:Int))&&((inB st (1:Int) (80:Int))&&((inB fb (0:Int) (80:Int))&&(decide (mi≤ma)&&((fb==0) ||inB fb mi ma))))))))))):=by kernel_rfl
theorem atN:Valid Tryz.prog aS 128 Yt:=aH Tryz.func128 rfl aBC aF (aX (by kernel_rfl)) (fun args lv h=>by
 unfold acK at h
 split at h
 ·simp only [canL,canX]
  rw [aor]
  rename_i cs os _ _ _ _ at_ ph mi ma st fb ow
  obtain ⟨⟨h1,h2⟩,rfl⟩:=h
  refine congrArg (fun z=>LV.v (.bool z)) ?_
  rw [aK (x:=(List.length cs:Int)-1) (by omega) (by omega),aK (x:=(List.length os:Int)-1) (by omega) (by omega)]
  unfold Gt chW
  rw [Bool.eq_iff_iff]
  simp only [Bool.and_eq_true,Bool.or_eq_true,dB,decide_eq_true_eq,beq_iff_eq]
  omega
 ·cases h)
end Go.Proofs.YtlihnbimgclogaaGreatDoor
namespace Go.Proofs.YtlihnbimgclogaaGreatDoor
open Go.Sx
structure iQ where
 l:List Cd
 n:Int
 i:Int
 ah:List Cd
 aA:List ByteArray
 ai:List Ko
 aj:List Ch
 aI:List Ba
 out:List ByteArray
def aDX (s:iQ):List LV:=[.own 0 0,.os 1 1 0 (List.length s.out),.xl dU s.l,.v (.int .i64 s.n),.v (.int .i64 s.i)]
def aCX (s:iQ):List aU:=[⟨[.xl dU s.ah,.xl .str s.aA,.xl dV s.ai,.xl dP s.aj,.xl dW s.aI],28,.cl,false⟩,⟨[],9,.vec .str s.out,false⟩]
noncomputable def BF:Code:=((aB (Tryz.f98.body.getD .skip))[0]?).getD .skip
def Sz (s:iQ):T (Rd iQ):=
 .br (decide (s.i<s.n)) (.req (0≤s.i∧s.i<(List.length s.l:Int)) (.req (0+(List.length s.out)=List.length s.out∧((List.length s.out+List.length ([(fP s.l s.i).1]):Nat):Int)*16≤2^47∧((List.length s.out+List.length ([(fP s.l s.i).1]):Nat):Int)<2^62) (.req (0=0∧(List.length s.out+List.length ([(fP s.l s.i).1]))=List.length (s.out++([(fP s.l s.i).1]))) (.ok (.next {s with i:=(IntKind.i64.wrap (s.i+1)),out:=(s.out++([(fP s.l s.i).1]))}))))) (.rl s.out (.ok (.stop (.exit 0) s)))
abbrev abI (s:iQ):=(Sz s).rd s
def VN (s:iQ):Prop:=s.i=0∧s.n=(s.l.length:Int)∧s.n≤1000∧(s.out.length:Int)≤10000
def NE (s:iQ):Prop:=0≤s.i∧s.i≤s.n∧s.n=(s.l.length:Int)∧s.n≤1000∧(s.out.length:Int)≤10000+s.i
def PO (s:iQ):Nat:=(s.n-s.i).toNat
def ak7 (x:Ex) (_ s':iQ):Prop:=x=.exit 0∧s'.i=s'.n
theorem aAS:∀s,VN s→NE s:=by
 intro s h
 obtain ⟨h0,h1,h2,h3⟩:=h
 exact ⟨by omega,by omega,h1,h2,by omega⟩
theorem aww (s:iQ) (hI:NE s):bJ (fun s'=>NE s'∧PO s'<PO s) (fun x s'=>ak7 x s s') (abI s):=by
 unfold abI Sz
 dsimp only [T.rd,T.rl]
 obtain ⟨h0,h1,h2,h3,h4⟩:=hI
 refine au (fun c1=>?_) (fun c1=>?_)
 ·have c1:s.i<s.n:=by simpa using c1
  rw [aK (x:=s.i+1) (by omega) (by omega)]
  exact ⟨⟨by simp only;omega,by simp only;omega,h2,h3,by simp only [List.length_append,List.length_cons,List.length_nil];omega⟩,by simp only [PO];omega⟩
 ·have c1:s.n≤s.i:=by simpa using c1
  exact ⟨rfl,by omega⟩
def Ff:bM iQ:=⟨0,80,[1,3,15,16,17],[.nl 3 9 .str],aDX,aCX,fun v b=>⟨aQ dU (v.getD 2 .junk),gI (v.getD 3 .junk),gI (v.getD 4 .junk),aQ dU (aY (aO b 0) 0),aQ .str (aY (aO b 0) 1),aQ dV (aY (aO b 0) 2),aQ dP (aY (aO b 0) 3),aQ dW (aY (aO b 0) 4),iR .str (aO b 1)⟩,Sz,fun s r=> {r with l:=s.l,n:=s.n,ah:=s.ah,aA:=s.aA,ai:=s.ai,aj:=s.aj,aI:=s.aI},fun s=>s,fun _ s=>s,[.exit 0],VN,NE,PO⟩
abbrev gG:=Ff.run
abbrev ap8:=Ff.jJ
abbrev ayT:=Ff.q
theorem avz (s:iQ) (hI:NE s):(Sz s).all (fun _=>True):=by
 refine ⟨fun c1=>⟨?_,?_,?_,trivial⟩,fun c1=>⟨⟨rfl,rfl⟩,trivial⟩⟩
 all_goals ((obtain ⟨h0,h1,h2,h3,h4⟩:=hI;(try simp only [decide_eq_true_eq] at c1);first|omega|(refine ⟨by omega,?_,?_⟩<;>simp only [List.length_cons,List.length_nil]<;>omega) |(simp only [List.length_append,List.length_cons,List.length_nil];omega) |exact ⟨rfl,by simp⟩ |exact ⟨rfl,rfl⟩))
noncomputable def I7:Specs:=aZ []
theorem L9:∀g S,I7 g=some S→Valid Tryz.prog aS g S:=aT (l:=[]) trivial
theorem Xg:Ff.Ok:=⟨fun s=>by kernel_rfl,fun s=>by kernel_rfl,fun s=>rfl,fun s t r=>rfl,fun s=>rfl,fun s=>by kernel_rfl⟩
theorem WQ:Ff.Pf (ak7):=⟨aAS,fun _ _=>rfl,aww,avz⟩
theorem amZ:bg Tryz.prog aS (AN 0) (.loop BF) Ff.lp:=bM.snd Xg WQ (aP (Γ:=I7) (K:=dZ) (L:=aC) L9 aF BF (fun b hb=>by rw [show aB BF=[] by kernel_rfl] at hb;cases hb)) (fun s=>by kernel_rfl)
theorem aol (s:iQ) (hE:VN s):∃s',NE s'∧ak7 (ap8 s) s' (gG s):=bM.fin Xg WQ s hE
theorem aok (s:iQ) (hE:VN s):(gG s).out=s.out++s.l.map (·.1):=by
 have hk:=bM.uV Xg WQ (fun s=>s.out++(s.l.drop s.i.toNat).map (·.1)) (fun s hI=>by
  obtain ⟨h0,h1,h2,h3,h4⟩:=hI
  show bJ _ _ (abI s)
  unfold abI Sz
  dsimp only [T.rd,T.rl]
  refine au (fun c1=>?_) (fun c1=>?_)
  ·have c1:s.i<s.n:=by simpa using c1
   rw [aK (x:=s.i+1) (by omega) (by omega)]
   show _++_=_++_
   simp only
   rw [(Us h0 (show s.i<s.l.length by omega)).1]
   simp
  ·rfl) s hE
 obtain ⟨s',hI,q1,q2⟩:=aol s hE
 have q3:(gG s).i=(gG s).n:=q2
 have hn:(gG s).n=(s.l.length:Int):=hE.2.1
 have hl:(gG s).l=s.l:=rfl
 rw [q3,hn,hl,List.drop_eq_nil_of_le (by omega),hE.1] at hk
 simpa using hk
structure jA where
 l:List ByteArray
 n:Int
 i:Int
 ah:List Cd
 aA:List ByteArray
 ai:List Ko
 aj:List Ch
 aI:List Ba
 out:List ByteArray
def aDW (s:jA):List LV:=[.own 0 0,.os 1 1 0 (List.length s.out),.xl .str s.l,.v (.int .i64 s.n),.v (.int .i64 s.i)]
def aCW (s:jA):List aU:=[⟨[.xl dU s.ah,.xl .str s.aA,.xl dV s.ai,.xl dP s.aj,.xl dW s.aI],28,.cl,false⟩,⟨[],9,.vec .str s.out,false⟩]
noncomputable def BD:Code:=((aB (Tryz.f98.body.getD .skip))[1]?).getD .skip
def Sv (s:jA):T (Rd jA):=
 .br (decide (s.i<s.n)) (.req (0≤s.i∧s.i<(List.length s.l:Int)) (.req (0+(List.length s.out)=List.length s.out∧((List.length s.out+List.length ([(gS s.l s.i)]):Nat):Int)*16≤2^47∧((List.length s.out+List.length ([(gS s.l s.i)]):Nat):Int)<2^62) (.req (0=0∧(List.length s.out+List.length ([(gS s.l s.i)]))=List.length (s.out++([(gS s.l s.i)]))) (.ok (.next {s with i:=(IntKind.i64.wrap (s.i+1)),out:=(s.out++([(gS s.l s.i)]))}))))) (.rl s.out (.ok (.stop (.exit 2) s)))
abbrev abH (s:jA):=(Sv s).rd s
def VL (s:jA):Prop:=s.i=0∧s.n=(s.l.length:Int)∧s.n≤1000∧(s.out.length:Int)≤10000
def ND (s:jA):Prop:=0≤s.i∧s.i≤s.n∧s.n=(s.l.length:Int)∧s.n≤1000∧(s.out.length:Int)≤10000+s.i
def PN (s:jA):Nat:=(s.n-s.i).toNat
def ak6 (x:Ex) (_ s':jA):Prop:=x=.exit 2∧s'.i=s'.n
theorem aAR:∀s,VL s→ND s:=by
 intro s h
 obtain ⟨h0,h1,h2,h3⟩:=h
 exact ⟨by omega,by omega,h1,h2,by omega⟩
theorem awv (s:jA) (hI:ND s):bJ (fun s'=>ND s'∧PN s'<PN s) (fun x s'=>ak6 x s s') (abH s):=by
 unfold abH Sv
 dsimp only [T.rd,T.rl]
 obtain ⟨h0,h1,h2,h3,h4⟩:=hI
 refine au (fun c1=>?_) (fun c1=>?_)
 ·have c1:s.i<s.n:=by simpa using c1
  rw [aK (x:=s.i+1) (by omega) (by omega)]
  exact ⟨⟨by simp only;omega,by simp only;omega,h2,h3,by simp only [List.length_append,List.length_cons,List.length_nil];omega⟩,by simp only [PN];omega⟩
 ·have c1:s.n≤s.i:=by simpa using c1
  exact ⟨rfl,by omega⟩
def Fe:bM jA:=⟨0,80,[1,3,28,29,30],[],aDW,aCW,fun v b=>⟨aQ .str (v.getD 2 .junk),gI (v.getD 3 .junk),gI (v.getD 4 .junk),aQ dU (aY (aO b 0) 0),aQ .str (aY (aO b 0) 1),aQ dV (aY (aO b 0) 2),aQ dP (aY (aO b 0) 3),aQ dW (aY (aO b 0) 4),iR .str (aO b 1)⟩,Sv,fun s r=> {r with l:=s.l,n:=s.n,ah:=s.ah,aA:=s.aA,ai:=s.ai,aj:=s.aj,aI:=s.aI},fun s=>s,fun _ s=>s,[.exit 2],VL,ND,PN⟩
abbrev iw:=Fe.run
abbrev ap7:=Fe.jJ
abbrev ayS:=Fe.q
theorem avy (s:jA) (hI:ND s):(Sv s).all (fun _=>True):=by
 refine ⟨fun c1=>⟨?_,?_,?_,trivial⟩,fun c1=>⟨⟨rfl,rfl⟩,trivial⟩⟩
 all_goals ((obtain ⟨h0,h1,h2,h3,h4⟩:=hI;(try simp only [decide_eq_true_eq] at c1);first|omega|(refine ⟨by omega,?_,?_⟩<;>simp only [List.length_cons,List.length_nil]<;>omega) |(simp only [List.length_append,List.length_cons,List.length_nil];omega) |exact ⟨rfl,by simp⟩ |exact ⟨rfl,rfl⟩))
theorem Xf:Fe.Ok:=⟨fun s=>by kernel_rfl,fun s=>by kernel_rfl,fun s=>rfl,fun s t r=>rfl,fun s=>rfl,fun s=>by kernel_rfl⟩
theorem WO:Fe.Pf (ak6):=⟨aAR,fun _ _=>rfl,awv,avy⟩
theorem amY:bg Tryz.prog aS (AN 0) (.loop BD) Fe.lp:=bM.snd Xf WO (aP (Γ:=I7) (K:=dZ) (L:=aC) L9 aF BD (fun b hb=>by rw [show aB BD=[] by kernel_rfl] at hb;cases hb)) (fun s=>by kernel_rfl)
theorem aoj (s:jA) (hE:VL s):∃s',ND s'∧ak6 (ap7 s) s' (iw s):=bM.fin Xf WO s hE
theorem aoi (s:jA) (hE:VL s):(iw s).out=s.out++s.l:=by
 have hk:=bM.uV Xf WO (fun s=>s.out++(s.l.drop s.i.toNat)) (fun s hI=>by
  obtain ⟨h0,h1,h2,h3,h4⟩:=hI
  show bJ _ _ (abH s)
  unfold abH Sv
  dsimp only [T.rd,T.rl]
  refine au (fun c1=>?_) (fun c1=>?_)
  ·have c1:s.i<s.n:=by simpa using c1
   rw [aK (x:=s.i+1) (by omega) (by omega)]
   show _++_=_++_
   simp only
   rw [(uD h0 (show s.i<s.l.length by omega)).1]
   simp
  ·rfl) s hE
 obtain ⟨s',hI,q1,q2⟩:=aoj s hE
 have q3:(iw s).i=(iw s).n:=q2
 have hn:(iw s).n=(s.l.length:Int):=hE.2.1
 have hl:(iw s).l=s.l:=rfl
 rw [q3,hn,hl,List.drop_eq_nil_of_le (by omega),hE.1] at hk
 simpa using hk
structure jQ where
 l:List Ko
 n:Int
 i:Int
 ah:List Cd
 aA:List ByteArray
 ai:List Ko
 aj:List Ch
 aI:List Ba
 out:List ByteArray
def aDV (s:jQ):List LV:=[.own 0 0,.os 1 1 0 (List.length s.out),.xl dV s.l,.v (.int .i64 s.n),.v (.int .i64 s.i)]
def aCV (s:jQ):List aU:=[⟨[.xl dU s.ah,.xl .str s.aA,.xl dV s.ai,.xl dP s.aj,.xl dW s.aI],28,.cl,false⟩,⟨[],9,.vec .str s.out,false⟩]
noncomputable def BB:Code:=((aB (Tryz.f98.body.getD .skip))[2]?).getD .skip
def Sr (s:jQ):T (Rd jQ):=
 .br (decide (s.i<s.n)) (.req (0≤s.i∧s.i<(List.length s.l:Int)) (.req (0+(List.length s.out)=List.length s.out∧((List.length s.out+List.length ([(ni s.l s.i).1]):Nat):Int)*16≤2^47∧((List.length s.out+List.length ([(ni s.l s.i).1]):Nat):Int)<2^62) (.req (0=0∧(List.length s.out+List.length ([(ni s.l s.i).1]))=List.length (s.out++([(ni s.l s.i).1]))) (.ok (.next {s with i:=(IntKind.i64.wrap (s.i+1)),out:=(s.out++([(ni s.l s.i).1]))}))))) (.rl s.out (.ok (.stop (.exit 4) s)))
abbrev abG (s:jQ):=(Sr s).rd s
def VK (s:jQ):Prop:=s.i=0∧s.n=(s.l.length:Int)∧s.n≤1000∧(s.out.length:Int)≤10000
def NC (s:jQ):Prop:=0≤s.i∧s.i≤s.n∧s.n=(s.l.length:Int)∧s.n≤1000∧(s.out.length:Int)≤10000+s.i
def PL (s:jQ):Nat:=(s.n-s.i).toNat
def ak5 (x:Ex) (_ s':jQ):Prop:=x=.exit 4∧s'.i=s'.n
theorem aAQ:∀s,VK s→NC s:=by
 intro s h
 obtain ⟨h0,h1,h2,h3⟩:=h
 exact ⟨by omega,by omega,h1,h2,by omega⟩
theorem awu (s:jQ) (hI:NC s):bJ (fun s'=>NC s'∧PL s'<PL s) (fun x s'=>ak5 x s s') (abG s):=by
 unfold abG Sr
 dsimp only [T.rd,T.rl]
 obtain ⟨h0,h1,h2,h3,h4⟩:=hI
 refine au (fun c1=>?_) (fun c1=>?_)
 ·have c1:s.i<s.n:=by simpa using c1
  rw [aK (x:=s.i+1) (by omega) (by omega)]
  exact ⟨⟨by simp only;omega,by simp only;omega,h2,h3,by simp only [List.length_append,List.length_cons,List.length_nil];omega⟩,by simp only [PL];omega⟩
 ·have c1:s.n≤s.i:=by simpa using c1
  exact ⟨rfl,by omega⟩
def Fb:bM jQ:=⟨0,80,[1,3,41,42,43],[],aDV,aCV,fun v b=>⟨aQ dV (v.getD 2 .junk),gI (v.getD 3 .junk),gI (v.getD 4 .junk),aQ dU (aY (aO b 0) 0),aQ .str (aY (aO b 0) 1),aQ dV (aY (aO b 0) 2),aQ dP (aY (aO b 0) 3),aQ dW (aY (aO b 0) 4),iR .str (aO b 1)⟩,Sr,fun s r=> {r with l:=s.l,n:=s.n,ah:=s.ah,aA:=s.aA,ai:=s.ai,aj:=s.aj,aI:=s.aI},fun s=>s,fun _ s=>s,[.exit 4],VK,NC,PL⟩
abbrev iZ:=Fb.run
abbrev ap6:=Fb.jJ
abbrev ayR:=Fb.q
theorem avx (s:jQ) (hI:NC s):(Sr s).all (fun _=>True):=by
 refine ⟨fun c1=>⟨?_,?_,?_,trivial⟩,fun c1=>⟨⟨rfl,rfl⟩,trivial⟩⟩
 all_goals ((obtain ⟨h0,h1,h2,h3,h4⟩:=hI;(try simp only [decide_eq_true_eq] at c1);first|omega|(refine ⟨by omega,?_,?_⟩<;>simp only [List.length_cons,List.length_nil]<;>omega) |(simp only [List.length_append,List.length_cons,List.length_nil];omega) |exact ⟨rfl,by simp⟩ |exact ⟨rfl,rfl⟩))
theorem Xe:Fb.Ok:=⟨fun s=>by kernel_rfl,fun s=>by kernel_rfl,fun s=>rfl,fun s t r=>rfl,fun s=>rfl,fun s=>by kernel_rfl⟩
theorem WN:Fb.Pf (ak5):=⟨aAQ,fun _ _=>rfl,awu,avx⟩
theorem amX:bg Tryz.prog aS (AN 0) (.loop BB) Fb.lp:=bM.snd Xe WN (aP (Γ:=I7) (K:=dZ) (L:=aC) L9 aF BB (fun b hb=>by rw [show aB BB=[] by kernel_rfl] at hb;cases hb)) (fun s=>by kernel_rfl)
theorem aoh (s:jQ) (hE:VK s):∃s',NC s'∧ak5 (ap6 s) s' (iZ s):=bM.fin Xe WN s hE
theorem aog (s:jQ) (hE:VK s):(iZ s).out=s.out++s.l.map (·.1):=by
 have hk:=bM.uV Xe WN (fun s=>s.out++(s.l.drop s.i.toNat).map (·.1)) (fun s hI=>by
  obtain ⟨h0,h1,h2,h3,h4⟩:=hI
  show bJ _ _ (abG s)
  unfold abG Sr
  dsimp only [T.rd,T.rl]
  refine au (fun c1=>?_) (fun c1=>?_)
  ·have c1:s.i<s.n:=by simpa using c1
   rw [aK (x:=s.i+1) (by omega) (by omega)]
   show _++_=_++_
   simp only
   rw [(I8 h0 (show s.i<s.l.length by omega)).1]
   simp
  ·rfl) s hE
 obtain ⟨s',hI,q1,q2⟩:=aoh s hE
 have q3:(iZ s).i=(iZ s).n:=q2
 have hn:(iZ s).n=(s.l.length:Int):=hE.2.1
 have hl:(iZ s).l=s.l:=rfl
 rw [q3,hn,hl,List.drop_eq_nil_of_le (by omega),hE.1] at hk
 simpa using hk
structure kP where
 l:List Ch
 n:Int
 i:Int
 ah:List Cd
 aA:List ByteArray
 ai:List Ko
 aj:List Ch
 aI:List Ba
 out:List ByteArray
def aDU (s:kP):List LV:=[.own 0 0,.os 1 1 0 (List.length s.out),.xl dP s.l,.v (.int .i64 s.n),.v (.int .i64 s.i)]
def aCU (s:kP):List aU:=[⟨[.xl dU s.ah,.xl .str s.aA,.xl dV s.ai,.xl dP s.aj,.xl dW s.aI],28,.cl,false⟩,⟨[],9,.vec .str s.out,false⟩]
noncomputable def BA:Code:=((aB (Tryz.f98.body.getD .skip))[3]?).getD .skip
def Sm (s:kP):T (Rd kP):=
 .br (decide (s.i<s.n)) (.req (0≤s.i∧s.i<(List.length s.l:Int)) (.req (0+(List.length s.out)=List.length s.out∧((List.length s.out+List.length ([(bn s.l s.i).1]):Nat):Int)*16≤2^47∧((List.length s.out+List.length ([(bn s.l s.i).1]):Nat):Int)<2^62) (.req (0=0∧(List.length s.out+List.length ([(bn s.l s.i).1]))=List.length (s.out++([(bn s.l s.i).1]))) (.ok (.next {s with i:=(IntKind.i64.wrap (s.i+1)),out:=(s.out++([(bn s.l s.i).1]))}))))) (.rl s.out (.ok (.stop (.exit 6) s)))
abbrev abE (s:kP):=(Sm s).rd s
def VJ (s:kP):Prop:=s.i=0∧s.n=(s.l.length:Int)∧s.n≤1000∧(s.out.length:Int)≤10000
def Nz (s:kP):Prop:=0≤s.i∧s.i≤s.n∧s.n=(s.l.length:Int)∧s.n≤1000∧(s.out.length:Int)≤10000+s.i
def PK (s:kP):Nat:=(s.n-s.i).toNat
def ak4 (x:Ex) (_ s':kP):Prop:=x=.exit 6∧s'.i=s'.n
theorem aAP:∀s,VJ s→Nz s:=by
 intro s h
 obtain ⟨h0,h1,h2,h3⟩:=h
 exact ⟨by omega,by omega,h1,h2,by omega⟩
theorem awt (s:kP) (hI:Nz s):bJ (fun s'=>Nz s'∧PK s'<PK s) (fun x s'=>ak4 x s s') (abE s):=by
 unfold abE Sm
 dsimp only [T.rd,T.rl]
 obtain ⟨h0,h1,h2,h3,h4⟩:=hI
 refine au (fun c1=>?_) (fun c1=>?_)
 ·have c1:s.i<s.n:=by simpa using c1
  rw [aK (x:=s.i+1) (by omega) (by omega)]
  exact ⟨⟨by simp only;omega,by simp only;omega,h2,h3,by simp only [List.length_append,List.length_cons,List.length_nil];omega⟩,by simp only [PK];omega⟩
 ·have c1:s.n≤s.i:=by simpa using c1
  exact ⟨rfl,by omega⟩
def Fa:bM kP:=⟨0,80,[1,3,54,55,56],[],aDU,aCU,fun v b=>⟨aQ dP (v.getD 2 .junk),gI (v.getD 3 .junk),gI (v.getD 4 .junk),aQ dU (aY (aO b 0) 0),aQ .str (aY (aO b 0) 1),aQ dV (aY (aO b 0) 2),aQ dP (aY (aO b 0) 3),aQ dW (aY (aO b 0) 4),iR .str (aO b 1)⟩,Sm,fun s r=> {r with l:=s.l,n:=s.n,ah:=s.ah,aA:=s.aA,ai:=s.ai,aj:=s.aj,aI:=s.aI},fun s=>s,fun _ s=>s,[.exit 6],VJ,Nz,PK⟩
abbrev jT:=Fa.run
abbrev ap5:=Fa.jJ
abbrev ayQ:=Fa.q
theorem avw (s:kP) (hI:Nz s):(Sm s).all (fun _=>True):=by
 refine ⟨fun c1=>⟨?_,?_,?_,trivial⟩,fun c1=>⟨⟨rfl,rfl⟩,trivial⟩⟩
 all_goals ((obtain ⟨h0,h1,h2,h3,h4⟩:=hI;(try simp only [decide_eq_true_eq] at c1);first|omega|(refine ⟨by omega,?_,?_⟩<;>simp only [List.length_cons,List.length_nil]<;>omega) |(simp only [List.length_append,List.length_cons,List.length_nil];omega) |exact ⟨rfl,by simp⟩ |exact ⟨rfl,rfl⟩))
theorem Xd:Fa.Ok:=⟨fun s=>by kernel_rfl,fun s=>by kernel_rfl,fun s=>rfl,fun s t r=>rfl,fun s=>rfl,fun s=>by kernel_rfl⟩
theorem WM:Fa.Pf (ak4):=⟨aAP,fun _ _=>rfl,awt,avw⟩
theorem amW:bg Tryz.prog aS (AN 0) (.loop BA) Fa.lp:=bM.snd Xd WM (aP (Γ:=I7) (K:=dZ) (L:=aC) L9 aF BA (fun b hb=>by rw [show aB BA=[] by kernel_rfl] at hb;cases hb)) (fun s=>by kernel_rfl)
theorem aof (s:kP) (hE:VJ s):∃s',Nz s'∧ak4 (ap5 s) s' (jT s):=bM.fin Xd WM s hE
theorem aoe (s:kP) (hE:VJ s):(jT s).out=s.out++s.l.map (·.1):=by
 have hk:=bM.uV Xd WM (fun s=>s.out++(s.l.drop s.i.toNat).map (·.1)) (fun s hI=>by
  obtain ⟨h0,h1,h2,h3,h4⟩:=hI
  show bJ _ _ (abE s)
  unfold abE Sm
  dsimp only [T.rd,T.rl]
  refine au (fun c1=>?_) (fun c1=>?_)
  ·have c1:s.i<s.n:=by simpa using c1
   rw [aK (x:=s.i+1) (by omega) (by omega)]
   show _++_=_++_
   simp only
   rw [(Ur h0 (show s.i<s.l.length by omega)).1]
   simp
  ·rfl) s hE
 obtain ⟨s',hI,q1,q2⟩:=aof s hE
 have q3:(jT s).i=(jT s).n:=q2
 have hn:(jT s).n=(s.l.length:Int):=hE.2.1
 have hl:(jT s).l=s.l:=rfl
 rw [q3,hn,hl,List.drop_eq_nil_of_le (by omega),hE.1] at hk
 simpa using hk
structure mP where
 l:List Ba
 n:Int
 i:Int
 out:List ByteArray
def aDT (s:mP):List LV:=[.os 0 1 0 (List.length s.out),.xl dW s.l,.v (.int .i64 s.n),.v (.int .i64 s.i)]
def aCT (s:mP):List aU:=[⟨[],9,.vec .str s.out,false⟩]
noncomputable def Bz:Code:=((aB (Tryz.f98.body.getD .skip))[4]?).getD .skip
def Sl (s:mP):T (Rd mP):=
 .br (decide (s.i<s.n)) (.req (0≤s.i∧s.i<(List.length s.l:Int)) (.req (0+(List.length s.out)=List.length s.out∧((List.length s.out+List.length ([(CX s.l s.i).1]):Nat):Int)*16≤2^47∧((List.length s.out+List.length ([(CX s.l s.i).1]):Nat):Int)<2^62) (.req (0=0∧(List.length s.out+List.length ([(CX s.l s.i).1]))=List.length (s.out++([(CX s.l s.i).1]))) (.ok (.next {s with i:=(IntKind.i64.wrap (s.i+1)),out:=(s.out++([(CX s.l s.i).1]))}))))) (.rl s.out (.ok (.stop (.exit 8) s)))
abbrev abD (s:mP):=(Sl s).rd s
def VI (s:mP):Prop:=s.i=0∧s.n=(s.l.length:Int)∧s.n≤1000∧(s.out.length:Int)≤10000
def Ny (s:mP):Prop:=0≤s.i∧s.i≤s.n∧s.n=(s.l.length:Int)∧s.n≤1000∧(s.out.length:Int)≤10000+s.i
def PI (s:mP):Nat:=(s.n-s.i).toNat
def ak3 (x:Ex) (_ s':mP):Prop:=x=.exit 8∧s'.i=s'.n
theorem aAO:∀s,VI s→Ny s:=by
 intro s h
 obtain ⟨h0,h1,h2,h3⟩:=h
 exact ⟨by omega,by omega,h1,h2,by omega⟩
theorem aws (s:mP) (hI:Ny s):bJ (fun s'=>Ny s'∧PI s'<PI s) (fun x s'=>ak3 x s s') (abD s):=by
 unfold abD Sl
 dsimp only [T.rd,T.rl]
 obtain ⟨h0,h1,h2,h3,h4⟩:=hI
 refine au (fun c1=>?_) (fun c1=>?_)
 ·have c1:s.i<s.n:=by simpa using c1
  rw [aK (x:=s.i+1) (by omega) (by omega)]
  exact ⟨⟨by simp only;omega,by simp only;omega,h2,h3,by simp only [List.length_append,List.length_cons,List.length_nil];omega⟩,by simp only [PI];omega⟩
 ·have c1:s.n≤s.i:=by simpa using c1
  exact ⟨rfl,by omega⟩
def E8:bM mP:=⟨0,80,[3,67,68,69],[],aDT,aCT,fun v b=>⟨aQ dW (v.getD 1 .junk),gI (v.getD 2 .junk),gI (v.getD 3 .junk),iR .str (aO b 0)⟩,Sl,fun s r=> {r with l:=s.l,n:=s.n},fun s=>s,fun _ s=>s,[.exit 8],VI,Ny,PI⟩
abbrev mg:=E8.run
abbrev ap4:=E8.jJ
abbrev ayP:=E8.q
theorem avv (s:mP) (hI:Ny s):(Sl s).all (fun _=>True):=by
 refine ⟨fun c1=>⟨?_,?_,?_,trivial⟩,fun c1=>⟨⟨rfl,rfl⟩,trivial⟩⟩
 all_goals ((obtain ⟨h0,h1,h2,h3,h4⟩:=hI;(try simp only [decide_eq_true_eq] at c1);first|omega|(refine ⟨by omega,?_,?_⟩<;>simp only [List.length_cons,List.length_nil]<;>omega) |(simp only [List.length_append,List.length_cons,List.length_nil];omega) |exact ⟨rfl,by simp⟩ |exact ⟨rfl,rfl⟩))
theorem Xc:E8.Ok:=⟨fun s=>by kernel_rfl,fun s=>by kernel_rfl,fun s=>rfl,fun s t r=>rfl,fun s=>rfl,fun s=>by kernel_rfl⟩
theorem WL:E8.Pf (ak3):=⟨aAO,fun _ _=>rfl,aws,avv⟩
theorem amV:bg Tryz.prog aS (AN 0) (.loop Bz) E8.lp:=bM.snd Xc WL (aP (Γ:=I7) (K:=dZ) (L:=aC) L9 aF Bz (fun b hb=>by rw [show aB Bz=[] by kernel_rfl] at hb;cases hb)) (fun s=>by kernel_rfl)
theorem aod (s:mP) (hE:VI s):∃s',Ny s'∧ak3 (ap4 s) s' (mg s):=bM.fin Xc WL s hE
theorem aoc (s:mP) (hE:VI s):(mg s).out=s.out++s.l.map (·.1):=by
 have hk:=bM.uV Xc WL (fun s=>s.out++(s.l.drop s.i.toNat).map (·.1)) (fun s hI=>by
  obtain ⟨h0,h1,h2,h3,h4⟩:=hI
  show bJ _ _ (abD s)
  unfold abD Sl
  dsimp only [T.rd,T.rl]
  refine au (fun c1=>?_) (fun c1=>?_)
  ·have c1:s.i<s.n:=by simpa using c1
   rw [aK (x:=s.i+1) (by omega) (by omega)]
   show _++_=_++_
   simp only
   rw [(Ut h0 (show s.i<s.l.length by omega)).1]
   simp
  ·rfl) s hE
 obtain ⟨s',hI,q1,q2⟩:=aod s hE
 have q3:(mg s).i=(mg s).n:=q2
 have hn:(mg s).n=(s.l.length:Int):=hE.2.1
 have hl:(mg s).l=s.l:=rfl
 rw [q3,hn,hl,List.drop_eq_nil_of_le (by omega),hE.1] at hk
 simpa using hk
def ac6:List LV→T LV
 | [.agg [.xl (.pair .str (.pair (.int .i64) (.pair (.int .i64) (.pair (.int .i64) (.pair (.pair (.int .i64) (.int .i64)) (.pair (.int .i64) (.pair (.int .i64) (.pair (.int .i64) (.pair (.int .i64) (.int .i64)))))))))) cs,.xl (.str) os,.xl (.pair .str (.pair (.int .i64) (.pair (.int .i64) (.int .i64)))) ks,.xl (.pair .str (.pair (.int .i64) (.pair (.int .i64) (.pair (.int .i64) (.pair (.int .i64) (.pair (.int .i64) (.pair (.int .i64) (.int .i64)))))))) gs,.xl (.pair .str (.int .i64)) bs]]=> .req ((List.length cs:Int)≤1000∧(List.length os:Int)≤1000∧(List.length ks:Int)≤1000∧(List.length gs:Int)≤1000∧(List.length bs:Int)≤1000) (.ok (.xl .str (gB cs os ks gs bs)))
 |_=> .no
noncomputable def YI:List LV→T LV:=gQ Tryz.prog Tryz.f98.params.toList ac6
theorem aoN (cs:List Cd) (os:List ByteArray) (ks:List Ko) (gs:List Ch) (bs:List Ba):bV Tryz.prog aS (I7) dZ (fun i=>if i=3 then Ff.lp else if i=8 then Fe.lp else if i=13 then Fb.lp else if i=18 then Fa.lp else if i=23 then E8.lp else aC i) Tryz.f98 [.agg [.xl dU cs,.xl .str os,.xl dV ks,.xl dP gs,.xl dW bs]]=.req (0=0∧0=List.length ([]:List ByteArray)) (.req (ayT (⟨cs,(List.length cs:Int),(0:Int),cs,os,ks,gs,bs,([]:List ByteArray)⟩:iQ)) (.rl (gG (⟨cs,(List.length cs:Int),(0:Int),cs,os,ks,gs,bs,([]:List ByteArray)⟩:iQ)).out (.req (ayS (⟨os,(List.length os:Int),(0:Int),cs,os,ks,gs,bs,(gG (⟨cs,(List.length cs:Int),(0:Int),cs,os,ks,gs,bs,([]:List ByteArray)⟩:iQ)).out⟩:jA)) (.rl (iw (⟨os,(List.length os:Int),(0:Int),cs,os,ks,gs,bs,(gG (⟨cs,(List.length cs:Int),(0:Int),cs,os,ks,gs,bs,([]:List ByteArray)⟩:iQ)).out⟩:jA)).out (.req (ayR (⟨ks,(List.length ks:Int),(0:Int),cs,os,ks,gs,bs,(iw (⟨os,(List.length os:Int),(0:Int),cs,os,ks,gs,bs,(gG (⟨cs,(List.length cs:Int),(0:Int),cs,os,ks,gs,bs,([]:List ByteArray)⟩:iQ)).out⟩:jA)).out⟩:jQ)) (.rl (iZ (⟨ks,(List.length ks:Int),(0:Int),cs,os,ks,gs,bs,(iw (⟨os,(List.length os:Int),(0:Int),cs,os,ks,gs,bs,(gG (⟨cs,(List.length cs:Int),(0:Int),cs,os,ks,gs,bs,([]:List ByteArray)⟩:iQ)).out⟩:jA)).out⟩:jQ)).out (.req (ayQ (⟨gs,(List.length gs:Int),(0:Int),cs,os,ks,gs,bs,(iZ (⟨ks,(List.length ks:Int),(0:Int),cs,os,ks,gs,bs,(iw (⟨os,(List.length os:Int),(0:Int),cs,os,ks,gs,bs,(gG (⟨cs,(List.length cs:Int),(0:Int),cs,os,ks,gs,bs,([]:List ByteArray)⟩:iQ)).out⟩:jA)).out⟩:jQ)).out⟩:kP)) (.rl (jT (⟨gs,(List.length gs:Int),(0:Int),cs,os,ks,gs,bs,(iZ (⟨ks,(List.length ks:Int),(0:Int),cs,os,ks,gs,bs,(iw (⟨os,(List.length os:Int),(0:Int),cs,os,ks,gs,bs,(gG (⟨cs,(List.length cs:Int),(0:Int),cs,os,ks,gs,bs,([]:List ByteArray)⟩:iQ)).out⟩:jA)).out⟩:jQ)).out⟩:kP)).out (.req (ayP (⟨bs,(List.length bs:Int),(0:Int),(jT (⟨gs,(List.length gs:Int),(0:Int),cs,os,ks,gs,bs,(iZ (⟨ks,(List.length ks:Int),(0:Int),cs,os,ks,gs,bs,(iw (⟨os,(List.length os:Int),(0:Int),cs,os,ks,gs,bs,(gG (⟨cs,(List.length cs:Int),(0:Int),cs,os,ks,gs,bs,([]:List ByteArray)⟩:iQ)).out⟩:jA)).out⟩:jQ)).out⟩:kP)).out⟩:mP)) (.req (0+(List.length (mg (⟨bs,(List.length bs:Int),(0:Int),(jT (⟨gs,(List.length gs:Int),(0:Int),cs,os,ks,gs,bs,(iZ (⟨ks,(List.length ks:Int),(0:Int),cs,os,ks,gs,bs,(iw (⟨os,(List.length os:Int),(0:Int),cs,os,ks,gs,bs,(gG (⟨cs,(List.length cs:Int),(0:Int),cs,os,ks,gs,bs,([]:List ByteArray)⟩:iQ)).out⟩:jA)).out⟩:jQ)).out⟩:kP)).out⟩:mP)).out)≤List.length (mg (⟨bs,(List.length bs:Int),(0:Int),(jT (⟨gs,(List.length gs:Int),(0:Int),cs,os,ks,gs,bs,(iZ (⟨ks,(List.length ks:Int),(0:Int),cs,os,ks,gs,bs,(iw (⟨os,(List.length os:Int),(0:Int),cs,os,ks,gs,bs,(gG (⟨cs,(List.length cs:Int),(0:Int),cs,os,ks,gs,bs,([]:List ByteArray)⟩:iQ)).out⟩:jA)).out⟩:jQ)).out⟩:kP)).out⟩:mP)).out) (.ok (.xl .str (((mg (⟨bs,(List.length bs:Int),(0:Int),(jT (⟨gs,(List.length gs:Int),(0:Int),cs,os,ks,gs,bs,(iZ (⟨ks,(List.length ks:Int),(0:Int),cs,os,ks,gs,bs,(iw (⟨os,(List.length os:Int),(0:Int),cs,os,ks,gs,bs,(gG (⟨cs,(List.length cs:Int),(0:Int),cs,os,ks,gs,bs,([]:List ByteArray)⟩:iQ)).out⟩:jA)).out⟩:jQ)).out⟩:kP)).out⟩:mP)).out.drop 0).take (List.length (mg (⟨bs,(List.length bs:Int),(0:Int),(jT (⟨gs,(List.length gs:Int),(0:Int),cs,os,ks,gs,bs,(iZ (⟨ks,(List.length ks:Int),(0:Int),cs,os,ks,gs,bs,(iw (⟨os,(List.length os:Int),(0:Int),cs,os,ks,gs,bs,(gG (⟨cs,(List.length cs:Int),(0:Int),cs,os,ks,gs,bs,([]:List ByteArray)⟩:iQ)).out⟩:jA)).out⟩:jQ)).out⟩:kP)).out⟩:mP)).out)))))))))))))):=by kernel_rfl
theorem aua:Valid Tryz.prog aS 98 YI:=aH Tryz.func98 rfl L9 aF (L:=(fun i=>if i=3 then Ff.lp else if i=8 then Fe.lp else if i=13 then Fb.lp else if i=18 then Fa.lp else if i=23 then E8.lp else aC i)) (fun b hb=>by
 rw [show aB _=[BF,BD,BB,BA,Bz] by kernel_rfl] at hb
 simp only [List.mem_cons,List.not_mem_nil,or_false] at hb
 rcases hb with rfl|rfl|rfl|rfl|rfl
 ·exact amZ
 ·exact amY
 ·exact amX
 ·exact amW
 ·exact amV) (fun args lv h=>by
 unfold ac6 at h
 split at h
 ·simp only [canL,canX]
  rw [aoN]
  rename_i cs os ks gs bs
  obtain ⟨⟨hc,ho,hk,hg,hb⟩,rfl⟩:=h
  have hE0:VN ⟨cs,(List.length cs:Int),(0:Int),cs,os,ks,gs,bs,([]:List ByteArray)⟩:=⟨rfl,rfl,hc,by simp only;decide⟩
  have o0:=aok _ hE0
  refine ⟨⟨rfl,rfl⟩,⟨hE0,rfl,rfl⟩,?_⟩
  generalize (gG ⟨cs,(List.length cs:Int),(0:Int),cs,os,ks,gs,bs,([]:List ByteArray)⟩).out=r0 at*
  have o0:r0=([]:List ByteArray)++cs.map (·.1):=o0
  have l0:(List.length r0:Int)≤1000:=by rw [o0];simp only [List.length_append,List.length_map,List.length_nil];omega
  have hE1:VL ⟨os,(List.length os:Int),(0:Int),cs,os,ks,gs,bs,r0⟩:=⟨rfl,rfl,ho,by simp only;omega⟩
  have o1:=aoi _ hE1
  refine ⟨⟨rfl,rfl⟩,⟨hE1,rfl,rfl⟩,?_⟩
  generalize (iw ⟨os,(List.length os:Int),(0:Int),cs,os,ks,gs,bs,r0⟩).out=r1 at*
  have o1:r1=r0++os:=o1
  have l1:(List.length r1:Int)≤2000:=by rw [o1];simp only [List.length_append];omega
  have hE2:VK ⟨ks,(List.length ks:Int),(0:Int),cs,os,ks,gs,bs,r1⟩:=⟨rfl,rfl,hk,by simp only;omega⟩
  have o2:=aog _ hE2
  refine ⟨⟨rfl,rfl⟩,⟨hE2,rfl,rfl⟩,?_⟩
  generalize (iZ ⟨ks,(List.length ks:Int),(0:Int),cs,os,ks,gs,bs,r1⟩).out=r2 at*
  have o2:r2=r1++ks.map (·.1):=o2
  have l2:(List.length r2:Int)≤3000:=by rw [o2];simp only [List.length_append,List.length_map];omega
  have hE3:VJ ⟨gs,(List.length gs:Int),(0:Int),cs,os,ks,gs,bs,r2⟩:=⟨rfl,rfl,hg,by simp only;omega⟩
  have o3:=aoe _ hE3
  refine ⟨⟨rfl,rfl⟩,⟨hE3,rfl,rfl⟩,?_⟩
  generalize (jT ⟨gs,(List.length gs:Int),(0:Int),cs,os,ks,gs,bs,r2⟩).out=r3 at*
  have o3:r3=r2++gs.map (·.1):=o3
  have l3:(List.length r3:Int)≤4000:=by rw [o3];simp only [List.length_append,List.length_map];omega
  have hE4:VI ⟨bs,(List.length bs:Int),(0:Int),r3⟩:=⟨rfl,rfl,hb,by simp only;omega⟩
  have o4:=aoc _ hE4
  refine ⟨⟨rfl,rfl⟩,⟨hE4,rfl,rfl⟩,?_⟩
  generalize (mg ⟨bs,(List.length bs:Int),(0:Int),r3⟩).out=r4 at*
  have o4:r4=r3++bs.map (·.1):=o4
  have l4:(List.length r4:Int)≤5000:=by rw [o4];simp only [List.length_append,List.length_map];omega
  refine ⟨by omega,?_⟩
  show LV.xl _ _=_
  rw [List.drop_zero,List.take_of_length_le (by omega),o4,o3,o2,o1,o0,List.nil_append]
  rfl
 ·cases h)
end Go.Proofs.YtlihnbimgclogaaGreatDoor
namespace Go.Proofs.YtlihnbimgclogaaGreatDoor
open Go.Sx
structure iT where
 r:Bool
 l:List Cd
 n:Int
 i:Int
 ah:List Cd
 aA:List ByteArray
 ai:List Ko
 aj:List Ch
 aI:List Ba
def aDr (s:iT):List LV:=[.own 0 0,.v (.bool s.r),.xl dU s.l,.v (.int .i64 s.n),.v (.int .i64 s.i)]
def aCr (s:iT):List aU:=[⟨[.xl dU s.ah,.xl .str s.aA,.xl dV s.ai,.xl dP s.aj,.xl dW s.aI],28,.cl,false⟩]
noncomputable def AP:Code:=((aB (Tryz.f100.body.getD .skip))[0]?).getD .skip
def Zu (s:iT):T (Rd iT):=
 .br (decide (s.i<s.n)) (.req (0≤s.i∧s.i<(List.length s.l:Int)) (.req (0≤s.i) (.br (!(Ew s.i (fP s.l s.i))) (.ok (.stop (.ret) {s with r:=false})) (.ok (.next {s with i:=(IntKind.i64.wrap (s.i+1))}))))) (.ok (.stop (.exit 0) s))
abbrev asE (s:iT):=(Zu s).rd s
def JU (s:iT) (j:Int):Bool:=Ew j (fP s.l j)
def aly (s:iT):Prop:=s.i=0∧0≤s.n∧s.n≤1000∧s.n=(s.l.length:Int)
def MZ (s:iT):Prop:=0≤s.i∧s.i≤s.n∧s.n≤1000∧(s.n=(s.l.length:Int))∧∀j:Nat,(j:Int)<s.i→JU s j=true
def O3 (s:iT):Nat:=(s.n-s.i).toNat
def akP (x:Ex) (_ s':iT):Prop:=(x=.exit 0∧∀j:Nat,(j:Int)<s'.n→JU s' j=true)∨(x=.ret∧s'.r=false∧∃j:Nat,(j:Int)<s'.n∧JU s' j=false)
theorem azx:∀s,aly s→MZ s:=by
 intro s h
 obtain ⟨h0,h1,h2,h3⟩:=h
 exact ⟨by omega,by omega,h2,h3,fun j hj=>by omega⟩
theorem atH (s:iT) (hI:MZ s):bJ (fun s'=>MZ s'∧O3 s'<O3 s) (fun x s'=>akP x s s') (asE s):=by
 unfold asE Zu
 dsimp only [T.rd,T.rl]
 obtain ⟨h0,h1,h2,h3,h4⟩:=hI
 refine au (fun c1=>au (fun c2=>?_) (fun c2=>?_)) (fun c1=>?_)
 ·have c1:s.i<s.n:=by simpa using c1
  refine .inr ⟨rfl,rfl,s.i.toNat,by simp only;omega,?_⟩
  rw [Int.toNat_of_nonneg (by omega)]
  have hg:JU s s.i=false:=by unfold JU;(first|(have c2:(!(Ew s.i (fP s.l s.i)))=false:=c2;simpa using c2) |(have c2:(!(Ew s.i (fP s.l s.i)))=true:=c2;simpa using c2))
  exact hg
 ·have c1:s.i<s.n:=by simpa using c1
  have hg:JU s s.i=true:=by unfold JU;(first|(have c2:(!(Ew s.i (fP s.l s.i)))=false:=c2;simpa using c2) |(have c2:(!(Ew s.i (fP s.l s.i)))=true:=c2;simpa using c2))
  rw [aK (x:=s.i+1) (by omega) (by omega)]
  refine ⟨⟨by simp only;omega,by simp only;omega,h2,h3,fun j hj=>?_⟩,by simp only [O3];omega⟩
  by_cases hji:(j:Int)<s.i
  ·exact h4 j hji
  ·have:(j:Int)=s.i:=by simp only at hj;omega
   rw [this];exact hg
 ·have c1:s.n≤s.i:=by simpa using c1
  exact .inl ⟨rfl,fun j hj=>h4 j (by omega)⟩
def EG:bM iT:=⟨0,95,[1,2,13,14,15],[],aDr,aCr,fun v b=>⟨vF (v.getD 1 .junk),aQ dU (v.getD 2 .junk),gI (v.getD 3 .junk),gI (v.getD 4 .junk),aQ dU (aY (aO b 0) 0),aQ .str (aY (aO b 0) 1),aQ dV (aY (aO b 0) 2),aQ dP (aY (aO b 0) 3),aQ dW (aY (aO b 0) 4)⟩,Zu,fun s r=> {r with l:=s.l,n:=s.n,ah:=s.ah,aA:=s.aA,ai:=s.ai,aj:=s.aj,aI:=s.aI},fun s=>s,fun _ s=>s,[.ret,.exit 0],aly,MZ,O3⟩
abbrev l7:=EG.run
abbrev abV:=EG.jJ
abbrev ayo:=EG.q
theorem au3 (s:iT) (hI:MZ s):(Zu s).all (fun _=>True):=by
 refine ⟨fun c1=>⟨?_,?_,fun _=>trivial,fun _=>trivial⟩,fun _=>trivial⟩
 all_goals ((obtain ⟨h0,h1,h2,h3,h4⟩:=hI;simp at c1;omega))
noncomputable def Me:Specs:=aZ [(126,Yr),(127,uN),(128,Yt)]
theorem Ui:∀g S,Me g=some S→Valid Tryz.prog aS g S:=aT (l:=[(126,Yr),(127,uN),(128,Yt)]) ⟨atM,Oj,atN,trivial⟩
theorem ahn:EG.Ok:=⟨fun s=>by kernel_rfl,fun s=>by kernel_rfl,fun s=>rfl,fun s t r=>rfl,fun s=>rfl,fun s=>by kernel_rfl⟩
theorem agj:EG.Pf (akP):=⟨azx,fun _ _=>rfl,atH,au3⟩
theorem amq:bg Tryz.prog aS (AN 0) (.loop AP) EG.lp:=bM.snd ahn agj (aP (Γ:=Me) (K:=dZ) (L:=aC) Ui aF AP (fun b hb=>by rw [show aB AP=[] by kernel_rfl] at hb;cases hb)) (fun s=>by kernel_rfl)
theorem alY (s:iT) (hE:aly s):∃s',MZ s'∧akP (abV s) s' (l7 s):=bM.fin ahn agj s hE
structure jM where
 r:Bool
 l:List Ko
 n:Int
 i:Int
 ah:List Cd
 aA:List ByteArray
 ai:List Ko
 aj:List Ch
 aI:List Ba
 cards:List Int
def aDq (s:jM):List LV:=[.own 0 0,.v (.bool s.r),.om 1,.xl dV s.l,.v (.int .i64 s.n),.v (.int .i64 s.i)]
def aCq (s:jM):List aU:=[⟨[.xl dU s.ah,.xl .str s.aA,.xl dV s.ai,.xl dP s.aj,.xl dW s.aI],28,.cl,false⟩,⟨[],183,.st (.int .i64) s.cards,false⟩]
noncomputable def AO:Code:=((aB (Tryz.f100.body.getD .skip))[1]?).getD .skip
def Zt (s:jM):T (Rd jM):=
 .br (decide (s.i<s.n)) (.req (0≤s.i∧s.i<(List.length s.l:Int)) (.br ((!(inB (ni s.l s.i).2.1 (0:Int) (IntKind.i64.wrap ((List.length s.aA:Int)-1)))) ||((!(inB (ni s.l s.i).2.2.1 (1:Int) (9:Int))) ||((!(inB (ni s.l s.i).2.2.2 (1:Int) (1000000:Int))) ||(List.contains s.cards (ni s.l s.i).2.2.2)))) (.ok (.stop (.ret) {s with r:=false})) (.req (List.contains s.cards (ni s.l s.i).2.2.2=false) (.ok (.next {s with i:=(IntKind.i64.wrap (s.i+1)),cards:=(s.cards++[(ni s.l s.i).2.2.2])}))))) (.ok (.stop (.exit 2) s))
abbrev asD (s:jM):=(Zt s).rd s
def JS (s:jM) (j:Int):Bool:=koV s.aA.length (ni s.l j)&&!(((s.l.take j.toNat).map (·.2.2.2)).contains (ni s.l j).2.2.2)
def alv (s:jM):Prop:=s.i=0∧s.cards=[]∧s.n=(s.l.length:Int)∧s.n≤1000∧(s.aA.length:Int)≤1000
def MX (s:jM):Prop:=0≤s.i∧s.i≤s.n∧s.n=(s.l.length:Int)∧s.n≤1000∧((s.aA.length:Int)≤1000)∧s.cards=(s.l.take s.i.toNat).map (·.2.2.2)∧∀j:Nat,(j:Int)<s.i→JS s j=true
def O1 (s:jM):Nat:=(s.n-s.i).toNat
def akO (x:Ex) (_ s':jM):Prop:=(x=.exit 2∧∀j:Nat,(j:Int)<s'.n→JS s' j=true)∨(x=.ret∧s'.r=false∧∃j:Nat,(j:Int)<s'.n∧JS s' j=false)
theorem azw:∀s,alv s→MX s:=by
 intro s h
 obtain ⟨h0,h1,h2,h3,h4⟩:=h
 exact ⟨by omega,by omega,h2,h3,h4,by rw [h0,h1];rfl,fun j hj=>by omega⟩
theorem atG (s:jM) (hI:MX s):bJ (fun s'=>MX s'∧O1 s'<O1 s) (fun x s'=>akO x s s') (asD s):=by
 unfold asD Zt
 dsimp only [T.rd,T.rl]
 obtain ⟨h0,h1,h2,h3,h4,h5,h6⟩:=hI
 refine au (fun c1=>au (fun c2=>?_) (fun c2=>?_)) (fun c1=>?_)
 ·have c1:s.i<s.n:=by simpa using c1
  refine .inr ⟨rfl,rfl,s.i.toNat,by simp only;omega,?_⟩
  rw [Int.toNat_of_nonneg h0]
  have hg:JS s s.i=false:=by
   unfold JS
   (rw [aK (by omega) (by omega),h5] at c2;unfold koV;revert c2;generalize inB (ni s.l s.i).2.1 _ _=a;generalize inB (ni s.l s.i).2.2.1 _ _=b;generalize inB (ni s.l s.i).2.2.2 _ _=c;generalize List.contains (α:=Int) _ _=d;cases a<;>cases b<;>cases c<;>cases d<;>simp)
  exact hg
 ·have c1:s.i<s.n:=by simpa using c1
  have hg:JS s s.i=true:=by
   unfold JS
   (rw [aK (by omega) (by omega),h5] at c2;unfold koV;revert c2;generalize inB (ni s.l s.i).2.1 _ _=a;generalize inB (ni s.l s.i).2.2.1 _ _=b;generalize inB (ni s.l s.i).2.2.2 _ _=c;generalize List.contains (α:=Int) _ _=d;cases a<;>cases b<;>cases c<;>cases d<;>simp)
  rw [aK (x:=s.i+1) (by omega) (by omega)]
  refine ⟨⟨by simp only;omega,by simp only;omega,h2,h3,h4,?_,fun j hj=>?_⟩,by simp only [O1];omega⟩
  ·simp only
   rw [(I8 h0 (show s.i<s.l.length by omega)).2,h5]
   try rw [List.map_append]
   try rfl
  ·by_cases hji:(j:Int)<s.i
   ·exact h6 j hji
   ·have:(j:Int)=s.i:=by simp only at hj;omega
    rw [this];exact hg
 ·have c1:s.n≤s.i:=by simpa using c1
  exact .inl ⟨rfl,fun j hj=>h6 j (by omega)⟩
def EF:bM jM:=⟨0,95,[1,2,5,27,28,29],[],aDq,aCq,fun v b=>⟨vF (v.getD 1 .junk),aQ dV (v.getD 3 .junk),gI (v.getD 4 .junk),gI (v.getD 5 .junk),aQ dU (aY (aO b 0) 0),aQ .str (aY (aO b 0) 1),aQ dV (aY (aO b 0) 2),aQ dP (aY (aO b 0) 3),aQ dW (aY (aO b 0) 4),gSe (.int .i64) (aO b 1)⟩,Zt,fun s r=> {r with l:=s.l,n:=s.n,ah:=s.ah,aA:=s.aA,ai:=s.ai,aj:=s.aj,aI:=s.aI},fun s=>s,fun _ s=>s,[.ret,.exit 2],alv,MX,O1⟩
abbrev qP:=EF.run
abbrev abU:=EF.jJ
abbrev ayn:=EF.q
theorem au2 (s:jM) (hI:MX s):(Zt s).all (fun _=>True):=by
 refine ⟨fun c1=>⟨?_,fun _=>trivial,fun c2=>⟨?_,trivial⟩⟩,fun _=>trivial⟩
 all_goals ((obtain ⟨h0,h1,h2,h3,h4,h5,h6⟩:=hI;first|(simp at c1;omega) |(simp only [Bool.or_eq_false_iff] at c2;exact c2.2.2.2)))
theorem ahm:EF.Ok:=⟨fun s=>by kernel_rfl,fun s=>by kernel_rfl,fun s=>rfl,fun s t r=>rfl,fun s=>rfl,fun s=>by kernel_rfl⟩
theorem agi:EF.Pf (akO):=⟨azw,fun _ _=>rfl,atG,au2⟩
theorem amo:bg Tryz.prog aS (AN 0) (.loop AO) EF.lp:=bM.snd ahm agi (aP (Γ:=Me) (K:=dZ) (L:=aC) Ui aF AO (fun b hb=>by rw [show aB AO=[] by kernel_rfl] at hb;cases hb)) (fun s=>by kernel_rfl)
theorem alX (s:jM) (hE:alv s):∃s',MX s'∧akO (abU s) s' (qP s):=bM.fin ahm agi s hE
structure lH where
 r:Bool
 l:List Ch
 n:Int
 i:Int
 ah:List Cd
 aA:List ByteArray
 ai:List Ko
 aj:List Ch
 aI:List Ba
def aDp (s:lH):List LV:=[.own 0 0,.v (.bool s.r),.xl dP s.l,.v (.int .i64 s.n),.v (.int .i64 s.i)]
def aCp (s:lH):List aU:=[⟨[.xl dU s.ah,.xl .str s.aA,.xl dV s.ai,.xl dP s.aj,.xl dW s.aI],28,.cl,false⟩]
noncomputable def AL:Code:=((aB (Tryz.f100.body.getD .skip))[2]?).getD .skip
def Zr (s:lH):T (Rd lH):=
 .br (decide (s.i<s.n)) (.req (0≤s.i∧s.i<(List.length s.l:Int)) (.req ((List.length s.ah:Int)≤1000∧(List.length s.aA:Int)≤1000) (.br (!(Gt s.ah.length s.aA.length (bn s.l s.i))) (.ok (.stop (.ret) {s with r:=false})) (.ok (.next {s with i:=(IntKind.i64.wrap (s.i+1))}))))) (.ok (.stop (.exit 4) s))
abbrev asC (s:lH):=(Zr s).rd s
def JR (s:lH) (j:Int):Bool:=Gt s.ah.length s.aA.length (bn s.l j)
def alu (s:lH):Prop:=s.i=0∧0≤s.n∧s.n≤1000∧s.n=(s.l.length:Int)∧(s.ah.length:Int)≤1000∧(s.aA.length:Int)≤1000
def MW (s:lH):Prop:=0≤s.i∧s.i≤s.n∧s.n≤1000∧(s.n=(s.l.length:Int)∧(s.ah.length:Int)≤1000∧(s.aA.length:Int)≤1000)∧∀j:Nat,(j:Int)<s.i→JR s j=true
def O0 (s:lH):Nat:=(s.n-s.i).toNat
def akN (x:Ex) (_ s':lH):Prop:=(x=.exit 4∧∀j:Nat,(j:Int)<s'.n→JR s' j=true)∨(x=.ret∧s'.r=false∧∃j:Nat,(j:Int)<s'.n∧JR s' j=false)
theorem azv:∀s,alu s→MW s:=by
 intro s h
 obtain ⟨h0,h1,h2,h3⟩:=h
 exact ⟨by omega,by omega,h2,h3,fun j hj=>by omega⟩
theorem atF (s:lH) (hI:MW s):bJ (fun s'=>MW s'∧O0 s'<O0 s) (fun x s'=>akN x s s') (asC s):=by
 unfold asC Zr
 dsimp only [T.rd,T.rl]
 obtain ⟨h0,h1,h2,h3,h4⟩:=hI
 refine au (fun c1=>au (fun c2=>?_) (fun c2=>?_)) (fun c1=>?_)
 ·have c1:s.i<s.n:=by simpa using c1
  refine .inr ⟨rfl,rfl,s.i.toNat,by simp only;omega,?_⟩
  rw [Int.toNat_of_nonneg (by omega)]
  have hg:JR s s.i=false:=by unfold JR;(first|(have c2:(!(Gt s.ah.length s.aA.length (bn s.l s.i)))=false:=c2;simpa using c2) |(have c2:(!(Gt s.ah.length s.aA.length (bn s.l s.i)))=true:=c2;simpa using c2))
  exact hg
 ·have c1:s.i<s.n:=by simpa using c1
  have hg:JR s s.i=true:=by unfold JR;(first|(have c2:(!(Gt s.ah.length s.aA.length (bn s.l s.i)))=false:=c2;simpa using c2) |(have c2:(!(Gt s.ah.length s.aA.length (bn s.l s.i)))=true:=c2;simpa using c2))
  rw [aK (x:=s.i+1) (by omega) (by omega)]
  refine ⟨⟨by simp only;omega,by simp only;omega,h2,h3,fun j hj=>?_⟩,by simp only [O0];omega⟩
  by_cases hji:(j:Int)<s.i
  ·exact h4 j hji
  ·have:(j:Int)=s.i:=by simp only at hj;omega
   rw [this];exact hg
 ·have c1:s.n≤s.i:=by simpa using c1
  exact .inl ⟨rfl,fun j hj=>h4 j (by omega)⟩
def ED:bM lH:=⟨0,95,[1,2,67,68,69],[],aDp,aCp,fun v b=>⟨vF (v.getD 1 .junk),aQ dP (v.getD 2 .junk),gI (v.getD 3 .junk),gI (v.getD 4 .junk),aQ dU (aY (aO b 0) 0),aQ .str (aY (aO b 0) 1),aQ dV (aY (aO b 0) 2),aQ dP (aY (aO b 0) 3),aQ dW (aY (aO b 0) 4)⟩,Zr,fun s r=> {r with l:=s.l,n:=s.n,ah:=s.ah,aA:=s.aA,ai:=s.ai,aj:=s.aj,aI:=s.aI},fun s=>s,fun _ s=>s,[.ret,.exit 4],alu,MW,O0⟩
abbrev zC:=ED.run
abbrev abT:=ED.jJ
abbrev aym:=ED.q
theorem au1 (s:lH) (hI:MW s):(Zr s).all (fun _=>True):=by
 refine ⟨fun c1=>⟨?_,?_,fun _=>trivial,fun _=>trivial⟩,fun _=>trivial⟩
 all_goals ((obtain ⟨h0,h1,h2,h3,h4⟩:=hI;simp at c1;first|omega|exact h3.2))
theorem ahl:ED.Ok:=⟨fun s=>by kernel_rfl,fun s=>by kernel_rfl,fun s=>rfl,fun s t r=>rfl,fun s=>rfl,fun s=>by kernel_rfl⟩
theorem agh:ED.Pf (akN):=⟨azv,fun _ _=>rfl,atF,au1⟩
theorem amm:bg Tryz.prog aS (AN 0) (.loop AL) ED.lp:=bM.snd ahl agh (aP (Γ:=Me) (K:=dZ) (L:=aC) Ui aF AL (fun b hb=>by rw [show aB AL=[] by kernel_rfl] at hb;cases hb)) (fun s=>by kernel_rfl)
theorem alW (s:lH) (hE:alu s):∃s',MW s'∧akN (abT s) s' (zC s):=bM.fin ahl agh s hE
structure oP where
 r:Bool
 l:List Ba
 n:Int
 i:Int
 ah:List Cd
 aA:List ByteArray
 ai:List Ko
 aj:List Ch
 aI:List Ba
def aDo (s:oP):List LV:=[.own 0 0,.v (.bool s.r),.xl dW s.l,.v (.int .i64 s.n),.v (.int .i64 s.i)]
def aCo (s:oP):List aU:=[⟨[.xl dU s.ah,.xl .str s.aA,.xl dV s.ai,.xl dP s.aj,.xl dW s.aI],28,.cl,false⟩]
noncomputable def AB:Code:=((aB (Tryz.f100.body.getD .skip))[3]?).getD .skip
def Zq (s:oP):T (Rd oP):=
 .br (decide (s.i<s.n)) (.req (0≤s.i∧s.i<(List.length s.l:Int)) (.br (!(inB (CX s.l s.i).2 (0:Int) (IntKind.i64.wrap ((List.length s.aj:Int)-1)))) (.ok (.stop (.ret) {s with r:=false})) (.ok (.next {s with i:=(IntKind.i64.wrap (s.i+1))})))) (.ok (.stop (.exit 6) s))
abbrev asB (s:oP):=(Zq s).rd s
def JQ (s:oP) (j:Int):Bool:=inB (CX s.l j).2 0 (IntKind.i64.wrap ((List.length s.aj:Int)-1))
def als (s:oP):Prop:=s.i=0∧0≤s.n∧s.n≤1000∧s.n=(s.l.length:Int)
def MV (s:oP):Prop:=0≤s.i∧s.i≤s.n∧s.n≤1000∧(s.n=(s.l.length:Int))∧∀j:Nat,(j:Int)<s.i→JQ s j=true
def OZ (s:oP):Nat:=(s.n-s.i).toNat
def akM (x:Ex) (_ s':oP):Prop:=(x=.exit 6∧∀j:Nat,(j:Int)<s'.n→JQ s' j=true)∨(x=.ret∧s'.r=false∧∃j:Nat,(j:Int)<s'.n∧JQ s' j=false)
theorem azu:∀s,als s→MV s:=by
 intro s h
 obtain ⟨h0,h1,h2,h3⟩:=h
 exact ⟨by omega,by omega,h2,h3,fun j hj=>by omega⟩
theorem atE (s:oP) (hI:MV s):bJ (fun s'=>MV s'∧OZ s'<OZ s) (fun x s'=>akM x s s') (asB s):=by
 unfold asB Zq
 dsimp only [T.rd,T.rl]
 obtain ⟨h0,h1,h2,h3,h4⟩:=hI
 refine au (fun c1=>au (fun c2=>?_) (fun c2=>?_)) (fun c1=>?_)
 ·have c1:s.i<s.n:=by simpa using c1
  refine .inr ⟨rfl,rfl,s.i.toNat,by simp only;omega,?_⟩
  rw [Int.toNat_of_nonneg (by omega)]
  have hg:JQ s s.i=false:=by unfold JQ;(first|(have c2:(!(inB (CX s.l s.i).2 0 (IntKind.i64.wrap ((List.length s.aj:Int)-1))))=false:=c2;simpa using c2) |(have c2:(!(inB (CX s.l s.i).2 0 (IntKind.i64.wrap ((List.length s.aj:Int)-1))))=true:=c2;simpa using c2))
  exact hg
 ·have c1:s.i<s.n:=by simpa using c1
  have hg:JQ s s.i=true:=by unfold JQ;(first|(have c2:(!(inB (CX s.l s.i).2 0 (IntKind.i64.wrap ((List.length s.aj:Int)-1))))=false:=c2;simpa using c2) |(have c2:(!(inB (CX s.l s.i).2 0 (IntKind.i64.wrap ((List.length s.aj:Int)-1))))=true:=c2;simpa using c2))
  rw [aK (x:=s.i+1) (by omega) (by omega)]
  refine ⟨⟨by simp only;omega,by simp only;omega,h2,h3,fun j hj=>?_⟩,by simp only [OZ];omega⟩
  by_cases hji:(j:Int)<s.i
  ·exact h4 j hji
  ·have:(j:Int)=s.i:=by simp only at hj;omega
   rw [this];exact hg
 ·have c1:s.n≤s.i:=by simpa using c1
  exact .inl ⟨rfl,fun j hj=>h4 j (by omega)⟩
def EC:bM oP:=⟨0,95,[1,2,79,80,81],[],aDo,aCo,fun v b=>⟨vF (v.getD 1 .junk),aQ dW (v.getD 2 .junk),gI (v.getD 3 .junk),gI (v.getD 4 .junk),aQ dU (aY (aO b 0) 0),aQ .str (aY (aO b 0) 1),aQ dV (aY (aO b 0) 2),aQ dP (aY (aO b 0) 3),aQ dW (aY (aO b 0) 4)⟩,Zq,fun s r=> {r with l:=s.l,n:=s.n,ah:=s.ah,aA:=s.aA,ai:=s.ai,aj:=s.aj,aI:=s.aI},fun s=>s,fun _ s=>s,[.ret,.exit 6],als,MV,OZ⟩
abbrev aal:=EC.run
abbrev abS:=EC.jJ
abbrev ayl:=EC.q
theorem au0 (s:oP) (hI:MV s):(Zq s).all (fun _=>True):=by
 refine ⟨fun c1=>⟨?_,fun _=>trivial,fun _=>trivial⟩,fun _=>trivial⟩
 ·(obtain ⟨h0,h1,h2,h3,h4⟩:=hI;simp at c1;omega)
theorem ahk:EC.Ok:=⟨fun s=>by kernel_rfl,fun s=>by kernel_rfl,fun s=>rfl,fun s t r=>rfl,fun s=>rfl,fun s=>by kernel_rfl⟩
theorem agf:EC.Pf (akM):=⟨azu,fun _ _=>rfl,atE,au0⟩
theorem aml:bg Tryz.prog aS (AN 0) (.loop AB) EC.lp:=bM.snd ahk agf (aP (Γ:=Me) (K:=dZ) (L:=aC) Ui aF AB (fun b hb=>by rw [show aB AB=[] by kernel_rfl] at hb;cases hb)) (fun s=>by kernel_rfl)
theorem alV (s:oP) (hE:als s):∃s',MV s'∧akM (abS s) s' (aal s):=bM.fin ahk agf s hE
def acI:List LV→T LV
 | [.agg [.xl (.pair .str (.pair (.int .i64) (.pair (.int .i64) (.pair (.int .i64) (.pair (.pair (.int .i64) (.int .i64)) (.pair (.int .i64) (.pair (.int .i64) (.pair (.int .i64) (.pair (.int .i64) (.int .i64)))))))))) cs,.xl (.str) os,.xl (.pair .str (.pair (.int .i64) (.pair (.int .i64) (.int .i64)))) ks,.xl (.pair .str (.pair (.int .i64) (.pair (.int .i64) (.pair (.int .i64) (.pair (.int .i64) (.pair (.int .i64) (.pair (.int .i64) (.int .i64)))))))) gs,.xl (.pair .str (.int .i64)) bs]]=> .req ((List.length cs:Int)≤1000∧(List.length os:Int)≤1000∧(List.length ks:Int)≤1000∧(List.length gs:Int)≤1000∧(List.length bs:Int)≤1000) (.ok (.v (.bool (VX cs os ks gs bs))))
 |_=> .no
noncomputable def Yq:List LV→T LV:=gQ Tryz.prog Tryz.f100.params.toList acI
theorem aop (cs:List Cd) (os:List ByteArray) (ks:List Ko) (gs:List Ch) (bs:List Ba):bV Tryz.prog aS (Me) dZ (fun i=>if i=2 then EG.lp else if i=9 then EF.lp else if i=16 then ED.lp else if i=22 then EC.lp else aC i) Tryz.f100 [.agg [.xl dU cs,.xl .str os,.xl dV ks,.xl dP gs,.xl dW bs]]=.req (ayo (⟨false,cs,(List.length cs:Int),(0:Int),cs,os,ks,gs,bs⟩:iT)) (.br (iG (abV (⟨false,cs,(List.length cs:Int),(0:Int),cs,os,ks,gs,bs⟩:iT)) (.ret)) (.ok (.v (.bool (l7 (⟨false,cs,(List.length cs:Int),(0:Int),cs,os,ks,gs,bs⟩:iT)).r))) (.req (ayn (⟨(l7 (⟨false,cs,(List.length cs:Int),(0:Int),cs,os,ks,gs,bs⟩:iT)).r,ks,(List.length ks:Int),(0:Int),cs,os,ks,gs,bs,([]:List Int)⟩:jM)) (.br (iG (abU (⟨(l7 (⟨false,cs,(List.length cs:Int),(0:Int),cs,os,ks,gs,bs⟩:iT)).r,ks,(List.length ks:Int),(0:Int),cs,os,ks,gs,bs,([]:List Int)⟩:jM)) (.ret)) (.ok (.v (.bool (qP (⟨(l7 (⟨false,cs,(List.length cs:Int),(0:Int),cs,os,ks,gs,bs⟩:iT)).r,ks,(List.length ks:Int),(0:Int),cs,os,ks,gs,bs,([]:List Int)⟩:jM)).r))) (.req (aym (⟨(qP (⟨(l7 (⟨false,cs,(List.length cs:Int),(0:Int),cs,os,ks,gs,bs⟩:iT)).r,ks,(List.length ks:Int),(0:Int),cs,os,ks,gs,bs,([]:List Int)⟩:jM)).r,gs,(List.length gs:Int),(0:Int),cs,os,ks,gs,bs⟩:lH)) (.br (iG (abT (⟨(qP (⟨(l7 (⟨false,cs,(List.length cs:Int),(0:Int),cs,os,ks,gs,bs⟩:iT)).r,ks,(List.length ks:Int),(0:Int),cs,os,ks,gs,bs,([]:List Int)⟩:jM)).r,gs,(List.length gs:Int),(0:Int),cs,os,ks,gs,bs⟩:lH)) (.ret)) (.ok (.v (.bool (zC (⟨(qP (⟨(l7 (⟨false,cs,(List.length cs:Int),(0:Int),cs,os,ks,gs,bs⟩:iT)).r,ks,(List.length ks:Int),(0:Int),cs,os,ks,gs,bs,([]:List Int)⟩:jM)).r,gs,(List.length gs:Int),(0:Int),cs,os,ks,gs,bs⟩:lH)).r))) (.req (ayl (⟨(zC (⟨(qP (⟨(l7 (⟨false,cs,(List.length cs:Int),(0:Int),cs,os,ks,gs,bs⟩:iT)).r,ks,(List.length ks:Int),(0:Int),cs,os,ks,gs,bs,([]:List Int)⟩:jM)).r,gs,(List.length gs:Int),(0:Int),cs,os,ks,gs,bs⟩:lH)).r,bs,(List.length bs:Int),(0:Int),cs,os,ks,gs,bs⟩:oP)) (.br (iG (abS (⟨(zC (⟨(qP (⟨(l7 (⟨false,cs,(List.length cs:Int),(0:Int),cs,os,ks,gs,bs⟩:iT)).r,ks,(List.length ks:Int),(0:Int),cs,os,ks,gs,bs,([]:List Int)⟩:jM)).r,gs,(List.length gs:Int),(0:Int),cs,os,ks,gs,bs⟩:lH)).r,bs,(List.length bs:Int),(0:Int),cs,os,ks,gs,bs⟩:oP)) (.ret)) (.ok (.v (.bool (aal (⟨(zC (⟨(qP (⟨(l7 (⟨false,cs,(List.length cs:Int),(0:Int),cs,os,ks,gs,bs⟩:iT)).r,ks,(List.length ks:Int),(0:Int),cs,os,ks,gs,bs,([]:List Int)⟩:jM)).r,gs,(List.length gs:Int),(0:Int),cs,os,ks,gs,bs⟩:lH)).r,bs,(List.length bs:Int),(0:Int),cs,os,ks,gs,bs⟩:oP)).r))) (.ok (.v (.bool true)))))))))):=by kernel_rfl
theorem atL:Valid Tryz.prog aS 100 Yq:=aH Tryz.func100 rfl Ui aF (L:=(fun i=>if i=2 then EG.lp else if i=9 then EF.lp else if i=16 then ED.lp else if i=22 then EC.lp else aC i)) (fun b hb=>by
 rw [show aB _=[AP,AO,AL,AB] by kernel_rfl] at hb
 simp only [List.mem_cons,List.not_mem_nil,or_false] at hb
 rcases hb with rfl|rfl|rfl|rfl
 ·exact amq
 ·exact amo
 ·exact amm
 ·exact aml) (fun args lv h=>by
 unfold acI at h
 split at h
 ·simp only [canL,canX]
  rw [aop]
  rename_i cs os ks gs bs
  obtain ⟨⟨hc,ho,hk,hg,hb⟩,rfl⟩:=h
  refine nV ⟨⟨rfl,by simp only;omega,hc,rfl⟩,rfl,rfl⟩ (fun hE0=>?_)
  obtain ⟨s',_,hq⟩:=alY _ hE0.1
  rcases hq with ⟨q1,q2⟩ |⟨q1,q2,j,q3,q4⟩
  rotate_left
  ·rw [q1,q2]
   refine ⟨fun _=>congrArg (fun z=>LV.v (.bool z)) ?_,fun h=>by cases h⟩
   unfold VX
   rw [uh (f:=fun j=>Ew j (fP cs j)) j q3 q4]
   rfl
  rw [q1]
  refine ⟨fun h=>(by cases h),fun _=>?_⟩
  have g0:KE cs.length (fun j=>Ew j (fP cs j))=true:=fE.2 q2
  refine nV ⟨⟨rfl,rfl,rfl,hk,ho⟩,rfl,rfl⟩ (fun hE1=>?_)
  obtain ⟨s',_,hq⟩:=alX _ hE1.1
  rcases hq with ⟨q1,q2⟩ |⟨q1,q2,j,q3,q4⟩
  rotate_left
  ·rw [q1,q2]
   refine ⟨fun _=>congrArg (fun z=>LV.v (.bool z)) ?_,fun h=>by cases h⟩
   unfold VX
   have hn:(ks.all (koV os.length)&&once (ks.map (·.2.2.2)))=false:=by
    rw [Bool.eq_false_iff];intro hx
    have:=(kJ (d:=(emp,0,0,0))).2 hx j q3
    exact Bool.noConfusion (this.symm.trans q4)
   rw [g0,Bool.true_and,←Bool.and_assoc,hn]
   rfl
  rw [q1]
  refine ⟨fun h=>(by cases h),fun _=>?_⟩
  have g1:(ks.all (koV os.length)&&once (ks.map (·.2.2.2)))=true:=(kJ (d:=(emp,0,0,0))).1 q2
  refine nV ⟨⟨rfl,by simp only;omega,hg,rfl,hc,ho⟩,rfl,rfl⟩ (fun hE2=>?_)
  obtain ⟨s',_,hq⟩:=alW _ hE2.1
  rcases hq with ⟨q1,q2⟩ |⟨q1,q2,j,q3,q4⟩
  rotate_left
  ·rw [q1,q2]
   refine ⟨fun _=>congrArg (fun z=>LV.v (.bool z)) ?_,fun h=>by cases h⟩
   unfold VX
   have hn:gs.all (Gt cs.length os.length)=false:=by
    rw [Bool.eq_false_iff];intro hx
    have:=(jF (d:=(emp,0,0,0,0,0,0,0))).2 hx j q3
    exact Bool.noConfusion (this.symm.trans q4)
   rw [g0,Bool.true_and,←Bool.and_assoc,g1,hn]
   rfl
  rw [q1]
  refine ⟨fun h=>(by cases h),fun _=>?_⟩
  have g2:gs.all (Gt cs.length os.length)=true:=(jF (d:=(emp,0,0,0,0,0,0,0))).1 q2
  have hw:=aK (x:=(List.length gs:Int)-1) (by omega) (by omega)
  refine nV ⟨⟨rfl,by simp only;omega,hb,rfl⟩,rfl,rfl⟩ (fun hE3=>?_)
  obtain ⟨s',_,hq⟩:=alV _ hE3.1
  rcases hq with ⟨q1,q2⟩ |⟨q1,q2,j,q3,q4⟩
  rotate_left
  ·rw [q1,q2]
   refine ⟨fun _=>congrArg (fun z=>LV.v (.bool z)) ?_,fun h=>by cases h⟩
   unfold VX
   have hn:bs.all (fun b=>inB b.2 0 ((gs.length:Int)-1))=false:=by
    rw [Bool.eq_false_iff];intro hx
    have:=(jF (d:=(emp,0))).2 hx j q3
    have q4:inB (CX bs j).2 0 (IntKind.i64.wrap ((List.length gs:Int)-1))=false:=q4
    rw [hw] at q4
    exact Bool.noConfusion (this.symm.trans q4)
   rw [g0,Bool.true_and,←Bool.and_assoc,g1,g2,hn]
   rfl
  rw [q1]
  refine ⟨fun h=>(by cases h),fun _=>?_⟩
  have g3:bs.all (fun b=>inB b.2 0 ((gs.length:Int)-1))=true:=(jF (d:=(emp,0))).1 (fun j hj=>by
   have:inB (CX bs j).2 0 (IntKind.i64.wrap ((List.length gs:Int)-1))=true:=q2 j hj
   rw [hw] at this
   exact this)
  refine congrArg (fun z=>LV.v (.bool z)) ?_
  unfold VX
  rw [g0,Bool.true_and,←Bool.and_assoc,g1,g2,g3]
  rfl
 ·cases h)
end Go.Proofs.YtlihnbimgclogaaGreatDoor
namespace Go.Proofs.YtlihnbimgclogaaGreatDoor
open Go.Sx
structure wO where
 r:Bool
 l:List ByteArray
 n:Int
 i:Int
 ah:List Cd
 aA:List ByteArray
 ai:List Ko
 aj:List Ch
 aI:List Ba
 seen:List ByteArray
def aE8 (s:wO):List LV:=[.own 0 0,.v (.bool s.r),.om 1,.xl .str s.l,.v (.int .i64 s.n),.v (.int .i64 s.i)]
def aE0 (s:wO):List aU:=[⟨[.xl dU s.ah,.xl .str s.aA,.xl dV s.ai,.xl dP s.aj,.xl dW s.aI],28,.cl,false⟩,⟨[],149,.st .str s.seen,false⟩]
noncomputable def Gv:Code:=((aB (Tryz.f53.body.getD .skip))[0]?).getD .skip
def al9 (s:wO):T (Rd wO):=
 .br (decide (s.i<s.n)) (.req (0≤s.i∧s.i<(List.length s.l:Int)) (.br ((!(nameB (gS s.l s.i))) ||(List.contains s.seen (gS s.l s.i))) (.ok (.stop (.ret) {s with r:=false})) (.req (List.contains s.seen (gS s.l s.i)=false) (.ok (.next {s with i:=(IntKind.i64.wrap (s.i+1)),seen:=(s.seen++[(gS s.l s.i)])}))))) (.ok (.stop (.exit 0) s))
abbrev aBL (s:wO):=(al9 s).rd s
def Za (s:wO) (j:Int):Bool:=nameB (gS s.l j)&&!(((s.l.take j.toNat).map id).contains (gS s.l j))
def ayp (s:wO):Prop:=s.i=0∧s.seen=[]∧s.n=(s.l.length:Int)∧s.n≤1000∧True
def ae4 (s:wO):Prop:=0≤s.i∧s.i≤s.n∧s.n=(s.l.length:Int)∧s.n≤1000∧(True)∧s.seen=(s.l.take s.i.toNat).map id∧∀j:Nat,(j:Int)<s.i→Za s j=true
def aaK (s:wO):Nat:=(s.n-s.i).toNat
def aye (x:Ex) (_ s':wO):Prop:=(x=.exit 0∧∀j:Nat,(j:Int)<s'.n→Za s' j=true)∨(x=.ret∧s'.r=false∧∃j:Nat,(j:Int)<s'.n∧Za s' j=false)
theorem aEz:∀s,ayp s→ae4 s:=by
 intro s h
 obtain ⟨h0,h1,h2,h3,h4⟩:=h
 exact ⟨by omega,by omega,h2,h3,h4,by rw [h0,h1];rfl,fun j hj=>by omega⟩
theorem azP (s:wO) (hI:ae4 s):bJ (fun s'=>ae4 s'∧aaK s'<aaK s) (fun x s'=>aye x s s') (aBL s):=by
 unfold aBL al9
 dsimp only [T.rd,T.rl]
 obtain ⟨h0,h1,h2,h3,h4,h5,h6⟩:=hI
 refine au (fun c1=>au (fun c2=>?_) (fun c2=>?_)) (fun c1=>?_)
 ·have c1:s.i<s.n:=by simpa using c1
  refine .inr ⟨rfl,rfl,s.i.toNat,by simp only;omega,?_⟩
  rw [Int.toNat_of_nonneg h0]
  have hg:Za s s.i=false:=by
   unfold Za
   (rw [h5] at c2;revert c2;generalize nameB _=a;generalize List.contains (α:=ByteArray) _ _=d;cases a<;>cases d<;>simp)
  exact hg
 ·have c1:s.i<s.n:=by simpa using c1
  have hg:Za s s.i=true:=by
   unfold Za
   (rw [h5] at c2;revert c2;generalize nameB _=a;generalize List.contains (α:=ByteArray) _ _=d;cases a<;>cases d<;>simp)
  rw [aK (x:=s.i+1) (by omega) (by omega)]
  refine ⟨⟨by simp only;omega,by simp only;omega,h2,h3,h4,?_,fun j hj=>?_⟩,by simp only [aaK];omega⟩
  ·simp only
   rw [(uD h0 (show s.i<s.l.length by omega)).2,h5]
   try rw [List.map_append]
   try rfl
  ·by_cases hji:(j:Int)<s.i
   ·exact h6 j hji
   ·have:(j:Int)=s.i:=by simp only at hj;omega
    rw [this];exact hg
 ·have c1:s.n≤s.i:=by simpa using c1
  exact .inl ⟨rfl,fun j hj=>h6 j (by omega)⟩
def VR:bM wO:=⟨0,61,[1,2,3,42,43,44],[],aE8,aE0,fun v b=>⟨vF (v.getD 1 .junk),aQ .str (v.getD 3 .junk),gI (v.getD 4 .junk),gI (v.getD 5 .junk),aQ dU (aY (aO b 0) 0),aQ .str (aY (aO b 0) 1),aQ dV (aY (aO b 0) 2),aQ dP (aY (aO b 0) 3),aQ dW (aY (aO b 0) 4),gSe .str (aO b 1)⟩,al9,fun s r=> {r with l:=s.l,n:=s.n,ah:=s.ah,aA:=s.aA,ai:=s.ai,aj:=s.aj,aI:=s.aI},fun s=>s,fun _ s=>s,[.ret,.exit 0],ayp,ae4,aaK⟩
abbrev afU:=VR.run
abbrev ajO:=VR.jJ
abbrev aCi:=VR.q
theorem az9 (s:wO) (hI:ae4 s):(al9 s).all (fun _=>True):=by
 refine ⟨fun c1=>⟨?_,fun _=>trivial,fun c2=>⟨?_,trivial⟩⟩,fun _=>trivial⟩
 all_goals ((obtain ⟨h0,h1,h2,h3,h4,h5,h6⟩:=hI;first|(simp at c1;omega) |(simp only [Bool.or_eq_false_iff] at c2;exact c2.2)))
noncomputable def ajD:Specs:=aZ [(98,YI),(99,YS),(100,Yq)]
theorem ash:∀g S,ajD g=some S→Valid Tryz.prog aS g S:=aT (l:=[(98,YI),(99,YS),(100,Yq)]) ⟨aua,auk,atL,trivial⟩
theorem arl:VR.Ok:=⟨fun s=>by kernel_rfl,fun s=>by kernel_rfl,fun s=>rfl,fun s t r=>rfl,fun s=>rfl,fun s=>by kernel_rfl⟩
theorem ara:VR.Pf (aye):=⟨aEz,fun _ _=>rfl,azP,az9⟩
theorem auJ:bg Tryz.prog aS (AN 0) (.loop Gv) VR.lp:=bM.snd arl ara (aP (Γ:=ajD) (K:=dZ) (L:=aC) ash aF Gv (fun b hb=>by rw [show aB Gv=[] by kernel_rfl] at hb;cases hb)) (fun s=>by kernel_rfl)
theorem auD (s:wO) (hE:ayp s):∃s',ae4 s'∧aye (ajO s) s' (afU s):=bM.fin arl ara s hE
def acL:List LV→T LV
 | [.agg [.xl (.pair .str (.pair (.int .i64) (.pair (.int .i64) (.pair (.int .i64) (.pair (.pair (.int .i64) (.int .i64)) (.pair (.int .i64) (.pair (.int .i64) (.pair (.int .i64) (.pair (.int .i64) (.int .i64)))))))))) cs,.xl (.str) os,.xl (.pair .str (.pair (.int .i64) (.pair (.int .i64) (.int .i64)))) ks,.xl (.pair .str (.pair (.int .i64) (.pair (.int .i64) (.pair (.int .i64) (.pair (.int .i64) (.pair (.int .i64) (.pair (.int .i64) (.int .i64)))))))) gs,.xl (.pair .str (.int .i64)) bs]]=> .ok (.v (.bool (fO cs os ks gs bs)))
 |_=> .no
noncomputable def JA:List LV→T LV:=gQ Tryz.prog Tryz.f53.params.toList acL
theorem aos (cs:List Cd) (os:List ByteArray) (ks:List Ko) (gs:List Ch) (bs:List Ba):bV Tryz.prog aS (ajD) dZ (fun i=>if i=5 then VR.lp else aC i) Tryz.f53 [.agg [.xl dU cs,.xl .str os,.xl dV ks,.xl dP gs,.xl dW bs]]=.br ((decide ((List.length cs:Int)<1)) ||((decide ((List.length cs:Int)>16)) ||((decide ((List.length os:Int)>8)) ||((decide ((List.length ks:Int)>32)) ||((decide ((List.length gs:Int)>16)) ||(decide ((List.length bs:Int)>24))))))) (.ok (.v (.bool false))) (.req ((List.length cs:Int)≤1000∧(List.length os:Int)≤1000∧(List.length ks:Int)≤1000∧(List.length gs:Int)≤1000∧(List.length bs:Int)≤1000) (.req (aCi (⟨false,(gB cs os ks gs bs),(List.length (gB cs os ks gs bs):Int),(0:Int),cs,os,ks,gs,bs,([]:List ByteArray)⟩:wO)) (.br (iG (ajO (⟨false,(gB cs os ks gs bs),(List.length (gB cs os ks gs bs):Int),(0:Int),cs,os,ks,gs,bs,([]:List ByteArray)⟩:wO)) (.ret)) (.ok (.v (.bool (afU (⟨false,(gB cs os ks gs bs),(List.length (gB cs os ks gs bs):Int),(0:Int),cs,os,ks,gs,bs,([]:List ByteArray)⟩:wO)).r))) (.req ((List.length cs:Int)≤1000∧(List.length os:Int)≤1000∧(List.length ks:Int)≤1000∧(List.length gs:Int)≤1000∧(List.length bs:Int)≤1000) (.ok (.v (.bool (VX cs os ks gs bs)))))))):=by kernel_rfl
theorem afn:Valid Tryz.prog aS 53 JA:=aH Tryz.func53 rfl ash aF (L:=(fun i=>if i=5 then VR.lp else aC i)) (fun b hb=>by
 rw [show aB _=[Gv] by kernel_rfl] at hb
 simp only [List.mem_cons,List.not_mem_nil,or_false] at hb
 subst hb
 exact auJ) (fun args lv h=>by
 unfold acL at h
 split at h
 ·simp only [canL,canX]
  rw [aos]
  rename_i cs os ks gs bs
  obtain rfl:=h
  refine ⟨fun c=>congrArg (fun z=>LV.v (.bool z)) ?_,fun c=>?_⟩
  ·rw [eq_comm,Bool.eq_false_iff]
   intro hx
   unfold fO at hx
   rw [Bool.and_eq_true,decide_eq_true_eq] at hx
   simp only [Bool.or_eq_true,decide_eq_true_eq] at c
   omega
  have hd:1≤cs.length∧cs.length≤16∧os.length≤8∧ks.length≤32∧gs.length≤16∧bs.length≤24:=by
   simp only [Bool.or_eq_false_iff,decide_eq_false_iff_not] at c
   omega
  have hs:fO cs os ks gs bs=(((gB cs os ks gs bs).all nameB&&once (gB cs os ks gs bs))&&VX cs os ks gs bs):=by
   unfold fO
   rw [decide_eq_true hd,Bool.true_and,Bool.and_assoc]
  have hl:((gB cs os ks gs bs).length:Int)≤1000:=by
   unfold gB
   simp only [List.length_append,List.length_map]
   omega
  rw [hs]
  have hr:(List.length cs:Int)≤1000∧(List.length os:Int)≤1000∧(List.length ks:Int)≤1000∧(List.length gs:Int)≤1000∧(List.length bs:Int)≤1000:=by omega
  refine ⟨hr,?_⟩
  generalize gB cs os ks gs bs=l at*
  refine nV ⟨⟨rfl,rfl,rfl,hl,trivial⟩,rfl,rfl⟩ (fun hE=>?_)
  obtain ⟨s',_,hq⟩:=auD _ hE.1
  rcases hq with ⟨q1,q2⟩ |⟨q1,q2,j,q3,q4⟩
  ·rw [q1]
   have hk:=(kJ (d:=emp) (p:=nameB) (k:=id)).1 q2
   rw [List.map_id] at hk
   refine ⟨fun h=>(by cases h),fun _=>⟨hr,?_⟩⟩
   rw [hk,Bool.true_and]
   rfl
  ·rw [q1,q2]
   refine ⟨fun _=>congrArg (fun z=>LV.v (.bool z)) ?_,fun h=>by cases h⟩
   have hn:(l.all nameB&&once l)=false:=by
    rw [Bool.eq_false_iff];intro hx
    have:=(kJ (d:=emp) (p:=nameB) (k:=id)).2 (by rw [List.map_id];exact hx) j q3
    exact Bool.noConfusion (this.symm.trans q4)
   rw [hn]
   rfl
 ·cases h)
end Go.Proofs.YtlihnbimgclogaaGreatDoor
namespace Go.Proofs.YtlihnbimgclogaaGreatDoor
open Go.Sx
def ac3:List LV→T LV
 | [.agg [.xl (.pair .str (.pair (.int .i64) (.pair (.int .i64) (.pair (.int .i64) (.pair (.pair (.int .i64) (.int .i64)) (.pair (.int .i64) (.pair (.int .i64) (.pair (.int .i64) (.pair (.int .i64) (.int .i64)))))))))) cs,.xl (.str) os,.xl (.pair .str (.pair (.int .i64) (.pair (.int .i64) (.int .i64)))) ks,.xl (.pair .str (.pair (.int .i64) (.pair (.int .i64) (.pair (.int .i64) (.pair (.int .i64) (.pair (.int .i64) (.pair (.int .i64) (.int .i64)))))))) gs,.xl (.pair .str (.int .i64)) bs],.v (.int .i64 c)]=> .ok (.fn 129 [.xq 1 (fun j=>([.v (.int .i64 c)]:List LV).getD j .junk),.xq 5 (fun j=>([.xl dU cs,.xl .str os,.xl dV ks,.xl dP gs,.xl dW bs]:List LV).getD j .junk)])
 |_=> .no
noncomputable def YG:List LV→T LV:=gQ Tryz.prog Tryz.f104.params.toList ac3
noncomputable def Aj:Specs:=aZ []
theorem Eh:∀g S,Aj g=some S→Valid Tryz.prog aS g S:=aT (l:=[]) trivial
noncomputable def aa8:Hand:=inl Tryz.prog aS Aj (lX Tryz.prog aS (Aj) 20 2) 9
theorem ai0:dF Tryz.prog aS aa8:=bQ Eh (dQ Eh) 9
theorem aoK (cs:List Cd) (os:List ByteArray) (ks:List Ko) (gs:List Ch) (bs:List Ba) (c:Int):bV Tryz.prog aS (Aj) aa8 aC Tryz.f104 [.agg [.xl dU cs,.xl .str os,.xl dV ks,.xl dP gs,.xl dW bs],.v (.int .i64 c)]=.ok (.fn 129 [.xq 1 (fun j=>([.v (.int .i64 c)]:List LV).getD j .junk),.xq 5 (fun j=>([.xl dU cs,.xl .str os,.xl dV ks,.xl dP gs,.xl dW bs]:List LV).getD j .junk)]):=by kernel_rfl
theorem at6:Valid Tryz.prog aS 104 YG:=aH Tryz.func104 rfl Eh ai0 (aX (by kernel_rfl)) (fun args lv h=>by
 unfold ac3 at h
 split at h
 ·simp only [canL,canX]
  rw [aoK]
  exact h
 ·cases h)
noncomputable def af4:Array Tmp×Code×Code:=((jI (Tryz.f103.body.getD .skip))[0]?).getD (#[],.skip,.skip)
noncomputable def aAj:Array Tmp:=af4.1
noncomputable def aAD:Code:=af4.2.1
noncomputable def aAy:Code:=af4.2.2
structure pK where
 cs:List Cd
 os:List ByteArray
 ks:List Ko
 gs:List Ch
 bs:List Ba
 c:Int
 b0:Int
 b1:Bool
 st:LS
def aDO (s:pK):List LV:=[.uP 2,.xq 5 (fun j=>([.xl dU s.cs,.xl .str s.os,.xl dV s.ks,.xl dP s.gs,.xl dW s.bs]:List LV).getD j .junk),.v (.int .i64 s.c)]
noncomputable def aCO (s:pK):List aU:=[⟨[.v (.int .i64 s.b0)],3,.cl,false⟩,⟨[.v (.bool s.b1)],4,.cl,false⟩,⟨[.junk,.junk,.junk,.own 0 0,.own 1 0,.v (.tuple #[]),.junk,.v (.tuple #[]),.v (.tuple #[]),.v (.tuple #[]),.v (.tuple #[])],0,.kG aAj aAD aAy s.st,false⟩]
noncomputable def UL:Code:=((aB (Tryz.f129.body.getD .skip))[0]?).getD .skip
def KZ (s:pK):T (Rd pK):=
 .br (decide (s.c≥0)) (.br (s.c==s.b0) (.ok (.stop (.ret) {s with b1:=true,st:=(.done (.ret))})) (.req (0≤s.c∧s.c<(List.length s.cs:Int)) (.ok (.next {s with c:=(fP s.cs s.c).2.1})))) (.ok (.stop (.exit 0) s))
abbrev MC (s:pK):=(KZ s).rd s
def alM (s:pK):Prop:=s.st=.ready∧upB s.cs=true∧s.c<(s.cs.length:Int)∧s.b1=false
def Vx (s:pK):Prop:=s.st=.ready∧upB s.cs=true∧s.c<(s.cs.length:Int)
def PD (s:pK):Nat:=(s.c+1).toNat
def atq (x:Ex) (s s':pK):Prop:=(x=.ret∧s'.b1=true∧VZ s.cs s.b0 s.c=true)∨(x=.exit 0∧VZ s.cs s.b0 s.c=false)
theorem aAG:∀s,alM s→Vx s:=by
 intro s h
 obtain ⟨h0,h1,h2,h3⟩:=h
 exact ⟨h0,h1,h2⟩
theorem aga (s:pK) (hI:Vx s):bJ (fun s'=>Vx s'∧PD s'<PD s) (fun x s'=>atq x s s') (MC s):=by
 unfold MC KZ
 dsimp only [T.rd,T.rl]
 obtain ⟨h0,h1,h2⟩:=hI
 have hp:=ahj (o:=s.b0) h1 h2
 refine au (fun c1=>au (fun c2=>?_) (fun c2=>?_)) (fun c1=>?_)
 ·have c1:0≤s.c:=by simpa using c1
  exact .inl ⟨rfl,rfl,by rw [hp,if_pos c1,c2];rfl⟩
 ·have c1:0≤s.c:=by simpa using c1
  have:=Wj h1 c1 h2
  exact ⟨⟨h0,h1,by simp only;omega⟩,by simp only [PD];omega⟩
 ·have c1:¬(0≤s.c):=by simpa using c1
  exact .inr ⟨rfl,by rw [hp,if_neg c1]⟩
noncomputable def Kt:bM pK:=⟨3,18,[0,2,4],[],aDO,aCO,fun v b=>⟨aQ dU (ng (v.getD 1 .junk) 0),aQ .str (ng (v.getD 1 .junk) 1),aQ dV (ng (v.getD 1 .junk) 2),aQ dP (ng (v.getD 1 .junk) 3),aQ dW (ng (v.getD 1 .junk) 4),gI (v.getD 2 .junk),gI (aY (aO b 0) 0),vF (aY (aO b 1) 0),.ready⟩,KZ,fun s r=> {r with cs:=s.cs,os:=s.os,ks:=s.ks,gs:=s.gs,bs:=s.bs,b0:=s.b0},fun s=> {s with st:=.ready},fun x s=> {s with st:=(match x with| .ret=>(.done (.ret)) | .exit 0=> .ready|_=> .ready)},[.ret,.exit 0],alM,Vx,PD⟩
noncomputable abbrev OE:=Kt.run
noncomputable abbrev QD:=Kt.jJ
abbrev ayL:=Kt.q
theorem avq (s:pK) (hI:Vx s):(KZ s).all (fun _=>True):=by
 refine ⟨fun c1=>⟨fun _=>trivial,fun c2=>⟨?_,trivial⟩⟩,fun _=>trivial⟩
 ·(obtain ⟨h0,h1,h2⟩:=hI;simp at c1 h2;exact ⟨c1,h2⟩)
theorem W9:Kt.Ok:=⟨fun s=>by kernel_rfl,fun s=>by kernel_rfl,fun s=>rfl,fun s t r=>rfl,fun s=>rfl,fun s=>by kernel_rfl⟩
theorem WH:Kt.Pf (atq):=⟨aAG,fun s h=>by
 obtain ⟨cs,os,ks,gs,bs,c,b0,b1,st⟩:=s
 have e:st=.ready:=h.1
 subst e
 rfl,aga,avq⟩
theorem amR:bg Tryz.prog aS (AN 3) (.loop UL) Kt.lp:=bM.snd W9 WH (bF (Γ:=Aj) (K:=aa8) (L:=(tN Tryz.prog aS Aj aa8 20 2)) Eh ai0 UL (fun b _=>dR Eh ai0 20 2 b)) (fun s=>by kernel_rfl)
theorem awg (s:pK) (hE:alM s):(QD s=.ret∧(OE s).b1=true∧VZ s.cs s.b0 s.c=true)∨(QD s=.exit 0∧VZ s.cs s.b0 s.c=false):=by
 have hk:=bM.uV W9 WH (fun s=>VZ s.cs s.b0 s.c) (fun s hI=>by
  obtain ⟨h0,h1,h2⟩:=hI
  have hp:=ahj (o:=s.b0) h1 h2
  show bJ _ _ (MC s)
  unfold MC KZ
  dsimp only [T.rd,T.rl]
  refine au (fun c1=>au (fun c2=>rfl) (fun c2=>?_)) (fun c1=>rfl)
  have c1:0≤s.c:=by simpa using c1
  show VZ _ _ _=VZ _ _ _
  rw [hp,if_pos c1,c2,Bool.false_or]) s hE
 have hk:VZ s.cs s.b0 (OE s).c=VZ s.cs s.b0 s.c:=hk
 obtain ⟨s',hI,hf⟩:=bM.end_ W9 WH s hE
 have hq:=xX (aga s' hI) hf
 have hc:=xX (Pn:=fun _=>True) (Ps:=fun _ r=>r.cs=s'.cs∧r.b0=s'.b0∧r.c=s'.c) (r:=MC s') (by
   unfold MC KZ
   dsimp only [T.rd,T.rl]
   exact au (fun _=>au (fun _=>⟨rfl,rfl,rfl⟩) (fun _=>trivial)) (fun _=>⟨rfl,rfl,rfl⟩)) hf
 obtain ⟨hc1,hc3,hc2⟩:=hc
 have e1:s.cs=s'.cs:=hc1
 have e2:s.b0=s'.b0:=hc3
 rw [←hk,hc2,e1,e2]
 exact hq
def akG:List LV→T LV
 | [.fn 129 [.xq 1 q0,.xq 5 q1],.v (.int .i64 o)]=>(match ([q0 0]:List LV) with
  | [.v (.int .i64 c)]=>(match ([q1 0,q1 1,q1 2,q1 3,q1 4]:List LV) with
  | [.xl (.pair .str (.pair (.int .i64) (.pair (.int .i64) (.pair (.int .i64) (.pair (.pair (.int .i64) (.int .i64)) (.pair (.int .i64) (.pair (.int .i64) (.pair (.int .i64) (.pair (.int .i64) (.int .i64)))))))))) cs,.xl (.str) _,.xl (.pair .str (.pair (.int .i64) (.pair (.int .i64) (.int .i64)))) _,.xl (.pair .str (.pair (.int .i64) (.pair (.int .i64) (.pair (.int .i64) (.pair (.int .i64) (.pair (.int .i64) (.pair (.int .i64) (.int .i64)))))))) _,.xl (.pair .str (.int .i64)) _]=> .req (upB cs=true∧c<(List.length cs:Int)) (.ok (.v (.bool (VZ cs o c))))
  |_=> .no)
  |_=> .no)
 |_=> .no
noncomputable def ako:List LV→T LV:=gQ Tryz.prog Tryz.f103.params.toList akG
noncomputable def arY:Hand:=inl Tryz.prog aS Aj (kD 129 3 1 (Kt.lp) (lX Tryz.prog aS (Aj) 20 2)) 9
theorem aBj:dF Tryz.prog aS arY:=bQ Eh (dM Tryz.func129 rfl (by kernel_rfl) amR (dQ Eh)) 9
theorem awN (c:Int) (cs:List Cd) (os:List ByteArray) (ks:List Ko) (gs:List Ch) (bs:List Ba) (o:Int):bV Tryz.prog aS (Aj) arY aC Tryz.f103 [.fn 129 [.xq 1 (fun j=>([.v (.int .i64 c)]:List LV).getD j .junk),.xq 5 (fun j=>([.xl dU cs,.xl .str os,.xl dV ks,.xl dP gs,.xl dW bs]:List LV).getD j .junk)],.v (.int .i64 o)]=.req (ayL (⟨cs,os,ks,gs,bs,c,o,false,.ready⟩:pK)) (.br (iG (QD (⟨cs,os,ks,gs,bs,c,o,false,.ready⟩:pK)) (.ret)) (.ok (.v (.bool (OE (⟨cs,os,ks,gs,bs,c,o,false,.ready⟩:pK)).b1))) (.ok (.v (.bool false)))):=by kernel_rfl
theorem azI:Valid Tryz.prog aS 103 ako:=aH Tryz.func103 rfl Eh aBj (aX (by kernel_rfl)) (fun args lv h=>by
 unfold akG at h
 split at h
 ·split at h
  case h_2=>cases h
  rename_i heq0
  split at h
  case h_2=>cases h
  rename_i heq1
  simp only [canL,canX]
  rw [pq (n:=1) heq0]
  simp only [canL,canX]
  rw [pq (n:=5) heq1]
  simp only [canL,canX]
  rw [awN]
  obtain ⟨⟨hu,hc⟩,rfl⟩:=h
  refine nV ⟨⟨rfl,hu,hc,rfl⟩,rfl,rfl⟩ (fun hE=>?_)
  rcases awg _ hE.1 with ⟨h1,h2,h3⟩ |⟨h1,h2⟩
  ·rw [h1,h2]
   exact ⟨fun _=>congrArg (fun z=>LV.v (.bool z)) h3.symm,fun h=>by cases h⟩
  ·rw [h1]
   exact ⟨fun h=>(by cases h),fun _=>congrArg (fun z=>LV.v (.bool z)) h2.symm⟩
 ·cases h)
end Go.Proofs.YtlihnbimgclogaaGreatDoor
namespace Go.Proofs.YtlihnbimgclogaaGreatDoor
open Go.Sx
structure vC where
 l:List Ch
 n:Int
 i:Int
 bI:List Cd
 iO:List ByteArray
 fG:List Ko
 fV:List Ch
 mO:List Ba
 b1:Int
 out:List Int
def aFe (s:vC):List LV:=[.fn 102 [.own 0 0,.own 1 0],.os 2 1 0 (List.length s.out),.xl dP s.l,.v (.int .i64 s.n),.v (.int .i64 s.i)]
def aE6 (s:vC):List aU:=[⟨[.xl dU s.bI,.xl .str s.iO,.xl dV s.fG,.xl dP s.fV,.xl dW s.mO],28,.cl,false⟩,⟨[.v (.int .i64 s.b1)],3,.cl,false⟩,⟨[],3,.vec (.int .i64) s.out,false⟩]
noncomputable def Gy:Code:=((aB (Tryz.f55.body.getD .skip))[0]?).getD .skip
def amd (s:vC):T (Rd vC):=
 .br (decide (s.i<s.n)) (.req (0≤s.i∧s.i<(List.length s.l:Int)) (.req (upB s.bI=true∧(bn s.l s.i).2.1<(List.length s.bI:Int)) (.br (VZ s.bI s.b1 (bn s.l s.i).2.1) (.req (0+(List.length s.out)=List.length s.out∧((List.length s.out+List.length ([s.i]):Nat):Int)*8≤2^47∧((List.length s.out+List.length ([s.i]):Nat):Int)<2^62) (.req (0=0∧(List.length s.out+List.length ([s.i]))=List.length (s.out++([s.i]))) (.ok (.next {s with i:=(IntKind.i64.wrap (s.i+1)),out:=(s.out++([s.i]))})))) (.rl s.out (.ok (.next {s with i:=(IntKind.i64.wrap (s.i+1))})))))) (.rl s.out (.ok (.stop (.exit 0) s)))
abbrev aBP (s:vC):=(amd s).rd s
def aqX (s:vC):Prop:=s.i=0∧s.out=[]∧s.n=(s.l.length:Int)∧s.n≤1000∧upB s.bI=true∧atB s.bI s.l=true
def ae9 (s:vC):Prop:=(0≤s.i∧s.i≤s.n)∧s.out=sW s.bI s.l s.b1 s.i.toNat∧s.n=(s.l.length:Int)∧s.n≤1000∧upB s.bI=true∧atB s.bI s.l=true
def TP (s:vC):Nat:=(s.n-s.i).toNat
def ayj (x:Ex) (_ s':vC):Prop:=x=.exit 0∧s'.out=sW s'.bI s'.l s'.b1 s'.l.length
theorem aEV:∀s,aqX s→ae9 s:=by
 intro s h
 obtain ⟨h0,h1,h2,h3,h4,h5⟩:=h
 exact ⟨⟨by omega,by omega⟩,by rw [h0,h1];rfl,h2,h3,h4,h5⟩
theorem aB8 (s:vC) (hI:ae9 s):bJ (fun s'=>ae9 s'∧TP s'<TP s) (fun x s'=>ayj x s s') (aBP s):=by
 unfold aBP amd
 dsimp only [T.rd,T.rl]
 obtain ⟨⟨h0,h1⟩,h2,h3,h4,h5,h6⟩:=hI
 refine au (fun c1=>?_) (fun c1=>?_)
 ·have c1:s.i<s.n:=by simpa using c1
  have hs:=aeX (cs:=s.bI) (gs:=s.l) (o:=s.b1) (k:=s.i.toNat)
  rw [show s.i.toNat+1=(s.i+1).toNat by omega,Int.toNat_of_nonneg h0] at hs
  rw [aK (x:=s.i+1) (by omega) (by omega)]
  refine au (fun c2=>?_) (fun c2=>?_)
  ·refine ⟨⟨⟨by simp only;omega,by simp only;omega⟩,?_,h3,h4,h5,h6⟩,by simp only [TP];omega⟩
   simp only
   rw [hs,if_pos c2,h2]
  ·refine ⟨⟨⟨by simp only;omega,by simp only;omega⟩,?_,h3,h4,h5,h6⟩,by simp only [TP];omega⟩
   simp only
   rw [hs,if_neg (by rw [c2];simp),h2,List.append_nil]
 ·have c1:s.n≤s.i:=by simpa using c1
  exact ⟨rfl,by rw [h2,show s.i.toNat=s.l.length by omega]⟩
def VW:bM vC:=⟨0,42,[6,7,26,27,28],[.nl 7 3 (.int .i64)],aFe,aE6,fun v b=>⟨aQ dP (v.getD 2 .junk),gI (v.getD 3 .junk),gI (v.getD 4 .junk),aQ dU (aY (aO b 0) 0),aQ .str (aY (aO b 0) 1),aQ dV (aY (aO b 0) 2),aQ dP (aY (aO b 0) 3),aQ dW (aY (aO b 0) 4),gI (aY (aO b 1) 0),iR (.int .i64) (aO b 2)⟩,amd,fun s r=> {r with l:=s.l,n:=s.n,bI:=s.bI,iO:=s.iO,fG:=s.fG,fV:=s.fV,mO:=s.mO,b1:=s.b1},fun s=>s,fun _ s=>s,[.exit 0],aqX,ae9,TP⟩
abbrev Di:=VW.run
abbrev axC:=VW.jJ
abbrev aCn:=VW.q
theorem aAf (s:vC) (hI:ae9 s):(amd s).all (fun _=>True):=by
 refine ⟨fun c1=>⟨?_,?_,fun c2=>⟨?_,?_,trivial⟩,fun c2=>⟨⟨rfl,rfl⟩,trivial⟩⟩,fun c1=>⟨⟨rfl,rfl⟩,trivial⟩⟩
 all_goals ((obtain ⟨⟨h0,h1⟩,h2,h3,h4,h5,h6⟩:=hI;have hol:s.out.length≤s.i.toNat:=(by rw [h2];exact Jq);(try simp only [decide_eq_true_eq] at c1);first|omega|exact ⟨h5,ax6 h6 h0 (by omega)⟩ |(refine ⟨by omega,?_,?_⟩<;>simp only [List.length_cons,List.length_nil]<;>omega) |exact ⟨rfl,by simp⟩ |exact ⟨rfl,rfl⟩))
noncomputable def Un:Specs:=aZ [(53,JA),(103,ako),(104,YG)]
theorem abh:∀g S,Un g=some S→Valid Tryz.prog aS g S:=aT (l:=[(53,JA),(103,ako),(104,YG)]) ⟨afn,azI,at6,trivial⟩
noncomputable def ajc:Hand:=inl Tryz.prog aS Un (lX Tryz.prog aS (Un) 20 2) 9
theorem arO:dF Tryz.prog aS ajc:=bQ abh (dQ abh) 9
theorem ars:VW.Ok:=⟨fun s=>by kernel_rfl,fun s=>by kernel_rfl,fun s=>rfl,fun s t r=>rfl,fun s=>rfl,fun s=>by kernel_rfl⟩
theorem ari:VW.Pf (ayj):=⟨aEV,fun _ _=>rfl,aB8,aAf⟩
theorem auO:bg Tryz.prog aS (AN 0) (.loop Gy) VW.lp:=bM.snd ars ari (aP (Γ:=Un) (K:=ajc) (L:=aC) abh arO Gy (fun b hb=>by rw [show aB Gy=[] by kernel_rfl] at hb;cases hb)) (fun s=>by kernel_rfl)
theorem ax0 (s:vC) (hE:aqX s):∃s',ae9 s'∧ayj (axC s) s' (Di s):=bM.fin ars ari s hE
def Vm:List LV→T LV
 | [.agg [.xl (.pair .str (.pair (.int .i64) (.pair (.int .i64) (.pair (.int .i64) (.pair (.pair (.int .i64) (.int .i64)) (.pair (.int .i64) (.pair (.int .i64) (.pair (.int .i64) (.pair (.int .i64) (.int .i64)))))))))) cs,.xl (.str) os,.xl (.pair .str (.pair (.int .i64) (.pair (.int .i64) (.int .i64)))) ks,.xl (.pair .str (.pair (.int .i64) (.pair (.int .i64) (.pair (.int .i64) (.pair (.int .i64) (.pair (.int .i64) (.pair (.int .i64) (.int .i64)))))))) gs,.xl (.pair .str (.int .i64)) bs],.v (.int .i64 o)]=> .ok (.gq [.xl (.int .i64) (bT cs os ks gs bs o),.v (.int .i64 (ax3 cs os ks gs bs o))])
 |_=> .no
noncomputable def Q8:List LV→T LV:=gQ Tryz.prog Tryz.f55.params.toList Vm
theorem aiw (cs:List Cd) (os:List ByteArray) (ks:List Ko) (gs:List Ch) (bs:List Ba) (o:Int):bV Tryz.prog aS (Un) ajc (fun i=>if i=6 then VW.lp else aC i) Tryz.f55 [.agg [.xl dU cs,.xl .str os,.xl dV ks,.xl dP gs,.xl dW bs],.v (.int .i64 o)]=.br ((!(fO cs os ks gs bs)) ||((decide (o<0)) ||(decide (o≥(List.length cs:Int))))) (.ok (.gq [.xl (.int .i64) ([]:List Int),.v (.int .i64 1)])) (.req (0=0∧0=List.length ([]:List Int)) (.req (aCn (⟨gs,(List.length gs:Int),(0:Int),cs,os,ks,gs,bs,o,([]:List Int)⟩:vC)) (.req (0+(List.length (Di (⟨gs,(List.length gs:Int),(0:Int),cs,os,ks,gs,bs,o,([]:List Int)⟩:vC)).out)≤List.length (Di (⟨gs,(List.length gs:Int),(0:Int),cs,os,ks,gs,bs,o,([]:List Int)⟩:vC)).out) (.ok (.gq [.xl (.int .i64) (((Di (⟨gs,(List.length gs:Int),(0:Int),cs,os,ks,gs,bs,o,([]:List Int)⟩:vC)).out.drop 0).take (List.length (Di (⟨gs,(List.length gs:Int),(0:Int),cs,os,ks,gs,bs,o,([]:List Int)⟩:vC)).out)),.v (.int .i64 0)]))))):=by kernel_rfl
theorem al6:Valid Tryz.prog aS 55 Q8:=aH Tryz.func55 rfl abh arO (L:=(fun i=>if i=6 then VW.lp else aC i)) (fun b hb=>by
 rw [show aB _=[Gy] by kernel_rfl] at hb
 simp only [List.mem_cons,List.not_mem_nil,or_false] at hb
 subst hb
 exact auO) (fun args lv h=>by
 unfold Vm at h
 split at h
 ·simp only [canL,canX]
  rw [aiw]
  rename_i cs os ks gs bs o
  obtain rfl:=h
  refine ⟨fun c=>?_,fun c=>?_⟩
  ·have hn:¬(fO cs os ks gs bs=true∧0≤o∧o<(cs.length:Int)):=by
    rintro ⟨h1,h2,h3⟩
    rw [h1] at c
    simp at c
    omega
   show LV.gq _=_
   unfold bT ax3
   rw [if_neg hn,if_neg hn]
  ·simp only [Bool.or_eq_false_iff,Bool.not_eq_false',decide_eq_false_iff_not] at c
   have hp:fO cs os ks gs bs=true∧0≤o∧o<(cs.length:Int):=⟨c.1,by omega,by omega⟩
   have hl:=(gW.1 c.1).1
   have hE:aqX ⟨gs,(List.length gs:Int),(0:Int),cs,os,ks,gs,bs,o,([]:List Int)⟩:=⟨rfl,rfl,rfl,by simp only;omega,afH c.1,afJ c.1⟩
   obtain ⟨s',_,q1,q2⟩:=ax0 _ hE
   have q2:(Di ⟨gs,(List.length gs:Int),(0:Int),cs,os,ks,gs,bs,o,([]:List Int)⟩).out=sW cs gs o gs.length:=q2
   refine ⟨⟨rfl,rfl⟩,⟨hE,rfl,rfl⟩,by omega,?_⟩
   show LV.gq [LV.xl _ _,_]=_
   rw [List.drop_zero,List.take_length,q2]
   unfold bT ax3
   rw [if_pos hp,if_pos hp]
 ·cases h)
end Go.Proofs.YtlihnbimgclogaaGreatDoor
namespace Go.Proofs.YtlihnbimgclogaaGreatDoor
open Go.Sx
def ady:List LV→T LV
 | [.v (.agg ⟨[.int .i64 am,.int .i64 mo,.int .i64 ga,.int .i64 lo,.int .i64 de]⟩)]=> .ok (.v (.bool (QL (am,mo,ga,lo,de))))
 |_=> .no
noncomputable def Y2:List LV→T LV:=gQ Tryz.prog Tryz.f130.params.toList ady
noncomputable def Md:Specs:=aZ []
theorem Uh:∀g S,Md g=some S→Valid Tryz.prog aS g S:=aT (l:=[]) trivial
noncomputable def arX:Hand:=inl Tryz.prog aS Md (lX Tryz.prog aS (Md) 20 2) 9
theorem aBi:dF Tryz.prog aS arX:=bQ Uh (dQ Uh) 9
theorem apc (am mo ga lo de:Int):bV Tryz.prog aS (Md) arX aC Tryz.f130 [.v (.agg #[.int .i64 am,.int .i64 mo,.int .i64 ga,.int .i64 lo,.int .i64 de])]=.br ((am==0)&&((mo==0)&&((ga==0)&&((lo==0)&&(de==0))))) (.ok (.v (.bool true))) (.br ((decide (am≥0))&&(decide (am≤200000))) (.br (decide (mo>am)) (.br (decide (mo≤200000)) (.br ((decide (ga≥0))&&(decide (ga≤1000))) (.br ((decide (lo≥0))&&(decide (lo≤1000))) (.ok (.v (.bool ((decide (de≥1))&&(decide (de≤1000000)))))) (.ok (.v (.bool false)))) (.ok (.v (.bool false)))) (.ok (.v (.bool false)))) (.ok (.v (.bool false)))) (.ok (.v (.bool false)))):=by kernel_rfl
theorem aut:Valid Tryz.prog aS 130 Y2:=aH Tryz.func130 rfl Uh aBi (aX (by kernel_rfl)) (fun args lv h=>by
 unfold ady at h
 split at h
 ·simp only [canL,canX]
  rw [apc]
  rename_i am mo ga lo de
  obtain rfl:=h
  unfold QL cbZ
  simp only
  refine ⟨fun c=>by rw [c];rfl,fun c=>?_⟩
  rw [c,Bool.false_or]
  unfold inB
  refine ⟨fun c1=>⟨fun c2=>⟨fun c3=>⟨fun c4=>⟨fun c5=>?_,fun c5=>?_⟩,fun c4=>?_⟩,fun c3=>?_⟩,fun c2=>?_⟩,fun c1=>?_⟩
  all_goals refine congrArg (fun z=>LV.v (.bool z)) ?_
  all_goals
   rw [Bool.eq_iff_iff]
   simp only [Bool.and_eq_true,Bool.and_eq_false_iff,decide_eq_true_eq,decide_eq_false_iff_not,Bool.false_eq_true] at*
   constructor<;>intro hz<;>first|exact hz.elim|(exfalso;omega) |omega
 ·cases h)
def acG:List LV→T LV
 | [.xq 6 q0]=>(match ([q0 0,q0 1,q0 2,q0 3,q0 4,q0 5]:List LV) with
  | [.v (.int .i64 _),.v (.int .i64 _),.v (.int .i64 _),.v (.int .i64 lo),.v (.int .i64 de),.v (.int .i64 _)]=> .ok (.v (.int .i64 (if de<lo then de else lo)))
  |_=> .no)
 |_=> .no
noncomputable def Yo:List LV→T LV:=gQ Tryz.prog Tryz.f132.params.toList acG
theorem aon (am mo ga lo de now:Int):bV Tryz.prog aS (Md) dZ aC Tryz.f132 [.xq 6 (fun j=>([.v (.int .i64 am),.v (.int .i64 mo),.v (.int .i64 ga),.v (.int .i64 lo),.v (.int .i64 de),.v (.int .i64 now)]:List LV).getD j .junk)]=.ok (.v (.int .i64 (if de<lo then de else lo))):=by kernel_rfl
theorem atJ:Valid Tryz.prog aS 132 Yo:=aH Tryz.func132 rfl Uh aF (aX (by kernel_rfl)) (fun args lv h=>by
 unfold acG at h
 split at h
 ·split at h
  case h_2=>cases h
  rename_i heq0
  simp only [canL,canX]
  rw [pq (n:=6) heq0]
  simp only [canL,canX]
  rw [aon]
  exact h
 ·cases h)
def acF:List LV→T LV
 | [.xq 6 q0]=>(match ([q0 0,q0 1,q0 2,q0 3,q0 4,q0 5]:List LV) with
  | [.v (.int .i64 am),.v (.int .i64 mo),.v (.int .i64 ga),.v (.int .i64 lo),.v (.int .i64 de),.v (.int .i64 _)]=> .ok (.v (.bool (cbZ (am,mo,ga,lo,de))))
  |_=> .no)
 |_=> .no
noncomputable def Yn:List LV→T LV:=gQ Tryz.prog Tryz.f131.params.toList acF
theorem aom (am mo ga lo de now:Int):bV Tryz.prog aS (Md) dZ aC Tryz.f131 [.xq 6 (fun j=>([.v (.int .i64 am),.v (.int .i64 mo),.v (.int .i64 ga),.v (.int .i64 lo),.v (.int .i64 de),.v (.int .i64 now)]:List LV).getD j .junk)]=.ok (.v (.bool ((am==0)&&((mo==0)&&((ga==0)&&((lo==0)&&(de==0))))))):=by kernel_rfl
theorem atI:Valid Tryz.prog aS 131 Yn:=aH Tryz.func131 rfl Uh aF (aX (by kernel_rfl)) (fun args lv h=>by
 unfold acF at h
 split at h
 ·split at h
  case h_2=>cases h
  rename_i heq0
  simp only [canL,canX]
  rw [pq (n:=6) heq0]
  simp only [canL,canX]
  rw [aom]
  exact h
 ·cases h)
structure zh where
 low:Int
 high:Int
 yZ:Int
 QO:Int
 QS:Int
 QR:Int
 Yh:Int
 Jr:Int
 b11:Int
 b12:Int
 b13:Int
 b14:Int
 Yg:Int
 b3:Int
def aFd (s:zh):List LV:=[.v (.int .i64 s.low),.v (.int .i64 s.high),.fn 134 [.own 2 0,.own 3 0]]
def aE5 (s:zh):List aU:=[⟨[.v (.int .i64 s.yZ),.v (.int .i64 s.QO),.v (.int .i64 s.QS),.v (.int .i64 s.QR),.v (.int .i64 s.Yh)],103,.cl,false⟩,⟨[.v (.int .i64 s.Jr),.v (.int .i64 s.b11),.v (.int .i64 s.b12),.v (.int .i64 s.b13),.v (.int .i64 s.b14),.v (.int .i64 s.Yg)],190,.cl,false⟩,⟨[.own 1 0],188,.cl,false⟩,⟨[.v (.int .i64 s.b3)],3,.cl,false⟩]
noncomputable def acy:Code:=((aB (Tryz.f133.body.getD .skip))[0]?).getD .skip
def amc (s:zh):T (Rd zh):=
 .br (decide (s.low<s.high)) (.req ((2:Int)≠0) (.br (decide ((IntKind.i64.wrap ((IntKind.i64.wrap (s.b12*(IntKind.i64.wrap (s.low+(IntKind.i64.wrap ((IntKind.i64.wrap ((IntKind.i64.wrap (s.high-s.low))+1)).tdiv 2))))))*(IntKind.i64.wrap (s.low+(IntKind.i64.wrap ((IntKind.i64.wrap ((IntKind.i64.wrap (s.high-s.low))+1)).tdiv 2))))))≤s.b3)) (.ok (.next {s with low:=(IntKind.i64.wrap (s.low+(IntKind.i64.wrap ((IntKind.i64.wrap ((IntKind.i64.wrap (s.high-s.low))+1)).tdiv 2))))})) (.ok (.next {s with high:=(IntKind.i64.wrap ((IntKind.i64.wrap (s.low+(IntKind.i64.wrap ((IntKind.i64.wrap ((IntKind.i64.wrap (s.high-s.low))+1)).tdiv 2))))-1))})))) (.ok (.stop (.exit 0) s))
abbrev aBO (s:zh):=(amc s).rd s
def ay2 (s:zh):Prop:=s.low=0∧s.high=1000∧(0≤s.b12∧s.b12≤1000)∧0≤s.b3
def ae8 (s:zh):Prop:=(0≤s.low∧s.low≤s.high∧s.high≤1000)∧s.b12*s.low*s.low≤s.b3∧(∀a:Int,s.high<a→a≤1000→¬s.b12*a*a≤s.b3)∧(0≤s.b12∧s.b12≤1000)∧0≤s.b3
def TN (s:zh):Nat:=(s.high-s.low).toNat
def ayi (x:Ex) (_ s':zh):Prop:=x=.exit 0∧s'.low=prm s'.b12 s'.b3
theorem aEO:∀s,ay2 s→ae8 s:=by
 intro s h
 obtain ⟨h0,h1,h2,h3⟩:=h
 exact ⟨by omega,by rw [h0];simpa using h3,fun a h h2=>by omega,h2,h3⟩
theorem aBp (s:zh) (hI:ae8 s):bJ (fun s'=>ae8 s'∧TN s'<TN s) (fun x s'=>ayi x s s') (aBO s):=by
 unfold aBO amc
 dsimp only [T.rd,T.rl]
 obtain ⟨⟨h0,h1,h2⟩,h3,h4,⟨h5,h6⟩,h7⟩:=hI
 have em:s.low<s.high→IntKind.i64.wrap (s.low+IntKind.i64.wrap ((IntKind.i64.wrap (IntKind.i64.wrap (s.high-s.low)+1)).tdiv 2))=s.low+(s.high-s.low+1) / 2:=fun c=>by
  rw [aK (x:=s.high-s.low) (by omega) (by omega),aK (x:=s.high-s.low+1) (by omega) (by omega),Int.tdiv_eq_ediv_of_nonneg (by omega),aK (x:=(s.high-s.low+1) / 2) (by omega) (by omega),aK (by omega) (by omega)]
 refine au (fun c1=>?_) (fun c1=>?_)
 ·have c1:s.low<s.high:=by simpa using c1
  rw [em c1]
  have hm1:s.low<s.low+(s.high-s.low+1) / 2:=by omega
  have hm2:s.low+(s.high-s.low+1) / 2≤s.high:=by omega
  generalize s.low+(s.high-s.low+1) / 2=m at hm1 hm2⊢
  obtain ⟨⟨b1,b2⟩,b3,b4⟩:=azW h5 h6 (m:=m) (by omega) (by omega)
  rw [aK (x:=s.b12*m) (by omega) (by omega),aK (x:=s.b12*m*m) (by omega) (by omega),aK (x:=m-1) (by omega) (by omega)]
  refine au (fun c2=>?_) (fun c2=>?_)
  ·have c2:s.b12*m*m≤s.b3:=by simpa using c2
   exact ⟨⟨⟨by simp only;omega,by simp only;omega,h2⟩,c2,h4,⟨h5,h6⟩,h7⟩,by simp only [TN];omega⟩
  ·have c2:¬s.b12*m*m≤s.b3:=by simpa using c2
   refine ⟨⟨⟨h0,by simp only;omega,by simp only;omega⟩,h3,fun a ha hk=>?_,⟨h5,h6⟩,h7⟩,by simp only [TN];omega⟩
   have:=amk h5 (a:=m) (b:=a) (by omega) (by simp only at ha;omega)
   simp only
   omega
 ·have c1:s.high≤s.low:=by simpa using c1
  refine ⟨rfl,(aaC (k:=1000) h0 (by omega) (.inr h3) (fun a ha hk=>h4 a (by omega) (by omega))).symm⟩
def Ze:bM zh:=⟨4,25,[0,1,2],[],aFd,aE5,fun v b=>⟨gI (v.getD 0 .junk),gI (v.getD 1 .junk),gI (aY (aO b 0) 0),gI (aY (aO b 0) 1),gI (aY (aO b 0) 2),gI (aY (aO b 0) 3),gI (aY (aO b 0) 4),gI (aY (aO b 1) 0),gI (aY (aO b 1) 1),gI (aY (aO b 1) 2),gI (aY (aO b 1) 3),gI (aY (aO b 1) 4),gI (aY (aO b 1) 5),gI (aY (aO b 3) 0)⟩,amc,fun s r=> {r with yZ:=s.yZ,QO:=s.QO,QS:=s.QS,QR:=s.QR,Yh:=s.Yh,Jr:=s.Jr,b11:=s.b11,b12:=s.b12,b13:=s.b13,b14:=s.b14,Yg:=s.Yg,b3:=s.b3},fun s=>s,fun _ s=>s,[.exit 0],ay2,ae8,TN⟩
abbrev afW:=Ze.run
abbrev axB:=Ze.jJ
abbrev aCm:=Ze.q
noncomputable def Eo:Specs:=aZ [(130,Y2),(131,Yn),(132,Yo)]
theorem IZ:∀g S,Eo g=some S→Valid Tryz.prog aS g S:=aT (l:=[(130,Y2),(131,Yn),(132,Yo)]) ⟨aut,atI,atJ,trivial⟩
noncomputable def ajb:Hand:=inl Tryz.prog aS Eo (lX Tryz.prog aS (Eo) 20 2) 9
theorem arN:dF Tryz.prog aS ajb:=bQ IZ (dQ IZ) 9
theorem aAe (s:zh) (_:ae8 s):(amc s).all (fun _=>True):=by
 refine ⟨fun c1=>⟨?_,fun _=>trivial,fun _=>trivial⟩,fun _=>trivial⟩
 ·(first|decide|omega)
theorem arq:Ze.Ok:=⟨fun s=>by kernel_rfl,fun s=>by kernel_rfl,fun s=>rfl,fun s t r=>rfl,fun s=>rfl,fun s=>by kernel_rfl⟩
theorem arh:Ze.Pf (ayi):=⟨aEO,fun _ _=>rfl,aBp,aAe⟩
theorem auN:bg Tryz.prog aS (AN 4) (.loop acy) Ze.lp:=bM.snd arq arh (bF (Γ:=Eo) (K:=ajb) (L:=(tN Tryz.prog aS Eo ajb 20 2)) IZ arN acy (fun b _=>dR IZ arN 20 2 b)) (fun s=>by kernel_rfl)
theorem axk (s:zh) (hE:ay2 s):∃s',ae8 s'∧ayi (axB s) s' (afW s):=bM.fin arq arh s hE
def ac2:List LV→T LV
 | [.v (.agg ⟨[.int .i64 am,.int .i64 mo,.int .i64 ga,.int .i64 lo,.int .i64 de]⟩)]=> .ok (.v (.tuple #[.int .i64 (pmA (am,mo,ga,lo,de)),.int .i64 (pmE (am,mo,ga,lo,de))]))
 |_=> .no
noncomputable def YF:List LV→T LV:=gQ Tryz.prog Tryz.f105.params.toList ac2
noncomputable def arW:Hand:=inl Tryz.prog aS Eo (kD 133 4 1 (Ze.lp) (lX Tryz.prog aS (Eo) 20 2)) 9
theorem aBh:dF Tryz.prog aS arW:=bQ IZ (dM Tryz.func133 rfl (by kernel_rfl) auN (dQ IZ)) 9
theorem aoJ (am mo ga lo de:Int):bV Tryz.prog aS (Eo) arW aC Tryz.f105 [.v (.agg #[.int .i64 am,.int .i64 mo,.int .i64 ga,.int .i64 lo,.int .i64 de])]=.br (!(QL (am,mo,ga,lo,de))) (.ok (.v (.tuple #[.int .i64 0,.int .i64 1]))) (.br (cbZ (am,mo,ga,lo,de)) (.ok (.v (.tuple #[.int .i64 1000,.int .i64 0]))) (.req (aCm (⟨(0:Int),(1000:Int),am,mo,ga,lo,de,am,mo,ga,lo,de,(0:Int),(IntKind.i64.wrap ((if de<lo then de else lo)*(IntKind.i64.wrap (mo-am))))⟩:zh)) (.ok (.v (.tuple #[.int .i64 (afW (⟨(0:Int),(1000:Int),am,mo,ga,lo,de,am,mo,ga,lo,de,(0:Int),(IntKind.i64.wrap ((if de<lo then de else lo)*(IntKind.i64.wrap (mo-am))))⟩:zh)).low,.int .i64 0]))))):=by kernel_rfl
theorem at1:Valid Tryz.prog aS 105 YF:=aH Tryz.func105 rfl IZ aBh (aX (by kernel_rfl)) (fun args lv h=>by
 unfold ac2 at h
 split at h
 ·simp only [canL,canX]
  rw [aoJ]
  rename_i am mo ga lo de
  obtain rfl:=h
  refine ⟨fun c=>?_,fun c=>⟨fun c2=>?_,fun c2=>?_⟩⟩
  ·have c:QL (am,mo,ga,lo,de)=false:=by simpa using c
   simp [T.all,pmA,pmE,c]
  ·have c:QL (am,mo,ga,lo,de)=true:=by simpa using c
   simp [T.all,pmA,pmE,c,c2]
  ·have c:QL (am,mo,ga,lo,de)=true:=by simpa using c
   obtain ⟨⟨h1,h2,h3⟩,⟨h4,h5⟩,⟨h6,h7⟩,h8,h9⟩:=axZ c c2
   simp only at h1 h2 h3 h4 h5 h6 h7 h8 h9
   have hm:0≤(if de<lo then de else lo)∧(if de<lo then de else lo)≤1000:=by split<;>omega
   have e:pmA (am,mo,ga,lo,de)=prm ga ((if de<lo then de else lo)*(mo-am)):=by
    unfold pmA
    rw [if_pos c,if_neg (by rw [c2];simp)]
   have e2:pmE (am,mo,ga,lo,de)=0:=by
    unfold pmE
    rw [if_pos c]
   rw [e,e2,aK (x:=mo-am) (by omega) (by omega)]
   generalize (if de<lo then de else lo)=mn at hm⊢
   have a1:0≤mn*(mo-am):=Int.mul_nonneg hm.1 (by omega)
   have a2:mn*(mo-am)≤1000*(mo-am):=Int.mul_le_mul_of_nonneg_right hm.2 (by omega)
   rw [aK (x:=mn*(mo-am)) (by omega) (by omega)]
   refine nV ⟨⟨rfl,rfl,⟨h4,h5⟩,a1⟩,rfl,rfl⟩ (fun hE=>?_)
   obtain ⟨s',_,q1,q2⟩:=axk _ hE.1
   show LV.v (.tuple #[.int .i64 _,_])=_
   rw [q2]
   rfl
 ·cases h)
end Go.Proofs.YtlihnbimgclogaaGreatDoor
namespace Go.Proofs.YtlihnbimgclogaaGreatDoor
open Go.Sx
structure mQ where
 first:Int
 l:List Int
 n:Int
 i:Int
def aD1 (s:mQ):List LV:=[.v (.int .i64 s.first),.xl (.int .i64) s.l,.v (.int .i64 s.n),.v (.int .i64 s.i)]
def aC1 (_:mQ):List aU:=[]
noncomputable def BI:Code:=((aB (Tryz.f106.body.getD .skip))[0]?).getD .skip
def SA (s:mQ):T (Rd mQ):=
 .br (decide (s.i<s.n)) (.req (0≤s.i∧s.i<(List.length s.l:Int)) (.ok (.next {s with first:=(if (gi s.l s.i)<s.first then (gi s.l s.i) else s.first),i:=(IntKind.i64.wrap (s.i+1))}))) (.ok (.stop (.exit 0) s))
abbrev abJ (s:mQ):=(SA s).rd s
def adW (s:mQ):Prop:=s.i=0∧s.n=(s.l.length:Int)∧s.n≤1000
def NI (s:mQ):Prop:=0≤s.i∧s.i≤s.n∧s.n=(s.l.length:Int)∧s.n≤1000
def PS (s:mQ):Nat:=(s.n-s.i).toNat
def alb (x:Ex) (_ s':mQ):Prop:=x=.exit 0∧s'.i=s'.n
theorem aAY:∀s,adW s→NI s:=by
 intro s h
 obtain ⟨h0,h1,h2⟩:=h
 exact ⟨by omega,by omega,h1,h2⟩
theorem aw2 (s:mQ) (hI:NI s):bJ (fun s'=>NI s'∧PS s'<PS s) (fun x s'=>alb x s s') (abJ s):=by
 unfold abJ SA
 dsimp only [T.rd,T.rl]
 obtain ⟨h0,h1,h2,h3⟩:=hI
 refine au (fun c1=>?_) (fun c1=>?_)
 ·have c1:s.i<s.n:=by simpa using c1
  rw [aK (x:=s.i+1) (by omega) (by omega)]
  exact ⟨⟨by simp only;omega,by simp only;omega,h2,h3⟩,by simp only [PS];omega⟩
 ·have c1:s.n≤s.i:=by simpa using c1
  exact ⟨rfl,by omega⟩
def Fj:bM mQ:=⟨0,18,[0,7,8,9],[],aD1,aC1,fun v _=>⟨gI (v.getD 0 .junk),aQ (.int .i64) (v.getD 1 .junk),gI (v.getD 2 .junk),gI (v.getD 3 .junk)⟩,SA,fun s r=> {r with l:=s.l,n:=s.n},fun s=>s,fun _ s=>s,[.exit 0],adW,NI,PS⟩
abbrev zH:=Fj.run
abbrev aqb:=Fj.jJ
abbrev ayX:=Fj.q
theorem avE (s:mQ) (hI:NI s):(SA s).all (fun _=>True):=by
 refine ⟨fun c1=>⟨?_,trivial⟩,fun _=>trivial⟩
 ·(obtain ⟨h0,h1,h2,h3⟩:=hI;simp at c1;omega)
noncomputable def abo:Specs:=aZ []
theorem ajk:∀g S,abo g=some S→Valid Tryz.prog aS g S:=aT (l:=[]) trivial
theorem Xh:Fj.Ok:=⟨fun s=>by kernel_rfl,fun s=>by kernel_rfl,fun s=>rfl,fun s t r=>rfl,fun s=>rfl,fun s=>by kernel_rfl⟩
theorem WR:Fj.Pf (alb):=⟨aAY,fun _ _=>rfl,aw2,avE⟩
theorem am4:bg Tryz.prog aS (AN 0) (.loop BI) Fj.lp:=bM.snd Xh WR (aP (Γ:=abo) (K:=dZ) (L:=aC) ajk aF BI (fun b hb=>by rw [show aB BI=[] by kernel_rfl] at hb;cases hb)) (fun s=>by kernel_rfl)
theorem apr (s:mQ) (hE:adW s):∃s',NI s'∧alb (aqb s) s' (zH s):=bM.fin Xh WR s hE
theorem aiF (s:mQ) (hE:adW s):(fun s:mQ=>Xv s.first (s.l.drop s.i.toNat)) (zH s)=(fun s:mQ=>Xv s.first (s.l.drop s.i.toNat)) s:=by
 exact bM.uV Xh WR (fun s:mQ=>Xv s.first (s.l.drop s.i.toNat)) (fun s hI=>by
  show bJ _ _ (abJ s)
  unfold abJ SA
  dsimp only [T.rd,T.rl]
  obtain ⟨h0,h1,h2,h3⟩:=hI
  refine au (fun c1=>?_) (fun c1=>rfl)
  have c1:s.i<s.n:=by simpa using c1
  rw [aK (x:=s.i+1) (by omega) (by omega)]
  show Xv _ _=Xv _ _
  rw [(gi_step h0 (show s.i<s.l.length by omega)).1]
  rfl) s hE
def adh:List LV→T LV
 | [.v (.int .i64 f),.xl (.int .i64) l]=> .req ((List.length l:Int)≤1000) (.ok (.v (.int .i64 (Xv f l))))
 |_=> .no
noncomputable def YN:List LV→T LV:=gQ Tryz.prog Tryz.f106.params.toList adh
theorem aoW (f:Int) (l:List Int):bV Tryz.prog aS (abo) dZ (fun i=>if i=2 then Fj.lp else aC i) Tryz.f106 [.v (.int .i64 f),.xl (.int .i64) l]=.req (ayX (⟨f,l,(List.length l:Int),(0:Int)⟩:mQ)) (.ok (.v (.int .i64 (zH (⟨f,l,(List.length l:Int),(0:Int)⟩:mQ)).first))):=by kernel_rfl
theorem auf:Valid Tryz.prog aS 106 YN:=aH Tryz.func106 rfl ajk aF (L:=(fun i=>if i=2 then Fj.lp else aC i)) (fun b hb=>by
 rw [show aB _=[BI] by kernel_rfl] at hb
 simp only [List.mem_cons,List.not_mem_nil,or_false] at hb
 subst hb
 exact am4) (fun args lv h=>by
 unfold adh at h
 split at h
 ·simp only [canL,canX]
  rw [aoW]
  rename_i f l
  obtain ⟨hl,rfl⟩:=h
  refine nV ⟨⟨rfl,rfl,hl⟩,rfl,rfl⟩ (fun hE=>?_)
  obtain ⟨s',_,q1,q2⟩:=apr _ hE.1
  have q3:=aiF _ hE.1
  simp only at q3
  rw [q2] at q3
  have e:(zH ⟨f,l,(List.length l:Int),(0:Int)⟩).n=(List.length l:Int):=rfl
  have e2:(zH ⟨f,l,(List.length l:Int),(0:Int)⟩).l=l:=rfl
  rw [e,e2,List.drop_eq_nil_of_le (by omega)] at q3
  exact congrArg (fun z=>LV.v (.int .i64 z)) q3
 ·cases h)
def adb:List LV→T LV
 | [.v (.agg ⟨[.string nm,.int .i64 uQ,.int .i64 li,.int .i64 ne,.int .i64 ra,.int .i64 he,.int .i64 am,.int .i64 mo,.int .i64 ga,.int .i64 lo,.int .i64 de]⟩)]=> .ok (.v (.int .i64 (dN (nm,uQ,li,ne,(ra,he),am,mo,ga,lo,de))))
 |_=> .no
noncomputable def YM:List LV→T LV:=gQ Tryz.prog Tryz.f58.params.toList adb
noncomputable def asx:Specs:=aZ [(105,YF),(106,YN)]
theorem aBB:∀g S,asx g=some S→Valid Tryz.prog aS g S:=aT (l:=[(105,YF),(106,YN)]) ⟨at1,auf,trivial⟩
theorem aoS (nm:ByteArray) (uQ li ne ra he am mo ga lo de:Int):bV Tryz.prog aS (asx) dZ aC Tryz.f58 [.v (.agg #[.string nm,.int .i64 uQ,.int .i64 li,.int .i64 ne,.int .i64 ra,.int .i64 he,.int .i64 am,.int .i64 mo,.int .i64 ga,.int .i64 lo,.int .i64 de])]=.br ((pmE (am,mo,ga,lo,de)) !=0) (.br (ra==0) (.req ((List.length ([ne,(0:Int)]):Int)≤1000) (.ok (.v (.int .i64 (Xv li ([ne,(0:Int)])))))) (.req ((List.length ([ne,(0:Int),ra]):Int)≤1000) (.ok (.v (.int .i64 (Xv li ([ne,(0:Int),ra]))))))) (.br (ra==0) (.req ((List.length ([ne,(pmA (am,mo,ga,lo,de))]):Int)≤1000) (.ok (.v (.int .i64 (Xv li ([ne,(pmA (am,mo,ga,lo,de))])))))) (.req ((List.length ([ne,(pmA (am,mo,ga,lo,de)),ra]):Int)≤1000) (.ok (.v (.int .i64 (Xv li ([ne,(pmA (am,mo,ga,lo,de)),ra]))))))):=by kernel_rfl
theorem aue:Valid Tryz.prog aS 58 YM:=aH Tryz.func58 rfl aBB aF (aX (by kernel_rfl)) (fun args lv h=>by
 unfold adb at h
 split at h
 ·simp only [canL,canX]
  rw [aoS]
  rename_i nm uQ li ne ra he am mo ga lo de
  obtain rfl:=h
  unfold dN
  simp only
  refine ⟨fun c=>?_,fun c=>?_⟩
  ·have e:pmA (am,mo,ga,lo,de)=0:=by
    rw [anY] at c
    have c:QL (am,mo,ga,lo,de)=false:=by simpa using c
    unfold pmA
    rw [c]
    rfl
   rw [e]
   refine ⟨fun c2=>⟨by simp,?_⟩,fun c2=>⟨by simp,?_⟩⟩
   ·rw [if_pos (by simpa using c2)];rfl
   ·rw [if_neg (by simpa using c2)];rfl
  ·refine ⟨fun c2=>⟨by simp,?_⟩,fun c2=>⟨by simp,?_⟩⟩
   ·rw [if_pos (by simpa using c2)];rfl
   ·rw [if_neg (by simpa using c2)];rfl
 ·cases h)
def acP:List LV→T LV
 | [.v (.int .i64 k),.xq 5 q0,.xq 2 q1]=>(match ([q0 0,q0 1,q0 2,q0 3,q0 4]:List LV) with
  | [.xl (.pair .str (.pair (.int .i64) (.pair (.int .i64) (.pair (.int .i64) (.pair (.pair (.int .i64) (.int .i64)) (.pair (.int .i64) (.pair (.int .i64) (.pair (.int .i64) (.pair (.int .i64) (.int .i64)))))))))) _,.xl (.str) _,.xl (.pair .str (.pair (.int .i64) (.pair (.int .i64) (.int .i64)))) _,.xl (.pair .str (.pair (.int .i64) (.pair (.int .i64) (.pair (.int .i64) (.pair (.int .i64) (.pair (.int .i64) (.pair (.int .i64) (.int .i64)))))))) gs,.xl (.pair .str (.int .i64)) _]=>(match ([q1 0,q1 1]:List LV) with
  | [.v (.int .i64 _),.v (.int .i64 p)]=> .req ((0≤k∧k<(List.length gs:Int))∧0≤p) (.ok (.v (.bool (usA (bn gs k).2.2.1 p))))
  |_=> .no)
  |_=> .no)
 |_=> .no
noncomputable def JC:List LV→T LV:=gQ Tryz.prog Tryz.f57.params.toList acP
theorem aow (k:Int) (cs:List Cd) (os:List ByteArray) (ks:List Ko) (gs:List Ch) (bs:List Ba) (c p:Int):bV Tryz.prog aS (abo) dZ aC Tryz.f57 [.v (.int .i64 k),.xq 5 (fun j=>([.xl dU cs,.xl .str os,.xl dV ks,.xl dP gs,.xl dW bs]:List LV).getD j .junk),.xq 2 (fun j=>([.v (.int .i64 c),.v (.int .i64 p)]:List LV).getD j .junk)]=.req (0≤k∧k<(List.length gs:Int)) (.req (0≤p) (.ok (.v (.bool ((aB9 .i64 (bn gs k).2.2.1 (IntKind.i64.wrap ((1:Int)*2^(min p.toNat 64)))) !=0))))):=by kernel_rfl
theorem afp:Valid Tryz.prog aS 57 JC:=aH Tryz.func57 rfl ajk aF (aX (by kernel_rfl)) (fun args lv h=>by
 unfold acP at h
 split at h
 ·split at h
  case h_2=>cases h
  rename_i heq0
  split at h
  case h_2=>cases h
  rename_i heq1
  simp only [canL,canX]
  rw [pq (n:=5) heq0]
  simp only [canL,canX]
  rw [pq (n:=2) heq1]
  simp only [canL,canX]
  rw [aow]
  obtain ⟨⟨h1,h2⟩,h3⟩:=h
  exact ⟨h1,h2,h3⟩
 ·cases h)
structure jR where
 cs:List Cd
 os:List ByteArray
 ks:List Ko
 gs:List Ch
 bs:List Ba
 c:Int
 p:Int
 l:List Int
 n:Int
 i:Int
 out:List Int
def aEl (s:jR):List LV:=[.fn 57 [.xq 5 (fun j=>([.xl dU s.cs,.xl .str s.os,.xl dV s.ks,.xl dP s.gs,.xl dW s.bs]:List LV).getD j .junk),.xq 2 (fun j=>([.v (.int .i64 s.c),.v (.int .i64 s.p)]:List LV).getD j .junk)],.os 0 1 0 (List.length s.out),.xl (.int .i64) s.l,.v (.int .i64 s.n),.v (.int .i64 s.i)]
def aDl (s:jR):List aU:=[⟨[],3,.vec (.int .i64) s.out,false⟩]
noncomputable def Cc:Code:=((aB (Tryz.f56.body.getD .skip))[0]?).getD .skip
def SK (s:jR):T (Rd jR):=
 .br (decide (s.i<s.n)) (.req (0≤s.i∧s.i<(List.length s.l:Int)) (.req ((0≤(gi s.l s.i)∧(gi s.l s.i)<(List.length s.gs:Int))∧0≤s.p) (.br (usA (bn s.gs (gi s.l s.i)).2.2.1 s.p) (.req (0+(List.length s.out)=List.length s.out∧((List.length s.out+List.length ([(gi s.l s.i)]):Nat):Int)*8≤2^47∧((List.length s.out+List.length ([(gi s.l s.i)]):Nat):Int)<2^62) (.req (0=0∧(List.length s.out+List.length ([(gi s.l s.i)]))=List.length (s.out++([(gi s.l s.i)]))) (.ok (.next {s with i:=(IntKind.i64.wrap (s.i+1)),out:=(s.out++([(gi s.l s.i)]))})))) (.rl s.out (.ok (.next {s with i:=(IntKind.i64.wrap (s.i+1))})))))) (.rl s.out (.ok (.stop (.exit 0) s)))
abbrev abQ (s:jR):=(SK s).rd s
def VQ (s:jR):Prop:=s.i=0∧s.out=[]∧s.n=(s.l.length:Int)∧s.n≤1000∧0≤s.p∧∀k∈s.l,0≤k∧k<(s.gs.length:Int)
def N7 (s:jR):Prop:=(0≤s.i∧s.i≤s.n)∧(s.out.length:Int)≤s.i∧s.n=(s.l.length:Int)∧s.n≤1000∧0≤s.p∧∀k∈s.l,0≤k∧k<(s.gs.length:Int)
def Il (s:jR):Nat:=(s.n-s.i).toNat
def alo (x:Ex) (_ s':jR):Prop:=x=.exit 0∧s'.i=s'.n
theorem aB6:∀s,VQ s→N7 s:=by
 intro s h
 obtain ⟨h0,h1,h2,h3,h4,h5⟩:=h
 exact ⟨by omega,by rw [h1];simp;omega,h2,h3,h4,h5⟩
theorem axW (s:jR) (hI:N7 s):bJ (fun s'=>N7 s'∧Il s'<Il s) (fun x s'=>alo x s s') (abQ s):=by
 unfold abQ SK
 dsimp only [T.rd,T.rl]
 obtain ⟨⟨h0,h1⟩,h2,h3,h4,h5,h6⟩:=hI
 refine au (fun c1=>?_) (fun c1=>?_)
 ·have c1:s.i<s.n:=by simpa using c1
  rw [aK (x:=s.i+1) (by omega) (by omega)]
  refine au (fun c2=>?_) (fun c2=>?_)
  ·exact ⟨⟨⟨by simp only;omega,by simp only;omega⟩,by simp only [List.length_append,List.length_cons,List.length_nil];omega,h3,h4,h5,h6⟩,by simp only [Il];omega⟩
  ·exact ⟨⟨⟨by simp only;omega,by simp only;omega⟩,by simp only;omega,h3,h4,h5,h6⟩,by simp only [Il];omega⟩
 ·have c1:s.n≤s.i:=by simpa using c1
  exact ⟨rfl,by omega⟩
def FP:bM jR:=⟨0,23,[1,5,8,9,10],[.nl 5 3 (.int .i64)],aEl,aDl,fun v b=>⟨aQ dU (ng (gFn (v.getD 0 .junk) 0) 0),aQ .str (ng (gFn (v.getD 0 .junk) 0) 1),aQ dV (ng (gFn (v.getD 0 .junk) 0) 2),aQ dP (ng (gFn (v.getD 0 .junk) 0) 3),aQ dW (ng (gFn (v.getD 0 .junk) 0) 4),gI (ng (gFn (v.getD 0 .junk) 1) 0),gI (ng (gFn (v.getD 0 .junk) 1) 1),aQ (.int .i64) (v.getD 2 .junk),gI (v.getD 3 .junk),gI (v.getD 4 .junk),iR (.int .i64) (aO b 0)⟩,SK,fun s r=> {r with cs:=s.cs,os:=s.os,ks:=s.ks,gs:=s.gs,bs:=s.bs,c:=s.c,p:=s.p,l:=s.l,n:=s.n},fun s=>s,fun _ s=>s,[.exit 0],VQ,N7,Il⟩
abbrev pW:=FP.run
abbrev aqk:=FP.jJ
abbrev azg:=FP.q
theorem avY (s:jR) (hI:N7 s):(SK s).all (fun _=>True):=by
 refine ⟨fun c1=>⟨?_,?_,fun c2=>⟨?_,?_,trivial⟩,fun c2=>⟨⟨rfl,rfl⟩,trivial⟩⟩,fun c1=>⟨⟨rfl,rfl⟩,trivial⟩⟩
 all_goals ((obtain ⟨⟨h0,h1⟩,h2,h3,h4,h5,h6⟩:=hI;(try simp only [decide_eq_true_eq] at c1);first|omega|(refine ⟨h6 _ ?_,h5⟩;rw [oK (by omega)];exact List.getElem_mem _) |(refine ⟨by omega,?_,?_⟩<;>simp only [List.length_cons,List.length_nil]<;>omega) |exact ⟨rfl,by simp⟩ |exact ⟨rfl,rfl⟩))
noncomputable def ajC:Specs:=aZ [(57,JC)]
theorem asf:∀g S,ajC g=some S→Valid Tryz.prog aS g S:=aT (l:=[(57,JC)]) ⟨afp,trivial⟩
theorem Xj:FP.Ok:=⟨fun s=>by kernel_rfl,fun s=>by kernel_rfl,fun s=>rfl,fun s t r=>rfl,fun s=>rfl,fun s=>by kernel_rfl⟩
theorem WT:FP.Pf (alo):=⟨aB6,fun _ _=>rfl,axW,avY⟩
theorem anm:bg Tryz.prog aS (AN 0) (.loop Cc) FP.lp:=bM.snd Xj WT (aP (Γ:=ajC) (K:=dZ) (L:=aC) asf aF Cc (fun b hb=>by rw [show aB Cc=[] by kernel_rfl] at hb;cases hb)) (fun s=>by kernel_rfl)
theorem aqG (s:jR) (hE:VQ s):∃s',N7 s'∧alo (aqk s) s' (pW s):=bM.fin Xj WT s hE
theorem aj1 (s:jR) (hE:VQ s):(fun s:jR=>s.out++gX s.gs s.p (s.l.drop s.i.toNat)) (pW s)=(fun s:jR=>s.out++gX s.gs s.p (s.l.drop s.i.toNat)) s:=by
 exact bM.uV Xj WT (fun s:jR=>s.out++gX s.gs s.p (s.l.drop s.i.toNat)) (fun s hI=>by
  show bJ _ _ (abQ s)
  unfold abQ SK
  dsimp only [T.rd,T.rl]
  obtain ⟨⟨h0,h1⟩,h2,h3,h4,h5,h6⟩:=hI
  refine au (fun c1=>?_) (fun c1=>rfl)
  have c1:s.i<s.n:=by simpa using c1
  rw [aK (x:=s.i+1) (by omega) (by omega)]
  refine au (fun c2=>?_) (fun c2=>?_)
  ·show _++gX _ _ _=_++gX _ _ _
   rw [(gi_step h0 (show s.i<s.l.length by omega)).1]
   simp [gX,c2]
  ·show _++gX _ _ _=_++gX _ _ _
   rw [(gi_step h0 (show s.i<s.l.length by omega)).1]
   simp [gX,c2]) s hE
theorem aqF (s:jR) (hE:VQ s):(pW s).out=gX s.gs s.p s.l:=by
 obtain ⟨s',_,q1,q2⟩:=aqG s hE
 have q3:=aj1 s hE
 obtain ⟨h0,h1,h2,h3⟩:=hE
 simp only at q3
 rw [q2,show (pW s).n=s.n from rfl,show (pW s).l=s.l from rfl,List.drop_eq_nil_of_le (by omega),h0,h1] at q3
 simpa [gX] using q3
def adB:List LV→T LV
 | [.xl (.int .i64) l,.fn 57 [.xq 5 q0,.xq 2 q1]]=>(match ([q0 0,q0 1,q0 2,q0 3,q0 4]:List LV) with
  | [.xl (.pair .str (.pair (.int .i64) (.pair (.int .i64) (.pair (.int .i64) (.pair (.pair (.int .i64) (.int .i64)) (.pair (.int .i64) (.pair (.int .i64) (.pair (.int .i64) (.pair (.int .i64) (.int .i64)))))))))) _,.xl (.str) _,.xl (.pair .str (.pair (.int .i64) (.pair (.int .i64) (.int .i64)))) _,.xl (.pair .str (.pair (.int .i64) (.pair (.int .i64) (.pair (.int .i64) (.pair (.int .i64) (.pair (.int .i64) (.pair (.int .i64) (.int .i64)))))))) gs,.xl (.pair .str (.int .i64)) _]=>(match ([q1 0,q1 1]:List LV) with
  | [.v (.int .i64 _),.v (.int .i64 p)]=> .req (UF gs p l) (.ok (.xl (.int .i64) (gX gs p l)))
  |_=> .no)
  |_=> .no)
 |_=> .no
noncomputable def Y5:List LV→T LV:=gQ Tryz.prog Tryz.f56.params.toList adB
theorem apf (l:List Int) (cs:List Cd) (os:List ByteArray) (ks:List Ko) (gs:List Ch) (bs:List Ba) (c p:Int):bV Tryz.prog aS (ajC) dZ (fun i=>if i=3 then FP.lp else aC i) Tryz.f56 [.xl (.int .i64) l,.fn 57 [.xq 5 (fun j=>([.xl dU cs,.xl .str os,.xl dV ks,.xl dP gs,.xl dW bs]:List LV).getD j .junk),.xq 2 (fun j=>([.v (.int .i64 c),.v (.int .i64 p)]:List LV).getD j .junk)]]=.req (0=0∧0=List.length ([]:List Int)) (.req (azg (⟨cs,os,ks,gs,bs,c,p,l,(List.length l:Int),(0:Int),([]:List Int)⟩:jR)) (.req (0+(List.length (pW (⟨cs,os,ks,gs,bs,c,p,l,(List.length l:Int),(0:Int),([]:List Int)⟩:jR)).out)≤List.length (pW (⟨cs,os,ks,gs,bs,c,p,l,(List.length l:Int),(0:Int),([]:List Int)⟩:jR)).out) (.ok (.xl (.int .i64) (((pW (⟨cs,os,ks,gs,bs,c,p,l,(List.length l:Int),(0:Int),([]:List Int)⟩:jR)).out.drop 0).take (List.length (pW (⟨cs,os,ks,gs,bs,c,p,l,(List.length l:Int),(0:Int),([]:List Int)⟩:jR)).out)))))):=by kernel_rfl
theorem auw:Valid Tryz.prog aS 56 Y5:=aH Tryz.func56 rfl asf aF (L:=(fun i=>if i=3 then FP.lp else aC i)) (fun b hb=>by
 rw [show aB _=[Cc] by kernel_rfl] at hb
 simp only [List.mem_cons,List.not_mem_nil,or_false] at hb
 subst hb
 exact anm) (fun args lv h=>by
 unfold adB at h
 split at h
 ·split at h
  case h_2=>cases h
  rename_i heq0
  split at h
  case h_2=>cases h
  rename_i heq1
  simp only [canL,canX]
  rw [pq (n:=5) heq0]
  simp only [canL,canX]
  rw [pq (n:=2) heq1]
  simp only [canL,canX]
  rw [apf]
  obtain ⟨⟨hp,hl,hm⟩,rfl⟩:=h
  refine ⟨⟨rfl,rfl⟩,nV ⟨⟨rfl,rfl,rfl,by simp only;omega,hp,hm⟩,rfl,rfl⟩ (fun hE=>⟨by omega,?_⟩)⟩
  show LV.xl _ _=_
  rw [List.drop_zero,List.take_length,aqF _ hE.1]
 ·cases h)
end Go.Proofs.YtlihnbimgclogaaGreatDoor
namespace Go.Proofs.YtlihnbimgclogaaGreatDoor
open Go.Sx
noncomputable def af2:Array Tmp×Code×Code:=((jI (Tryz.f24.body.getD .skip))[0]?).getD (#[],.skip,.skip)
noncomputable def aAi:Array Tmp:=af2.1
noncomputable def aAC:Code:=af2.2.1
noncomputable def aAx:Code:=af2.2.2
structure vz where
 n:Int
 c:Int
 af:List Cd
 aJ:List ByteArray
 aG:List Ko
 ak:List Ch
 aV:List Ba
 below:List Int
 bP:List Cd
 dY:List ByteArray
 bU:List Ko
 cu:List Ch
 iE:List Ba
 rows:List Rw
 st:LS
def aE9 (s:vz):List LV:=[.uP 4,.v (.int .i64 s.n),.v (.int .i64 s.c)]
noncomputable def aE1 (s:vz):List aU:=[⟨[.xl dU s.af,.xl .str s.aJ,.xl dV s.aG,.xl dP s.ak,.xl dW s.aV],28,.cl,true⟩,⟨[.os 5 2 0 (List.length s.rows)],49,.cl,false⟩,⟨[.xl (.int .i64) s.below],35,.cl,false⟩,⟨[.xl dU s.bP,.xl .str s.dY,.xl dV s.bU,.xl dP s.cu,.xl dW s.iE],28,.cl,false⟩,⟨[.junk,.own 0 0,.junk,.junk,.own 1 0,.own 2 0,.v (.tuple #[]),.v (.tuple #[]),.junk,.junk,.junk,.junk,.junk,.v (.tuple #[]),.v (.tuple #[]),.v (.tuple #[]),.v (.tuple #[]),.v (.tuple #[]),.v (.tuple #[]),.v (.tuple #[]),.v (.tuple #[]),.v (.tuple #[]),.v (.tuple #[]),.junk,.v (.tuple #[]),.v (.tuple #[]),.v (.tuple #[]),.v (.tuple #[]),.v (.tuple #[]),.v (.tuple #[]),.v (.tuple #[]),.v (.tuple #[]),.v (.tuple #[]),.v (.tuple #[]),.v (.tuple #[]),.v (.tuple #[]),.v (.tuple #[]),.v (.tuple #[]),.v (.tuple #[]),.v (.tuple #[]),.v (.tuple #[]),.v (.tuple #[]),.junk],0,.kG aAi aAC aAx s.st,false⟩,⟨[],107,.vec F6 s.rows,false⟩]
noncomputable def acv:Code:=((aB (Tryz.f101.body.getD .skip))[0]?).getD .skip
set_option maxHeartbeats 4000000 in
def ama (s:vz):T (Rd vz):=
 .br (decide (s.c<s.n)) (.req (UF s.ak (0:Int) (bT s.af s.aJ s.aG s.ak s.aV s.c)) (.br (decide ((List.length (gX s.ak (0:Int) (bT s.af s.aJ s.aG s.ak s.aV s.c)):Int)>0)) (.req (0≤s.c∧s.c<(List.length s.af:Int)) (.req (0+(List.length s.rows)=List.length s.rows∧((List.length s.rows+List.length ([((dN (fP s.af s.c)),gX s.ak (0:Int) (bT s.af s.aJ s.aG s.ak s.aV s.c))]):Nat):Int)*32≤2^47∧((List.length s.rows+List.length ([((dN (fP s.af s.c)),gX s.ak (0:Int) (bT s.af s.aJ s.aG s.ak s.aV s.c))]):Nat):Int)<2^62) (.req (UF s.ak (1:Int) (bT s.af s.aJ s.aG s.ak s.aV s.c)) (.br (decide ((List.length (gX s.ak (1:Int) (bT s.af s.aJ s.aG s.ak s.aV s.c)):Int)>0)) (.req (0≤s.c∧s.c<(List.length s.af:Int)) (.req (0+(List.length s.rows+List.length ([((dN (fP s.af s.c)),gX s.ak (0:Int) (bT s.af s.aJ s.aG s.ak s.aV s.c))]))=List.length (s.rows++([((dN (fP s.af s.c)),gX s.ak (0:Int) (bT s.af s.aJ s.aG s.ak s.aV s.c))]))∧((List.length s.rows+List.length ([((dN (fP s.af s.c)),gX s.ak (0:Int) (bT s.af s.aJ s.aG s.ak s.aV s.c))])+List.length ([((dN (fP s.af s.c)),gX s.ak (1:Int) (bT s.af s.aJ s.aG s.ak s.aV s.c))]):Nat):Int)*32≤2^47∧((List.length s.rows+List.length ([((dN (fP s.af s.c)),gX s.ak (0:Int) (bT s.af s.aJ s.aG s.ak s.aV s.c))])+List.length ([((dN (fP s.af s.c)),gX s.ak (1:Int) (bT s.af s.aJ s.aG s.ak s.aV s.c))]):Nat):Int)<2^62) (.req (UF s.ak (2:Int) (bT s.af s.aJ s.aG s.ak s.aV s.c)) (.br (decide ((List.length (gX s.ak (2:Int) (bT s.af s.aJ s.aG s.ak s.aV s.c)):Int)>0)) (.req (0≤s.c∧s.c<(List.length s.af:Int)) (.req (0+(List.length s.rows+List.length ([((dN (fP s.af s.c)),gX s.ak (0:Int) (bT s.af s.aJ s.aG s.ak s.aV s.c))])+List.length ([((dN (fP s.af s.c)),gX s.ak (1:Int) (bT s.af s.aJ s.aG s.ak s.aV s.c))]))=List.length ((s.rows++([((dN (fP s.af s.c)),gX s.ak (0:Int) (bT s.af s.aJ s.aG s.ak s.aV s.c))]))++([((dN (fP s.af s.c)),gX s.ak (1:Int) (bT s.af s.aJ s.aG s.ak s.aV s.c))]))∧((List.length s.rows+List.length ([((dN (fP s.af s.c)),gX s.ak (0:Int) (bT s.af s.aJ s.aG s.ak s.aV s.c))])+List.length ([((dN (fP s.af s.c)),gX s.ak (1:Int) (bT s.af s.aJ s.aG s.ak s.aV s.c))])+List.length ([((dN (fP s.af s.c)),gX s.ak (2:Int) (bT s.af s.aJ s.aG s.ak s.aV s.c))]):Nat):Int)*32≤2^47∧((List.length s.rows+List.length ([((dN (fP s.af s.c)),gX s.ak (0:Int) (bT s.af s.aJ s.aG s.ak s.aV s.c))])+List.length ([((dN (fP s.af s.c)),gX s.ak (1:Int) (bT s.af s.aJ s.aG s.ak s.aV s.c))])+List.length ([((dN (fP s.af s.c)),gX s.ak (2:Int) (bT s.af s.aJ s.aG s.ak s.aV s.c))]):Nat):Int)<2^62) (.req (0=0∧(List.length s.rows+List.length ([((dN (fP s.af s.c)),gX s.ak (0:Int) (bT s.af s.aJ s.aG s.ak s.aV s.c))])+List.length ([((dN (fP s.af s.c)),gX s.ak (1:Int) (bT s.af s.aJ s.aG s.ak s.aV s.c))])+List.length ([((dN (fP s.af s.c)),gX s.ak (2:Int) (bT s.af s.aJ s.aG s.ak s.aV s.c))]))=List.length (((s.rows++([((dN (fP s.af s.c)),gX s.ak (0:Int) (bT s.af s.aJ s.aG s.ak s.aV s.c))]))++([((dN (fP s.af s.c)),gX s.ak (1:Int) (bT s.af s.aJ s.aG s.ak s.aV s.c))]))++([((dN (fP s.af s.c)),gX s.ak (2:Int) (bT s.af s.aJ s.aG s.ak s.aV s.c))]))) (.ok (.next {s with c:=(IntKind.i64.wrap (s.c+1)),below:=(bT s.af s.aJ s.aG s.ak s.aV s.c),rows:=(((s.rows++([((dN (fP s.af s.c)),gX s.ak (0:Int) (bT s.af s.aJ s.aG s.ak s.aV s.c))]))++([((dN (fP s.af s.c)),gX s.ak (1:Int) (bT s.af s.aJ s.aG s.ak s.aV s.c))]))++([((dN (fP s.af s.c)),gX s.ak (2:Int) (bT s.af s.aJ s.aG s.ak s.aV s.c))]))}))))) (.req (0=0∧(List.length s.rows+List.length ([((dN (fP s.af s.c)),gX s.ak (0:Int) (bT s.af s.aJ s.aG s.ak s.aV s.c))])+List.length ([((dN (fP s.af s.c)),gX s.ak (1:Int) (bT s.af s.aJ s.aG s.ak s.aV s.c))]))=List.length ((s.rows++([((dN (fP s.af s.c)),gX s.ak (0:Int) (bT s.af s.aJ s.aG s.ak s.aV s.c))]))++([((dN (fP s.af s.c)),gX s.ak (1:Int) (bT s.af s.aJ s.aG s.ak s.aV s.c))]))) (.ok (.next {s with c:=(IntKind.i64.wrap (s.c+1)),below:=(bT s.af s.aJ s.aG s.ak s.aV s.c),rows:=((s.rows++([((dN (fP s.af s.c)),gX s.ak (0:Int) (bT s.af s.aJ s.aG s.ak s.aV s.c))]))++([((dN (fP s.af s.c)),gX s.ak (1:Int) (bT s.af s.aJ s.aG s.ak s.aV s.c))]))}))))))) (.req (UF s.ak (2:Int) (bT s.af s.aJ s.aG s.ak s.aV s.c)) (.br (decide ((List.length (gX s.ak (2:Int) (bT s.af s.aJ s.aG s.ak s.aV s.c)):Int)>0)) (.req (0≤s.c∧s.c<(List.length s.af:Int)) (.req (0+(List.length s.rows+List.length ([((dN (fP s.af s.c)),gX s.ak (0:Int) (bT s.af s.aJ s.aG s.ak s.aV s.c))]))=List.length (s.rows++([((dN (fP s.af s.c)),gX s.ak (0:Int) (bT s.af s.aJ s.aG s.ak s.aV s.c))]))∧((List.length s.rows+List.length ([((dN (fP s.af s.c)),gX s.ak (0:Int) (bT s.af s.aJ s.aG s.ak s.aV s.c))])+List.length ([((dN (fP s.af s.c)),gX s.ak (2:Int) (bT s.af s.aJ s.aG s.ak s.aV s.c))]):Nat):Int)*32≤2^47∧((List.length s.rows+List.length ([((dN (fP s.af s.c)),gX s.ak (0:Int) (bT s.af s.aJ s.aG s.ak s.aV s.c))])+List.length ([((dN (fP s.af s.c)),gX s.ak (2:Int) (bT s.af s.aJ s.aG s.ak s.aV s.c))]):Nat):Int)<2^62) (.req (0=0∧(List.length s.rows+List.length ([((dN (fP s.af s.c)),gX s.ak (0:Int) (bT s.af s.aJ s.aG s.ak s.aV s.c))])+List.length ([((dN (fP s.af s.c)),gX s.ak (2:Int) (bT s.af s.aJ s.aG s.ak s.aV s.c))]))=List.length ((s.rows++([((dN (fP s.af s.c)),gX s.ak (0:Int) (bT s.af s.aJ s.aG s.ak s.aV s.c))]))++([((dN (fP s.af s.c)),gX s.ak (2:Int) (bT s.af s.aJ s.aG s.ak s.aV s.c))]))) (.ok (.next {s with c:=(IntKind.i64.wrap (s.c+1)),below:=(bT s.af s.aJ s.aG s.ak s.aV s.c),rows:=((s.rows++([((dN (fP s.af s.c)),gX s.ak (0:Int) (bT s.af s.aJ s.aG s.ak s.aV s.c))]))++([((dN (fP s.af s.c)),gX s.ak (2:Int) (bT s.af s.aJ s.aG s.ak s.aV s.c))]))}))))) (.req (0=0∧(List.length s.rows+List.length ([((dN (fP s.af s.c)),gX s.ak (0:Int) (bT s.af s.aJ s.aG s.ak s.aV s.c))]))=List.length (s.rows++([((dN (fP s.af s.c)),gX s.ak (0:Int) (bT s.af s.aJ s.aG s.ak s.aV s.c))]))) (.ok (.next {s with c:=(IntKind.i64.wrap (s.c+1)),below:=(bT s.af s.aJ s.aG s.ak s.aV s.c),rows:=(s.rows++([((dN (fP s.af s.c)),gX s.ak (0:Int) (bT s.af s.aJ s.aG s.ak s.aV s.c))]))}))))))))) (.req (UF s.ak (1:Int) (bT s.af s.aJ s.aG s.ak s.aV s.c)) (.br (decide ((List.length (gX s.ak (1:Int) (bT s.af s.aJ s.aG s.ak s.aV s.c)):Int)>0)) (.req (0≤s.c∧s.c<(List.length s.af:Int)) (.req (0+(List.length s.rows)=List.length s.rows∧((List.length s.rows+List.length ([((dN (fP s.af s.c)),gX s.ak (1:Int) (bT s.af s.aJ s.aG s.ak s.aV s.c))]):Nat):Int)*32≤2^47∧((List.length s.rows+List.length ([((dN (fP s.af s.c)),gX s.ak (1:Int) (bT s.af s.aJ s.aG s.ak s.aV s.c))]):Nat):Int)<2^62) (.req (UF s.ak (2:Int) (bT s.af s.aJ s.aG s.ak s.aV s.c)) (.br (decide ((List.length (gX s.ak (2:Int) (bT s.af s.aJ s.aG s.ak s.aV s.c)):Int)>0)) (.req (0≤s.c∧s.c<(List.length s.af:Int)) (.req (0+(List.length s.rows+List.length ([((dN (fP s.af s.c)),gX s.ak (1:Int) (bT s.af s.aJ s.aG s.ak s.aV s.c))]))=List.length (s.rows++([((dN (fP s.af s.c)),gX s.ak (1:Int) (bT s.af s.aJ s.aG s.ak s.aV s.c))]))∧((List.length s.rows+List.length ([((dN (fP s.af s.c)),gX s.ak (1:Int) (bT s.af s.aJ s.aG s.ak s.aV s.c))])+List.length ([((dN (fP s.af s.c)),gX s.ak (2:Int) (bT s.af s.aJ s.aG s.ak s.aV s.c))]):Nat):Int)*32≤2^47∧((List.length s.rows+List.length ([((dN (fP s.af s.c)),gX s.ak (1:Int) (bT s.af s.aJ s.aG s.ak s.aV s.c))])+List.length ([((dN (fP s.af s.c)),gX s.ak (2:Int) (bT s.af s.aJ s.aG s.ak s.aV s.c))]):Nat):Int)<2^62) (.req (0=0∧(List.length s.rows+List.length ([((dN (fP s.af s.c)),gX s.ak (1:Int) (bT s.af s.aJ s.aG s.ak s.aV s.c))])+List.length ([((dN (fP s.af s.c)),gX s.ak (2:Int) (bT s.af s.aJ s.aG s.ak s.aV s.c))]))=List.length ((s.rows++([((dN (fP s.af s.c)),gX s.ak (1:Int) (bT s.af s.aJ s.aG s.ak s.aV s.c))]))++([((dN (fP s.af s.c)),gX s.ak (2:Int) (bT s.af s.aJ s.aG s.ak s.aV s.c))]))) (.ok (.next {s with c:=(IntKind.i64.wrap (s.c+1)),below:=(bT s.af s.aJ s.aG s.ak s.aV s.c),rows:=((s.rows++([((dN (fP s.af s.c)),gX s.ak (1:Int) (bT s.af s.aJ s.aG s.ak s.aV s.c))]))++([((dN (fP s.af s.c)),gX s.ak (2:Int) (bT s.af s.aJ s.aG s.ak s.aV s.c))]))}))))) (.req (0=0∧(List.length s.rows+List.length ([((dN (fP s.af s.c)),gX s.ak (1:Int) (bT s.af s.aJ s.aG s.ak s.aV s.c))]))=List.length (s.rows++([((dN (fP s.af s.c)),gX s.ak (1:Int) (bT s.af s.aJ s.aG s.ak s.aV s.c))]))) (.ok (.next {s with c:=(IntKind.i64.wrap (s.c+1)),below:=(bT s.af s.aJ s.aG s.ak s.aV s.c),rows:=(s.rows++([((dN (fP s.af s.c)),gX s.ak (1:Int) (bT s.af s.aJ s.aG s.ak s.aV s.c))]))}))))))) (.req (UF s.ak (2:Int) (bT s.af s.aJ s.aG s.ak s.aV s.c)) (.br (decide ((List.length (gX s.ak (2:Int) (bT s.af s.aJ s.aG s.ak s.aV s.c)):Int)>0)) (.req (0≤s.c∧s.c<(List.length s.af:Int)) (.req (0+(List.length s.rows)=List.length s.rows∧((List.length s.rows+List.length ([((dN (fP s.af s.c)),gX s.ak (2:Int) (bT s.af s.aJ s.aG s.ak s.aV s.c))]):Nat):Int)*32≤2^47∧((List.length s.rows+List.length ([((dN (fP s.af s.c)),gX s.ak (2:Int) (bT s.af s.aJ s.aG s.ak s.aV s.c))]):Nat):Int)<2^62) (.req (0=0∧(List.length s.rows+List.length ([((dN (fP s.af s.c)),gX s.ak (2:Int) (bT s.af s.aJ s.aG s.ak s.aV s.c))]))=List.length (s.rows++([((dN (fP s.af s.c)),gX s.ak (2:Int) (bT s.af s.aJ s.aG s.ak s.aV s.c))]))) (.ok (.next {s with c:=(IntKind.i64.wrap (s.c+1)),below:=(bT s.af s.aJ s.aG s.ak s.aV s.c),rows:=(s.rows++([((dN (fP s.af s.c)),gX s.ak (2:Int) (bT s.af s.aJ s.aG s.ak s.aV s.c))]))}))))) (.rl s.rows (.ok (.next {s with c:=(IntKind.i64.wrap (s.c+1)),below:=(bT s.af s.aJ s.aG s.ak s.aV s.c)}))))))))) (.rl s.rows (.ok (.stop (.exit 0) s)))
abbrev aBM (s:vz):=(ama s).rd s
def aqU (s:vz):Prop:=s.st=.ready∧s.c=0∧s.rows=[]∧fO s.af s.aJ s.aG s.ak s.aV=true∧s.n=(s.af.length:Int)
def ae5 (s:vz):Prop:=s.st=.ready∧(0≤s.c∧s.c≤s.n)∧s.rows=jC s.af s.ak s.c.toNat∧fO s.af s.aJ s.aG s.ak s.aV=true∧s.n=(s.af.length:Int)
def aaL (s:vz):Nat:=(s.n-s.c).toNat
def ayf (x:Ex) (_ s':vz):Prop:=x=.exit 0∧s'.rows=jC s'.af s'.ak s'.af.length
theorem aEA:∀s,aqU s→ae5 s:=by
 intro s h
 obtain ⟨h0,h1,h2,h3,h4⟩:=h
 exact ⟨h0,by omega,by rw [h1,h2];rfl,h3,h4⟩
theorem az2 (s:vz) (hI:ae5 s):bJ (fun s'=>ae5 s'∧aaL s'<aaL s) (fun x s'=>ayf x s s') (aBM s):=by
 unfold aBM ama
 dsimp only [T.rd,T.rl]
 obtain ⟨h0,⟨h1,h2⟩,h3,h4,h5⟩:=hI
 refine au (fun c1=>?_) (fun c1=>?_)
 rotate_left
 ·have c1:s.n≤s.c:=by simpa using c1
  exact ⟨rfl,by rw [h3,show s.c.toNat=s.af.length by omega]⟩
 have c1:s.c<s.n:=by simpa using c1
 have hl:=(gW.1 h4).1
 rw [aK (x:=s.c+1) (by omega) (by omega)]
 have eb:bT s.af s.aJ s.aG s.ak s.aV s.c=sW s.af s.ak s.c s.ak.length:=by
  unfold bT
  rw [if_pos ⟨h4,h1,by omega⟩]
 rw [eb]
 have fin:∀r:List Rw,r=jC s.af s.ak s.c.toNat++(rowP s.af s.ak s.c 0++rowP s.af s.ak s.c 1++rowP s.af s.ak s.c 2)→r=jC s.af s.ak (s.c+1).toNat:=fun r hr=>by
  rw [hr,show (s.c+1).toNat=s.c.toNat+1 by omega,jC,Int.toNat_of_nonneg h1]
  rfl
 refine au (fun c2=>?_) (fun c2=>?_)<;>refine au (fun c3=>?_) (fun c3=>?_)<;>refine au (fun c4=>?_) (fun c4=>?_)
 all_goals
  refine ⟨⟨h0,⟨by simp only;omega,by simp only;omega⟩,?_,h4,h5⟩,by simp only [aaL];omega⟩
  simp only [decide_eq_true_eq,decide_eq_false_iff_not] at c2 c3 c4
  refine fin _ ?_
  simp only [h3,rowP]
  first|rw [if_pos (by omega)] |rw [if_neg (by omega)]
  first|rw [if_pos (by omega)] |rw [if_neg (by omega)]
  first|rw [if_pos (by omega)] |rw [if_neg (by omega)]
  simp only [List.append_assoc,List.nil_append,List.append_nil]
noncomputable def Zd:bM vz:=⟨5,22,[0,7,8],[.nc 1 0 107 F6,.pc 2 0 (.int .i64),.pk 0],aE9,aE1,fun v b=>⟨gI (v.getD 1 .junk),gI (v.getD 2 .junk),aQ dU (aY (aO b 0) 0),aQ .str (aY (aO b 0) 1),aQ dV (aY (aO b 0) 2),aQ dP (aY (aO b 0) 3),aQ dW (aY (aO b 0) 4),aQ (.int .i64) (aY (aO b 2) 0),aQ dU (aY (aO b 3) 0),aQ .str (aY (aO b 3) 1),aQ dV (aY (aO b 3) 2),aQ dP (aY (aO b 3) 3),aQ dW (aY (aO b 3) 4),iR F6 (aO b 5),.ready⟩,ama,fun s r=> {r with n:=s.n,af:=s.af,aJ:=s.aJ,aG:=s.aG,ak:=s.ak,aV:=s.aV,bP:=s.bP,dY:=s.dY,bU:=s.bU,cu:=s.cu,iE:=s.iE,st:=s.st},fun s=> {s with st:=.ready},fun x s=> {s with st:=(match x with| .exit 0=> .ready|_=> .ready)},[.exit 0],aqU,ae5,aaL⟩
noncomputable abbrev Dh:=Zd.run
noncomputable abbrev axz:=Zd.jJ
abbrev aCj:=Zd.q
noncomputable def En:Specs:=aZ [(53,JA),(55,Q8),(56,Y5),(57,JC),(58,YM)]
theorem IY:∀g S,En g=some S→Valid Tryz.prog aS g S:=aT (l:=[(53,JA),(55,Q8),(56,Y5),(57,JC),(58,YM)]) ⟨afn,al6,auw,afp,aue,trivial⟩
noncomputable def aja:Hand:=inl Tryz.prog aS En (lX Tryz.prog aS (En) 20 2) 9
theorem arM:dF Tryz.prog aS aja:=bQ IY (dQ IY) 9
theorem aAa (s:vz) (hI:ae5 s):(ama s).all (fun _=>True):=by
 refine ⟨fun c1=>⟨?_,fun c2=>⟨?_,?_,?_,fun c3=>⟨?_,?_,?_,fun c4=>⟨?_,?_,?_,trivial⟩,fun c4=>⟨?_,trivial⟩⟩,fun c3=>⟨?_,fun c5=>⟨?_,?_,?_,trivial⟩,fun c5=>⟨?_,trivial⟩⟩⟩,fun c2=>⟨?_,fun c6=>⟨?_,?_,?_,fun c7=>⟨?_,?_,?_,trivial⟩,fun c7=>⟨?_,trivial⟩⟩,fun c6=>⟨?_,fun c8=>⟨?_,?_,?_,trivial⟩,fun c8=>⟨⟨rfl,rfl⟩,trivial⟩⟩⟩⟩,fun c1=>⟨⟨rfl,rfl⟩,trivial⟩⟩
 all_goals ((obtain ⟨h0,⟨h1,h2⟩,h3,h4,h5⟩:=hI;have hl:=(gW.1 h4).1;(try simp only [decide_eq_true_eq] at c1);have hr:s.rows.length≤3*s.c.toNat:=(by rw [h3];exact zJ);have eb:bT s.af s.aJ s.aG s.ak s.aV s.c=sW s.af s.ak s.c s.ak.length:=(by unfold bT;rw [if_pos ⟨h4,h1,by omega⟩]);first|omega|((try simp only);rw [eb];refine ⟨by decide,Nat.le_trans Jq (by omega),fun k hk=>UY hk⟩) |(refine ⟨by omega,?_,?_⟩<;>simp only [List.length_cons,List.length_nil]<;>omega) |(simp only [List.length_append,List.length_cons,List.length_nil];omega) |exact ⟨rfl,by simp⟩ |exact ⟨rfl,rfl⟩))
theorem arn:Zd.Ok:=⟨fun s=>by kernel_rfl,fun s=>by kernel_rfl,fun s=>rfl,fun s t r=>rfl,fun s=>rfl,fun s=>by kernel_rfl⟩
theorem arb:Zd.Pf (ayf):=⟨aEA,fun s h=>by
 obtain ⟨n,c,af,aJ,aG,ak,aV,below,bP,dY,bU,cu,iE,rows,st⟩:=s
 have e:st=.ready:=h.1
 subst e
 rfl,az2,aAa⟩
theorem auK:bg Tryz.prog aS (AN 5) (.loop acv) Zd.lp:=bM.snd arn arb (bF (Γ:=En) (K:=aja) (L:=(tN Tryz.prog aS En aja 20 2)) IY arM acv (fun b _=>dR IY arM 20 2 b)) (fun s=>by kernel_rfl)
theorem auT (s:vz) (hE:aqU s):∃s',ae5 s'∧ayf (axz s) s' (Dh s):=bM.fin arn arb s hE
def acQ:List LV→T LV
 | [.agg [.xl (.pair .str (.pair (.int .i64) (.pair (.int .i64) (.pair (.int .i64) (.pair (.pair (.int .i64) (.int .i64)) (.pair (.int .i64) (.pair (.int .i64) (.pair (.int .i64) (.pair (.int .i64) (.int .i64)))))))))) cs,.xl (.str) os,.xl (.pair .str (.pair (.int .i64) (.pair (.int .i64) (.int .i64)))) ks,.xl (.pair .str (.pair (.int .i64) (.pair (.int .i64) (.pair (.int .i64) (.pair (.int .i64) (.pair (.int .i64) (.pair (.int .i64) (.int .i64)))))))) gs,.xl (.pair .str (.int .i64)) bs]]=> .ok (.gq [.xl F6 (iy cs os ks gs bs),.v (.int .i64 (OI cs os ks gs bs))])
 |_=> .no
noncomputable def nX:List LV→T LV:=gQ Tryz.prog Tryz.f24.params.toList acQ
noncomputable def arV:Hand:=inl Tryz.prog aS En (kD 101 5 1 (Zd.lp) (lX Tryz.prog aS (En) 20 2)) 9
theorem aBg:dF Tryz.prog aS arV:=bQ IY (dM Tryz.func101 rfl (by kernel_rfl) auK (dQ IY)) 9
theorem aox (cs:List Cd) (os:List ByteArray) (ks:List Ko) (gs:List Ch) (bs:List Ba):bV Tryz.prog aS (En) arV aC Tryz.f24 [.agg [.xl dU cs,.xl .str os,.xl dV ks,.xl dP gs,.xl dW bs]]=.br (!(fO cs os ks gs bs)) (.ok (.gq [.xl F6 ([]:List Rw),.v (.int .i64 1)])) (.req (0=0∧0=List.length ([]:List Rw)) (.req (aCj (⟨(List.length cs:Int),(0:Int),cs,os,ks,gs,bs,([]:List Int),cs,os,ks,gs,bs,([]:List Rw),.ready⟩:vz)) (.req (0+(List.length (Dh (⟨(List.length cs:Int),(0:Int),cs,os,ks,gs,bs,([]:List Int),cs,os,ks,gs,bs,([]:List Rw),.ready⟩:vz)).rows)≤List.length (Dh (⟨(List.length cs:Int),(0:Int),cs,os,ks,gs,bs,([]:List Int),cs,os,ks,gs,bs,([]:List Rw),.ready⟩:vz)).rows) (.ok (.gq [.xl F6 (((Dh (⟨(List.length cs:Int),(0:Int),cs,os,ks,gs,bs,([]:List Int),cs,os,ks,gs,bs,([]:List Rw),.ready⟩:vz)).rows.drop 0).take (List.length (Dh (⟨(List.length cs:Int),(0:Int),cs,os,ks,gs,bs,([]:List Int),cs,os,ks,gs,bs,([]:List Rw),.ready⟩:vz)).rows)),.v (.int .i64 0)]))))):=by kernel_rfl
theorem CY:Valid Tryz.prog aS 24 nX:=aH Tryz.func24 rfl IY aBg (aX (by kernel_rfl)) (fun args lv h=>by
 unfold acQ at h
 split at h
 ·simp only [canL,canX]
  rw [aox]
  rename_i cs os ks gs bs
  obtain rfl:=h
  refine ⟨fun c=>?_,fun c=>?_⟩
  ·have c:fO cs os ks gs bs=false:=by simpa using c
   show LV.gq _=_
   unfold iy OI
   rw [c]
   rfl
  ·have c:fO cs os ks gs bs=true:=by simpa using c
   have hE:aqU ⟨(List.length cs:Int),(0:Int),cs,os,ks,gs,bs,([]:List Int),cs,os,ks,gs,bs,([]:List (Int×(List Int))),.ready⟩:=⟨rfl,rfl,rfl,c,rfl⟩
   obtain ⟨s',_,q1,q2⟩:=auT _ hE
   have q2:(Dh ⟨(List.length cs:Int),(0:Int),cs,os,ks,gs,bs,([]:List Int),cs,os,ks,gs,bs,([]:List (Int×(List Int))),.ready⟩).rows=jC cs gs cs.length:=q2
   refine ⟨⟨rfl,rfl⟩,⟨hE,rfl,rfl⟩,by omega,?_⟩
   show LV.gq [LV.xl _ _,_]=_
   rw [List.drop_zero,List.take_length,q2]
   unfold iy OI
   rw [if_pos c,if_pos c]
 ·cases h)
end Go.Proofs.YtlihnbimgclogaaGreatDoor
namespace Go.Proofs.YtlihnbimgclogaaGreatDoor
open Go.Sx
def akK:List LV→T LV
 | [.v (.int .i64 n),.v (.int .i64 a),.v (.int .i64 b)]=> .ok (.v (.bool (inB n a b)))
 |_=> .no
noncomputable def U7:List LV→T LV:=gQ Tryz.prog Tryz.f68.params.toList akK
noncomputable def asj:Specs:=aZ []
theorem aBr:∀g S,asj g=some S→Valid Tryz.prog aS g S:=aT (l:=[]) trivial
theorem awR (n a b:Int):bV Tryz.prog aS (asj) dZ aC Tryz.f68 [.v (.int .i64 n),.v (.int .i64 a),.v (.int .i64 b)]=.ok (.v (.bool ((decide (n≥a))&&(decide (n≤b))))):=by kernel_rfl
theorem aq4:Valid Tryz.prog aS 68 U7:=aH Tryz.func68 rfl aBr aF (aX (by kernel_rfl)) (fun args lv h=>by
 unfold akK at h
 split at h
 ·simp only [canL,canX]
  rw [awR]
  exact h
 ·cases h)
def akt:List LV→T LV
 | [.v (.agg ⟨[.bool wa,.int .i64 ow,.int .i64 le,.int .i64 ra]⟩)]=> .ok (.v (.bool (V3 (wa,ow,le,ra))))
 |_=> .no
noncomputable def ake:List LV→T LV:=gQ Tryz.prog Tryz.f70.params.toList akt
noncomputable def asi:Specs:=aZ [(68,U7)]
theorem aBq:∀g S,asi g=some S→Valid Tryz.prog aS g S:=aT (l:=[(68,U7)]) ⟨aq4,trivial⟩
theorem awy (wa:Bool) (ow le ra:Int):bV Tryz.prog aS (asi) dZ aC Tryz.f70 [.v (.agg #[.bool wa,.int .i64 ow,.int .i64 le,.int .i64 ra])]=.ok (.v (.bool ((inB ow (0:Int) (1000000000:Int))&&((inB le (0:Int) (1000000:Int))&&(inB ra (1:Int) (9:Int)))))):=by kernel_rfl
theorem azy:Valid Tryz.prog aS 70 ake:=aH Tryz.func70 rfl aBq aF (aX (by kernel_rfl)) (fun args lv h=>by
 unfold akt at h
 split at h
 ·simp only [canL,canX]
  rw [awy]
  exact h
 ·cases h)
structure lM where
 cs:List Cd
 os:List ByteArray
 ks:List Ko
 gs:List Ch
 bs:List Ba
 l:List Le
 d:List Dm
 t:Int
 od:List Int
 jv:List Ra
 r:Bool
 n:Int
 m:List Le
 k:Int
 i:Int
def aEd (s:lM):List LV:=[.xq 9 (fun j=>([.xl dU s.cs,.xl .str s.os,.xl dV s.ks,.xl dP s.gs,.xl dW s.bs,.xl ig s.l,.xl pR s.d,.v (.int .i64 s.t),.xl (.int .i64) s.od]:List LV).getD j .junk),.xl CZ s.jv,.v (.bool s.r),.v (.int .i64 s.n),.xl ig s.m,.v (.int .i64 s.k),.v (.int .i64 s.i)]
def aDd (_:lM):List aU:=[]
noncomputable def BR:Code:=((aB (Tryz.f35.body.getD .skip))[0]?).getD .skip
def ZY (s:lM):T (Rd lM):=
 .br (decide (s.i<s.k)) (.req (0≤s.i∧s.i<(List.length s.m:Int)) (.br (decide ((fQ s.m s.i).2.1≥s.n)) (.ok (.stop (.ret) {s with r:=false})) (.ok (.next {s with i:=(IntKind.i64.wrap (s.i+1))})))) (.ok (.stop (.exit 0) s))
abbrev as7 (s:lM):=(ZY s).rd s
def J7 (s:lM) (j:Int):Bool:=decide ((fQ s.m j).2.1<s.n)
def ad6 (s:lM):Prop:=s.i=0∧0≤s.k∧s.k≤1000∧s.k=(s.m.length:Int)
def NU (s:lM):Prop:=0≤s.i∧s.i≤s.k∧s.k≤1000∧(s.k=(s.m.length:Int))∧∀j:Nat,(j:Int)<s.i→J7 s j=true
def Qa (s:lM):Nat:=(s.k-s.i).toNat
def ali (x:Ex) (_ s':lM):Prop:=(x=.exit 0∧∀j:Nat,(j:Int)<s'.k→J7 s' j=true)∨(x=.ret∧s'.r=false∧∃j:Nat,(j:Int)<s'.k∧J7 s' j=false)
theorem aBW:∀s,ad6 s→NU s:=by
 intro s h
 obtain ⟨h0,h1,h2,h3⟩:=h
 exact ⟨by omega,by omega,h2,h3,fun j hj=>by omega⟩
theorem axJ (s:lM) (hI:NU s):bJ (fun s'=>NU s'∧Qa s'<Qa s) (fun x s'=>ali x s s') (as7 s):=by
 unfold as7 ZY
 dsimp only [T.rd,T.rl]
 obtain ⟨h0,h1,h2,h3,h4⟩:=hI
 refine au (fun c1=>au (fun c2=>?_) (fun c2=>?_)) (fun c1=>?_)
 ·have c1:s.i<s.k:=by simpa using c1
  refine .inr ⟨rfl,rfl,s.i.toNat,by simp only;omega,?_⟩
  rw [Int.toNat_of_nonneg (by omega)]
  have hg:J7 s s.i=false:=by unfold J7;(simp only [decide_eq_true_eq,decide_eq_false_iff_not] at c2⊢;omega)
  exact hg
 ·have c1:s.i<s.k:=by simpa using c1
  have hg:J7 s s.i=true:=by unfold J7;(simp only [decide_eq_true_eq,decide_eq_false_iff_not] at c2⊢;omega)
  rw [aK (x:=s.i+1) (by omega) (by omega)]
  refine ⟨⟨by simp only;omega,by simp only;omega,h2,h3,fun j hj=>?_⟩,by simp only [Qa];omega⟩
  by_cases hji:(j:Int)<s.i
  ·exact h4 j hji
  ·have:(j:Int)=s.i:=by simp only at hj;omega
   rw [this];exact hg
 ·have c1:s.k≤s.i:=by simpa using c1
  exact .inl ⟨rfl,fun j hj=>h4 j (by omega)⟩
def FH:bM lM:=⟨0,108,[0,1,6,9,67,68,69],[],aEd,aDd,fun v _=>⟨aQ dU (ng (v.getD 0 .junk) 0),aQ .str (ng (v.getD 0 .junk) 1),aQ dV (ng (v.getD 0 .junk) 2),aQ dP (ng (v.getD 0 .junk) 3),aQ dW (ng (v.getD 0 .junk) 4),aQ ig (ng (v.getD 0 .junk) 5),aQ pR (ng (v.getD 0 .junk) 6),gI (ng (v.getD 0 .junk) 7),aQ (.int .i64) (ng (v.getD 0 .junk) 8),aQ CZ (v.getD 1 .junk),vF (v.getD 2 .junk),gI (v.getD 3 .junk),aQ ig (v.getD 4 .junk),gI (v.getD 5 .junk),gI (v.getD 6 .junk)⟩,ZY,fun s r=> {r with cs:=s.cs,os:=s.os,ks:=s.ks,gs:=s.gs,bs:=s.bs,l:=s.l,d:=s.d,t:=s.t,od:=s.od,jv:=s.jv,n:=s.n,m:=s.m,k:=s.k},fun s=>s,fun _ s=>s,[.ret,.exit 0],ad6,NU,Qa⟩
abbrev xg:=FH.run
abbrev acf:=FH.jJ
abbrev ay8:=FH.q
theorem avQ (s:lM) (hI:NU s):(ZY s).all (fun _=>True):=by
 refine ⟨fun c1=>⟨?_,fun _=>trivial,fun _=>trivial⟩,fun _=>trivial⟩
 ·(obtain ⟨h0,h1,h2,h3,h4⟩:=hI;simp at c1;omega)
noncomputable def abl:Specs:=aZ [(24,nX),(62,uM),(68,U7),(69,U4),(70,ake)]
theorem ajh:∀g S,abl g=some S→Valid Tryz.prog aS g S:=aT (l:=[(24,nX),(62,uM),(68,U7),(69,U4),(70,ake)]) ⟨CY,Oi,aq4,aq1,azy,trivial⟩
theorem ahY:FH.Ok:=⟨fun s=>by kernel_rfl,fun s=>by kernel_rfl,fun s=>rfl,fun s t r=>rfl,fun s=>rfl,fun s=>by kernel_rfl⟩
theorem agV:FH.Pf (ali):=⟨aBW,fun _ _=>rfl,axJ,avQ⟩
theorem ane:bg Tryz.prog aS (AN 0) (.loop BR) FH.lp:=bM.snd ahY agV (aP (Γ:=abl) (K:=dZ) (L:=aC) ajh aF BR (fun b hb=>by rw [show aB BR=[] by kernel_rfl] at hb;cases hb)) (fun s=>by kernel_rfl)
theorem aqt (s:lM) (hE:ad6 s):∃s',NU s'∧ali (acf s) s' (xg s):=bM.fin ahY agV s hE
structure o6 where
 cs:List Cd
 os:List ByteArray
 ks:List Ko
 gs:List Ch
 bs:List Ba
 l:List Le
 d:List Dm
 t:Int
 od:List Int
 rs:List Ra
 r:Bool
 m:List Ch
 k:Int
 i:Int
def aEc (s:o6):List LV:=[.xq 9 (fun j=>([.xl dU s.cs,.xl .str s.os,.xl dV s.ks,.xl dP s.gs,.xl dW s.bs,.xl ig s.l,.xl pR s.d,.v (.int .i64 s.t),.xl (.int .i64) s.od]:List LV).getD j .junk),.xl CZ s.rs,.v (.bool s.r),.xl dP s.m,.v (.int .i64 s.k),.v (.int .i64 s.i)]
def aDc (_:o6):List aU:=[]
noncomputable def BQ:Code:=((aB (Tryz.f35.body.getD .skip))[1]?).getD .skip
def ZX (s:o6):T (Rd o6):=
 .br (decide (s.i<s.k)) (.req (0≤s.i∧s.i<(List.length s.m:Int)) (.req (0≤s.i∧s.i<(List.length s.rs:Int)) (.br (!(D5 (bn s.m s.i).2.2.1 (bn s.m s.i).2.2.2.1 (bn s.m s.i).2.2.2.2.1 (bn s.m s.i).2.2.2.2.2.1 (bn s.m s.i).2.2.2.2.2.2.1 (lm s.rs s.i).1 (lm s.rs s.i).2)) (.ok (.stop (.ret) {s with r:=false})) (.req (0≤s.i∧s.i<(List.length s.d:Int)) (.br (!(V3 (o8 s.d s.i))) (.ok (.stop (.ret) {s with r:=false})) (.ok (.next {s with i:=(IntKind.i64.wrap (s.i+1))}))))))) (.ok (.stop (.exit 2) s))
abbrev as6 (s:o6):=(ZX s).rd s
def CU (s:o6) (j:Int):Bool:=TB (bn s.m j) (lm s.rs j)&&V3 (o8 s.d j)
def ad5 (s:o6):Prop:=s.i=0∧0≤s.k∧s.k≤1000∧s.k=(s.m.length:Int)∧s.rs.length=s.m.length∧s.d.length=s.m.length
def NT (s:o6):Prop:=0≤s.i∧s.i≤s.k∧s.k≤1000∧(s.k=(s.m.length:Int)∧s.rs.length=s.m.length∧s.d.length=s.m.length)∧∀j:Nat,(j:Int)<s.i→CU s j=true
def P9 (s:o6):Nat:=(s.k-s.i).toNat
def alh (x:Ex) (_ s':o6):Prop:=(x=.exit 2∧∀j:Nat,(j:Int)<s'.k→CU s' j=true)∨(x=.ret∧s'.r=false∧∃j:Nat,(j:Int)<s'.k∧CU s' j=false)
theorem aBV:∀s,ad5 s→NT s:=by
 intro s h
 obtain ⟨h0,h1,h2,h3⟩:=h
 exact ⟨by omega,by omega,h2,h3,fun j hj=>by omega⟩
theorem axI (s:o6) (hI:NT s):bJ (fun s'=>NT s'∧P9 s'<P9 s) (fun x s'=>alh x s s') (as6 s):=by
 unfold as6 ZX
 dsimp only [T.rd,T.rl]
 obtain ⟨h0,h1,h2,h3,h4⟩:=hI
 refine au (fun c1=>au (fun c2=>?_) (fun c2=>au (fun c3=>?_) (fun c3=>?_))) (fun c1=>?_)
 ·have c1:s.i<s.k:=by simpa using c1
  refine .inr ⟨rfl,rfl,s.i.toNat,by simp only;omega,?_⟩
  rw [Int.toNat_of_nonneg (by omega)]
  have hg:CU s s.i=false:=by unfold CU;(unfold TB yg;simp_all)
  exact hg
 ·have c1:s.i<s.k:=by simpa using c1
  refine .inr ⟨rfl,rfl,s.i.toNat,by simp only;omega,?_⟩
  rw [Int.toNat_of_nonneg (by omega)]
  have hg:CU s s.i=false:=by unfold CU;(unfold TB yg;simp_all)
  exact hg
 ·have c1:s.i<s.k:=by simpa using c1
  have hg:CU s s.i=true:=by unfold CU;(unfold TB yg;simp_all)
  rw [aK (x:=s.i+1) (by omega) (by omega)]
  refine ⟨⟨by simp only;omega,by simp only;omega,h2,h3,fun j hj=>?_⟩,by simp only [P9];omega⟩
  by_cases hji:(j:Int)<s.i
  ·exact h4 j hji
  ·have:(j:Int)=s.i:=by simp only at hj;omega
   rw [this];exact hg
 ·have c1:s.k≤s.i:=by simpa using c1
  exact .inl ⟨rfl,fun j hj=>h4 j (by omega)⟩
def FD:bM o6:=⟨0,108,[0,1,6,82,83,84],[],aEc,aDc,fun v _=>⟨aQ dU (ng (v.getD 0 .junk) 0),aQ .str (ng (v.getD 0 .junk) 1),aQ dV (ng (v.getD 0 .junk) 2),aQ dP (ng (v.getD 0 .junk) 3),aQ dW (ng (v.getD 0 .junk) 4),aQ ig (ng (v.getD 0 .junk) 5),aQ pR (ng (v.getD 0 .junk) 6),gI (ng (v.getD 0 .junk) 7),aQ (.int .i64) (ng (v.getD 0 .junk) 8),aQ CZ (v.getD 1 .junk),vF (v.getD 2 .junk),aQ dP (v.getD 3 .junk),gI (v.getD 4 .junk),gI (v.getD 5 .junk)⟩,ZX,fun s r=> {r with cs:=s.cs,os:=s.os,ks:=s.ks,gs:=s.gs,bs:=s.bs,l:=s.l,d:=s.d,t:=s.t,od:=s.od,rs:=s.rs,m:=s.m,k:=s.k},fun s=>s,fun _ s=>s,[.ret,.exit 2],ad5,NT,P9⟩
abbrev aaw:=FD.run
abbrev ace:=FD.jJ
abbrev ay7:=FD.q
theorem avP (s:o6) (hI:NT s):(ZX s).all (fun _=>True):=by
 refine ⟨fun c1=>⟨?_,?_,fun _=>trivial,fun c2=>⟨?_,fun _=>trivial,fun _=>trivial⟩⟩,fun _=>trivial⟩
 all_goals ((obtain ⟨h0,h1,h2,h3,h4⟩:=hI;obtain ⟨h3,h5,h6⟩:=h3;simp at c1;omega))
theorem ahX:FD.Ok:=⟨fun s=>by kernel_rfl,fun s=>by kernel_rfl,fun s=>rfl,fun s t r=>rfl,fun s=>rfl,fun s=>by kernel_rfl⟩
theorem agU:FD.Pf (alh):=⟨aBV,fun _ _=>rfl,axI,avP⟩
theorem anc:bg Tryz.prog aS (AN 0) (.loop BQ) FD.lp:=bM.snd ahX agU (aP (Γ:=abl) (K:=dZ) (L:=aC) ajh aF BQ (fun b hb=>by rw [show aB BQ=[] by kernel_rfl] at hb;cases hb)) (fun s=>by kernel_rfl)
theorem aqs (s:o6) (hE:ad5 s):∃s',NT s'∧alh (ace s) s' (aaw s):=bM.fin ahX agU s hE
def ads:List LV→T LV
 | [.xq 9 q0,.xl (.pair (.int .i64) (.int .i64)) rs,.v (.int .i64 n)]=>(match ([q0 0,q0 1,q0 2,q0 3,q0 4,q0 5,q0 6,q0 7,q0 8]:List LV) with
  | [.xl (.pair .str (.pair (.int .i64) (.pair (.int .i64) (.pair (.int .i64) (.pair (.pair (.int .i64) (.int .i64)) (.pair (.int .i64) (.pair (.int .i64) (.pair (.int .i64) (.pair (.int .i64) (.int .i64)))))))))) cs,.xl (.str) os,.xl (.pair .str (.pair (.int .i64) (.pair (.int .i64) (.int .i64)))) ks,.xl (.pair .str (.pair (.int .i64) (.pair (.int .i64) (.pair (.int .i64) (.pair (.int .i64) (.pair (.int .i64) (.pair (.int .i64) (.int .i64)))))))) gs,.xl (.pair .str (.int .i64)) bs,.xl (.pair (.int .i64) (.pair (.int .i64) (.pair (.int .i64) (.pair (.int .i64) (.int .i64))))) l,.xl (.pair .bool (.pair (.int .i64) (.pair (.int .i64) (.int .i64)))) d,.v (.int .i64 t),.xl (.int .i64) _]=> .ok (.v (.bool (FT cs os ks gs bs l rs d t n)))
  |_=> .no)
 |_=> .no
noncomputable def YW:List LV→T LV:=gQ Tryz.prog Tryz.f35.params.toList ads
theorem ao6 (cs:List Cd) (os:List ByteArray) (ks:List Ko) (gs:List Ch) (bs:List Ba) (l:List Le) (d:List Dm) (t:Int) (od:List Int) (rs:List Ra) (n:Int):bV Tryz.prog aS (abl) dZ (fun i=>if i=8 then FH.lp else if i=14 then FD.lp else aC i) Tryz.f35 [.xq 9 (fun j=>([.xl dU cs,.xl .str os,.xl dV ks,.xl dP gs,.xl dW bs,.xl ig l,.xl pR d,.v (.int .i64 t),.xl (.int .i64) od]:List LV).getD j .junk),.xl CZ rs,.v (.int .i64 n)]=.br (((OI cs os ks gs bs) !=0) ||(!(gK l))) (.ok (.v (.bool false))) (.br (((List.length rs:Int) !=(List.length gs:Int)) ||(((List.length d:Int) !=(List.length gs:Int)) ||((!(inB t (0:Int) (1000000:Int))) ||(!(inB n (1:Int) (999900:Int)))))) (.ok (.v (.bool false))) (.req (ay8 (⟨cs,os,ks,gs,bs,l,d,t,od,rs,false,(List.length gs:Int),l,(List.length l:Int),(0:Int)⟩:lM)) (.br (iG (acf (⟨cs,os,ks,gs,bs,l,d,t,od,rs,false,(List.length gs:Int),l,(List.length l:Int),(0:Int)⟩:lM)) (.ret)) (.ok (.v (.bool (xg (⟨cs,os,ks,gs,bs,l,d,t,od,rs,false,(List.length gs:Int),l,(List.length l:Int),(0:Int)⟩:lM)).r))) (.req (ay7 (⟨cs,os,ks,gs,bs,l,d,t,od,rs,(xg (⟨cs,os,ks,gs,bs,l,d,t,od,rs,false,(List.length gs:Int),l,(List.length l:Int),(0:Int)⟩:lM)).r,gs,(List.length gs:Int),(0:Int)⟩:o6)) (.br (iG (ace (⟨cs,os,ks,gs,bs,l,d,t,od,rs,(xg (⟨cs,os,ks,gs,bs,l,d,t,od,rs,false,(List.length gs:Int),l,(List.length l:Int),(0:Int)⟩:lM)).r,gs,(List.length gs:Int),(0:Int)⟩:o6)) (.ret)) (.ok (.v (.bool (aaw (⟨cs,os,ks,gs,bs,l,d,t,od,rs,(xg (⟨cs,os,ks,gs,bs,l,d,t,od,rs,false,(List.length gs:Int),l,(List.length l:Int),(0:Int)⟩:lM)).r,gs,(List.length gs:Int),(0:Int)⟩:o6)).r))) (.ok (.v (.bool true)))))))):=by kernel_rfl
theorem auo:Valid Tryz.prog aS 35 YW:=aH Tryz.func35 rfl ajh aF (L:=(fun i=>if i=8 then FH.lp else if i=14 then FD.lp else aC i)) (fun b hb=>by
 rw [show aB _=[BR,BQ] by kernel_rfl] at hb
 simp only [List.mem_cons,List.not_mem_nil,or_false] at hb
 rcases hb with rfl|rfl
 ·exact ane
 ·exact anc) (fun args lv h=>by
 unfold ads at h
 split at h
 ·split at h
  case h_2=>cases h
  rename_i heq0
  simp only [canL,canX]
  rw [pq (n:=9) heq0]
  simp only [canL,canX]
  rw [ao6]
  rename_i rs n _ cs os ks gs bs l d t od
  obtain rfl:=h
  have e0:((OI cs os ks gs bs !=0) || !gK l)=!(fO cs os ks gs bs&&gK l):=by
   unfold OI
   cases fO cs os ks gs bs<;>cases gK l<;>rfl
  have e1:(((List.length rs:Int) !=(List.length gs:Int)) ||(((List.length d:Int) !=(List.length gs:Int)) ||(!inB t 0 1000000 || !inB n 1 999900)))=!(decide (rs.length=gs.length)&&(decide (d.length=gs.length)&&(inB t 0 1000000&&inB n 1 999900))):=by
   rw [neN,neN,Bool.not_and,Bool.not_and,Bool.not_and]
  rw [e0,e1]
  have bad:FT cs os ks gs bs l rs d t n=false→LV.v (.bool false)=LV.v (.bool (FT cs os ks gs bs l rs d t n)):=fun h=>by rw [h]
  refine ⟨fun c=>bad (by unfold FT;rw [ntW c];rfl),fun c=>⟨fun c2=>bad (by unfold FT;rw [ntW c2,Bool.false_and,Bool.and_false]),fun c2=>?_⟩⟩
  have c:=OY c
  have c2:=OY c2
  have c':=c
  have c2':=c2
  simp only [Bool.and_eq_true,decide_eq_true_eq] at c' c2'
  have hl:=kH c'.2
  have hg:=(gW.1 c'.1).1.2.2.2.2.1
  have hE:ad6 ⟨cs,os,ks,gs,bs,l,d,t,od,rs,false,(List.length gs:Int),l,(List.length l:Int),0⟩:=⟨rfl,by simp only;omega,by simp only;omega,rfl⟩
  have ev:FT cs os ks gs bs l rs d t n=(below gs.length l&&KE gs.length (fun j=>TB (bn gs j) (lm rs j)&&V3 (o8 d j))):=by
   unfold FT
   rw [c,c2,Bool.true_and,Bool.true_and]
  refine ⟨⟨hE,rfl,rfl⟩,?_⟩
  obtain ⟨_,_,hq⟩:=aqt _ hE
  have eb:below gs.length l=KE l.length (fun j=>decide ((fQ l j).2.1<(gs.length:Int))):=by
   rw [Bool.eq_iff_iff,fE]
   exact (jF (d:=(0,0,0,0,0)) (p:=fun x:Le=>decide (x.2.1<(gs.length:Int)))).symm
  rcases hq with ⟨q1,q2⟩ |⟨q1,q2,j,q3,q4⟩<;>rw [q1]
  rotate_left
  ·rw [q2]
   exact ⟨fun _=>bad (by rw [ev,eb,uh (f:=fun j=>decide ((fQ l j).2.1<(gs.length:Int))) j q3 q4];rfl),fun h=>by cases h⟩
  refine ⟨fun h=>(by cases h),fun _=>?_⟩
  have g0:below gs.length l=true:=by rw [eb];exact fE.2 q2
  have hE2:ad5 ⟨cs,os,ks,gs,bs,l,d,t,od,rs,(xg ⟨cs,os,ks,gs,bs,l,d,t,od,rs,false,(List.length gs:Int),l,(List.length l:Int),0⟩).r,gs,(List.length gs:Int),0⟩:=⟨rfl,by simp only;omega,by simp only;omega,rfl,c2'.1,c2'.2.1⟩
  refine ⟨⟨hE2,rfl,rfl⟩,?_⟩
  obtain ⟨_,_,hq⟩:=aqs _ hE2
  rcases hq with ⟨q5,q6⟩ |⟨q5,q6,j,q7,q8⟩<;>rw [q5]
  ·exact ⟨fun h=>(by cases h),fun _=>by rw [ev,g0,(fE (f:=fun j=>TB (bn gs j) (lm rs j)&&V3 (o8 d j))).2 q6];rfl⟩
  ·rw [q6]
   exact ⟨fun _=>bad (by rw [ev,uh (f:=fun j=>TB (bn gs j) (lm rs j)&&V3 (o8 d j)) j q7 q8,Bool.and_false]),fun h=>by cases h⟩
 ·cases h)
end Go.Proofs.YtlihnbimgclogaaGreatDoor
namespace Go.Proofs.YtlihnbimgclogaaGreatDoor
open Go.Sx
structure oW where
 n:Int
 r:Bool
 l:List Int
 m:Int
 k:Int
 seen:List Bool
def aD2 (s:oW):List LV:=[.v (.int .i64 s.n),.v (.bool s.r),.os 0 1 0 (List.length s.seen),.xl (.int .i64) s.l,.v (.int .i64 s.m),.v (.int .i64 s.k)]
def aC2 (s:oW):List aU:=[⟨[],4,.vec .bool s.seen,false⟩]
noncomputable def BJ:Code:=((aB (Tryz.f94.body.getD .skip))[0]?).getD .skip
def ZQ (s:oW):T (Rd oW):=
 .br (decide (s.k<s.m)) (.req (0≤s.k∧s.k<(List.length s.l:Int)) (.br (decide ((gi s.l s.k)<0)) (.rl s.seen (.ok (.stop (.ret) {s with r:=false}))) (.br (decide ((gi s.l s.k)≥s.n)) (.rl s.seen (.ok (.stop (.ret) {s with r:=false}))) (.req (0≤(gi s.l s.k)∧(gi s.l s.k)<((List.length s.seen:Nat):Int)) (.req ((gi s.l s.k).toNat<List.length s.seen) (.br (s.seen.getD (gi s.l s.k).toNat (Ty.dflt .bool)) (.rl s.seen (.ok (.stop (.ret) {s with r:=false}))) (.req (0≤(gi s.l s.k)∧(gi s.l s.k)<((List.length s.seen:Nat):Int)) (.req ((gi s.l s.k).toNat<List.length s.seen) (.req (0=0∧(List.length s.seen)=List.length (s.seen.set (gi s.l s.k).toNat true)) (.ok (.next {s with k:=(IntKind.i64.wrap (s.k+1)),seen:=(s.seen.set (gi s.l s.k).toNat true)}))))))))))) (.rl s.seen (.ok (.stop (.exit 0) s)))
abbrev asZ (s:oW):=(ZQ s).rd s
def CS (s:oW) (j:Int):Bool:=Tz s.n (gi s.l j)&&!(((s.l.take j.toNat).map id).contains (id (gi s.l j)))
def alN (s:oW):Prop:=s.k=0∧s.seen=List.replicate s.seen.length false∧s.m=(s.l.length:Int)∧s.m≤1000∧s.n=(s.seen.length:Int)
def NJ (s:oW):Prop:=(0≤s.k∧s.k≤s.m)∧(∀j:Nat,j<s.seen.length→s.seen.getD j false=(s.l.take s.k.toNat).contains (j:Int))∧(∀j:Nat,(j:Int)<s.k→CS s j=true)∧s.m=(s.l.length:Int)∧s.m≤1000∧s.n=(s.seen.length:Int)
def PU (s:oW):Nat:=(s.m-s.k).toNat
def adJ (x:Ex) (_ s':oW):Prop:=(x=.exit 0∧∀j:Nat,(j:Int)<s'.m→CS s' j=true)∨(x=.ret∧s'.r=false∧∃j:Nat,(j:Int)<s'.m∧CS s' j=false)
theorem aA3:∀s,alN s→NJ s:=by
 intro s h
 obtain ⟨h0,h1,h2,h3,h4⟩:=h
 refine ⟨by omega,fun j hj=>?_,fun j hj=>by omega,h2,h3,h4⟩
 rw [h1,h0]
 simp [List.getD,List.getElem?_replicate]
 split<;>rfl
theorem aw6 (s:oW) (hI:NJ s):bJ (fun s'=>NJ s'∧PU s'<PU s) (fun x s'=>adJ x s s') (asZ s):=by
 unfold asZ ZQ
 dsimp only [T.rd,T.rl]
 obtain ⟨⟨h0,h1⟩,h2,h3,h4,h5,h6⟩:=hI
 refine au (fun c1=>?_) (fun c1=>?_)
 rotate_left
 ·have c1:s.m≤s.k:=by simpa using c1
  exact .inl ⟨rfl,fun j hj=>h3 j (by omega)⟩
 have c1:s.k<s.m:=by simpa using c1
 have bad:CS s s.k=false→adJ .ret s {s with r:=false}:=fun hg=> .inr ⟨rfl,rfl,s.k.toNat,by simp only;omega,by rw [Int.toNat_of_nonneg h0];exact hg⟩
 refine au (fun c2=>bad ?_) (fun c2=>au (fun c3=>bad ?_) (fun c3=>au (fun c4=>bad ?_) (fun c4=>?_)))
 ·unfold CS Tz
  simp only [decide_eq_true_eq] at c2
  rw [decide_eq_false (by omega)]
  rfl
 ·unfold CS Tz
  simp only [decide_eq_true_eq] at c3
  rw [decide_eq_false (p:=gi s.l s.k<s.n) (by omega),Bool.and_false]
  rfl
 all_goals
  have c2:0≤gi s.l s.k:=by simpa using c2
  have c3:gi s.l s.k<s.n:=by simpa using c3
  have e:=h2 (gi s.l s.k).toNat (by omega)
  rw [Int.toNat_of_nonneg c2] at e
 ·have c4:s.seen.getD (gi s.l s.k).toNat false=true:=c4
  unfold CS
  rw [List.map_id,id,←e,c4]
  simp
 ·have c4:s.seen.getD (gi s.l s.k).toNat false=false:=c4
  have hg:CS s s.k=true:=by
   unfold CS
   rw [List.map_id,id,←e,c4,zK.2 ⟨c2,c3⟩]
   rfl
  rw [aK (x:=s.k+1) (by omega) (by omega)]
  refine ⟨⟨⟨by simp only;omega,by simp only;omega⟩,fun j hj=>?_,fun j hj=>?_,h4,h5,by simp only [List.length_set];exact h6⟩,by simp only [PU];omega⟩
  ·simp only [List.length_set] at hj
   simp only
   rw [(gi_step h0 (show s.k<s.l.length by omega)).2,List.contains_append,←h2 j hj]
   by_cases hj2:(gi s.l s.k).toNat=j
   ·subst hj2
    rw [Int.toNat_of_nonneg c2]
    simp [List.getD,hj]
   ·have:¬(j:Int)=gi s.l s.k:=by omega
    simp [List.getD,List.getElem?_set_ne hj2,this]
  ·by_cases hji:(j:Int)<s.k
   ·exact h3 j hji
   ·have:(j:Int)=s.k:=by simp only at hj;omega
    rw [this];exact hg
def Fp:bM oW:=⟨0,37,[1,4,5,14,15,16],[],aD2,aC2,fun v b=>⟨gI (v.getD 0 .junk),vF (v.getD 1 .junk),aQ (.int .i64) (v.getD 3 .junk),gI (v.getD 4 .junk),gI (v.getD 5 .junk),iR .bool (aO b 0)⟩,ZQ,fun s r=> {r with n:=s.n,l:=s.l,m:=s.m},fun s=>s,fun _ s=>s,[.ret,.exit 0],alN,NJ,PU⟩
abbrev aat:=Fp.run
abbrev ab7:=Fp.jJ
abbrev ayY:=Fp.q
theorem avF (s:oW) (hI:NJ s):(ZQ s).all (fun _=>True):=by
 refine ⟨fun c1=>⟨?_,fun c2=>⟨⟨rfl,rfl⟩,trivial⟩,fun c2=>⟨fun c3=>⟨⟨rfl,rfl⟩,trivial⟩,fun c3=>⟨?_,?_,fun c4=>⟨⟨rfl,rfl⟩,trivial⟩,fun c4=>⟨?_,?_,?_,trivial⟩⟩⟩⟩,fun c1=>⟨⟨rfl,rfl⟩,trivial⟩⟩
 iterate 5 · (obtain ⟨⟨h0,h1⟩,h2,h3,h4,h5,h6⟩:=hI;simp only [decide_eq_true_eq,decide_eq_false_iff_not] at*;omega)
 ·exact ⟨rfl,by simp⟩
noncomputable def ajB:Specs:=aZ []
theorem ase:∀g S,ajB g=some S→Valid Tryz.prog aS g S:=aT (l:=[]) trivial
theorem ahN:Fp.Ok:=⟨fun s=>by kernel_rfl,fun s=>by kernel_rfl,fun s=>rfl,fun s t r=>rfl,fun s=>rfl,fun s=>by kernel_rfl⟩
theorem agK:Fp.Pf (adJ):=⟨aA3,fun _ _=>rfl,aw6,avF⟩
theorem am5:bg Tryz.prog aS (AN 0) (.loop BJ) Fp.lp:=bM.snd ahN agK (aP (Γ:=ajB) (K:=dZ) (L:=aC) ase aF BJ (fun b hb=>by rw [show aB BJ=[] by kernel_rfl] at hb;cases hb)) (fun s=>by kernel_rfl)
theorem apy (s:oW) (hE:alN s):∃s',NJ s'∧adJ (ab7 s) s' (aat s):=bM.fin ahN agK s hE
def adl:List LV→T LV
 | [.xl (.int .i64) l,.v (.int .i64 n)]=> .req (n≤1000) (.ok (.v (.bool (mJ l n))))
 |_=> .no
noncomputable def qF:List LV→T LV:=gQ Tryz.prog Tryz.f94.params.toList adl
theorem aoZ (l:List Int) (n:Int):bV Tryz.prog aS (ajB) dZ (fun i=>if i=5 then Fp.lp else aC i) Tryz.f94 [.xl (.int .i64) l,.v (.int .i64 n)]=.br ((List.length l:Int) !=n) (.ok (.v (.bool false))) (.req (0≤n∧n≤n∧1*n≤2^48∧n<2^63) (.req (0=0∧n.toNat=List.length (List.replicate n.toNat false)) (.req (ayY (⟨n,false,l,(List.length l:Int),(0:Int),(List.replicate n.toNat false)⟩:oW)) (.br (iG (ab7 (⟨n,false,l,(List.length l:Int),(0:Int),(List.replicate n.toNat false)⟩:oW)) (.ret)) (.ok (.v (.bool (aat (⟨n,false,l,(List.length l:Int),(0:Int),(List.replicate n.toNat false)⟩:oW)).r))) (.ok (.v (.bool true))))))):=by kernel_rfl
theorem GR:Valid Tryz.prog aS 94 qF:=aH Tryz.func94 rfl ase aF (L:=(fun i=>if i=5 then Fp.lp else aC i)) (fun b hb=>by
 rw [show aB _=[BJ] by kernel_rfl] at hb
 simp only [List.mem_cons,List.not_mem_nil,or_false] at hb
 subst hb
 exact am5) (fun args lv h=>by
 unfold adl at h
 split at h
 ·simp only [canL,canX]
  rw [aoZ]
  rename_i l n
  obtain ⟨hl,rfl⟩:=h
  refine ⟨fun c=>congrArg (fun z=>LV.v (.bool z)) ?_,fun c=>?_⟩
  ·have c:¬(List.length l:Int)=n:=by simpa using c
   unfold mJ
   rw [decide_eq_false c]
   rfl
  ·have c:(List.length l:Int)=n:=by simpa using c
   unfold mJ
   rw [decide_eq_true c,Bool.true_and]
   refine ⟨by omega,⟨rfl,by simp⟩,nV ⟨⟨rfl,by simp,rfl,by simp only;omega,by simp only [List.length_replicate];omega⟩,rfl,rfl⟩ (fun hE=>?_)⟩
   obtain ⟨s',_,hq⟩:=apy _ hE.1
   rcases hq with ⟨q1,q2⟩ |⟨q1,q2,j,q3,q4⟩
   ·rw [q1]
    have hk:=(kJ (d:=(0:Int)) (p:=Tz n) (k:=id)).1 q2
    rw [List.map_id] at hk
    rw [hk]
    exact ⟨fun h=>(by cases h),fun _=>rfl⟩
   ·rw [q1,q2]
    refine ⟨fun _=>congrArg (fun z=>LV.v (.bool z)) ?_,fun h=>by cases h⟩
    rw [eq_comm,Bool.eq_false_iff]
    intro hx
    have:=(kJ (d:=(0:Int)) (p:=Tz n) (k:=id)).2 (by rw [List.map_id];exact hx) j q3
    exact Bool.noConfusion (this.symm.trans q4)
 ·cases h)
end Go.Proofs.YtlihnbimgclogaaGreatDoor
namespace Go.Proofs.YtlihnbimgclogaaGreatDoor
open Go.Sx
structure jG where
 r:Bool
 l:List Int
 n:Int
 i:Int
 bI:List Cd
 iO:List ByteArray
 fG:List Ko
 fV:List Ch
 mO:List Ba
def aD8 (s:jG):List LV:=[.fn 92 [],.v (.bool s.r),.xl (.int .i64) s.l,.v (.int .i64 s.n),.v (.int .i64 s.i)]
def aC8 (s:jG):List aU:=[⟨[.xl dU s.bI,.xl .str s.iO,.xl dV s.fG,.xl dP s.fV,.xl dW s.mO],28,.cl,false⟩]
noncomputable def UQ:Code:=((aB (Tryz.f93.body.getD .skip))[0]?).getD .skip
def ZT (s:jG):T (Rd jG):=
 .br (decide (s.i<s.n)) (.req (0≤s.i∧s.i<(List.length s.l:Int)) (.br (!((decide ((gi s.l s.i)≥0))&&(decide ((gi s.l s.i)≤80)))) (.ok (.stop (.ret) {s with r:=false})) (.ok (.next {s with i:=(IntKind.i64.wrap (s.i+1))})))) (.ok (.stop (.exit 0) s))
abbrev as2 (s:jG):=(ZT s).rd s
def J3 (s:jG) (j:Int):Bool:=uJ (gi s.l j)
def ad2 (s:jG):Prop:=s.i=0∧0≤s.n∧s.n≤1000∧s.n=(s.l.length:Int)
def NP (s:jG):Prop:=0≤s.i∧s.i≤s.n∧s.n≤1000∧(s.n=(s.l.length:Int))∧∀j:Nat,(j:Int)<s.i→J3 s j=true
def P5 (s:jG):Nat:=(s.n-s.i).toNat
def ald (x:Ex) (_ s':jG):Prop:=(x=.exit 0∧∀j:Nat,(j:Int)<s'.n→J3 s' j=true)∨(x=.ret∧s'.r=false∧∃j:Nat,(j:Int)<s'.n∧J3 s' j=false)
theorem aBR:∀s,ad2 s→NP s:=by
 intro s h
 obtain ⟨h0,h1,h2,h3⟩:=h
 exact ⟨by omega,by omega,h2,h3,fun j hj=>by omega⟩
theorem axE (s:jG) (hI:NP s):bJ (fun s'=>NP s'∧P5 s'<P5 s) (fun x s'=>ald x s s') (as2 s):=by
 unfold as2 ZT
 dsimp only [T.rd,T.rl]
 obtain ⟨h0,h1,h2,h3,h4⟩:=hI
 refine au (fun c1=>au (fun c2=>?_) (fun c2=>?_)) (fun c1=>?_)
 ·have c1:s.i<s.n:=by simpa using c1
  refine .inr ⟨rfl,rfl,s.i.toNat,by simp only;omega,?_⟩
  rw [Int.toNat_of_nonneg (by omega)]
  have hg:J3 s s.i=false:=by unfold J3;(first|(have c2:(!(uJ (gi s.l s.i)))=false:=c2;simpa using c2) |(have c2:(!(uJ (gi s.l s.i)))=true:=c2;simpa using c2))
  exact hg
 ·have c1:s.i<s.n:=by simpa using c1
  have hg:J3 s s.i=true:=by unfold J3;(first|(have c2:(!(uJ (gi s.l s.i)))=false:=c2;simpa using c2) |(have c2:(!(uJ (gi s.l s.i)))=true:=c2;simpa using c2))
  rw [aK (x:=s.i+1) (by omega) (by omega)]
  refine ⟨⟨by simp only;omega,by simp only;omega,h2,h3,fun j hj=>?_⟩,by simp only [P5];omega⟩
  by_cases hji:(j:Int)<s.i
  ·exact h4 j hji
  ·have:(j:Int)=s.i:=by simp only at hj;omega
   rw [this];exact hg
 ·have c1:s.n≤s.i:=by simpa using c1
  exact .inl ⟨rfl,fun j hj=>h4 j (by omega)⟩
def uZ:bM jG:=⟨1,18,[1,4,7,8,9],[],aD8,aC8,fun v b=>⟨vF (v.getD 1 .junk),aQ (.int .i64) (v.getD 2 .junk),gI (v.getD 3 .junk),gI (v.getD 4 .junk),aQ dU (aY (aO b 0) 0),aQ .str (aY (aO b 0) 1),aQ dV (aY (aO b 0) 2),aQ dP (aY (aO b 0) 3),aQ dW (aY (aO b 0) 4)⟩,ZT,fun s r=> {r with l:=s.l,n:=s.n,bI:=s.bI,iO:=s.iO,fG:=s.fG,fV:=s.fV,mO:=s.mO},fun s=>s,fun _ s=>s,[.ret,.exit 0],ad2,NP,P5⟩
abbrev ug:=uZ.run
abbrev xQ:=uZ.jJ
abbrev Zc:=uZ.q
noncomputable def yD:Specs:=aZ [(24,nX),(61,qG),(94,qF),(96,qE)]
theorem Ae:∀g S,yD g=some S→Valid Tryz.prog aS g S:=aT (l:=[(24,nX),(61,qG),(94,qF),(96,qE)]) ⟨CY,GU,GR,GN,trivial⟩
noncomputable def ai9:Hand:=inl Tryz.prog aS yD (lX Tryz.prog aS (yD) 20 2) 9
theorem arL:dF Tryz.prog aS ai9:=bQ Ae (dQ Ae) 9
theorem avL (s:jG) (hI:NP s):(ZT s).all (fun _=>True):=by
 refine ⟨fun c1=>⟨?_,fun _=>trivial,fun _=>trivial⟩,fun _=>trivial⟩
 ·(obtain ⟨h0,h1,h2,h3,h4⟩:=hI;simp at c1;omega)
theorem ahT:uZ.Ok:=⟨fun s=>by kernel_rfl,fun s=>by kernel_rfl,fun s=>rfl,fun s t r=>rfl,fun s=>rfl,fun s=>by kernel_rfl⟩
theorem agQ:uZ.Pf (ald):=⟨aBR,fun _ _=>rfl,axE,avL⟩
theorem wS:bg Tryz.prog aS (AN 1) (.loop UQ) uZ.lp:=bM.snd ahT agQ (bF (Γ:=yD) (K:=ai9) (L:=(tN Tryz.prog aS yD ai9 20 2)) Ae arL UQ (fun b _=>dR Ae arL 20 2 b)) (fun s=>by kernel_rfl)
theorem aqn (s:jG) (hE:ad2 s):∃s',NP s'∧ald (xQ s) s' (ug s):=bM.fin ahT agQ s hE
theorem acj (s:jG) (hE:ad2 s):(xQ s=.exit 0∧s.l.all uJ=true)∨(xQ s=.ret∧(ug s).r=false∧s.l.all uJ=false):=by
 obtain ⟨s',hI,hq⟩:=aqn s hE
 obtain ⟨h0,h1,h2,h3⟩:=hE
 have el:(ug s).l=s.l:=rfl
 have en:(ug s).n=s.n:=rfl
 rcases hq with ⟨q1,q2⟩ |⟨q1,q2,j,q3,q4⟩
 ·refine .inl ⟨q1,(jF (d:=(0:Int))).1 fun j hj=>?_⟩
  have:=q2 j (by rw [en];omega)
  exact this
 ·refine .inr ⟨q1,q2,?_⟩
  rw [Bool.eq_false_iff]
  intro hx
  have:=(jF (d:=(0:Int))).2 hx j (by rw [en] at q3;omega)
  exact Bool.noConfusion (this.symm.trans q4)
structure gZ where
 alive:List Int
 i:Int
 rows:List Rw
 rn:Int
 ri:Int
 l:List Int
 n:Int
 k:Int
 bP:List Cd
 dY:List ByteArray
 bU:List Ko
 cu:List Ch
 iE:List Ba
 yJ:List Cd
 yH:List ByteArray
 yI:List Ko
 eP:List Ch
 yK:List Ba
 bG:List Rw
 bf:List Int
 jm:List Int
 jl:List Int
 jk:List Int
 ji:List Int
 jh:List Int
 jg:List Int
 jf:List Int
 je:List Int
 jd:List Int
 jc:List Int
 dL:List Int
 dK:List Int
 dJ:List Int
 dI:List Int
 dH:List Int
 dG:List Int
 sums:List Int
 levels:List Int
def aDS (s:gZ):List LV:=[.xl (.int .i64) s.alive,.own 1 0,.v (.int .i64 s.i),.xl F6 s.rows,.v (.int .i64 s.rn),.v (.int .i64 s.ri),.xl (.int .i64) s.l,.v (.int .i64 s.n),.v (.int .i64 s.k)]
def aCS (s:gZ):List aU:=[⟨[.xl dU s.bP,.xl .str s.dY,.xl dV s.bU,.xl dP s.cu,.xl dW s.iE],28,.cl,false⟩,⟨[.xl dU s.yJ,.xl .str s.yH,.xl dV s.yI,.xl dP s.eP,.xl dW s.yK,.xl F6 s.bG,.os 2 1 0 (List.length s.jm),.os 3 1 0 (List.length s.jl),.os 4 1 0 (List.length s.jk),.os 5 1 0 (List.length s.ji),.os 6 1 0 (List.length s.jh),.os 7 1 0 (List.length s.jg),.os 8 1 0 (List.length s.jf),.os 9 1 0 (List.length s.je),.os 10 1 0 (List.length s.jd),.os 11 1 0 (List.length s.jc),.os 12 1 0 (List.length s.dL),.os 13 1 0 (List.length s.dK),.os 14 1 0 (List.length s.dJ),.os 15 1 0 (List.length s.dI),.os 16 1 0 (List.length s.dH),.os 17 1 0 (List.length s.dG),.os 18 1 0 (List.length s.sums),.xl (.int .i64) s.bf,.os 19 1 0 (List.length s.levels)],148,.cl,false⟩,⟨[],3,.vec (.int .i64) s.jm,false⟩,⟨[],3,.vec (.int .i64) s.jl,false⟩,⟨[],3,.vec (.int .i64) s.jk,false⟩,⟨[],3,.vec (.int .i64) s.ji,false⟩,⟨[],3,.vec (.int .i64) s.jh,false⟩,⟨[],3,.vec (.int .i64) s.jg,false⟩,⟨[],3,.vec (.int .i64) s.jf,false⟩,⟨[],3,.vec (.int .i64) s.je,false⟩,⟨[],3,.vec (.int .i64) s.jd,false⟩,⟨[],3,.vec (.int .i64) s.jc,false⟩,⟨[],3,.vec (.int .i64) s.dL,false⟩,⟨[],3,.vec (.int .i64) s.dK,false⟩,⟨[],3,.vec (.int .i64) s.dJ,false⟩,⟨[],3,.vec (.int .i64) s.dI,false⟩,⟨[],3,.vec (.int .i64) s.dH,false⟩,⟨[],3,.vec (.int .i64) s.dG,false⟩,⟨[],3,.vec (.int .i64) s.sums,false⟩,⟨[],3,.vec (.int .i64) s.levels,false⟩]
noncomputable def Jo:Code:=((aB (((aB (Tryz.f95.body.getD .skip))[0]?).getD .skip))[0]?).getD .skip
set_option maxHeartbeats 4000000 in
def Sj (s:gZ):T (Rd gZ):=
 .br (decide (s.k<s.n)) (.req (0≤s.k∧s.k<(List.length s.l:Int)) (.req (0≤(gi s.l s.k)∧(gi s.l s.k)<(16:Int)) (.br ((gi s.l s.k)==0) (.req (0+(List.length s.jm)=List.length s.jm∧((List.length s.jm+List.length ([s.i]):Nat):Int)*8≤2^47∧((List.length s.jm+List.length ([s.i]):Nat):Int)<2^62) (.req (0≤s.i∧s.i<((List.length s.sums:Nat):Int)) (.req (0≤(0:Int)∧0<(List.length s.alive:Int)) (.req (s.i.toNat<List.length s.sums) (.req (0≤s.i∧s.i<((List.length s.sums:Nat):Int)) (.req (s.i.toNat<List.length s.sums) (.req (0=0∧(List.length s.jm+List.length ([s.i]))=List.length (s.jm++([s.i]))) (.rl s.jl (.rl s.jk (.rl s.ji (.rl s.jh (.rl s.jg (.rl s.jf (.rl s.je (.rl s.jd (.rl s.jc (.rl s.dL (.rl s.dK (.rl s.dJ (.rl s.dI (.rl s.dH (.rl s.dG (.req (0=0∧(List.length s.sums)=List.length (s.sums.set s.i.toNat (IntKind.i64.wrap ((s.sums.getD s.i.toNat (Ty.dflt (.int .i64)))+(gi s.alive (0:Int)))))) (.rl s.levels (.ok (.next {s with k:=(IntKind.i64.wrap (s.k+1)),jm:=(s.jm++([s.i])),sums:=(s.sums.set s.i.toNat (IntKind.i64.wrap ((s.sums.getD s.i.toNat (Ty.dflt (.int .i64)))+(gi s.alive (0:Int)))))})))))))))))))))))))))))))) (.br ((gi s.l s.k)==1) (.req (0+(List.length s.jl)=List.length s.jl∧((List.length s.jl+List.length ([s.i]):Nat):Int)*8≤2^47∧((List.length s.jl+List.length ([s.i]):Nat):Int)<2^62) (.req (0≤s.i∧s.i<((List.length s.sums:Nat):Int)) (.req (0≤(1:Int)∧1<(List.length s.alive:Int)) (.req (s.i.toNat<List.length s.sums) (.req (0≤s.i∧s.i<((List.length s.sums:Nat):Int)) (.req (s.i.toNat<List.length s.sums) (.rl s.jm (.req (0=0∧(List.length s.jl+List.length ([s.i]))=List.length (s.jl++([s.i]))) (.rl s.jk (.rl s.ji (.rl s.jh (.rl s.jg (.rl s.jf (.rl s.je (.rl s.jd (.rl s.jc (.rl s.dL (.rl s.dK (.rl s.dJ (.rl s.dI (.rl s.dH (.rl s.dG (.req (0=0∧(List.length s.sums)=List.length (s.sums.set s.i.toNat (IntKind.i64.wrap ((s.sums.getD s.i.toNat (Ty.dflt (.int .i64)))+(gi s.alive (1:Int)))))) (.rl s.levels (.ok (.next {s with k:=(IntKind.i64.wrap (s.k+1)),jl:=(s.jl++([s.i])),sums:=(s.sums.set s.i.toNat (IntKind.i64.wrap ((s.sums.getD s.i.toNat (Ty.dflt (.int .i64)))+(gi s.alive (1:Int)))))})))))))))))))))))))))))))) (.br ((gi s.l s.k)==2) (.req (0+(List.length s.jk)=List.length s.jk∧((List.length s.jk+List.length ([s.i]):Nat):Int)*8≤2^47∧((List.length s.jk+List.length ([s.i]):Nat):Int)<2^62) (.req (0≤s.i∧s.i<((List.length s.sums:Nat):Int)) (.req (0≤(2:Int)∧2<(List.length s.alive:Int)) (.req (s.i.toNat<List.length s.sums) (.req (0≤s.i∧s.i<((List.length s.sums:Nat):Int)) (.req (s.i.toNat<List.length s.sums) (.rl s.jm (.rl s.jl (.req (0=0∧(List.length s.jk+List.length ([s.i]))=List.length (s.jk++([s.i]))) (.rl s.ji (.rl s.jh (.rl s.jg (.rl s.jf (.rl s.je (.rl s.jd (.rl s.jc (.rl s.dL (.rl s.dK (.rl s.dJ (.rl s.dI (.rl s.dH (.rl s.dG (.req (0=0∧(List.length s.sums)=List.length (s.sums.set s.i.toNat (IntKind.i64.wrap ((s.sums.getD s.i.toNat (Ty.dflt (.int .i64)))+(gi s.alive (2:Int)))))) (.rl s.levels (.ok (.next {s with k:=(IntKind.i64.wrap (s.k+1)),jk:=(s.jk++([s.i])),sums:=(s.sums.set s.i.toNat (IntKind.i64.wrap ((s.sums.getD s.i.toNat (Ty.dflt (.int .i64)))+(gi s.alive (2:Int)))))})))))))))))))))))))))))))) (.br ((gi s.l s.k)==3) (.req (0+(List.length s.ji)=List.length s.ji∧((List.length s.ji+List.length ([s.i]):Nat):Int)*8≤2^47∧((List.length s.ji+List.length ([s.i]):Nat):Int)<2^62) (.req (0≤s.i∧s.i<((List.length s.sums:Nat):Int)) (.req (0≤(3:Int)∧3<(List.length s.alive:Int)) (.req (s.i.toNat<List.length s.sums) (.req (0≤s.i∧s.i<((List.length s.sums:Nat):Int)) (.req (s.i.toNat<List.length s.sums) (.rl s.jm (.rl s.jl (.rl s.jk (.req (0=0∧(List.length s.ji+List.length ([s.i]))=List.length (s.ji++([s.i]))) (.rl s.jh (.rl s.jg (.rl s.jf (.rl s.je (.rl s.jd (.rl s.jc (.rl s.dL (.rl s.dK (.rl s.dJ (.rl s.dI (.rl s.dH (.rl s.dG (.req (0=0∧(List.length s.sums)=List.length (s.sums.set s.i.toNat (IntKind.i64.wrap ((s.sums.getD s.i.toNat (Ty.dflt (.int .i64)))+(gi s.alive (3:Int)))))) (.rl s.levels (.ok (.next {s with k:=(IntKind.i64.wrap (s.k+1)),ji:=(s.ji++([s.i])),sums:=(s.sums.set s.i.toNat (IntKind.i64.wrap ((s.sums.getD s.i.toNat (Ty.dflt (.int .i64)))+(gi s.alive (3:Int)))))})))))))))))))))))))))))))) (.br ((gi s.l s.k)==4) (.req (0+(List.length s.jh)=List.length s.jh∧((List.length s.jh+List.length ([s.i]):Nat):Int)*8≤2^47∧((List.length s.jh+List.length ([s.i]):Nat):Int)<2^62) (.req (0≤s.i∧s.i<((List.length s.sums:Nat):Int)) (.req (0≤(4:Int)∧4<(List.length s.alive:Int)) (.req (s.i.toNat<List.length s.sums) (.req (0≤s.i∧s.i<((List.length s.sums:Nat):Int)) (.req (s.i.toNat<List.length s.sums) (.rl s.jm (.rl s.jl (.rl s.jk (.rl s.ji (.req (0=0∧(List.length s.jh+List.length ([s.i]))=List.length (s.jh++([s.i]))) (.rl s.jg (.rl s.jf (.rl s.je (.rl s.jd (.rl s.jc (.rl s.dL (.rl s.dK (.rl s.dJ (.rl s.dI (.rl s.dH (.rl s.dG (.req (0=0∧(List.length s.sums)=List.length (s.sums.set s.i.toNat (IntKind.i64.wrap ((s.sums.getD s.i.toNat (Ty.dflt (.int .i64)))+(gi s.alive (4:Int)))))) (.rl s.levels (.ok (.next {s with k:=(IntKind.i64.wrap (s.k+1)),jh:=(s.jh++([s.i])),sums:=(s.sums.set s.i.toNat (IntKind.i64.wrap ((s.sums.getD s.i.toNat (Ty.dflt (.int .i64)))+(gi s.alive (4:Int)))))})))))))))))))))))))))))))) (.br ((gi s.l s.k)==5) (.req (0+(List.length s.jg)=List.length s.jg∧((List.length s.jg+List.length ([s.i]):Nat):Int)*8≤2^47∧((List.length s.jg+List.length ([s.i]):Nat):Int)<2^62) (.req (0≤s.i∧s.i<((List.length s.sums:Nat):Int)) (.req (0≤(5:Int)∧5<(List.length s.alive:Int)) (.req (s.i.toNat<List.length s.sums) (.req (0≤s.i∧s.i<((List.length s.sums:Nat):Int)) (.req (s.i.toNat<List.length s.sums) (.rl s.jm (.rl s.jl (.rl s.jk (.rl s.ji (.rl s.jh (.req (0=0∧(List.length s.jg+List.length ([s.i]))=List.length (s.jg++([s.i]))) (.rl s.jf (.rl s.je (.rl s.jd (.rl s.jc (.rl s.dL (.rl s.dK (.rl s.dJ (.rl s.dI (.rl s.dH (.rl s.dG (.req (0=0∧(List.length s.sums)=List.length (s.sums.set s.i.toNat (IntKind.i64.wrap ((s.sums.getD s.i.toNat (Ty.dflt (.int .i64)))+(gi s.alive (5:Int)))))) (.rl s.levels (.ok (.next {s with k:=(IntKind.i64.wrap (s.k+1)),jg:=(s.jg++([s.i])),sums:=(s.sums.set s.i.toNat (IntKind.i64.wrap ((s.sums.getD s.i.toNat (Ty.dflt (.int .i64)))+(gi s.alive (5:Int)))))})))))))))))))))))))))))))) (.br ((gi s.l s.k)==6) (.req (0+(List.length s.jf)=List.length s.jf∧((List.length s.jf+List.length ([s.i]):Nat):Int)*8≤2^47∧((List.length s.jf+List.length ([s.i]):Nat):Int)<2^62) (.req (0≤s.i∧s.i<((List.length s.sums:Nat):Int)) (.req (0≤(6:Int)∧6<(List.length s.alive:Int)) (.req (s.i.toNat<List.length s.sums) (.req (0≤s.i∧s.i<((List.length s.sums:Nat):Int)) (.req (s.i.toNat<List.length s.sums) (.rl s.jm (.rl s.jl (.rl s.jk (.rl s.ji (.rl s.jh (.rl s.jg (.req (0=0∧(List.length s.jf+List.length ([s.i]))=List.length (s.jf++([s.i]))) (.rl s.je (.rl s.jd (.rl s.jc (.rl s.dL (.rl s.dK (.rl s.dJ (.rl s.dI (.rl s.dH (.rl s.dG (.req (0=0∧(List.length s.sums)=List.length (s.sums.set s.i.toNat (IntKind.i64.wrap ((s.sums.getD s.i.toNat (Ty.dflt (.int .i64)))+(gi s.alive (6:Int)))))) (.rl s.levels (.ok (.next {s with k:=(IntKind.i64.wrap (s.k+1)),jf:=(s.jf++([s.i])),sums:=(s.sums.set s.i.toNat (IntKind.i64.wrap ((s.sums.getD s.i.toNat (Ty.dflt (.int .i64)))+(gi s.alive (6:Int)))))})))))))))))))))))))))))))) (.br ((gi s.l s.k)==7) (.req (0+(List.length s.je)=List.length s.je∧((List.length s.je+List.length ([s.i]):Nat):Int)*8≤2^47∧((List.length s.je+List.length ([s.i]):Nat):Int)<2^62) (.req (0≤s.i∧s.i<((List.length s.sums:Nat):Int)) (.req (0≤(7:Int)∧7<(List.length s.alive:Int)) (.req (s.i.toNat<List.length s.sums) (.req (0≤s.i∧s.i<((List.length s.sums:Nat):Int)) (.req (s.i.toNat<List.length s.sums) (.rl s.jm (.rl s.jl (.rl s.jk (.rl s.ji (.rl s.jh (.rl s.jg (.rl s.jf (.req (0=0∧(List.length s.je+List.length ([s.i]))=List.length (s.je++([s.i]))) (.rl s.jd (.rl s.jc (.rl s.dL (.rl s.dK (.rl s.dJ (.rl s.dI (.rl s.dH (.rl s.dG (.req (0=0∧(List.length s.sums)=List.length (s.sums.set s.i.toNat (IntKind.i64.wrap ((s.sums.getD s.i.toNat (Ty.dflt (.int .i64)))+(gi s.alive (7:Int)))))) (.rl s.levels (.ok (.next {s with k:=(IntKind.i64.wrap (s.k+1)),je:=(s.je++([s.i])),sums:=(s.sums.set s.i.toNat (IntKind.i64.wrap ((s.sums.getD s.i.toNat (Ty.dflt (.int .i64)))+(gi s.alive (7:Int)))))})))))))))))))))))))))))))) (.br ((gi s.l s.k)==8) (.req (0+(List.length s.jd)=List.length s.jd∧((List.length s.jd+List.length ([s.i]):Nat):Int)*8≤2^47∧((List.length s.jd+List.length ([s.i]):Nat):Int)<2^62) (.req (0≤s.i∧s.i<((List.length s.sums:Nat):Int)) (.req (0≤(8:Int)∧8<(List.length s.alive:Int)) (.req (s.i.toNat<List.length s.sums) (.req (0≤s.i∧s.i<((List.length s.sums:Nat):Int)) (.req (s.i.toNat<List.length s.sums) (.rl s.jm (.rl s.jl (.rl s.jk (.rl s.ji (.rl s.jh (.rl s.jg (.rl s.jf (.rl s.je (.req (0=0∧(List.length s.jd+List.length ([s.i]))=List.length (s.jd++([s.i]))) (.rl s.jc (.rl s.dL (.rl s.dK (.rl s.dJ (.rl s.dI (.rl s.dH (.rl s.dG (.req (0=0∧(List.length s.sums)=List.length (s.sums.set s.i.toNat (IntKind.i64.wrap ((s.sums.getD s.i.toNat (Ty.dflt (.int .i64)))+(gi s.alive (8:Int)))))) (.rl s.levels (.ok (.next {s with k:=(IntKind.i64.wrap (s.k+1)),jd:=(s.jd++([s.i])),sums:=(s.sums.set s.i.toNat (IntKind.i64.wrap ((s.sums.getD s.i.toNat (Ty.dflt (.int .i64)))+(gi s.alive (8:Int)))))})))))))))))))))))))))))))) (.br ((gi s.l s.k)==9) (.req (0+(List.length s.jc)=List.length s.jc∧((List.length s.jc+List.length ([s.i]):Nat):Int)*8≤2^47∧((List.length s.jc+List.length ([s.i]):Nat):Int)<2^62) (.req (0≤s.i∧s.i<((List.length s.sums:Nat):Int)) (.req (0≤(9:Int)∧9<(List.length s.alive:Int)) (.req (s.i.toNat<List.length s.sums) (.req (0≤s.i∧s.i<((List.length s.sums:Nat):Int)) (.req (s.i.toNat<List.length s.sums) (.rl s.jm (.rl s.jl (.rl s.jk (.rl s.ji (.rl s.jh (.rl s.jg (.rl s.jf (.rl s.je (.rl s.jd (.req (0=0∧(List.length s.jc+List.length ([s.i]))=List.length (s.jc++([s.i]))) (.rl s.dL (.rl s.dK (.rl s.dJ (.rl s.dI (.rl s.dH (.rl s.dG (.req (0=0∧(List.length s.sums)=List.length (s.sums.set s.i.toNat (IntKind.i64.wrap ((s.sums.getD s.i.toNat (Ty.dflt (.int .i64)))+(gi s.alive (9:Int)))))) (.rl s.levels (.ok (.next {s with k:=(IntKind.i64.wrap (s.k+1)),jc:=(s.jc++([s.i])),sums:=(s.sums.set s.i.toNat (IntKind.i64.wrap ((s.sums.getD s.i.toNat (Ty.dflt (.int .i64)))+(gi s.alive (9:Int)))))})))))))))))))))))))))))))) (.br ((gi s.l s.k)==10) (.req (0+(List.length s.dL)=List.length s.dL∧((List.length s.dL+List.length ([s.i]):Nat):Int)*8≤2^47∧((List.length s.dL+List.length ([s.i]):Nat):Int)<2^62) (.req (0≤s.i∧s.i<((List.length s.sums:Nat):Int)) (.req (0≤(10:Int)∧10<(List.length s.alive:Int)) (.req (s.i.toNat<List.length s.sums) (.req (0≤s.i∧s.i<((List.length s.sums:Nat):Int)) (.req (s.i.toNat<List.length s.sums) (.rl s.jm (.rl s.jl (.rl s.jk (.rl s.ji (.rl s.jh (.rl s.jg (.rl s.jf (.rl s.je (.rl s.jd (.rl s.jc (.req (0=0∧(List.length s.dL+List.length ([s.i]))=List.length (s.dL++([s.i]))) (.rl s.dK (.rl s.dJ (.rl s.dI (.rl s.dH (.rl s.dG (.req (0=0∧(List.length s.sums)=List.length (s.sums.set s.i.toNat (IntKind.i64.wrap ((s.sums.getD s.i.toNat (Ty.dflt (.int .i64)))+(gi s.alive (10:Int)))))) (.rl s.levels (.ok (.next {s with k:=(IntKind.i64.wrap (s.k+1)),dL:=(s.dL++([s.i])),sums:=(s.sums.set s.i.toNat (IntKind.i64.wrap ((s.sums.getD s.i.toNat (Ty.dflt (.int .i64)))+(gi s.alive (10:Int)))))})))))))))))))))))))))))))) (.br ((gi s.l s.k)==11) (.req (0+(List.length s.dK)=List.length s.dK∧((List.length s.dK+List.length ([s.i]):Nat):Int)*8≤2^47∧((List.length s.dK+List.length ([s.i]):Nat):Int)<2^62) (.req (0≤s.i∧s.i<((List.length s.sums:Nat):Int)) (.req (0≤(11:Int)∧11<(List.length s.alive:Int)) (.req (s.i.toNat<List.length s.sums) (.req (0≤s.i∧s.i<((List.length s.sums:Nat):Int)) (.req (s.i.toNat<List.length s.sums) (.rl s.jm (.rl s.jl (.rl s.jk (.rl s.ji (.rl s.jh (.rl s.jg (.rl s.jf (.rl s.je (.rl s.jd (.rl s.jc (.rl s.dL (.req (0=0∧(List.length s.dK+List.length ([s.i]))=List.length (s.dK++([s.i]))) (.rl s.dJ (.rl s.dI (.rl s.dH (.rl s.dG (.req (0=0∧(List.length s.sums)=List.length (s.sums.set s.i.toNat (IntKind.i64.wrap ((s.sums.getD s.i.toNat (Ty.dflt (.int .i64)))+(gi s.alive (11:Int)))))) (.rl s.levels (.ok (.next {s with k:=(IntKind.i64.wrap (s.k+1)),dK:=(s.dK++([s.i])),sums:=(s.sums.set s.i.toNat (IntKind.i64.wrap ((s.sums.getD s.i.toNat (Ty.dflt (.int .i64)))+(gi s.alive (11:Int)))))})))))))))))))))))))))))))) (.br ((gi s.l s.k)==12) (.req (0+(List.length s.dJ)=List.length s.dJ∧((List.length s.dJ+List.length ([s.i]):Nat):Int)*8≤2^47∧((List.length s.dJ+List.length ([s.i]):Nat):Int)<2^62) (.req (0≤s.i∧s.i<((List.length s.sums:Nat):Int)) (.req (0≤(12:Int)∧12<(List.length s.alive:Int)) (.req (s.i.toNat<List.length s.sums) (.req (0≤s.i∧s.i<((List.length s.sums:Nat):Int)) (.req (s.i.toNat<List.length s.sums) (.rl s.jm (.rl s.jl (.rl s.jk (.rl s.ji (.rl s.jh (.rl s.jg (.rl s.jf (.rl s.je (.rl s.jd (.rl s.jc (.rl s.dL (.rl s.dK (.req (0=0∧(List.length s.dJ+List.length ([s.i]))=List.length (s.dJ++([s.i]))) (.rl s.dI (.rl s.dH (.rl s.dG (.req (0=0∧(List.length s.sums)=List.length (s.sums.set s.i.toNat (IntKind.i64.wrap ((s.sums.getD s.i.toNat (Ty.dflt (.int .i64)))+(gi s.alive (12:Int)))))) (.rl s.levels (.ok (.next {s with k:=(IntKind.i64.wrap (s.k+1)),dJ:=(s.dJ++([s.i])),sums:=(s.sums.set s.i.toNat (IntKind.i64.wrap ((s.sums.getD s.i.toNat (Ty.dflt (.int .i64)))+(gi s.alive (12:Int)))))})))))))))))))))))))))))))) (.br ((gi s.l s.k)==13) (.req (0+(List.length s.dI)=List.length s.dI∧((List.length s.dI+List.length ([s.i]):Nat):Int)*8≤2^47∧((List.length s.dI+List.length ([s.i]):Nat):Int)<2^62) (.req (0≤s.i∧s.i<((List.length s.sums:Nat):Int)) (.req (0≤(13:Int)∧13<(List.length s.alive:Int)) (.req (s.i.toNat<List.length s.sums) (.req (0≤s.i∧s.i<((List.length s.sums:Nat):Int)) (.req (s.i.toNat<List.length s.sums) (.rl s.jm (.rl s.jl (.rl s.jk (.rl s.ji (.rl s.jh (.rl s.jg (.rl s.jf (.rl s.je (.rl s.jd (.rl s.jc (.rl s.dL (.rl s.dK (.rl s.dJ (.req (0=0∧(List.length s.dI+List.length ([s.i]))=List.length (s.dI++([s.i]))) (.rl s.dH (.rl s.dG (.req (0=0∧(List.length s.sums)=List.length (s.sums.set s.i.toNat (IntKind.i64.wrap ((s.sums.getD s.i.toNat (Ty.dflt (.int .i64)))+(gi s.alive (13:Int)))))) (.rl s.levels (.ok (.next {s with k:=(IntKind.i64.wrap (s.k+1)),dI:=(s.dI++([s.i])),sums:=(s.sums.set s.i.toNat (IntKind.i64.wrap ((s.sums.getD s.i.toNat (Ty.dflt (.int .i64)))+(gi s.alive (13:Int)))))})))))))))))))))))))))))))) (.br ((gi s.l s.k)==14) (.req (0+(List.length s.dH)=List.length s.dH∧((List.length s.dH+List.length ([s.i]):Nat):Int)*8≤2^47∧((List.length s.dH+List.length ([s.i]):Nat):Int)<2^62) (.req (0≤s.i∧s.i<((List.length s.sums:Nat):Int)) (.req (0≤(14:Int)∧14<(List.length s.alive:Int)) (.req (s.i.toNat<List.length s.sums) (.req (0≤s.i∧s.i<((List.length s.sums:Nat):Int)) (.req (s.i.toNat<List.length s.sums) (.rl s.jm (.rl s.jl (.rl s.jk (.rl s.ji (.rl s.jh (.rl s.jg (.rl s.jf (.rl s.je (.rl s.jd (.rl s.jc (.rl s.dL (.rl s.dK (.rl s.dJ (.rl s.dI (.req (0=0∧(List.length s.dH+List.length ([s.i]))=List.length (s.dH++([s.i]))) (.rl s.dG (.req (0=0∧(List.length s.sums)=List.length (s.sums.set s.i.toNat (IntKind.i64.wrap ((s.sums.getD s.i.toNat (Ty.dflt (.int .i64)))+(gi s.alive (14:Int)))))) (.rl s.levels (.ok (.next {s with k:=(IntKind.i64.wrap (s.k+1)),dH:=(s.dH++([s.i])),sums:=(s.sums.set s.i.toNat (IntKind.i64.wrap ((s.sums.getD s.i.toNat (Ty.dflt (.int .i64)))+(gi s.alive (14:Int)))))})))))))))))))))))))))))))) (.req (0+(List.length s.dG)=List.length s.dG∧((List.length s.dG+List.length ([s.i]):Nat):Int)*8≤2^47∧((List.length s.dG+List.length ([s.i]):Nat):Int)<2^62) (.req (0≤s.i∧s.i<((List.length s.sums:Nat):Int)) (.req (0≤(15:Int)∧15<(List.length s.alive:Int)) (.req (s.i.toNat<List.length s.sums) (.req (0≤s.i∧s.i<((List.length s.sums:Nat):Int)) (.req (s.i.toNat<List.length s.sums) (.rl s.jm (.rl s.jl (.rl s.jk (.rl s.ji (.rl s.jh (.rl s.jg (.rl s.jf (.rl s.je (.rl s.jd (.rl s.jc (.rl s.dL (.rl s.dK (.rl s.dJ (.rl s.dI (.rl s.dH (.req (0=0∧(List.length s.dG+List.length ([s.i]))=List.length (s.dG++([s.i]))) (.req (0=0∧(List.length s.sums)=List.length (s.sums.set s.i.toNat (IntKind.i64.wrap ((s.sums.getD s.i.toNat (Ty.dflt (.int .i64)))+(gi s.alive (15:Int)))))) (.rl s.levels (.ok (.next {s with k:=(IntKind.i64.wrap (s.k+1)),dG:=(s.dG++([s.i])),sums:=(s.sums.set s.i.toNat (IntKind.i64.wrap ((s.sums.getD s.i.toNat (Ty.dflt (.int .i64)))+(gi s.alive (15:Int)))))}))))))))))))))))))))))))))))))))))))))))))) (.rl s.jm (.rl s.jl (.rl s.jk (.rl s.ji (.rl s.jh (.rl s.jg (.rl s.jf (.rl s.je (.rl s.jd (.rl s.jc (.rl s.dL (.rl s.dK (.rl s.dJ (.rl s.dI (.rl s.dH (.rl s.dG (.rl s.sums (.rl s.levels (.ok (.stop (.exit 2) s))))))))))))))))))))
abbrev abC (s:gZ):=(Sj s).rd s
def fC (s:gZ):List (List Int):=[s.jm,s.jl,s.jk,s.ji,s.jh,s.jg,s.jf,s.je,s.jd,s.jc,s.dL,s.dK,s.dJ,s.dI,s.dH,s.dG]
def VH (s:gZ):Prop:=s.k=0∧(∀o∈fC s,(o.length:Int)≤1000000)∧(0≤gi s.sums s.i∧gi s.sums s.i≤1000)∧s.n=(s.l.length:Int)∧s.n≤1000∧(∀m∈s.l,0≤m∧m<16∧m<(s.alive.length:Int))∧(∀a∈s.alive,0≤a∧a≤80)∧(0≤s.i∧s.i<(s.sums.length:Int))
def uY (s:gZ):Prop:=(0≤s.k∧s.k≤s.n)∧(∀o∈fC s,(o.length:Int)≤1000000+s.k)∧(0≤gi s.sums s.i∧gi s.sums s.i≤1000+80*s.k)∧s.n=(s.l.length:Int)∧s.n≤1000∧(∀m∈s.l,0≤m∧m<16∧m<(s.alive.length:Int))∧(∀a∈s.alive,0≤a∧a≤80)∧(0≤s.i∧s.i<(s.sums.length:Int))
def vW (s:gZ):Nat:=(s.n-s.k).toNat
def ak2 (x:Ex) (_ s':gZ):Prop:=x=.exit 2∧s'.k=s'.n
theorem aAN:∀s,VH s→uY s:=by
 intro s h
 obtain ⟨h0,h1,h2,h3⟩:=h
 exact ⟨by have:=h3.1;omega,fun o ho=>by have:=h1 o ho;omega,by omega,h3⟩
theorem fU (s:gZ) (hI:uY s) (c1:s.k<s.n):0≤gi s.l s.k∧gi s.l s.k<16∧gi s.l s.k<(s.alive.length:Int):=by
 obtain ⟨⟨h0,h1⟩,h2,h3,h4,h5,h6,h7,h8⟩:=hI
 exact h6 _ (by rw [oK (by omega)];exact List.getElem_mem _)
theorem aid (s s':gZ) (j:Nat) (hI:uY s) (c1:s.k<s.n) (em:gi s.l s.k=(j:Int)) (hO:fC s'=(fC s).modify j (·++[s.i])) (hs:s'.sums=s.sums.set s.i.toNat (IntKind.i64.wrap (s.sums.getD s.i.toNat 0+gi s.alive (j:Int)))) (hk:s'.k=IntKind.i64.wrap (s.k+1)) (hn:s'.n=s.n) (hl:s'.l=s.l) (ha:s'.alive=s.alive) (hi:s'.i=s.i):
  (uY s'∧vW s'<vW s)∧(fun s:gZ=>(vg s.i (fC s) (s.l.drop s.k.toNat),s.sums.set s.i.toNat (s.sums.getD s.i.toNat 0+smA s.alive (s.l.drop s.k.toNat)))) s'=(fun s:gZ=>(vg s.i (fC s) (s.l.drop s.k.toNat),s.sums.set s.i.toNat (s.sums.getD s.i.toNat 0+smA s.alive (s.l.drop s.k.toNat)))) s:=by
 have hm:=fU s hI c1
 obtain ⟨⟨h0,h1⟩,h2,⟨h3,h3'⟩,h4,h5,h6,h7,h8⟩:=hI
 rw [aK (x:=s.k+1) (by omega) (by omega)] at hk
 have hav:=h7 (gi s.alive (j:Int)) (by rw [oK (by omega)];exact List.getElem_mem _)
 have hgi:gi s.sums s.i=s.sums.getD s.i.toNat 0:=rfl
 rw [aK (x:=s.sums.getD s.i.toNat 0+gi s.alive (j:Int)) (by omega) (by omega)] at hs
 have hs2:gi s'.sums s'.i=s.sums.getD s.i.toNat 0+gi s.alive (j:Int):=by
  rw [hi,hs]
  show List.getD _ _ _=_
  simp [List.getD,show s.i.toNat<s.sums.length by omega]
 refine ⟨⟨⟨⟨by omega,by omega⟩,fun o ho=>?_,⟨by rw [hs2];omega,by rw [hs2];omega⟩,by rw [hn,hl];exact h4,by omega,by rw [hl,ha];exact h6,by rw [ha];exact h7,⟨by rw [hi];omega,by rw [hi,hs,List.length_set];omega⟩⟩,by simp only [vW];omega⟩,?_⟩
 ·rw [hO] at ho
  obtain ⟨k,hk2,rfl⟩:=List.mem_iff_getElem.1 ho
  rw [List.length_modify] at hk2
  have:=h2 (fC s)[k] (List.getElem_mem _)
  rw [List.getElem_modify]
  split
  ·simp only [List.length_append,List.length_cons,List.length_nil];omega
  ·omega
 ·simp only
  rw [hO,hs,hl,ha,hi,hk,(gi_step h0 (show s.k<s.l.length by omega)).1,xu,SY,em,Int.toNat_natCast,Tf (by omega)]
theorem iL (s s':gZ) (j:Nat) (hI:uY s) (c1:s.k<s.n) (em:gi s.l s.k=(j:Int)) (hO:fC s'=(fC s).modify j (·++[s.i])) (hs:s'.sums=s.sums.set s.i.toNat (IntKind.i64.wrap (s.sums.getD s.i.toNat 0+gi s.alive (j:Int)))) (hk:s'.k=IntKind.i64.wrap (s.k+1)) (hn:s'.n=s.n) (hl:s'.l=s.l) (ha:s'.alive=s.alive) (hi:s'.i=s.i):bJ (fun s'=>uY s'∧vW s'<vW s) (fun x s'=>ak2 x s s') (.next s'):=(aid s s' j hI c1 em hO hs hk hn hl ha hi).1
theorem iK (s s':gZ) (j:Nat) (hI:uY s) (c1:s.k<s.n) (em:gi s.l s.k=(j:Int)) (hO:fC s'=(fC s).modify j (·++[s.i])) (hs:s'.sums=s.sums.set s.i.toNat (IntKind.i64.wrap (s.sums.getD s.i.toNat 0+gi s.alive (j:Int)))) (hk:s'.k=IntKind.i64.wrap (s.k+1)) (hn:s'.n=s.n) (hl:s'.l=s.l) (ha:s'.alive=s.alive) (hi:s'.i=s.i):bJ (fun s'=>(fun s:gZ=>(vg s.i (fC s) (s.l.drop s.k.toNat),s.sums.set s.i.toNat (s.sums.getD s.i.toNat 0+smA s.alive (s.l.drop s.k.toNat)))) s'=(fun s:gZ=>(vg s.i (fC s) (s.l.drop s.k.toNat),s.sums.set s.i.toNat (s.sums.getD s.i.toNat 0+smA s.alive (s.l.drop s.k.toNat)))) s) (fun _ s'=>(fun s:gZ=>(vg s.i (fC s) (s.l.drop s.k.toNat),s.sums.set s.i.toNat (s.sums.getD s.i.toNat 0+smA s.alive (s.l.drop s.k.toNat)))) s'=(fun s:gZ=>(vg s.i (fC s) (s.l.drop s.k.toNat),s.sums.set s.i.toNat (s.sums.getD s.i.toNat 0+smA s.alive (s.l.drop s.k.toNat)))) s) (.next s'):=(aid s s' j hI c1 em hO hs hk hn hl ha hi).2
theorem aif (s : gZ) (hI:uY s):bJ (fun s'=>uY s'∧vW s'<vW s) (fun x s'=>ak2 x s s') (abC s):=by
 unfold abC Sj
 dsimp only [T.rd,T.rl]
 refine au (fun c1=>?_) (fun c1=>?_)
 ·refine au (fun c2=>?_) (fun c2=>?_)
  ·have em:gi s.l s.k=0:=by simpa using c2
   exact iL s _ 0 hI (by simpa using c1) em rfl rfl rfl rfl rfl rfl rfl
  ·refine au (fun c3=>?_) (fun c3=>?_)
   ·have em:gi s.l s.k=1:=by simpa using c3
    exact iL s _ 1 hI (by simpa using c1) em rfl rfl rfl rfl rfl rfl rfl
   ·refine au (fun c4=>?_) (fun c4=>?_)
    ·have em:gi s.l s.k=2:=by simpa using c4
     exact iL s _ 2 hI (by simpa using c1) em rfl rfl rfl rfl rfl rfl rfl
    ·refine au (fun c5=>?_) (fun c5=>?_)
     ·have em:gi s.l s.k=3:=by simpa using c5
      exact iL s _ 3 hI (by simpa using c1) em rfl rfl rfl rfl rfl rfl rfl
     ·refine au (fun c6=>?_) (fun c6=>?_)
      ·have em:gi s.l s.k=4:=by simpa using c6
       exact iL s _ 4 hI (by simpa using c1) em rfl rfl rfl rfl rfl rfl rfl
      ·refine au (fun c7=>?_) (fun c7=>?_)
       ·have em:gi s.l s.k=5:=by simpa using c7
        exact iL s _ 5 hI (by simpa using c1) em rfl rfl rfl rfl rfl rfl rfl
       ·refine au (fun c8=>?_) (fun c8=>?_)
        ·have em:gi s.l s.k=6:=by simpa using c8
         exact iL s _ 6 hI (by simpa using c1) em rfl rfl rfl rfl rfl rfl rfl
        ·refine au (fun c9=>?_) (fun c9=>?_)
         ·have em:gi s.l s.k=7:=by simpa using c9
          exact iL s _ 7 hI (by simpa using c1) em rfl rfl rfl rfl rfl rfl rfl
         ·refine au (fun c10=>?_) (fun c10=>?_)
          ·have em:gi s.l s.k=8:=by simpa using c10
           exact iL s _ 8 hI (by simpa using c1) em rfl rfl rfl rfl rfl rfl rfl
          ·refine au (fun c11=>?_) (fun c11=>?_)
           ·have em:gi s.l s.k=9:=by simpa using c11
            exact iL s _ 9 hI (by simpa using c1) em rfl rfl rfl rfl rfl rfl rfl
           ·refine au (fun c12=>?_) (fun c12=>?_)
            ·have em:gi s.l s.k=10:=by simpa using c12
             exact iL s _ 10 hI (by simpa using c1) em rfl rfl rfl rfl rfl rfl rfl
            ·refine au (fun c13=>?_) (fun c13=>?_)
             ·have em:gi s.l s.k=11:=by simpa using c13
              exact iL s _ 11 hI (by simpa using c1) em rfl rfl rfl rfl rfl rfl rfl
             ·refine au (fun c14=>?_) (fun c14=>?_)
              ·have em:gi s.l s.k=12:=by simpa using c14
               exact iL s _ 12 hI (by simpa using c1) em rfl rfl rfl rfl rfl rfl rfl
              ·refine au (fun c15=>?_) (fun c15=>?_)
               ·have em:gi s.l s.k=13:=by simpa using c15
                exact iL s _ 13 hI (by simpa using c1) em rfl rfl rfl rfl rfl rfl rfl
               ·refine au (fun c16=>?_) (fun c16=>?_)
                ·have em:gi s.l s.k=14:=by simpa using c16
                 exact iL s _ 14 hI (by simpa using c1) em rfl rfl rfl rfl rfl rfl rfl
                ·have em:gi s.l s.k=15:=by
                  have hm:=fU s hI (by simpa using c1)
                  simp only [beq_eq_false_iff_ne,ne_eq] at c2 c3 c4 c5 c6 c7 c8 c9 c10 c11 c12 c13 c14 c15 c16
                  omega
                 exact iL s _ 15 hI (by simpa using c1) em rfl rfl rfl rfl rfl rfl rfl
 ·have c1:s.n≤s.k:=by simpa using c1
  have h0:=hI.1
  exact ⟨rfl,by omega⟩
def Og:bM gZ:=⟨1,67,[2,7,8,23,24,25,31,32,33],[.ns 7 6 3 (.int .i64),.ns 7 7 3 (.int .i64),.ns 7 8 3 (.int .i64),.ns 7 9 3 (.int .i64),.ns 7 10 3 (.int .i64),.ns 7 11 3 (.int .i64),.ns 7 12 3 (.int .i64),.ns 7 13 3 (.int .i64),.ns 7 14 3 (.int .i64),.ns 7 15 3 (.int .i64),.ns 7 16 3 (.int .i64),.ns 7 17 3 (.int .i64),.ns 7 18 3 (.int .i64),.ns 7 19 3 (.int .i64),.ns 7 20 3 (.int .i64),.ns 7 21 3 (.int .i64)],aDS,aCS,fun v b=>⟨aQ (.int .i64) (v.getD 0 .junk),gI (v.getD 2 .junk),aQ F6 (v.getD 3 .junk),gI (v.getD 4 .junk),gI (v.getD 5 .junk),aQ (.int .i64) (v.getD 6 .junk),gI (v.getD 7 .junk),gI (v.getD 8 .junk),aQ dU (aY (aO b 0) 0),aQ .str (aY (aO b 0) 1),aQ dV (aY (aO b 0) 2),aQ dP (aY (aO b 0) 3),aQ dW (aY (aO b 0) 4),aQ dU (aY (aO b 1) 0),aQ .str (aY (aO b 1) 1),aQ dV (aY (aO b 1) 2),aQ dP (aY (aO b 1) 3),aQ dW (aY (aO b 1) 4),aQ F6 (aY (aO b 1) 5),aQ (.int .i64) (aY (aO b 1) 23),iR (.int .i64) (aO b 2),iR (.int .i64) (aO b 3),iR (.int .i64) (aO b 4),iR (.int .i64) (aO b 5),iR (.int .i64) (aO b 6),iR (.int .i64) (aO b 7),iR (.int .i64) (aO b 8),iR (.int .i64) (aO b 9),iR (.int .i64) (aO b 10),iR (.int .i64) (aO b 11),iR (.int .i64) (aO b 12),iR (.int .i64) (aO b 13),iR (.int .i64) (aO b 14),iR (.int .i64) (aO b 15),iR (.int .i64) (aO b 16),iR (.int .i64) (aO b 17),iR (.int .i64) (aO b 18),iR (.int .i64) (aO b 19)⟩,Sj,fun s r=> {r with alive:=s.alive,i:=s.i,rows:=s.rows,rn:=s.rn,ri:=s.ri,l:=s.l,n:=s.n,bP:=s.bP,dY:=s.dY,bU:=s.bU,cu:=s.cu,iE:=s.iE,yJ:=s.yJ,yH:=s.yH,yI:=s.yI,eP:=s.eP,yK:=s.yK,bG:=s.bG,bf:=s.bf,levels:=s.levels},fun s=>s,fun _ s=>s,[.exit 2],VH,uY,vW⟩
abbrev bD:=Og.run
abbrev ayO:=Og.q
noncomputable def aa7:Hand:=inl Tryz.prog aS yD (kD 93 1 2 (uZ.lp) (lX Tryz.prog aS (yD) 20 2)) 9
theorem aiZ:dF Tryz.prog aS aa7:=bQ Ae (dM Tryz.func93 rfl (by kernel_rfl) wS (dQ Ae)) 9
set_option maxRecDepth 100000 in
set_option maxHeartbeats 4000000 in
theorem avu (s:gZ) (hI:uY s):(Sj s).all (fun _=>True):=by
 refine ⟨fun c1=>⟨?_,?_,fun c2=>⟨?_,?_,?_,?_,?_,?_,?_,⟨rfl,rfl⟩,⟨rfl,rfl⟩,⟨rfl,rfl⟩,⟨rfl,rfl⟩,⟨rfl,rfl⟩,⟨rfl,rfl⟩,⟨rfl,rfl⟩,⟨rfl,rfl⟩,⟨rfl,rfl⟩,⟨rfl,rfl⟩,⟨rfl,rfl⟩,⟨rfl,rfl⟩,⟨rfl,rfl⟩,⟨rfl,rfl⟩,⟨rfl,rfl⟩,?_,⟨rfl,rfl⟩,trivial⟩,fun c2=>⟨fun c3=>⟨?_,?_,?_,?_,?_,?_,⟨rfl,rfl⟩,?_,⟨rfl,rfl⟩,⟨rfl,rfl⟩,⟨rfl,rfl⟩,⟨rfl,rfl⟩,⟨rfl,rfl⟩,⟨rfl,rfl⟩,⟨rfl,rfl⟩,⟨rfl,rfl⟩,⟨rfl,rfl⟩,⟨rfl,rfl⟩,⟨rfl,rfl⟩,⟨rfl,rfl⟩,⟨rfl,rfl⟩,⟨rfl,rfl⟩,?_,⟨rfl,rfl⟩,trivial⟩,fun c3=>⟨fun c4=>⟨?_,?_,?_,?_,?_,?_,⟨rfl,rfl⟩,⟨rfl,rfl⟩,?_,⟨rfl,rfl⟩,⟨rfl,rfl⟩,⟨rfl,rfl⟩,⟨rfl,rfl⟩,⟨rfl,rfl⟩,⟨rfl,rfl⟩,⟨rfl,rfl⟩,⟨rfl,rfl⟩,⟨rfl,rfl⟩,⟨rfl,rfl⟩,⟨rfl,rfl⟩,⟨rfl,rfl⟩,⟨rfl,rfl⟩,?_,⟨rfl,rfl⟩,trivial⟩,fun c4=>⟨fun c5=>⟨?_,?_,?_,?_,?_,?_,⟨rfl,rfl⟩,⟨rfl,rfl⟩,⟨rfl,rfl⟩,?_,⟨rfl,rfl⟩,⟨rfl,rfl⟩,⟨rfl,rfl⟩,⟨rfl,rfl⟩,⟨rfl,rfl⟩,⟨rfl,rfl⟩,⟨rfl,rfl⟩,⟨rfl,rfl⟩,⟨rfl,rfl⟩,⟨rfl,rfl⟩,⟨rfl,rfl⟩,⟨rfl,rfl⟩,?_,⟨rfl,rfl⟩,trivial⟩,fun c5=>⟨fun c6=>⟨?_,?_,?_,?_,?_,?_,⟨rfl,rfl⟩,⟨rfl,rfl⟩,⟨rfl,rfl⟩,⟨rfl,rfl⟩,?_,⟨rfl,rfl⟩,⟨rfl,rfl⟩,⟨rfl,rfl⟩,⟨rfl,rfl⟩,⟨rfl,rfl⟩,⟨rfl,rfl⟩,⟨rfl,rfl⟩,⟨rfl,rfl⟩,⟨rfl,rfl⟩,⟨rfl,rfl⟩,⟨rfl,rfl⟩,?_,⟨rfl,rfl⟩,trivial⟩,fun c6=>⟨fun c7=>⟨?_,?_,?_,?_,?_,?_,⟨rfl,rfl⟩,⟨rfl,rfl⟩,⟨rfl,rfl⟩,⟨rfl,rfl⟩,⟨rfl,rfl⟩,?_,⟨rfl,rfl⟩,⟨rfl,rfl⟩,⟨rfl,rfl⟩,⟨rfl,rfl⟩,⟨rfl,rfl⟩,⟨rfl,rfl⟩,⟨rfl,rfl⟩,⟨rfl,rfl⟩,⟨rfl,rfl⟩,⟨rfl,rfl⟩,?_,⟨rfl,rfl⟩,trivial⟩,fun c7=>⟨fun c8=>⟨?_,?_,?_,?_,?_,?_,⟨rfl,rfl⟩,⟨rfl,rfl⟩,⟨rfl,rfl⟩,⟨rfl,rfl⟩,⟨rfl,rfl⟩,⟨rfl,rfl⟩,?_,⟨rfl,rfl⟩,⟨rfl,rfl⟩,⟨rfl,rfl⟩,⟨rfl,rfl⟩,⟨rfl,rfl⟩,⟨rfl,rfl⟩,⟨rfl,rfl⟩,⟨rfl,rfl⟩,⟨rfl,rfl⟩,?_,⟨rfl,rfl⟩,trivial⟩,fun c8=>⟨fun c9=>⟨?_,?_,?_,?_,?_,?_,⟨rfl,rfl⟩,⟨rfl,rfl⟩,⟨rfl,rfl⟩,⟨rfl,rfl⟩,⟨rfl,rfl⟩,⟨rfl,rfl⟩,⟨rfl,rfl⟩,?_,⟨rfl,rfl⟩,⟨rfl,rfl⟩,⟨rfl,rfl⟩,⟨rfl,rfl⟩,⟨rfl,rfl⟩,⟨rfl,rfl⟩,⟨rfl,rfl⟩,⟨rfl,rfl⟩,?_,⟨rfl,rfl⟩,trivial⟩,fun c9=>⟨fun c10=>⟨?_,?_,?_,?_,?_,?_,⟨rfl,rfl⟩,⟨rfl,rfl⟩,⟨rfl,rfl⟩,⟨rfl,rfl⟩,⟨rfl,rfl⟩,⟨rfl,rfl⟩,⟨rfl,rfl⟩,⟨rfl,rfl⟩,?_,⟨rfl,rfl⟩,⟨rfl,rfl⟩,⟨rfl,rfl⟩,⟨rfl,rfl⟩,⟨rfl,rfl⟩,⟨rfl,rfl⟩,⟨rfl,rfl⟩,?_,⟨rfl,rfl⟩,trivial⟩,fun c10=>⟨fun c11=>⟨?_,?_,?_,?_,?_,?_,⟨rfl,rfl⟩,⟨rfl,rfl⟩,⟨rfl,rfl⟩,⟨rfl,rfl⟩,⟨rfl,rfl⟩,⟨rfl,rfl⟩,⟨rfl,rfl⟩,⟨rfl,rfl⟩,⟨rfl,rfl⟩,?_,⟨rfl,rfl⟩,⟨rfl,rfl⟩,⟨rfl,rfl⟩,⟨rfl,rfl⟩,⟨rfl,rfl⟩,⟨rfl,rfl⟩,?_,⟨rfl,rfl⟩,trivial⟩,fun c11=>⟨fun c12=>⟨?_,?_,?_,?_,?_,?_,⟨rfl,rfl⟩,⟨rfl,rfl⟩,⟨rfl,rfl⟩,⟨rfl,rfl⟩,⟨rfl,rfl⟩,⟨rfl,rfl⟩,⟨rfl,rfl⟩,⟨rfl,rfl⟩,⟨rfl,rfl⟩,⟨rfl,rfl⟩,?_,⟨rfl,rfl⟩,⟨rfl,rfl⟩,⟨rfl,rfl⟩,⟨rfl,rfl⟩,⟨rfl,rfl⟩,?_,⟨rfl,rfl⟩,trivial⟩,fun c12=>⟨fun c13=>⟨?_,?_,?_,?_,?_,?_,⟨rfl,rfl⟩,⟨rfl,rfl⟩,⟨rfl,rfl⟩,⟨rfl,rfl⟩,⟨rfl,rfl⟩,⟨rfl,rfl⟩,⟨rfl,rfl⟩,⟨rfl,rfl⟩,⟨rfl,rfl⟩,⟨rfl,rfl⟩,⟨rfl,rfl⟩,?_,⟨rfl,rfl⟩,⟨rfl,rfl⟩,⟨rfl,rfl⟩,⟨rfl,rfl⟩,?_,⟨rfl,rfl⟩,trivial⟩,fun c13=>⟨fun c14=>⟨?_,?_,?_,?_,?_,?_,⟨rfl,rfl⟩,⟨rfl,rfl⟩,⟨rfl,rfl⟩,⟨rfl,rfl⟩,⟨rfl,rfl⟩,⟨rfl,rfl⟩,⟨rfl,rfl⟩,⟨rfl,rfl⟩,⟨rfl,rfl⟩,⟨rfl,rfl⟩,⟨rfl,rfl⟩,⟨rfl,rfl⟩,?_,⟨rfl,rfl⟩,⟨rfl,rfl⟩,⟨rfl,rfl⟩,?_,⟨rfl,rfl⟩,trivial⟩,fun c14=>⟨fun c15=>⟨?_,?_,?_,?_,?_,?_,⟨rfl,rfl⟩,⟨rfl,rfl⟩,⟨rfl,rfl⟩,⟨rfl,rfl⟩,⟨rfl,rfl⟩,⟨rfl,rfl⟩,⟨rfl,rfl⟩,⟨rfl,rfl⟩,⟨rfl,rfl⟩,⟨rfl,rfl⟩,⟨rfl,rfl⟩,⟨rfl,rfl⟩,⟨rfl,rfl⟩,?_,⟨rfl,rfl⟩,⟨rfl,rfl⟩,?_,⟨rfl,rfl⟩,trivial⟩,fun c15=>⟨fun c16=>⟨?_,?_,?_,?_,?_,?_,⟨rfl,rfl⟩,⟨rfl,rfl⟩,⟨rfl,rfl⟩,⟨rfl,rfl⟩,⟨rfl,rfl⟩,⟨rfl,rfl⟩,⟨rfl,rfl⟩,⟨rfl,rfl⟩,⟨rfl,rfl⟩,⟨rfl,rfl⟩,⟨rfl,rfl⟩,⟨rfl,rfl⟩,⟨rfl,rfl⟩,⟨rfl,rfl⟩,?_,⟨rfl,rfl⟩,?_,⟨rfl,rfl⟩,trivial⟩,fun c16=>⟨?_,?_,?_,?_,?_,?_,⟨rfl,rfl⟩,⟨rfl,rfl⟩,⟨rfl,rfl⟩,⟨rfl,rfl⟩,⟨rfl,rfl⟩,⟨rfl,rfl⟩,⟨rfl,rfl⟩,⟨rfl,rfl⟩,⟨rfl,rfl⟩,⟨rfl,rfl⟩,⟨rfl,rfl⟩,⟨rfl,rfl⟩,⟨rfl,rfl⟩,⟨rfl,rfl⟩,⟨rfl,rfl⟩,?_,?_,⟨rfl,rfl⟩,trivial⟩⟩⟩⟩⟩⟩⟩⟩⟩⟩⟩⟩⟩⟩⟩⟩,fun c1=>⟨⟨rfl,rfl⟩,⟨rfl,rfl⟩,⟨rfl,rfl⟩,⟨rfl,rfl⟩,⟨rfl,rfl⟩,⟨rfl,rfl⟩,⟨rfl,rfl⟩,⟨rfl,rfl⟩,⟨rfl,rfl⟩,⟨rfl,rfl⟩,⟨rfl,rfl⟩,⟨rfl,rfl⟩,⟨rfl,rfl⟩,⟨rfl,rfl⟩,⟨rfl,rfl⟩,⟨rfl,rfl⟩,⟨rfl,rfl⟩,⟨rfl,rfl⟩,trivial⟩⟩
 ·(obtain ⟨h0,h2,h3,h4,h5,h6,h7,h8⟩:=hI;simp only [decide_eq_true_eq] at c1;omega)
 ·exact ⟨(fU s hI (by simpa using c1)).1,(fU s hI (by simpa using c1)).2.1⟩
 ·(have:=hI.2.1 s.jm (by simp [fC]);have:=hI.1;have:=hI.2.2.2.1;have:=hI.2.2.2.2.1;simp only [List.length_cons,List.length_nil];omega)
 ·(obtain ⟨h0,h2,h3,h4,h5,h6,h7,h8⟩:=hI;simp only [decide_eq_true_eq] at c1;omega)
 ·(have em:=eq_of_beq c2;have hm:=fU s hI (by simpa using c1);omega)
 iterate 3 · (obtain ⟨h0,h2,h3,h4,h5,h6,h7,h8⟩:=hI;simp only [decide_eq_true_eq] at c1;omega)
 iterate 2 · exact ⟨rfl,by simp⟩
 ·(have:=hI.2.1 s.jl (by simp [fC]);have:=hI.1;have:=hI.2.2.2.1;have:=hI.2.2.2.2.1;simp only [List.length_cons,List.length_nil];omega)
 ·(obtain ⟨h0,h2,h3,h4,h5,h6,h7,h8⟩:=hI;simp only [decide_eq_true_eq] at c1;omega)
 ·(have em:=eq_of_beq c3;have hm:=fU s hI (by simpa using c1);omega)
 iterate 3 · (obtain ⟨h0,h2,h3,h4,h5,h6,h7,h8⟩:=hI;simp only [decide_eq_true_eq] at c1;omega)
 iterate 2 · exact ⟨rfl,by simp⟩
 ·(have:=hI.2.1 s.jk (by simp [fC]);have:=hI.1;have:=hI.2.2.2.1;have:=hI.2.2.2.2.1;simp only [List.length_cons,List.length_nil];omega)
 ·(obtain ⟨h0,h2,h3,h4,h5,h6,h7,h8⟩:=hI;simp only [decide_eq_true_eq] at c1;omega)
 ·(have em:=eq_of_beq c4;have hm:=fU s hI (by simpa using c1);omega)
 iterate 3 · (obtain ⟨h0,h2,h3,h4,h5,h6,h7,h8⟩:=hI;simp only [decide_eq_true_eq] at c1;omega)
 iterate 2 · exact ⟨rfl,by simp⟩
 ·(have:=hI.2.1 s.ji (by simp [fC]);have:=hI.1;have:=hI.2.2.2.1;have:=hI.2.2.2.2.1;simp only [List.length_cons,List.length_nil];omega)
 ·(obtain ⟨h0,h2,h3,h4,h5,h6,h7,h8⟩:=hI;simp only [decide_eq_true_eq] at c1;omega)
 ·(have em:=eq_of_beq c5;have hm:=fU s hI (by simpa using c1);omega)
 iterate 3 · (obtain ⟨h0,h2,h3,h4,h5,h6,h7,h8⟩:=hI;simp only [decide_eq_true_eq] at c1;omega)
 iterate 2 · exact ⟨rfl,by simp⟩
 ·(have:=hI.2.1 s.jh (by simp [fC]);have:=hI.1;have:=hI.2.2.2.1;have:=hI.2.2.2.2.1;simp only [List.length_cons,List.length_nil];omega)
 ·(obtain ⟨h0,h2,h3,h4,h5,h6,h7,h8⟩:=hI;simp only [decide_eq_true_eq] at c1;omega)
 ·(have em:=eq_of_beq c6;have hm:=fU s hI (by simpa using c1);omega)
 iterate 3 · (obtain ⟨h0,h2,h3,h4,h5,h6,h7,h8⟩:=hI;simp only [decide_eq_true_eq] at c1;omega)
 iterate 2 · exact ⟨rfl,by simp⟩
 ·(have:=hI.2.1 s.jg (by simp [fC]);have:=hI.1;have:=hI.2.2.2.1;have:=hI.2.2.2.2.1;simp only [List.length_cons,List.length_nil];omega)
 ·(obtain ⟨h0,h2,h3,h4,h5,h6,h7,h8⟩:=hI;simp only [decide_eq_true_eq] at c1;omega)
 ·(have em:=eq_of_beq c7;have hm:=fU s hI (by simpa using c1);omega)
 iterate 3 · (obtain ⟨h0,h2,h3,h4,h5,h6,h7,h8⟩:=hI;simp only [decide_eq_true_eq] at c1;omega)
 iterate 2 · exact ⟨rfl,by simp⟩
 ·(have:=hI.2.1 s.jf (by simp [fC]);have:=hI.1;have:=hI.2.2.2.1;have:=hI.2.2.2.2.1;simp only [List.length_cons,List.length_nil];omega)
 ·(obtain ⟨h0,h2,h3,h4,h5,h6,h7,h8⟩:=hI;simp only [decide_eq_true_eq] at c1;omega)
 ·(have em:=eq_of_beq c8;have hm:=fU s hI (by simpa using c1);omega)
 iterate 3 · (obtain ⟨h0,h2,h3,h4,h5,h6,h7,h8⟩:=hI;simp only [decide_eq_true_eq] at c1;omega)
 iterate 2 · exact ⟨rfl,by simp⟩
 ·(have:=hI.2.1 s.je (by simp [fC]);have:=hI.1;have:=hI.2.2.2.1;have:=hI.2.2.2.2.1;simp only [List.length_cons,List.length_nil];omega)
 ·(obtain ⟨h0,h2,h3,h4,h5,h6,h7,h8⟩:=hI;simp only [decide_eq_true_eq] at c1;omega)
 ·(have em:=eq_of_beq c9;have hm:=fU s hI (by simpa using c1);omega)
 iterate 3 · (obtain ⟨h0,h2,h3,h4,h5,h6,h7,h8⟩:=hI;simp only [decide_eq_true_eq] at c1;omega)
 iterate 2 · exact ⟨rfl,by simp⟩
 ·(have:=hI.2.1 s.jd (by simp [fC]);have:=hI.1;have:=hI.2.2.2.1;have:=hI.2.2.2.2.1;simp only [List.length_cons,List.length_nil];omega)
 ·(obtain ⟨h0,h2,h3,h4,h5,h6,h7,h8⟩:=hI;simp only [decide_eq_true_eq] at c1;omega)
 ·(have em:=eq_of_beq c10;have hm:=fU s hI (by simpa using c1);omega)
 iterate 3 · (obtain ⟨h0,h2,h3,h4,h5,h6,h7,h8⟩:=hI;simp only [decide_eq_true_eq] at c1;omega)
 iterate 2 · exact ⟨rfl,by simp⟩
 ·(have:=hI.2.1 s.jc (by simp [fC]);have:=hI.1;have:=hI.2.2.2.1;have:=hI.2.2.2.2.1;simp only [List.length_cons,List.length_nil];omega)
 ·(obtain ⟨h0,h2,h3,h4,h5,h6,h7,h8⟩:=hI;simp only [decide_eq_true_eq] at c1;omega)
 ·(have em:=eq_of_beq c11;have hm:=fU s hI (by simpa using c1);omega)
 iterate 3 · (obtain ⟨h0,h2,h3,h4,h5,h6,h7,h8⟩:=hI;simp only [decide_eq_true_eq] at c1;omega)
 iterate 2 · exact ⟨rfl,by simp⟩
 ·(have:=hI.2.1 s.dL (by simp [fC]);have:=hI.1;have:=hI.2.2.2.1;have:=hI.2.2.2.2.1;simp only [List.length_cons,List.length_nil];omega)
 ·(obtain ⟨h0,h2,h3,h4,h5,h6,h7,h8⟩:=hI;simp only [decide_eq_true_eq] at c1;omega)
 ·(have em:=eq_of_beq c12;have hm:=fU s hI (by simpa using c1);omega)
 iterate 3 · (obtain ⟨h0,h2,h3,h4,h5,h6,h7,h8⟩:=hI;simp only [decide_eq_true_eq] at c1;omega)
 iterate 2 · exact ⟨rfl,by simp⟩
 ·(have:=hI.2.1 s.dK (by simp [fC]);have:=hI.1;have:=hI.2.2.2.1;have:=hI.2.2.2.2.1;simp only [List.length_cons,List.length_nil];omega)
 ·(obtain ⟨h0,h2,h3,h4,h5,h6,h7,h8⟩:=hI;simp only [decide_eq_true_eq] at c1;omega)
 ·(have em:=eq_of_beq c13;have hm:=fU s hI (by simpa using c1);omega)
 iterate 3 · (obtain ⟨h0,h2,h3,h4,h5,h6,h7,h8⟩:=hI;simp only [decide_eq_true_eq] at c1;omega)
 iterate 2 · exact ⟨rfl,by simp⟩
 ·(have:=hI.2.1 s.dJ (by simp [fC]);have:=hI.1;have:=hI.2.2.2.1;have:=hI.2.2.2.2.1;simp only [List.length_cons,List.length_nil];omega)
 ·(obtain ⟨h0,h2,h3,h4,h5,h6,h7,h8⟩:=hI;simp only [decide_eq_true_eq] at c1;omega)
 ·(have em:=eq_of_beq c14;have hm:=fU s hI (by simpa using c1);omega)
 iterate 3 · (obtain ⟨h0,h2,h3,h4,h5,h6,h7,h8⟩:=hI;simp only [decide_eq_true_eq] at c1;omega)
 iterate 2 · exact ⟨rfl,by simp⟩
 ·(have:=hI.2.1 s.dI (by simp [fC]);have:=hI.1;have:=hI.2.2.2.1;have:=hI.2.2.2.2.1;simp only [List.length_cons,List.length_nil];omega)
 ·(obtain ⟨h0,h2,h3,h4,h5,h6,h7,h8⟩:=hI;simp only [decide_eq_true_eq] at c1;omega)
 ·(have em:=eq_of_beq c15;have hm:=fU s hI (by simpa using c1);omega)
 iterate 3 · (obtain ⟨h0,h2,h3,h4,h5,h6,h7,h8⟩:=hI;simp only [decide_eq_true_eq] at c1;omega)
 iterate 2 · exact ⟨rfl,by simp⟩
 ·(have:=hI.2.1 s.dH (by simp [fC]);have:=hI.1;have:=hI.2.2.2.1;have:=hI.2.2.2.2.1;simp only [List.length_cons,List.length_nil];omega)
 ·(obtain ⟨h0,h2,h3,h4,h5,h6,h7,h8⟩:=hI;simp only [decide_eq_true_eq] at c1;omega)
 ·(have em:=eq_of_beq c16;have hm:=fU s hI (by simpa using c1);omega)
 iterate 3 · (obtain ⟨h0,h2,h3,h4,h5,h6,h7,h8⟩:=hI;simp only [decide_eq_true_eq] at c1;omega)
 iterate 2 · exact ⟨rfl,by simp⟩
 ·(have:=hI.2.1 s.dG (by simp [fC]);have:=hI.1;have:=hI.2.2.2.1;have:=hI.2.2.2.2.1;simp only [List.length_cons,List.length_nil];omega)
 ·(obtain ⟨h0,h2,h3,h4,h5,h6,h7,h8⟩:=hI;simp only [decide_eq_true_eq] at c1;omega)
 ·(have hm:=fU s hI (by simpa using c1);simp only [beq_eq_false_iff_ne,ne_eq] at c2 c3 c4 c5 c6 c7 c8 c9 c10 c11 c12 c13 c14 c15 c16;omega)
 iterate 3 · (obtain ⟨h0,h2,h3,h4,h5,h6,h7,h8⟩:=hI;simp only [decide_eq_true_eq] at c1;omega)
 iterate 2 · exact ⟨rfl,by simp⟩
theorem Xb:Og.Ok:=⟨fun s=>by kernel_rfl,fun s=>by kernel_rfl,fun s=>rfl,fun s t r=>rfl,fun s=>rfl,fun s=>by kernel_rfl⟩
theorem WJ:Og.Pf (ak2):=⟨aAN,fun _ _=>rfl,aif,avu⟩
set_option maxRecDepth 100000 in
set_option maxHeartbeats 4000000 in
theorem amU:bg Tryz.prog aS (AN 1) (.loop Jo) Og.lp:=bM.snd Xb WJ (bF (Γ:=yD) (K:=aa7) (L:=(tN Tryz.prog aS yD aa7 20 2)) Ae aiZ Jo (fun b _=>dR Ae aiZ 20 2 b)) (fun s=>by kernel_rfl)
theorem aie (s : gZ) (hE:VH s):(fun s:gZ=>(vg s.i (fC s) (s.l.drop s.k.toNat),s.sums.set s.i.toNat (s.sums.getD s.i.toNat 0+smA s.alive (s.l.drop s.k.toNat)))) (bD s)=(fun s:gZ=>(vg s.i (fC s) (s.l.drop s.k.toNat),s.sums.set s.i.toNat (s.sums.getD s.i.toNat 0+smA s.alive (s.l.drop s.k.toNat)))) s:=by
 exact bM.uV Xb WJ (fun s:gZ=>(vg s.i (fC s) (s.l.drop s.k.toNat),s.sums.set s.i.toNat (s.sums.getD s.i.toNat 0+smA s.alive (s.l.drop s.k.toNat)))) (fun s hI=>by
  show bJ _ _ (abC s)
  unfold abC Sj
  dsimp only [T.rd,T.rl]
  refine au (fun c1=>?_) (fun c1=>?_)
  ·refine au (fun c2=>?_) (fun c2=>?_)
   ·have em:gi s.l s.k=0:=by simpa using c2
    exact iK s _ 0 hI (by simpa using c1) em rfl rfl rfl rfl rfl rfl rfl
   ·refine au (fun c3=>?_) (fun c3=>?_)
    ·have em:gi s.l s.k=1:=by simpa using c3
     exact iK s _ 1 hI (by simpa using c1) em rfl rfl rfl rfl rfl rfl rfl
    ·refine au (fun c4=>?_) (fun c4=>?_)
     ·have em:gi s.l s.k=2:=by simpa using c4
      exact iK s _ 2 hI (by simpa using c1) em rfl rfl rfl rfl rfl rfl rfl
     ·refine au (fun c5=>?_) (fun c5=>?_)
      ·have em:gi s.l s.k=3:=by simpa using c5
       exact iK s _ 3 hI (by simpa using c1) em rfl rfl rfl rfl rfl rfl rfl
      ·refine au (fun c6=>?_) (fun c6=>?_)
       ·have em:gi s.l s.k=4:=by simpa using c6
        exact iK s _ 4 hI (by simpa using c1) em rfl rfl rfl rfl rfl rfl rfl
       ·refine au (fun c7=>?_) (fun c7=>?_)
        ·have em:gi s.l s.k=5:=by simpa using c7
         exact iK s _ 5 hI (by simpa using c1) em rfl rfl rfl rfl rfl rfl rfl
        ·refine au (fun c8=>?_) (fun c8=>?_)
         ·have em:gi s.l s.k=6:=by simpa using c8
          exact iK s _ 6 hI (by simpa using c1) em rfl rfl rfl rfl rfl rfl rfl
         ·refine au (fun c9=>?_) (fun c9=>?_)
          ·have em:gi s.l s.k=7:=by simpa using c9
           exact iK s _ 7 hI (by simpa using c1) em rfl rfl rfl rfl rfl rfl rfl
          ·refine au (fun c10=>?_) (fun c10=>?_)
           ·have em:gi s.l s.k=8:=by simpa using c10
            exact iK s _ 8 hI (by simpa using c1) em rfl rfl rfl rfl rfl rfl rfl
           ·refine au (fun c11=>?_) (fun c11=>?_)
            ·have em:gi s.l s.k=9:=by simpa using c11
             exact iK s _ 9 hI (by simpa using c1) em rfl rfl rfl rfl rfl rfl rfl
            ·refine au (fun c12=>?_) (fun c12=>?_)
             ·have em:gi s.l s.k=10:=by simpa using c12
              exact iK s _ 10 hI (by simpa using c1) em rfl rfl rfl rfl rfl rfl rfl
             ·refine au (fun c13=>?_) (fun c13=>?_)
              ·have em:gi s.l s.k=11:=by simpa using c13
               exact iK s _ 11 hI (by simpa using c1) em rfl rfl rfl rfl rfl rfl rfl
              ·refine au (fun c14=>?_) (fun c14=>?_)
               ·have em:gi s.l s.k=12:=by simpa using c14
                exact iK s _ 12 hI (by simpa using c1) em rfl rfl rfl rfl rfl rfl rfl
               ·refine au (fun c15=>?_) (fun c15=>?_)
                ·have em:gi s.l s.k=13:=by simpa using c15
                 exact iK s _ 13 hI (by simpa using c1) em rfl rfl rfl rfl rfl rfl rfl
                ·refine au (fun c16=>?_) (fun c16=>?_)
                 ·have em:gi s.l s.k=14:=by simpa using c16
                  exact iK s _ 14 hI (by simpa using c1) em rfl rfl rfl rfl rfl rfl rfl
                 ·have em:gi s.l s.k=15:=by
                   have hm:=fU s hI (by simpa using c1)
                   simp only [beq_eq_false_iff_ne,ne_eq] at c2 c3 c4 c5 c6 c7 c8 c9 c10 c11 c12 c13 c14 c15 c16
                   omega
                  exact iK s _ 15 hI (by simpa using c1) em rfl rfl rfl rfl rfl rfl rfl
  ·rfl) s hE
theorem aob (s:gZ) (hE:VH s):fC (bD s)=vg s.i (fC s) s.l∧(bD s).sums=s.sums.set s.i.toNat (s.sums.getD s.i.toNat 0+smA s.alive s.l):=by
 have q3:=aie s hE
 obtain ⟨hI2,hf⟩:=bM.inv Xb WJ (fun s=>by kernel_rfl) s hE
 have hI2:uY (bD s):=hI2
 have hq:=xX (aif _ hI2) hf
 have q2:(bD s).k=(bD s).n:=hq.2
 obtain ⟨h0,h1,h2,h3,h4,h5,h6,h7⟩:=hE
 obtain ⟨g0,g1,g2,g3,g4,g5,g6,g7⟩:=hI2
 have el:(bD s).l=s.l:=rfl
 have en:(bD s).n=s.n:=rfl
 have ei:(bD s).i=s.i:=rfl
 have ea:(bD s).alive=s.alive:=rfl
 simp only at q3
 rw [q2,en,el,ei,ea,List.drop_eq_nil_of_le (by omega),h0,show (0:Int).toNat=0 from rfl,List.drop_zero] at q3
 have e1:=congrArg Prod.fst q3
 have e2:=congrArg Prod.snd q3
 simp only at e1 e2
 refine ⟨e1,?_⟩
 rw [←e2]
 exact (afR (by rw [ei] at g7;omega)).symm
structure gV where
 alive:List Int
 rows:List Rw
 rn:Int
 ri:Int
 bP:List Cd
 dY:List ByteArray
 bU:List Ko
 cu:List Ch
 iE:List Ba
 yJ:List Cd
 yH:List ByteArray
 yI:List Ko
 eP:List Ch
 yK:List Ba
 bG:List Rw
 bf:List Int
 jm:List Int
 jl:List Int
 jk:List Int
 ji:List Int
 jh:List Int
 jg:List Int
 jf:List Int
 je:List Int
 jd:List Int
 jc:List Int
 dL:List Int
 dK:List Int
 dJ:List Int
 dI:List Int
 dH:List Int
 dG:List Int
 sums:List Int
 levels:List Int
def aDR (s:gV):List LV:=[.xl (.int .i64) s.alive,.own 1 0,.xl F6 s.rows,.v (.int .i64 s.rn),.v (.int .i64 s.ri)]
def aCR (s:gV):List aU:=[⟨[.xl dU s.bP,.xl .str s.dY,.xl dV s.bU,.xl dP s.cu,.xl dW s.iE],28,.cl,false⟩,⟨[.xl dU s.yJ,.xl .str s.yH,.xl dV s.yI,.xl dP s.eP,.xl dW s.yK,.xl F6 s.bG,.os 2 1 0 (List.length s.jm),.os 3 1 0 (List.length s.jl),.os 4 1 0 (List.length s.jk),.os 5 1 0 (List.length s.ji),.os 6 1 0 (List.length s.jh),.os 7 1 0 (List.length s.jg),.os 8 1 0 (List.length s.jf),.os 9 1 0 (List.length s.je),.os 10 1 0 (List.length s.jd),.os 11 1 0 (List.length s.jc),.os 12 1 0 (List.length s.dL),.os 13 1 0 (List.length s.dK),.os 14 1 0 (List.length s.dJ),.os 15 1 0 (List.length s.dI),.os 16 1 0 (List.length s.dH),.os 17 1 0 (List.length s.dG),.os 18 1 0 (List.length s.sums),.xl (.int .i64) s.bf,.os 19 1 0 (List.length s.levels)],148,.cl,false⟩,⟨[],3,.vec (.int .i64) s.jm,false⟩,⟨[],3,.vec (.int .i64) s.jl,false⟩,⟨[],3,.vec (.int .i64) s.jk,false⟩,⟨[],3,.vec (.int .i64) s.ji,false⟩,⟨[],3,.vec (.int .i64) s.jh,false⟩,⟨[],3,.vec (.int .i64) s.jg,false⟩,⟨[],3,.vec (.int .i64) s.jf,false⟩,⟨[],3,.vec (.int .i64) s.je,false⟩,⟨[],3,.vec (.int .i64) s.jd,false⟩,⟨[],3,.vec (.int .i64) s.jc,false⟩,⟨[],3,.vec (.int .i64) s.dL,false⟩,⟨[],3,.vec (.int .i64) s.dK,false⟩,⟨[],3,.vec (.int .i64) s.dJ,false⟩,⟨[],3,.vec (.int .i64) s.dI,false⟩,⟨[],3,.vec (.int .i64) s.dH,false⟩,⟨[],3,.vec (.int .i64) s.dG,false⟩,⟨[],3,.vec (.int .i64) s.sums,false⟩,⟨[],3,.vec (.int .i64) s.levels,false⟩]
noncomputable def UM:Code:=((aB (Tryz.f95.body.getD .skip))[0]?).getD .skip
def bK (s:gV):gZ:=(⟨s.alive,s.ri,s.rows,s.rn,s.ri,(rE s.rows s.ri).2,(List.length (rE s.rows s.ri).2:Int),(0:Int),s.bP,s.dY,s.bU,s.cu,s.iE,s.yJ,s.yH,s.yI,s.eP,s.yK,s.bG,s.bf,s.jm,s.jl,s.jk,s.ji,s.jh,s.jg,s.jf,s.je,s.jd,s.jc,s.dL,s.dK,s.dJ,s.dI,s.dH,s.dG,s.sums,s.levels⟩:gZ)
def RZ (s:gV):T (Rd gV):=
 .br (decide (s.ri<s.rn)) (.req (0≤s.ri∧s.ri<(List.length s.rows:Int)) (.rl s.jm (.rl s.jl (.rl s.jk (.rl s.ji (.rl s.jh (.rl s.jg (.rl s.jf (.rl s.je (.rl s.jd (.rl s.jc (.rl s.dL (.rl s.dK (.rl s.dJ (.rl s.dI (.rl s.dH (.rl s.dG (.rl s.sums (.rl s.levels (.req (ayO (bK s)) (.rl (bD (bK s)).jm (.rl (bD (bK s)).jl (.rl (bD (bK s)).jk (.rl (bD (bK s)).ji (.rl (bD (bK s)).jh (.rl (bD (bK s)).jg (.rl (bD (bK s)).jf (.rl (bD (bK s)).je (.rl (bD (bK s)).jd (.rl (bD (bK s)).jc (.rl (bD (bK s)).dL (.rl (bD (bK s)).dK (.rl (bD (bK s)).dJ (.rl (bD (bK s)).dI (.rl (bD (bK s)).dH (.rl (bD (bK s)).dG (.rl (bD (bK s)).sums (.rl s.levels (.ok (.next {s with ri:=(IntKind.i64.wrap (s.ri+1)),jm:=(bD (bK s)).jm,jl:=(bD (bK s)).jl,jk:=(bD (bK s)).jk,ji:=(bD (bK s)).ji,jh:=(bD (bK s)).jh,jg:=(bD (bK s)).jg,jf:=(bD (bK s)).jf,je:=(bD (bK s)).je,jd:=(bD (bK s)).jd,jc:=(bD (bK s)).jc,dL:=(bD (bK s)).dL,dK:=(bD (bK s)).dK,dJ:=(bD (bK s)).dJ,dI:=(bD (bK s)).dI,dH:=(bD (bK s)).dH,dG:=(bD (bK s)).dG,sums:=(bD (bK s)).sums})))))))))))))))))))))))))))))))))))))))) (.rl s.jm (.rl s.jl (.rl s.jk (.rl s.ji (.rl s.jh (.rl s.jg (.rl s.jf (.rl s.je (.rl s.jd (.rl s.jc (.rl s.dL (.rl s.dK (.rl s.dJ (.rl s.dI (.rl s.dH (.rl s.dG (.rl s.sums (.rl s.levels (.ok (.stop (.exit 0) s))))))))))))))))))))
abbrev abB (s:gV):=(RZ s).rd s
def kL (s:gV):List (List Int):=[s.jm,s.jl,s.jk,s.ji,s.jh,s.jg,s.jf,s.je,s.jd,s.jc,s.dL,s.dK,s.dJ,s.dI,s.dH,s.dG]
def Oc (s:gV):Prop:=s.ri=0∧(∀o∈kL s,o=[])∧s.sums=List.replicate s.rows.length 0∧s.rn=(s.rows.length:Int)∧s.rn≤1000∧(∀r∈s.rows,(r.2.length:Int)≤1000∧∀m∈r.2,0≤m∧m<16∧m<(s.alive.length:Int))∧(∀a∈s.alive,0≤a∧a≤80)∧s.sums.length=s.rows.length
def uX (s:gV):Prop:=(0≤s.ri∧s.ri≤s.rn)∧(∀o∈kL s,(o.length:Int)≤1000*s.ri)∧(∀k:Nat,s.ri≤(k:Int)→s.sums.getD k 0=0)∧s.rn=(s.rows.length:Int)∧s.rn≤1000∧(∀r∈s.rows,(r.2.length:Int)≤1000∧∀m∈r.2,0≤m∧m<16∧m<(s.alive.length:Int))∧(∀a∈s.alive,0≤a∧a≤80)∧s.sums.length=s.rows.length
def vV (s:gV):Nat:=(s.rn-s.ri).toNat
def adI (x:Ex) (_ s':gV):Prop:=x=.exit 0∧s'.ri=s'.rn
theorem aAM:∀s,Oc s→uX s:=by
 intro s h
 obtain ⟨h0,h1,h2,h3⟩:=h
 refine ⟨by have:=h3.1;omega,fun o ho=>by rw [h1 o ho];simp;omega,fun k _=>?_,h3⟩
 rw [h2]
 simp only [List.getD,List.getElem?_replicate]
 split<;>rfl
theorem aic (s:gV) (hI:uX s) (c1:s.ri<s.rn):VH (bK s):=by
 obtain ⟨⟨h0,h1⟩,h2,h3,h4,h5,h6,h7,h8⟩:=hI
 have hr:=h6 (rE s.rows s.ri) (by rw [DC (by omega)];exact List.getElem_mem _)
 refine ⟨rfl,fun o ho=>?_,?_,rfl,hr.1,hr.2,h7,h0,?_⟩
 ·have:=h2 o ho
  omega
 ·have:=h3 s.ri.toNat (by omega)
  show 0≤s.sums.getD s.ri.toNat 0∧s.sums.getD s.ri.toNat 0≤1000
  omega
 ·show s.ri<(s.sums.length:Int)
  omega
theorem aia (s s':gV) (hI:uX s) (c1:s.ri<s.rn) (hO:kL s'=fC (bD (bK s))) (hs:s'.sums=(bD (bK s)).sums) (hk:s'.ri=IntKind.i64.wrap (s.ri+1)) (hn:s'.rn=s.rn) (hl:s'.rows=s.rows) (ha:s'.alive=s.alive):
  (uX s'∧vV s'<vV s)∧(fun s:gV=>(RI (kL s) s.ri (s.rows.drop s.ri.toNat),RH s.alive s.sums s.ri (s.rows.drop s.ri.toNat))) s'=(fun s:gV=>(RI (kL s) s.ri (s.rows.drop s.ri.toNat),RH s.alive s.sums s.ri (s.rows.drop s.ri.toNat))) s:=by
 obtain ⟨r1,r2⟩:=aob _ (aic s hI c1)
 obtain ⟨⟨h0,h1⟩,h2,h3,h4,h5,h6,h7,h8⟩:=hI
 have hr:=h6 (rE s.rows s.ri) (by rw [DC (by omega)];exact List.getElem_mem _)
 rw [aK (x:=s.ri+1) (by omega) (by omega)] at hk
 have r1:fC (bD (bK s))=vg s.ri (kL s) (rE s.rows s.ri).2:=r1
 have r2:(bD (bK s)).sums=s.sums.set s.ri.toNat (s.sums.getD s.ri.toNat 0+smA s.alive (rE s.rows s.ri).2):=r2
 refine ⟨⟨⟨⟨by omega,by omega⟩,fun o ho=>?_,fun k hk2=>?_,by rw [hn,hl];exact h4,by omega,by rw [hl,ha];exact h6,by rw [ha];exact h7,by rw [hs,r2,List.length_set,hl];exact h8⟩,by simp only [vV];omega⟩,?_⟩
 ·rw [hO,r1] at ho
  have:=aaB h2 o ho
  have:=hr.1
  rw [hk]
  omega
 ·rw [hs,r2]
  have:=h3 k (by omega)
  simp only [List.getD] at this⊢
  rw [List.getElem?_set_ne (by omega)]
  exact this
 ·simp only
  rw [hO,hs,hl,ha,r1,r2,hk,(ajH h0 (show s.ri<s.rows.length by omega)).1]
  rfl
theorem an9 (s s':gV) (hI:uX s) (c1:s.ri<s.rn) (hO:kL s'=fC (bD (bK s))) (hs:s'.sums=(bD (bK s)).sums) (hk:s'.ri=IntKind.i64.wrap (s.ri+1)) (hn:s'.rn=s.rn) (hl:s'.rows=s.rows) (ha:s'.alive=s.alive):bJ (fun s'=>uX s'∧vV s'<vV s) (fun x s'=>adI x s s') (.next s'):=(aia s s' hI c1 hO hs hk hn hl ha).1
theorem an8 (s s':gV) (hI:uX s) (c1:s.ri<s.rn) (hO:kL s'=fC (bD (bK s))) (hs:s'.sums=(bD (bK s)).sums) (hk:s'.ri=IntKind.i64.wrap (s.ri+1)) (hn:s'.rn=s.rn) (hl:s'.rows=s.rows) (ha:s'.alive=s.alive):bJ (fun s'=>(fun s:gV=>(RI (kL s) s.ri (s.rows.drop s.ri.toNat),RH s.alive s.sums s.ri (s.rows.drop s.ri.toNat))) s'=(fun s:gV=>(RI (kL s) s.ri (s.rows.drop s.ri.toNat),RH s.alive s.sums s.ri (s.rows.drop s.ri.toNat))) s) (fun _ s'=>(fun s:gV=>(RI (kL s) s.ri (s.rows.drop s.ri.toNat),RH s.alive s.sums s.ri (s.rows.drop s.ri.toNat))) s'=(fun s:gV=>(RI (kL s) s.ri (s.rows.drop s.ri.toNat),RH s.alive s.sums s.ri (s.rows.drop s.ri.toNat))) s) (.next s'):=(aia s s' hI c1 hO hs hk hn hl ha).2
theorem awr (s:gV) (hI:uX s):bJ (fun s'=>uX s'∧vV s'<vV s) (fun x s'=>adI x s s') (abB s):=by
 unfold abB RZ
 dsimp only [T.rd,T.rl]
 refine au (fun c1=>?_) (fun c1=>?_)
 ·exact an9 s _ hI (by simpa using c1) rfl rfl rfl rfl rfl rfl
 ·have c1:s.rn≤s.ri:=by simpa using c1
  have h0:=hI.1
  exact ⟨rfl,by omega⟩
def wR:bM gV:=⟨1,67,[2,7,23,24,25],[.ns 7 6 3 (.int .i64),.ns 7 7 3 (.int .i64),.ns 7 8 3 (.int .i64),.ns 7 9 3 (.int .i64),.ns 7 10 3 (.int .i64),.ns 7 11 3 (.int .i64),.ns 7 12 3 (.int .i64),.ns 7 13 3 (.int .i64),.ns 7 14 3 (.int .i64),.ns 7 15 3 (.int .i64),.ns 7 16 3 (.int .i64),.ns 7 17 3 (.int .i64),.ns 7 18 3 (.int .i64),.ns 7 19 3 (.int .i64),.ns 7 20 3 (.int .i64),.ns 7 21 3 (.int .i64)],aDR,aCR,fun v b=>⟨aQ (.int .i64) (v.getD 0 .junk),aQ F6 (v.getD 2 .junk),gI (v.getD 3 .junk),gI (v.getD 4 .junk),aQ dU (aY (aO b 0) 0),aQ .str (aY (aO b 0) 1),aQ dV (aY (aO b 0) 2),aQ dP (aY (aO b 0) 3),aQ dW (aY (aO b 0) 4),aQ dU (aY (aO b 1) 0),aQ .str (aY (aO b 1) 1),aQ dV (aY (aO b 1) 2),aQ dP (aY (aO b 1) 3),aQ dW (aY (aO b 1) 4),aQ F6 (aY (aO b 1) 5),aQ (.int .i64) (aY (aO b 1) 23),iR (.int .i64) (aO b 2),iR (.int .i64) (aO b 3),iR (.int .i64) (aO b 4),iR (.int .i64) (aO b 5),iR (.int .i64) (aO b 6),iR (.int .i64) (aO b 7),iR (.int .i64) (aO b 8),iR (.int .i64) (aO b 9),iR (.int .i64) (aO b 10),iR (.int .i64) (aO b 11),iR (.int .i64) (aO b 12),iR (.int .i64) (aO b 13),iR (.int .i64) (aO b 14),iR (.int .i64) (aO b 15),iR (.int .i64) (aO b 16),iR (.int .i64) (aO b 17),iR (.int .i64) (aO b 18),iR (.int .i64) (aO b 19)⟩,RZ,fun s r=> {r with alive:=s.alive,rows:=s.rows,rn:=s.rn,bP:=s.bP,dY:=s.dY,bU:=s.bU,cu:=s.cu,iE:=s.iE,yJ:=s.yJ,yH:=s.yH,yI:=s.yI,eP:=s.eP,yK:=s.yK,bG:=s.bG,bf:=s.bf,levels:=s.levels},fun s=>s,fun _ s=>s,[.exit 0],Oc,uX,vV⟩
abbrev ax:=wR.run
abbrev ap3:=wR.jJ
abbrev Rh:=wR.q
theorem avt (s:gV) (hI:uX s):(RZ s).all (fun _=>True):=by
 refine ⟨fun c1=>⟨?_,⟨rfl,rfl⟩,⟨rfl,rfl⟩,⟨rfl,rfl⟩,⟨rfl,rfl⟩,⟨rfl,rfl⟩,⟨rfl,rfl⟩,⟨rfl,rfl⟩,⟨rfl,rfl⟩,⟨rfl,rfl⟩,⟨rfl,rfl⟩,⟨rfl,rfl⟩,⟨rfl,rfl⟩,⟨rfl,rfl⟩,⟨rfl,rfl⟩,⟨rfl,rfl⟩,⟨rfl,rfl⟩,⟨rfl,rfl⟩,⟨rfl,rfl⟩,?_,⟨rfl,rfl⟩,⟨rfl,rfl⟩,⟨rfl,rfl⟩,⟨rfl,rfl⟩,⟨rfl,rfl⟩,⟨rfl,rfl⟩,⟨rfl,rfl⟩,⟨rfl,rfl⟩,⟨rfl,rfl⟩,⟨rfl,rfl⟩,⟨rfl,rfl⟩,⟨rfl,rfl⟩,⟨rfl,rfl⟩,⟨rfl,rfl⟩,⟨rfl,rfl⟩,⟨rfl,rfl⟩,⟨rfl,rfl⟩,⟨rfl,rfl⟩,trivial⟩,fun c1=>⟨⟨rfl,rfl⟩,⟨rfl,rfl⟩,⟨rfl,rfl⟩,⟨rfl,rfl⟩,⟨rfl,rfl⟩,⟨rfl,rfl⟩,⟨rfl,rfl⟩,⟨rfl,rfl⟩,⟨rfl,rfl⟩,⟨rfl,rfl⟩,⟨rfl,rfl⟩,⟨rfl,rfl⟩,⟨rfl,rfl⟩,⟨rfl,rfl⟩,⟨rfl,rfl⟩,⟨rfl,rfl⟩,⟨rfl,rfl⟩,⟨rfl,rfl⟩,trivial⟩⟩
 ·(obtain ⟨h0,h2,h3,h4,h5,h6,h7,h8⟩:=hI;simp only [decide_eq_true_eq] at c1;omega)
 ·exact ⟨aic s hI (by simpa using c1),rfl,rfl⟩
theorem Xa:wR.Ok:=⟨fun s=>by kernel_rfl,fun s=>by kernel_rfl,fun s=>rfl,fun s t r=>rfl,fun s=>rfl,fun s=>by kernel_rfl⟩
theorem WI:wR.Pf (adI):=⟨aAM,fun _ _=>rfl,awr,avt⟩
theorem zy:bg Tryz.prog aS (AN 1) (.loop UM) wR.lp:=bM.snd Xa WI (bF (Γ:=yD) (K:=aa7) (L:=(aeW (fun i=>if i=6 then Og.lp else aC i))) Ae aiZ UM (fun b hb=>by
 rw [show aB _=[Jo] by kernel_rfl] at hb
 simp only [List.mem_cons,List.not_mem_nil,or_false] at hb
 subst hb
 exact amU)) (fun s=>by kernel_rfl)
theorem aoa (s:gV) (hE:Oc s):∃s',uX s'∧adI (ap3 s) s' (ax s):=bM.fin Xa WI s hE
theorem aib (s:gV) (hE:Oc s):(fun s:gV=>(RI (kL s) s.ri (s.rows.drop s.ri.toNat),RH s.alive s.sums s.ri (s.rows.drop s.ri.toNat))) (ax s)=(fun s:gV=>(RI (kL s) s.ri (s.rows.drop s.ri.toNat),RH s.alive s.sums s.ri (s.rows.drop s.ri.toNat))) s:=by
 exact bM.uV Xa WI (fun s:gV=>(RI (kL s) s.ri (s.rows.drop s.ri.toNat),RH s.alive s.sums s.ri (s.rows.drop s.ri.toNat))) (fun s hI=>by
  show bJ _ _ (abB s)
  unfold abB RZ
  dsimp only [T.rd,T.rl]
  refine au (fun c1=>?_) (fun c1=>?_)
  ·exact an8 s _ hI (by simpa using c1) rfl rfl rfl rfl rfl rfl
  ·rfl) s hE
theorem an7 (s:gV) (hE:Oc s):kL (ax s)=RI (kL s) 0 s.rows∧(ax s).sums=RH s.alive s.sums 0 s.rows:=by
 have q3:=aib s hE
 obtain ⟨s',hI,q1,q2⟩:=aoa s hE
 obtain ⟨h0,h1,h2,h3,h4,h5⟩:=hE
 have el:(ax s).rows=s.rows:=rfl
 have en:(ax s).rn=s.rn:=rfl
 have ea:(ax s).alive=s.alive:=rfl
 simp only at q3
 rw [q2,en,el,ea,List.drop_eq_nil_of_le (by omega),h0] at q3
 exact ⟨congrArg Prod.fst q3,congrArg Prod.snd q3⟩
end Go.Proofs.YtlihnbimgclogaaGreatDoor
namespace Go.Proofs.YtlihnbimgclogaaGreatDoor
open Go.Sx
structure oZ where
 r:Bool
 l:List Int
 n:Int
 i:Int
 bP:List Cd
 dY:List ByteArray
 bU:List Ko
 cu:List Ch
 iE:List Ba
 yJ:List Cd
 yH:List ByteArray
 yI:List Ko
 eP:List Ch
 yK:List Ba
 bG:List Rw
 jm:List Int
 jl:List Int
 jk:List Int
 ji:List Int
 jh:List Int
 jg:List Int
 jf:List Int
 je:List Int
 jd:List Int
 jc:List Int
 dL:List Int
 dK:List Int
 dJ:List Int
 dI:List Int
 dH:List Int
 dG:List Int
 bf:List Int
 sums:List Int
 levels:List Int
 qB:ByteArray
 Yd:Int
 qA:Int
 aj2:Int
 aj3:Int
 Ya:Int
 lq:Int
 mM:Int
 more:Int
def aD9 (s:oZ):List LV:=[.fn 124 [.own 4 0,.own 6 0],.v (.bool s.r),.xl (.int .i64) s.l,.v (.int .i64 s.n),.v (.int .i64 s.i)]
def aC9 (s:oZ):List aU:=[⟨[.xl dU s.bP,.xl .str s.dY,.xl dV s.bU,.xl dP s.cu,.xl dW s.iE],28,.cl,false⟩,⟨[.xl dU s.yJ,.xl .str s.yH,.xl dV s.yI,.xl dP s.eP,.xl dW s.yK,.xl F6 s.bG,.xl (.int .i64) s.jm,.xl (.int .i64) s.jl,.xl (.int .i64) s.jk,.xl (.int .i64) s.ji,.xl (.int .i64) s.jh,.xl (.int .i64) s.jg,.xl (.int .i64) s.jf,.xl (.int .i64) s.je,.xl (.int .i64) s.jd,.xl (.int .i64) s.jc,.xl (.int .i64) s.dL,.xl (.int .i64) s.dK,.xl (.int .i64) s.dJ,.xl (.int .i64) s.dI,.xl (.int .i64) s.dH,.xl (.int .i64) s.dG,.os 2 1 0 (List.length s.sums),.xl (.int .i64) s.bf,.os 3 1 0 (List.length s.levels)],148,.cl,false⟩,⟨[],3,.vec (.int .i64) s.sums,false⟩,⟨[],3,.vec (.int .i64) s.levels,false⟩,⟨[.own 1 0],144,.cl,false⟩,⟨[.v (.string s.qB),.v (.int .i64 s.Yd),.v (.int .i64 s.qA),.v (.int .i64 s.aj2),.v (.int .i64 s.aj3),.v (.int .i64 s.Ya),.v (.int .i64 s.lq),.v (.int .i64 s.mM)],58,.cl,false⟩,⟨[.v (.int .i64 s.more)],3,.cl,false⟩]
noncomputable def UR:Code:=((aB (Tryz.f93.body.getD .skip))[0]?).getD .skip
def ZU (s:oZ):T (Rd oZ):=
 .br (decide (s.i<s.n)) (.req (0≤s.i∧s.i<(List.length s.l:Int)) (.req (0≤(gi s.l s.i)∧(gi s.l s.i)<((List.length s.sums:Nat):Int)) (.req ((gi s.l s.i).toNat<List.length s.sums) (.req (0≤(gi s.l s.i)∧(gi s.l s.i)<(List.length s.bG:Int)) (.br (!(decide ((IntKind.i64.wrap ((s.sums.getD (gi s.l s.i).toNat (Ty.dflt (.int .i64)))+s.more))≤(rE s.bG (gi s.l s.i)).1))) (.rl s.sums (.rl s.levels (.ok (.stop (.ret) {s with r:=false})))) (.rl s.sums (.rl s.levels (.ok (.next {s with i:=(IntKind.i64.wrap (s.i+1))}))))))))) (.rl s.sums (.rl s.levels (.ok (.stop (.exit 0) s))))
abbrev as3 (s:oZ):=(ZU s).rd s
def J4 (s:oZ) (j:Int):Bool:=Am s.bG s.sums s.more (gi s.l j)
def VO (s:oZ):Prop:=s.i=0∧0≤s.n∧s.n≤1000∧s.n=(s.l.length:Int)∧(∀r∈s.l,0≤r∧r<(s.bG.length:Int))∧s.sums.length=s.bG.length∧(∀k:Nat,0≤s.sums.getD k 0∧s.sums.getD k 0≤2000)∧(0≤s.more∧s.more≤10000)
def NQ (s:oZ):Prop:=0≤s.i∧s.i≤s.n∧s.n≤1000∧(s.n=(s.l.length:Int)∧(∀r∈s.l,0≤r∧r<(s.bG.length:Int))∧s.sums.length=s.bG.length∧(∀k:Nat,0≤s.sums.getD k 0∧s.sums.getD k 0≤2000)∧(0≤s.more∧s.more≤10000))∧∀j:Nat,(j:Int)<s.i→J4 s j=true
def P6 (s:oZ):Nat:=(s.n-s.i).toNat
def ale (x:Ex) (_ s':oZ):Prop:=(x=.exit 0∧∀j:Nat,(j:Int)<s'.n→J4 s' j=true)∨(x=.ret∧s'.r=false∧∃j:Nat,(j:Int)<s'.n∧J4 s' j=false)
theorem aBS:∀s,VO s→NQ s:=by
 intro s h
 obtain ⟨h0,h1,h2,h3⟩:=h
 exact ⟨by omega,by omega,h2,h3,fun j hj=>by omega⟩
theorem axF (s:oZ) (hI:NQ s):bJ (fun s'=>NQ s'∧P6 s'<P6 s) (fun x s'=>ale x s s') (as3 s):=by
 unfold as3 ZU
 dsimp only [T.rd,T.rl]
 obtain ⟨h0,h1,h2,h3,h4⟩:=hI
 refine au (fun c1=>au (fun c2=>?_) (fun c2=>?_)) (fun c1=>?_)
 ·have c1:s.i<s.n:=by simpa using c1
  refine .inr ⟨rfl,rfl,s.i.toNat,by simp only;omega,?_⟩
  rw [Int.toNat_of_nonneg (by omega)]
  have hg:J4 s s.i=false:=by unfold J4;(obtain ⟨e0,e1,e2,e3,e4⟩:=h3;have hb:=e3 (gi s.l s.i).toNat;have c2:=c2;rw [aK (x:=s.sums.getD (gi s.l s.i).toNat (Ty.dflt (.int .i64))+s.more) (by show _≤s.sums.getD (gi s.l s.i).toNat 0+s.more;omega) (by show s.sums.getD (gi s.l s.i).toNat 0+s.more≤_;omega)] at c2;unfold Am;first|(have c3:(!(decide (s.sums.getD (gi s.l s.i).toNat 0+s.more≤(rE s.bG (gi s.l s.i)).1)))=true:=c2;simpa using c3) |(have c3:(!(decide (s.sums.getD (gi s.l s.i).toNat 0+s.more≤(rE s.bG (gi s.l s.i)).1)))=false:=c2;simpa using c3))
  exact hg
 ·have c1:s.i<s.n:=by simpa using c1
  have hg:J4 s s.i=true:=by unfold J4;(obtain ⟨e0,e1,e2,e3,e4⟩:=h3;have hb:=e3 (gi s.l s.i).toNat;have c2:=c2;rw [aK (x:=s.sums.getD (gi s.l s.i).toNat (Ty.dflt (.int .i64))+s.more) (by show _≤s.sums.getD (gi s.l s.i).toNat 0+s.more;omega) (by show s.sums.getD (gi s.l s.i).toNat 0+s.more≤_;omega)] at c2;unfold Am;first|(have c3:(!(decide (s.sums.getD (gi s.l s.i).toNat 0+s.more≤(rE s.bG (gi s.l s.i)).1)))=true:=c2;simpa using c3) |(have c3:(!(decide (s.sums.getD (gi s.l s.i).toNat 0+s.more≤(rE s.bG (gi s.l s.i)).1)))=false:=c2;simpa using c3))
  rw [aK (x:=s.i+1) (by omega) (by omega)]
  refine ⟨⟨by simp only;omega,by simp only;omega,h2,h3,fun j hj=>?_⟩,by simp only [P6];omega⟩
  by_cases hji:(j:Int)<s.i
  ·exact h4 j hji
  ·have:(j:Int)=s.i:=by simp only at hj;omega
   rw [this];exact hg
 ·have c1:s.n≤s.i:=by simpa using c1
  exact .inl ⟨rfl,fun j hj=>h4 j (by omega)⟩
def yF:bM oZ:=⟨7,18,[1,4,7,8,9],[],aD9,aC9,fun v b=>⟨vF (v.getD 1 .junk),aQ (.int .i64) (v.getD 2 .junk),gI (v.getD 3 .junk),gI (v.getD 4 .junk),aQ dU (aY (aO b 0) 0),aQ .str (aY (aO b 0) 1),aQ dV (aY (aO b 0) 2),aQ dP (aY (aO b 0) 3),aQ dW (aY (aO b 0) 4),aQ dU (aY (aO b 1) 0),aQ .str (aY (aO b 1) 1),aQ dV (aY (aO b 1) 2),aQ dP (aY (aO b 1) 3),aQ dW (aY (aO b 1) 4),aQ F6 (aY (aO b 1) 5),aQ (.int .i64) (aY (aO b 1) 6),aQ (.int .i64) (aY (aO b 1) 7),aQ (.int .i64) (aY (aO b 1) 8),aQ (.int .i64) (aY (aO b 1) 9),aQ (.int .i64) (aY (aO b 1) 10),aQ (.int .i64) (aY (aO b 1) 11),aQ (.int .i64) (aY (aO b 1) 12),aQ (.int .i64) (aY (aO b 1) 13),aQ (.int .i64) (aY (aO b 1) 14),aQ (.int .i64) (aY (aO b 1) 15),aQ (.int .i64) (aY (aO b 1) 16),aQ (.int .i64) (aY (aO b 1) 17),aQ (.int .i64) (aY (aO b 1) 18),aQ (.int .i64) (aY (aO b 1) 19),aQ (.int .i64) (aY (aO b 1) 20),aQ (.int .i64) (aY (aO b 1) 21),aQ (.int .i64) (aY (aO b 1) 23),iR (.int .i64) (aO b 2),iR (.int .i64) (aO b 3),gSr (aY (aO b 5) 0),gI (aY (aO b 5) 1),gI (aY (aO b 5) 2),gI (aY (aO b 5) 3),gI (aY (aO b 5) 4),gI (aY (aO b 5) 5),gI (aY (aO b 5) 6),gI (aY (aO b 5) 7),gI (aY (aO b 6) 0)⟩,ZU,fun s r=> {r with l:=s.l,n:=s.n,bP:=s.bP,dY:=s.dY,bU:=s.bU,cu:=s.cu,iE:=s.iE,yJ:=s.yJ,yH:=s.yH,yI:=s.yI,eP:=s.eP,yK:=s.yK,bG:=s.bG,jm:=s.jm,jl:=s.jl,jk:=s.jk,ji:=s.ji,jh:=s.jh,jg:=s.jg,jf:=s.jf,je:=s.je,jd:=s.jd,jc:=s.jc,dL:=s.dL,dK:=s.dK,dJ:=s.dJ,dI:=s.dI,dH:=s.dH,dG:=s.dG,bf:=s.bf,sums:=s.sums,levels:=s.levels,qB:=s.qB,Yd:=s.Yd,qA:=s.qA,aj2:=s.aj2,aj3:=s.aj3,Ya:=s.Ya,lq:=s.lq,mM:=s.mM,more:=s.more},fun s=>s,fun _ s=>s,[.ret,.exit 0],VO,NQ,P6⟩
abbrev Gf:=yF.run
abbrev Gq:=yF.jJ
abbrev ay4:=yF.q
noncomputable def Ai:Specs:=aZ [(24,nX),(61,qG),(94,qF),(96,qE)]
theorem Eg:∀g S,Ai g=some S→Valid Tryz.prog aS g S:=aT (l:=[(24,nX),(61,qG),(94,qF),(96,qE)]) ⟨CY,GU,GR,GN,trivial⟩
noncomputable def ai8:Hand:=inl Tryz.prog aS Ai (kD 95 1 3 (wR.lp) (kD 93 1 2 (uZ.lp) (lX Tryz.prog aS (Ai) 20 2))) 9
theorem arK:dF Tryz.prog aS ai8:=bQ Eg (dM Tryz.func95 rfl (by kernel_rfl) zy (dM Tryz.func93 rfl (by kernel_rfl) wS (dQ Eg))) 9
theorem avM (s:oZ) (hI:NQ s):(ZU s).all (fun _=>True):=by
 refine ⟨fun c1=>⟨?_,?_,?_,?_,fun c2=>⟨⟨rfl,rfl⟩,⟨rfl,rfl⟩,trivial⟩,fun c2=>⟨⟨rfl,rfl⟩,⟨rfl,rfl⟩,trivial⟩⟩,fun c1=>⟨⟨rfl,rfl⟩,⟨rfl,rfl⟩,trivial⟩⟩
 all_goals ((obtain ⟨h0,h1,h2,⟨e0,e1,e2,e3,e4⟩,h4⟩:=hI;simp only [decide_eq_true_eq] at c1;have hm:=e1 (gi s.l s.i) (qp (by omega) (by omega));omega))
theorem ahU:yF.Ok:=⟨fun s=>by kernel_rfl,fun s=>by kernel_rfl,fun s=>rfl,fun s t r=>rfl,fun s=>rfl,fun s=>by kernel_rfl⟩
theorem agR:yF.Pf (ale):=⟨aBS,fun _ _=>rfl,axF,avM⟩
theorem F7:bg Tryz.prog aS (AN 7) (.loop UR) yF.lp:=bM.snd ahU agR (bF (Γ:=Ai) (K:=ai8) (L:=(tN Tryz.prog aS Ai ai8 20 2)) Eg arK UR (fun b _=>dR Eg arK 20 2 b)) (fun s=>by kernel_rfl)
theorem aqo (s:oZ) (hE:VO s):∃s',NQ s'∧ale (Gq s) s' (Gf s):=bM.fin ahU agR s hE
theorem rG (s:oZ) (hE:VO s):(Gq s=.exit 0∧s.l.all (Am s.bG s.sums s.more)=true)∨(Gq s=.ret∧(Gf s).r=false∧s.l.all (Am s.bG s.sums s.more)=false):=by
 obtain ⟨s',hI,hq⟩:=aqo s hE
 obtain ⟨h0,h1,h2,h3,_⟩:=hE
 have en:(Gf s).n=s.n:=rfl
 rcases hq with ⟨q1,q2⟩ |⟨q1,q2,j,q3,q4⟩
 ·exact .inl ⟨q1,(jF (d:=(0:Int))).1 fun j hj=>q2 j (by rw [en];omega)⟩
 ·refine .inr ⟨q1,q2,?_⟩
  rw [Bool.eq_false_iff]
  intro hx
  have:=(jF (d:=(0:Int))).2 hx j (by rw [en] at q3;omega)
  exact Bool.noConfusion (this.symm.trans q4)
structure tu where
 QK:Int
 level:Int
 l:List Int
 n:Int
 i:Int
 bP:List Cd
 dY:List ByteArray
 bU:List Ko
 cu:List Ch
 iE:List Ba
 yJ:List Cd
 yH:List ByteArray
 yI:List Ko
 eP:List Ch
 yK:List Ba
 bG:List Rw
 jm:List Int
 jl:List Int
 jk:List Int
 ji:List Int
 jh:List Int
 jg:List Int
 jf:List Int
 je:List Int
 jd:List Int
 jc:List Int
 dL:List Int
 dK:List Int
 dJ:List Int
 dI:List Int
 dH:List Int
 dG:List Int
 bf:List Int
 sums:List Int
 levels:List Int
 more:Int
def aFa (s:tu):List LV:=[.v (.int .i64 s.QK),.own 4 0,.v (.int .i64 s.level),.own 5 0,.xl (.int .i64) s.l,.v (.int .i64 s.n),.v (.int .i64 s.i)]
def aE2 (s:tu):List aU:=[⟨[.xl dU s.bP,.xl .str s.dY,.xl dV s.bU,.xl dP s.cu,.xl dW s.iE],28,.cl,false⟩,⟨[.xl dU s.yJ,.xl .str s.yH,.xl dV s.yI,.xl dP s.eP,.xl dW s.yK,.xl F6 s.bG,.xl (.int .i64) s.jm,.xl (.int .i64) s.jl,.xl (.int .i64) s.jk,.xl (.int .i64) s.ji,.xl (.int .i64) s.jh,.xl (.int .i64) s.jg,.xl (.int .i64) s.jf,.xl (.int .i64) s.je,.xl (.int .i64) s.jd,.xl (.int .i64) s.jc,.xl (.int .i64) s.dL,.xl (.int .i64) s.dK,.xl (.int .i64) s.dJ,.xl (.int .i64) s.dI,.xl (.int .i64) s.dH,.xl (.int .i64) s.dG,.os 2 1 0 (List.length s.sums),.xl (.int .i64) s.bf,.os 3 1 0 (List.length s.levels)],148,.cl,false⟩,⟨[],3,.vec (.int .i64) s.sums,false⟩,⟨[],3,.vec (.int .i64) s.levels,false⟩,⟨[.own 1 0],144,.cl,false⟩,⟨[.v (.int .i64 s.more)],3,.cl,false⟩]
noncomputable def acw:Code:=((aB (Tryz.f97.body.getD .skip))[0]?).getD .skip
def afA (s:tu):T (Rd tu):=
 .br (decide (s.i<s.n)) (.req (0≤s.i∧s.i<(List.length s.l:Int)) (.req (0≤(gi s.l s.i)∧(gi s.l s.i)<((List.length s.sums:Nat):Int)) (.req ((gi s.l s.i).toNat<List.length s.sums) (.req (0≤(gi s.l s.i)∧(gi s.l s.i)<((List.length s.sums:Nat):Int)) (.req ((gi s.l s.i).toNat<List.length s.sums) (.req (0=0∧(List.length s.sums)=List.length (s.sums.set (gi s.l s.i).toNat (IntKind.i64.wrap ((s.sums.getD (gi s.l s.i).toNat (Ty.dflt (.int .i64)))+s.more)))) (.rl s.levels (.ok (.next {s with i:=(IntKind.i64.wrap (s.i+1)),sums:=(s.sums.set (gi s.l s.i).toNat (IntKind.i64.wrap ((s.sums.getD (gi s.l s.i).toNat (Ty.dflt (.int .i64)))+s.more)))}))))))))) (.rl s.sums (.rl s.levels (.ok (.stop (.exit 0) s))))
abbrev apP (s:tu):=(afA s).rd s
def afa (s:tu):Prop:=s.i=0∧(∀k:Nat,0≤s.sums.getD k 0∧s.sums.getD k 0≤2000)∧s.n=(s.l.length:Int)∧s.n≤1000∧(∀r∈s.l,0≤r∧r<(s.sums.length:Int))∧(0≤s.more∧s.more≤10000)
def ae6 (s:tu):Prop:=(0≤s.i∧s.i≤s.n)∧(∀k:Nat,0≤s.sums.getD k 0∧s.sums.getD k 0≤2000+10000*s.i)∧s.n=(s.l.length:Int)∧s.n≤1000∧(∀r∈s.l,0≤r∧r<(s.sums.length:Int))∧(0≤s.more∧s.more≤10000)
def aaM (s:tu):Nat:=(s.n-s.i).toNat
def ayg (x:Ex) (_ s':tu):Prop:=x=.exit 0∧s'.i=s'.n
theorem aEB:∀s,afa s→ae6 s:=by
 intro s h
 obtain ⟨h0,h1,h2,h3⟩:=h
 exact ⟨by omega,fun k=>by have:=h1 k;omega,h2,h3⟩
theorem az8 (s:tu) (hI:ae6 s):bJ (fun s'=>ae6 s'∧aaM s'<aaM s) (fun x s'=>ayg x s s') (apP s):=by
 unfold apP afA
 dsimp only [T.rd,T.rl]
 obtain ⟨⟨h0,h1⟩,h2,h3,h4,h5,h6⟩:=hI
 refine au (fun c1=>?_) (fun c1=>?_)
 ·have c1:s.i<s.n:=by simpa using c1
  have hb:=h2 (gi s.l s.i).toNat
  rw [aK (x:=s.i+1) (by omega) (by omega),aK (x:=s.sums.getD (gi s.l s.i).toNat (Ty.dflt (.int .i64))+s.more) (by show _≤s.sums.getD (gi s.l s.i).toNat 0+s.more;omega) (by show s.sums.getD (gi s.l s.i).toNat 0+s.more≤_;omega)]
  refine ⟨⟨⟨by simp only;omega,by simp only;omega⟩,fun k=>?_,h3,h4,fun r hr=>by simp only [List.length_set];exact h5 r hr,h6⟩,by simp only [aaM];omega⟩
  simp only
  have hk:=h2 k
  rw [qw]
  split
  ·show 0≤s.sums.getD (gi s.l s.i).toNat 0+s.more∧s.sums.getD (gi s.l s.i).toNat 0+s.more≤_
   omega
  ·omega
 ·have c1:s.n≤s.i:=by simpa using c1
  exact ⟨rfl,by omega⟩
def Ri:bM tu:=⟨4,90,[1,2,6,7,66,67,68],[],aFa,aE2,fun v b=>⟨gI (v.getD 0 .junk),gI (v.getD 2 .junk),aQ (.int .i64) (v.getD 4 .junk),gI (v.getD 5 .junk),gI (v.getD 6 .junk),aQ dU (aY (aO b 0) 0),aQ .str (aY (aO b 0) 1),aQ dV (aY (aO b 0) 2),aQ dP (aY (aO b 0) 3),aQ dW (aY (aO b 0) 4),aQ dU (aY (aO b 1) 0),aQ .str (aY (aO b 1) 1),aQ dV (aY (aO b 1) 2),aQ dP (aY (aO b 1) 3),aQ dW (aY (aO b 1) 4),aQ F6 (aY (aO b 1) 5),aQ (.int .i64) (aY (aO b 1) 6),aQ (.int .i64) (aY (aO b 1) 7),aQ (.int .i64) (aY (aO b 1) 8),aQ (.int .i64) (aY (aO b 1) 9),aQ (.int .i64) (aY (aO b 1) 10),aQ (.int .i64) (aY (aO b 1) 11),aQ (.int .i64) (aY (aO b 1) 12),aQ (.int .i64) (aY (aO b 1) 13),aQ (.int .i64) (aY (aO b 1) 14),aQ (.int .i64) (aY (aO b 1) 15),aQ (.int .i64) (aY (aO b 1) 16),aQ (.int .i64) (aY (aO b 1) 17),aQ (.int .i64) (aY (aO b 1) 18),aQ (.int .i64) (aY (aO b 1) 19),aQ (.int .i64) (aY (aO b 1) 20),aQ (.int .i64) (aY (aO b 1) 21),aQ (.int .i64) (aY (aO b 1) 23),iR (.int .i64) (aO b 2),iR (.int .i64) (aO b 3),gI (aY (aO b 5) 0)⟩,afA,fun s r=> {r with QK:=s.QK,level:=s.level,l:=s.l,n:=s.n,bP:=s.bP,dY:=s.dY,bU:=s.bU,cu:=s.cu,iE:=s.iE,yJ:=s.yJ,yH:=s.yH,yI:=s.yI,eP:=s.eP,yK:=s.yK,bG:=s.bG,jm:=s.jm,jl:=s.jl,jk:=s.jk,ji:=s.ji,jh:=s.jh,jg:=s.jg,jf:=s.jf,je:=s.je,jd:=s.jd,jc:=s.jc,dL:=s.dL,dK:=s.dK,dJ:=s.dJ,dI:=s.dI,dH:=s.dH,dG:=s.dG,bf:=s.bf,levels:=s.levels,more:=s.more},fun s=>s,fun _ s=>s,[.exit 0],afa,ae6,aaM⟩
abbrev kC:=Ri.run
abbrev axA:=Ri.jJ
abbrev atA:=Ri.q
noncomputable def ai7:Hand:=inl Tryz.prog aS Ai (kD 93 7 2 (yF.lp) (kD 95 1 3 (wR.lp) (kD 93 1 2 (uZ.lp) (lX Tryz.prog aS (Ai) 20 2)))) 9
theorem arJ:dF Tryz.prog aS ai7:=bQ Eg (dM Tryz.func93 rfl (by kernel_rfl) F7 (dM Tryz.func95 rfl (by kernel_rfl) zy (dM Tryz.func93 rfl (by kernel_rfl) wS (dQ Eg)))) 9
theorem aAb (s:tu) (hI:ae6 s):(afA s).all (fun _=>True):=by
 refine ⟨fun c1=>⟨?_,?_,?_,?_,?_,?_,⟨rfl,rfl⟩,trivial⟩,fun c1=>⟨⟨rfl,rfl⟩,⟨rfl,rfl⟩,trivial⟩⟩
 all_goals ((obtain ⟨⟨h0,h1⟩,h2,h3,h4,h5,h6⟩:=hI;(try simp only [decide_eq_true_eq] at c1);first|(have hm:=h5 (gi s.l s.i) (qp (by omega) (by omega));omega) |exact ⟨rfl,by simp⟩ |exact ⟨rfl,rfl⟩))
theorem ahy:Ri.Ok:=⟨fun s=>by kernel_rfl,fun s=>by kernel_rfl,fun s=>rfl,fun s t r=>rfl,fun s=>rfl,fun s=>by kernel_rfl⟩
theorem agv:Ri.Pf (ayg):=⟨aEB,fun _ _=>rfl,az8,aAb⟩
theorem Wq:bg Tryz.prog aS (AN 4) (.loop acw) Ri.lp:=bM.snd ahy agv (bF (Γ:=Ai) (K:=ai7) (L:=(tN Tryz.prog aS Ai ai7 20 2)) Eg arJ acw (fun b _=>dR Eg arJ 20 2 b)) (fun s=>by kernel_rfl)
theorem auZ (s:tu) (hE:afa s):∃s',ae6 s'∧ayg (axA s) s' (kC s):=bM.fin ahy agv s hE
theorem anD (s:tu) (hE:afa s):(fun s:tu=>y7 s.sums s.more (s.l.drop s.i.toNat)) (kC s)=(fun s:tu=>y7 s.sums s.more (s.l.drop s.i.toNat)) s:=by
 exact bM.uV ahy agv (fun s:tu=>y7 s.sums s.more (s.l.drop s.i.toNat)) (fun s hI=>by
  show bJ _ _ (apP s)
  unfold apP afA
  dsimp only [T.rd,T.rl]
  obtain ⟨⟨h0,h1⟩,h2,h3,h4,h5,h6⟩:=hI
  refine au (fun c1=>?_) (fun c1=>rfl)
  have c1:s.i<s.n:=by simpa using c1
  have hb:=h2 (gi s.l s.i).toNat
  rw [aK (x:=s.i+1) (by omega) (by omega),aK (x:=s.sums.getD (gi s.l s.i).toNat (Ty.dflt (.int .i64))+s.more) (by show _≤s.sums.getD (gi s.l s.i).toNat 0+s.more;omega) (by show s.sums.getD (gi s.l s.i).toNat 0+s.more≤_;omega)]
  show y7 _ _ _=y7 _ _ _
  rw [(gi_step h0 (show s.i<s.l.length by omega)).1]
  rfl) s hE
theorem afX (s:tu) (hE:afa s):(kC s).sums=y7 s.sums s.more s.l:=by
 have q3:=anD s hE
 obtain ⟨s',hI,q1,q2⟩:=auZ s hE
 obtain ⟨h0,h1,h2,h3⟩:=hE
 simp only at q3
 rw [q2,show (kC s).n=s.n from rfl,show (kC s).l=s.l from rfl,show (kC s).more=s.more from rfl,List.drop_eq_nil_of_le (by omega),h0] at q3
 exact q3
end Go.Proofs.YtlihnbimgclogaaGreatDoor
namespace Go.Proofs.YtlihnbimgclogaaGreatDoor
open Go.Sx
structure fJ where
 most:List Int
 order:List Int
 n:Int
 level:Int
 some:Bool
 l:List Int
 m:Int
 k:Int
 ah:List Cd
 aA:List ByteArray
 ai:List Ko
 aj:List Ch
 aI:List Ba
 yJ:List Cd
 yH:List ByteArray
 yI:List Ko
 eP:List Ch
 yK:List Ba
 bG:List Rw
 jm:List Int
 jl:List Int
 jk:List Int
 ji:List Int
 jh:List Int
 jg:List Int
 jf:List Int
 je:List Int
 jd:List Int
 jc:List Int
 dL:List Int
 dK:List Int
 dJ:List Int
 dI:List Int
 dH:List Int
 dG:List Int
 bf:List Int
 sums:List Int
 levels:List Int
def aDz (s:fJ):List LV:=[.xl (.int .i64) s.most,.xl (.int .i64) s.order,.own 0 0,.v (.int .i64 s.n),.own 1 0,.v (.int .i64 s.level),.v (.bool s.some),.xl (.int .i64) s.l,.v (.int .i64 s.m),.v (.int .i64 s.k)]
def aCz (s:fJ):List aU:=[⟨[.xl dU s.ah,.xl .str s.aA,.xl dV s.ai,.xl dP s.aj,.xl dW s.aI],28,.cl,false⟩,⟨[.xl dU s.yJ,.xl .str s.yH,.xl dV s.yI,.xl dP s.eP,.xl dW s.yK,.xl F6 s.bG,.xl (.int .i64) s.jm,.xl (.int .i64) s.jl,.xl (.int .i64) s.jk,.xl (.int .i64) s.ji,.xl (.int .i64) s.jh,.xl (.int .i64) s.jg,.xl (.int .i64) s.jf,.xl (.int .i64) s.je,.xl (.int .i64) s.jd,.xl (.int .i64) s.jc,.xl (.int .i64) s.dL,.xl (.int .i64) s.dK,.xl (.int .i64) s.dJ,.xl (.int .i64) s.dI,.xl (.int .i64) s.dH,.xl (.int .i64) s.dG,.os 2 1 0 (List.length s.sums),.xl (.int .i64) s.bf,.os 3 1 0 (List.length s.levels)],148,.cl,false⟩,⟨[],3,.vec (.int .i64) s.sums,false⟩,⟨[],3,.vec (.int .i64) s.levels,false⟩]
noncomputable def AX:Code:=((aB (((aB (Tryz.f52.body.getD .skip))[0]?).getD .skip))[0]?).getD .skip
def tY (s:fJ):oZ:=(⟨false,(([s.jm,s.jl,s.jk,s.ji,s.jh,s.jg,s.jf,s.je,s.jd,s.jc,s.dL,s.dK,s.dJ,s.dI,s.dH,s.dG]:List (List Int)).getD (gi s.l s.k).toNat []),(List.length (([s.jm,s.jl,s.jk,s.ji,s.jh,s.jg,s.jf,s.je,s.jd,s.jc,s.dL,s.dK,s.dJ,s.dI,s.dH,s.dG]:List (List Int)).getD (gi s.l s.k).toNat []):Int),(0:Int),s.ah,s.aA,s.ai,s.aj,s.aI,s.yJ,s.yH,s.yI,s.eP,s.yK,s.bG,s.jm,s.jl,s.jk,s.ji,s.jh,s.jg,s.jf,s.je,s.jd,s.jc,s.dL,s.dK,s.dJ,s.dI,s.dH,s.dG,s.bf,s.sums,s.levels,(bn s.eP (gi s.l s.k)).1,(bn s.eP (gi s.l s.k)).2.1,(bn s.eP (gi s.l s.k)).2.2.1,(bn s.eP (gi s.l s.k)).2.2.2.1,(bn s.eP (gi s.l s.k)).2.2.2.2.1,(bn s.eP (gi s.l s.k)).2.2.2.2.2.1,(bn s.eP (gi s.l s.k)).2.2.2.2.2.2.1,(bn s.eP (gi s.l s.k)).2.2.2.2.2.2.2,(IntKind.i64.wrap ((if (gi s.bf (gi s.l s.k))<(Cj (bn s.eP (gi s.l s.k)).2.2.2.1 (bn s.eP (gi s.l s.k)).2.2.2.2.2.1 (IntKind.i64.wrap ((s.levels.getD (gi s.l s.k).toNat (Ty.dflt (.int .i64)))+1))) then Cj (bn s.eP (gi s.l s.k)).2.2.2.1 (bn s.eP (gi s.l s.k)).2.2.2.2.2.1 (IntKind.i64.wrap ((s.levels.getD (gi s.l s.k).toNat (Ty.dflt (.int .i64)))+1)) else (gi s.bf (gi s.l s.k)))-(if (gi s.bf (gi s.l s.k))<(Cj (bn s.eP (gi s.l s.k)).2.2.2.1 (bn s.eP (gi s.l s.k)).2.2.2.2.2.1 (IntKind.i64.wrap ((IntKind.i64.wrap ((s.levels.getD (gi s.l s.k).toNat (Ty.dflt (.int .i64)))+1))-1))) then Cj (bn s.eP (gi s.l s.k)).2.2.2.1 (bn s.eP (gi s.l s.k)).2.2.2.2.2.1 (IntKind.i64.wrap ((IntKind.i64.wrap ((s.levels.getD (gi s.l s.k).toNat (Ty.dflt (.int .i64)))+1))-1)) else (gi s.bf (gi s.l s.k)))))⟩:oZ)
def lY (s:fJ):tu:=(⟨(gi s.l s.k),(IntKind.i64.wrap ((s.levels.getD (gi s.l s.k).toNat (Ty.dflt (.int .i64)))+1)),(([s.jm,s.jl,s.jk,s.ji,s.jh,s.jg,s.jf,s.je,s.jd,s.jc,s.dL,s.dK,s.dJ,s.dI,s.dH,s.dG]:List (List Int)).getD (gi s.l s.k).toNat []),(List.length (([s.jm,s.jl,s.jk,s.ji,s.jh,s.jg,s.jf,s.je,s.jd,s.jc,s.dL,s.dK,s.dJ,s.dI,s.dH,s.dG]:List (List Int)).getD (gi s.l s.k).toNat []):Int),(0:Int),s.ah,s.aA,s.ai,s.aj,s.aI,s.yJ,s.yH,s.yI,s.eP,s.yK,s.bG,s.jm,s.jl,s.jk,s.ji,s.jh,s.jg,s.jf,s.je,s.jd,s.jc,s.dL,s.dK,s.dJ,s.dI,s.dH,s.dG,s.bf,s.sums,s.levels,(IntKind.i64.wrap ((if (gi s.bf (gi s.l s.k))<(Cj (bn s.eP (gi s.l s.k)).2.2.2.1 (bn s.eP (gi s.l s.k)).2.2.2.2.2.1 (IntKind.i64.wrap ((s.levels.getD (gi s.l s.k).toNat (Ty.dflt (.int .i64)))+1))) then Cj (bn s.eP (gi s.l s.k)).2.2.2.1 (bn s.eP (gi s.l s.k)).2.2.2.2.2.1 (IntKind.i64.wrap ((s.levels.getD (gi s.l s.k).toNat (Ty.dflt (.int .i64)))+1)) else (gi s.bf (gi s.l s.k)))-(if (gi s.bf (gi s.l s.k))<(Cj (bn s.eP (gi s.l s.k)).2.2.2.1 (bn s.eP (gi s.l s.k)).2.2.2.2.2.1 (IntKind.i64.wrap ((IntKind.i64.wrap ((s.levels.getD (gi s.l s.k).toNat (Ty.dflt (.int .i64)))+1))-1))) then Cj (bn s.eP (gi s.l s.k)).2.2.2.1 (bn s.eP (gi s.l s.k)).2.2.2.2.2.1 (IntKind.i64.wrap ((IntKind.i64.wrap ((s.levels.getD (gi s.l s.k).toNat (Ty.dflt (.int .i64)))+1))-1)) else (gi s.bf (gi s.l s.k)))))⟩:tu)
def RQ (s:fJ):T (Rd fJ):=
 .br (decide (s.k<s.m)) (.req (0≤s.k∧s.k<(List.length s.l:Int)) (.req (0≤(gi s.l s.k)∧(gi s.l s.k)<((List.length s.levels:Nat):Int)) (.req ((gi s.l s.k).toNat<List.length s.levels) (.br ((s.levels.getD (gi s.l s.k).toNat (Ty.dflt (.int .i64))) !=(IntKind.i64.wrap (s.level-1))) (.rl s.sums (.rl s.levels (.ok (.next {s with k:=(IntKind.i64.wrap (s.k+1))})))) (.req (0≤(gi s.l s.k)∧(gi s.l s.k)<(List.length s.aj:Int)) (.req (0≤(gi s.l s.k)∧(gi s.l s.k)<(List.length s.most:Int)) (.req ((gi s.most (gi s.l s.k))≤9223372036854775807) (.br (decide ((TY (bn s.aj (gi s.l s.k)).2.2.2.1 (bn s.aj (gi s.l s.k)).2.2.2.2.1 (bn s.aj (gi s.l s.k)).2.2.2.2.2.1 (gi s.most (gi s.l s.k)))<s.level)) (.rl s.sums (.rl s.levels (.ok (.next {s with k:=(IntKind.i64.wrap (s.k+1))})))) (.req (0≤(gi s.l s.k)∧(gi s.l s.k)<(List.length s.eP:Int)) (.req (0≤(gi s.l s.k)∧(gi s.l s.k)<((List.length s.levels:Nat):Int)) (.req ((gi s.l s.k).toNat<List.length s.levels) (.req (0≤(gi s.l s.k)∧(gi s.l s.k)<(List.length s.bf:Int)) (.req ((1≤(bn s.eP (gi s.l s.k)).2.2.2.1∧(bn s.eP (gi s.l s.k)).2.2.2.1≤80∧1≤(bn s.eP (gi s.l s.k)).2.2.2.2.2.1∧(bn s.eP (gi s.l s.k)).2.2.2.2.2.1≤80)∧0≤(IntKind.i64.wrap ((s.levels.getD (gi s.l s.k).toNat (Ty.dflt (.int .i64)))+1))∧(IntKind.i64.wrap ((s.levels.getD (gi s.l s.k).toNat (Ty.dflt (.int .i64)))+1))≤1000) (.req (0≤(gi s.l s.k)∧(gi s.l s.k)<(List.length s.bf:Int)) (.req ((1≤(bn s.eP (gi s.l s.k)).2.2.2.1∧(bn s.eP (gi s.l s.k)).2.2.2.1≤80∧1≤(bn s.eP (gi s.l s.k)).2.2.2.2.2.1∧(bn s.eP (gi s.l s.k)).2.2.2.2.2.1≤80)∧0≤(IntKind.i64.wrap ((IntKind.i64.wrap ((s.levels.getD (gi s.l s.k).toNat (Ty.dflt (.int .i64)))+1))-1))∧(IntKind.i64.wrap ((IntKind.i64.wrap ((s.levels.getD (gi s.l s.k).toNat (Ty.dflt (.int .i64)))+1))-1))≤1000) (.req (0≤(gi s.l s.k)∧(gi s.l s.k)<(16:Int)) (.rl s.sums (.rl s.levels (.req (ay4 (tY s)) (.br (iG (Gq (tY s)) (.ret)) (.br (!(Gf (tY s)).r) (.br false (.rl s.sums (.rl s.levels (.ok (.next {s with some:=true,k:=(IntKind.i64.wrap (s.k+1))})))) (.rl s.sums (.rl s.levels (.ok (.next {s with k:=(IntKind.i64.wrap (s.k+1))}))))) (.req (0≤(gi s.l s.k)∧(gi s.l s.k)<(16:Int)) (.rl s.sums (.rl s.levels (.req (atA (lY s)) (.req (0≤(gi s.l s.k)∧(gi s.l s.k)<((List.length s.levels:Nat):Int)) (.req ((gi s.l s.k).toNat<List.length s.levels) (.br true (.rl (kC (lY s)).sums (.req (0=0∧(List.length s.levels)=List.length (s.levels.set (gi s.l s.k).toNat (IntKind.i64.wrap ((s.levels.getD (gi s.l s.k).toNat (Ty.dflt (.int .i64)))+1)))) (.ok (.next {s with some:=true,k:=(IntKind.i64.wrap (s.k+1)),sums:=(kC (lY s)).sums,levels:=(s.levels.set (gi s.l s.k).toNat (IntKind.i64.wrap ((s.levels.getD (gi s.l s.k).toNat (Ty.dflt (.int .i64)))+1)))})))) (.rl (kC (lY s)).sums (.req (0=0∧(List.length s.levels)=List.length (s.levels.set (gi s.l s.k).toNat (IntKind.i64.wrap ((s.levels.getD (gi s.l s.k).toNat (Ty.dflt (.int .i64)))+1)))) (.ok (.next {s with k:=(IntKind.i64.wrap (s.k+1)),sums:=(kC (lY s)).sums,levels:=(s.levels.set (gi s.l s.k).toNat (IntKind.i64.wrap ((s.levels.getD (gi s.l s.k).toNat (Ty.dflt (.int .i64)))+1)))})))))))))))) (.br (!true) (.br false (.rl s.sums (.rl s.levels (.ok (.next {s with some:=true,k:=(IntKind.i64.wrap (s.k+1))})))) (.rl s.sums (.rl s.levels (.ok (.next {s with k:=(IntKind.i64.wrap (s.k+1))}))))) (.req (0≤(gi s.l s.k)∧(gi s.l s.k)<(16:Int)) (.rl s.sums (.rl s.levels (.req (atA (lY s)) (.req (0≤(gi s.l s.k)∧(gi s.l s.k)<((List.length s.levels:Nat):Int)) (.req ((gi s.l s.k).toNat<List.length s.levels) (.br true (.rl (kC (lY s)).sums (.req (0=0∧(List.length s.levels)=List.length (s.levels.set (gi s.l s.k).toNat (IntKind.i64.wrap ((s.levels.getD (gi s.l s.k).toNat (Ty.dflt (.int .i64)))+1)))) (.ok (.next {s with some:=true,k:=(IntKind.i64.wrap (s.k+1)),sums:=(kC (lY s)).sums,levels:=(s.levels.set (gi s.l s.k).toNat (IntKind.i64.wrap ((s.levels.getD (gi s.l s.k).toNat (Ty.dflt (.int .i64)))+1)))})))) (.rl (kC (lY s)).sums (.req (0=0∧(List.length s.levels)=List.length (s.levels.set (gi s.l s.k).toNat (IntKind.i64.wrap ((s.levels.getD (gi s.l s.k).toNat (Ty.dflt (.int .i64)))+1)))) (.ok (.next {s with k:=(IntKind.i64.wrap (s.k+1)),sums:=(kC (lY s)).sums,levels:=(s.levels.set (gi s.l s.k).toNat (IntKind.i64.wrap ((s.levels.getD (gi s.l s.k).toNat (Ty.dflt (.int .i64)))+1)))})))))))))))))))))))))))))))))))) (.rl s.sums (.rl s.levels (.ok (.stop (.exit 2) s))))
abbrev abv (s:fJ):=(RQ s).rd s
def gU (s:fJ):List (List Int):=[s.jm,s.jl,s.jk,s.ji,s.jh,s.jg,s.jf,s.je,s.jd,s.jc,s.dL,s.dK,s.dJ,s.dI,s.dH,s.dG]
def Ob (s:fJ):Prop:=s.k=0∧(s.m=(s.l.length:Int)∧s.m≤1000∧1≤s.level∧s.level≤81)∧s.eP=s.aj∧OkT (gU s) s.bG s.eP s.bf s.most s.l∧OkS s.bG s.l s.sums s.levels
def nM (s:fJ):Prop:=(0≤s.k∧s.k≤s.m)∧(s.m=(s.l.length:Int)∧s.m≤1000∧1≤s.level∧s.level≤81)∧s.eP=s.aj∧OkT (gU s) s.bG s.eP s.bf s.most s.l∧OkS s.bG s.l s.sums s.levels
def vU (s:fJ):Nat:=(s.m-s.k).toNat
def adF (x:Ex) (_ s':fJ):Prop:=x=.exit 2∧s'.k=s'.m
theorem az0:∀s,Ob s→nM s:=by
 intro s h
 obtain ⟨h0,h1⟩:=h
 exact ⟨by have:=h1.1;omega,h1⟩
theorem uS (s:fJ) (hI:nM s) (c1:s.k<s.m):gi s.l s.k∈s.l∧(0≤gi s.l s.k∧gi s.l s.k<16)∧gi s.l s.k<(s.eP.length:Int)∧gi s.l s.k<(s.aj.length:Int)∧gi s.l s.k<(s.bf.length:Int)∧gi s.l s.k<(s.most.length:Int)∧gi s.l s.k<(s.levels.length:Int)∧(0≤gi s.most (gi s.l s.k)∧gi s.most (gi s.l s.k)≤80)∧(0≤gi s.bf (gi s.l s.k)∧gi s.bf (gi s.l s.k)≤80):=by
 obtain ⟨⟨h0,h1⟩,⟨h2,h3,h4,h5⟩,h6,hT,hS⟩:=hI
 have hm:gi s.l s.k∈s.l:=qp h0 (by omega)
 obtain ⟨o1,o2,o3,o4⟩:=hT.ord _ hm
 exact ⟨hm,o1,o2,by rw [←h6];exact o2,o3,o4,hS.kV _ hm,hT.mo _ (qp o1.1 o4),hT.al _ (qp o1.1 o3)⟩
theorem sJ {s:fJ}(hI:nM s) (c2:((s.levels.getD (gi s.l s.k).toNat (Ty.dflt (.int .i64))) !=(IntKind.i64.wrap (s.level-1)))=false):s.levels.getD (gi s.l s.k).toNat 0=s.level-1:=by
 obtain ⟨_,⟨h2,h3,h4,h5⟩,_⟩:=hI
 have c2:((s.levels.getD (gi s.l s.k).toNat 0) !=(IntKind.i64.wrap (s.level-1)))=false:=c2
 rw [aK (x:=s.level-1) (by omega) (by omega)] at c2
 simpa using c2
theorem Tc {s:fJ}(hI:nM s) (c2:s.levels.getD (gi s.l s.k).toNat 0=s.level-1):IntKind.i64.wrap ((s.levels.getD (gi s.l s.k).toNat (Ty.dflt (.int .i64)))+1)=s.level∧IntKind.i64.wrap ((IntKind.i64.wrap ((s.levels.getD (gi s.l s.k).toNat (Ty.dflt (.int .i64)))+1))-1)=s.level-1:=by
 obtain ⟨_,⟨h2,h3,h4,h5⟩,_⟩:=hI
 have e:IntKind.i64.wrap ((s.levels.getD (gi s.l s.k).toNat (Ty.dflt (.int .i64)))+1)=s.level:=by
  have:(s.levels.getD (gi s.l s.k).toNat (Ty.dflt (.int .i64)))=s.level-1:=c2
  rw [this,aK (x:=s.level-1+1) (by omega) (by omega)]
  omega
 refine ⟨e,?_⟩
 rw [e,aK (by omega) (by omega)]
theorem kF {s:fJ}(hI:nM s) (c1:s.k<s.m) (c2:s.levels.getD (gi s.l s.k).toNat 0=s.level-1):(tY s).more=LD s.eP s.bf (gi s.l s.k) s.level∧(lY s).more=LD s.eP s.bf (gi s.l s.k) s.level∧0≤LD s.eP s.bf (gi s.l s.k) s.level∧LD s.eP s.bf (gi s.l s.k) s.level≤10000:=by
 have hx:=uS s hI c1
 obtain ⟨w1,w2⟩:=Tc hI c2
 obtain ⟨_,⟨h2,h3,h4,h5⟩,h6,hT,hS⟩:=hI
 have hb:=aiz (gs:=s.eP) (alive:=s.bf) (k:=s.level) (hT.has _ hx.1) hx.2.2.2.2.2.2.2.2 h4 h5
 have e:(tY s).more=LD s.eP s.bf (gi s.l s.k) s.level:=by
  unfold tY
  simp only [w2]
  simp only [w1]
  show IntKind.i64.wrap (LD s.eP s.bf (gi s.l s.k) s.level)=_
  rw [aK (by omega) (by omega)]
 exact ⟨e,e,hb⟩
theorem aq7 {s:fJ}(hI:nM s) (c1:s.k<s.m):((gU s).getD (gi s.l s.k).toNat []).Nodup∧(((gU s).getD (gi s.l s.k).toNat []).length:Int)≤1000∧∀r∈(gU s).getD (gi s.l s.k).toNat [],0≤r∧r<(s.bG.length:Int):=by
 have hx:=uS s hI c1
 obtain ⟨_,_,_,hT,_⟩:=hI
 refine hT.row _ ?_
 have hl:=hT.ol
 rw [List.getD_eq_getElem?_getD,List.getElem?_eq_getElem (by omega),Option.getD_some]
 exact List.getElem_mem _
theorem tZ {s:fJ}(hI:nM s) (c1:s.k<s.m) (c2:s.levels.getD (gi s.l s.k).toNat 0=s.level-1):VO (tY s):=by
 obtain ⟨m1,m2,m3⟩:=kF hI c1 c2
 obtain ⟨o1,o2,o3⟩:=aq7 hI c1
 obtain ⟨_,_,_,hT,hS⟩:=hI
 exact ⟨rfl,Int.natCast_nonneg _,o2,rfl,o3,hS.len,hS.bd,by rw [m1];exact m3⟩
theorem OC {s:fJ}(hI:nM s) (c1:s.k<s.m) (c2:s.levels.getD (gi s.l s.k).toNat 0=s.level-1):afa (lY s):=by
 obtain ⟨m1,m2,m3⟩:=kF hI c1 c2
 obtain ⟨o1,o2,o3⟩:=aq7 hI c1
 obtain ⟨_,_,_,hT,hS⟩:=hI
 refine ⟨rfl,hS.bd,rfl,o2,fun r hr=>?_,by rw [m2];exact m3⟩
 have:=o3 r hr
 have hl:=hS.len
 show 0≤r∧r<(s.sums.length:Int)
 omega
theorem afM (s s':fJ) (hI:nM s) (c1:s.k<s.m) (ht:(s'.sums,s'.levels,s'.some)=Dj (gU s) s.bG s.eP s.bf s.most s.level (s.sums,s.levels,s.some) (gi s.l s.k)) (hk:s'.k=IntKind.i64.wrap (s.k+1))
  (h_m:s'.m=s.m) (h_l:s'.l=s.l) (h_v:s'.level=s.level) (h_g:s'.eP=s.eP) (h_c:s'.aj=s.aj) (h_r:s'.bG=s.bG) (h_a:s'.bf=s.bf) (h_w:s'.most=s.most) (h_O:gU s'=gU s):
  (nM s'∧vU s'<vU s)∧(fun s:fJ=>swp (gU s) s.bG s.eP s.bf s.most s.level (s.sums,s.levels,s.some) (s.l.drop s.k.toNat)) s'=(fun s:fJ=>swp (gU s) s.bG s.eP s.bf s.most s.level (s.sums,s.levels,s.some) (s.l.drop s.k.toNat)) s:=by
 have hx:=uS s hI c1
 obtain ⟨⟨h0,h1⟩,⟨h2,h3,h4,h5⟩,h6,hT,hS⟩:=hI
 rw [aK (x:=s.k+1) (by omega) (by omega)] at hk
 have e1:s'.sums=(Dj (gU s) s.bG s.eP s.bf s.most s.level (s.sums,s.levels,s.some) (gi s.l s.k)).1:=congrArg (·.1) ht
 have e2:s'.levels=(Dj (gU s) s.bG s.eP s.bf s.most s.level (s.sums,s.levels,s.some) (gi s.l s.k)).2.1:=congrArg (·.2.1) ht
 refine ⟨⟨⟨⟨by omega,by omega⟩,⟨by rw [h_m,h_l];exact h2,by omega,by omega,by omega⟩,by rw [h_g,h_c];exact h6,by rw [h_O,h_r,h_g,h_a,h_w,h_l];exact hT,?_⟩,by simp only [vU];omega⟩,?_⟩
 ·rw [h_r,h_l,e1,e2]
  exact afY hT hS hx.1 h4 h5
 ·simp only
  rw [h_O,h_r,h_g,h_a,h_w,h_v,h_l,ht,hk,(gi_step h0 (show s.k<s.l.length by omega)).1]
  rfl
theorem F9 (s s':fJ) (hI:nM s) (c1:s.k<s.m) (ht:(s'.sums,s'.levels,s'.some)=Dj (gU s) s.bG s.eP s.bf s.most s.level (s.sums,s.levels,s.some) (gi s.l s.k)) (hk:s'.k=IntKind.i64.wrap (s.k+1))
  (h_m:s'.m=s.m) (h_l:s'.l=s.l) (h_v:s'.level=s.level) (h_g:s'.eP=s.eP) (h_c:s'.aj=s.aj) (h_r:s'.bG=s.bG) (h_a:s'.bf=s.bf) (h_w:s'.most=s.most) (h_O:gU s'=gU s):bJ (fun s'=>nM s'∧vU s'<vU s) (fun x s'=>adF x s s') (.next s'):=(afM s s' hI c1 ht hk h_m h_l h_v h_g h_c h_r h_a h_w h_O).1
theorem F8 (s s':fJ) (hI:nM s) (c1:s.k<s.m) (ht:(s'.sums,s'.levels,s'.some)=Dj (gU s) s.bG s.eP s.bf s.most s.level (s.sums,s.levels,s.some) (gi s.l s.k)) (hk:s'.k=IntKind.i64.wrap (s.k+1))
  (h_m:s'.m=s.m) (h_l:s'.l=s.l) (h_v:s'.level=s.level) (h_g:s'.eP=s.eP) (h_c:s'.aj=s.aj) (h_r:s'.bG=s.bG) (h_a:s'.bf=s.bf) (h_w:s'.most=s.most) (h_O:gU s'=gU s):bJ (fun s'=>(fun s:fJ=>swp (gU s) s.bG s.eP s.bf s.most s.level (s.sums,s.levels,s.some) (s.l.drop s.k.toNat)) s'=(fun s:fJ=>swp (gU s) s.bG s.eP s.bf s.most s.level (s.sums,s.levels,s.some) (s.l.drop s.k.toNat)) s) (fun _ s'=>(fun s:fJ=>swp (gU s) s.bG s.eP s.bf s.most s.level (s.sums,s.levels,s.some) (s.l.drop s.k.toNat)) s'=(fun s:fJ=>swp (gU s) s.bG s.eP s.bf s.most s.level (s.sums,s.levels,s.some) (s.l.drop s.k.toNat)) s) (.next s'):=(afM s s' hI c1 ht hk h_m h_l h_v h_g h_c h_r h_a h_w h_O).2
theorem auR (s:fJ) (hI:nM s):bJ (fun s'=>nM s'∧vU s'<vU s) (fun x s'=>adF x s s') (abv s):=by
 unfold abv RQ
 dsimp only [T.rd,T.rl]
 refine au (fun c1=>?_) (fun c1=>?_)
 ·refine au (fun c2=>?_) (fun c2=>?_)
  ·have c1:s.k<s.m:=by simpa using c1
   have hn:¬(s.levels.getD (gi s.l s.k).toNat 0=s.level-1∧s.level≤yx s.eP (gi s.l s.k) (gi s.most (gi s.l s.k))):=fun h=>by
    obtain ⟨_,⟨h2,h3,h4,h5⟩,_⟩:=hI
    have c2:((s.levels.getD (gi s.l s.k).toNat 0) !=(IntKind.i64.wrap (s.level-1)))=true:=c2
    rw [aK (x:=s.level-1) (by omega) (by omega)] at c2
    have c2:¬s.levels.getD (gi s.l s.k).toNat 0=s.level-1:=by simpa using c2
    exact c2 h.1
   exact F9 s _ hI (by simpa using c1) (by unfold Dj;rw [if_neg hn]) rfl rfl rfl rfl rfl rfl rfl rfl rfl rfl
  ·refine au (fun c3=>?_) (fun c3=>?_)
   ·have c1:s.k<s.m:=by simpa using c1
    have hn:¬(s.levels.getD (gi s.l s.k).toNat 0=s.level-1∧s.level≤yx s.eP (gi s.l s.k) (gi s.most (gi s.l s.k))):=fun h=>by
     obtain ⟨_,_,h6,_⟩:=hI
     simp only [decide_eq_true_eq] at c3
     rw [←h6] at c3
     have:=h.2
     unfold yx at this
     omega
    exact F9 s _ hI (by simpa using c1) (by unfold Dj;rw [if_neg hn]) rfl rfl rfl rfl rfl rfl rfl rfl rfl rfl
   ·refine au (fun c4=>?_) (fun c4=>?_)
    ·refine au (fun c5=>?_) (fun c5=>?_)
     ·refine au (fun c6=>?_) (fun c6=>?_)
      ·cases c6
      ·have c1:s.k<s.m:=by simpa using c1
       have c2:=sJ hI c2
       have hp:s.levels.getD (gi s.l s.k).toNat 0=s.level-1∧s.level≤yx s.eP (gi s.l s.k) (gi s.most (gi s.l s.k)):=by
        refine ⟨c2,?_⟩
        have h6:=hI.2.2.1
        simp only [decide_eq_false_iff_not] at c3
        rw [←h6] at c3
        unfold yx
        omega
       have hE:=tZ hI c1 c2
       obtain ⟨m1,m2,_⟩:=kF hI c1 c2
       rcases rG _ hE with ⟨q1,q2⟩ |⟨q1,q2,q3⟩
       ·rw [q1] at c4
        cases c4
       ·rw [m1] at q3
        have q3:((gU s).getD (gi s.l s.k).toNat []).all (Am s.bG s.sums (LD s.eP s.bf (gi s.l s.k) s.level))=false:=q3
        exact F9 s _ hI (by simpa using c1) (by unfold Dj;rw [if_pos hp,if_neg (by rw [q3];simp)]) rfl rfl rfl rfl rfl rfl rfl rfl rfl rfl
     ·refine au (fun c6=>?_) (fun c6=>?_)
      ·have c1:s.k<s.m:=by simpa using c1
       have c2:=sJ hI c2
       have hp:s.levels.getD (gi s.l s.k).toNat 0=s.level-1∧s.level≤yx s.eP (gi s.l s.k) (gi s.most (gi s.l s.k)):=by
        refine ⟨c2,?_⟩
        have h6:=hI.2.2.1
        simp only [decide_eq_false_iff_not] at c3
        rw [←h6] at c3
        unfold yx
        omega
       have hE:=tZ hI c1 c2
       obtain ⟨m1,m2,_⟩:=kF hI c1 c2
       rcases rG _ hE with ⟨q1,q2⟩ |⟨q1,q2,q3⟩
       ·rw [q1] at c4
        cases c4
       ·rw [q2] at c5
        cases c5
      ·have c1:s.k<s.m:=by simpa using c1
       have c2:=sJ hI c2
       have hp:s.levels.getD (gi s.l s.k).toNat 0=s.level-1∧s.level≤yx s.eP (gi s.l s.k) (gi s.most (gi s.l s.k)):=by
        refine ⟨c2,?_⟩
        have h6:=hI.2.2.1
        simp only [decide_eq_false_iff_not] at c3
        rw [←h6] at c3
        unfold yx
        omega
       have hE:=tZ hI c1 c2
       obtain ⟨m1,m2,_⟩:=kF hI c1 c2
       rcases rG _ hE with ⟨q1,q2⟩ |⟨q1,q2,q3⟩
       ·rw [q1] at c4
        cases c4
       ·rw [q2] at c5
        cases c5
    ·refine au (fun c5=>?_) (fun c5=>?_)
     ·refine au (fun c6=>?_) (fun c6=>?_)
      ·cases c5
      ·cases c5
     ·refine au (fun c6=>?_) (fun c6=>?_)
      ·have c1:s.k<s.m:=by simpa using c1
       have c2:=sJ hI c2
       have hp:s.levels.getD (gi s.l s.k).toNat 0=s.level-1∧s.level≤yx s.eP (gi s.l s.k) (gi s.most (gi s.l s.k)):=by
        refine ⟨c2,?_⟩
        have h6:=hI.2.2.1
        simp only [decide_eq_false_iff_not] at c3
        rw [←h6] at c3
        unfold yx
        omega
       have hE:=tZ hI c1 c2
       obtain ⟨m1,m2,_⟩:=kF hI c1 c2
       have hR:=OC hI c1 c2
       rcases rG _ hE with ⟨q1,q2⟩ |⟨q1,q2,q3⟩
       ·rw [m1] at q2
        have q2:((gU s).getD (gi s.l s.k).toNat []).all (Am s.bG s.sums (LD s.eP s.bf (gi s.l s.k) s.level))=true:=q2
        have r1:=afX _ hR
        rw [m2] at r1
        have r1:(kC (lY s)).sums=y7 s.sums (LD s.eP s.bf (gi s.l s.k) s.level) ((gU s).getD (gi s.l s.k).toNat []):=r1
        have w1:=(Tc hI c2).1
        exact F9 s _ hI (by simpa using c1) (by unfold Dj;rw [if_pos hp,if_pos q2,←r1,←w1]) rfl rfl rfl rfl rfl rfl rfl rfl rfl rfl
       ·rw [q1] at c4
        cases c4
      ·cases c6
 ·have c1:s.m≤s.k:=by simpa using c1
  have h0:=hI.1
  exact ⟨rfl,by omega⟩
def Kq:bM fJ:=⟨0,129,[2,3,4,12,14,15,16,66,67,68],[],aDz,aCz,fun v b=>⟨aQ (.int .i64) (v.getD 0 .junk),aQ (.int .i64) (v.getD 1 .junk),gI (v.getD 3 .junk),gI (v.getD 5 .junk),vF (v.getD 6 .junk),aQ (.int .i64) (v.getD 7 .junk),gI (v.getD 8 .junk),gI (v.getD 9 .junk),aQ dU (aY (aO b 0) 0),aQ .str (aY (aO b 0) 1),aQ dV (aY (aO b 0) 2),aQ dP (aY (aO b 0) 3),aQ dW (aY (aO b 0) 4),aQ dU (aY (aO b 1) 0),aQ .str (aY (aO b 1) 1),aQ dV (aY (aO b 1) 2),aQ dP (aY (aO b 1) 3),aQ dW (aY (aO b 1) 4),aQ F6 (aY (aO b 1) 5),aQ (.int .i64) (aY (aO b 1) 6),aQ (.int .i64) (aY (aO b 1) 7),aQ (.int .i64) (aY (aO b 1) 8),aQ (.int .i64) (aY (aO b 1) 9),aQ (.int .i64) (aY (aO b 1) 10),aQ (.int .i64) (aY (aO b 1) 11),aQ (.int .i64) (aY (aO b 1) 12),aQ (.int .i64) (aY (aO b 1) 13),aQ (.int .i64) (aY (aO b 1) 14),aQ (.int .i64) (aY (aO b 1) 15),aQ (.int .i64) (aY (aO b 1) 16),aQ (.int .i64) (aY (aO b 1) 17),aQ (.int .i64) (aY (aO b 1) 18),aQ (.int .i64) (aY (aO b 1) 19),aQ (.int .i64) (aY (aO b 1) 20),aQ (.int .i64) (aY (aO b 1) 21),aQ (.int .i64) (aY (aO b 1) 23),iR (.int .i64) (aO b 2),iR (.int .i64) (aO b 3)⟩,RQ,fun s r=> {r with most:=s.most,order:=s.order,n:=s.n,level:=s.level,l:=s.l,m:=s.m,ah:=s.ah,aA:=s.aA,ai:=s.ai,aj:=s.aj,aI:=s.aI,yJ:=s.yJ,yH:=s.yH,yI:=s.yI,eP:=s.eP,yK:=s.yK,bG:=s.bG,jm:=s.jm,jl:=s.jl,jk:=s.jk,ji:=s.ji,jh:=s.jh,jg:=s.jg,jf:=s.jf,je:=s.je,jd:=s.jd,jc:=s.jc,dL:=s.dL,dK:=s.dK,dJ:=s.dJ,dI:=s.dI,dH:=s.dH,dG:=s.dG,bf:=s.bf},fun s=>s,fun _ s=>s,[.exit 2],Ob,nM,vU⟩
abbrev eu:=Kq.run
abbrev apU:=Kq.jJ
abbrev ayv:=Kq.q
set_option maxRecDepth 100000 in
set_option maxHeartbeats 4000000 in
theorem avb (s:fJ) (hI:nM s):(RQ s).all (fun _=>True):=by
 refine ⟨fun c1=>⟨?_,?_,?_,fun c2=>⟨⟨rfl,rfl⟩,⟨rfl,rfl⟩,trivial⟩,fun c2=>⟨?_,?_,?_,fun c3=>⟨⟨rfl,rfl⟩,⟨rfl,rfl⟩,trivial⟩,fun c3=>⟨?_,?_,?_,?_,?_,?_,?_,?_,⟨rfl,rfl⟩,⟨rfl,rfl⟩,?_,fun c4=>⟨fun c5=>⟨fun c6=>⟨⟨rfl,rfl⟩,⟨rfl,rfl⟩,trivial⟩,fun c6=>⟨⟨rfl,rfl⟩,⟨rfl,rfl⟩,trivial⟩⟩,fun c5=>⟨?_,⟨rfl,rfl⟩,⟨rfl,rfl⟩,?_,?_,?_,fun c7=>⟨⟨rfl,rfl⟩,?_,trivial⟩,fun c7=>⟨⟨rfl,rfl⟩,?_,trivial⟩⟩⟩,fun c4=>⟨fun c8=>⟨fun c9=>⟨⟨rfl,rfl⟩,⟨rfl,rfl⟩,trivial⟩,fun c9=>⟨⟨rfl,rfl⟩,⟨rfl,rfl⟩,trivial⟩⟩,fun c8=>⟨?_,⟨rfl,rfl⟩,⟨rfl,rfl⟩,?_,?_,?_,fun c10=>⟨⟨rfl,rfl⟩,?_,trivial⟩,fun c10=>⟨⟨rfl,rfl⟩,?_,trivial⟩⟩⟩⟩⟩⟩,fun c1=>⟨⟨rfl,rfl⟩,⟨rfl,rfl⟩,trivial⟩⟩
 ·(have:=hI.1;have:=hI.2.1.1;simp only [decide_eq_true_eq] at c1;omega)
 iterate 9 · (have hx:=uS s hI (by simpa using c1);omega)
 ·(have hx:=uS s hI (by simpa using c1);obtain ⟨w1,w2⟩:=Tc hI (sJ hI c2);have hh:=eX.1 (hI.2.2.2.1.has _ hx.1);have hb:=hI.2.1;(first|rw [w2] |rw [w1]);omega)
 ·(have hx:=uS s hI (by simpa using c1);omega)
 ·(have hx:=uS s hI (by simpa using c1);obtain ⟨w1,w2⟩:=Tc hI (sJ hI c2);have hh:=eX.1 (hI.2.2.2.1.has _ hx.1);have hb:=hI.2.1;(first|rw [w2] |rw [w1]);omega)
 ·(have hx:=uS s hI (by simpa using c1);omega)
 ·exact ⟨tZ hI (by simpa using c1) (sJ hI c2),rfl,rfl⟩
 ·(have hx:=uS s hI (by simpa using c1);omega)
 ·exact ⟨OC hI (by simpa using c1) (sJ hI c2),rfl,rfl⟩
 iterate 2 · (have hx:=uS s hI (by simpa using c1);omega)
 iterate 2 · exact ⟨rfl,by simp⟩
 ·(have hx:=uS s hI (by simpa using c1);omega)
 ·exact ⟨OC hI (by simpa using c1) (sJ hI c2),rfl,rfl⟩
 iterate 2 · (have hx:=uS s hI (by simpa using c1);omega)
 iterate 2 · exact ⟨rfl,by simp⟩
noncomputable def abn:Specs:=aZ [(24,nX),(61,qG),(94,qF),(96,qE)]
theorem ajj:∀g S,abn g=some S→Valid Tryz.prog aS g S:=aT (l:=[(24,nX),(61,qG),(94,qF),(96,qE)]) ⟨CY,GU,GR,GN,trivial⟩
noncomputable def arU:Hand:=inl Tryz.prog aS abn (kD 97 4 8 (Ri.lp) (kD 93 7 2 (yF.lp) (kD 95 1 3 (wR.lp) (kD 93 1 2 (uZ.lp) (lX Tryz.prog aS (abn) 20 2))))) 9
theorem aBf:dF Tryz.prog aS arU:=bQ ajj (dM Tryz.func97 rfl (by kernel_rfl) Wq (dM Tryz.func93 rfl (by kernel_rfl) F7 (dM Tryz.func95 rfl (by kernel_rfl) zy (dM Tryz.func93 rfl (by kernel_rfl) wS (dQ ajj))))) 9
theorem WZ:Kq.Ok:=⟨fun s=>by kernel_rfl,fun s=>by kernel_rfl,fun s=>rfl,fun s t r=>rfl,fun s=>rfl,fun s=>by kernel_rfl⟩
theorem WG:Kq.Pf (adF):=⟨az0,fun _ _=>rfl,auR,avb⟩
set_option maxRecDepth 100000 in
set_option maxHeartbeats 4000000 in
theorem amy:bg Tryz.prog aS (AN 0) (.loop AX) Kq.lp:=bM.snd WZ WG (aP (Γ:=abn) (K:=arU) (L:=aC) ajj aBf AX (fun b hb=>by rw [show aB AX=[] by kernel_rfl] at hb;cases hb)) (fun s=>by kernel_rfl)
theorem ant (s:fJ) (hE:Ob s):∃s',nM s'∧adF (apU s) s' (eu s):=bM.fin WZ WG s hE
theorem afN (s:fJ) (hE:Ob s):(fun s:fJ=>swp (gU s) s.bG s.eP s.bf s.most s.level (s.sums,s.levels,s.some) (s.l.drop s.k.toNat)) (eu s)=(fun s:fJ=>swp (gU s) s.bG s.eP s.bf s.most s.level (s.sums,s.levels,s.some) (s.l.drop s.k.toNat)) s:=by
 exact bM.uV WZ WG (fun s:fJ=>swp (gU s) s.bG s.eP s.bf s.most s.level (s.sums,s.levels,s.some) (s.l.drop s.k.toNat)) (fun s hI=>by
  show bJ _ _ (abv s)
  unfold abv RQ
  dsimp only [T.rd,T.rl]
  refine au (fun c1=>?_) (fun c1=>?_)
  ·refine au (fun c2=>?_) (fun c2=>?_)
   ·have c1:s.k<s.m:=by simpa using c1
    have hn:¬(s.levels.getD (gi s.l s.k).toNat 0=s.level-1∧s.level≤yx s.eP (gi s.l s.k) (gi s.most (gi s.l s.k))):=fun h=>by
     obtain ⟨_,⟨h2,h3,h4,h5⟩,_⟩:=hI
     have c2:((s.levels.getD (gi s.l s.k).toNat 0) !=(IntKind.i64.wrap (s.level-1)))=true:=c2
     rw [aK (x:=s.level-1) (by omega) (by omega)] at c2
     have c2:¬s.levels.getD (gi s.l s.k).toNat 0=s.level-1:=by simpa using c2
     exact c2 h.1
    exact F8 s _ hI (by simpa using c1) (by unfold Dj;rw [if_neg hn]) rfl rfl rfl rfl rfl rfl rfl rfl rfl rfl
   ·refine au (fun c3=>?_) (fun c3=>?_)
    ·have c1:s.k<s.m:=by simpa using c1
     have hn:¬(s.levels.getD (gi s.l s.k).toNat 0=s.level-1∧s.level≤yx s.eP (gi s.l s.k) (gi s.most (gi s.l s.k))):=fun h=>by
      obtain ⟨_,_,h6,_⟩:=hI
      simp only [decide_eq_true_eq] at c3
      rw [←h6] at c3
      have:=h.2
      unfold yx at this
      omega
     exact F8 s _ hI (by simpa using c1) (by unfold Dj;rw [if_neg hn]) rfl rfl rfl rfl rfl rfl rfl rfl rfl rfl
    ·refine au (fun c4=>?_) (fun c4=>?_)
     ·refine au (fun c5=>?_) (fun c5=>?_)
      ·refine au (fun c6=>?_) (fun c6=>?_)
       ·cases c6
       ·have c1:s.k<s.m:=by simpa using c1
        have c2:=sJ hI c2
        have hp:s.levels.getD (gi s.l s.k).toNat 0=s.level-1∧s.level≤yx s.eP (gi s.l s.k) (gi s.most (gi s.l s.k)):=by
         refine ⟨c2,?_⟩
         have h6:=hI.2.2.1
         simp only [decide_eq_false_iff_not] at c3
         rw [←h6] at c3
         unfold yx
         omega
        have hE:=tZ hI c1 c2
        obtain ⟨m1,m2,_⟩:=kF hI c1 c2
        rcases rG _ hE with ⟨q1,q2⟩ |⟨q1,q2,q3⟩
        ·rw [q1] at c4
         cases c4
        ·rw [m1] at q3
         have q3:((gU s).getD (gi s.l s.k).toNat []).all (Am s.bG s.sums (LD s.eP s.bf (gi s.l s.k) s.level))=false:=q3
         exact F8 s _ hI (by simpa using c1) (by unfold Dj;rw [if_pos hp,if_neg (by rw [q3];simp)]) rfl rfl rfl rfl rfl rfl rfl rfl rfl rfl
      ·refine au (fun c6=>?_) (fun c6=>?_)
       ·have c1:s.k<s.m:=by simpa using c1
        have c2:=sJ hI c2
        have hp:s.levels.getD (gi s.l s.k).toNat 0=s.level-1∧s.level≤yx s.eP (gi s.l s.k) (gi s.most (gi s.l s.k)):=by
         refine ⟨c2,?_⟩
         have h6:=hI.2.2.1
         simp only [decide_eq_false_iff_not] at c3
         rw [←h6] at c3
         unfold yx
         omega
        have hE:=tZ hI c1 c2
        obtain ⟨m1,m2,_⟩:=kF hI c1 c2
        rcases rG _ hE with ⟨q1,q2⟩ |⟨q1,q2,q3⟩
        ·rw [q1] at c4
         cases c4
        ·rw [q2] at c5
         cases c5
       ·have c1:s.k<s.m:=by simpa using c1
        have c2:=sJ hI c2
        have hp:s.levels.getD (gi s.l s.k).toNat 0=s.level-1∧s.level≤yx s.eP (gi s.l s.k) (gi s.most (gi s.l s.k)):=by
         refine ⟨c2,?_⟩
         have h6:=hI.2.2.1
         simp only [decide_eq_false_iff_not] at c3
         rw [←h6] at c3
         unfold yx
         omega
        have hE:=tZ hI c1 c2
        obtain ⟨m1,m2,_⟩:=kF hI c1 c2
        rcases rG _ hE with ⟨q1,q2⟩ |⟨q1,q2,q3⟩
        ·rw [q1] at c4
         cases c4
        ·rw [q2] at c5
         cases c5
     ·refine au (fun c5=>?_) (fun c5=>?_)
      ·refine au (fun c6=>?_) (fun c6=>?_)
       ·cases c5
       ·cases c5
      ·refine au (fun c6=>?_) (fun c6=>?_)
       ·have c1:s.k<s.m:=by simpa using c1
        have c2:=sJ hI c2
        have hp:s.levels.getD (gi s.l s.k).toNat 0=s.level-1∧s.level≤yx s.eP (gi s.l s.k) (gi s.most (gi s.l s.k)):=by
         refine ⟨c2,?_⟩
         have h6:=hI.2.2.1
         simp only [decide_eq_false_iff_not] at c3
         rw [←h6] at c3
         unfold yx
         omega
        have hE:=tZ hI c1 c2
        obtain ⟨m1,m2,_⟩:=kF hI c1 c2
        have hR:=OC hI c1 c2
        rcases rG _ hE with ⟨q1,q2⟩ |⟨q1,q2,q3⟩
        ·rw [m1] at q2
         have q2:((gU s).getD (gi s.l s.k).toNat []).all (Am s.bG s.sums (LD s.eP s.bf (gi s.l s.k) s.level))=true:=q2
         have r1:=afX _ hR
         rw [m2] at r1
         have r1:(kC (lY s)).sums=y7 s.sums (LD s.eP s.bf (gi s.l s.k) s.level) ((gU s).getD (gi s.l s.k).toNat []):=r1
         have w1:=(Tc hI c2).1
         exact F8 s _ hI (by simpa using c1) (by unfold Dj;rw [if_pos hp,if_pos q2,←r1,←w1]) rfl rfl rfl rfl rfl rfl rfl rfl rfl rfl
        ·rw [q1] at c4
         cases c4
       ·cases c6
  ·rfl) s hE
theorem anr (s:fJ) (hE:Ob s):((eu s).sums,(eu s).levels,(eu s).some)=swp (gU s) s.bG s.eP s.bf s.most s.level (s.sums,s.levels,s.some) s.l:=by
 have q3:=afN s hE
 obtain ⟨s',hI,q1,q2⟩:=ant s hE
 obtain ⟨h0,h1,_⟩:=hE
 simp only at q3
 rw [q2,show (eu s).m=s.m from rfl,show (eu s).l=s.l from rfl,List.drop_eq_nil_of_le (by omega),h0] at q3
 exact q3
end Go.Proofs.YtlihnbimgclogaaGreatDoor
namespace Go.Proofs.YtlihnbimgclogaaGreatDoor
open Go.Sx
structure lI where
 most:List Int
 order:List Int
 n:Int
 level:Int
 ah:List Cd
 aA:List ByteArray
 ai:List Ko
 aj:List Ch
 aI:List Ba
 yJ:List Cd
 yH:List ByteArray
 yI:List Ko
 eP:List Ch
 yK:List Ba
 bG:List Rw
 jm:List Int
 jl:List Int
 jk:List Int
 ji:List Int
 jh:List Int
 jg:List Int
 jf:List Int
 je:List Int
 jd:List Int
 jc:List Int
 dL:List Int
 dK:List Int
 dJ:List Int
 dI:List Int
 dH:List Int
 dG:List Int
 bf:List Int
 sums:List Int
 levels:List Int
def aDy (s:lI):List LV:=[.xl (.int .i64) s.most,.xl (.int .i64) s.order,.own 0 0,.v (.int .i64 s.n),.own 1 0,.v (.int .i64 s.level)]
def aCy (s:lI):List aU:=[⟨[.xl dU s.ah,.xl .str s.aA,.xl dV s.ai,.xl dP s.aj,.xl dW s.aI],28,.cl,false⟩,⟨[.xl dU s.yJ,.xl .str s.yH,.xl dV s.yI,.xl dP s.eP,.xl dW s.yK,.xl F6 s.bG,.xl (.int .i64) s.jm,.xl (.int .i64) s.jl,.xl (.int .i64) s.jk,.xl (.int .i64) s.ji,.xl (.int .i64) s.jh,.xl (.int .i64) s.jg,.xl (.int .i64) s.jf,.xl (.int .i64) s.je,.xl (.int .i64) s.jd,.xl (.int .i64) s.jc,.xl (.int .i64) s.dL,.xl (.int .i64) s.dK,.xl (.int .i64) s.dJ,.xl (.int .i64) s.dI,.xl (.int .i64) s.dH,.xl (.int .i64) s.dG,.os 2 1 0 (List.length s.sums),.xl (.int .i64) s.bf,.os 3 1 0 (List.length s.levels)],148,.cl,false⟩,⟨[],3,.vec (.int .i64) s.sums,false⟩,⟨[],3,.vec (.int .i64) s.levels,false⟩]
noncomputable def Jl:Code:=((aB (Tryz.f52.body.getD .skip))[0]?).getD .skip
def fZ (s:lI):fJ:=(⟨s.most,s.order,s.n,s.level,false,s.order,(List.length s.order:Int),(0:Int),s.ah,s.aA,s.ai,s.aj,s.aI,s.yJ,s.yH,s.yI,s.eP,s.yK,s.bG,s.jm,s.jl,s.jk,s.ji,s.jh,s.jg,s.jf,s.je,s.jd,s.jc,s.dL,s.dK,s.dJ,s.dI,s.dH,s.dG,s.bf,s.sums,s.levels⟩:fJ)
def RP (s:lI):T (Rd lI):=
 .rl s.sums (.rl s.levels (.req (ayv (fZ s)) (.br (!(eu (fZ s)).some) (.rl (eu (fZ s)).sums (.rl (eu (fZ s)).levels (.ok (.stop (.exit 0) {s with sums:=(eu (fZ s)).sums,levels:=(eu (fZ s)).levels})))) (.rl (eu (fZ s)).sums (.rl (eu (fZ s)).levels (.ok (.next {s with level:=(IntKind.i64.wrap (s.level+1)),sums:=(eu (fZ s)).sums,levels:=(eu (fZ s)).levels})))))))
abbrev abu (s:lI):=(RP s).rd s
def tq (s:lI):List (List Int):=[s.jm,s.jl,s.jk,s.ji,s.jh,s.jg,s.jf,s.je,s.jd,s.jc,s.dL,s.dK,s.dJ,s.dI,s.dH,s.dG]
def adP (s:lI):Prop:=s.level=1∧(s.order.length:Int)≤1000∧s.eP=s.aj∧OkT (tq s) s.bG s.eP s.bf s.most s.order∧OkS s.bG s.order s.sums s.levels
def JM (s:lI):Prop:=(1≤s.level∧s.level≤81)∧(s.order.length:Int)≤1000∧s.eP=s.aj∧OkT (tq s) s.bG s.eP s.bf s.most s.order∧OkS s.bG s.order s.sums s.levels
def O7 (s:lI):Nat:=(82-s.level).toNat
def ati (x:Ex) (_ _:lI):Prop:=x=.exit 0
theorem azZ:∀s,adP s→JM s:=by
 intro s h
 obtain ⟨h0,h1⟩:=h
 exact ⟨by omega,h1⟩
theorem afK (s:lI) (hI:JM s):Ob (fZ s):=by
 obtain ⟨⟨h0,h1⟩,h2,h3,hT,hS⟩:=hI
 exact ⟨rfl,⟨rfl,h2,h0,h1⟩,h3,hT,hS⟩
theorem aq6 (s:lI) (hI:JM s):((eu (fZ s)).sums,(eu (fZ s)).levels,(eu (fZ s)).some)=swp (tq s) s.bG s.eP s.bf s.most s.level (s.sums,s.levels,false) s.order:=anr _ (afK s hI)
theorem auQ (s:lI) (hI:JM s):bJ (fun s'=>JM s'∧O7 s'<O7 s) (fun x s'=>ati x s s') (abu s):=by
 unfold abu RP
 dsimp only [T.rd,T.rl]
 have hr:=aq6 s hI
 obtain ⟨⟨h0,h1⟩,h2,h3,hT,hS⟩:=hI
 refine au (fun c1=>rfl) (fun c1=>?_)
 have c1:(eu (fZ s)).some=true:=by simpa using c1
 have hk:=Wn hT h0 h1 s.order (s.sums,s.levels,false) (fun _ h=>h) hS
 have hs:=zx (O:=tq s) (rows:=s.bG) (gs:=s.eP) (alive:=s.bf) (most:=s.most) (level:=s.level) s.order (s.sums,s.levels,false)
 rw [←hr] at hk hs
 have h80:s.level≤80:=by
  rcases hs c1 with h|h
  ·cases h
  ·exact h
 rw [aK (x:=s.level+1) (by omega) (by omega)]
 exact ⟨⟨⟨by simp only;omega,by simp only;omega⟩,h2,h3,hT,hk⟩,by simp only [O7];omega⟩
def J9:bM lI:=⟨0,129,[2,3,4,12,14,15],[.ps 14 6 (.int .i64),.ps 14 7 (.int .i64),.ps 14 8 (.int .i64),.ps 14 9 (.int .i64),.ps 14 10 (.int .i64),.ps 14 11 (.int .i64),.ps 14 12 (.int .i64),.ps 14 13 (.int .i64),.ps 14 14 (.int .i64),.ps 14 15 (.int .i64),.ps 14 16 (.int .i64),.ps 14 17 (.int .i64),.ps 14 18 (.int .i64),.ps 14 19 (.int .i64),.ps 14 20 (.int .i64),.ps 14 21 (.int .i64)],aDy,aCy,fun v b=>⟨aQ (.int .i64) (v.getD 0 .junk),aQ (.int .i64) (v.getD 1 .junk),gI (v.getD 3 .junk),gI (v.getD 5 .junk),aQ dU (aY (aO b 0) 0),aQ .str (aY (aO b 0) 1),aQ dV (aY (aO b 0) 2),aQ dP (aY (aO b 0) 3),aQ dW (aY (aO b 0) 4),aQ dU (aY (aO b 1) 0),aQ .str (aY (aO b 1) 1),aQ dV (aY (aO b 1) 2),aQ dP (aY (aO b 1) 3),aQ dW (aY (aO b 1) 4),aQ F6 (aY (aO b 1) 5),aQ (.int .i64) (aY (aO b 1) 6),aQ (.int .i64) (aY (aO b 1) 7),aQ (.int .i64) (aY (aO b 1) 8),aQ (.int .i64) (aY (aO b 1) 9),aQ (.int .i64) (aY (aO b 1) 10),aQ (.int .i64) (aY (aO b 1) 11),aQ (.int .i64) (aY (aO b 1) 12),aQ (.int .i64) (aY (aO b 1) 13),aQ (.int .i64) (aY (aO b 1) 14),aQ (.int .i64) (aY (aO b 1) 15),aQ (.int .i64) (aY (aO b 1) 16),aQ (.int .i64) (aY (aO b 1) 17),aQ (.int .i64) (aY (aO b 1) 18),aQ (.int .i64) (aY (aO b 1) 19),aQ (.int .i64) (aY (aO b 1) 20),aQ (.int .i64) (aY (aO b 1) 21),aQ (.int .i64) (aY (aO b 1) 23),iR (.int .i64) (aO b 2),iR (.int .i64) (aO b 3)⟩,RP,fun s r=> {r with most:=s.most,order:=s.order,n:=s.n,ah:=s.ah,aA:=s.aA,ai:=s.ai,aj:=s.aj,aI:=s.aI,yJ:=s.yJ,yH:=s.yH,yI:=s.yI,eP:=s.eP,yK:=s.yK,bG:=s.bG,jm:=s.jm,jl:=s.jl,jk:=s.jk,ji:=s.ji,jh:=s.jh,jg:=s.jg,jf:=s.jf,je:=s.je,jd:=s.jd,jc:=s.jc,dL:=s.dL,dK:=s.dK,dJ:=s.dJ,dI:=s.dI,dH:=s.dH,dG:=s.dG,bf:=s.bf},fun s=>s,fun _ s=>s,[.exit 0],adP,JM,O7⟩
abbrev iJ:=J9.run
abbrev Rf:=J9.q
theorem ava (s:lI) (hI:JM s):(RP s).all (fun _=>True):=by
 refine ⟨⟨rfl,rfl⟩,⟨rfl,rfl⟩,?_,fun c1=>⟨⟨rfl,rfl⟩,⟨rfl,rfl⟩,trivial⟩,fun c1=>⟨⟨rfl,rfl⟩,⟨rfl,rfl⟩,trivial⟩⟩
 ·exact ⟨afK s hI,rfl,rfl⟩
noncomputable def Um:Specs:=aZ [(24,nX),(61,qG),(94,qF),(96,qE)]
theorem abg:∀g S,Um g=some S→Valid Tryz.prog aS g S:=aT (l:=[(24,nX),(61,qG),(94,qF),(96,qE)]) ⟨CY,GU,GR,GN,trivial⟩
noncomputable def ai6:Hand:=inl Tryz.prog aS Um (kD 97 4 8 (Ri.lp) (kD 93 7 2 (yF.lp) (kD 95 1 3 (wR.lp) (kD 93 1 2 (uZ.lp) (lX Tryz.prog aS (Um) 20 2))))) 9
theorem arI:dF Tryz.prog aS ai6:=bQ abg (dM Tryz.func97 rfl (by kernel_rfl) Wq (dM Tryz.func93 rfl (by kernel_rfl) F7 (dM Tryz.func95 rfl (by kernel_rfl) zy (dM Tryz.func93 rfl (by kernel_rfl) wS (dQ abg))))) 9
theorem ahs:J9.Ok:=⟨fun s=>by kernel_rfl,fun s=>by kernel_rfl,fun s=>rfl,fun s t r=>rfl,fun s=>rfl,fun s=>by kernel_rfl⟩
theorem agp:J9.Pf (ati):=⟨azZ,fun _ _=>rfl,auQ,ava⟩
theorem amx:bg Tryz.prog aS (AN 0) (.loop Jl) J9.lp:=bM.snd ahs agp (aP (Γ:=Um) (K:=ai6) (L:=(fun i=>if i=13 then Kq.lp else aC i)) abg arI Jl (fun b hb=>by
 rw [show aB _=[AX] by kernel_rfl] at hb
 simp only [List.mem_cons,List.not_mem_nil,or_false] at hb
 subst hb
 exact amy)) (fun s=>by kernel_rfl)
theorem anq (s:lI) (hE:adP s):(iJ s).levels=shl (tq s) s.bG s.eP s.bf s.most s.order 81 1 s.sums s.levels:=by
 have hk:=bM.wC ahs agp (V:=fun s:lI=>shl (tq s) s.bG s.eP s.bf s.most s.order (82-s.level).toNat s.level s.sums s.levels) (K:=fun _ s' v=>s'.levels=v) (fun s hI=>by
  have hr:=aq6 s hI
  have hs:=zx (O:=tq s) (rows:=s.bG) (gs:=s.eP) (alive:=s.bf) (most:=s.most) (level:=s.level) s.order (s.sums,s.levels,false)
  obtain ⟨⟨h0,h1⟩,h2,h3,hT,hS⟩:=hI
  rw [←hr] at hs
  have hf:(82-s.level).toNat=(81-s.level).toNat+1:=by omega
  show bJ _ _ (abu s)
  unfold abu RP
  dsimp only [T.rd,T.rl]
  refine au (fun c1=>?_) (fun c1=>?_)
  ·have c1:(eu (fZ s)).some=false:=by simpa using c1
   show (eu (fZ s)).levels=shl _ _ _ _ _ _ _ _ _ _
   rw [hf,shl,←hr,if_neg (by simp only [c1];simp)]
  ·have c1:(eu (fZ s)).some=true:=by simpa using c1
   have h80:s.level≤80:=by
    rcases hs c1 with h|h
    ·cases h
    ·exact h
   rw [aK (x:=s.level+1) (by omega) (by omega)]
   show shl (tq s) s.bG s.eP s.bf s.most s.order (82-(s.level+1)).toNat (s.level+1) (eu (fZ s)).sums (eu (fZ s)).levels=shl (tq s) s.bG s.eP s.bf s.most s.order (82-s.level).toNat s.level s.sums s.levels
   rw [hf,show 82-(s.level+1)=81-s.level by omega]
   conv=>rhs;rw [shl,←hr]
   simp only [c1,if_true]) s hE
 rw [hk,hE.1]
 rfl
structure qH where
 l:List Ch
 m:Int
 k:Int
 yJ:List Cd
 yH:List ByteArray
 yI:List Ko
 eP:List Ch
 yK:List Ba
 bG:List Rw
 jm:List Int
 jl:List Int
 jk:List Int
 ji:List Int
 jh:List Int
 jg:List Int
 jf:List Int
 je:List Int
 jd:List Int
 jc:List Int
 dL:List Int
 dK:List Int
 dJ:List Int
 dI:List Int
 dH:List Int
 dG:List Int
 bf:List Int
 out:List Int
 sums:List Int
 levels:List Int
def aDx (s:qH):List LV:=[.own 0 0,.os 1 1 0 (List.length s.out),.xl dP s.l,.v (.int .i64 s.m),.v (.int .i64 s.k)]
def aCx (s:qH):List aU:=[⟨[.xl dU s.yJ,.xl .str s.yH,.xl dV s.yI,.xl dP s.eP,.xl dW s.yK,.xl F6 s.bG,.xl (.int .i64) s.jm,.xl (.int .i64) s.jl,.xl (.int .i64) s.jk,.xl (.int .i64) s.ji,.xl (.int .i64) s.jh,.xl (.int .i64) s.jg,.xl (.int .i64) s.jf,.xl (.int .i64) s.je,.xl (.int .i64) s.jd,.xl (.int .i64) s.jc,.xl (.int .i64) s.dL,.xl (.int .i64) s.dK,.xl (.int .i64) s.dJ,.xl (.int .i64) s.dI,.xl (.int .i64) s.dH,.xl (.int .i64) s.dG,.os 2 1 0 (List.length s.sums),.xl (.int .i64) s.bf,.os 3 1 0 (List.length s.levels)],148,.cl,false⟩,⟨[],3,.vec (.int .i64) s.out,false⟩,⟨[],3,.vec (.int .i64) s.sums,false⟩,⟨[],3,.vec (.int .i64) s.levels,false⟩]
noncomputable def AV:Code:=((aB (Tryz.f52.body.getD .skip))[1]?).getD .skip
def Zz (s:qH):T (Rd qH):=
 .br (decide (s.k<s.m)) (.req (0≤s.k∧s.k<(List.length s.l:Int)) (.req (0≤s.k∧s.k<((List.length s.levels:Nat):Int)) (.req (s.k.toNat<List.length s.levels) (.req ((1≤(bn s.l s.k).2.2.2.1∧(bn s.l s.k).2.2.2.1≤80∧1≤(bn s.l s.k).2.2.2.2.2.1∧(bn s.l s.k).2.2.2.2.2.1≤80)∧0≤(s.levels.getD s.k.toNat (Ty.dflt (.int .i64)))∧(s.levels.getD s.k.toNat (Ty.dflt (.int .i64)))≤1000) (.req (0≤s.k∧s.k<((List.length s.out:Nat):Int)) (.req (s.k.toNat<List.length s.out) (.req (0=0∧(List.length s.out)=List.length (s.out.set s.k.toNat (Cj (bn s.l s.k).2.2.2.1 (bn s.l s.k).2.2.2.2.2.1 (s.levels.getD s.k.toNat (Ty.dflt (.int .i64)))))) (.rl s.sums (.rl s.levels (.ok (.next {s with k:=(IntKind.i64.wrap (s.k+1)),out:=(s.out.set s.k.toNat (Cj (bn s.l s.k).2.2.2.1 (bn s.l s.k).2.2.2.2.2.1 (s.levels.getD s.k.toNat (Ty.dflt (.int .i64)))))}))))))))))) (.rl s.out (.rl s.sums (.rl s.levels (.ok (.stop (.exit 4) s)))))
abbrev asJ (s:qH):=(Zz s).rd s
def adO (s:qH):Prop:=s.k=0∧s.out=List.replicate s.l.length 0∧(s.m=(s.l.length:Int)∧s.m≤1000∧s.levels.length=s.l.length)∧(∀k:Int,0≤k→k<s.m→lU (bn s.l k).2.2.2.1 (bn s.l k).2.2.2.2.1 (bn s.l k).2.2.2.2.2.1=true)∧(∀k:Nat,0≤s.levels.getD k 0∧s.levels.getD k 0≤80)
def Nj (s:qH):Prop:=(0≤s.k∧s.k≤s.m)∧s.out=Yk s.l s.levels s.k.toNat++List.replicate (s.l.length-s.k.toNat) 0∧(s.m=(s.l.length:Int)∧s.m≤1000∧s.levels.length=s.l.length)∧(∀k:Int,0≤k→k<s.m→lU (bn s.l k).2.2.2.1 (bn s.l k).2.2.2.2.1 (bn s.l k).2.2.2.2.2.1=true)∧(∀k:Nat,0≤s.levels.getD k 0∧s.levels.getD k 0≤80)
def O6 (s:qH):Nat:=(s.m-s.k).toNat
def akS (x:Ex) (_ s':qH):Prop:=x=.exit 4∧s'.out=lV s'.l s'.levels
theorem azY:∀s,adO s→Nj s:=by
 intro s h
 obtain ⟨h0,h1,h2⟩:=h
 exact ⟨by have:=h2.1;omega,by rw [h0,h1];rfl,h2⟩
theorem auP (s:qH) (hI:Nj s):bJ (fun s'=>Nj s'∧O6 s'<O6 s) (fun x s'=>akS x s s') (asJ s):=by
 unfold asJ Zz
 dsimp only [T.rd,T.rl]
 obtain ⟨⟨h0,h1⟩,h2,⟨h3,h4,h5⟩,h6,h7⟩:=hI
 refine au (fun c1=>?_) (fun c1=>?_)
 ·have c1:s.k<s.m:=by simpa using c1
  rw [aK (x:=s.k+1) (by omega) (by omega)]
  refine ⟨⟨⟨by simp only;omega,by simp only;omega⟩,?_,⟨h3,h4,h5⟩,h6,h7⟩,by simp only [O6];omega⟩
  simp only
  have e:s.l.length-s.k.toNat=(s.l.length-(s.k+1).toNat)+1:=by omega
  have hs:=aak (xs:=Yk s.l s.levels s.k.toNat) (r:=s.l.length-(s.k+1).toNat) (v:=vw s.l s.k (s.levels.getD s.k.toNat 0))
  rw [wH] at hs
  rw [h2,e,show (s.k+1).toNat=s.k.toNat+1 by omega,aeZ,Int.toNat_of_nonneg h0]
  rw [show (s.k+1).toNat=s.k.toNat+1 by omega] at hs
  exact hs
 ·have c1:s.m≤s.k:=by simpa using c1
  refine ⟨rfl,?_⟩
  rw [h2,show s.k.toNat=s.l.length by omega,Nat.sub_self,List.replicate_zero,List.append_nil]
  rfl
def EK:bM qH:=⟨0,129,[14,19,108,109,110],[],aDx,aCx,fun v b=>⟨aQ dP (v.getD 2 .junk),gI (v.getD 3 .junk),gI (v.getD 4 .junk),aQ dU (aY (aO b 0) 0),aQ .str (aY (aO b 0) 1),aQ dV (aY (aO b 0) 2),aQ dP (aY (aO b 0) 3),aQ dW (aY (aO b 0) 4),aQ F6 (aY (aO b 0) 5),aQ (.int .i64) (aY (aO b 0) 6),aQ (.int .i64) (aY (aO b 0) 7),aQ (.int .i64) (aY (aO b 0) 8),aQ (.int .i64) (aY (aO b 0) 9),aQ (.int .i64) (aY (aO b 0) 10),aQ (.int .i64) (aY (aO b 0) 11),aQ (.int .i64) (aY (aO b 0) 12),aQ (.int .i64) (aY (aO b 0) 13),aQ (.int .i64) (aY (aO b 0) 14),aQ (.int .i64) (aY (aO b 0) 15),aQ (.int .i64) (aY (aO b 0) 16),aQ (.int .i64) (aY (aO b 0) 17),aQ (.int .i64) (aY (aO b 0) 18),aQ (.int .i64) (aY (aO b 0) 19),aQ (.int .i64) (aY (aO b 0) 20),aQ (.int .i64) (aY (aO b 0) 21),aQ (.int .i64) (aY (aO b 0) 23),iR (.int .i64) (aO b 1),iR (.int .i64) (aO b 2),iR (.int .i64) (aO b 3)⟩,Zz,fun s r=> {r with l:=s.l,m:=s.m,yJ:=s.yJ,yH:=s.yH,yI:=s.yI,eP:=s.eP,yK:=s.yK,bG:=s.bG,jm:=s.jm,jl:=s.jl,jk:=s.jk,ji:=s.ji,jh:=s.jh,jg:=s.jg,jf:=s.jf,je:=s.je,jd:=s.jd,jc:=s.jc,dL:=s.dL,dK:=s.dK,dJ:=s.dJ,dI:=s.dI,dH:=s.dH,dG:=s.dG,bf:=s.bf,sums:=s.sums,levels:=s.levels},fun s=>s,fun _ s=>s,[.exit 4],adO,Nj,O6⟩
abbrev gY:=EK.run
abbrev apT:=EK.jJ
abbrev Q9:=EK.q
theorem au9 (s:qH) (hI:Nj s):(Zz s).all (fun _=>True):=by
 refine ⟨fun c1=>⟨?_,?_,?_,?_,?_,?_,?_,⟨rfl,rfl⟩,⟨rfl,rfl⟩,trivial⟩,fun c1=>⟨⟨rfl,rfl⟩,⟨rfl,rfl⟩,⟨rfl,rfl⟩,trivial⟩⟩
 iterate 3 · (obtain ⟨⟨h0,h1⟩,h2,⟨h3,h4,h5⟩,h6,h7⟩:=hI;(try simp only [decide_eq_true_eq] at c1);have hl:s.out.length=s.l.length:=(by rw [h2,List.length_append,wH,List.length_replicate];omega);first|omega|exact ⟨rfl,by simp⟩ |exact ⟨rfl,rfl⟩)
 ·(have hh:=eX.1 (hI.2.2.2.1 s.k hI.1.1 (by simpa using c1));have hb:=hI.2.2.2.2 s.k.toNat;refine ⟨by omega,?_⟩;show 0≤s.levels.getD s.k.toNat 0∧s.levels.getD s.k.toNat 0≤1000;omega)
 iterate 3 · (obtain ⟨⟨h0,h1⟩,h2,⟨h3,h4,h5⟩,h6,h7⟩:=hI;(try simp only [decide_eq_true_eq] at c1);have hl:s.out.length=s.l.length:=(by rw [h2,List.length_append,wH,List.length_replicate];omega);first|omega|exact ⟨rfl,by simp⟩ |exact ⟨rfl,rfl⟩)
theorem ahr:EK.Ok:=⟨fun s=>by kernel_rfl,fun s=>by kernel_rfl,fun s=>rfl,fun s t r=>rfl,fun s=>rfl,fun s=>by kernel_rfl⟩
theorem agn:EK.Pf (akS):=⟨azY,fun _ _=>rfl,auP,au9⟩
theorem amw:bg Tryz.prog aS (AN 0) (.loop AV) EK.lp:=bM.snd ahr agn (aP (Γ:=Um) (K:=ai6) (L:=aC) abg arI AV (fun b hb=>by rw [show aB AV=[] by kernel_rfl] at hb;cases hb)) (fun s=>by kernel_rfl)
theorem anp (s:qH) (hE:adO s):∃s',Nj s'∧akS (apT s) s' (gY s):=bM.fin ahr agn s hE
end Go.Proofs.YtlihnbimgclogaaGreatDoor
namespace Go.Proofs.YtlihnbimgclogaaGreatDoor
open Go.Sx
def acN:List LV→T LV
 | [.agg [.xl (.pair .str (.pair (.int .i64) (.pair (.int .i64) (.pair (.int .i64) (.pair (.pair (.int .i64) (.int .i64)) (.pair (.int .i64) (.pair (.int .i64) (.pair (.int .i64) (.pair (.int .i64) (.int .i64)))))))))) cs,.xl (.str) os,.xl (.pair .str (.pair (.int .i64) (.pair (.int .i64) (.int .i64)))) ks,.xl (.pair .str (.pair (.int .i64) (.pair (.int .i64) (.pair (.int .i64) (.pair (.int .i64) (.pair (.int .i64) (.pair (.int .i64) (.int .i64)))))))) gs,.xl (.pair .str (.int .i64)) bs],.xl (.int .i64) al,.xl (.int .i64) mo,.xl (.int .i64) od]=> .ok (.gq [.xl (.int .i64) (vI cs os ks gs bs al mo od),.v (.int .i64 (shE cs os ks gs bs al mo od))])
 |_=> .no
noncomputable def y9:List LV→T LV:=gQ Tryz.prog Tryz.f52.params.toList acN
def ay (cs:List Cd) (os:List ByteArray) (ks:List Ko) (gs:List Ch) (bs:List Ba) (al _ _:List Int):gV:=(⟨al,(iy cs os ks gs bs),(List.length (iy cs os ks gs bs):Int),(0:Int),cs,os,ks,gs,bs,cs,os,ks,gs,bs,(iy cs os ks gs bs),al,([]:List Int),([]:List Int),([]:List Int),([]:List Int),([]:List Int),([]:List Int),([]:List Int),([]:List Int),([]:List Int),([]:List Int),([]:List Int),([]:List Int),([]:List Int),([]:List Int),([]:List Int),([]:List Int),(List.replicate (List.length (iy cs os ks gs bs):Int).toNat (0:Int)),(List.replicate (List.length al:Int).toNat (0:Int))⟩:gV)
def eY (cs:List Cd) (os:List ByteArray) (ks:List Ko) (gs:List Ch) (bs:List Ba) (al mo od:List Int):lI:=(⟨mo,od,(List.length gs:Int),(1:Int),cs,os,ks,gs,bs,cs,os,ks,gs,bs,(iy cs os ks gs bs),(((ax (ay cs os ks gs bs al mo od)).jm.drop 0).take (List.length (ax (ay cs os ks gs bs al mo od)).jm)),(((ax (ay cs os ks gs bs al mo od)).jl.drop 0).take (List.length (ax (ay cs os ks gs bs al mo od)).jl)),(((ax (ay cs os ks gs bs al mo od)).jk.drop 0).take (List.length (ax (ay cs os ks gs bs al mo od)).jk)),(((ax (ay cs os ks gs bs al mo od)).ji.drop 0).take (List.length (ax (ay cs os ks gs bs al mo od)).ji)),(((ax (ay cs os ks gs bs al mo od)).jh.drop 0).take (List.length (ax (ay cs os ks gs bs al mo od)).jh)),(((ax (ay cs os ks gs bs al mo od)).jg.drop 0).take (List.length (ax (ay cs os ks gs bs al mo od)).jg)),(((ax (ay cs os ks gs bs al mo od)).jf.drop 0).take (List.length (ax (ay cs os ks gs bs al mo od)).jf)),(((ax (ay cs os ks gs bs al mo od)).je.drop 0).take (List.length (ax (ay cs os ks gs bs al mo od)).je)),(((ax (ay cs os ks gs bs al mo od)).jd.drop 0).take (List.length (ax (ay cs os ks gs bs al mo od)).jd)),(((ax (ay cs os ks gs bs al mo od)).jc.drop 0).take (List.length (ax (ay cs os ks gs bs al mo od)).jc)),(((ax (ay cs os ks gs bs al mo od)).dL.drop 0).take (List.length (ax (ay cs os ks gs bs al mo od)).dL)),(((ax (ay cs os ks gs bs al mo od)).dK.drop 0).take (List.length (ax (ay cs os ks gs bs al mo od)).dK)),(((ax (ay cs os ks gs bs al mo od)).dJ.drop 0).take (List.length (ax (ay cs os ks gs bs al mo od)).dJ)),(((ax (ay cs os ks gs bs al mo od)).dI.drop 0).take (List.length (ax (ay cs os ks gs bs al mo od)).dI)),(((ax (ay cs os ks gs bs al mo od)).dH.drop 0).take (List.length (ax (ay cs os ks gs bs al mo od)).dH)),(((ax (ay cs os ks gs bs al mo od)).dG.drop 0).take (List.length (ax (ay cs os ks gs bs al mo od)).dG)),al,(ax (ay cs os ks gs bs al mo od)).sums,(List.replicate (List.length al:Int).toNat (0:Int))⟩:lI)
def fM (cs:List Cd) (os:List ByteArray) (ks:List Ko) (gs:List Ch) (bs:List Ba) (al mo od:List Int):qH:=(⟨gs,(List.length gs:Int),(0:Int),cs,os,ks,gs,bs,(iy cs os ks gs bs),(((ax (ay cs os ks gs bs al mo od)).jm.drop 0).take (List.length (ax (ay cs os ks gs bs al mo od)).jm)),(((ax (ay cs os ks gs bs al mo od)).jl.drop 0).take (List.length (ax (ay cs os ks gs bs al mo od)).jl)),(((ax (ay cs os ks gs bs al mo od)).jk.drop 0).take (List.length (ax (ay cs os ks gs bs al mo od)).jk)),(((ax (ay cs os ks gs bs al mo od)).ji.drop 0).take (List.length (ax (ay cs os ks gs bs al mo od)).ji)),(((ax (ay cs os ks gs bs al mo od)).jh.drop 0).take (List.length (ax (ay cs os ks gs bs al mo od)).jh)),(((ax (ay cs os ks gs bs al mo od)).jg.drop 0).take (List.length (ax (ay cs os ks gs bs al mo od)).jg)),(((ax (ay cs os ks gs bs al mo od)).jf.drop 0).take (List.length (ax (ay cs os ks gs bs al mo od)).jf)),(((ax (ay cs os ks gs bs al mo od)).je.drop 0).take (List.length (ax (ay cs os ks gs bs al mo od)).je)),(((ax (ay cs os ks gs bs al mo od)).jd.drop 0).take (List.length (ax (ay cs os ks gs bs al mo od)).jd)),(((ax (ay cs os ks gs bs al mo od)).jc.drop 0).take (List.length (ax (ay cs os ks gs bs al mo od)).jc)),(((ax (ay cs os ks gs bs al mo od)).dL.drop 0).take (List.length (ax (ay cs os ks gs bs al mo od)).dL)),(((ax (ay cs os ks gs bs al mo od)).dK.drop 0).take (List.length (ax (ay cs os ks gs bs al mo od)).dK)),(((ax (ay cs os ks gs bs al mo od)).dJ.drop 0).take (List.length (ax (ay cs os ks gs bs al mo od)).dJ)),(((ax (ay cs os ks gs bs al mo od)).dI.drop 0).take (List.length (ax (ay cs os ks gs bs al mo od)).dI)),(((ax (ay cs os ks gs bs al mo od)).dH.drop 0).take (List.length (ax (ay cs os ks gs bs al mo od)).dH)),(((ax (ay cs os ks gs bs al mo od)).dG.drop 0).take (List.length (ax (ay cs os ks gs bs al mo od)).dG)),al,(List.replicate (List.length gs:Int).toNat (0:Int)),(iJ (eY cs os ks gs bs al mo od)).sums,(iJ (eY cs os ks gs bs al mo od)).levels⟩:qH)
noncomputable def abm:Specs:=aZ [(24,nX),(61,qG),(94,qF),(96,qE)]
theorem aji:∀g S,abm g=some S→Valid Tryz.prog aS g S:=aT (l:=[(24,nX),(61,qG),(94,qF),(96,qE)]) ⟨CY,GU,GR,GN,trivial⟩
noncomputable def arT:Hand:=inl Tryz.prog aS abm (kD 97 4 8 (Ri.lp) (kD 93 7 2 (yF.lp) (kD 95 1 3 (wR.lp) (kD 93 1 2 (uZ.lp) (lX Tryz.prog aS (abm) 20 2))))) 9
theorem aBe:dF Tryz.prog aS arT:=bQ aji (dM Tryz.func97 rfl (by kernel_rfl) Wq (dM Tryz.func93 rfl (by kernel_rfl) F7 (dM Tryz.func95 rfl (by kernel_rfl) zy (dM Tryz.func93 rfl (by kernel_rfl) wS (dQ aji))))) 9
end Go.Proofs.YtlihnbimgclogaaGreatDoor
