/- ControlTargets returns true for all arguments: no current is greater than the target, and all currents together are permitted beside what may be alive. Conditions: none; the table ramp.happens holds what its text says. -/
import Derived.Test.YtlihnbimgclogaaGreatDoorQd4
namespace Go.Proofs.YtlihnbimgclogaaGreatDoor
open Go.Sx
theorem aoG (cs:List Cd) (os:List ByteArray) (ks:List Ko) (gs:List Ch) (bs:List Ba) (l:List Le) (d:List Dm) (t:Int) (od:List Int):bT Tryz.prog aP (aiM) eu (fun i=>if i=3 then E5.lp else aB i) Tryz.f72 [.xq 9 (fun j=>([.xl dX cs,.xl .str os,.xl dY ks,.xl dS gs,.xl dZ bs,.xl ng l,.xl qG d,.v (.int .i64 t),.xl (.int .i64) od]:List LV).getD j .junk)]=.req (0≤(List.length gs:Int)∧(List.length gs:Int)≤(List.length gs:Int)∧8*(List.length gs:Int)≤2^48∧(List.length gs:Int)<2^63) (.req (0=0∧(List.length gs:Int).toNat=List.length (List.replicate (List.length gs:Int).toNat (0:Int))) (.req (ayH (⟨gs,(List.length gs:Int),(0:Int),(List.replicate (List.length gs:Int).toNat (0:Int))⟩:nJ)) (.req (0+(List.length (wZ (⟨gs,(List.length gs:Int),(0:Int),(List.replicate (List.length gs:Int).toNat (0:Int))⟩:nJ)).out)≤List.length (wZ (⟨gs,(List.length gs:Int),(0:Int),(List.replicate (List.length gs:Int).toNat (0:Int))⟩:nJ)).out) (.ok (.xl (.int .i64) (((wZ (⟨gs,(List.length gs:Int),(0:Int),(List.replicate (List.length gs:Int).toNat (0:Int))⟩:nJ)).out.drop 0).take (List.length (wZ (⟨gs,(List.length gs:Int),(0:Int),(List.replicate (List.length gs:Int).toNat (0:Int))⟩:nJ)).out))))))):=by kernel_rfl
theorem atP:Valid Tryz.prog aP 72 Yk:=aH Tryz.func72 rfl arv aF (L:=(fun i=>if i=3 then E5.lp else aB i)) (fun b hb=>by
 rw [show aC _=[BI] by kernel_rfl] at hb
 simp only [List.mem_cons,List.not_mem_nil,or_false] at hb
 subst hb
 exact amD) (fun args lv h=>by
 unfold acR at h
 split at h
 ·split at h
  case h_2=>cases h
  rename_i heq0
  simp only [canL,canX]
  rw [o7 (n:=9) heq0]
  simp only [canL,canX]
  rw [aoG]
  rename_i cs os ks gs bs l d t od
  obtain ⟨hn,rfl⟩:=h
  have hE:adv ⟨gs,(List.length gs:Int),0,List.replicate (List.length gs:Int).toNat 0⟩:=⟨rfl,rfl,hn,by simp,fun j _ _=>vY,trivial⟩
  obtain ⟨_,_,q1,q2⟩:=ap5 _ hE
  have q2:(wZ ⟨gs,(List.length gs:Int),0,List.replicate (List.length gs:Int).toNat 0⟩).out=mO gs:=q2
  refine ⟨by omega,⟨rfl,by simp⟩,⟨hE,rfl,rfl⟩,by omega,?_⟩
  show LV.xl _ _=_
  rw [List.drop_zero,List.take_length,q2]
 ·cases h)
structure lT where
 cs:List Cd
 os:List ByteArray
 ks:List Ko
 gs:List Ch
 bs:List Ba
 l:List Le
 d:List Dm
 t:Int
 od:List Int
 m:List Ch
 k:Int
 i:Int
 wanted:List Int
def aDI (s:lT):List LV:=[.xq 9 (fun j=>([.xl dX s.cs,.xl .str s.os,.xl dY s.ks,.xl dS s.gs,.xl dZ s.bs,.xl ng s.l,.xl qG s.d,.v (.int .i64 s.t),.xl (.int .i64) s.od]:List LV).getD j .junk),.os 0 1 0 (List.length s.wanted),.xl dS s.m,.v (.int .i64 s.k),.v (.int .i64 s.i)]
def aCH (s:lT):List aU:=[⟨[],3,.vec (.int .i64) s.wanted,false⟩]
noncomputable def BF:Code:=((aC (Tryz.f71.body.getD .skip))[0]?).getD .skip
def Zf (s:lT):T (Rd lT):=
 .br (decide (s.i<s.k)) (.req (0≤s.i∧s.i<(List.length s.m:Int)) (.req (0≤s.i∧s.i<(List.length s.d:Int)) (.br (qI s.d s.i).1 (.req (0≤s.i∧s.i<((List.length s.wanted:Nat):Int)) (.req (s.i.toNat<List.length s.wanted) (.req (0=0∧(List.length s.wanted)=List.length (s.wanted.set s.i.toNat (bC s.m s.i).2.2.2.2.1)) (.ok (.next {s with i:=(IntKind.i64.wrap (s.i+1)),wanted:=(s.wanted.set s.i.toNat (bC s.m s.i).2.2.2.2.1)}))))) (.rl s.wanted (.ok (.next {s with i:=(IntKind.i64.wrap (s.i+1))})))))) (.rl s.wanted (.ok (.stop (.exit 0) s)))
abbrev asu (s:lT):=(Zf s).rd s
def adr (s:lT):Prop:=s.i=0∧s.k=(List.length s.m:Int)∧s.k≤1000∧s.wanted.length=s.m.length∧(∀j,0≤j→j<s.k→gi s.wanted j=0)∧s.d.length=s.m.length
def MP (s:lT):Prop:=(0≤s.i∧s.i≤s.k)∧s.k=(List.length s.m:Int)∧s.k≤1000∧s.wanted.length=s.m.length∧(∀j,0≤j→j<s.k→gi s.wanted j=if j<s.i then if (qI s.d j).1=true then (bC s.m j).2.2.2.2.1 else 0 else 0)∧s.d.length=s.m.length
def Hq (s:lT):Nat:=(s.k-s.i).toNat
def akF (x:Ex) (_ s':lT):Prop:=x=.exit 0∧s'.wanted=oz s'.m.length (fun j=>if (qI s'.d j).1=true then (bC s'.m j).2.2.2.2.1 else 0)
theorem aBo:∀s,adr s→MP s:=by
 intro s h
 obtain ⟨h0,h2,h3,h4,h5,h6⟩:=h
 exact ⟨by omega,h2,h3,h4,fun j j0 j1=>by rw [h5 j j0 j1,if_neg (by omega)],h6⟩
theorem axf (s:lT) (hI:MP s):bJ (fun s'=>MP s'∧Hq s'<Hq s) (fun x s'=>akF x s s') (asu s):=by
 unfold asu Zf
 dsimp only [T.rd,T.rl]
 obtain ⟨⟨h0,h1⟩,h2,h3,h4,h5,h6⟩:=hI
 refine au (fun c1=>?_) (fun c1=>?_)
 ·refine au (fun c2=>?_) (fun c2=>?_)
  ·have c1:s.i<s.k:=by simpa using c1
   rw [aK (x:=s.i+1) (by omega) (by omega)]
   refine ⟨⟨⟨by simp only;omega,by simp only;omega⟩,h2,h3,by simp only [List.length_set];exact h4,fun j j0 j1=>?_,h6⟩,by simp only [Hq];omega⟩
   simp only
   have hi:=h5 s.i h0 c1
   rw [if_neg (show ¬s.i<s.i by omega)] at hi
   rw [oZ h0 (by rw [h4];omega) j0]
   by_cases e:j=s.i
   ·subst e
    rw [if_pos rfl,if_pos (show s.i<s.i+1 by omega)]
    first|(rw [if_pos (by simpa using c2)]) |(rw [if_neg (by simpa using c2)])
   ·rw [if_neg e,h5 j j0 j1]
    by_cases q:j<s.i
    ·rw [if_pos q,if_pos (show j<s.i+1 by omega)]
    ·rw [if_neg q,if_neg (show ¬j<s.i+1 by omega)]
  ·have c1:s.i<s.k:=by simpa using c1
   rw [aK (x:=s.i+1) (by omega) (by omega)]
   refine ⟨⟨⟨by simp only;omega,by simp only;omega⟩,h2,h3,h4,fun j j0 j1=>?_,h6⟩,by simp only [Hq];omega⟩
   simp only
   have hi:=h5 s.i h0 c1
   rw [if_neg (show ¬s.i<s.i by omega)] at hi
   rw [h5 j j0 j1]
   by_cases e:j=s.i
   ·subst e
    rw [if_neg (show ¬s.i<s.i by omega),if_pos (show s.i<s.i+1 by omega)]
    first|(rw [if_pos (by simpa using c2)]) |(rw [if_neg (by simpa using c2)])
   ·by_cases q:j<s.i
    ·rw [if_pos q,if_pos (show j<s.i+1 by omega)]
    ·rw [if_neg q,if_neg (show ¬j<s.i+1 by omega)]
 ·have c1:s.k≤s.i:=by simpa using c1
  refine ⟨rfl,?_⟩
  refine vZ (by rw [bW];exact h4) fun j j0 j1=>?_
  rw [bW] at j1
  rw [jF j0 j1,h5 j j0 (by omega),if_pos (show j<s.i by omega)]
def EX:bK lT:=⟨0,53,[0,4,18,19,20],[],aDI,aCH,fun v b=>⟨aQ dX (nC (v.getD 0 .junk) 0),aQ .str (nC (v.getD 0 .junk) 1),aQ dY (nC (v.getD 0 .junk) 2),aQ dS (nC (v.getD 0 .junk) 3),aQ dZ (nC (v.getD 0 .junk) 4),aQ ng (nC (v.getD 0 .junk) 5),aQ qG (nC (v.getD 0 .junk) 6),gI (nC (v.getD 0 .junk) 7),aQ (.int .i64) (nC (v.getD 0 .junk) 8),aQ dS (v.getD 2 .junk),gI (v.getD 3 .junk),gI (v.getD 4 .junk),iT (.int .i64) (aO b 0)⟩,Zf,fun s r=> {r with cs:=s.cs,os:=s.os,ks:=s.ks,gs:=s.gs,bs:=s.bs,l:=s.l,d:=s.d,t:=s.t,od:=s.od,m:=s.m,k:=s.k},fun s=>s,fun _ s=>s,[.exit 0],adr,MP,Hq⟩
abbrev qQ:=EX.run
abbrev apK:=EX.jJ
abbrev ayC:=EX.q
theorem avj (s:lT) (hI:MP s):(Zf s).all (fun _=>True):=by
 refine ⟨fun c1=>⟨?_,?_,fun c2=>⟨?_,?_,?_,trivial⟩,fun c2=>⟨⟨rfl,rfl⟩,trivial⟩⟩,fun c1=>⟨⟨rfl,rfl⟩,trivial⟩⟩
 all_goals ((obtain ⟨⟨h0,h1⟩,h2,h3,h4,h5,h6⟩:=hI;(try simp only [decide_eq_true_eq] at c1);first|omega|exact ⟨rfl,by simp⟩ |(omega)))
noncomputable def aiL:Specs:=aZ [(52,y5),(72,Yk)]
theorem aru:∀g S,aiL g=some S→Valid Tryz.prog aP g S:=aS (l:=[(52,y5),(72,Yk)]) ⟨Vf,atP,trivial⟩
theorem ahi:EX.Ok:=⟨fun s=>by kernel_rfl,fun s=>by kernel_rfl,fun s=>rfl,fun s t r=>rfl,fun s=>rfl,fun s=>by kernel_rfl⟩
theorem agb:EX.Pf (akF):=⟨aBo,fun _ _=>rfl,axf,avj⟩
theorem amw:bg Tryz.prog aP (AN 0) (.loop BF) EX.lp:=bK.snd ahi agb (aT (Γ:=aiL) (K:=eu) (L:=aB) aru aF BF (fun b hb=>by rw [show aC BF=[] by kernel_rfl] at hb;cases hb)) (fun s=>by kernel_rfl)
theorem apX (s:lT) (hE:adr s):∃s',MP s'∧akF (apK s) s' (qQ s):=bK.fin ahi agb s hE
def acN:List LV→T LV
 | [.xq 9 q0]=>(match ([q0 0,q0 1,q0 2,q0 3,q0 4,q0 5,q0 6,q0 7,q0 8]:List LV) with
  | [.xl (.pair .str (.pair (.int .i64) (.pair (.int .i64) (.pair (.int .i64) (.pair (.pair (.int .i64) (.int .i64)) (.pair (.int .i64) (.pair (.int .i64) (.pair (.int .i64) (.pair (.int .i64) (.int .i64)))))))))) cs,.xl (.str) os,.xl (.pair .str (.pair (.int .i64) (.pair (.int .i64) (.int .i64)))) ks,.xl (.pair .str (.pair (.int .i64) (.pair (.int .i64) (.pair (.int .i64) (.pair (.int .i64) (.pair (.int .i64) (.pair (.int .i64) (.int .i64)))))))) gs,.xl (.pair .str (.int .i64)) bs,.xl (.pair (.int .i64) (.pair (.int .i64) (.pair (.int .i64) (.pair (.int .i64) (.int .i64))))) _,.xl (.pair .bool (.pair (.int .i64) (.pair (.int .i64) (.int .i64)))) d,.v (.int .i64 _),.xl (.int .i64) od]=> .req ((List.length gs:Int)≤1000∧d.length=gs.length) (.ok (.iF [.xl (.int .i64) (wS cs os ks gs bs (mO gs) (oU gs d) od),.v (.int .i64 (shE cs os ks gs bs (mO gs) (oU gs d) od))]))
  |_=> .no)
 |_=> .no
noncomputable def Yh:List LV→T LV:=gB Tryz.prog Tryz.f71.params.toList acN
theorem aoC (cs:List Cd) (os:List ByteArray) (ks:List Ko) (gs:List Ch) (bs:List Ba) (l:List Le) (d:List Dm) (t:Int) (od:List Int):bT Tryz.prog aP (aiL) eu (fun i=>if i=3 then EX.lp else aB i) Tryz.f71 [.xq 9 (fun j=>([.xl dX cs,.xl .str os,.xl dY ks,.xl dS gs,.xl dZ bs,.xl ng l,.xl qG d,.v (.int .i64 t),.xl (.int .i64) od]:List LV).getD j .junk)]=.req (0≤(List.length gs:Int)∧(List.length gs:Int)≤(List.length gs:Int)∧8*(List.length gs:Int)≤2^48∧(List.length gs:Int)<2^63) (.req (0=0∧(List.length gs:Int).toNat=List.length (List.replicate (List.length gs:Int).toNat (0:Int))) (.req (ayC (⟨cs,os,ks,gs,bs,l,d,t,od,gs,(List.length gs:Int),(0:Int),(List.replicate (List.length gs:Int).toNat (0:Int))⟩:lT)) (.req ((List.length gs:Int)≤1000) (.req (0+(List.length (qQ (⟨cs,os,ks,gs,bs,l,d,t,od,gs,(List.length gs:Int),(0:Int),(List.replicate (List.length gs:Int).toNat (0:Int))⟩:lT)).wanted)≤List.length (qQ (⟨cs,os,ks,gs,bs,l,d,t,od,gs,(List.length gs:Int),(0:Int),(List.replicate (List.length gs:Int).toNat (0:Int))⟩:lT)).wanted) (.ok (.iF [.xl (.int .i64) (wS cs os ks gs bs (mO gs) (((qQ (⟨cs,os,ks,gs,bs,l,d,t,od,gs,(List.length gs:Int),(0:Int),(List.replicate (List.length gs:Int).toNat (0:Int))⟩:lT)).wanted.drop 0).take (List.length (qQ (⟨cs,os,ks,gs,bs,l,d,t,od,gs,(List.length gs:Int),(0:Int),(List.replicate (List.length gs:Int).toNat (0:Int))⟩:lT)).wanted)) od),.v (.int .i64 (shE cs os ks gs bs (mO gs) (((qQ (⟨cs,os,ks,gs,bs,l,d,t,od,gs,(List.length gs:Int),(0:Int),(List.replicate (List.length gs:Int).toNat (0:Int))⟩:lT)).wanted.drop 0).take (List.length (qQ (⟨cs,os,ks,gs,bs,l,d,t,od,gs,(List.length gs:Int),(0:Int),(List.replicate (List.length gs:Int).toNat (0:Int))⟩:lT)).wanted)) od))])))))):=by kernel_rfl
theorem atM:Valid Tryz.prog aP 71 Yh:=aH Tryz.func71 rfl aru aF (L:=(fun i=>if i=3 then EX.lp else aB i)) (fun b hb=>by
 rw [show aC _=[BF] by kernel_rfl] at hb
 simp only [List.mem_cons,List.not_mem_nil,or_false] at hb
 subst hb
 exact amw) (fun args lv h=>by
 unfold acN at h
 split at h
 ·split at h
  case h_2=>cases h
  rename_i heq0
  simp only [canL,canX]
  rw [o7 (n:=9) heq0]
  simp only [canL,canX]
  rw [aoC]
  rename_i cs os ks gs bs l d t od
  obtain ⟨⟨hn,hd⟩,rfl⟩:=h
  have hE:adr ⟨cs,os,ks,gs,bs,l,d,t,od,gs,(List.length gs:Int),0,List.replicate (List.length gs:Int).toNat 0⟩:=⟨rfl,rfl,hn,by simp,fun j _ _=>vY,hd⟩
  obtain ⟨_,_,q1,q2⟩:=apX _ hE
  have q2:(qQ ⟨cs,os,ks,gs,bs,l,d,t,od,gs,(List.length gs:Int),0,List.replicate (List.length gs:Int).toNat 0⟩).wanted=oU gs d:=q2
  refine ⟨by omega,⟨rfl,by simp⟩,⟨hE,rfl,rfl⟩,hn,by omega,?_⟩
  show LV.iF [LV.xl _ _,_]=_
  rw [List.drop_zero,List.take_length,q2]
 ·cases h)
structure kG where
 m:List Ch
 k:Int
 i:Int
 out:List Int
def aDL (s:kG):List LV:=[.os 0 1 0 (List.length s.out),.xl dS s.m,.v (.int .i64 s.k),.v (.int .i64 s.i)]
def aCK (s:kG):List aU:=[⟨[],3,.vec (.int .i64) s.out,false⟩]
noncomputable def TS:Code:=((aC (Tryz.f72.body.getD .skip))[0]?).getD .skip
def Zh (s:kG):T (Rd kG):=
 .br (decide (s.i<s.k)) (.req (0≤s.i∧s.i<(List.length s.m:Int)) (.req (0≤s.i∧s.i<((List.length s.out:Nat):Int)) (.req (s.i.toNat<List.length s.out) (.req (0=0∧(List.length s.out)=List.length (s.out.set s.i.toNat (bC s.m s.i).2.2.2.2.2.2.1)) (.ok (.next {s with i:=(IntKind.i64.wrap (s.i+1)),out:=(s.out.set s.i.toNat (bC s.m s.i).2.2.2.2.2.2.1)})))))) (.rl s.out (.ok (.stop (.exit 0) s)))
abbrev asw (s:kG):=(Zh s).rd s
def adu (s:kG):Prop:=s.i=0∧s.k=(List.length s.m:Int)∧s.k≤1000∧s.out.length=s.m.length∧(∀j,0≤j→j<s.k→gi s.out j=0)∧True
def MR (s:kG):Prop:=(0≤s.i∧s.i≤s.k)∧s.k=(List.length s.m:Int)∧s.k≤1000∧s.out.length=s.m.length∧(∀j,0≤j→j<s.k→gi s.out j=if j<s.i then Ac (bC s.m j) else 0)∧True
def OW (s:kG):Nat:=(s.k-s.i).toNat
def akH (x:Ex) (_ s':kG):Prop:=x=.exit 0∧s'.out=oz s'.m.length (fun j=>Ac (bC s'.m j))
theorem aBr:∀s,adu s→MR s:=by
 intro s h
 obtain ⟨h0,h2,h3,h4,h5,h6⟩:=h
 exact ⟨by omega,h2,h3,h4,fun j j0 j1=>by rw [h5 j j0 j1,if_neg (by omega)],h6⟩
theorem axi (s:kG) (hI:MR s):bJ (fun s'=>MR s'∧OW s'<OW s) (fun x s'=>akH x s s') (asw s):=by
 unfold asw Zh
 dsimp only [T.rd,T.rl]
 obtain ⟨⟨h0,h1⟩,h2,h3,h4,h5,h6⟩:=hI
 refine au (fun c1=>?_) (fun c1=>?_)
 ·have c1:s.i<s.k:=by simpa using c1
  rw [aK (x:=s.i+1) (by omega) (by omega)]
  refine ⟨⟨⟨by simp only;omega,by simp only;omega⟩,h2,h3,by simp only [List.length_set];exact h4,fun j j0 j1=>?_,h6⟩,by simp only [OW];omega⟩
  simp only
  have hi:=h5 s.i h0 c1
  rw [if_neg (show ¬s.i<s.i by omega)] at hi
  rw [oZ h0 (by rw [h4];omega) j0]
  by_cases e:j=s.i
  ·subst e
   rw [if_pos rfl,if_pos (show s.i<s.i+1 by omega)]
   rfl
  ·rw [if_neg e,h5 j j0 j1]
   by_cases q:j<s.i
   ·rw [if_pos q,if_pos (show j<s.i+1 by omega)]
   ·rw [if_neg q,if_neg (show ¬j<s.i+1 by omega)]
 ·have c1:s.k≤s.i:=by simpa using c1
  refine ⟨rfl,?_⟩
  refine vZ (by rw [bW];exact h4) fun j j0 j1=>?_
  rw [bW] at j1
  rw [jF j0 j1,h5 j j0 (by omega),if_pos (show j<s.i by omega)]
def JI:bK kG:=⟨0,31,[3,17,18,19],[],aDL,aCK,fun v b=>⟨aQ dS (v.getD 1 .junk),gI (v.getD 2 .junk),gI (v.getD 3 .junk),iT (.int .i64) (aO b 0)⟩,Zh,fun s r=> {r with m:=s.m,k:=s.k},fun s=>s,fun _ s=>s,[.exit 0],adu,MR,OW⟩
abbrev kW:=JI.run
abbrev apM:=JI.jJ
abbrev ayF:=JI.q
noncomputable def zU:Specs:=aZ [(52,y5),(66,Yp),(71,Yh)]
theorem DK:∀g S,zU g=some S→Valid Tryz.prog aP g S:=aS (l:=[(52,y5),(66,Yp),(71,Yh)]) ⟨Vf,atV,atM,trivial⟩
noncomputable def ain:Hand:=inl Tryz.prog aP zU (lm Tryz.prog aP (zU) 20 2) 9
theorem aq0:dD Tryz.prog aP ain:=bP DK (dR DK) 9
theorem avm (s:kG) (hI:MR s):(Zh s).all (fun _=>True):=by
 refine ⟨fun c1=>⟨?_,?_,?_,?_,trivial⟩,fun c1=>⟨⟨rfl,rfl⟩,trivial⟩⟩
 all_goals ((obtain ⟨⟨h0,h1⟩,h2,h3,h4,h5,h6⟩:=hI;(try simp only [decide_eq_true_eq] at c1);first|omega|exact ⟨rfl,by simp⟩ |(omega)))
theorem ahl:JI.Ok:=⟨fun s=>by kernel_rfl,fun s=>by kernel_rfl,fun s=>rfl,fun s t r=>rfl,fun s=>rfl,fun s=>by kernel_rfl⟩
theorem agf:JI.Pf (akH):=⟨aBr,fun _ _=>rfl,axi,avm⟩
theorem amz:bg Tryz.prog aP (AN 0) (.loop TS) JI.lp:=bK.snd ahl agf (bF (Γ:=zU) (K:=ain) (L:=(rY Tryz.prog aP zU ain 20 2)) DK aq0 TS (fun b _=>dU DK aq0 20 2 b)) (fun s=>by kernel_rfl)
theorem ap0 (s:kG) (hE:adu s):∃s',MR s'∧akH (apM s) s' (kW s):=bK.fin ahl agf s hE
structure lU where
 cs:List Cd
 os:List ByteArray
 ks:List Ko
 gs:List Ch
 bs:List Ba
 l:List Le
 d:List Dm
 t:Int
 od:List Int
 targets:List Int
 m:List Int
 k:Int
 i:Int
 alive:List Int
def aDJ (s:lU):List LV:=[.xq 9 (fun j=>([.xl dX s.cs,.xl .str s.os,.xl dY s.ks,.xl dS s.gs,.xl dZ s.bs,.xl ng s.l,.xl qG s.d,.v (.int .i64 s.t),.xl (.int .i64) s.od]:List LV).getD j .junk),.xl (.int .i64) s.targets,.os 0 1 0 (List.length s.alive),.xl (.int .i64) s.m,.v (.int .i64 s.k),.v (.int .i64 s.i)]
def aCI (s:lU):List aU:=[⟨[],3,.vec (.int .i64) s.alive,false⟩]
noncomputable def BG:Code:=((aC (Tryz.f36.body.getD .skip))[0]?).getD .skip
def Zg (s:lU):T (Rd lU):=
 .br (decide (s.i<s.k)) (.req (0≤s.i∧s.i<(List.length s.m:Int)) (.req (0≤s.i∧s.i<((List.length s.alive:Nat):Int)) (.req (s.i.toNat<List.length s.alive) (.req (0≤s.i∧s.i<((List.length s.alive:Nat):Int)) (.req (s.i.toNat<List.length s.alive) (.req (0=0∧(List.length s.alive)=List.length (s.alive.set s.i.toNat (if (s.alive.getD s.i.toNat (Ty.dflt (.int .i64)))<(gi s.m s.i) then (gi s.m s.i) else (s.alive.getD s.i.toNat (Ty.dflt (.int .i64)))))) (.ok (.next {s with i:=(IntKind.i64.wrap (s.i+1)),alive:=(s.alive.set s.i.toNat (if (s.alive.getD s.i.toNat (Ty.dflt (.int .i64)))<(gi s.m s.i) then (gi s.m s.i) else (s.alive.getD s.i.toNat (Ty.dflt (.int .i64)))))})))))))) (.rl s.alive (.ok (.stop (.exit 0) s)))
abbrev asv (s:lU):=(Zg s).rd s
def ads (s:lU):Prop:=s.i=0∧s.k=(List.length s.m:Int)∧s.k≤1000∧s.alive.length=s.m.length∧(∀j,0≤j→j<s.k→gi s.alive j=Ac (bC s.gs j))∧True
def MQ (s:lU):Prop:=(0≤s.i∧s.i≤s.k)∧s.k=(List.length s.m:Int)∧s.k≤1000∧s.alive.length=s.m.length∧(∀j,0≤j→j<s.k→gi s.alive j=if j<s.i then mx (Ac (bC s.gs j)) (gi s.m j) else Ac (bC s.gs j))∧True
def OU (s:lU):Nat:=(s.k-s.i).toNat
def akG (x:Ex) (_ s':lU):Prop:=x=.exit 0∧s'.alive=oz s'.m.length (fun j=>mx (Ac (bC s'.gs j)) (gi s'.m j))
theorem aBp:∀s,ads s→MQ s:=by
 intro s h
 obtain ⟨h0,h2,h3,h4,h5,h6⟩:=h
 exact ⟨by omega,h2,h3,h4,fun j j0 j1=>by rw [h5 j j0 j1,if_neg (by omega)],h6⟩
theorem axg (s:lU) (hI:MQ s):bJ (fun s'=>MQ s'∧OU s'<OU s) (fun x s'=>akG x s s') (asv s):=by
 unfold asv Zg
 dsimp only [T.rd,T.rl]
 obtain ⟨⟨h0,h1⟩,h2,h3,h4,h5,h6⟩:=hI
 refine au (fun c1=>?_) (fun c1=>?_)
 ·have c1:s.i<s.k:=by simpa using c1
  rw [aK (x:=s.i+1) (by omega) (by omega)]
  refine ⟨⟨⟨by simp only;omega,by simp only;omega⟩,h2,h3,by simp only [List.length_set];exact h4,fun j j0 j1=>?_,h6⟩,by simp only [OU];omega⟩
  simp only
  have hi:=h5 s.i h0 c1
  rw [if_neg (show ¬s.i<s.i by omega)] at hi
  rw [oZ h0 (by rw [h4];omega) j0]
  by_cases e:j=s.i
  ·subst e
   rw [if_pos rfl,if_pos (show s.i<s.i+1 by omega)]
   show mx (gi s.alive s.i) (gi s.m s.i)=_
   rw [hi]
  ·rw [if_neg e,h5 j j0 j1]
   by_cases q:j<s.i
   ·rw [if_pos q,if_pos (show j<s.i+1 by omega)]
   ·rw [if_neg q,if_neg (show ¬j<s.i+1 by omega)]
 ·have c1:s.k≤s.i:=by simpa using c1
  refine ⟨rfl,?_⟩
  refine vZ (by rw [bW];exact h4) fun j j0 j1=>?_
  rw [bW] at j1
  rw [jF j0 j1,h5 j j0 (by omega),if_pos (show j<s.i by omega)]
def EY:bK lU:=⟨0,71,[0,4,7,41,42,43],[],aDJ,aCI,fun v b=>⟨aQ dX (nC (v.getD 0 .junk) 0),aQ .str (nC (v.getD 0 .junk) 1),aQ dY (nC (v.getD 0 .junk) 2),aQ dS (nC (v.getD 0 .junk) 3),aQ dZ (nC (v.getD 0 .junk) 4),aQ ng (nC (v.getD 0 .junk) 5),aQ qG (nC (v.getD 0 .junk) 6),gI (nC (v.getD 0 .junk) 7),aQ (.int .i64) (nC (v.getD 0 .junk) 8),aQ (.int .i64) (v.getD 1 .junk),aQ (.int .i64) (v.getD 3 .junk),gI (v.getD 4 .junk),gI (v.getD 5 .junk),iT (.int .i64) (aO b 0)⟩,Zg,fun s r=> {r with cs:=s.cs,os:=s.os,ks:=s.ks,gs:=s.gs,bs:=s.bs,l:=s.l,d:=s.d,t:=s.t,od:=s.od,targets:=s.targets,m:=s.m,k:=s.k},fun s=>s,fun _ s=>s,[.exit 0],ads,MQ,OU⟩
abbrev qR:=EY.run
abbrev apL:=EY.jJ
abbrev ayD:=EY.q
theorem avk (s:lU) (hI:MQ s):(Zg s).all (fun _=>True):=by
 refine ⟨fun c1=>⟨?_,?_,?_,?_,?_,?_,trivial⟩,fun c1=>⟨⟨rfl,rfl⟩,trivial⟩⟩
 all_goals ((obtain ⟨⟨h0,h1⟩,h2,h3,h4,h5,h6⟩:=hI;(try simp only [decide_eq_true_eq] at c1);first|omega|exact ⟨rfl,by simp⟩ |(omega)))
noncomputable def aim:Hand:=inl Tryz.prog aP zU (kE 72 0 3 (JI.lp) (lm Tryz.prog aP (zU) 20 2)) 9
theorem aqZ:dD Tryz.prog aP aim:=bP DK (dF Tryz.func72 rfl (by kernel_rfl) amz (dR DK)) 9
theorem ahj:EY.Ok:=⟨fun s=>by kernel_rfl,fun s=>by kernel_rfl,fun s=>rfl,fun s t r=>rfl,fun s=>rfl,fun s=>by kernel_rfl⟩
theorem agc:EY.Pf (akG):=⟨aBp,fun _ _=>rfl,axg,avk⟩
theorem amx:bg Tryz.prog aP (AN 0) (.loop BG) EY.lp:=bK.snd ahj agc (aT (Γ:=zU) (K:=aim) (L:=aB) DK aqZ BG (fun b hb=>by rw [show aC BG=[] by kernel_rfl] at hb;cases hb)) (fun s=>by kernel_rfl)
theorem apY (s:lU) (hE:ads s):∃s',MQ s'∧akG (apL s) s' (qR s):=bK.fin ahj agc s hE
def acO:List LV→T LV
 | [.xq 9 q0]=>(match ([q0 0,q0 1,q0 2,q0 3,q0 4,q0 5,q0 6,q0 7,q0 8]:List LV) with
  | [.xl (.pair .str (.pair (.int .i64) (.pair (.int .i64) (.pair (.int .i64) (.pair (.pair (.int .i64) (.int .i64)) (.pair (.int .i64) (.pair (.int .i64) (.pair (.int .i64) (.pair (.int .i64) (.int .i64)))))))))) cs,.xl (.str) os,.xl (.pair .str (.pair (.int .i64) (.pair (.int .i64) (.int .i64)))) ks,.xl (.pair .str (.pair (.int .i64) (.pair (.int .i64) (.pair (.int .i64) (.pair (.int .i64) (.pair (.int .i64) (.pair (.int .i64) (.int .i64)))))))) gs,.xl (.pair .str (.int .i64)) bs,.xl (.pair (.int .i64) (.pair (.int .i64) (.pair (.int .i64) (.pair (.int .i64) (.int .i64))))) l,.xl (.pair .bool (.pair (.int .i64) (.pair (.int .i64) (.int .i64)))) d,.v (.int .i64 t),.xl (.int .i64) od]=> .req (d.length=gs.length∧qH cs os ks gs bs (mO gs) (oU gs d) od=true∧Dp l (List.length gs:Int) t=true∧qH cs os ks gs bs (xX gs l t) (wS cs os ks gs bs (mO gs) (oU gs d) od) od=true) (.ok (.iF [.xl (.int .i64) (NP cs os ks gs bs l d t od),.v (.int .i64 0)]))
  |_=> .no)
 |_=> .no
noncomputable def Yi:List LV→T LV:=gB Tryz.prog Tryz.f36.params.toList acO
theorem aoD (cs:List Cd) (os:List ByteArray) (ks:List Ko) (gs:List Ch) (bs:List Ba) (l:List Le) (d:List Dm) (t:Int) (od:List Int):bT Tryz.prog aP (zU) aim (fun i=>if i=9 then EY.lp else aB i) Tryz.f36 [.xq 9 (fun j=>([.xl dX cs,.xl .str os,.xl dY ks,.xl dS gs,.xl dZ bs,.xl ng l,.xl qG d,.v (.int .i64 t),.xl (.int .i64) od]:List LV).getD j .junk)]=.req ((List.length gs:Int)≤1000∧d.length=gs.length) (.br ((shE cs os ks gs bs (mO gs) (oU gs d) od) !=0) (.ok (.iF [.xl (.int .i64) ([]:List Int),.v (.int .i64 (shE cs os ks gs bs (mO gs) (oU gs d) od))])) (.br ((Uc l (List.length gs:Int) t) !=0) (.ok (.iF [.xl (.int .i64) ([]:List Int),.v (.int .i64 (Uc l (List.length gs:Int) t))])) (.req (0≤(List.length gs:Int)∧(List.length gs:Int)≤(List.length gs:Int)∧8*(List.length gs:Int)≤2^48∧(List.length gs:Int)<2^63) (.req (0=0∧(List.length gs:Int).toNat=List.length (List.replicate (List.length gs:Int).toNat (0:Int))) (.req (ayF (⟨gs,(List.length gs:Int),(0:Int),(List.replicate (List.length gs:Int).toNat (0:Int))⟩:kG)) (.rl (kW (⟨gs,(List.length gs:Int),(0:Int),(List.replicate (List.length gs:Int).toNat (0:Int))⟩:kG)).out (.req (ayD (⟨cs,os,ks,gs,bs,l,d,t,od,(wS cs os ks gs bs (mO gs) (oU gs d) od),(oG l (List.length gs:Int) t),(List.length (oG l (List.length gs:Int) t):Int),(0:Int),(kW (⟨gs,(List.length gs:Int),(0:Int),(List.replicate (List.length gs:Int).toNat (0:Int))⟩:kG)).out⟩:lU)) (.req (0+(List.length (qR (⟨cs,os,ks,gs,bs,l,d,t,od,(wS cs os ks gs bs (mO gs) (oU gs d) od),(oG l (List.length gs:Int) t),(List.length (oG l (List.length gs:Int) t):Int),(0:Int),(kW (⟨gs,(List.length gs:Int),(0:Int),(List.replicate (List.length gs:Int).toNat (0:Int))⟩:kG)).out⟩:lU)).alive)≤List.length (qR (⟨cs,os,ks,gs,bs,l,d,t,od,(wS cs os ks gs bs (mO gs) (oU gs d) od),(oG l (List.length gs:Int) t),(List.length (oG l (List.length gs:Int) t):Int),(0:Int),(kW (⟨gs,(List.length gs:Int),(0:Int),(List.replicate (List.length gs:Int).toNat (0:Int))⟩:kG)).out⟩:lU)).alive) (.ok (.iF [.xl (.int .i64) (wS cs os ks gs bs (((qR (⟨cs,os,ks,gs,bs,l,d,t,od,(wS cs os ks gs bs (mO gs) (oU gs d) od),(oG l (List.length gs:Int) t),(List.length (oG l (List.length gs:Int) t):Int),(0:Int),(kW (⟨gs,(List.length gs:Int),(0:Int),(List.replicate (List.length gs:Int).toNat (0:Int))⟩:kG)).out⟩:lU)).alive.drop 0).take (List.length (qR (⟨cs,os,ks,gs,bs,l,d,t,od,(wS cs os ks gs bs (mO gs) (oU gs d) od),(oG l (List.length gs:Int) t),(List.length (oG l (List.length gs:Int) t):Int),(0:Int),(kW (⟨gs,(List.length gs:Int),(0:Int),(List.replicate (List.length gs:Int).toNat (0:Int))⟩:kG)).out⟩:lU)).alive)) (wS cs os ks gs bs (mO gs) (oU gs d) od) od),.v (.int .i64 (shE cs os ks gs bs (((qR (⟨cs,os,ks,gs,bs,l,d,t,od,(wS cs os ks gs bs (mO gs) (oU gs d) od),(oG l (List.length gs:Int) t),(List.length (oG l (List.length gs:Int) t):Int),(0:Int),(kW (⟨gs,(List.length gs:Int),(0:Int),(List.replicate (List.length gs:Int).toNat (0:Int))⟩:kG)).out⟩:lU)).alive.drop 0).take (List.length (qR (⟨cs,os,ks,gs,bs,l,d,t,od,(wS cs os ks gs bs (mO gs) (oU gs d) od),(oG l (List.length gs:Int) t),(List.length (oG l (List.length gs:Int) t):Int),(0:Int),(kW (⟨gs,(List.length gs:Int),(0:Int),(List.replicate (List.length gs:Int).toNat (0:Int))⟩:kG)).out⟩:lU)).alive)) (wS cs os ks gs bs (mO gs) (oU gs d) od) od))])))))))))):=by kernel_rfl
theorem atN:Valid Tryz.prog aP 36 Yi:=aH Tryz.func36 rfl DK aqZ (L:=(fun i=>if i=9 then EY.lp else aB i)) (fun b hb=>by
 rw [show aC _=[BG] by kernel_rfl] at hb
 simp only [List.mem_cons,List.not_mem_nil,or_false] at hb
 subst hb
 exact amx) (fun args lv h=>by
 unfold acO at h
 split at h
 ·split at h
  case h_2=>cases h
  rename_i heq0
  simp only [canL,canX]
  rw [o7 (n:=9) heq0]
  simp only [canL,canX]
  rw [aoD]
  rename_i cs os ks gs bs l d t od
  obtain ⟨⟨hd,hk,hv,hk2⟩,rfl⟩:=h
  have gl:=(gq.1 (iP.1 hk).1).1.2.2.2.2.1
  have ea:oG l (List.length gs:Int) t=Ub gs.length l t:=by unfold oG;rw [if_pos hv,Int.toNat_natCast]
  rw [afa hk,show Uc l (List.length gs:Int) t=0 by unfold Uc;rw [if_pos hv]]
  refine ⟨⟨by omega,hd⟩,fun c=>absurd c (by decide),fun _=>⟨fun c=>absurd c (by decide),fun _=>?_⟩⟩
  have hE:adu ⟨gs,(List.length gs:Int),0,List.replicate (List.length gs:Int).toNat 0⟩:=⟨rfl,rfl,by simp only;omega,by simp,fun j _ _=>vY,trivial⟩
  obtain ⟨_,_,q1,q2⟩:=ap0 _ hE
  have q2:(kW ⟨gs,(List.length gs:Int),0,List.replicate (List.length gs:Int).toNat 0⟩).out=mO gs:=q2
  have hE2:ads ⟨cs,os,ks,gs,bs,l,d,t,od,wS cs os ks gs bs (mO gs) (oU gs d) od,oG l (List.length gs:Int) t,(List.length (oG l (List.length gs:Int) t):Int),0,(kW ⟨gs,(List.length gs:Int),0,List.replicate (List.length gs:Int).toNat 0⟩).out⟩:=⟨rfl,rfl,by simp only;rw [ea,wF];omega,by simp only;rw [q2,ea,wF];exact bW,fun j j0 j1=>by
   simp only at j1⊢
   rw [ea,wF] at j1
   rw [q2]
   exact jF j0 j1,trivial⟩
  obtain ⟨_,_,q3,q4⟩:=apY _ hE2
  have q4:(qR ⟨cs,os,ks,gs,bs,l,d,t,od,wS cs os ks gs bs (mO gs) (oU gs d) od,oG l (List.length gs:Int) t,(List.length (oG l (List.length gs:Int) t):Int),0,(kW ⟨gs,(List.length gs:Int),0,List.replicate (List.length gs:Int).toNat 0⟩).out⟩).alive=xX gs l t:=q4.trans (by
   show oz (oG l (List.length gs:Int) t).length (fun j=>mx (Ac (bC gs j)) (gi (oG l (List.length gs:Int) t) j))=_
   rw [ea,wF]
   rfl)
  refine ⟨by omega,⟨rfl,by simp⟩,⟨hE,rfl,rfl⟩,⟨rfl,rfl⟩,⟨hE2,rfl,rfl⟩,by omega,?_⟩
  show LV.iF [LV.xl _ _,_]=_
  rw [List.drop_zero,List.take_length,q4,afa hk2]
  rfl
 ·cases h)
end Go.Proofs.YtlihnbimgclogaaGreatDoor
namespace Go.Proofs.YtlihnbimgclogaaGreatDoor
open Go.Sx
noncomputable def afj:Array Tmp×Code×Code:=((jL (Tryz.f38.body.getD .skip))[0]?).getD (#[],.skip,.skip)
noncomputable def azI:Array Tmp:=afj.1
noncomputable def az3:Code:=afj.2.1
noncomputable def azY:Code:=afj.2.2
structure mY where
 i:Int
 cs:List Cd
 os:List ByteArray
 ks:List Ko
 gs:List Ch
 bs:List Ba
 l:List Le
 d:List Dm
 t:Int
 od:List Int
 c:Int
 a:Int
 r:Bool
 m:List Le
 st:LS
def aDK (s:mY):List LV:=[.uI 5,.own 4 0,.v (.int .i64 s.i)]
noncomputable def aCJ (s:mY):List aU:=[⟨[.xq 9 (fun j=>([.xl dX s.cs,.xl .str s.os,.xl dY s.ks,.xl dS s.gs,.xl dZ s.bs,.xl ng s.l,.xl qG s.d,.v (.int .i64 s.t),.xl (.int .i64) s.od]:List LV).getD j .junk)],73,.cl,false⟩,⟨[.v (.int .i64 s.c)],3,.cl,false⟩,⟨[.v (.int .i64 s.a)],3,.cl,false⟩,⟨[.v (.bool s.r)],4,.cl,false⟩,⟨[.xl ng s.m],29,.cl,false⟩,⟨[.junk,.junk,.junk,.own 0 0,.own 1 0,.own 2 0,.own 3 0,.junk,.v (.tuple #[]),.junk,.junk,.junk,.junk,.junk,.junk,.junk,.junk,.junk,.junk,.junk,.junk,.junk,.junk,.junk,.junk,.junk,.v (.tuple #[]),.v (.tuple #[]),.v (.tuple #[]),.v (.tuple #[]),.v (.tuple #[]),.v (.tuple #[]),.v (.tuple #[]),.v (.tuple #[]),.v (.tuple #[]),.v (.tuple #[]),.v (.tuple #[]),.v (.tuple #[]),.v (.tuple #[]),.v (.tuple #[]),.v (.tuple #[]),.v (.tuple #[]),.v (.tuple #[]),.v (.tuple #[]),.v (.tuple #[])],0,.kM azI az3 azY s.st,false⟩]
noncomputable def TQ:Code:=((aC (Tryz.f115.body.getD .skip))[0]?).getD .skip
def QV (s:mY):T (Rd mY):=
 .br (decide (s.i≥0)) (.req (0≤s.i∧s.i<(List.length s.m:Int)) (.br ((gZ s.m s.i).2.1==s.c) (.ok (.stop (.ret) {s with r:=(((gZ s.m s.i).2.2.1 !=s.a) ||(decide ((gZ s.m s.i).2.2.2.1≤(IntKind.i64.wrap (s.t-6))))),st:=(.done (.ret))})) (.ok (.next {s with i:=(IntKind.i64.wrap (s.i-1))})))) (.ok (.stop (.exit 0) s))
abbrev aa5 (s:mY):=(QV s).rd s
def adt (s:mY):Prop:=s.st=.ready∧s.i=(List.length s.m:Int)-1∧(List.length s.m:Int)≤1000∧0≤s.t∧s.t≤1000000
def UJ (s:mY):Prop:=s.st=.ready∧(-1≤s.i∧s.i<(List.length s.m:Int))∧(List.length s.m:Int)≤1000∧0≤s.t∧s.t≤1000000
def OV (s:mY):Nat:=(s.i+1).toNat
def asT (_:Ex) (_ _:mY):Prop:=True
theorem aBq:∀s,adt s→UJ s:=by
 intro s h
 obtain ⟨h0,h1,h2⟩:=h
 exact ⟨h0,by omega,h2⟩
theorem axh (s:mY) (hI:UJ s):bJ (fun s'=>UJ s'∧OV s'<OV s) (fun x s'=>asT x s s') (aa5 s):=by
 unfold aa5 QV
 dsimp only [T.rd,T.rl]
 obtain ⟨hs,⟨h0,h1⟩,h2⟩:=hI
 refine au (fun c1=>au (fun c2=>trivial) (fun c2=>?_)) (fun c1=>trivial)
 have c1:0≤s.i:=by simpa using c1
 rw [aK (x:=s.i-1) (by omega) (by omega)]
 exact ⟨⟨hs,⟨by simp only;omega,by simp only;omega⟩,h2⟩,by simp only [OV];omega⟩
noncomputable def JH:bK mY:=⟨6,19,[0,1,3],[],aDK,aCJ,fun v b=>⟨gI (v.getD 2 .junk),aQ dX (nC (aX (aO b 0) 0) 0),aQ .str (nC (aX (aO b 0) 0) 1),aQ dY (nC (aX (aO b 0) 0) 2),aQ dS (nC (aX (aO b 0) 0) 3),aQ dZ (nC (aX (aO b 0) 0) 4),aQ ng (nC (aX (aO b 0) 0) 5),aQ qG (nC (aX (aO b 0) 0) 6),gI (nC (aX (aO b 0) 0) 7),aQ (.int .i64) (nC (aX (aO b 0) 0) 8),gI (aX (aO b 1) 0),gI (aX (aO b 2) 0),vg (aX (aO b 3) 0),aQ ng (aX (aO b 4) 0),.ready⟩,QV,fun s r=> {r with cs:=s.cs,os:=s.os,ks:=s.ks,gs:=s.gs,bs:=s.bs,l:=s.l,d:=s.d,t:=s.t,od:=s.od,c:=s.c,a:=s.a,m:=s.m},fun s=> {s with st:=.ready},fun x s=> {s with st:=(match x with| .ret=>(.done (.ret)) | .exit 0=> .ready|_=> .ready)},[.ret,.exit 0],adt,UJ,OV⟩
noncomputable abbrev ZJ:=JH.run
noncomputable abbrev abx:=JH.jJ
abbrev ayE:=JH.q
noncomputable def DU:Specs:=aZ []
theorem Ig:∀g S,DU g=some S→Valid Tryz.prog aP g S:=aS (l:=[]) trivial
noncomputable def ail:Hand:=inl Tryz.prog aP DU (lm Tryz.prog aP (DU) 20 2) 9
theorem aqY:dD Tryz.prog aP ail:=bP Ig (dR Ig) 9
theorem avl (s:mY) (hI:UJ s):(QV s).all (fun _=>True):=by
 refine ⟨fun c1=>⟨?_,fun _=>trivial,fun _=>trivial⟩,fun _=>trivial⟩
 ·(obtain ⟨hs,⟨h0,h1⟩,h2⟩:=hI;simp only [decide_eq_true_eq] at c1;omega)
theorem ahk:JH.Ok:=⟨fun s=>by kernel_rfl,fun s=>by kernel_rfl,fun s=>rfl,fun s t r=>rfl,fun s=>rfl,fun s=>by kernel_rfl⟩
theorem agd:JH.Pf (asT):=⟨aBq,fun s h=>by
 obtain ⟨i,cs,os,ks,gs,bs,l,d,t,od,c,a,r,m,st⟩:=s
 have e:st=.ready:=h.1
 subst e
 rfl,axh,avl⟩
theorem amy:bg Tryz.prog aP (AN 6) (.loop TQ) JH.lp:=bK.snd ahk agd (bF (Γ:=DU) (K:=ail) (L:=(rY Tryz.prog aP DU ail 20 2)) Ig aqY TQ (fun b _=>dU Ig aqY 20 2 b)) (fun s=>by kernel_rfl)
theorem apZ (s:mY) (hE:adt s):(fun (x:Ex) (s':mY) (v:Bool)=>(x=.ret∧s'.r=v)∨(x=.exit 0∧v=true)) (abx s) (ZJ s) ((fun s:mY=>nwO s.a s.t ((s.m.take (s.i+1).toNat).reverse.find? (fun x=>x.2.1==s.c))) s):=by
 exact bK.uy ahk agd (fun s:mY=>nwO s.a s.t ((s.m.take (s.i+1).toNat).reverse.find? (fun x=>x.2.1==s.c))) (fun x s' v=>(x=.ret∧s'.r=v)∨(x=.exit 0∧v=true)) (fun s hI=>by
  show bJ _ _ (aa5 s)
  unfold aa5 QV
  dsimp only [T.rd,T.rl]
  obtain ⟨hs,⟨h0,h1⟩,h2⟩:=hI
  refine au (fun c1=>?_) (fun c1=>?_)
  ·have c1:0≤s.i:=by simpa using c1
   have e:=(sN c1 (show s.i<(List.length s.m:Int) by omega)).2
   refine au (fun c2=> .inl ⟨rfl,?_⟩) (fun c2=>?_)
   ·rw [e,List.reverse_append]
    show _=nwO s.a s.t (List.find? _ (gZ s.m s.i::_))
    rw [List.find?_cons_of_pos (by exact c2)]
    simp only [nwO]
    rw [aK (x:=s.t-6) (by omega) (by omega)]
   ·show nwO _ _ _=nwO _ _ _
    simp only
    rw [aK (x:=s.i-1) (by omega) (by omega),e,List.reverse_append]
    show _=nwO s.a s.t (List.find? _ (gZ s.m s.i::_))
    rw [List.find?_cons_of_neg (by rw [c2];decide),show (s.i-1+1).toNat=s.i.toNat by omega]
    rfl
  ·have c1:s.i<0:=by simpa using c1
   refine .inr ⟨rfl,?_⟩
   rw [show (s.i+1).toNat=0 by omega]
   rfl) s hE
def acP:List LV→T LV
 | [.xq 9 q0,.v (.int .i64 i),.v (.int .i64 a)]=>(match ([q0 0,q0 1,q0 2,q0 3,q0 4,q0 5,q0 6,q0 7,q0 8]:List LV) with
  | [.xl (.pair .str (.pair (.int .i64) (.pair (.int .i64) (.pair (.int .i64) (.pair (.pair (.int .i64) (.int .i64)) (.pair (.int .i64) (.pair (.int .i64) (.pair (.int .i64) (.pair (.int .i64) (.int .i64)))))))))) _,.xl (.str) _,.xl (.pair .str (.pair (.int .i64) (.pair (.int .i64) (.int .i64)))) _,.xl (.pair .str (.pair (.int .i64) (.pair (.int .i64) (.pair (.int .i64) (.pair (.int .i64) (.pair (.int .i64) (.pair (.int .i64) (.int .i64)))))))) gs,.xl (.pair .str (.int .i64)) _,.xl (.pair (.int .i64) (.pair (.int .i64) (.pair (.int .i64) (.pair (.int .i64) (.int .i64))))) l,.xl (.pair .bool (.pair (.int .i64) (.pair (.int .i64) (.int .i64)))) _,.v (.int .i64 t),.xl (.int .i64) _]=> .req ((0≤i∧i<(List.length gs:Int))∧(List.length l:Int)≤1000∧0≤t∧t≤1000000) (.ok (.v (.bool (nwB gs l t i a))))
  |_=> .no)
 |_=> .no
noncomputable def Yj:List LV→T LV:=gB Tryz.prog Tryz.f38.params.toList acP
noncomputable def ara:Hand:=inl Tryz.prog aP DU (kE 115 6 1 (JH.lp) (lm Tryz.prog aP (DU) 20 2)) 9
theorem aAC:dD Tryz.prog aP ara:=bP Ig (dF Tryz.func115 rfl (by kernel_rfl) amy (dR Ig)) 9
theorem aoE (cs:List Cd) (os:List ByteArray) (ks:List Ko) (gs:List Ch) (bs:List Ba) (l:List Le) (d:List Dm) (t:Int) (od:List Int) (i a:Int):bT Tryz.prog aP (DU) ara aB Tryz.f38 [.xq 9 (fun j=>([.xl dX cs,.xl .str os,.xl dY ks,.xl dS gs,.xl dZ bs,.xl ng l,.xl qG d,.v (.int .i64 t),.xl (.int .i64) od]:List LV).getD j .junk),.v (.int .i64 i),.v (.int .i64 a)]=.req (0≤i∧i<(List.length gs:Int)) (.br (decide (a≤(bC gs i).2.2.2.2.2.2.1)) (.ok (.v (.bool false))) (.req (ayE (⟨(IntKind.i64.wrap ((List.length l:Int)-1)),cs,os,ks,gs,bs,l,d,t,od,i,a,false,l,.ready⟩:mY)) (.br (iy (abx (⟨(IntKind.i64.wrap ((List.length l:Int)-1)),cs,os,ks,gs,bs,l,d,t,od,i,a,false,l,.ready⟩:mY)) (.ret)) (.ok (.v (.bool (ZJ (⟨(IntKind.i64.wrap ((List.length l:Int)-1)),cs,os,ks,gs,bs,l,d,t,od,i,a,false,l,.ready⟩:mY)).r))) (.ok (.v (.bool true)))))):=by kernel_rfl
theorem atO:Valid Tryz.prog aP 38 Yj:=aH Tryz.func38 rfl Ig aAC (aW (by kernel_rfl)) (fun args lv h=>by
 unfold acP at h
 split at h
 ·split at h
  case h_2=>cases h
  rename_i heq0
  simp only [canL,canX]
  rw [o7 (n:=9) heq0]
  simp only [canL,canX]
  rw [aoE]
  rename_i i a _ cs os ks gs bs l d t od
  obtain ⟨⟨hi,hl,ht⟩,rfl⟩:=h
  refine ⟨hi,fun c=>congrArg (fun z=>LV.v (.bool z)) ?_,fun c=>?_⟩
  ·have c:a≤Ac (bC gs i):=of_decide_eq_true c
   unfold nwB
   rw [decide_eq_true c]
   rfl
  have c:¬a≤Ac (bC gs i):=of_decide_eq_false c
  have hE:adt ⟨IntKind.i64.wrap ((List.length l:Int)-1),cs,os,ks,gs,bs,l,d,t,od,i,a,false,l,.ready⟩:=⟨rfl,by show IntKind.i64.wrap ((List.length l:Int)-1)=_;rw [aK (by omega) (by omega)],hl,ht⟩
  have ev:nwB gs l t i a=nwO a t ((l.take (IntKind.i64.wrap ((List.length l:Int)-1)+1).toNat).reverse.find? (fun x=>x.2.1==i)):=by
   unfold nwB
   rw [decide_eq_false c,aK (x:=(List.length l:Int)-1) (by omega) (by omega),show ((List.length l:Int)-1+1).toNat=l.length by omega,List.take_length]
   rfl
  refine ⟨⟨hE,rfl,rfl⟩,?_⟩
  rcases apZ _ hE with ⟨q1,q2⟩ |⟨q1,q2⟩<;>rw [q1]
  ·exact ⟨fun _=>congrArg (fun z=>LV.v (.bool z)) (q2.trans ev.symm),fun h=>by cases h⟩
  ·exact ⟨fun h=>(by cases h),fun _=>congrArg (fun z=>LV.v (.bool z)) (q2.symm.trans ev.symm)⟩
 ·cases h)
end Go.Proofs.YtlihnbimgclogaaGreatDoor
namespace Go.Proofs.YtlihnbimgclogaaGreatDoor
open Go.Sx
def Um:List LV→T LV
 | [.v (.int .i64 _)]=> .ok (.v (.bool false))
 |_=> .no
noncomputable def Qa:List LV→T LV:=gB Tryz.prog Tryz.f85.params.toList Um
noncomputable def SQ:Specs:=aZ []
theorem aax:∀g S,SQ g=some S→Valid Tryz.prog aP g S:=aS (l:=[]) trivial
theorem ahF (x:Int):bT Tryz.prog aP (SQ) eu aB Tryz.f85 [.v (.int .i64 x)]=.ok (.v (.bool (x !=x))):=by kernel_rfl
theorem alr:Valid Tryz.prog aP 85 Qa:=aH Tryz.func85 rfl aax aF (aW (by kernel_rfl)) (fun args lv h=>by
 unfold Um at h
 split at h
 ·simp only [canL,canX]
  rw [ahF]
  obtain rfl:=h
  exact congrArg (fun z=>LV.v (.bool z)) (by simp)
 ·cases h)
def acT:List LV→T LV
 | [.v (.int .i64 x),.v (.int .i64 y)]=> .ok (.v (.int .i64 (cm x y)))
 |_=> .no
noncomputable def Ym:List LV→T LV:=gB Tryz.prog Tryz.f47.params.toList acT
noncomputable def arQ:Specs:=aZ [(85,Qa)]
theorem aA0:∀g S,arQ g=some S→Valid Tryz.prog aP g S:=aS (l:=[(85,Qa)]) ⟨alr,trivial⟩
theorem aoI (x y:Int):bT Tryz.prog aP (arQ) eu aB Tryz.f47 [.v (.int .i64 x),.v (.int .i64 y)]=.br false (.br false (.ok (.v (.int .i64 0))) (.ok (.v (.int .i64 (-1))))) (.br false (.ok (.v (.int .i64 1))) (.br (decide (x<y)) (.ok (.v (.int .i64 (-1)))) (.br (decide (x>y)) (.ok (.v (.int .i64 1))) (.ok (.v (.int .i64 0)))))):=by kernel_rfl
theorem atS:Valid Tryz.prog aP 47 Ym:=aH Tryz.func47 rfl aA0 aF (aW (by kernel_rfl)) (fun args lv h=>by
 unfold acT at h
 split at h
 ·simp only [canL,canX]
  rw [aoI]
  obtain rfl:=h
  unfold cm
  refine ⟨fun h=>(by cases h),fun _=>⟨fun h=>(by cases h),fun _=>⟨fun c=>?_,fun c=>⟨fun c2=>?_,fun c2=>?_⟩⟩⟩⟩<;>refine congrArg (fun z=>LV.v (.int .i64 z)) ?_
  ·rw [if_pos (by simpa using c)]
  ·rw [if_neg (by simpa using c),if_pos (by simpa using c2)]
  ·rw [if_neg (by simpa using c),if_neg (by simpa using c2)]
 ·cases h)
structure mZ where
 r:Int
 z:Int
 l:List Int
 n:Int
 i:Int
def aDP (s:mZ):List LV:=[.v (.int .i64 s.r),.v (.int .i64 s.z),.xl (.int .i64) s.l,.v (.int .i64 s.n),.v (.int .i64 s.i)]
def aCO (_:mZ):List aU:=[]
noncomputable def BL:Code:=((aC (Tryz.f46.body.getD .skip))[0]?).getD .skip
def QW (s:mZ):T (Rd mZ):=
 .br (decide (s.i<s.n)) (.req (0≤s.i∧s.i<(List.length s.l:Int)) (.br ((gi s.l s.i) !=s.z) (.ok (.stop (.ret) {s with r:=(gi s.l s.i)})) (.ok (.next {s with i:=(IntKind.i64.wrap (s.i+1))})))) (.ok (.stop (.exit 0) s))
abbrev aa6 (s:mZ):=(QW s).rd s
def adx (s:mZ):Prop:=s.i=0∧s.n=(List.length s.l:Int)∧s.n≤1000∧s.z=0
def UK (s:mZ):Prop:=(0≤s.i∧s.i≤s.n)∧s.n=(List.length s.l:Int)∧s.n≤1000∧s.z=0
def OZ (s:mZ):Nat:=(s.n-s.i).toNat
def asU (_:Ex) (_ _:mZ):Prop:=True
theorem aBx:∀s,adx s→UK s:=by
 intro s h
 obtain ⟨h0,h2,h3,h4⟩:=h
 exact ⟨by omega,h2,h3,h4⟩
theorem axs (s:mZ) (hI:UK s):bJ (fun s'=>UK s'∧OZ s'<OZ s) (fun x s'=>asU x s s') (aa6 s):=by
 unfold aa6 QW
 dsimp only [T.rd,T.rl]
 obtain ⟨⟨h0,h1⟩,h2,h3,h4⟩:=hI
 refine au (fun c1=>?_) (fun c1=>?_)
 ·refine au (fun c2=>?_) (fun c2=>?_)
  ·exact trivial
  ·have c1:s.i<s.n:=by simpa using c1
   rw [aK (x:=s.i+1) (by omega) (by omega)]
   exact ⟨⟨⟨by simp only;omega,by simp only;omega⟩,h2,h3,h4⟩,by simp only [OZ];omega⟩
 ·exact trivial
def Fa:bK mZ:=⟨0,18,[2,3,6,7,8],[],aDP,aCO,fun v _=>⟨gI (v.getD 0 .junk),gI (v.getD 1 .junk),aQ (.int .i64) (v.getD 2 .junk),gI (v.getD 3 .junk),gI (v.getD 4 .junk)⟩,QW,fun s r=> {r with z:=s.z,l:=s.l,n:=s.n},fun s=>s,fun _ s=>s,[.ret,.exit 0],adx,UK,OZ⟩
abbrev ZL:=Fa.run
abbrev aby:=Fa.jJ
abbrev ayJ:=Fa.q
theorem avq (s:mZ) (hI:UK s):(QW s).all (fun _=>True):=by
 refine ⟨fun c1=>⟨?_,fun _=>trivial,fun _=>trivial⟩,fun _=>trivial⟩
 ·(obtain ⟨⟨h0,h1⟩,h2,h3⟩:=hI;simp only [decide_eq_true_eq] at c1;omega)
theorem aho:Fa.Ok:=⟨fun s=>by kernel_rfl,fun s=>by kernel_rfl,fun s=>rfl,fun s t r=>rfl,fun s=>rfl,fun s=>by kernel_rfl⟩
theorem agj:Fa.Pf (asU):=⟨aBx,fun _ _=>rfl,axs,avq⟩
theorem amG:bg Tryz.prog aP (AN 0) (.loop BL) Fa.lp:=bK.snd aho agj (aT (Γ:=SQ) (K:=eu) (L:=aB) aax aF BL (fun b hb=>by rw [show aC BL=[] by kernel_rfl] at hb;cases hb)) (fun s=>by kernel_rfl)
theorem ap7 (s:mZ) (hE:adx s):(fun (x:Ex) (s':mZ) (v:Int)=>(x=.ret∧s'.r=v)∨(x=.exit 0∧s'.z=v)) (aby s) (ZL s) ((fun s:mZ=>orI (s.l.drop s.i.toNat)) s):=by
 exact bK.uy aho agj (fun s:mZ=>orI (s.l.drop s.i.toNat)) (fun x s' v=>(x=.ret∧s'.r=v)∨(x=.exit 0∧s'.z=v)) (fun s hI=>by
  show bJ _ _ (aa6 s)
  unfold aa6 QW
  dsimp only [T.rd,T.rl]
  obtain ⟨⟨h0,h1⟩,h2,h3,h4⟩:=hI
  refine au (fun c1=>?_) (fun c1=>?_)
  ·have c1:s.i<s.n:=by simpa using c1
   have e:s.l.drop s.i.toNat=gi s.l s.i::s.l.drop (s.i+1).toNat:=(gi_step h0 (show s.i<(List.length s.l:Int) by omega)).1
   rw [aK (x:=s.i+1) (by omega) (by omega)]
   refine au (fun c2=>?_) (fun c2=>?_)
   ·refine .inl ⟨rfl,?_⟩
    simp only
    rw [e,orI,if_pos (by rw [h4] at c2;exact c2)]
   ·show orI _=orI _
    simp only
    rw [e,orI,if_neg (by rw [h4] at c2;rw [c2];simp)]
  ·have c1:s.n≤s.i:=by simpa using c1
   refine .inr ⟨rfl,?_⟩
   rw [List.drop_eq_nil_of_le (by omega),h4]
   rfl) s hE
def acU:List LV→T LV
 | [.xl (.int .i64) l]=> .req ((List.length l:Int)≤1000) (.ok (.v (.int .i64 (orI l))))
 |_=> .no
noncomputable def Yn:List LV→T LV:=gB Tryz.prog Tryz.f46.params.toList acU
theorem aoJ (l:List Int):bT Tryz.prog aP (SQ) eu (fun i=>if i=3 then Fa.lp else aB i) Tryz.f46 [.xl (.int .i64) l]=.req (ayJ (⟨(0:Int),(0:Int),l,(List.length l:Int),(0:Int)⟩:mZ)) (.br (iy (aby (⟨(0:Int),(0:Int),l,(List.length l:Int),(0:Int)⟩:mZ)) (.ret)) (.ok (.v (.int .i64 (ZL (⟨(0:Int),(0:Int),l,(List.length l:Int),(0:Int)⟩:mZ)).r))) (.ok (.v (.int .i64 (0:Int))))):=by kernel_rfl
theorem atT:Valid Tryz.prog aP 46 Yn:=aH Tryz.func46 rfl aax aF (L:=(fun i=>if i=3 then Fa.lp else aB i)) (fun b hb=>by
 rw [show aC _=[BL] by kernel_rfl] at hb
 simp only [List.mem_cons,List.not_mem_nil,or_false] at hb
 subst hb
 exact amG) (fun args lv h=>by
 unfold acU at h
 split at h
 ·simp only [canL,canX]
  rw [aoJ]
  rename_i l
  obtain ⟨hl,rfl⟩:=h
  have hE:adx ⟨0,0,l,(List.length l:Int),0⟩:=⟨rfl,rfl,hl,rfl⟩
  refine ⟨⟨hE,rfl,rfl⟩,?_⟩
  rcases ap7 _ hE with ⟨q1,q2⟩ |⟨q1,q2⟩<;>rw [q1]
  ·exact ⟨fun _=>congrArg (fun z=>LV.v (.int .i64 z)) q2,fun h=>by cases h⟩
  ·exact ⟨fun h=>(by cases h),fun _=>congrArg (fun z=>LV.v (.int .i64 z)) q2⟩
 ·cases h)
def abX:List LV→T LV
 | [.v (.int .i64 i),.xq 1 q0,.xq 1 q1]=>(match ([q0 0]:List LV) with
  | [.xl (.pair .bool (.pair (.int .i64) (.pair (.int .i64) (.int .i64)))) d]=>(match ([q1 0]:List LV) with
  | [.v (.int .i64 t)]=> .req (xQ d t∧0≤i∧i<(List.length d:Int)) (.ok (.v (.int .i64 (slk d t i))))
  |_=> .no)
  |_=> .no)
 |_=> .no
noncomputable def yZ:List LV→T LV:=gB Tryz.prog Tryz.f43.params.toList abX
theorem anV (i:Int) (d:List Dm) (t:Int):bT Tryz.prog aP (SQ) eu aB Tryz.f43 [.v (.int .i64 i),.xq 1 (fun j=>([.xl qG d]:List LV).getD j .junk),.xq 1 (fun j=>([.v (.int .i64 t)]:List LV).getD j .junk)]=.req (0≤i∧i<(List.length d:Int)) (.req (0≤i∧i<(List.length d:Int)) (.ok (.v (.int .i64 (IntKind.i64.wrap ((IntKind.i64.wrap ((qI d i).2.2.1-t))-(qI d i).2.1)))))):=by kernel_rfl
theorem Ve:Valid Tryz.prog aP 43 yZ:=aH Tryz.func43 rfl aax aF (aW (by kernel_rfl)) (fun args lv h=>by
 unfold abX at h
 split at h
 ·split at h
  case h_2=>cases h
  rename_i heq0
  split at h
  case h_2=>cases h
  rename_i heq1
  simp only [canL,canX]
  rw [o7 (n:=1) heq0]
  simp only [canL,canX]
  rw [o7 (n:=1) heq1]
  simp only [canL,canX]
  rw [anV]
  rename_i i _ _ _ d _ t
  obtain ⟨⟨hw,hi⟩,rfl⟩:=h
  have b:=asZ hw hi.1 hi.2
  have ht:=hw.2
  refine ⟨hi,hi,congrArg (fun z=>LV.v (.int .i64 z)) ?_⟩
  unfold slk
  rw [aK (x:=(qI d i).2.2.1-t) (by omega) (by omega),aK (by omega) (by omega)]
 ·cases h)
def aj6:List LV→T LV
 | [.v (.int .i64 a),.v (.int .i64 b),.xq 1 q0,.xq 1 q1]=>(match ([q0 0]:List LV) with
  | [.xl (.pair .bool (.pair (.int .i64) (.pair (.int .i64) (.int .i64)))) d]=>(match ([q1 0]:List LV) with
  | [.fn 43 [.xq 1 q2,.xq 1 q3]]=>(match ([q2 0]:List LV) with
  | [.xl (.pair .bool (.pair (.int .i64) (.pair (.int .i64) (.int .i64)))) e]=>(match ([q3 0]:List LV) with
  | [.v (.int .i64 t)]=> .req (d=e∧xQ d t∧(0≤a∧a<(List.length d:Int))∧0≤b∧b<(List.length d:Int)) (.ok (.v (.int .i64 (cmD d t a b))))
  |_=> .no)
  |_=> .no)
  |_=> .no)
  |_=> .no)
 |_=> .no
noncomputable def Ug:List LV→T LV:=gB Tryz.prog Tryz.f45.params.toList aj6
noncomputable def arP:Specs:=aZ [(43,yZ),(46,Yn),(47,Ym)]
theorem aAZ:∀g S,arP g=some S→Valid Tryz.prog aP g S:=aS (l:=[(43,yZ),(46,Yn),(47,Ym)]) ⟨Ve,atT,atS,trivial⟩
theorem awl (a b:Int) (d e:List Dm) (t:Int):bT Tryz.prog aP (arP) eu aB Tryz.f45 [.v (.int .i64 a),.v (.int .i64 b),.xq 1 (fun j=>([.xl qG d]:List LV).getD j .junk),.xq 1 (fun j=>([.fn 43 [.xq 1 (fun j=>([.xl qG e]:List LV).getD j .junk),.xq 1 (fun j=>([.v (.int .i64 t)]:List LV).getD j .junk)]]:List LV).getD j .junk)]=.req (0≤a∧a<(List.length d:Int)) (.req (0≤b∧b<(List.length d:Int)) (.req (xQ e t∧0≤a∧a<(List.length e:Int)) (.req (xQ e t∧0≤b∧b<(List.length e:Int)) (.req ((List.length ([(cm (qI d a).2.2.2 (qI d b).2.2.2),(cm (slk e t a) (slk e t b)),(cm a b)]):Int)≤1000) (.ok (.v (.int .i64 (orI ([(cm (qI d a).2.2.2 (qI d b).2.2.2),(cm (slk e t a) (slk e t b)),(cm a b)]))))))))):=by kernel_rfl
theorem aqw:Valid Tryz.prog aP 45 Ug:=aH Tryz.func45 rfl aAZ aF (aW (by kernel_rfl)) (fun args lv h=>by
 unfold aj6 at h
 split at h
 ·split at h
  case h_2=>cases h
  rename_i heq0
  split at h
  case h_2=>cases h
  rename_i heq1
  split at h
  case h_2=>cases h
  rename_i heq2
  split at h
  case h_2=>cases h
  rename_i heq3
  simp only [canL,canX]
  rw [o7 (n:=1) heq0]
  simp only [canL,canX]
  rw [o7 (n:=1) heq1]
  simp only [canL,canX]
  rw [o7 (n:=1) heq2]
  simp only [canL,canX]
  rw [o7 (n:=1) heq3]
  simp only [canL,canX]
  rw [awl]
  rename_i a b _ d _ _ _ _ e _ t
  obtain ⟨⟨rfl,hw,ha,hb⟩,rfl⟩:=h
  exact ⟨ha,hb,⟨hw,ha⟩,⟨hw,hb⟩,by simp,rfl⟩
 ·cases h)
structure qE where
 n:Int
 i:Int
 d:List Dm
 tick:Int
 out:List Int
def aDm (s:qE):List LV:=[.own 0 0,.own 1 0,.os 2 1 0 (List.length s.out),.v (.int .i64 s.n),.v (.int .i64 s.i)]
def aCl (s:qE):List aU:=[⟨[.xl qG s.d],31,.cl,false⟩,⟨[.v (.int .i64 s.tick)],3,.cl,false⟩,⟨[],3,.vec (.int .i64) s.out,false⟩]
noncomputable def Bc:Code:=((aC (Tryz.f19.body.getD .skip))[0]?).getD .skip
def Y4 (s:qE):T (Rd qE):=
 .br (decide (s.i<s.n)) (.req (0≤s.i∧s.i<((List.length s.out:Nat):Int)) (.req (s.i.toNat<List.length s.out) (.req (0=0∧(List.length s.out)=List.length (s.out.set s.i.toNat s.i)) (.ok (.next {s with i:=(IntKind.i64.wrap (s.i+1)),out:=(s.out.set s.i.toNat s.i)}))))) (.rl s.out (.ok (.stop (.exit 0) s)))
abbrev ase (s:qE):=(Y4 s).rd s
def ade (s:qE):Prop:=s.i=0∧s.out=List.replicate s.d.length 0∧s.n=(List.length s.d:Int)∧s.n≤1000∧s.out.length=s.d.length
def LZ (s:qE):Prop:=(0≤s.i∧s.i≤s.n)∧s.out=yJ s.i.toNat++List.replicate (s.d.length-s.i.toNat) 0∧s.n=(List.length s.d:Int)∧s.n≤1000∧s.out.length=s.d.length
def Ov (s:qE):Nat:=(s.n-s.i).toNat
def ako (x:Ex) (_ s':qE):Prop:=x=.exit 0∧s'.out=yJ s'.d.length
theorem aAc:∀s,ade s→LZ s:=by
 intro s h
 obtain ⟨h0,h1,h2⟩:=h
 exact ⟨by omega,by rw [h0,h1];rfl,h2⟩
theorem avU (s:qE) (hI:LZ s):bJ (fun s'=>LZ s'∧Ov s'<Ov s) (fun x s'=>ako x s s') (ase s):=by
 unfold ase Y4
 dsimp only [T.rd,T.rl]
 obtain ⟨⟨h0,h1⟩,h2,h3,h4,h5⟩:=hI
 refine au (fun c1=>?_) (fun c1=>?_)
 ·have c1:s.i<s.n:=by simpa using c1
  rw [aK (x:=s.i+1) (by omega) (by omega)]
  have e:s.d.length-s.i.toNat=(s.d.length-(s.i+1).toNat)+1:=by omega
  refine ⟨⟨⟨by simp only;omega,by simp only;omega⟩,?_,h3,h4,by simp only [List.length_set];exact h5⟩,by simp only [Ov];omega⟩
  simp only
  have hs:=Zu (xs:=yJ s.i.toNat) (r:=s.d.length-(s.i+1).toNat) (v:=s.i)
  rw [qg] at hs
  rw [h2,e,hs,show (s.i+1).toNat=s.i.toNat+1 by omega,adF,Int.toNat_of_nonneg h0]
 ·have c1:s.n≤s.i:=by simpa using c1
  refine ⟨rfl,?_⟩
  rw [h2,show s.i.toNat=s.d.length by omega]
  simp
def EH:bK qE:=⟨0,26,[2,3,5,12,13],[],aDm,aCl,fun v b=>⟨gI (v.getD 3 .junk),gI (v.getD 4 .junk),aQ qG (aX (aO b 0) 0),gI (aX (aO b 1) 0),iT (.int .i64) (aO b 2)⟩,Y4,fun s r=> {r with n:=s.n,d:=s.d,tick:=s.tick},fun s=>s,fun _ s=>s,[.exit 0],ade,LZ,Ov⟩
abbrev jW:=EH.run
abbrev apy:=EH.jJ
abbrev ayi:=EH.q
theorem auX (s:qE) (hI:LZ s):(Y4 s).all (fun _=>True):=by
 refine ⟨fun c1=>⟨?_,?_,?_,trivial⟩,fun c1=>⟨⟨rfl,rfl⟩,trivial⟩⟩
 all_goals ((obtain ⟨⟨h0,h1⟩,h2,h3,h4,h5⟩:=hI;simp only [decide_eq_true_eq] at c1;first|omega|exact ⟨rfl,by simp⟩))
noncomputable def wo:Specs:=aZ [(43,yZ),(45,Ug)]
theorem yt:∀g S,wo g=some S→Valid Tryz.prog aP g S:=aS (l:=[(43,yZ),(45,Ug)]) ⟨Ve,aqw,trivial⟩
noncomputable def SG:Hand:=inl Tryz.prog aP wo (lm Tryz.prog aP (wo) 20 2) 9
theorem aao:dD Tryz.prog aP SG:=bP yt (dR yt) 9
theorem ag4:EH.Ok:=⟨fun s=>by kernel_rfl,fun s=>by kernel_rfl,fun s=>rfl,fun s t r=>rfl,fun s=>rfl,fun s=>by kernel_rfl⟩
theorem afV:EH.Pf (ako):=⟨aAc,fun _ _=>rfl,avU,auX⟩
theorem amc:bg Tryz.prog aP (AN 0) (.loop Bc) EH.lp:=bK.snd ag4 afV (aT (Γ:=wo) (K:=SG) (L:=aB) yt aao Bc (fun b hb=>by rw [show aC Bc=[] by kernel_rfl] at hb;cases hb)) (fun s=>by kernel_rfl)
theorem anu (s:qE) (hE:ade s):∃s',LZ s'∧ako (apy s) s' (jW s):=bK.fin ag4 afV s hE
structure mW where
 a:Int
 b:Int
 i:Int
 j:Int
 b0:List Dm
 b1:Int
 data:List Int
def aDz (s:mW):List LV:=[.os 2 1 0 (List.length s.data),.v (.int .i64 s.a),.v (.int .i64 s.b),.fn 45 [.own 0 0,.own 3 0],.v (.int .i64 s.i),.v (.int .i64 s.j)]
def aCy (s:mW):List aU:=[⟨[.xl qG s.b0],31,.cl,false⟩,⟨[.v (.int .i64 s.b1)],3,.cl,false⟩,⟨[],3,.vec (.int .i64) s.data,false⟩,⟨[.fn 43 [.own 0 0,.own 1 0]],84,.cl,false⟩]
noncomputable def IL:Code:=((aC (((aC (Tryz.f120.body.getD .skip))[0]?).getD .skip))[0]?).getD .skip
def QS (s:mW):T (Rd mW):=
 .br (decide (s.j>s.a)) (.req (0≤s.j∧s.j<((List.length s.data:Nat):Int)) (.req (s.j.toNat<List.length s.data) (.req (0≤(IntKind.i64.wrap (s.j-1))∧(IntKind.i64.wrap (s.j-1))<((List.length s.data:Nat):Int)) (.req ((IntKind.i64.wrap (s.j-1)).toNat<List.length s.data) (.req (s.b0=s.b0∧xQ s.b0 s.b1∧(0≤(s.data.getD s.j.toNat (Ty.dflt (.int .i64)))∧(s.data.getD s.j.toNat (Ty.dflt (.int .i64)))<(List.length s.b0:Int))∧0≤(s.data.getD (IntKind.i64.wrap (s.j-1)).toNat (Ty.dflt (.int .i64)))∧(s.data.getD (IntKind.i64.wrap (s.j-1)).toNat (Ty.dflt (.int .i64)))<(List.length s.b0:Int)) (.br (decide ((cmD s.b0 s.b1 (s.data.getD s.j.toNat (Ty.dflt (.int .i64))) (s.data.getD (IntKind.i64.wrap (s.j-1)).toNat (Ty.dflt (.int .i64))))<0)) (.req (0≤(IntKind.i64.wrap (s.j-1))∧(IntKind.i64.wrap (s.j-1))<((List.length s.data:Nat):Int)) (.req (0≤s.j∧s.j<((List.length s.data:Nat):Int)) (.req ((IntKind.i64.wrap (s.j-1)).toNat<List.length s.data) (.req (s.j.toNat<List.length s.data) (.req (0≤s.j∧s.j<((List.length s.data:Nat):Int)) (.req (s.j.toNat<List.length s.data) (.req (0≤(IntKind.i64.wrap (s.j-1))∧(IntKind.i64.wrap (s.j-1))<((List.length s.data:Nat):Int)) (.req ((IntKind.i64.wrap (s.j-1)).toNat<List.length (s.data.set s.j.toNat (s.data.getD (IntKind.i64.wrap (s.j-1)).toNat (Ty.dflt (.int .i64))))) (.req (0=0∧(List.length s.data)=List.length ((s.data.set s.j.toNat (s.data.getD (IntKind.i64.wrap (s.j-1)).toNat (Ty.dflt (.int .i64)))).set (IntKind.i64.wrap (s.j-1)).toNat (s.data.getD s.j.toNat (Ty.dflt (.int .i64))))) (.ok (.next {s with j:=(IntKind.i64.wrap (s.j-1)),data:=((s.data.set s.j.toNat (s.data.getD (IntKind.i64.wrap (s.j-1)).toNat (Ty.dflt (.int .i64)))).set (IntKind.i64.wrap (s.j-1)).toNat (s.data.getD s.j.toNat (Ty.dflt (.int .i64))))}))))))))))) (.rl s.data (.ok (.stop (.exit 2) s))))))))) (.rl s.data (.ok (.stop (.exit 2) s)))
abbrev aa2 (s:mW):=(QS s).rd s
def adk (s:mW):Prop:=s.a=0∧(0≤s.j∧s.j<(List.length s.data:Int))∧(s.data.length=s.b0.length∧(List.length s.data:Int)≤1000)∧(∀x∈s.data,0≤x∧x<(List.length s.b0:Int))∧xQ s.b0 s.b1
def UH (s:mW):Prop:=s.a=0∧(0≤s.j∧s.j<(List.length s.data:Int))∧(s.data.length=s.b0.length∧(List.length s.data:Int)≤1000)∧(∀x∈s.data,0≤x∧x<(List.length s.b0:Int))∧xQ s.b0 s.b1
def OE (s:mW):Nat:=s.j.toNat
def asP (x:Ex) (_ _:mW):Prop:=x=.exit 2
theorem aAx:∀s,adk s→UH s:=by
 exact fun s h=>h
theorem awD (s:mW) (hI:UH s):bJ (fun s'=>UH s'∧OE s'<OE s) (fun x s'=>asP x s s') (aa2 s):=by
 unfold aa2 QS
 dsimp only [T.rd,T.rl]
 obtain ⟨h0,⟨h1,h2⟩,⟨h3,h3'⟩,h4,h5⟩:=hI
 refine au (fun c1=>?_) (fun c1=>rfl)
 have c1:s.a<s.j:=by simpa using c1
 rw [aK (x:=s.j-1) (by omega) (by omega)]
 refine au (fun c2=>?_) (fun c2=>rfl)
 have g0:=fun (k:Nat) (hk:k<s.data.length)=>h4 (s.data.getD k 0) (by simp [List.getD,hk])
 have hm:∀x∈(s.data.set s.j.toNat (s.data.getD (s.j-1).toNat 0)).set (s.j-1).toNat (s.data.getD s.j.toNat 0),0≤x∧x<(List.length s.b0:Int):=fun x hx=>by
  rcases List.mem_or_eq_of_mem_set hx with hx|e
  ·rcases List.mem_or_eq_of_mem_set hx with hx|e
   ·exact h4 x hx
   ·rw [e];exact g0 _ (by omega)
  ·rw [e];exact g0 _ (by omega)
 exact ⟨⟨h0,⟨by simp only;omega,by simp only [List.length_set];omega⟩,⟨by simp only [List.length_set];exact h3,by simp only [List.length_set];exact h3'⟩,hm,h5⟩,by simp only [OE];omega⟩
def JG:bK mW:=⟨4,53,[0,1,2,3,8,9],[],aDz,aCy,fun v b=>⟨gI (v.getD 1 .junk),gI (v.getD 2 .junk),gI (v.getD 4 .junk),gI (v.getD 5 .junk),aQ qG (aX (aO b 0) 0),gI (aX (aO b 1) 0),iT (.int .i64) (aO b 2)⟩,QS,fun s r=> {r with a:=s.a,b:=s.b,i:=s.i,b0:=s.b0,b1:=s.b1},fun s=>s,fun _ s=>s,[.exit 2],adk,UH,OE⟩
abbrev zC:=JG.run
abbrev apI:=JG.jJ
abbrev ayu:=JG.q
theorem ava (s:mW) (hI:UH s):(QS s).all (fun _=>True):=by
 refine ⟨fun c1=>⟨?_,?_,?_,?_,?_,fun c2=>⟨?_,?_,?_,?_,?_,?_,?_,?_,?_,trivial⟩,fun c2=>⟨⟨rfl,rfl⟩,trivial⟩⟩,fun c1=>⟨⟨rfl,rfl⟩,trivial⟩⟩
 all_goals ((obtain ⟨h0,⟨h1,h2⟩,⟨h3,h3'⟩,h4,h5⟩:=hI;simp only [decide_eq_true_eq,gt_iff_lt] at c1;(try rw [aK (x:=s.j-1) (by omega) (by omega)]);have g0:∀k:Nat,k<s.data.length→0≤s.data.getD k (Ty.dflt (.int .i64))∧s.data.getD k (Ty.dflt (.int .i64))<(List.length s.b0:Int):=(fun k hk=>h4 _ (by simp [List.getD,hk]));first|omega|exact ⟨rfl,h5,g0 _ (by omega),g0 _ (by omega)⟩ |(simp only [List.length_set];omega) |exact ⟨rfl,by simp⟩))
theorem ag9:JG.Ok:=⟨fun s=>by kernel_rfl,fun s=>by kernel_rfl,fun s=>rfl,fun s t r=>rfl,fun s=>rfl,fun s=>by kernel_rfl⟩
theorem af0:JG.Pf (asP):=⟨aAx,fun _ _=>rfl,awD,ava⟩
theorem amo:bg Tryz.prog aP (AN 4) (.loop IL) JG.lp:=bK.snd ag9 af0 (bF (Γ:=wo) (K:=SG) (L:=(rY Tryz.prog aP wo SG 20 2)) yt aao IL (fun b _=>dU yt aao 20 2 b)) (fun s=>by kernel_rfl)
theorem aah (s:mW) (hE:adk s):(fun (x:Ex) (s':mW) (v:List Int)=>x=.exit 2∧s'.data=v) (apI s) (zC s) ((fun s:mW=>bub (ltD s.b0 s.b1) s.j.toNat s.data) s):=by
 exact bK.uy ag9 af0 (fun s:mW=>bub (ltD s.b0 s.b1) s.j.toNat s.data) (fun x s' v=>x=.exit 2∧s'.data=v) (fun s hI=>by
  show bJ _ _ (aa2 s)
  unfold aa2 QS
  dsimp only [T.rd,T.rl]
  obtain ⟨h0,⟨h1,h2⟩,⟨h3,h3'⟩,h4,h5⟩:=hI
  refine au (fun c1=>?_) (fun c1=>?_)
  ·have c1:s.a<s.j:=by simpa using c1
   rw [aK (x:=s.j-1) (by omega) (by omega)]
   have e:s.j.toNat=(s.j-1).toNat+1:=by omega
   refine au (fun c2=>?_) (fun c2=>?_)
   ·show bub _ _ _=bub _ _ _
    simp only
    rw [e,bub,if_pos (by unfold ltD;rw [e] at c2;exact c2)]
    rfl
   ·refine ⟨rfl,?_⟩
    rw [e] at c2
    rw [e,bub,if_neg (fun hh=>absurd ((show true=_ from hh.symm).trans c2) (by decide))]
  ·have c1:s.j≤s.a:=by simpa using c1
   refine ⟨rfl,?_⟩
   rw [show s.j.toNat=0 by omega]
   rfl) s hE
structure kF where
 a:Int
 b:Int
 i:Int
 b0:List Dm
 b1:Int
 data:List Int
def aDA (s:kF):List LV:=[.os 2 1 0 (List.length s.data),.v (.int .i64 s.a),.v (.int .i64 s.b),.fn 45 [.own 0 0,.own 3 0],.v (.int .i64 s.i)]
def aCz (s:kF):List aU:=[⟨[.xl qG s.b0],31,.cl,false⟩,⟨[.v (.int .i64 s.b1)],3,.cl,false⟩,⟨[],3,.vec (.int .i64) s.data,false⟩,⟨[.fn 43 [.own 0 0,.own 1 0]],84,.cl,false⟩]
noncomputable def TM:Code:=((aC (Tryz.f120.body.getD .skip))[0]?).getD .skip
def QT (s:kF):T (Rd kF):=
 .br (decide (s.i<s.b)) (.rl s.data (.req (ayu (⟨s.a,s.b,s.i,s.i,s.b0,s.b1,s.data⟩:mW)) (.rl (zC (⟨s.a,s.b,s.i,s.i,s.b0,s.b1,s.data⟩:mW)).data (.ok (.next {s with i:=(IntKind.i64.wrap (s.i+1)),data:=(zC (⟨s.a,s.b,s.i,s.i,s.b0,s.b1,s.data⟩:mW)).data}))))) (.rl s.data (.ok (.stop (.exit 0) s)))
abbrev aa3 (s:kF):=(QT s).rd s
def adl (s:kF):Prop:=s.i=1∧(s.a=0∧s.b=(List.length s.data:Int))∧(s.data.length=s.b0.length∧(List.length s.data:Int)≤1000)∧(∀x∈s.data,0≤x∧x<(List.length s.b0:Int))∧xQ s.b0 s.b1
def MH (s:kF):Prop:=1≤s.i∧(s.a=0∧s.b=(List.length s.data:Int))∧(s.data.length=s.b0.length∧(List.length s.data:Int)≤1000)∧(∀x∈s.data,0≤x∧x<(List.length s.b0:Int))∧xQ s.b0 s.b1
def OG (s:kF):Nat:=(s.b-s.i).toNat
def asQ (x:Ex) (_ _:kF):Prop:=x=.exit 0
theorem aAy:∀s,adl s→MH s:=by
 intro s h
 obtain ⟨h0,h1⟩:=h
 exact ⟨by omega,h1⟩
theorem WM (s:kF) (hI:MH s) (c1:s.i<s.b):adk ⟨s.a,s.b,s.i,s.i,s.b0,s.b1,s.data⟩:=by
 obtain ⟨h0,⟨h1,h2⟩,h3⟩:=hI
 exact ⟨h1,⟨by simp only;omega,by simp only;omega⟩,h3⟩
theorem awE (s:kF) (hI:MH s):bJ (fun s'=>MH s'∧OG s'<OG s) (fun x s'=>asQ x s s') (aa3 s):=by
 unfold aa3 QT
 dsimp only [T.rd,T.rl]
 have hin:=fun c1=>WM s hI c1
 obtain ⟨h0,⟨h1,h2⟩,⟨h3,h3'⟩,h4,h5⟩:=hI
 refine au (fun c1=>?_) (fun c1=>rfl)
 have c1:s.i<s.b:=by simpa using c1
 obtain ⟨q1,q2⟩:=aah _ (hin c1)
 have q2:(zC ⟨s.a,s.b,s.i,s.i,s.b0,s.b1,s.data⟩).data=bub (ltD s.b0 s.b1) s.i.toNat s.data:=q2
 have hp:=ajs (lt:=ltD s.b0 s.b1) (j:=s.i.toNat) (l:=s.data) (by omega)
 rw [aK (x:=s.i+1) (by omega) (by omega),q2]
 exact ⟨⟨by simp only;omega,⟨h1,by simp only [hp.length_eq];exact h2⟩,⟨by simp only [hp.length_eq];exact h3,by simp only [hp.length_eq];exact h3'⟩,fun x hx=>h4 x (hp.subset hx),h5⟩,by simp only [OG];omega⟩
def Cc:bK kF:=⟨4,53,[0,1,2,3,8],[],aDA,aCz,fun v b=>⟨gI (v.getD 1 .junk),gI (v.getD 2 .junk),gI (v.getD 4 .junk),aQ qG (aX (aO b 0) 0),gI (aX (aO b 1) 0),iT (.int .i64) (aO b 2)⟩,QT,fun s r=> {r with a:=s.a,b:=s.b,b0:=s.b0,b1:=s.b1},fun s=>s,fun _ s=>s,[.exit 0],adl,MH,OG⟩
abbrev pU:=Cc.run
abbrev apJ:=Cc.jJ
abbrev ak9:=Cc.q
theorem avb (s:kF) (hI:MH s):(QT s).all (fun _=>True):=by
 refine ⟨fun c1=>⟨⟨rfl,rfl⟩,?_,⟨rfl,rfl⟩,trivial⟩,fun c1=>⟨⟨rfl,rfl⟩,trivial⟩⟩
 ·exact ⟨WM s hI (by simpa using c1),rfl,rfl⟩
theorem aha:Cc.Ok:=⟨fun s=>by kernel_rfl,fun s=>by kernel_rfl,fun s=>rfl,fun s t r=>rfl,fun s=>rfl,fun s=>by kernel_rfl⟩
theorem af2:Cc.Pf (asQ):=⟨aAy,fun _ _=>rfl,awE,avb⟩
theorem NC:bg Tryz.prog aP (AN 4) (.loop TM) Cc.lp:=bK.snd aha af2 (bF (Γ:=wo) (K:=SG) (L:=(aec (fun i=>if i=4 then JG.lp else aB i))) yt aao TM (fun b hb=>by
 rw [show aC _=[IL] by kernel_rfl] at hb
 simp only [List.mem_cons,List.not_mem_nil,or_false] at hb
 subst hb
 exact amo)) (fun s=>by kernel_rfl)
theorem ao2 (s:kF) (hE:adl s):(fun (x:Ex) (s':kF) (v:List Int)=>x=.exit 0∧s'.data=v) (apJ s) (pU s) ((fun s:kF=>uK (ltD s.b0 s.b1) s.data s.i.toNat) s):=by
 exact bK.uy aha af2 (fun s:kF=>uK (ltD s.b0 s.b1) s.data s.i.toNat) (fun x s' v=>x=.exit 0∧s'.data=v) (fun s hI=>by
  show bJ _ _ (aa3 s)
  unfold aa3 QT
  dsimp only [T.rd,T.rl]
  have hin:=fun c1=>WM s hI c1
  obtain ⟨h0,⟨h1,h2⟩,⟨h3,h3'⟩,h4,h5⟩:=hI
  refine au (fun c1=>?_) (fun c1=>?_)
  ·have c1:s.i<s.b:=by simpa using c1
   obtain ⟨q1,q2⟩:=aah _ (hin c1)
   have q2:(zC ⟨s.a,s.b,s.i,s.i,s.b0,s.b1,s.data⟩).data=bub (ltD s.b0 s.b1) s.i.toNat s.data:=q2
   rw [aK (x:=s.i+1) (by omega) (by omega)]
   show uK _ _ _=uK _ _ _
   simp only
   rw [q2,show (s.i+1).toNat=s.i.toNat+1 by omega,Vy (by omega)]
  ·have c1:s.b≤s.i:=by simpa using c1
   exact ⟨rfl,(adH (by omega)).symm⟩) s hE
structure nG where
 n:Int
 di:Int
 a:Int
 b:Int
 b0:List Dm
 b1:Int
 data:List Int
def aCY (s:nG):List LV:=[.os 2 1 0 (List.length s.data),.v (.int .i64 s.n),.fn 45 [.own 0 0,.own 3 0],.v (.int .i64 s.di),.v (.int .i64 s.a),.v (.int .i64 s.b)]
def aBX (s:nG):List aU:=[⟨[.xl qG s.b0],31,.cl,false⟩,⟨[.v (.int .i64 s.b1)],3,.cl,false⟩,⟨[],3,.vec (.int .i64) s.data,false⟩,⟨[.fn 43 [.own 0 0,.own 1 0]],84,.cl,false⟩]
noncomputable def TG:Code:=((aC (Tryz.f84.body.getD .skip))[0]?).getD .skip
def Qx (s:nG):T (Rd nG):=
 .br (decide (s.b≤s.n)) (.rl s.data (.req (ak9 (⟨s.a,s.b,(IntKind.i64.wrap (s.a+1)),s.b0,s.b1,s.data⟩:kF)) (.req (0=0∧(List.length s.data)=List.length (pU (⟨s.a,s.b,(IntKind.i64.wrap (s.a+1)),s.b0,s.b1,s.data⟩:kF)).data) (.ok (.next {s with a:=s.b,b:=(IntKind.i64.wrap (s.b+s.di)),data:=(pU (⟨s.a,s.b,(IntKind.i64.wrap (s.a+1)),s.b0,s.b1,s.data⟩:kF)).data}))))) (.rl s.data (.ok (.stop (.exit 0) s)))
abbrev aaJ (s:nG):=(Qx s).rd s
def ac5 (s:nG):Prop:=s.b=20∧s.n<20
def LD (s:nG):Prop:=s.b=20∧s.n<20
def Wn (_:nG):Nat:=0
def asE (x:Ex) (_ _:nG):Prop:=x=.exit 0
theorem azl:∀s,ac5 s→LD s:=by
 exact fun s h=>h
theorem at7 (s:nG) (hI:LD s):bJ (fun s'=>LD s'∧Wn s'<Wn s) (fun x s'=>asE x s s') (aaJ s):=by
 unfold aaJ Qx
 dsimp only [T.rd,T.rl]
 obtain ⟨h0,h1⟩:=hI
 refine au (fun c1=>absurd (show s.b≤s.n by simpa using c1) (by omega)) (fun c1=>rfl)
def Ef:bK nG:=⟨4,63,[0,1,2,6,7,8],[],aCY,aBX,fun v b=>⟨gI (v.getD 1 .junk),gI (v.getD 3 .junk),gI (v.getD 4 .junk),gI (v.getD 5 .junk),aQ qG (aX (aO b 0) 0),gI (aX (aO b 1) 0),iT (.int .i64) (aO b 2)⟩,Qx,fun s r=> {r with n:=s.n,di:=s.di,b0:=s.b0,b1:=s.b1},fun s=>s,fun _ s=>s,[.exit 0],ac5,LD,Wn⟩
abbrev iZ:=Ef.run
abbrev apl:=Ef.jJ
abbrev axW:=Ef.q
noncomputable def aip:Hand:=inl Tryz.prog aP wo (kE 120 4 1 (Cc.lp) (lm Tryz.prog aP (wo) 20 2)) 9
theorem aq2:dD Tryz.prog aP aip:=bP yt (dF Tryz.func120 rfl (by kernel_rfl) NC (dR yt)) 9
theorem auz (s:nG) (hI:LD s):(Qx s).all (fun _=>True):=by
 refine ⟨fun c1=>⟨⟨rfl,rfl⟩,?_,?_,trivial⟩,fun c1=>⟨⟨rfl,rfl⟩,trivial⟩⟩
 all_goals ((simp only [decide_eq_true_eq] at c1;exact absurd c1 (by have:=hI;unfold LD at this;omega)))
theorem agH:Ef.Ok:=⟨fun s=>by kernel_rfl,fun s=>by kernel_rfl,fun s=>rfl,fun s t r=>rfl,fun s=>rfl,fun s=>by kernel_rfl⟩
theorem afy:Ef.Pf (asE):=⟨azl,fun _ _=>rfl,at7,auz⟩
theorem Zp:bg Tryz.prog aP (AN 4) (.loop TG) Ef.lp:=bK.snd agH afy (bF (Γ:=wo) (K:=aip) (L:=(rY Tryz.prog aP wo aip 20 2)) yt aq2 TG (fun b _=>dU yt aq2 20 2 b)) (fun s=>by kernel_rfl)
theorem alG (s:nG) (hE:ac5 s):(fun (x:Ex) (s':nG) (v:List Int×Int)=>x=.exit 0∧(s'.data,s'.a)=v) (apl s) (iZ s) ((fun s:nG=>(s.data,s.a)) s):=by
 exact bK.uy agH afy (fun s:nG=>(s.data,s.a)) (fun x s' v=>x=.exit 0∧(s'.data,s'.a)=v) (fun s hI=>by
  show bJ _ _ (aaJ s)
  unfold aaJ Qx
  dsimp only [T.rd,T.rl]
  obtain ⟨h0,h1⟩:=hI
  exact au (fun c1=>absurd (show s.b≤s.n by simpa using c1) (by omega)) (fun c1=>⟨rfl,rfl⟩)) s hE
def XF:List LV→T LV:=fun _=> .req False (.ok (.v undef))
theorem atb:Valid Tryz.prog aP 121 XF:=by
 intro _ _ _ _ _ _ _ _ _ h
 exact h.1.elim
structure rG where
 n:Int
 di:Int
 a:Int
 b:Int
 b0:List Dm
 b1:Int
 data:List Int
def aCW (s:rG):List LV:=[.os 2 1 0 (List.length s.data),.v (.int .i64 s.n),.fn 45 [.own 0 0,.own 3 0],.v (.int .i64 s.di),.v (.int .i64 s.a),.v (.int .i64 s.b)]
def aBV (s:rG):List aU:=[⟨[.xl qG s.b0],31,.cl,false⟩,⟨[.v (.int .i64 s.b1)],3,.cl,false⟩,⟨[],3,.vec (.int .i64) s.data,false⟩,⟨[.fn 43 [.own 0 0,.own 1 0]],84,.cl,false⟩]
noncomputable def IG:Code:=((aC (((aC (Tryz.f84.body.getD .skip))[1]?).getD .skip))[0]?).getD .skip
def YP (s:rG):T (Rd rG):=
 .br (decide (s.b≤s.n)) (.req (0+(List.length s.data)≤List.length s.data) (.req False (.rl s.data (.ok (.next {s with a:=s.b,b:=(IntKind.i64.wrap (s.b+(IntKind.i64.wrap (2*s.di))))}))))) (.rl s.data (.ok (.stop (.exit 4) s)))
abbrev arY (s:rG):=(YP s).rd s
def asW (_:rG):Prop:=False
def Uy (_:rG):Prop:=False
def Wj (_:rG):Nat:=0
def asC (_:Ex) (_ _:rG):Prop:=True
theorem azj:∀s,asW s→Uy s:=by
 exact fun s h=>h
theorem at1 (s:rG) (hI:Uy s):bJ (fun s'=>Uy s'∧Wj s'<Wj s) (fun x s'=>asC x s s') (arY s):=by
 unfold arY YP
 dsimp only [T.rd,T.rl]
 exact hI.elim
def Nh:bK rG:=⟨4,63,[0,1,2,6,7,8],[],aCW,aBV,fun v b=>⟨gI (v.getD 1 .junk),gI (v.getD 3 .junk),gI (v.getD 4 .junk),gI (v.getD 5 .junk),aQ qG (aX (aO b 0) 0),gI (aX (aO b 1) 0),iT (.int .i64) (aO b 2)⟩,YP,fun s r=> {r with n:=s.n,di:=s.di,b0:=s.b0,b1:=s.b1,data:=s.data},fun s=>s,fun _ s=>s,[.exit 4],asW,Uy,Wj⟩
abbrev amW:=Nh.run
abbrev axU:=Nh.q
noncomputable def zW:Specs:=aZ [(43,yZ),(45,Ug),(121,XF)]
theorem DN:∀g S,zW g=some S→Valid Tryz.prog aP g S:=aS (l:=[(43,yZ),(45,Ug),(121,XF)]) ⟨Ve,aqw,atb,trivial⟩
noncomputable def aaq:Hand:=inl Tryz.prog aP zW (kE 84 4 2 (Ef.lp) (kE 120 4 1 (Cc.lp) (lm Tryz.prog aP (zW) 20 2))) 9
theorem aie:dD Tryz.prog aP aaq:=bP DN (dF Tryz.func84 rfl (by kernel_rfl) Zp (dF Tryz.func120 rfl (by kernel_rfl) NC (dR DN))) 9
theorem auw (s:rG) (hI:Uy s):(YP s).all (fun _=>True):=by
 refine ⟨fun c1=>⟨?_,?_,⟨rfl,rfl⟩,trivial⟩,fun c1=>⟨⟨rfl,rfl⟩,trivial⟩⟩
 all_goals (exact hI.elim)
theorem avS:Nh.Ok:=⟨fun s=>by kernel_rfl,fun s=>by kernel_rfl,fun s=>rfl,fun s t r=>rfl,fun s=>rfl,fun s=>by kernel_rfl⟩
theorem avN:Nh.Pf (asC):=⟨azj,fun _ _=>rfl,at1,auw⟩
theorem alN:bg Tryz.prog aP (AN 4) (.loop IG) Nh.lp:=bK.snd avS avN (bF (Γ:=zW) (K:=aaq) (L:=(rY Tryz.prog aP zW aaq 20 2)) DN aie IG (fun b _=>dU DN aie 20 2 b)) (fun s=>by kernel_rfl)
structure rH where
 n:Int
 di:Int
 b0:List Dm
 b1:Int
 data:List Int
def aCX (s:rH):List LV:=[.os 2 1 0 (List.length s.data),.v (.int .i64 s.n),.fn 45 [.own 0 0,.own 3 0],.v (.int .i64 s.di)]
def aBW (s:rH):List aU:=[⟨[.xl qG s.b0],31,.cl,false⟩,⟨[.v (.int .i64 s.b1)],3,.cl,false⟩,⟨[],3,.vec (.int .i64) s.data,false⟩,⟨[.fn 43 [.own 0 0,.own 1 0]],84,.cl,false⟩]
noncomputable def TF:Code:=((aC (Tryz.f84.body.getD .skip))[1]?).getD .skip
def YQ (s:rH):T (Rd rH):=
 .br (decide (s.di<s.n)) (.rl s.data (.req (axU (⟨s.n,s.di,(0:Int),(IntKind.i64.wrap (2*s.di)),s.b0,s.b1,s.data⟩:rG)) (.br (decide ((IntKind.i64.wrap ((amW (⟨s.n,s.di,(0:Int),(IntKind.i64.wrap (2*s.di)),s.b0,s.b1,s.data⟩:rG)).a+s.di))<s.n)) (.req (0+(List.length s.data)≤List.length s.data) (.req False (.rl s.data (.ok (.next {s with di:=(IntKind.i64.wrap (s.di*2))}))))) (.rl s.data (.ok (.next {s with di:=(IntKind.i64.wrap (s.di*2))})))))) (.rl s.data (.ok (.stop (.exit 2) s)))
abbrev arZ (s:rH):=(YQ s).rd s
def akS (s:rH):Prop:=s.di=20∧s.n<20
def LC (s:rH):Prop:=s.di=20∧s.n<20
def Wl (_:rH):Nat:=0
def asD (x:Ex) (_ _:rH):Prop:=x=.exit 2
theorem azk:∀s,akS s→LC s:=by
 exact fun s h=>h
theorem at6 (s:rH) (hI:LC s):bJ (fun s'=>LC s'∧Wl s'<Wl s) (fun x s'=>asD x s s') (arZ s):=by
 unfold arZ YQ
 dsimp only [T.rd,T.rl]
 obtain ⟨h0,h1⟩:=hI
 refine au (fun c1=>absurd (show s.di<s.n by simpa using c1) (by omega)) (fun c1=>rfl)
def U2:bK rH:=⟨4,63,[0,1,2,6],[],aCX,aBW,fun v b=>⟨gI (v.getD 1 .junk),gI (v.getD 3 .junk),aQ qG (aX (aO b 0) 0),gI (aX (aO b 1) 0),iT (.int .i64) (aO b 2)⟩,YQ,fun s r=> {r with n:=s.n,b0:=s.b0,b1:=s.b1,data:=s.data},fun s=>s,fun _ s=>s,[.exit 2],akS,LC,Wl⟩
abbrev axV:=U2.q
theorem auy (s:rH) (hI:LC s):(YQ s).all (fun _=>True):=by
 refine ⟨fun c1=>⟨⟨rfl,rfl⟩,?_,fun c2=>⟨?_,?_,⟨rfl,rfl⟩,trivial⟩,fun c2=>⟨⟨rfl,rfl⟩,trivial⟩⟩,fun c1=>⟨⟨rfl,rfl⟩,trivial⟩⟩
 all_goals ((simp only [decide_eq_true_eq] at c1;exact absurd c1 (by have:=hI;unfold LC at this;omega)))
theorem avT:U2.Ok:=⟨fun s=>by kernel_rfl,fun s=>by kernel_rfl,fun s=>rfl,fun s t r=>rfl,fun s=>rfl,fun s=>by kernel_rfl⟩
theorem avO:U2.Pf (asD):=⟨azk,fun _ _=>rfl,at6,auy⟩
theorem alO:bg Tryz.prog aP (AN 4) (.loop TF) U2.lp:=bK.snd avT avO (bF (Γ:=zW) (K:=aaq) (L:=(aec (fun i=>if i=9 then Nh.lp else aB i))) DN aie TF (fun b hb=>by
 rw [show aC _=[IG] by kernel_rfl] at hb
 simp only [List.mem_cons,List.not_mem_nil,or_false] at hb
 subst hb
 exact alN)) (fun s=>by kernel_rfl)
def acs:List LV→T LV
 | [.xl (.pair .bool (.pair (.int .i64) (.pair (.int .i64) (.int .i64)))) d,.v (.int .i64 t)]=> .req (xQ d t∧d.length≤19) (.ok (.xl (.int .i64) (jI d t)))
 |_=> .no
noncomputable def y7:List LV→T LV:=gB Tryz.prog Tryz.f19.params.toList acs
def iq (d:List Dm) (t:Int):qE:=(⟨(((List.length d:Int).toNat:Nat):Int),(0:Int),d,t,(List.replicate (List.length d:Int).toNat (0:Int))⟩:qE)
def gG (d:List Dm) (t:Int):nG:=(⟨((List.length (jW (iq d t)).out:Nat):Int),(20:Int),(0:Int),(20:Int),d,t,(jW (iq d t)).out⟩:nG)
def nZ (d:List Dm) (t:Int):kF:=(⟨(iZ (gG d t)).a,((List.length (jW (iq d t)).out:Nat):Int),(IntKind.i64.wrap ((iZ (gG d t)).a+1)),d,t,(iZ (gG d t)).data⟩:kF)
def Q7 (d:List Dm) (t:Int):rH:=(⟨((List.length (jW (iq d t)).out:Nat):Int),(20:Int),d,t,(pU (nZ d t)).data⟩:rH)
noncomputable def arf:Hand:=inl Tryz.prog aP zW (kE 84 4 7 (U2.lp) (kE 84 4 2 (Ef.lp) (kE 120 4 1 (Cc.lp) (lm Tryz.prog aP (zW) 20 2)))) 9
theorem aAF:dD Tryz.prog aP arf:=bP DN (dF Tryz.func84 rfl (by kernel_rfl) alO (dF Tryz.func84 rfl (by kernel_rfl) Zp (dF Tryz.func120 rfl (by kernel_rfl) NC (dR DN)))) 9
theorem aoj (d:List Dm) (t:Int):bT Tryz.prog aP (zW) arf (fun i=>if i=3 then EH.lp else aB i) Tryz.f19 [.xl qG d,.v (.int .i64 t)]=.req (0≤(List.length d:Int)∧(List.length d:Int)≤(List.length d:Int)∧8*(List.length d:Int)≤2^48∧(List.length d:Int)<2^63) (.req (0=0∧(List.length d:Int).toNat=List.length (List.replicate (List.length d:Int).toNat (0:Int))) (.req (ayi (iq d t)) (.rl (jW (iq d t)).out (.req (axW (gG d t)) (.rl (iZ (gG d t)).data (.req (ak9 (nZ d t)) (.req (0=0∧(List.length (iZ (gG d t)).data)=List.length (pU (nZ d t)).data) (.req (axV (Q7 d t)) (.req (0+(List.length (jW (iq d t)).out)≤List.length (pU (nZ d t)).data) (.ok (.xl (.int .i64) (((pU (nZ d t)).data.drop 0).take (List.length (jW (iq d t)).out))))))))))))):=by kernel_rfl
theorem Vg:Valid Tryz.prog aP 19 y7:=aH Tryz.func19 rfl DN aAF (L:=(fun i=>if i=3 then EH.lp else aB i)) (fun b hb=>by
 rw [show aC _=[Bc] by kernel_rfl] at hb
 simp only [List.mem_cons,List.not_mem_nil,or_false] at hb
 subst hb
 exact amc) (fun args lv h=>by
 unfold acs at h
 split at h
 ·simp only [canL,canX]
  rw [aoj]
  rename_i d t
  obtain ⟨⟨hw,hd⟩,rfl⟩:=h
  have hE:ade (iq d t):=⟨rfl,by show List.replicate (List.length d:Int).toNat (0:Int)=List.replicate d.length 0;rw [Int.toNat_natCast],by show (((List.length d:Int).toNat:Nat):Int)=(List.length d:Int);omega,by show (((List.length d:Int).toNat:Nat):Int)≤1000;omega,by show (List.replicate _ (0:Int)).length=d.length;rw [List.length_replicate];omega⟩
  obtain ⟨_,_,_,q1⟩:=anu _ hE
  have q1:(jW (iq d t)).out=yJ d.length:=q1
  have hl:(jW (iq d t)).out.length=d.length:=by rw [q1,qg]
  have hE2:ac5 (gG d t):=⟨rfl,by show ((List.length (jW (iq d t)).out:Nat):Int)<20;omega⟩
  obtain ⟨_,q2⟩:=alG _ hE2
  have q2a:(iZ (gG d t)).data=yJ d.length:=(congrArg Prod.fst q2).trans q1
  have q2b:(iZ (gG d t)).a=0:=congrArg Prod.snd q2
  have hE3:adl (nZ d t):=⟨by show IntKind.i64.wrap ((iZ (gG d t)).a+1)=1;rw [q2b];rfl,⟨q2b,by show ((List.length (jW (iq d t)).out:Nat):Int)=(List.length (iZ (gG d t)).data:Int);rw [q2a,hl,qg]⟩,⟨by show (iZ (gG d t)).data.length=d.length;rw [q2a,qg],by show (List.length (iZ (gG d t)).data:Int)≤1000;rw [q2a,qg];omega⟩,fun x hx=>Rx.1 (by have hx:x∈(iZ (gG d t)).data:=hx;rw [q2a] at hx;exact hx),hw⟩
  obtain ⟨_,q3⟩:=ao2 _ hE3
  have q3:(pU (nZ d t)).data=jI d t:=q3.trans (by
   show uK (ltD d t) (iZ (gG d t)).data (IntKind.i64.wrap ((iZ (gG d t)).a+1)).toNat=_
   rw [q2b,q2a]
   exact adG)
  have hl3:(pU (nZ d t)).data.length=d.length:=by rw [q3,RQ]
  have hE4:akS (Q7 d t):=⟨rfl,by show ((List.length (jW (iq d t)).out:Nat):Int)<20;omega⟩
  refine ⟨⟨by omega,by omega,by omega,by omega⟩,⟨rfl,by simp⟩,⟨hE,rfl,rfl⟩,⟨rfl,rfl⟩,⟨hE2,rfl,rfl⟩,⟨rfl,rfl⟩,⟨hE3,rfl,rfl⟩,⟨rfl,by rw [q2a,qg,hl3]⟩,⟨hE4,rfl,rfl⟩,by omega,?_⟩
  show LV.xl _ _=_
  rw [List.drop_zero,hl,←hl3,List.take_length,q3]
 ·cases h)
end Go.Proofs.YtlihnbimgclogaaGreatDoor
namespace Go.Proofs.YtlihnbimgclogaaGreatDoor
def isL (mn mx st a:Int):Bool:=a==0 ||(decide (mn≤a)&&(decide (a≤mx)&&((a-mn) %st==0)))
theorem ug {mn mx st a:Int}:isL mn mx st a=true↔a=0∨(mn≤a∧a≤mx∧(a-mn) %st=0):=by simp [isL]
theorem zL {mn mx st a:Int}(hc:uP mn mx st):isL mn mx st (lI mn mx st a)=true:=by
 unfold uP at hc
 rw [ug]
 unfold lI
 split
 ·exact .inl rfl
 ·right
  have e1:=uz (x:=min a mx-mn) (s:=st) (by omega) (by omega)
  refine ⟨by omega,by omega,?_⟩
  have h:=Int.mul_ediv_add_emod (min a mx-mn) st
  rw [show min a mx-(min a mx-mn) %st-mn=st*((min a mx-mn) / st) by omega]
  exact Int.mul_emod_right _ _
theorem HY {mn mx st a:Int}(hc:uP mn mx st) (ha:0≤a):lI mn mx st a≤a:=by
 have hc':=hc
 unfold uP at hc'
 have:=ql (a:=a) hc'.1 hc'.2.1 hc'.2.2.1 hc'.2.2.2.1
 by_cases h:a<mn
 ·omega
 ·omega
theorem aoO {x y s:Int}(hs:1≤s) (hy:y%s=0) (h:y≤x):y≤x-x%s:=by
 have h1:=Int.mul_ediv_add_emod x s
 have h2:=Int.mul_ediv_add_emod y s
 have h3:=Int.emod_lt_of_pos x (b:=s) (by omega)
 by_cases hq:y / s≤x / s
 ·have:=Int.mul_le_mul_of_nonneg_left hq (show 0≤s by omega)
  omega
 ·have:=Int.mul_le_mul_of_nonneg_left (show x / s+1≤y / s by omega) (show 0≤s by omega)
  rw [Int.mul_add,Int.mul_one] at this
  omega
theorem mF {mn mx st a L:Int}(hc:uP mn mx st) (hL:isL mn mx st L=true) (h:L≤a):L≤lI mn mx st a:=by
 have hc':=hc
 unfold uP at hc'
 rw [ug] at hL
 rcases hL with rfl|⟨h1,h2,h3⟩
 ·exact (ql (a:=a) hc'.1 hc'.2.1 hc'.2.2.1 hc'.2.2.2.1).1
 ·unfold lI
  rw [if_neg (by omega)]
  have:=aoO (x:=min a mx-mn) (y:=L-mn) (s:=st) (by omega) h3 (by omega)
  omega
theorem Sv {mn mx st a:Int}(hc:uP mn mx st) (h:isL mn mx st a=true) (ha:0≤a):lI mn mx st a=a:=by
 have h1:=HY hc ha
 have h2:=mF hc h (Int.le_refl a)
 omega
theorem RV {ph mn mx st fb a s want:Int}(h:okB ph mn mx st fb a s want=true):uP mn mx st∧0≤s∧s≤1000000∧0≤want∧want≤80∧0≤a∧a≤80∧isL mn mx st a=true∧a≤mx∧(a≠0→mn≤a):=by
 have h':=h
 simp only [okB,JO,Bool.and_eq_true,decide_eq_true_eq,beq_iff_eq] at h'
 obtain ⟨⟨_,_,_,_,h5⟩,_⟩:=h'
 obtain ⟨_,h2,h3,h4,h6,h7,_⟩:=ZV h
 have hl:isL mn mx st a=true:=by rw [←h5];exact zL h2
 have hl':=ug.1 hl
 have h2':=h2
 unfold uP at h2'
 exact ⟨h2,h3.1,h3.2,h4.1,h4.2,h6,h7,hl,by omega,by omega⟩
theorem aAm {ph mn mx st fb a s want:Int}(h:okB ph mn mx st fb a s want=true):nE ph mn mx st fb a s want=0:=by rw [nE,if_pos h]
theorem aqU {ph mn mx st fb a s want:Int}(h:okB ph mn mx st fb a s want=true):nA ph mn mx st fb a s want=if a=0 then (if lI mn mx st want≠0∧5≤s then mn else 0) else if lI mn mx st want=0 then 0 else min (lI mn mx st want) (a+st):=by rw [nA,if_pos h]
theorem aAl {ph mn mx st fb a s want:Int}(h:okB ph mn mx st fb a s want=true):nS ph mn mx st fb a s want=if a=0 then (if lI mn mx st want≠0∧5≤s then 0 else min (s+1) 1000000) else if lI mn mx st want=0 then 0 else min (s+1) 1000000:=by rw [nS,if_pos h]
theorem ah7 {mn mx st:Int}(hc:uP mn mx st):isL mn mx st mn=true:=by
 unfold uP at hc
 rw [ug];right;exact ⟨by omega,by omega,by simp⟩
theorem ao3 {mn mx st a:Int}(ha:isL mn mx st a=true) (h0:a≠0) (h1:a+st≤mx) (hs:1≤st):isL mn mx st (a+st)=true:=by
 rw [ug] at ha⊢
 rcases ha with h|⟨h2,h3,h4⟩
 ·exact absurd h h0
 ·right
  exact ⟨by omega,h1,by rw [show a+st-mn=(a-mn)+st by omega,Int.add_emod_right];exact h4⟩
theorem Sz {mn mx st a b:Int}(hc:uP mn mx st) (h0:0≤a) (h:a≤b):lI mn mx st a≤lI mn mx st b:=by
 have h1:=HY hc h0
 exact mF hc (zL (a:=a) hc) (by omega)
theorem adW {mn mx st a:Int}(hc:uP mn mx st):lI mn mx st a≤mx:=by
 have h:=ug.1 (zL (a:=a) hc)
 unfold uP at hc
 omega
theorem anh {mn mx st a want:Int}(hc:uP mn mx st) (ha:isL mn mx st a=true) (h0:a≠0) (ha0:0≤a) (hw:0≤want):(if lI mn mx st want=0 then 0 else min (lI mn mx st want) (a+st))=lI mn mx st (min want (a+st)):=by
 have hc':=hc
 unfold uP at hc'
 have hla:=ug.1 ha
 by_cases h1:want≤a+st
 ·rw [show min want (a+st)=want by omega]
  have:=HY hc hw
  split<;>omega
 ·rw [show min want (a+st)=a+st by omega]
  have hge:a≤lI mn mx st want:=mF hc ha (by omega)
  rw [if_neg (by omega)]
  by_cases h2:a+st≤mx
  ·have hl:=ao3 ha h0 h2 (by omega)
   rw [Sv hc hl (by omega)]
   have:=mF hc hl (show a+st≤want by omega)
   omega
  ·have m1:=adW (a:=want) hc
   have g1:=mF hc (zL (a:=want) hc) (show lI mn mx st want≤a+st by omega)
   have g2:=Sz hc (show 0≤a+st by omega) (show a+st≤want by omega)
   omega
theorem anN {ph mn mx st fb a s want most:Int}(hk:okB ph mn mx st fb a s want=true) (hm:most=if a=0 then mn else a+st):
  isL mn mx st (nA ph mn mx st fb a s want)=true∧nA ph mn mx st fb a s want≤want∧nA ph mn mx st fb a s want≤most∧(nA ph mn mx st fb a s want=lI mn mx st (min want most)∨(a=0∧s<5∧nA ph mn mx st fb a s want=0))∧(a≠0∨5≤s∨nA ph mn mx st fb a s want=0):=by
 obtain ⟨hc,h1,h2,h3,h4,h5,h6,h7,h8,h9⟩:=RV hk
 have hc':=hc
 unfold uP at hc'
 rw [aqU hk]
 have lw:=HY hc h3
 by_cases h0:a=0
 ·rw [if_pos h0] at hm⊢
  by_cases hh:lI mn mx st want≠0∧5≤s
  ·rw [if_pos hh]
   have hw:mn≤want:=by
    apply Classical.byContradiction
    intro hn
    exact hh.1 (by rw [lI,if_pos (by omega)])
   refine ⟨ah7 hc,hw,by omega,.inl ?_,.inr (.inl hh.2)⟩
   rw [hm,show min want mn=mn by omega,Sv hc (ah7 hc) (by omega)]
  ·rw [if_neg hh]
   refine ⟨by simp [isL],h3,by omega,?_,.inr (.inr rfl)⟩
   by_cases hs:s<5
   ·exact .inr ⟨h0,hs,rfl⟩
   ·left
    have h10:lI mn mx st want=0:=by
     apply Classical.byContradiction
     intro hn
     exact hh ⟨hn,by omega⟩
    have:=Sz hc (show 0≤min want most by omega) (show min want most≤want by omega)
    have:=(ql (a:=min want most) hc'.1 hc'.2.1 hc'.2.2.1 hc'.2.2.2.1).1
    omega
 ·rw [if_neg h0] at hm⊢
  rw [anh hc h7 h0 h5 h3]
  have:=HY hc (show 0≤min want (a+st) by omega)
  exact ⟨zL hc,by omega,by omega,.inl (by rw [hm]),.inl h0⟩
theorem V9 {ph mn mx st fb a s want:Int}(hk:okB ph mn mx st fb a s want=true):
  0≤nA ph mn mx st fb a s want∧(0≤nS ph mn mx st fb a s want∧nS ph mn mx st fb a s want≤1000000∧nS ph mn mx st fb a s want≤s+1)∧(a=0→nA ph mn mx st fb a s want≠0→5≤s)∧(a≠0→nA ph mn mx st fb a s want=0→nS ph mn mx st fb a s want=0)∧
  (¬((nA ph mn mx st fb a s want=0)↔(a=0))→nS ph mn mx st fb a s want=0)∧(((nA ph mn mx st fb a s want=0)↔(a=0))→nS ph mn mx st fb a s want=min (s+1) 1000000):=by
 obtain ⟨hc,h1,h2,h3,h4,h5,h6,h7,h8,h9⟩:=RV hk
 have hc':=hc
 unfold uP at hc'
 have hb:=(ql (a:=want) hc'.1 hc'.2.1 hc'.2.2.1 hc'.2.2.2.1).1
 rw [aqU hk,aAl hk]
 by_cases h0:a=0
 ·simp only [if_pos h0]
  by_cases hh:lI mn mx st want≠0∧5≤s
  ·simp only [if_pos hh];exact ⟨by omega,⟨by omega,by omega,by omega⟩,fun _ _=>by omega,fun _ _=>by omega,fun _=>trivial,fun h=>absurd (h.2 h0) (by omega)⟩
  ·simp only [if_neg hh];exact ⟨by omega,⟨by omega,by omega,by omega⟩,fun _ _=>by omega,fun _ _=>by omega,fun h=>absurd ⟨fun _=>h0,fun _=>trivial⟩ h,fun _=>trivial⟩
 ·simp only [if_neg h0]
  by_cases hh:lI mn mx st want=0
  ·simp only [if_pos hh];exact ⟨by omega,⟨by omega,by omega,by omega⟩,fun _ _=>by omega,fun _ _=>by omega,fun _=>trivial,fun h=>absurd (h.1 trivial) h0⟩
  ·simp only [if_neg hh];exact ⟨by omega,⟨by omega,by omega,by omega⟩,fun _ _=>by omega,fun _ _=>by omega,fun h=>absurd ⟨fun e=>by omega,fun e=>absurd e h0⟩ h,fun _=>trivial⟩
end Go.Proofs.YtlihnbimgclogaaGreatDoor
namespace Go.Proofs.YtlihnbimgclogaaGreatDoor
open Go.Sx
structure kT where
 rs:List Ra
 tick:Int
 n:Int
 t15:Int
 offers:List Int
 m:List Ch
 k:Int
 i:Int
 Xm:List Cd
 c1:List ByteArray
 c2:List Ko
 c3:List Ch
 c4:List Ba
 jy:List Le
 Dk:List Dm
 uF:Int
 PW:List Int
 dQ:List Int
 next:List Ra
 cZ:List Le
def aDM (s:kT):List LV:=[.xl Fg s.rs,.v (.int .i64 s.tick),.v (.int .i64 s.n),.v (.slice none 0 0),.v (.slice none 0 0),.v (.slice none 0 0),.v (.int .i64 s.t15),.own 0 0,.xl (.int .i64) s.offers,.os 1 1 0 (List.length s.dQ),.os 2 2 0 (List.length s.next),.os 3 5 0 (List.length s.cZ),.xl dS s.m,.v (.int .i64 s.k),.v (.int .i64 s.i)]
def aCL (s:kT):List aU:=[⟨[.xl dX s.Xm,.xl .str s.c1,.xl dY s.c2,.xl dS s.c3,.xl dZ s.c4,.xl ng s.jy,.xl qG s.Dk,.v (.int .i64 s.uF),.xl (.int .i64) s.PW],75,.cl,true⟩,⟨[],3,.vec (.int .i64) s.dQ,false⟩,⟨[],53,.vec Fg s.next,false⟩,⟨[],63,.vec ng s.cZ,false⟩]
noncomputable def BH:Code:=((aC (Tryz.f14.body.getD .skip))[0]?).getD .skip
def Ns (s:kT) (e:Int) (w:Bool) (x:Int) (y:Int):T (Rd kT):=
 .br (decide (s.i<s.k)) (.req (0≤s.i∧s.i<(List.length s.m:Int)) (.req (0≤s.i∧s.i<(List.length s.rs:Int)) (.req (0≤s.i∧s.i<(List.length s.offers:Int)) (.br (e !=0) (.rl s.dQ (.rl s.next (.rl s.cZ (.ok (.stop (.ret) {s with t15:=(1:Int)}))))) (.req (0≤s.i∧s.i<((List.length s.dQ:Nat):Int)) (.req (s.i.toNat<List.length s.dQ) (.req (0≤s.i∧s.i<((List.length s.next:Nat):Int)) (.req (s.i.toNat<List.length s.next) (.req ((0≤s.i∧s.i<(List.length s.c3:Int))∧(List.length s.jy:Int)≤1000∧0≤s.uF∧s.uF≤1000000) (.br w (.req (0+(List.length s.cZ)=List.length s.cZ∧((List.length s.cZ+List.length ([(s.n,(s.i,(x,(s.tick,(12:Int)))))]):Nat):Int)*40≤2^47∧((List.length s.cZ+List.length ([(s.n,(s.i,(x,(s.tick,(12:Int)))))]):Nat):Int)<2^62) (.req (0=0∧(List.length s.dQ)=List.length (s.dQ.set s.i.toNat x)) (.req (0=0∧(List.length s.next)=List.length (s.next.set s.i.toNat (x,y))) (.req (0=0∧(List.length s.cZ+List.length ([(s.n,(s.i,(x,(s.tick,(12:Int)))))]))=List.length (s.cZ++([(s.n,(s.i,(x,(s.tick,(12:Int)))))]))) (.ok (.next {s with n:=(IntKind.i64.wrap (s.n+1)),i:=(IntKind.i64.wrap (s.i+1)),dQ:=(s.dQ.set s.i.toNat x),next:=(s.next.set s.i.toNat (x,y)),cZ:=(s.cZ++([(s.n,(s.i,(x,(s.tick,(12:Int)))))]))})))))) (.req (0=0∧(List.length s.dQ)=List.length (s.dQ.set s.i.toNat x)) (.req (0=0∧(List.length s.next)=List.length (s.next.set s.i.toNat (x,y))) (.rl s.cZ (.ok (.next {s with i:=(IntKind.i64.wrap (s.i+1)),dQ:=(s.dQ.set s.i.toNat x),next:=(s.next.set s.i.toNat (x,y))}))))))))))))))) (.rl s.dQ (.rl s.next (.rl s.cZ (.ok (.stop (.exit 0) s)))))
abbrev Zi (s:kT):=Ns s (nE (bC s.m s.i).2.2.1 (bC s.m s.i).2.2.2.1 (bC s.m s.i).2.2.2.2.1 (bC s.m s.i).2.2.2.2.2.1 (bC s.m s.i).2.2.2.2.2.2.1 (kJ s.rs s.i).1 (kJ s.rs s.i).2 (gi s.offers s.i)) (nwB s.c3 s.jy s.uF s.i (nA (bC s.m s.i).2.2.1 (bC s.m s.i).2.2.2.1 (bC s.m s.i).2.2.2.2.1 (bC s.m s.i).2.2.2.2.2.1 (bC s.m s.i).2.2.2.2.2.2.1 (kJ s.rs s.i).1 (kJ s.rs s.i).2 (gi s.offers s.i))) (nA (bC s.m s.i).2.2.1 (bC s.m s.i).2.2.2.1 (bC s.m s.i).2.2.2.2.1 (bC s.m s.i).2.2.2.2.2.1 (bC s.m s.i).2.2.2.2.2.2.1 (kJ s.rs s.i).1 (kJ s.rs s.i).2 (gi s.offers s.i)) (nS (bC s.m s.i).2.2.1 (bC s.m s.i).2.2.2.1 (bC s.m s.i).2.2.2.2.1 (bC s.m s.i).2.2.2.2.2.1 (bC s.m s.i).2.2.2.2.2.2.1 (kJ s.rs s.i).1 (kJ s.rs s.i).2 (gi s.offers s.i))
abbrev ai8 (s:kT):=(Zi s).rd s
def UZ (s:kT):Prop:=s.i=0∧s.cZ=[]∧(s.k=(List.length s.m:Int)∧s.k≤16)∧(s.c3=s.m∧s.uF=s.tick)∧((List.length s.jy:Int)≤1000∧0≤s.tick∧s.tick≤1000000)∧(s.rs.length=s.m.length∧s.offers.length=s.m.length∧s.dQ.length=s.m.length∧s.next.length=s.m.length)∧dcK s.m s.rs s.offers∧1≤s.n-(List.length s.cZ:Int)∧s.n-(List.length s.cZ:Int)≤999900
def Ea (s:kT):Prop:=(0≤s.i∧s.i≤s.k)∧(∀j,0≤j→j<s.i→gi s.dQ j=nxA (bC s.m j) (kJ s.rs j) (gi s.offers j)∧kJ s.next j=(nxA (bC s.m j) (kJ s.rs j) (gi s.offers j),nxS (bC s.m j) (kJ s.rs j) (gi s.offers j)))∧s.cZ=dcL s.m s.jy s.tick (s.n-(List.length s.cZ:Int)) (PS s.m s.rs s.offers s.m.length) s.i.toNat∧(s.k=(List.length s.m:Int)∧s.k≤16)∧(s.c3=s.m∧s.uF=s.tick)∧((List.length s.jy:Int)≤1000∧0≤s.tick∧s.tick≤1000000)∧(s.rs.length=s.m.length∧s.offers.length=s.m.length∧s.dQ.length=s.m.length∧s.next.length=s.m.length)∧dcK s.m s.rs s.offers∧1≤s.n-(List.length s.cZ:Int)∧s.n-(List.length s.cZ:Int)≤999900
def yM (s:kT):Nat:=(s.k-s.i).toNat
def ac4 (x:Ex) (_ s':kT):Prop:=x=.exit 0∧s'.dQ=PS s'.m s'.rs s'.offers s'.m.length∧s'.next=dcR s'.m s'.rs s'.offers s'.m.length∧s'.cZ=dcL s'.m s'.jy s'.tick (s'.n-(List.length s'.cZ:Int)) (PS s'.m s'.rs s'.offers s'.m.length) s'.m.length
theorem aBu:∀s,UZ s→Ea s:=by
 intro s h
 obtain ⟨h0,h1,h2⟩:=h
 exact ⟨by omega,fun j j0 j1=>by omega,by rw [h0,h1];rfl,h2⟩
theorem ap4 (s:kT) (hI:Ea s) (e:Int) (w:Bool) (x:Int) (y:Int) (he:nE (bC s.m s.i).2.2.1 (bC s.m s.i).2.2.2.1 (bC s.m s.i).2.2.2.2.1 (bC s.m s.i).2.2.2.2.2.1 (bC s.m s.i).2.2.2.2.2.2.1 (kJ s.rs s.i).1 (kJ s.rs s.i).2 (gi s.offers s.i)=e) (hw:nwB s.c3 s.jy s.uF s.i (nA (bC s.m s.i).2.2.1 (bC s.m s.i).2.2.2.1 (bC s.m s.i).2.2.2.2.1 (bC s.m s.i).2.2.2.2.2.1 (bC s.m s.i).2.2.2.2.2.2.1 (kJ s.rs s.i).1 (kJ s.rs s.i).2 (gi s.offers s.i))=w) (hx:nA (bC s.m s.i).2.2.1 (bC s.m s.i).2.2.2.1 (bC s.m s.i).2.2.2.2.1 (bC s.m s.i).2.2.2.2.2.1 (bC s.m s.i).2.2.2.2.2.2.1 (kJ s.rs s.i).1 (kJ s.rs s.i).2 (gi s.offers s.i)=x) (hy:nS (bC s.m s.i).2.2.1 (bC s.m s.i).2.2.2.1 (bC s.m s.i).2.2.2.2.1 (bC s.m s.i).2.2.2.2.2.1 (bC s.m s.i).2.2.2.2.2.2.1 (kJ s.rs s.i).1 (kJ s.rs s.i).2 (gi s.offers s.i)=y):bJ (fun s'=>Ea s'∧yM s'<yM s) (fun x s'=>ac4 x s s') ((Ns s e w x y).rd s):=by
 unfold Ns
 dsimp only [T.rd,T.rl]
 obtain ⟨⟨h0,h1⟩,hA,hL,⟨h2,h3⟩,⟨h4,h5⟩,h6,⟨h7,h8,h9,h10⟩,hk,h11⟩:=hI
 have hll:s.cZ.length≤s.i.toNat:=(by rw [hL];exact FV)
 refine au (fun c1=>?_) (fun c1=>?_)
 ·refine au (fun c2=>?_) (fun c2=>?_)
  ·have c1:s.i<s.k:=by simpa using c1
   have hm:s.i<(s.m.length:Int):=by omega
   exact absurd (he.symm.trans (aAm (hk s.i h0 hm))) (by simpa using c2)
  ·refine au (fun c3=>?_) (fun c3=>?_)
   ·have c1:s.i<s.k:=by simpa using c1
    have hm:s.i<(s.m.length:Int):=by omega
    have hx':nxA (bC s.m s.i) (kJ s.rs s.i) (gi s.offers s.i)=x:=hx
    have hy':nxS (bC s.m s.i) (kJ s.rs s.i) (gi s.offers s.i)=y:=hy
    have hA':∀j,0≤j→j<s.i+1→gi (s.dQ.set s.i.toNat x) j=nxA (bC s.m j) (kJ s.rs j) (gi s.offers j)∧kJ (s.next.set s.i.toNat (x,y)) j=(nxA (bC s.m j) (kJ s.rs j) (gi s.offers j),nxS (bC s.m j) (kJ s.rs j) (gi s.offers j)):=fun j j0 j1=>by
     rw [oZ h0 (by omega) j0,aaG h0 (by omega) j0]
     by_cases e:j=s.i
     ·subst e
      rw [if_pos rfl,if_pos rfl,hx',hy']
      exact ⟨rfl,rfl⟩
     ·rw [if_neg e,if_neg e]
      exact hA j j0 (by omega)
    have hs:s.i.toNat+1=(s.i+1).toNat:=by omega
    have hg:gi (PS s.m s.rs s.offers s.m.length) (s.i.toNat:Nat)=x:=by rw [Int.toNat_of_nonneg h0,PS,jF h0 hm,hx']
    have hw':nwB s.m s.jy s.tick (s.i.toNat:Nat) x=w:=by rw [Int.toNat_of_nonneg h0,←hw,h4,h5];rw [←hx]
    rw [aK (x:=s.i+1) (by omega) (by omega),aK (x:=s.n+1) (by omega) (by omega)]
    have hn:s.n+1-((List.length (s.cZ++[(s.n,s.i,x,s.tick,12)]):Nat):Int)=s.n-(List.length s.cZ:Int):=by
     rw [List.length_append]
     show s.n+1-((s.cZ.length+1:Nat):Int)=_
     omega
    refine ⟨⟨⟨by simp only;omega,by simp only;omega⟩,hA',?_,⟨h2,h3⟩,⟨h4,h5⟩,h6,⟨h7,h8,by simp only [List.length_set];exact h9,by simp only [List.length_set];exact h10⟩,hk,by simp only;rw [hn];exact h11⟩,by simp only [yM];omega⟩
    simp only
    rw [hn,←hs,dcL,←hL,hg,hw',c3,if_pos rfl,Int.toNat_of_nonneg h0,show s.n-(List.length s.cZ:Int)+(List.length s.cZ:Int)=s.n by omega]
   ·have c1:s.i<s.k:=by simpa using c1
    have hm:s.i<(s.m.length:Int):=by omega
    have hx':nxA (bC s.m s.i) (kJ s.rs s.i) (gi s.offers s.i)=x:=hx
    have hy':nxS (bC s.m s.i) (kJ s.rs s.i) (gi s.offers s.i)=y:=hy
    have hA':∀j,0≤j→j<s.i+1→gi (s.dQ.set s.i.toNat x) j=nxA (bC s.m j) (kJ s.rs j) (gi s.offers j)∧kJ (s.next.set s.i.toNat (x,y)) j=(nxA (bC s.m j) (kJ s.rs j) (gi s.offers j),nxS (bC s.m j) (kJ s.rs j) (gi s.offers j)):=fun j j0 j1=>by
     rw [oZ h0 (by omega) j0,aaG h0 (by omega) j0]
     by_cases e:j=s.i
     ·subst e
      rw [if_pos rfl,if_pos rfl,hx',hy']
      exact ⟨rfl,rfl⟩
     ·rw [if_neg e,if_neg e]
      exact hA j j0 (by omega)
    have hs:s.i.toNat+1=(s.i+1).toNat:=by omega
    have hg:gi (PS s.m s.rs s.offers s.m.length) (s.i.toNat:Nat)=x:=by rw [Int.toNat_of_nonneg h0,PS,jF h0 hm,hx']
    have hw':nwB s.m s.jy s.tick (s.i.toNat:Nat) x=w:=by rw [Int.toNat_of_nonneg h0,←hw,h4,h5];rw [←hx]
    rw [aK (x:=s.i+1) (by omega) (by omega)]
    refine ⟨⟨⟨by simp only;omega,by simp only;omega⟩,hA',?_,⟨h2,h3⟩,⟨h4,h5⟩,h6,⟨h7,h8,by simp only [List.length_set];exact h9,by simp only [List.length_set];exact h10⟩,hk,h11⟩,by simp only [yM];omega⟩
    simp only
    rw [←hs,dcL,←hL,hg,hw',c3,if_neg (by decide),List.append_nil]
 ·have c1:s.k≤s.i:=by simpa using c1
  have hi:s.i.toNat=s.m.length:=by omega
  refine ⟨rfl,vZ (by rw [h9];exact bW.symm) fun j j0 j1=>?_,apa (by rw [h10,FU]) fun j j0 j1=>?_,by have hL':=hL;rw [hi] at hL';exact hL'⟩
  ·rw [PS,bW] at j1
   rw [PS,jF j0 j1]
   exact (hA j j0 (by omega)).1
  ·rw [FU] at j1
   rw [ajl j0 j1]
   exact (hA j j0 (by omega)).2
theorem axo (s:kT) (hI:Ea s):bJ (fun s'=>Ea s'∧yM s'<yM s) (fun x s'=>ac4 x s s') (ai8 s):=ap4 s hI _ _ _ _ rfl rfl rfl rfl
def EZ:bK kT:=⟨0,108,[2,4,5,12,13,14,15,16,17,19,20,21,57,58,59],[.nl 21 63 ng],aDM,aCL,fun v b=>⟨aQ Fg (v.getD 0 .junk),gI (v.getD 1 .junk),gI (v.getD 2 .junk),gI (v.getD 6 .junk),aQ (.int .i64) (v.getD 8 .junk),aQ dS (v.getD 12 .junk),gI (v.getD 13 .junk),gI (v.getD 14 .junk),aQ dX (aX (aO b 0) 0),aQ .str (aX (aO b 0) 1),aQ dY (aX (aO b 0) 2),aQ dS (aX (aO b 0) 3),aQ dZ (aX (aO b 0) 4),aQ ng (aX (aO b 0) 5),aQ qG (aX (aO b 0) 6),gI (aX (aO b 0) 7),aQ (.int .i64) (aX (aO b 0) 8),iT (.int .i64) (aO b 1),iT Fg (aO b 2),iT ng (aO b 3)⟩,Zi,fun s r=> {r with rs:=s.rs,tick:=s.tick,offers:=s.offers,m:=s.m,k:=s.k,Xm:=s.Xm,c1:=s.c1,c2:=s.c2,c3:=s.c3,c4:=s.c4,jy:=s.jy,Dk:=s.Dk,uF:=s.uF,PW:=s.PW},fun s=>s,fun _ s=>s,[.ret,.exit 0],UZ,Ea,yM⟩
abbrev gu:=EZ.run
abbrev PK:=EZ.jJ
abbrev ayG:=EZ.q
theorem avn (s:kT) (hI:Ea s):(Zi s).all (fun _=>True):=by
 refine ⟨fun c1=>⟨?_,?_,?_,fun c2=>⟨⟨rfl,rfl⟩,⟨rfl,rfl⟩,⟨rfl,rfl⟩,trivial⟩,fun c2=>⟨?_,?_,?_,?_,?_,fun c3=>⟨?_,?_,?_,?_,trivial⟩,fun c3=>⟨?_,?_,⟨rfl,rfl⟩,trivial⟩⟩⟩,fun c1=>⟨⟨rfl,rfl⟩,⟨rfl,rfl⟩,⟨rfl,rfl⟩,trivial⟩⟩
 all_goals ((obtain ⟨⟨h0,h1⟩,hA,hL,⟨h2,h3⟩,⟨h4,h5⟩,h6,⟨h7,h8,h9,h10⟩,hk,h11⟩:=hI;have hll:s.cZ.length≤s.i.toNat:=(by rw [hL];exact FV);(try simp only [decide_eq_true_eq] at c1);have hl3:s.c3.length=s.m.length:=congrArg List.length h4;first|omega|exact ⟨rfl,by simp⟩ |(refine ⟨by omega,?_,?_⟩<;>simp only [List.length_cons,List.length_nil]<;>omega)))
noncomputable def aiK:Specs:=aZ [(19,y7),(35,Yg),(36,Yi),(37,X3),(38,Yj)]
theorem ars:∀g S,aiK g=some S→Valid Tryz.prog aP g S:=aS (l:=[(19,y7),(35,Yg),(36,Yi),(37,X3),(38,Yj)]) ⟨Vg,atL,atN,atx,atO,trivial⟩
theorem V7:EZ.Ok:=⟨fun s=>by kernel_rfl,fun s=>by kernel_rfl,fun s=>rfl,fun s t r=>rfl,fun s=>rfl,fun s=>by kernel_rfl⟩
theorem VL:EZ.Pf (ac4):=⟨aBu,fun _ _=>rfl,axo,avn⟩
theorem amB:bg Tryz.prog aP (AN 0) (.loop BH) EZ.lp:=bK.snd V7 VL (aT (Γ:=aiK) (K:=eu) (L:=aB) ars aF BH (fun b hb=>by rw [show aC BH=[] by kernel_rfl] at hb;cases hb)) (fun s=>by kernel_rfl)
theorem ap3 (s:kT) (hE:UZ s):∃s',Ea s'∧ac4 (PK s) s' (gu s):=bK.fin V7 VL s hE
theorem ap2 (s:kT) (hE:UZ s):(fun (_:Ex) (s':kT) (v:Int)=>s'.n-(List.length s'.cZ:Int)=v) (PK s) (gu s) ((fun s:kT=>s.n-(List.length s.cZ:Int)) s):=by
 exact bK.uy V7 VL (fun s:kT=>s.n-(List.length s.cZ:Int)) (fun x s' v=>s'.n-(List.length s'.cZ:Int)=v) (fun s hI=>by
  show bJ _ _ (ai8 s)
  unfold ai8 Zi Ns
  dsimp only [T.rd,T.rl]
  obtain ⟨⟨h0,h1⟩,hA,hL,⟨h2,h3⟩,⟨h4,h5⟩,h6,⟨h7,h8,h9,h10⟩,hk,h11⟩:=hI
  have hll:s.cZ.length≤s.i.toNat:=(by rw [hL];exact FV)
  refine au (fun c1=>?_) (fun c1=>?_)
  ·refine au (fun c2=>?_) (fun c2=>?_)
   ·rfl
   ·refine au (fun c3=>?_) (fun c3=>?_)
    ·have c1:s.i<s.k:=by simpa using c1
     rw [aK (x:=s.n+1) (by omega) (by omega)]
     show s.n+1-((List.length (s.cZ++[_]):Nat):Int)=s.n-(List.length s.cZ:Int)
     rw [List.length_append]
     show s.n+1-((s.cZ.length+1:Nat):Int)=_
     omega
    ·rfl
  ·rfl) s hE
def acQ:List LV→T LV
 | [.agg [.xl (.pair .str (.pair (.int .i64) (.pair (.int .i64) (.pair (.int .i64) (.pair (.pair (.int .i64) (.int .i64)) (.pair (.int .i64) (.pair (.int .i64) (.pair (.int .i64) (.pair (.int .i64) (.int .i64)))))))))) cs,.xl (.str) os,.xl (.pair .str (.pair (.int .i64) (.pair (.int .i64) (.int .i64)))) ks,.xl (.pair .str (.pair (.int .i64) (.pair (.int .i64) (.pair (.int .i64) (.pair (.int .i64) (.pair (.int .i64) (.pair (.int .i64) (.int .i64)))))))) gs,.xl (.pair .str (.int .i64)) bs],.xl (.pair (.int .i64) (.pair (.int .i64) (.pair (.int .i64) (.pair (.int .i64) (.int .i64))))) l,.xl (.pair (.int .i64) (.int .i64)) rs,.xl (.pair .bool (.pair (.int .i64) (.pair (.int .i64) (.int .i64)))) d,.v (.int .i64 t),.v (.int .i64 n)]=> .req (xQ d t∧d.length≤19) (.ok (.iF [.xl (.int .i64) (IE cs os ks gs bs l rs d t n),.xl Fg (Xg cs os ks gs bs l rs d t n),.xl ng (deL cs os ks gs bs l rs d t n),.v (.int .i64 (deE cs os ks gs bs l rs d t n))]))
 |_=> .no
noncomputable def Jd:List LV→T LV:=gB Tryz.prog Tryz.f14.params.toList acQ
def eG (cs:List Cd) (os:List ByteArray) (ks:List Ko) (gs:List Ch) (bs:List Ba) (l:List Le) (rs:List Ra) (d:List Dm) (t n:Int):kT:=(⟨rs,t,n,(0:Int),(NP cs os ks gs bs l d t (jI d t)),gs,(List.length gs:Int),(0:Int),cs,os,ks,gs,bs,l,d,t,(jI d t),(List.replicate (List.length (NP cs os ks gs bs l d t (jI d t)):Int).toNat (0:Int)),(List.replicate (List.length (NP cs os ks gs bs l d t (jI d t)):Int).toNat ((0:Int),(0:Int))),([]:List Le)⟩:kT)
theorem aoF (cs:List Cd) (os:List ByteArray) (ks:List Ko) (gs:List Ch) (bs:List Ba) (l:List Le) (rs:List Ra) (d:List Dm) (t n:Int):bT Tryz.prog aP (aiK) eu (fun i=>if i=11 then EZ.lp else aB i) Tryz.f14 [.agg [.xl dX cs,.xl .str os,.xl dY ks,.xl dS gs,.xl dZ bs],.xl ng l,.xl Fg rs,.xl qG d,.v (.int .i64 t),.v (.int .i64 n)]=.req (xQ d t∧d.length≤19) (.br (!(Gf cs os ks gs bs l rs d t n)) (.ok (.iF [.xl (.int .i64) ([]:List Int),.xl Fg ([]:List Ra),.xl ng ([]:List Le),.v (.int .i64 1)])) (.req (d.length=gs.length∧qH cs os ks gs bs (mO gs) (oU gs d) (jI d t)=true∧Dp l (List.length gs:Int) t=true∧qH cs os ks gs bs (xX gs l t) (wS cs os ks gs bs (mO gs) (oU gs d) (jI d t)) (jI d t)=true) (.br ((0:Int) !=0) (.ok (.iF [.xl (.int .i64) ([]:List Int),.xl Fg ([]:List Ra),.xl ng ([]:List Le),.v (.int .i64 1)])) (.req (0≤(List.length (NP cs os ks gs bs l d t (jI d t)):Int)∧(List.length (NP cs os ks gs bs l d t (jI d t)):Int)≤(List.length (NP cs os ks gs bs l d t (jI d t)):Int)∧8*(List.length (NP cs os ks gs bs l d t (jI d t)):Int)≤2^48∧(List.length (NP cs os ks gs bs l d t (jI d t)):Int)<2^63) (.req (0≤(List.length (NP cs os ks gs bs l d t (jI d t)):Int)∧(List.length (NP cs os ks gs bs l d t (jI d t)):Int)≤(List.length (NP cs os ks gs bs l d t (jI d t)):Int)∧16*(List.length (NP cs os ks gs bs l d t (jI d t)):Int)≤2^48∧(List.length (NP cs os ks gs bs l d t (jI d t)):Int)<2^63) (.req (0=0∧(List.length (NP cs os ks gs bs l d t (jI d t)):Int).toNat=List.length (List.replicate (List.length (NP cs os ks gs bs l d t (jI d t)):Int).toNat (0:Int))) (.req (0=0∧(List.length (NP cs os ks gs bs l d t (jI d t)):Int).toNat=List.length (List.replicate (List.length (NP cs os ks gs bs l d t (jI d t)):Int).toNat ((0:Int),(0:Int)))) (.req (0=0∧0=List.length ([]:List Le)) (.req (ayG (eG cs os ks gs bs l rs d t n)) (.br (iy (PK (eG cs os ks gs bs l rs d t n)) (.ret)) (.ok (.iF [.xl (.int .i64) ([]:List Int),.xl Fg ([]:List Ra),.xl ng ([]:List Le),.v (.int .i64 (gu (eG cs os ks gs bs l rs d t n)).t15)])) (.req (0+(List.length (gu (eG cs os ks gs bs l rs d t n)).dQ)≤List.length (gu (eG cs os ks gs bs l rs d t n)).dQ) (.req (0+(List.length (gu (eG cs os ks gs bs l rs d t n)).next)≤List.length (gu (eG cs os ks gs bs l rs d t n)).next) (.req (0+(List.length (gu (eG cs os ks gs bs l rs d t n)).cZ)≤List.length (gu (eG cs os ks gs bs l rs d t n)).cZ) (.ok (.iF [.xl (.int .i64) (((gu (eG cs os ks gs bs l rs d t n)).dQ.drop 0).take (List.length (gu (eG cs os ks gs bs l rs d t n)).dQ)),.xl Fg (((gu (eG cs os ks gs bs l rs d t n)).next.drop 0).take (List.length (gu (eG cs os ks gs bs l rs d t n)).next)),.xl ng (((gu (eG cs os ks gs bs l rs d t n)).cZ.drop 0).take (List.length (gu (eG cs os ks gs bs l rs d t n)).cZ)),.v (.int .i64 0)]))))))))))))))):=by kernel_rfl
theorem aeR:Valid Tryz.prog aP 14 Jd:=aH Tryz.func14 rfl ars aF (L:=(fun i=>if i=11 then EZ.lp else aB i)) (fun b hb=>by
 rw [show aC _=[BH] by kernel_rfl] at hb
 simp only [List.mem_cons,List.not_mem_nil,or_false] at hb
 subst hb
 exact amB) (fun args lv h=>by
 unfold acQ at h
 split at h
 ·simp only [canL,canX]
  rw [aoF]
  rename_i cs os ks gs bs l rs d t n
  obtain ⟨hw,rfl⟩:=h
  refine ⟨hw,fun c=>?_,fun c=>?_⟩
  ·unfold IE Xg deL deE
   rw [ntW c]
   rfl
  have c:=NS c
  have V:=aqt c
  have ol:(NP cs os ks gs bs l d t (jI d t)).length=gs.length:=(aqS V).1
  have hE:UZ (eG cs os ks gs bs l rs d t n):=⟨rfl,rfl,⟨rfl,by have:=V.gl;show (gs.length:Int)≤16;omega⟩,⟨rfl,rfl⟩,⟨by have:=(vT V.les).1;show (l.length:Int)≤1000;omega,V.tb⟩,⟨V.rl,ol,by show (List.replicate _ (0:Int)).length=gs.length;rw [List.length_replicate];omega,by show (List.replicate _ ((0:Int),(0:Int))).length=gs.length;rw [List.length_replicate];omega⟩,ajk V,by have:=V.nb;show 1≤n-(0:Int);omega,by have:=V.nb;show n-(0:Int)≤999900;omega⟩
  obtain ⟨_,_,q1,q2,q3,q4⟩:=ap3 _ hE
  have hn:=ap2 _ hE
  have hn:(gu (eG cs os ks gs bs l rs d t n)).n-((gu (eG cs os ks gs bs l rs d t n)).cZ.length:Int)=n:=hn.trans (Int.sub_zero n)
  have q2:(gu (eG cs os ks gs bs l rs d t n)).dQ=IE cs os ks gs bs l rs d t n:=q2.trans (by unfold IE;rw [if_pos c];rfl)
  have q3:(gu (eG cs os ks gs bs l rs d t n)).next=Xg cs os ks gs bs l rs d t n:=q3.trans (by unfold Xg;rw [if_pos c];rfl)
  rw [hn] at q4
  have q4:(gu (eG cs os ks gs bs l rs d t n)).cZ=deL cs os ks gs bs l rs d t n:=q4.trans (by unfold deL;rw [if_pos c];rfl)
  have gl:=V.gl
  refine ⟨⟨V.dl,YJ V.si,abN V,ZW V⟩,fun c2=>absurd c2 (by decide),fun _=>?_⟩
  refine ⟨by rw [ol];omega,by rw [ol];omega,⟨rfl,by simp⟩,⟨rfl,by simp⟩,⟨rfl,rfl⟩,⟨hE,rfl,rfl⟩,?_⟩
  rw [q1]
  refine ⟨fun h=>(by cases h),fun _=>⟨by omega,by omega,by omega,?_⟩⟩
  show LV.iF [LV.xl _ _,LV.xl _ _,LV.xl _ _,_]=_
  rw [List.drop_zero,List.take_length,List.drop_zero,List.take_length,List.drop_zero,List.take_length,q2,q3,q4]
  unfold deE
  rw [if_pos c]
 ·cases h)
end Go.Proofs.YtlihnbimgclogaaGreatDoor
namespace Go.Proofs.YtlihnbimgclogaaGreatDoor
open Go.Sx
structure lN where
 al:List Int
 am:List Int
 sum:Int
 none:Bool
 i:Int
 cap:Int
 ms:List Int
def aC7 (s:lN):List LV:=[.xl (.int .i64) s.al,.xl (.int .i64) s.am,.own 0 0,.v (.int .i64 s.sum),.v (.bool s.none),.v (.int .i64 s.i)]
def aB6 (s:lN):List aU:=[⟨[.v (.int .i64 s.cap),.xl (.int .i64) s.ms],107,.cl,false⟩]
noncomputable def AA:Code:=((aC (Tryz.f59.body.getD .skip))[0]?).getD .skip
def QA (s:lN):T (Rd lN):=
 .br (decide (s.i<(List.length s.ms:Int))) (.req (0≤s.i∧s.i<(List.length s.ms:Int)) (.req (0≤(gi s.ms s.i)∧(gi s.ms s.i)<(List.length s.al:Int)) (.req (0≤(gi s.ms s.i)∧(gi s.ms s.i)<(List.length s.am:Int)) (.br s.none (.req (0≤(gi s.ms s.i)∧(gi s.ms s.i)<(List.length s.am:Int)) (.ok (.next {s with sum:=(IntKind.i64.wrap (s.sum+(if (gi s.al (gi s.ms s.i))<(gi s.am (gi s.ms s.i)) then (gi s.am (gi s.ms s.i)) else (gi s.al (gi s.ms s.i))))),none:=((gi s.am (gi s.ms s.i))==0),i:=(IntKind.i64.wrap (s.i+1))}))) (.ok (.next {s with sum:=(IntKind.i64.wrap (s.sum+(if (gi s.al (gi s.ms s.i))<(gi s.am (gi s.ms s.i)) then (gi s.am (gi s.ms s.i)) else (gi s.al (gi s.ms s.i))))),none:=false,i:=(IntKind.i64.wrap (s.i+1))})))))) (.ok (.stop (.exit 0) s))
abbrev aaM (s:lN):=(QA s).rd s
def akX (s:lN):Prop:=s.i=0∧s.sum=0∧Gu s.al s.am (s.cap,s.ms)
def LP (s:lN):Prop:=(0≤s.i∧s.i≤(List.length s.ms:Int))∧(0≤s.sum∧s.sum≤1000000*s.i)∧Gu s.al s.am (s.cap,s.ms)
def Oc (s:lN):Nat:=((List.length s.ms:Int)-s.i).toNat
def asG (_:Ex) (_ _:lN):Prop:=True
theorem azz:∀s,akX s→LP s:=by
 intro s h
 obtain ⟨h0,h1,h2⟩:=h
 exact ⟨by omega,by omega,h2⟩
theorem aqC (s:lN) (hI:LP s) (c1:s.i<(List.length s.ms:Int)):0≤mx (gi s.al (gi s.ms s.i)) (gi s.am (gi s.ms s.i))∧mx (gi s.al (gi s.ms s.i)) (gi s.am (gi s.ms s.i))≤1000000:=by
 obtain ⟨h0,h2,h3,h4,h5,h6⟩:=hI
 have hm:=h4 (gi s.ms s.i) (lq (by omega) c1)
 exact aAn (h5 _ (lq hm.1 hm.2.1)) (h6 _ (lq hm.1 hm.2.2))
theorem aur (s:lN) (hI:LP s):bJ (fun s'=>LP s'∧Oc s'<Oc s) (fun x s'=>asG x s s') (aaM s):=by
 unfold aaM QA
 dsimp only [T.rd,T.rl]
 have hm:=fun c1=>aqC s hI c1
 obtain ⟨⟨h0,h1⟩,⟨h2,h3⟩,h4⟩:=hI
 have hl:=h4.1
 simp only at hl
 refine au (fun c1=>?_) (fun c1=>trivial)
 have c1:s.i<(List.length s.ms:Int):=by simpa using c1
 obtain ⟨m1,m2⟩:=hm c1
 have e:(if (gi s.al (gi s.ms s.i))<(gi s.am (gi s.ms s.i)) then (gi s.am (gi s.ms s.i)) else (gi s.al (gi s.ms s.i)))=mx (gi s.al (gi s.ms s.i)) (gi s.am (gi s.ms s.i)):=rfl
 rw [e,aK (x:=s.i+1) (by omega) (by omega),aK (x:=s.sum+mx (gi s.al (gi s.ms s.i)) (gi s.am (gi s.ms s.i))) (by omega) (by omega)]
 refine au (fun c2=>?_) (fun c2=>?_)
 all_goals exact ⟨⟨⟨by simp only;omega,by simp only;omega⟩,⟨by simp only;omega,by simp only;omega⟩,h4⟩,by simp only [Oc];omega⟩
def En:bK lN:=⟨0,49,[1,2,3,7,8,9],[],aC7,aB6,fun v b=>⟨aQ (.int .i64) (v.getD 0 .junk),aQ (.int .i64) (v.getD 1 .junk),gI (v.getD 3 .junk),vg (v.getD 4 .junk),gI (v.getD 5 .junk),gI (aX (aO b 0) 0),aQ (.int .i64) (aX (aO b 0) 1)⟩,QA,fun s r=> {r with al:=s.al,am:=s.am,cap:=s.cap,ms:=s.ms},fun s=>s,fun _ s=>s,[.exit 0],akX,LP,Oc⟩
abbrev NE:=En.run
abbrev apo:=En.jJ
abbrev ax3:=En.q
theorem auI (s:lN) (hI:LP s):(QA s).all (fun _=>True):=by
 refine ⟨fun c1=>⟨?_,?_,?_,fun c2=>⟨?_,trivial⟩,fun _=>trivial⟩,fun _=>trivial⟩
 all_goals ((obtain ⟨h0,h2,h3,h4,h5⟩:=hI;simp only [decide_eq_true_eq] at c1;have hm:=h4 (gi s.ms s.i) (lq (by omega) c1);omega))
noncomputable def SS:Specs:=aZ []
theorem aay:∀g S,SS g=some S→Valid Tryz.prog aP g S:=aS (l:=[]) trivial
theorem agQ:En.Ok:=⟨fun s=>by kernel_rfl,fun s=>by kernel_rfl,fun s=>rfl,fun s t r=>rfl,fun s=>rfl,fun s=>by kernel_rfl⟩
theorem afH:En.Pf (asG):=⟨azz,fun _ _=>rfl,aur,auI⟩
theorem alX:bg Tryz.prog aP (AN 0) (.loop AA) En.lp:=bK.snd agQ afH (aT (Γ:=SS) (K:=eu) (L:=aB) aay aF AA (fun b hb=>by rw [show aC AA=[] by kernel_rfl] at hb;cases hb)) (fun s=>by kernel_rfl)
theorem amZ (s:lN) (hE:akX s):(fun (x:Ex) (s':lN) (v:Int×Bool)=>x=.exit 0∧(s'.sum,s'.none)=v) (apo s) (NE s) ((fun s:lN=>(s.sum+Rf s.al s.am (s.ms.drop s.i.toNat),s.none&&(s.ms.drop s.i.toNat).all (fun m=>gi s.am m==0))) s):=by
 exact bK.uy agQ afH (fun s:lN=>(s.sum+Rf s.al s.am (s.ms.drop s.i.toNat),s.none&&(s.ms.drop s.i.toNat).all (fun m=>gi s.am m==0))) (fun x s' v=>x=.exit 0∧(s'.sum,s'.none)=v) (fun s hI=>by
  show bJ _ _ (aaM s)
  unfold aaM QA
  dsimp only [T.rd,T.rl]
  have hm:=fun c1=>aqC s hI c1
  obtain ⟨⟨h0,h1⟩,⟨h2,h3⟩,h4⟩:=hI
  have hl:=h4.1
  simp only at hl
  refine au (fun c1=>?_) (fun c1=>?_)
  ·have c1:s.i<(List.length s.ms:Int):=by simpa using c1
   obtain ⟨m1,m2⟩:=hm c1
   have e:(if (gi s.al (gi s.ms s.i))<(gi s.am (gi s.ms s.i)) then (gi s.am (gi s.ms s.i)) else (gi s.al (gi s.ms s.i)))=mx (gi s.al (gi s.ms s.i)) (gi s.am (gi s.ms s.i)):=rfl
   rw [e,aK (x:=s.i+1) (by omega) (by omega),aK (x:=s.sum+mx (gi s.al (gi s.ms s.i)) (gi s.am (gi s.ms s.i))) (by omega) (by omega)]
   refine au (fun c2=>?_) (fun c2=>?_)
   ·show (_,_)=(_,_)
    simp only
    rw [(gi_step h0 c1).1,og,List.all_cons,c2,Bool.true_and]
    simp only [Prod.mk.injEq,and_true]
    omega
   ·show (_,_)=(_,_)
    simp only
    rw [(gi_step h0 c1).1,og,List.all_cons,c2]
    simp only [Bool.false_and,Prod.mk.injEq,and_true]
    omega
  ·have c1:(List.length s.ms:Int)≤s.i:=by simpa using c1
   refine ⟨rfl,?_⟩
   rw [List.drop_eq_nil_of_le (by omega)]
   simp [Rf]) s hE
def ab1:List LV→T LV
 | [.agg [.v (.int .i64 cap),.xl (.int .i64) ms],.xl (.int .i64) al,.xl (.int .i64) am]=> .req (Gu al am (cap,ms)) (.ok (.v (.bool (rowB al am (cap,ms)))))
 |_=> .no
noncomputable def XH:List LV→T LV:=gB Tryz.prog Tryz.f59.params.toList ab1
theorem anY (cap:Int) (ms al am:List Int):bT Tryz.prog aP (SS) eu (fun i=>if i=4 then En.lp else aB i) Tryz.f59 [.agg [.v (.int .i64 cap),.xl (.int .i64) ms],.xl (.int .i64) al,.xl (.int .i64) am]=.req (ax3 (⟨al,am,(0:Int),true,(0:Int),cap,ms⟩:lN)) (.ok (.v (.bool ((NE (⟨al,am,(0:Int),true,(0:Int),cap,ms⟩:lN)).none ||(decide ((NE (⟨al,am,(0:Int),true,(0:Int),cap,ms⟩:lN)).sum≤cap)))))):=by kernel_rfl
theorem atd:Valid Tryz.prog aP 59 XH:=aH Tryz.func59 rfl aay aF (L:=(fun i=>if i=4 then En.lp else aB i)) (fun b hb=>by
 rw [show aC _=[AA] by kernel_rfl] at hb
 simp only [List.mem_cons,List.not_mem_nil,or_false] at hb
 subst hb
 exact alX) (fun args lv h=>by
 unfold ab1 at h
 split at h
 ·simp only [canL,canX]
  rw [anY]
  rename_i cap ms al am
  obtain ⟨hr,rfl⟩:=h
  refine mP ⟨⟨rfl,rfl,hr⟩,rfl,rfl⟩ (fun hE=>?_)
  obtain ⟨q1,q2⟩:=amZ _ hE.1
  have e1:=congrArg Prod.fst q2
  have e2:=congrArg Prod.snd q2
  simp only at e1 e2
  rw [e1,e2]
  simp only [Int.toNat_zero,List.drop_zero,Int.zero_add,Bool.true_and]
  exact rfl
 ·cases h)
structure oK where
 rows:List Rw
 al:List Int
 am:List Int
 r:Bool
 i:Int
def aC8 (s:oK):List LV:=[.xl zl s.rows,.xl (.int .i64) s.al,.xl (.int .i64) s.am,.v (.bool s.r),.v (.int .i64 s.i)]
def aB7 (_:oK):List aU:=[]
noncomputable def AB:Code:=((aC (Tryz.f25.body.getD .skip))[0]?).getD .skip
def YX (s:oK):T (Rd oK):=
 .br (decide (s.i<(List.length s.rows:Int))) (.req (0≤s.i∧s.i<(List.length s.rows:Int)) (.req (Gu s.al s.am (o5 s.rows s.i)) (.br (!(rowB s.al s.am (o5 s.rows s.i))) (.ok (.stop (.ret) {s with r:=false})) (.ok (.next {s with i:=(IntKind.i64.wrap (s.i+1))}))))) (.ok (.stop (.exit 0) s))
abbrev ar7 (s:oK):=(YX s).rd s
def Jr (s:oK) (j:Int):Bool:=rowB s.al s.am (o5 s.rows j)
def akY (s:oK):Prop:=s.i=0∧0≤(List.length s.rows:Int)∧(List.length s.rows:Int)≤1000∧∀r∈s.rows,Gu s.al s.am r
def LQ (s:oK):Prop:=0≤s.i∧s.i≤(List.length s.rows:Int)∧(List.length s.rows:Int)≤1000∧(∀r∈s.rows,Gu s.al s.am r)∧∀j:Nat,(j:Int)<s.i→Jr s j=true
def Oe (s:oK):Nat:=((List.length s.rows:Int)-s.i).toNat
def akj (x:Ex) (_ s':oK):Prop:=(x=.exit 0∧∀j:Nat,(j:Int)<(List.length s'.rows:Int)→Jr s' j=true)∨(x=.ret∧s'.r=false∧∃j:Nat,(j:Int)<(List.length s'.rows:Int)∧Jr s' j=false)
theorem azH:∀s,akY s→LQ s:=by
 intro s h
 obtain ⟨h0,h1,h2,h3⟩:=h
 exact ⟨by omega,by omega,h2,h3,fun j hj=>by omega⟩
theorem avu (s:oK) (hI:LQ s):bJ (fun s'=>LQ s'∧Oe s'<Oe s) (fun x s'=>akj x s s') (ar7 s):=by
 unfold ar7 YX
 dsimp only [T.rd,T.rl]
 obtain ⟨h0,h1,h2,h3,h4⟩:=hI
 refine au (fun c1=>au (fun c2=>?_) (fun c2=>?_)) (fun c1=>?_)
 ·have c1:s.i<(List.length s.rows:Int):=by simpa using c1
  refine .inr ⟨rfl,rfl,s.i.toNat,by simp only;omega,?_⟩
  rw [Int.toNat_of_nonneg (by omega)]
  have hg:Jr s s.i=false:=by unfold Jr;(first|(have c2:(!(rowB s.al s.am (o5 s.rows s.i)))=false:=c2;simpa using c2) |(have c2:(!(rowB s.al s.am (o5 s.rows s.i)))=true:=c2;simpa using c2))
  exact hg
 ·have c1:s.i<(List.length s.rows:Int):=by simpa using c1
  have hg:Jr s s.i=true:=by unfold Jr;(first|(have c2:(!(rowB s.al s.am (o5 s.rows s.i)))=false:=c2;simpa using c2) |(have c2:(!(rowB s.al s.am (o5 s.rows s.i)))=true:=c2;simpa using c2))
  rw [aK (x:=s.i+1) (by omega) (by omega)]
  refine ⟨⟨by simp only;omega,by simp only;omega,h2,h3,fun j hj=>?_⟩,by simp only [Oe];omega⟩
  by_cases hji:(j:Int)<s.i
  ·exact h4 j hji
  ·have:(j:Int)=s.i:=by simp only at hj;omega
   rw [this];exact hg
 ·have c1:(List.length s.rows:Int)≤s.i:=by simpa using c1
  exact .inl ⟨rfl,fun j hj=>h4 j (by omega)⟩
def Eo:bK oK:=⟨0,22,[0,1,2,6,7],[],aC8,aB7,fun v _=>⟨aQ zl (v.getD 0 .junk),aQ (.int .i64) (v.getD 1 .junk),aQ (.int .i64) (v.getD 2 .junk),vg (v.getD 3 .junk),gI (v.getD 4 .junk)⟩,YX,fun s r=> {r with rows:=s.rows,al:=s.al,am:=s.am},fun s=>s,fun _ s=>s,[.ret,.exit 0],akY,LQ,Oe⟩
abbrev Zx:=Eo.run
abbrev abk:=Eo.jJ
abbrev ax4:=Eo.q
theorem auJ (s:oK) (hI:LQ s):(YX s).all (fun _=>True):=by
 refine ⟨fun c1=>⟨?_,?_,fun _=>trivial,fun _=>trivial⟩,fun _=>trivial⟩
 all_goals ((obtain ⟨h0,h1,h2,h3,h4⟩:=hI;simp only [decide_eq_true_eq] at c1;first|omega|exact h3 _ (by rw [yO (by omega)];exact List.getElem_mem _)))
noncomputable def aiQ:Specs:=aZ [(59,XH)]
theorem arA:∀g S,aiQ g=some S→Valid Tryz.prog aP g S:=aS (l:=[(59,XH)]) ⟨atd,trivial⟩
theorem agR:Eo.Ok:=⟨fun s=>by kernel_rfl,fun s=>by kernel_rfl,fun s=>rfl,fun s t r=>rfl,fun s=>rfl,fun s=>by kernel_rfl⟩
theorem afI:Eo.Pf (akj):=⟨azH,fun _ _=>rfl,avu,auJ⟩
theorem alY:bg Tryz.prog aP (AN 0) (.loop AB) Eo.lp:=bK.snd agR afI (aT (Γ:=aiQ) (K:=eu) (L:=aB) arA aF AB (fun b hb=>by rw [show aC AB=[] by kernel_rfl] at hb;cases hb)) (fun s=>by kernel_rfl)
theorem am1 (s:oK) (hE:akY s):∃s',LQ s'∧akj (abk s) s' (Zx s):=bK.fin agR afI s hE
def Uj:List LV→T LV
 | [.xl (.pair (.int .i64) (.sl (.int .i64))) rows,.xl (.int .i64) al,.xl (.int .i64) am]=> .req ((List.length rows:Int)≤1000∧∀r∈rows,Gu al am r) (.ok (.v (.bool (uM rows al am))))
 |_=> .no
noncomputable def P7:List LV→T LV:=gB Tryz.prog Tryz.f25.params.toList Uj
theorem ahC (rows:List Rw) (al am:List Int):bT Tryz.prog aP (aiQ) eu (fun i=>if i=2 then Eo.lp else aB i) Tryz.f25 [.xl zl rows,.xl (.int .i64) al,.xl (.int .i64) am]=.req (ax4 (⟨rows,al,am,false,(0:Int)⟩:oK)) (.br (iy (abk (⟨rows,al,am,false,(0:Int)⟩:oK)) (.ret)) (.ok (.v (.bool (Zx (⟨rows,al,am,false,(0:Int)⟩:oK)).r))) (.ok (.v (.bool true)))):=by kernel_rfl
theorem alo:Valid Tryz.prog aP 25 P7:=aH Tryz.func25 rfl arA aF (L:=(fun i=>if i=2 then Eo.lp else aB i)) (fun b hb=>by
 rw [show aC _=[AB] by kernel_rfl] at hb
 simp only [List.mem_cons,List.not_mem_nil,or_false] at hb
 subst hb
 exact alY) (fun args lv h=>by
 unfold Uj at h
 split at h
 ·simp only [canL,canX]
  rw [ahC]
  rename_i rows al am
  obtain ⟨⟨hl,hr⟩,rfl⟩:=h
  refine mP ⟨⟨rfl,Int.natCast_nonneg _,hl,hr⟩,rfl,rfl⟩ (fun hE=>?_)
  obtain ⟨s',_,hq⟩:=am1 _ hE.1
  unfold uM
  rcases hq with ⟨q1,q2⟩ |⟨q1,q2,j,q3,q4⟩
  ·have e:rows.all (rowB al am)=true:=(iO (d:=((0,[]):Rw))).1 fun j hj=>q2 j hj
   rw [q1,e]
   exact ⟨fun h=>(by cases h),fun _=>rfl⟩
  ·have e:rows.all (rowB al am)=false:=by
    rw [Bool.eq_false_iff]
    intro hx
    have:=(iO (d:=((0,[]):Rw))).2 hx j q3
    exact Bool.noConfusion (this.symm.trans q4)
   rw [q1,q2,e]
   exact ⟨fun _=>rfl,fun h=>by cases h⟩
 ·cases h)
structure jS where
 a:List Int
 b:List Int
 r:Bool
 i:Int
def ayP (s:jS):List LV:=[.xl (.int .i64) s.a,.xl (.int .i64) s.b,.v (.bool s.r),.v (.int .i64 s.i)]
def ayO (_:jS):List aU:=[]
noncomputable def xN:Code:=((aC (Tryz.f16.body.getD .skip))[0]?).getD .skip
def Nu (s:jS):T (Rd jS):=
 .br (decide (s.i<(List.length s.a:Int))) (.req (0≤s.i∧s.i<(List.length s.a:Int)) (.req (0≤s.i∧s.i<(List.length s.b:Int)) (.br ((gi s.a s.i) !=(gi s.b s.i)) (.ok (.stop (.ret) {s with r:=false})) (.ok (.next {s with i:=(IntKind.i64.wrap (s.i+1))}))))) (.ok (.stop (.exit 0) s))
abbrev ai7 (s:jS):=(Nu s).rd s
def y9 (s:jS) (j:Int):Bool:=gi s.a j==gi s.b j
def Yw (s:jS):Prop:=s.i=0∧0≤(List.length s.a:Int)∧(List.length s.a:Int)≤1000∧s.a.length=s.b.length
def Dw (s:jS):Prop:=0≤s.i∧s.i≤(List.length s.a:Int)∧(List.length s.a:Int)≤1000∧(s.a.length=s.b.length)∧∀j:Nat,(j:Int)<s.i→y9 s j=true
def FK (s:jS):Nat:=((List.length s.a:Int)-s.i).toNat
def Yq (x:Ex) (_ s':jS):Prop:=(x=.exit 0∧∀j:Nat,(j:Int)<(List.length s'.a:Int)→y9 s' j=true)∨(x=.ret∧s'.r=false∧∃j:Nat,(j:Int)<(List.length s'.a:Int)∧y9 s' j=false)
theorem avG:∀s,Yw s→Dw s:=by
 intro s h
 obtain ⟨h0,h1,h2,h3⟩:=h
 exact ⟨by omega,by omega,h2,h3,fun j hj=>by omega⟩
theorem ani (s:jS) (hI:Dw s):bJ (fun s'=>Dw s'∧FK s'<FK s) (fun x s'=>Yq x s s') (ai7 s):=by
 unfold ai7 Nu
 dsimp only [T.rd,T.rl]
 obtain ⟨h0,h1,h2,h3,h4⟩:=hI
 refine au (fun c1=>au (fun c2=>?_) (fun c2=>?_)) (fun c1=>?_)
 ·have c1:s.i<(List.length s.a:Int):=by simpa using c1
  refine .inr ⟨rfl,rfl,s.i.toNat,by simp only;omega,?_⟩
  rw [Int.toNat_of_nonneg (by omega)]
  have hg:y9 s s.i=false:=by unfold y9;(simpa using c2)
  exact hg
 ·have c1:s.i<(List.length s.a:Int):=by simpa using c1
  have hg:y9 s s.i=true:=by unfold y9;(simpa using c2)
  rw [aK (x:=s.i+1) (by omega) (by omega)]
  refine ⟨⟨by simp only;omega,by simp only;omega,h2,h3,fun j hj=>?_⟩,by simp only [FK];omega⟩
  by_cases hji:(j:Int)<s.i
  ·exact h4 j hji
  ·have:(j:Int)=s.i:=by simp only at hj;omega
   rw [this];exact hg
 ·have c1:(List.length s.a:Int)≤s.i:=by simpa using c1
  exact .inl ⟨rfl,fun j hj=>h4 j (by omega)⟩
def wO:bK jS:=⟨0,26,[0,1,4,5],[],ayP,ayO,fun v _=>⟨aQ (.int .i64) (v.getD 0 .junk),aQ (.int .i64) (v.getD 1 .junk),vg (v.getD 2 .junk),gI (v.getD 3 .junk)⟩,Nu,fun s r=> {r with a:=s.a,b:=s.b},fun s=>s,fun _ s=>s,[.ret,.exit 0],Yw,Dw,FK⟩
abbrev Rq:=wO.run
abbrev Tq:=wO.jJ
abbrev aqo:=wO.q
theorem am0 (s:jS) (hI:Dw s):(Nu s).all (fun _=>True):=by
 refine ⟨fun c1=>⟨?_,?_,fun _=>trivial,fun _=>trivial⟩,fun _=>trivial⟩
 all_goals ((obtain ⟨h0,h1,h2,h3,h4⟩:=hI;simp at c1;omega))
theorem ZU:wO.Ok:=⟨fun s=>by kernel_rfl,fun s=>by kernel_rfl,fun s=>rfl,fun s t r=>rfl,fun s=>rfl,fun s=>by kernel_rfl⟩
theorem ZR:wO.Pf (Yq):=⟨avG,fun _ _=>rfl,ani,am0⟩
theorem aeW:bg Tryz.prog aP (AN 0) (.loop xN) wO.lp:=bK.snd ZU ZR (aT (Γ:=SS) (K:=eu) (L:=aB) aay aF xN (fun b hb=>by rw [show aC xN=[] by kernel_rfl] at hb;cases hb)) (fun s=>by kernel_rfl)
theorem afp (s:jS) (hE:Yw s):∃s',Dw s'∧Yq (Tq s) s' (Rq s):=bK.fin ZU ZR s hE
def Ul:List LV→T LV
 | [.xl (.int .i64) a,.xl (.int .i64) b]=> .req ((List.length a:Int)≤1000) (.ok (.v (.bool (a==b))))
 |_=> .no
noncomputable def P9:List LV→T LV:=gB Tryz.prog Tryz.f16.params.toList Ul
theorem ahE (a b:List Int):bT Tryz.prog aP (SS) eu (fun i=>if i=4 then wO.lp else aB i) Tryz.f16 [.xl (.int .i64) a,.xl (.int .i64) b]=.br ((List.length a:Int) !=(List.length b:Int)) (.ok (.v (.bool false))) (.req (aqo (⟨a,b,false,(0:Int)⟩:jS)) (.br (iy (Tq (⟨a,b,false,(0:Int)⟩:jS)) (.ret)) (.ok (.v (.bool (Rq (⟨a,b,false,(0:Int)⟩:jS)).r))) (.ok (.v (.bool true))))):=by kernel_rfl
theorem alq:Valid Tryz.prog aP 16 P9:=aH Tryz.func16 rfl aay aF (L:=(fun i=>if i=4 then wO.lp else aB i)) (fun b hb=>by
 rw [show aC _=[xN] by kernel_rfl] at hb
 simp only [List.mem_cons,List.not_mem_nil,or_false] at hb
 subst hb
 exact aeW) (fun args lv h=>by
 unfold Ul at h
 split at h
 ·simp only [canL,canX]
  rw [ahE]
  rename_i a b
  obtain ⟨hl,rfl⟩:=h
  refine ⟨fun c=>congrArg (fun z=>LV.v (.bool z)) ?_,fun c=>?_⟩
  ·have c:¬a.length=b.length:=by simp at c;omega
   rw [eq_comm,beq_eq_false_iff_ne]
   exact fun e=>c (by rw [e])
  ·have c:a.length=b.length:=by simp at c;omega
   refine mP ⟨⟨rfl,Int.natCast_nonneg _,hl,c⟩,rfl,rfl⟩ (fun hE=>?_)
   obtain ⟨s',_,hq⟩:=afp _ hE.1
   rcases hq with ⟨q1,q2⟩ |⟨q1,q2,j,q3,q4⟩
   ·have e:(a==b)=true:=by
     rw [beq_iff_eq]
     refine List.ext_getElem c fun j h1 h2=>?_
     have:(gi a j==gi b j)=true:=q2 j (by show (j:Int)<(a.length:Int);omega)
     rw [pG (by simpa using h1),pG (by simpa using h2)] at this
     simpa using this
    rw [q1,e]
    exact ⟨fun h=>(by cases h),fun _=>rfl⟩
   ·have e:(a==b)=false:=by
     rw [beq_eq_false_iff_ne]
     rintro rfl
     have q4:(gi a j==gi a j)=false:=q4
     simp at q4
    rw [q1,q2,e]
    exact ⟨fun _=>rfl,fun h=>by cases h⟩
 ·cases h)
end Go.Proofs.YtlihnbimgclogaaGreatDoor
namespace Go.Proofs.YtlihnbimgclogaaGreatDoor
open Go.Sx
structure nI where
 l:List ByteArray
 k:Int
 i:Int
 bD:Value
 fP:Value
 dO:Value
 dV:Value
 jw:Value
 ah:List Cd
 aA:List ByteArray
 ai:Value
 aJ:Value
 gs:List Ch
def aDl (s:nI):List LV:=[.own 0 0,.own 1 0,.xl .str s.l,.v (.int .i64 s.k),.v (.int .i64 s.i)]
def aCk (s:nI):List aU:=[⟨[.v (s.bD),.v (s.fP),.v (s.dO),.v (s.dV),.v (s.jw)],28,.cl,false⟩,⟨[.xl dX s.ah,.xl .str s.aA,.v (s.ai),.os 2 8 0 (List.length s.gs),.v (s.aJ)],28,.cl,false⟩,⟨[],58,.vec dS s.gs,false⟩]
noncomputable def A8:Code:=((aC (Tryz.f33.body.getD .skip))[0]?).getD .skip
def Y3 (s:nI):T (Rd nI):=
 .br (decide (s.i<s.k)) (.req (0≤s.i∧s.i<(List.length s.l:Int)) (.req (0+(List.length s.gs)=List.length s.gs∧((List.length s.gs+List.length ([((gS s.l s.i),((0:Int),((1:Int),((6:Int),((10:Int),((1:Int),((0:Int),(0:Int))))))))]):Nat):Int)*72≤2^47∧((List.length s.gs+List.length ([((gS s.l s.i),((0:Int),((1:Int),((6:Int),((10:Int),((1:Int),((0:Int),(0:Int))))))))]):Nat):Int)<2^62) (.req (0=0∧(List.length s.gs+List.length ([((gS s.l s.i),((0:Int),((1:Int),((6:Int),((10:Int),((1:Int),((0:Int),(0:Int))))))))]))=List.length (s.gs++([((gS s.l s.i),((0:Int),((1:Int),((6:Int),((10:Int),((1:Int),((0:Int),(0:Int))))))))]))) (.ok (.next {s with i:=(IntKind.i64.wrap (s.i+1)),gs:=(s.gs++([((gS s.l s.i),((0:Int),((1:Int),((6:Int),((10:Int),((1:Int),((0:Int),(0:Int))))))))]))}))))) (.rl s.gs (.ok (.stop (.exit 0) s)))
abbrev asc (s:nI):=(Y3 s).rd s
def pkG:List Ch:=[(ByteArray.mk #[120],0,1,6,10,1,0,0),(ByteArray.mk #[121],0,1,6,10,1,0,0)]
def pkC (n:Int):List Cd:=[(ByteArray.mk #[102],-1,n,100,(0,0),0,0,0,0,0)]
def pkS:List ByteArray:=[ByteArray.mk #[120],ByteArray.mk #[121]]
def adb (s:nI):Prop:=s.i=0∧s.gs=[]∧s.l=pkS∧s.k=2
def LY (s:nI):Prop:=(0≤s.i∧s.i≤2)∧s.gs=pkG.take s.i.toNat∧s.l=pkS∧s.k=2
def Ou (s:nI):Nat:=(2-s.i).toNat
def akn (x:Ex) (_ s':nI):Prop:=x=.exit 0∧s'.gs=pkG
theorem aAa:∀s,adb s→LY s:=by
 intro s h
 obtain ⟨h0,h1,h2⟩:=h
 exact ⟨by omega,by rw [h0,h1];rfl,h2⟩
theorem avM (s:nI) (hI:LY s):bJ (fun s'=>LY s'∧Ou s'<Ou s) (fun x s'=>akn x s s') (asc s):=by
 unfold asc Y3
 dsimp only [T.rd,T.rl]
 obtain ⟨⟨h0,h1⟩,h2,h3,h4⟩:=hI
 refine au (fun c1=>?_) (fun c1=>?_)
 ·have c1:s.i<2:=by simpa [h4] using c1
  rw [aK (x:=s.i+1) (by omega) (by omega)]
  refine ⟨⟨⟨by simp only;omega,by simp only;omega⟩,?_,h3,h4⟩,by simp only [Ou];omega⟩
  simp only
  rw [h2,h3]
  rcases (by omega:s.i=0∨s.i=1) with e|e<;>rw [e]<;>rfl
 ·have c1:2≤s.i:=by simpa [h4] using c1
  refine ⟨rfl,?_⟩
  rw [h2,show s.i.toNat=2 by omega]
  rfl
def EG:bK nI:=⟨0,27,[2,3,12,13,14],[.nc 1 3 58 dS],aDl,aCk,fun v b=>⟨aQ .str (v.getD 2 .junk),gI (v.getD 3 .junk),gI (v.getD 4 .junk),gAn (aX (aO b 0) 0),gAn (aX (aO b 0) 1),gAn (aX (aO b 0) 2),gAn (aX (aO b 0) 3),gAn (aX (aO b 0) 4),aQ dX (aX (aO b 1) 0),aQ .str (aX (aO b 1) 1),gAn (aX (aO b 1) 2),gAn (aX (aO b 1) 4),iT dS (aO b 2)⟩,Y3,fun s r=> {r with l:=s.l,k:=s.k,bD:=s.bD,fP:=s.fP,dO:=s.dO,dV:=s.dV,jw:=s.jw,ah:=s.ah,aA:=s.aA,ai:=s.ai,aJ:=s.aJ},fun s=>s,fun _ s=>s,[.exit 0],adb,LY,Ou⟩
abbrev wV:=EG.run
abbrev apx:=EG.jJ
abbrev ayh:=EG.q
theorem auW (s:nI) (hI:LY s):(Y3 s).all (fun _=>True):=by
 refine ⟨fun c1=>⟨?_,?_,?_,trivial⟩,fun c1=>⟨⟨rfl,rfl⟩,trivial⟩⟩
 all_goals ((obtain ⟨⟨h0,h1⟩,h2,h3,h4⟩:=hI;simp only [decide_eq_true_eq] at c1;have hl:s.l.length=2:=(by rw [h3];rfl);have hg:s.gs.length≤2:=(by rw [h2,List.length_take];show min _ 2≤2;omega);first|omega|(refine ⟨by omega,?_,?_⟩<;>simp only [List.length_cons,List.length_nil]<;>omega) |exact ⟨rfl,by simp⟩))
noncomputable def WZ:Specs:=aZ []
theorem aiG:∀g S,WZ g=some S→Valid Tryz.prog aP g S:=aS (l:=[]) trivial
theorem ag3:EG.Ok:=⟨fun s=>by kernel_rfl,fun s=>by kernel_rfl,fun s=>rfl,fun s t r=>rfl,fun s=>rfl,fun s=>by kernel_rfl⟩
theorem afU:EG.Pf (akn):=⟨aAa,fun _ _=>rfl,avM,auW⟩
theorem amb:bg Tryz.prog aP (AN 0) (.loop A8) EG.lp:=bK.snd ag3 afU (aT (Γ:=WZ) (K:=eu) (L:=aB) aiG aF A8 (fun b hb=>by rw [show aC A8=[] by kernel_rfl] at hb;cases hb)) (fun s=>by kernel_rfl)
theorem anm (s:nI) (hE:adb s):∃s',LY s'∧akn (apx s) s' (wV s):=bK.fin ag3 afU s hE
def acr:List LV→T LV
 | [.v (.int .i64 n)]=> .ok (.agg [.xl dX (pkC n),.xl .str ([(ByteArray.mk #[111])]),.xl dY ([]:List Ko),.xl dS pkG,.xl dZ ([]:List Ba)])
 |_=> .no
noncomputable def XZ:List LV→T LV:=gB Tryz.prog Tryz.f33.params.toList acr
theorem aoi (n:Int):bT Tryz.prog aP (WZ) eu (fun i=>if i=3 then EG.lp else aB i) Tryz.f33 [.v (.int .i64 n)]=.req (0=0∧0=List.length ([]:List Ch)) (.req (ayh (⟨([(ByteArray.mk #[120]),(ByteArray.mk #[121])]),(List.length ([(ByteArray.mk #[120]),(ByteArray.mk #[121])]):Int),(0:Int),(.slice none 0 0),(.slice none 0 0),(.slice none 0 0),(.slice none 0 0),(.slice none 0 0),([((ByteArray.mk #[102]),((-1:Int),(n,((100:Int),(((0:Int),(0:Int)),((0:Int),((0:Int),((0:Int),((0:Int),(0:Int))))))))))]),([(ByteArray.mk #[111])]),(.slice none 0 0),(.slice none 0 0),([]:List Ch)⟩:nI)) (.req (0+(List.length (wV (⟨([(ByteArray.mk #[120]),(ByteArray.mk #[121])]),(List.length ([(ByteArray.mk #[120]),(ByteArray.mk #[121])]):Int),(0:Int),(.slice none 0 0),(.slice none 0 0),(.slice none 0 0),(.slice none 0 0),(.slice none 0 0),([((ByteArray.mk #[102]),((-1:Int),(n,((100:Int),(((0:Int),(0:Int)),((0:Int),((0:Int),((0:Int),((0:Int),(0:Int))))))))))]),([(ByteArray.mk #[111])]),(.slice none 0 0),(.slice none 0 0),([]:List Ch)⟩:nI)).gs)≤List.length (wV (⟨([(ByteArray.mk #[120]),(ByteArray.mk #[121])]),(List.length ([(ByteArray.mk #[120]),(ByteArray.mk #[121])]):Int),(0:Int),(.slice none 0 0),(.slice none 0 0),(.slice none 0 0),(.slice none 0 0),(.slice none 0 0),([((ByteArray.mk #[102]),((-1:Int),(n,((100:Int),(((0:Int),(0:Int)),((0:Int),((0:Int),((0:Int),((0:Int),(0:Int))))))))))]),([(ByteArray.mk #[111])]),(.slice none 0 0),(.slice none 0 0),([]:List Ch)⟩:nI)).gs) (.ok (.agg [.xl dX ([((ByteArray.mk #[102]),((-1:Int),(n,((100:Int),(((0:Int),(0:Int)),((0:Int),((0:Int),((0:Int),((0:Int),(0:Int))))))))))]),.xl .str ([(ByteArray.mk #[111])]),.xl dY ([]:List Ko),.xl dS (((wV (⟨([(ByteArray.mk #[120]),(ByteArray.mk #[121])]),(List.length ([(ByteArray.mk #[120]),(ByteArray.mk #[121])]):Int),(0:Int),(.slice none 0 0),(.slice none 0 0),(.slice none 0 0),(.slice none 0 0),(.slice none 0 0),([((ByteArray.mk #[102]),((-1:Int),(n,((100:Int),(((0:Int),(0:Int)),((0:Int),((0:Int),((0:Int),((0:Int),(0:Int))))))))))]),([(ByteArray.mk #[111])]),(.slice none 0 0),(.slice none 0 0),([]:List Ch)⟩:nI)).gs.drop 0).take (List.length (wV (⟨([(ByteArray.mk #[120]),(ByteArray.mk #[121])]),(List.length ([(ByteArray.mk #[120]),(ByteArray.mk #[121])]):Int),(0:Int),(.slice none 0 0),(.slice none 0 0),(.slice none 0 0),(.slice none 0 0),(.slice none 0 0),([((ByteArray.mk #[102]),((-1:Int),(n,((100:Int),(((0:Int),(0:Int)),((0:Int),((0:Int),((0:Int),((0:Int),(0:Int))))))))))]),([(ByteArray.mk #[111])]),(.slice none 0 0),(.slice none 0 0),([]:List Ch)⟩:nI)).gs)),.xl dZ ([]:List Ba)])))):=by kernel_rfl
theorem atv:Valid Tryz.prog aP 33 XZ:=aH Tryz.func33 rfl aiG aF (L:=(fun i=>if i=3 then EG.lp else aB i)) (fun b hb=>by
 rw [show aC _=[A8] by kernel_rfl] at hb
 simp only [List.mem_cons,List.not_mem_nil,or_false] at hb
 subst hb
 exact amb) (fun args lv h=>by
 unfold acr at h
 split at h
 ·simp only [canL,canX]
  rw [aoi]
  rename_i n
  obtain rfl:=h
  have hE:adb ⟨([(ByteArray.mk #[120]),(ByteArray.mk #[121])]),(List.length ([(ByteArray.mk #[120]),(ByteArray.mk #[121])]):Int),0,.slice none 0 0,.slice none 0 0,.slice none 0 0,.slice none 0 0,.slice none 0 0,[((ByteArray.mk #[102]),-1,n,100,(0,0),0,0,0,0,0)],[(ByteArray.mk #[111])],.slice none 0 0,.slice none 0 0,[]⟩:=⟨rfl,rfl,rfl,rfl⟩
  obtain ⟨_,_,q1,q2⟩:=anm _ hE
  have q2:(wV ⟨([(ByteArray.mk #[120]),(ByteArray.mk #[121])]),(List.length ([(ByteArray.mk #[120]),(ByteArray.mk #[121])]):Int),0,.slice none 0 0,.slice none 0 0,.slice none 0 0,.slice none 0 0,.slice none 0 0,[((ByteArray.mk #[102]),-1,n,100,(0,0),0,0,0,0,0)],[(ByteArray.mk #[111])],.slice none 0 0,.slice none 0 0,[]⟩).gs=pkG:=q2
  refine ⟨⟨rfl,rfl⟩,⟨hE,rfl,rfl⟩,by omega,?_⟩
  rw [List.drop_zero,List.take_length,q2]
  rfl
 ·cases h)
def acI:List LV→T LV
 | []=> .ok (.v (.bool true))
 |_=> .no
noncomputable def Yc:List LV→T LV:=gB Tryz.prog Tryz.f11.params.toList acI
noncomputable def aiZ:Specs:=aZ [(14,Jd),(16,P9),(19,y7),(33,XZ)]
theorem awU:∀g S,aiZ g=some S→Valid Tryz.prog aP g S:=aS (l:=[(14,Jd),(16,P9),(19,y7),(33,XZ)]) ⟨aeR,alq,Vg,atv,trivial⟩
theorem aox:(bT Tryz.prog aP (aiZ) eu aB Tryz.f11 []).red=.req (xQ ([(true,((0:Int),((0:Int),(2:Int)))),(true,((0:Int),((50:Int),(1:Int))))]) (40:Int)∧([(true,((0:Int),((0:Int),(2:Int)))),(true,((0:Int),((50:Int),(1:Int))))]).length≤19) (.req (xQ ([(true,((0:Int),((0:Int),(2:Int)))),(true,((0:Int),((50:Int),(1:Int))))]) (40:Int)∧([(true,((0:Int),((0:Int),(2:Int)))),(true,((0:Int),((50:Int),(1:Int))))]).length≤19) (.req (0≤(0:Int)∧(0:Int)≤(1:Int)∧(1:Int)≤(List.length ([((0:Int),(9:Int)),((0:Int),(9:Int))]):Int)) (.req (xQ ([(true,((0:Int),((0:Int),(2:Int)))),(true,((0:Int),((50:Int),(1:Int))))]) (40:Int)∧([(true,((0:Int),((0:Int),(2:Int)))),(true,((0:Int),((50:Int),(1:Int))))]).length≤19) (.req ((List.length (IE (pkC (10:Int)) ([(ByteArray.mk #[111])]) ([]:List Ko) pkG ([]:List Ba) ([]:List Le) ([((0:Int),(9:Int)),((0:Int),(9:Int))]) ([(true,((0:Int),((0:Int),(2:Int)))),(true,((0:Int),((50:Int),(1:Int))))]) (40:Int) (7:Int)):Int)≤1000) (.req (0≤(1:Int)∧1<(List.length (Xg (pkC (10:Int)) ([(ByteArray.mk #[111])]) ([]:List Ko) pkG ([]:List Ba) ([]:List Le) ([((0:Int),(9:Int)),((0:Int),(9:Int))]) ([(true,((0:Int),((0:Int),(2:Int)))),(true,((0:Int),((50:Int),(1:Int))))]) (40:Int) (7:Int)):Int)) (.req (0≤(0:Int)∧0<(List.length (Xg (pkC (10:Int)) ([(ByteArray.mk #[111])]) ([]:List Ko) pkG ([]:List Ba) ([]:List Le) ([((0:Int),(9:Int)),((0:Int),(9:Int))]) ([(true,((0:Int),((0:Int),(2:Int)))),(true,((0:Int),((50:Int),(1:Int))))]) (40:Int) (7:Int)):Int)) (.req (0≤(0:Int)∧0<(List.length (deL (pkC (10:Int)) ([(ByteArray.mk #[111])]) ([]:List Ko) pkG ([]:List Ba) ([]:List Le) ([((0:Int),(9:Int)),((0:Int),(9:Int))]) ([(true,((0:Int),((0:Int),(2:Int)))),(true,((0:Int),((50:Int),(1:Int))))]) (40:Int) (7:Int)):Int)) (.req ((List.length (IE (pkC (20:Int)) ([(ByteArray.mk #[111])]) ([]:List Ko) pkG ([]:List Ba) ([((3:Int),((1:Int),((20:Int),((30:Int),(12:Int)))))]) ([((0:Int),(9:Int)),((0:Int),(9:Int))]) ([(true,((0:Int),((0:Int),(2:Int)))),(true,((0:Int),((50:Int),(1:Int))))]) (40:Int) (7:Int)):Int)≤1000) (.req (xQ ([(true,((0:Int),((0:Int),(2:Int)))),(true,((0:Int),((50:Int),(1:Int))))]) (40:Int)∧([(true,((0:Int),((0:Int),(2:Int)))),(true,((0:Int),((50:Int),(1:Int))))]).length≤19) (.req ((List.length (jI ([(true,((0:Int),((0:Int),(2:Int)))),(true,((0:Int),((50:Int),(1:Int))))]) (40:Int)):Int)≤1000) (.ok (.v (.bool true))))))))))))):=by kernel_rfl
theorem atH:Valid Tryz.prog aP 11 Yc:=aH Tryz.func11 rfl awU aF (aW (by kernel_rfl)) (fun args lv h=>by
 unfold acI at h
 split at h
 ·simp only [canL]
  refine @T.F7 _ _ _ ?_
  rw [aox]
  exact ⟨(by first|decide+kernel|(unfold xQ;decide+kernel)),(by first|decide+kernel|(unfold xQ;decide+kernel)),(by first|decide+kernel|(unfold xQ;decide+kernel)),(by first|decide+kernel|(unfold xQ;decide+kernel)),(by first|decide+kernel|(unfold xQ;decide+kernel)),(by first|decide+kernel|(unfold xQ;decide+kernel)),(by first|decide+kernel|(unfold xQ;decide+kernel)),(by first|decide+kernel|(unfold xQ;decide+kernel)),(by first|decide+kernel|(unfold xQ;decide+kernel)),(by first|decide+kernel|(unfold xQ;decide+kernel)),(by first|decide+kernel|(unfold xQ;decide+kernel)),h⟩
 ·cases h)
end Go.Proofs.YtlihnbimgclogaaGreatDoor
namespace Go.Proofs.YtlihnbimgclogaaGreatDoor
open Go.Sx
structure iY where
 d:List Dm
 tick:Int
 m:List Ch
 k:Int
 i:Int
 ah:List Cd
 aA:List ByteArray
 ai:List Ko
 ak:List Ch
 aJ:List Ba
 base:List Int
 most:List Int
def aDv (s:iY):List LV:=[.xl qG s.d,.v (.int .i64 s.tick),.own 0 0,.os 1 1 0 (List.length s.base),.os 2 1 0 (List.length s.most),.xl dS s.m,.v (.int .i64 s.k),.v (.int .i64 s.i)]
def aCu (s:iY):List aU:=[⟨[.xl dX s.ah,.xl .str s.aA,.xl dY s.ai,.xl dS s.ak,.xl dZ s.aJ],28,.cl,false⟩,⟨[],3,.vec (.int .i64) s.base,false⟩,⟨[],3,.vec (.int .i64) s.most,false⟩]
noncomputable def Bl:Code:=((aC (Tryz.f23.body.getD .skip))[0]?).getD .skip
def Y6 (s:iY):T (Rd iY):=
 .br (decide (s.i<s.k)) (.req (0≤s.i∧s.i<(List.length s.m:Int)) (.req (0+(List.length s.base)=List.length s.base∧((List.length s.base+List.length ([(bC s.m s.i).2.2.2.2.2.2.1]):Nat):Int)*8≤2^47∧((List.length s.base+List.length ([(bC s.m s.i).2.2.2.2.2.2.1]):Nat):Int)<2^62) (.req (0+(List.length s.most)=List.length s.most∧((List.length s.most+List.length ([(0:Int)]):Nat):Int)*8≤2^47∧((List.length s.most+List.length ([(0:Int)]):Nat):Int)<2^62) (.req (0≤s.i∧s.i<(List.length s.d:Int)) (.br (qI s.d s.i).1 (.req (0≤s.i∧s.i<((List.length s.most+List.length ([(0:Int)]):Nat):Int)) (.req (s.i.toNat<List.length (s.most++([(0:Int)]))) (.req (0=0∧(List.length s.base+List.length ([(bC s.m s.i).2.2.2.2.2.2.1]))=List.length (s.base++([(bC s.m s.i).2.2.2.2.2.2.1]))) (.req (0=0∧(List.length s.most+List.length ([(0:Int)]))=List.length ((s.most++([(0:Int)])).set s.i.toNat (bC s.m s.i).2.2.2.2.1)) (.ok (.next {s with i:=(IntKind.i64.wrap (s.i+1)),base:=(s.base++([(bC s.m s.i).2.2.2.2.2.2.1])),most:=((s.most++([(0:Int)])).set s.i.toNat (bC s.m s.i).2.2.2.2.1)})))))) (.req (0=0∧(List.length s.base+List.length ([(bC s.m s.i).2.2.2.2.2.2.1]))=List.length (s.base++([(bC s.m s.i).2.2.2.2.2.2.1]))) (.req (0=0∧(List.length s.most+List.length ([(0:Int)]))=List.length (s.most++([(0:Int)]))) (.ok (.next {s with i:=(IntKind.i64.wrap (s.i+1)),base:=(s.base++([(bC s.m s.i).2.2.2.2.2.2.1])),most:=(s.most++([(0:Int)]))}))))))))) (.rl s.base (.rl s.most (.ok (.stop (.exit 0) s))))
abbrev ash (s:iY):=(Y6 s).rd s
def adg (s:iY):Prop:=s.i=0∧s.base=[]∧s.most=[]∧s.k=(List.length s.m:Int)∧s.k≤1000∧s.d.length=s.m.length
def MB (s:iY):Prop:=(0≤s.i∧s.i≤s.k)∧s.base=oz s.i.toNat (fun j=>Ac (bC s.m j))∧s.most=oz s.i.toNat (fun j=>if (qI s.d j).1=true then (bC s.m j).2.2.2.2.1 else 0)∧s.k=(List.length s.m:Int)∧s.k≤1000∧s.d.length=s.m.length
def Hl (s:iY):Nat:=(s.k-s.i).toNat
def akw (x:Ex) (_ s':iY):Prop:=x=.exit 0∧s'.base=oz s'.m.length (fun j=>Ac (bC s'.m j))∧s'.most=oz s'.m.length (fun j=>if (qI s'.d j).1=true then (bC s'.m j).2.2.2.2.1 else 0)
theorem aAp:∀s,adg s→MB s:=by
 intro s h
 obtain ⟨h0,hb,hm,h2⟩:=h
 exact ⟨by omega,by rw [h0,hb];rfl,by rw [h0,hm];rfl,h2⟩
theorem awu (s:iY) (hI:MB s):bJ (fun s'=>MB s'∧Hl s'<Hl s) (fun x s'=>akw x s s') (ash s):=by
 unfold ash Y6
 dsimp only [T.rd,T.rl]
 obtain ⟨⟨h0,h1⟩,hb,hm,h2,h3,h4⟩:=hI
 have hbl:s.base.length=s.i.toNat:=(by rw [hb,bW])
 have hml:s.most.length=s.i.toNat:=(by rw [hm,bW])
 refine au (fun c1=>?_) (fun c1=>?_)
 ·refine au (fun c2=>?_) (fun c2=>?_)
  ·have c1:s.i<s.k:=by simpa using c1
   rw [aK (x:=s.i+1) (by omega) (by omega)]
   have hs:s.i.toNat+1=(s.i+1).toNat:=by omega
   refine ⟨⟨⟨by simp only;omega,by simp only;omega⟩,by simp only;rw [←hs,xB,←hb,Int.toNat_of_nonneg h0];rfl,?_,h2,h3,h4⟩,by simp only [Hl];omega⟩
   simp only
   rw [←hs,xB,←hm,Int.toNat_of_nonneg h0,if_pos (show (qI s.d s.i).1=true from c2),List.set_append_right _ _ (by omega),show s.i.toNat-s.most.length=0 by omega]
   rfl
  ·have c1:s.i<s.k:=by simpa using c1
   rw [aK (x:=s.i+1) (by omega) (by omega)]
   have hs:s.i.toNat+1=(s.i+1).toNat:=by omega
   refine ⟨⟨⟨by simp only;omega,by simp only;omega⟩,by simp only;rw [←hs,xB,←hb,Int.toNat_of_nonneg h0];rfl,?_,h2,h3,h4⟩,by simp only [Hl];omega⟩
   simp only
   rw [←hs,xB,←hm,Int.toNat_of_nonneg h0,if_neg (show ¬(qI s.d s.i).1=true by rw [c2];decide)]
 ·have c1:s.k≤s.i:=by simpa using c1
  have hi:s.i.toNat=s.m.length:=by omega
  exact ⟨rfl,by rw [←hi];exact hb,by rw [←hi];exact hm⟩
def EO:bK iY:=⟨0,48,[1,2,3,8,9,13,14,15],[.nl 8 3 (.int .i64),.nl 9 3 (.int .i64)],aDv,aCu,fun v b=>⟨aQ qG (v.getD 0 .junk),gI (v.getD 1 .junk),aQ dS (v.getD 5 .junk),gI (v.getD 6 .junk),gI (v.getD 7 .junk),aQ dX (aX (aO b 0) 0),aQ .str (aX (aO b 0) 1),aQ dY (aX (aO b 0) 2),aQ dS (aX (aO b 0) 3),aQ dZ (aX (aO b 0) 4),iT (.int .i64) (aO b 1),iT (.int .i64) (aO b 2)⟩,Y6,fun s r=> {r with d:=s.d,tick:=s.tick,m:=s.m,k:=s.k,ah:=s.ah,aA:=s.aA,ai:=s.ai,ak:=s.ak,aJ:=s.aJ},fun s=>s,fun _ s=>s,[.exit 0],adg,MB,Hl⟩
abbrev jb:=EO.run
abbrev apF:=EO.jJ
abbrev ayq:=EO.q
theorem au6 (s:iY) (hI:MB s):(Y6 s).all (fun _=>True):=by
 refine ⟨fun c1=>⟨?_,?_,?_,?_,fun c2=>⟨?_,?_,?_,?_,trivial⟩,fun c2=>⟨?_,?_,trivial⟩⟩,fun c1=>⟨⟨rfl,rfl⟩,⟨rfl,rfl⟩,trivial⟩⟩
 all_goals ((obtain ⟨⟨h0,h1⟩,hb,hm,h2,h3,h4⟩:=hI;have hbl:s.base.length=s.i.toNat:=(by rw [hb,bW]);have hml:s.most.length=s.i.toNat:=(by rw [hm,bW]);(try simp only [decide_eq_true_eq] at c1);first|omega|(refine ⟨by omega,?_,?_⟩<;>simp only [List.length_cons,List.length_nil]<;>omega) |(simp only [List.length_append,List.length_cons,List.length_nil];omega) |(refine ⟨by omega,?_⟩;simp only [List.length_cons,List.length_nil];omega) |exact ⟨rfl,by simp⟩))
noncomputable def WY:Specs:=aZ [(19,y7),(52,y5)]
theorem aiF:∀g S,WY g=some S→Valid Tryz.prog aP g S:=aS (l:=[(19,y7),(52,y5)]) ⟨Vg,Vf,trivial⟩
theorem ag6:EO.Ok:=⟨fun s=>by kernel_rfl,fun s=>by kernel_rfl,fun s=>rfl,fun s t r=>rfl,fun s=>rfl,fun s=>by kernel_rfl⟩
theorem afX:EO.Pf (akw):=⟨aAp,fun _ _=>rfl,awu,au6⟩
theorem amk:bg Tryz.prog aP (AN 0) (.loop Bl) EO.lp:=bK.snd ag6 afX (aT (Γ:=WY) (K:=eu) (L:=aB) aiF aF Bl (fun b hb=>by rw [show aC Bl=[] by kernel_rfl] at hb;cases hb)) (fun s=>by kernel_rfl)
theorem aoT (s:iY) (hE:adg s):∃s',MB s'∧akw (apF s) s' (jb s):=bK.fin ag6 afX s hE
def acz:List LV→T LV
 | [.agg [.xl (.pair .str (.pair (.int .i64) (.pair (.int .i64) (.pair (.int .i64) (.pair (.pair (.int .i64) (.int .i64)) (.pair (.int .i64) (.pair (.int .i64) (.pair (.int .i64) (.pair (.int .i64) (.int .i64)))))))))) cs,.xl (.str) os,.xl (.pair .str (.pair (.int .i64) (.pair (.int .i64) (.int .i64)))) ks,.xl (.pair .str (.pair (.int .i64) (.pair (.int .i64) (.pair (.int .i64) (.pair (.int .i64) (.pair (.int .i64) (.pair (.int .i64) (.int .i64)))))))) gs,.xl (.pair .str (.int .i64)) bs],.xl (.pair .bool (.pair (.int .i64) (.pair (.int .i64) (.int .i64)))) d,.v (.int .i64 t)]=> .req (Si cs os ks gs bs d∧xQ d t∧d.length≤19) (.ok (.iF [.xl (.int .i64) (YK cs os ks gs bs d t),.v (.int .i64 0)]))
 |_=> .no
noncomputable def X5:List LV→T LV:=gB Tryz.prog Tryz.f23.params.toList acz
theorem aoo (cs:List Cd) (os:List ByteArray) (ks:List Ko) (gs:List Ch) (bs:List Ba) (d:List Dm) (t:Int):bT Tryz.prog aP (WY) eu (fun i=>if i=3 then EO.lp else aB i) Tryz.f23 [.agg [.xl dX cs,.xl .str os,.xl dY ks,.xl dS gs,.xl dZ bs],.xl qG d,.v (.int .i64 t)]=.req (0=0∧0=List.length ([]:List Int)) (.req (0=0∧0=List.length ([]:List Int)) (.req (ayq (⟨d,t,gs,(List.length gs:Int),(0:Int),cs,os,ks,gs,bs,([]:List Int),([]:List Int)⟩:iY)) (.req (xQ d t∧d.length≤19) (.req (0+(List.length (jb (⟨d,t,gs,(List.length gs:Int),(0:Int),cs,os,ks,gs,bs,([]:List Int),([]:List Int)⟩:iY)).base)≤List.length (jb (⟨d,t,gs,(List.length gs:Int),(0:Int),cs,os,ks,gs,bs,([]:List Int),([]:List Int)⟩:iY)).base) (.req (0+(List.length (jb (⟨d,t,gs,(List.length gs:Int),(0:Int),cs,os,ks,gs,bs,([]:List Int),([]:List Int)⟩:iY)).most)≤List.length (jb (⟨d,t,gs,(List.length gs:Int),(0:Int),cs,os,ks,gs,bs,([]:List Int),([]:List Int)⟩:iY)).most) (.ok (.iF [.xl (.int .i64) (wS cs os ks gs bs (((jb (⟨d,t,gs,(List.length gs:Int),(0:Int),cs,os,ks,gs,bs,([]:List Int),([]:List Int)⟩:iY)).base.drop 0).take (List.length (jb (⟨d,t,gs,(List.length gs:Int),(0:Int),cs,os,ks,gs,bs,([]:List Int),([]:List Int)⟩:iY)).base)) (((jb (⟨d,t,gs,(List.length gs:Int),(0:Int),cs,os,ks,gs,bs,([]:List Int),([]:List Int)⟩:iY)).most.drop 0).take (List.length (jb (⟨d,t,gs,(List.length gs:Int),(0:Int),cs,os,ks,gs,bs,([]:List Int),([]:List Int)⟩:iY)).most)) (jI d t)),.v (.int .i64 (shE cs os ks gs bs (((jb (⟨d,t,gs,(List.length gs:Int),(0:Int),cs,os,ks,gs,bs,([]:List Int),([]:List Int)⟩:iY)).base.drop 0).take (List.length (jb (⟨d,t,gs,(List.length gs:Int),(0:Int),cs,os,ks,gs,bs,([]:List Int),([]:List Int)⟩:iY)).base)) (((jb (⟨d,t,gs,(List.length gs:Int),(0:Int),cs,os,ks,gs,bs,([]:List Int),([]:List Int)⟩:iY)).most.drop 0).take (List.length (jb (⟨d,t,gs,(List.length gs:Int),(0:Int),cs,os,ks,gs,bs,([]:List Int),([]:List Int)⟩:iY)).most)) (jI d t)))]))))))):=by kernel_rfl
theorem atz:Valid Tryz.prog aP 23 X5:=aH Tryz.func23 rfl aiF aF (L:=(fun i=>if i=3 then EO.lp else aB i)) (fun b hb=>by
 rw [show aC _=[Bl] by kernel_rfl] at hb
 simp only [List.mem_cons,List.not_mem_nil,or_false] at hb
 subst hb
 exact amk) (fun args lv h=>by
 unfold acz at h
 split at h
 ·simp only [canL,canX]
  rw [aoo]
  rename_i cs os ks gs bs d t
  obtain ⟨⟨hs,hw⟩,rfl⟩:=h
  have hE:adg ⟨d,t,gs,(List.length gs:Int),0,cs,os,ks,gs,bs,[],[]⟩:=⟨rfl,rfl,rfl,rfl,by have:=hs.dl;show (gs.length:Int)≤1000;omega,hs.dl⟩
  obtain ⟨_,_,q1,q2,q3⟩:=aoT _ hE
  have q2:(jb ⟨d,t,gs,(List.length gs:Int),0,cs,os,ks,gs,bs,[],[]⟩).base=mO gs:=q2
  have q3:(jb ⟨d,t,gs,(List.length gs:Int),0,cs,os,ks,gs,bs,[],[]⟩).most=oU gs d:=q3
  refine ⟨⟨rfl,rfl⟩,⟨rfl,rfl⟩,⟨hE,rfl,rfl⟩,hw,by omega,by omega,?_⟩
  rw [List.drop_zero,List.take_length,List.drop_zero,List.take_length,q2,q3,afa (YJ hs)]
  rfl
 ·cases h)
end Go.Proofs.YtlihnbimgclogaaGreatDoor
namespace Go.Proofs.YtlihnbimgclogaaGreatDoor
open Go.Sx
def acn:List LV→T LV
 | [.v (.int .i64 n)]=> .ok (.v (.bool (inB n 0 1000000)))
 |_=> .no
noncomputable def XV:List LV→T LV:=gB Tryz.prog Tryz.f153.params.toList acn
noncomputable def aiY:Specs:=aZ []
theorem awT:∀g S,aiY g=some S→Valid Tryz.prog aP g S:=aS (l:=[]) trivial
theorem aof (n:Int):bT Tryz.prog aP (aiY) eu aB Tryz.f153 [.v (.int .i64 n)]=.ok (.v (.bool ((decide (n≥0))&&(decide (n≤1000000))))):=by kernel_rfl
theorem atr:Valid Tryz.prog aP 153 XV:=aH Tryz.func153 rfl awT aF (aW (by kernel_rfl)) (fun args lv h=>by
 unfold acn at h
 split at h
 ·simp only [canL,canX]
  rw [aof]
  exact h
 ·cases h)
def ack:List LV→T LV
 | [.v (.int .i64 n)]=> .ok (.v (.tuple #[.int .i64 (wtA n),.int .i64 (wtE n)]))
 |_=> .no
noncomputable def XU:List LV→T LV:=gB Tryz.prog Tryz.f135.params.toList ack
noncomputable def aiX:Specs:=aZ [(153,XV)]
theorem awS:∀g S,aiX g=some S→Valid Tryz.prog aP g S:=aS (l:=[(153,XV)]) ⟨atr,trivial⟩
theorem aoe (n:Int):bT Tryz.prog aP (aiX) eu aB Tryz.f135 [.v (.int .i64 n)]=.br (!(inB n 0 1000000)) (.ok (.v (.tuple #[.int .i64 0,.int .i64 1]))) (.req ((999800:Int)≠0) (.ok (.v (.tuple #[.int .i64 (IntKind.i64.wrap ((IntKind.i64.wrap ((IntKind.i64.wrap (n*1000000))+999799)).tdiv 999800)),.int .i64 0])))):=by kernel_rfl
theorem atq:Valid Tryz.prog aP 135 XU:=aH Tryz.func135 rfl awS aF (aW (by kernel_rfl)) (fun args lv h=>by
 unfold ack at h
 split at h
 ·simp only [canL,canX]
  rw [aoe]
  rename_i n
  obtain rfl:=h
  unfold wtA wtE
  refine ⟨fun c=>?_,fun c=>⟨by decide,?_⟩⟩
  ·rw [ntW c]
   rfl
  ·have c:=NS c
   have hb:=dN.1 c
   rw [if_pos c,if_pos c,aK (x:=n*1000000) (by omega) (by omega),aK (x:=n*1000000+999799) (by omega) (by omega),Int.tdiv_eq_ediv_of_nonneg (by omega),aK (by omega) (by omega)]
   rfl
 ·cases h)
def acj:List LV→T LV
 | [.v (.agg ⟨[.int .i64 nu,.int .i64 co,.int .i64 am,.int .i64 fr,.int .i64 tk]⟩)]=> .req ((0≤fr∧fr≤1000000)∧0≤tk∧tk≤1000000) (.ok (.v (.int .i64 (JS (nu,co,am,fr,tk)))))
 |_=> .no
noncomputable def XT:List LV→T LV:=gB Tryz.prog Tryz.f107.params.toList acj
noncomputable def aiW:Specs:=aZ [(135,XU)]
theorem awR:∀g S,aiW g=some S→Valid Tryz.prog aP g S:=aS (l:=[(135,XU)]) ⟨atq,trivial⟩
theorem aod (nu co am fr tk:Int):bT Tryz.prog aP (aiW) eu aB Tryz.f107 [.v (.agg #[.int .i64 nu,.int .i64 co,.int .i64 am,.int .i64 fr,.int .i64 tk])]=.ok (.v (.int .i64 (IntKind.i64.wrap ((IntKind.i64.wrap (fr+10))+(wtA tk))))):=by kernel_rfl
theorem atp:Valid Tryz.prog aP 107 XT:=aH Tryz.func107 rfl awR aF (aW (by kernel_rfl)) (fun args lv h=>by
 unfold acj at h
 split at h
 ·simp only [canL,canX]
  rw [aod]
  rename_i nu co am fr tk
  obtain ⟨⟨hf,ht⟩,rfl⟩:=h
  have c:inB tk 0 1000000=true:=dN.2 ht
  have hw:=aeC ht.1
  have ea:wtA tk=wt tk:=by unfold wtA;rw [if_pos c]
  rw [ea,aK (x:=fr+10) (by omega) (by omega),aK (by omega) (by omega)]
  rfl
 ·cases h)
structure jG where
 l:List Le
 iD:Int
 tick:Int
 e:Int
 i:Int
 bD:List Cd
 fP:List ByteArray
 dO:List Ko
 dV:List Ch
 jw:List Ba
 out:List Int
def aDh (s:jG):List LV:=[.xl ng s.l,.v (.int .i64 s.iD),.v (.int .i64 s.tick),.v (.slice none 0 0),.v (.int .i64 s.e),.os 1 1 0 (List.length s.out),.v (.int .i64 s.i)]
def aCg (s:jG):List aU:=[⟨[.xl dX s.bD,.xl .str s.fP,.xl dY s.dO,.xl dS s.dV,.xl dZ s.jw],28,.cl,false⟩,⟨[],3,.vec (.int .i64) s.out,false⟩]
noncomputable def TI:Code:=((aC (Tryz.f60.body.getD .skip))[0]?).getD .skip
def QH (s:jG):T (Rd jG):=
 .br (decide (s.i<(List.length s.l:Int))) (.req (0≤s.i∧s.i<(List.length s.l:Int)) (.br (decide ((gZ s.l s.i).2.1≥s.iD)) (.rl s.out (.ok (.stop (.ret) {s with e:=(1:Int)}))) (.req (0≤s.i∧s.i<(List.length s.l:Int)) (.br (decide ((gZ s.l s.i).2.2.2.1≤s.tick)) (.req (0≤s.i∧s.i<(List.length s.l:Int)) (.req ((0≤(gZ s.l s.i).2.2.2.1∧(gZ s.l s.i).2.2.2.1≤1000000)∧0≤(gZ s.l s.i).2.2.2.2∧(gZ s.l s.i).2.2.2.2≤1000000) (.br (decide (s.tick<(JS (gZ s.l s.i)))) (.req (0≤s.i∧s.i<(List.length s.l:Int)) (.req (0≤s.i∧s.i<(List.length s.l:Int)) (.req (0≤(gZ s.l s.i).2.1∧(gZ s.l s.i).2.1<((List.length s.out:Nat):Int)) (.req (0≤s.i∧s.i<(List.length s.l:Int)) (.req ((gZ s.l s.i).2.1.toNat<List.length s.out) (.req (0≤(gZ s.l s.i).2.1∧(gZ s.l s.i).2.1<((List.length s.out:Nat):Int)) (.req ((gZ s.l s.i).2.1.toNat<List.length s.out) (.req (0=0∧(List.length s.out)=List.length (s.out.set (gZ s.l s.i).2.1.toNat (if (s.out.getD (gZ s.l s.i).2.1.toNat (Ty.dflt (.int .i64)))<(gZ s.l s.i).2.2.1 then (gZ s.l s.i).2.2.1 else (s.out.getD (gZ s.l s.i).2.1.toNat (Ty.dflt (.int .i64)))))) (.ok (.next {s with i:=(IntKind.i64.wrap (s.i+1)),out:=(s.out.set (gZ s.l s.i).2.1.toNat (if (s.out.getD (gZ s.l s.i).2.1.toNat (Ty.dflt (.int .i64)))<(gZ s.l s.i).2.2.1 then (gZ s.l s.i).2.2.1 else (s.out.getD (gZ s.l s.i).2.1.toNat (Ty.dflt (.int .i64)))))})))))))))) (.rl s.out (.ok (.next {s with i:=(IntKind.i64.wrap (s.i+1))})))))) (.rl s.out (.ok (.next {s with i:=(IntKind.i64.wrap (s.i+1))}))))))) (.rl s.out (.ok (.stop (.exit 0) s)))
abbrev aaT (s:jG):=(QH s).rd s
def ac9 (s:jG):Prop:=s.i=0∧(List.length s.l:Int)≤1000∧(∀x∈s.l,leV x=true∧x.2.1<(s.out.length:Int))∧s.iD=(s.out.length:Int)
def UF (s:jG):Prop:=(0≤s.i∧s.i≤(List.length s.l:Int))∧(List.length s.l:Int)≤1000∧(∀x∈s.l,leV x=true∧x.2.1<(s.out.length:Int))∧s.iD=(s.out.length:Int)
def CV (s:jG):Nat:=((List.length s.l:Int)-s.i).toNat
def asN (x:Ex) (_ _:jG):Prop:=x=.exit 0
theorem azV:∀s,ac9 s→UF s:=by
 intro s h
 obtain ⟨h0,h1⟩:=h
 exact ⟨by omega,h1⟩
theorem avF (s:jG) (hI:UF s):bJ (fun s'=>UF s'∧CV s'<CV s) (fun x s'=>asN x s s') (aaT s):=by
 unfold aaT QH
 dsimp only [T.rd,T.rl]
 obtain ⟨⟨h0,h1⟩,h2,h3,h4⟩:=hI
 refine au (fun c1=>?_) (fun c1=>?_)
 ·refine au (fun c2=>?_) (fun c2=>?_)
  ·have c1:s.i<(List.length s.l:Int):=by simpa using c1
   have hv:=h3 _ (kC h0 c1)
   exact absurd (of_decide_eq_true c2) (by omega)
  ·refine au (fun c3=>?_) (fun c3=>?_)
   ·refine au (fun c4=>?_) (fun c4=>?_)
    ·have c1:s.i<(List.length s.l:Int):=by simpa using c1
     have hv:=h3 _ (kC h0 c1)
     rw [aK (x:=s.i+1) (by omega) (by omega)]
     exact ⟨⟨⟨by simp only;omega,by simp only;omega⟩,h2,fun x hx=>by simp only [List.length_set];exact h3 x hx,by simp only [List.length_set];exact h4⟩,by simp only [CV];omega⟩
    ·have c1:s.i<(List.length s.l:Int):=by simpa using c1
     have hv:=h3 _ (kC h0 c1)
     rw [aK (x:=s.i+1) (by omega) (by omega)]
     exact ⟨⟨⟨by simp only;omega,by simp only;omega⟩,h2,h3,h4⟩,by simp only [CV];omega⟩
   ·have c1:s.i<(List.length s.l:Int):=by simpa using c1
    have hv:=h3 _ (kC h0 c1)
    rw [aK (x:=s.i+1) (by omega) (by omega)]
    exact ⟨⟨⟨by simp only;omega,by simp only;omega⟩,h2,h3,h4⟩,by simp only [CV];omega⟩
 ·exact rfl
def JD:bK jG:=⟨1,82,[0,1,2,6,7,8,9],[],aDh,aCg,fun v b=>⟨aQ ng (v.getD 0 .junk),gI (v.getD 1 .junk),gI (v.getD 2 .junk),gI (v.getD 4 .junk),gI (v.getD 6 .junk),aQ dX (aX (aO b 0) 0),aQ .str (aX (aO b 0) 1),aQ dY (aX (aO b 0) 2),aQ dS (aX (aO b 0) 3),aQ dZ (aX (aO b 0) 4),iT (.int .i64) (aO b 1)⟩,QH,fun s r=> {r with l:=s.l,iD:=s.iD,tick:=s.tick,bD:=s.bD,fP:=s.fP,dO:=s.dO,dV:=s.dV,jw:=s.jw},fun s=>s,fun _ s=>s,[.ret,.exit 0],ac9,UF,CV⟩
abbrev jV:=JD.run
abbrev abn:=JD.jJ
abbrev ayc:=JD.q
noncomputable def uo:Specs:=aZ [(50,Jb),(107,XT)]
theorem vX:∀g S,uo g=some S→Valid Tryz.prog aP g S:=aS (l:=[(50,Jb),(107,XT)]) ⟨aeP,atp,trivial⟩
noncomputable def WQ:Hand:=inl Tryz.prog aP uo (lm Tryz.prog aP (uo) 20 2) 9
theorem aik:dD Tryz.prog aP WQ:=bP vX (dR vX) 9
theorem auS (s:jG) (hI:UF s):(QH s).all (fun _=>True):=by
 refine ⟨fun c1=>⟨?_,fun c2=>⟨⟨rfl,rfl⟩,trivial⟩,fun c2=>⟨?_,fun c3=>⟨?_,?_,fun c4=>⟨?_,?_,?_,?_,?_,?_,?_,?_,trivial⟩,fun c4=>⟨⟨rfl,rfl⟩,trivial⟩⟩,fun c3=>⟨⟨rfl,rfl⟩,trivial⟩⟩⟩,fun c1=>⟨⟨rfl,rfl⟩,trivial⟩⟩
 all_goals ((obtain ⟨⟨h0,h1⟩,h2,h3,h4⟩:=hI;simp only [decide_eq_true_eq] at c1;have hv:=(h3 _ (kC h0 c1)).2;have hl:=Pm.1 (h3 _ (kC h0 c1)).1;first|omega|exact ⟨rfl,by simp⟩))
theorem ag0:JD.Ok:=⟨fun s=>by kernel_rfl,fun s=>by kernel_rfl,fun s=>rfl,fun s t r=>rfl,fun s=>rfl,fun s=>by kernel_rfl⟩
theorem afR:JD.Pf (asN):=⟨azV,fun _ _=>rfl,avF,auS⟩
theorem al7:bg Tryz.prog aP (AN 1) (.loop TI) JD.lp:=bK.snd ag0 afR (bF (Γ:=uo) (K:=WQ) (L:=(rY Tryz.prog aP uo WQ 20 2)) vX aik TI (fun b _=>dU vX aik 20 2 b)) (fun s=>by kernel_rfl)
theorem ang (s:jG) (hE:ac9 s):(fun (x:Ex) (s':jG) (v:List Int)=>x=.exit 0∧s'.out=v) (abn s) (jV s) ((fun s:jG=>((s.l.drop s.i.toNat).filter (xY s.tick)).foldl kpA s.out) s):=by
 exact bK.uy ag0 afR (fun s:jG=>((s.l.drop s.i.toNat).filter (xY s.tick)).foldl kpA s.out) (fun x s' v=>x=.exit 0∧s'.out=v) (fun s hI=>by
  show bJ _ _ (aaT s)
  unfold aaT QH
  dsimp only [T.rd,T.rl]
  obtain ⟨⟨h0,h1⟩,h2,h3,h4⟩:=hI
  refine au (fun c1=>?_) (fun c1=>?_)
  ·refine au (fun c2=>?_) (fun c2=>?_)
   ·have c1:s.i<(List.length s.l:Int):=by simpa using c1
    have hv:=h3 _ (kC h0 c1)
    exact absurd (of_decide_eq_true c2) (by omega)
   ·refine au (fun c3=>?_) (fun c3=>?_)
    ·refine au (fun c4=>?_) (fun c4=>?_)
     ·have c1:s.i<(List.length s.l:Int):=by simpa using c1
      have hv:=h3 _ (kC h0 c1)
      have e:=(sN h0 c1).1
      rw [aK (x:=s.i+1) (by omega) (by omega)]
      show List.foldl _ _ _=List.foldl _ _ _
      have hb:xY s.tick (gZ s.l s.i)=true:=by
       unfold xY
       rw [c3,decide_eq_true (p:=JS _>_) (of_decide_eq_true c4)]
       rfl
      simp only
      rw [e,List.filter_cons,if_pos hb,List.foldl_cons]
      rfl
     ·have c1:s.i<(List.length s.l:Int):=by simpa using c1
      have hv:=h3 _ (kC h0 c1)
      have e:=(sN h0 c1).1
      rw [aK (x:=s.i+1) (by omega) (by omega)]
      show List.foldl _ _ _=List.foldl _ _ _
      have hb:¬xY s.tick (gZ s.l s.i)=true:=by
       unfold xY
       rw [decide_eq_false (p:=JS _>_) (of_decide_eq_false c4),Bool.and_false]
       decide
      simp only
      rw [e,List.filter_cons,if_neg hb]
    ·have c1:s.i<(List.length s.l:Int):=by simpa using c1
     have hv:=h3 _ (kC h0 c1)
     have e:=(sN h0 c1).1
     rw [aK (x:=s.i+1) (by omega) (by omega)]
     show List.foldl _ _ _=List.foldl _ _ _
     have hb:¬xY s.tick (gZ s.l s.i)=true:=by
      unfold xY
      rw [c3,Bool.false_and]
      decide
     simp only
     rw [e,List.filter_cons,if_neg hb]
  ·have c1:(List.length s.l:Int)≤s.i:=by simpa using c1
   refine ⟨rfl,?_⟩
   rw [List.drop_eq_nil_of_le (by omega)]
   rfl) s hE
structure gX where
 i:Int
 ah:List Cd
 aA:List ByteArray
 ai:List Ko
 ak:List Ch
 aJ:List Ba
 out:List Int
def aDg (s:gX):List LV:=[.own 0 0,.os 1 1 0 (List.length s.out),.v (.int .i64 s.i)]
def aCf (s:gX):List aU:=[⟨[.xl dX s.ah,.xl .str s.aA,.xl dY s.ai,.xl dS s.ak,.xl dZ s.aJ],28,.cl,false⟩,⟨[],3,.vec (.int .i64) s.out,false⟩]
noncomputable def AY:Code:=((aC (Tryz.f26.body.getD .skip))[0]?).getD .skip
def QG (s:gX):T (Rd gX):=
 .br (decide (s.i<((List.length s.out:Nat):Int))) (.req (0≤s.i∧s.i<((List.length s.out:Nat):Int)) (.req (0≤s.i∧s.i<(List.length s.ak:Int)) (.req (s.i.toNat<List.length s.out) (.req (0≤s.i∧s.i<((List.length s.out:Nat):Int)) (.req (s.i.toNat<List.length s.out) (.req (0=0∧(List.length s.out)=List.length (s.out.set s.i.toNat (if (s.out.getD s.i.toNat (Ty.dflt (.int .i64)))<(bC s.ak s.i).2.2.2.2.2.2.1 then (bC s.ak s.i).2.2.2.2.2.2.1 else (s.out.getD s.i.toNat (Ty.dflt (.int .i64)))))) (.ok (.next {s with i:=(IntKind.i64.wrap (s.i+1)),out:=(s.out.set s.i.toNat (if (s.out.getD s.i.toNat (Ty.dflt (.int .i64)))<(bC s.ak s.i).2.2.2.2.2.2.1 then (bC s.ak s.i).2.2.2.2.2.2.1 else (s.out.getD s.i.toNat (Ty.dflt (.int .i64)))))})))))))) (.rl s.out (.ok (.stop (.exit 0) s)))
abbrev aaS (s:gX):=(QG s).rd s
def ac8 (s:gX):Prop:=s.i=0∧s.out.length=s.ak.length∧(List.length s.out:Int)≤1000
def UE (s:gX):Prop:=(0≤s.i∧s.i≤(List.length s.out:Int))∧s.out.length=s.ak.length∧(List.length s.out:Int)≤1000
def Oq (s:gX):Nat:=((List.length s.out:Int)-s.i).toNat
def asM (_:Ex) (_ _:gX):Prop:=True
theorem azU:∀s,ac8 s→UE s:=by
 intro s h
 obtain ⟨h0,h1⟩:=h
 exact ⟨by omega,h1⟩
theorem avE (s:gX) (hI:UE s):bJ (fun s'=>UE s'∧Oq s'<Oq s) (fun x s'=>asM x s s') (aaS s):=by
 unfold aaS QG
 dsimp only [T.rd,T.rl]
 obtain ⟨⟨h0,h1⟩,h2,h3⟩:=hI
 refine au (fun c1=>?_) (fun c1=>trivial)
 have c1:s.i<(List.length s.out:Int):=by simpa using c1
 rw [aK (x:=s.i+1) (by omega) (by omega)]
 exact ⟨⟨⟨by simp only;omega,by simp only [List.length_set];omega⟩,by simp only [List.length_set];exact h2,by simp only [List.length_set];exact h3⟩,by simp only [Oq,List.length_set];omega⟩
def EC:bK gX:=⟨0,40,[3,7,9],[.nl 7 3 (.int .i64)],aDg,aCf,fun v b=>⟨gI (v.getD 2 .junk),aQ dX (aX (aO b 0) 0),aQ .str (aX (aO b 0) 1),aQ dY (aX (aO b 0) 2),aQ dS (aX (aO b 0) 3),aQ dZ (aX (aO b 0) 4),iT (.int .i64) (aO b 1)⟩,QG,fun s r=> {r with ah:=s.ah,aA:=s.aA,ai:=s.ai,ak:=s.ak,aJ:=s.aJ},fun s=>s,fun _ s=>s,[.exit 0],ac8,UE,Oq⟩
abbrev jE:=EC.run
abbrev apv:=EC.jJ
abbrev Yv:=EC.q
theorem auR (s:gX) (hI:UE s):(QG s).all (fun _=>True):=by
 refine ⟨fun c1=>⟨?_,?_,?_,?_,?_,?_,trivial⟩,fun c1=>⟨⟨rfl,rfl⟩,trivial⟩⟩
 all_goals ((obtain ⟨⟨h0,h1⟩,h2,h3⟩:=hI;simp only [decide_eq_true_eq] at c1;first|omega|exact ⟨rfl,by simp⟩))
noncomputable def WO:Hand:=inl Tryz.prog aP uo (kE 60 1 5 (JD.lp) (lm Tryz.prog aP (uo) 20 2)) 9
theorem aij:dD Tryz.prog aP WO:=bP vX (dF Tryz.func60 rfl (by kernel_rfl) al7 (dR vX)) 9
theorem agZ:EC.Ok:=⟨fun s=>by kernel_rfl,fun s=>by kernel_rfl,fun s=>rfl,fun s t r=>rfl,fun s=>rfl,fun s=>by kernel_rfl⟩
theorem afQ:EC.Pf (asM):=⟨azU,fun _ _=>rfl,avE,auR⟩
theorem al6:bg Tryz.prog aP (AN 0) (.loop AY) EC.lp:=bK.snd agZ afQ (aT (Γ:=uo) (K:=WO) (L:=aB) vX aij AY (fun b hb=>by rw [show aC AY=[] by kernel_rfl] at hb;cases hb)) (fun s=>by kernel_rfl)
theorem anf (s:gX) (hE:ac8 s):(fun (x:Ex) (s':gX) (v:List Int)=>x=.exit 0∧s'.out=v) (apv s) (jE s) ((fun s:gX=>oz s.out.length (fun j=>if j<s.i then gi s.out j else mx (gi s.out j) (Ac (bC s.ak j)))) s):=by
 exact bK.uy agZ afQ (fun s:gX=>oz s.out.length (fun j=>if j<s.i then gi s.out j else mx (gi s.out j) (Ac (bC s.ak j)))) (fun x s' v=>x=.exit 0∧s'.out=v) (fun s hI=>by
  show bJ _ _ (aaS s)
  unfold aaS QG
  dsimp only [T.rd,T.rl]
  obtain ⟨⟨h0,h1⟩,h2,h3⟩:=hI
  refine au (fun c1=>?_) (fun c1=>?_)
  ·have c1:s.i<(List.length s.out:Int):=by simpa using c1
   rw [aK (x:=s.i+1) (by omega) (by omega)]
   show oz (List.length (s.out.set _ _)) _=oz _ _
   rw [List.length_set]
   refine vZ (by rw [bW,bW]) fun j j0 j1=>?_
   rw [bW] at j1
   rw [jF j0 j1,jF j0 j1]
   simp only
   rw [oZ h0 (by omega) j0]
   by_cases e:j=s.i
   ·subst e
    rw [if_pos (show s.i<s.i+1 by omega),if_pos rfl,if_neg (show ¬s.i<s.i by omega)]
    rfl
   ·rw [if_neg e]
    by_cases q:j<s.i
    ·rw [if_pos q,if_pos (show j<s.i+1 by omega)]
    ·rw [if_neg q,if_neg (show ¬j<s.i+1 by omega)]
  ·have c1:(List.length s.out:Int)≤s.i:=by simpa using c1
   refine ⟨rfl,vZ bW.symm fun j j0 j1=>?_⟩
   rw [bW] at j1
   rw [jF j0 j1,if_pos (show j<s.i by omega)]) s hE
def acg:List LV→T LV
 | [.agg [.xl (.pair .str (.pair (.int .i64) (.pair (.int .i64) (.pair (.int .i64) (.pair (.pair (.int .i64) (.int .i64)) (.pair (.int .i64) (.pair (.int .i64) (.pair (.int .i64) (.pair (.int .i64) (.int .i64)))))))))) _,.xl (.str) _,.xl (.pair .str (.pair (.int .i64) (.pair (.int .i64) (.int .i64)))) _,.xl (.pair .str (.pair (.int .i64) (.pair (.int .i64) (.pair (.int .i64) (.pair (.int .i64) (.pair (.int .i64) (.pair (.int .i64) (.int .i64)))))))) gs,.xl (.pair .str (.int .i64)) _],.xl (.pair (.int .i64) (.pair (.int .i64) (.pair (.int .i64) (.pair (.int .i64) (.int .i64))))) l,.v (.int .i64 t)]=> .req (Dp l (List.length gs:Int) t=true) (.ok (.xl (.int .i64) (xX gs l t)))
 |_=> .no
noncomputable def XP:List LV→T LV:=gB Tryz.prog Tryz.f26.params.toList acg
theorem aoa (cs:List Cd) (os:List ByteArray) (ks:List Ko) (gs:List Ch) (bs:List Ba) (l:List Le) (t:Int):bT Tryz.prog aP (uo) WO (fun i=>if i=3 then EC.lp else aB i) Tryz.f26 [.agg [.xl dX cs,.xl .str os,.xl dY ks,.xl dS gs,.xl dZ bs],.xl ng l,.v (.int .i64 t)]=.req ((List.length l:Int)≤1000) (.br ((!(oV l)) ||((decide ((List.length gs:Int)<0)) ||((decide ((List.length gs:Int)>16)) ||((decide (t<0)) ||(decide (t>1100000)))))) (.req (0=0∧0=List.length ([]:List Int)) (.req (Yv (⟨(0:Int),cs,os,ks,gs,bs,([]:List Int)⟩:gX)) (.req (0+(List.length (jE (⟨(0:Int),cs,os,ks,gs,bs,([]:List Int)⟩:gX)).out)≤List.length (jE (⟨(0:Int),cs,os,ks,gs,bs,([]:List Int)⟩:gX)).out) (.ok (.xl (.int .i64) (((jE (⟨(0:Int),cs,os,ks,gs,bs,([]:List Int)⟩:gX)).out.drop 0).take (List.length (jE (⟨(0:Int),cs,os,ks,gs,bs,([]:List Int)⟩:gX)).out))))))) (.req (0≤(List.length gs:Int)∧(List.length gs:Int)≤(List.length gs:Int)∧8*(List.length gs:Int)≤2^48∧(List.length gs:Int)<2^63) (.req (0=0∧(List.length gs:Int).toNat=List.length (List.replicate (List.length gs:Int).toNat (0:Int))) (.req (ayc (⟨l,(List.length gs:Int),t,(0:Int),(0:Int),cs,os,ks,gs,bs,(List.replicate (List.length gs:Int).toNat (0:Int))⟩:jG)) (.br (iy (abn (⟨l,(List.length gs:Int),t,(0:Int),(0:Int),cs,os,ks,gs,bs,(List.replicate (List.length gs:Int).toNat (0:Int))⟩:jG)) (.ret)) (.req (0=0∧0=List.length ([]:List Int)) (.req (Yv (⟨(0:Int),cs,os,ks,gs,bs,([]:List Int)⟩:gX)) (.req (0+(List.length (jE (⟨(0:Int),cs,os,ks,gs,bs,([]:List Int)⟩:gX)).out)≤List.length (jE (⟨(0:Int),cs,os,ks,gs,bs,([]:List Int)⟩:gX)).out) (.ok (.xl (.int .i64) (((jE (⟨(0:Int),cs,os,ks,gs,bs,([]:List Int)⟩:gX)).out.drop 0).take (List.length (jE (⟨(0:Int),cs,os,ks,gs,bs,([]:List Int)⟩:gX)).out))))))) (.rl (jV (⟨l,(List.length gs:Int),t,(0:Int),(0:Int),cs,os,ks,gs,bs,(List.replicate (List.length gs:Int).toNat (0:Int))⟩:jG)).out (.req (Yv (⟨(0:Int),cs,os,ks,gs,bs,(jV (⟨l,(List.length gs:Int),t,(0:Int),(0:Int),cs,os,ks,gs,bs,(List.replicate (List.length gs:Int).toNat (0:Int))⟩:jG)).out⟩:gX)) (.req (0+(List.length (jE (⟨(0:Int),cs,os,ks,gs,bs,(jV (⟨l,(List.length gs:Int),t,(0:Int),(0:Int),cs,os,ks,gs,bs,(List.replicate (List.length gs:Int).toNat (0:Int))⟩:jG)).out⟩:gX)).out)≤List.length (jE (⟨(0:Int),cs,os,ks,gs,bs,(jV (⟨l,(List.length gs:Int),t,(0:Int),(0:Int),cs,os,ks,gs,bs,(List.replicate (List.length gs:Int).toNat (0:Int))⟩:jG)).out⟩:gX)).out) (.ok (.xl (.int .i64) (((jE (⟨(0:Int),cs,os,ks,gs,bs,(jV (⟨l,(List.length gs:Int),t,(0:Int),(0:Int),cs,os,ks,gs,bs,(List.replicate (List.length gs:Int).toNat (0:Int))⟩:jG)).out⟩:gX)).out.drop 0).take (List.length (jE (⟨(0:Int),cs,os,ks,gs,bs,(jV (⟨l,(List.length gs:Int),t,(0:Int),(0:Int),cs,os,ks,gs,bs,(List.replicate (List.length gs:Int).toNat (0:Int))⟩:jG)).out⟩:gX)).out)))))))))))):=by kernel_rfl
theorem atm:Valid Tryz.prog aP 26 XP:=aH Tryz.func26 rfl vX aij (L:=(fun i=>if i=3 then EC.lp else aB i)) (fun b hb=>by
 rw [show aC _=[AY] by kernel_rfl] at hb
 simp only [List.mem_cons,List.not_mem_nil,or_false] at hb
 subst hb
 exact al6) (fun args lv h=>by
 unfold acg at h
 split at h
 ·simp only [canL,canX]
  rw [aoa]
  rename_i cs os ks gs bs l t
  obtain ⟨ho,rfl⟩:=h
  have ho':=ho
  unfold Dp at ho'
  rw [Bool.and_eq_true] at ho'
  have c:=ho'.1
  have hb:=List.all_eq_true.1 ho'.2
  rw [Bool.and_eq_true,Bool.and_eq_true,dN,dN] at c
  obtain ⟨hv,hn,ht⟩:=c
  have hl:=vT hv
  have hr:(!oV l ||(decide ((List.length gs:Int)<0) ||(decide ((List.length gs:Int)>16) ||(decide (t<0) ||decide (t>1100000)))))=false:=by
   rw [ao6,ao7,hv,dN.2 hn,dN.2 ht]
   rfl
  rw [hr]
  refine ⟨by omega,fun h=>(by cases h),fun _=>⟨by omega,⟨rfl,by simp⟩,?_⟩⟩
  have hE:ac9 ⟨l,(List.length gs:Int),t,0,0,cs,os,ks,gs,bs,List.replicate (List.length gs:Int).toNat 0⟩:=⟨rfl,by simp only;omega,fun x hx=>⟨hl.2 x hx,by
   have:=of_decide_eq_true (hb x hx)
   simp only [List.length_replicate]
   omega⟩,by simp⟩
  obtain ⟨q1,q2⟩:=ang _ hE
  have q2:(jV ⟨l,(List.length gs:Int),t,0,0,cs,os,ks,gs,bs,List.replicate (List.length gs:Int).toNat 0⟩).out=Ub gs.length l t:=q2.trans (by show List.foldl kpA (List.replicate (List.length gs:Int).toNat 0) _=_;rw [Int.toNat_natCast];rfl)
  refine ⟨⟨hE,rfl,rfl⟩,?_⟩
  rw [q1]
  refine ⟨fun h=>(by cases h),fun _=>?_⟩
  have hol:(jV ⟨l,(List.length gs:Int),t,0,0,cs,os,ks,gs,bs,List.replicate (List.length gs:Int).toNat 0⟩).out.length=gs.length:=by rw [q2,wF]
  have hE2:ac8 ⟨0,cs,os,ks,gs,bs,(jV ⟨l,(List.length gs:Int),t,0,0,cs,os,ks,gs,bs,List.replicate (List.length gs:Int).toNat 0⟩).out⟩:=⟨rfl,hol,by show ((jV ⟨l,(List.length gs:Int),t,0,0,cs,os,ks,gs,bs,List.replicate (List.length gs:Int).toNat 0⟩).out.length:Int)≤1000;omega⟩
  obtain ⟨_,q4⟩:=anf _ hE2
  have q4:(jE ⟨0,cs,os,ks,gs,bs,(jV ⟨l,(List.length gs:Int),t,0,0,cs,os,ks,gs,bs,List.replicate (List.length gs:Int).toNat 0⟩).out⟩).out=xX gs l t:=q4.trans (by
   show oz (jV ⟨l,(List.length gs:Int),t,0,0,cs,os,ks,gs,bs,List.replicate (List.length gs:Int).toNat 0⟩).out.length _=_
   rw [hol]
   refine vZ (by unfold xX;rw [bW,bW]) fun j j0 j1=>?_
   unfold xX at j1⊢
   rw [bW] at j1
   rw [jF j0 j1,jF j0 j1]
   simp only
   rw [if_neg (show ¬j<0 by omega),q2]
   unfold mx
   split<;>split<;>omega)
  refine ⟨⟨rfl,rfl⟩,⟨hE2,rfl,rfl⟩,by omega,?_⟩
  show LV.xl _ _=_
  rw [List.drop_zero,List.take_length,q4]
 ·cases h)
end Go.Proofs.YtlihnbimgclogaaGreatDoor
namespace Go.Proofs.YtlihnbimgclogaaGreatDoor
open Go.Sx
section
variable {P : List Int → Bool} {tp : Int → Int}
end
end Go.Proofs.YtlihnbimgclogaaGreatDoor
namespace Go.Proofs.YtlihnbimgclogaaGreatDoor
open Go.Sx
theorem am6 {al x y:List Int}{r:Rw}(hm:∀m∈r.2,0≤gi y m∧gi y m≤gi x m) (h:rowB al x r=true):rowB al y r=true:=by
 unfold rowB at h⊢
 rw [Bool.or_eq_true] at h⊢
 rcases h with h|h
 ·left
  rw [List.all_eq_true] at h⊢
  intro m hmm
  have h1:=h m hmm
  have h2:=hm m hmm
  rw [beq_iff_eq] at h1⊢
  omega
 ·right
  exact decide_eq_true (Int.le_trans (Q9 fun m hmm=>(hm m hmm).2) (of_decide_eq_true h))
theorem agm {rows:List Rw}{al x y:List Int}(hm:∀r∈rows,∀m∈r.2,0≤gi y m∧gi y m≤gi x m) (h:uM rows al x=true):uM rows al y=true:=by
 unfold uM at h⊢
 rw [List.all_eq_true] at h⊢
 exact fun r hr=>am6 (hm r hr) (h r hr)
section
variable {cs : List Cd} {os : List ByteArray} {ks : List Ko} {gs : List Ch} {bs : List Ba} {l : List Le} {rs : List Ra} {d : List Dm} {t n : Int}
theorem ae7 {al mo od:List Int}(hk:qH cs os ks gs bs al mo od=true):uM (jc cs gs cs.length) al (wS cs os ks gs bs al mo od)=true:=by
 rw [ae8 hk]
 exact aws (ae6 hk)
theorem ajn {w:List Int}{k:Nat}{j:Int}(h0:0≤j) (h1:j<(k:Int)):gi (PS gs rs w k) j=nxA (bC gs j) (kJ rs j) (gi w j):=jF h0 h1
theorem ajj (V:Vd cs os ks gs bs l rs d t n) {j:Int}(j0:0≤j) (j1:j<(gs.length:Int)):0≤gi (PS gs rs (RX cs os ks gs bs l d t) gs.length) j∧gi (PS gs rs (RX cs os ks gs bs l d t) gs.length) j≤gi (RX cs os ks gs bs l d t) j∧gi (RX cs os ks gs bs l d t) j≤gi (YK cs os ks gs bs d t) j:=by
 have hk:=ajk V j j0 j1
 rw [ajn j0 j1]
 exact ⟨(V9 hk).1,(anN hk rfl).2.1,((ae9 (ZW V)).2 j j0 j1).2⟩
theorem am4 {r:Rw}{m:Int}(hr:r∈jc cs gs cs.length) (hm:m∈r.2):0≤m∧m<(gs.length:Int):=(row_mem hr).2.1 m hm
theorem ap1 (V:Vd cs os ks gs bs l rs d t n):uM (jc cs gs cs.length) (xX gs l t) (PS gs rs (RX cs os ks gs bs l d t) gs.length)=true:=
 agm (fun r hr m hm=>by
  have hm:=am4 hr hm
  have:=ajj V hm.1 hm.2
  exact ⟨this.1,this.2.1⟩) (ae7 (ZW V))
theorem aBt (V:Vd cs os ks gs bs l rs d t n):aek gs (PS gs rs (RX cs os ks gs bs l d t) gs.length):=⟨bW,fun a ha=>by
 obtain ⟨j,⟨h0,h1⟩,rfl⟩:=ahQ ha
 have h1:j<(gs.length:Int):=by unfold PS at h1;rw [bW] at h1;exact h1
 have h2:=ajj V h0 h1
 have h3:=aqR V (j:=j)
 omega⟩
theorem axI (V:Vd cs os ks gs bs l rs d t n) {x:List Int}(hx:aek gs x):∀r∈jc cs gs cs.length,Gu (xX gs l t) x r:=fun r hr=>by
 have hm:=row_mem hr
 refine ⟨by have:=V.gl;have:=hm.2.2.1;omega,fun m hmm=>?_,fun a ha=>?_,hx.2⟩
 ·have:=hm.2.1 m hmm
  rw [hx.1]
  unfold xX
  rw [bW]
  omega
 ·have:=ajy V a ha
  omega
theorem aBb (h:(!aph cs os ks gs bs l rs d)=false):(l.length:Int)≤1000:=by
 have h:=NS h
 unfold aph at h
 simp only [Bool.and_eq_true,decide_eq_true_eq] at h
 omega
theorem axj (c:Gf cs os ks gs bs l rs d t n=true):IE cs os ks gs bs l rs d t n=PS gs rs (RX cs os ks gs bs l d t) gs.length∧Xg cs os ks gs bs l rs d t n=dcR gs rs (RX cs os ks gs bs l d t) gs.length∧deL cs os ks gs bs l rs d t n=dcL gs l t n (PS gs rs (RX cs os ks gs bs l d t) gs.length) gs.length∧deE cs os ks gs bs l rs d t n=0:=by
 unfold IE Xg deL deE
 rw [if_pos c,if_pos c,if_pos c,if_pos c]
 exact ⟨rfl,rfl,rfl,rfl⟩
end
end Go.Proofs.YtlihnbimgclogaaGreatDoor
namespace Go.Proofs.YtlihnbimgclogaaGreatDoor
open Go.Sx
structure pM where
 l:List Le
 tick:Int
 q:Bool
 xZ:Bool
 z:List Int
 a:List Int
 r:List Ra
 rows:List Rw
 g:Int
 k:Int
 i:Int
 ah:List Cd
 aA:List ByteArray
 ai:List Ko
 ak:List Ch
 aJ:List Ba
def aDO (s:pM):List LV:=[.xl ng s.l,.v (.int .i64 s.tick),.own 0 0,.v (.bool s.q),.v (.bool s.xZ),.xl (.int .i64) s.z,.xl (.int .i64) s.a,.xl Fg s.r,.xl zl s.rows,.v (.int .i64 s.g),.v (.int .i64 s.k),.v (.int .i64 s.i)]
def aCN (s:pM):List aU:=[⟨[.xl dX s.ah,.xl .str s.aA,.xl dY s.ai,.xl dS s.ak,.xl dZ s.aJ],28,.cl,false⟩]
noncomputable def BJ:Code:=((aC (Tryz.f5.body.getD .skip))[0]?).getD .skip
def Zk (s:pM):T (Rd pM):=
 .br (decide (s.i<s.k)) (.req (0≤s.i∧s.i<(List.length s.a:Int)) (.br (decide ((gi s.a s.i)<0)) (.ok (.stop (.ret) {s with q:=false})) (.req (0≤s.i∧s.i<(List.length s.a:Int)) (.req (0≤s.i∧s.i<(List.length s.z:Int)) (.br (decide ((gi s.a s.i)>(gi s.z s.i))) (.ok (.stop (.ret) {s with q:=false})) (.req (0≤s.i∧s.i<(List.length s.r:Int)) (.req (0≤s.i∧s.i<(List.length s.a:Int)) (.br ((kJ s.r s.i).1 !=(gi s.a s.i)) (.ok (.stop (.ret) {s with q:=false})) (.ok (.next {s with i:=(IntKind.i64.wrap (s.i+1))})))))))))) (.ok (.stop (.exit 0) s))
abbrev asy (s:pM):=(Zk s).rd s
def adw (s:pM):Prop:=s.i=0∧s.k=(List.length s.a:Int)∧s.k≤1000∧s.z.length=s.a.length∧s.r.length=s.a.length∧∀j,0≤j→j<s.k→(0≤gi s.a j∧gi s.a j≤gi s.z j)∧(kJ s.r j).1=gi s.a j
def MV (s:pM):Prop:=(0≤s.i∧s.i≤s.k)∧s.k=(List.length s.a:Int)∧s.k≤1000∧s.z.length=s.a.length∧s.r.length=s.a.length∧∀j,0≤j→j<s.k→(0≤gi s.a j∧gi s.a j≤gi s.z j)∧(kJ s.r j).1=gi s.a j
def OY (s:pM):Nat:=(s.k-s.i).toNat
def akJ (x:Ex) (_ _:pM):Prop:=x=.exit 0
theorem aBw:∀s,adw s→MV s:=by
 intro s h
 obtain ⟨h0,h2,h3,h4,h5,h6⟩:=h
 exact ⟨by omega,h2,h3,h4,h5,h6⟩
theorem axr (s:pM) (hI:MV s):bJ (fun s'=>MV s'∧OY s'<OY s) (fun x s'=>akJ x s s') (asy s):=by
 unfold asy Zk
 dsimp only [T.rd,T.rl]
 obtain ⟨⟨h0,h1⟩,h2,h3,h4,h5,h6⟩:=hI
 refine au (fun c1=>?_) (fun c1=>?_)
 ·refine au (fun c2=>?_) (fun c2=>?_)
  ·have c1:s.i<s.k:=by simpa using c1
   obtain ⟨⟨f1,f2⟩,f3⟩:=h6 s.i h0 c1
   have e1:decide (gi s.a s.i<0)=false:=decide_eq_false (by omega)
   have e2:decide (gi s.a s.i>gi s.z s.i)=false:=decide_eq_false (by omega)
   have e3:((kJ s.r s.i).1 !=gi s.a s.i)=false:=by rw [f3];simp
   first|exact absurd (e1.symm.trans c2) (by decide) |exact absurd (e2.symm.trans c2) (by decide) |exact absurd (e3.symm.trans c2) (by decide)
  ·refine au (fun c3=>?_) (fun c3=>?_)
   ·have c1:s.i<s.k:=by simpa using c1
    obtain ⟨⟨f1,f2⟩,f3⟩:=h6 s.i h0 c1
    have e1:decide (gi s.a s.i<0)=false:=decide_eq_false (by omega)
    have e2:decide (gi s.a s.i>gi s.z s.i)=false:=decide_eq_false (by omega)
    have e3:((kJ s.r s.i).1 !=gi s.a s.i)=false:=by rw [f3];simp
    first|exact absurd (e1.symm.trans c3) (by decide) |exact absurd (e2.symm.trans c3) (by decide) |exact absurd (e3.symm.trans c3) (by decide)
   ·refine au (fun c4=>?_) (fun c4=>?_)
    ·have c1:s.i<s.k:=by simpa using c1
     obtain ⟨⟨f1,f2⟩,f3⟩:=h6 s.i h0 c1
     have e1:decide (gi s.a s.i<0)=false:=decide_eq_false (by omega)
     have e2:decide (gi s.a s.i>gi s.z s.i)=false:=decide_eq_false (by omega)
     have e3:((kJ s.r s.i).1 !=gi s.a s.i)=false:=by rw [f3];simp
     first|exact absurd (e1.symm.trans c4) (by decide) |exact absurd (e2.symm.trans c4) (by decide) |exact absurd (e3.symm.trans c4) (by decide)
    ·have c1:s.i<s.k:=by simpa using c1
     rw [aK (x:=s.i+1) (by omega) (by omega)]
     exact ⟨⟨⟨by simp only;omega,by simp only;omega⟩,h2,h3,h4,h5,h6⟩,by simp only [OY];omega⟩
 ·exact rfl
def E8:bK pM:=⟨0,141,[1,4,6,12,13,14,16,17,20,21,94,95],[],aDO,aCN,fun v b=>⟨aQ ng (v.getD 0 .junk),gI (v.getD 1 .junk),vg (v.getD 3 .junk),vg (v.getD 4 .junk),aQ (.int .i64) (v.getD 5 .junk),aQ (.int .i64) (v.getD 6 .junk),aQ Fg (v.getD 7 .junk),aQ zl (v.getD 8 .junk),gI (v.getD 9 .junk),gI (v.getD 10 .junk),gI (v.getD 11 .junk),aQ dX (aX (aO b 0) 0),aQ .str (aX (aO b 0) 1),aQ dY (aX (aO b 0) 2),aQ dS (aX (aO b 0) 3),aQ dZ (aX (aO b 0) 4)⟩,Zk,fun s r=> {r with l:=s.l,tick:=s.tick,xZ:=s.xZ,z:=s.z,a:=s.a,r:=s.r,rows:=s.rows,g:=s.g,k:=s.k,ah:=s.ah,aA:=s.aA,ai:=s.ai,ak:=s.ak,aJ:=s.aJ},fun s=>s,fun _ s=>s,[.ret,.exit 0],adw,MV,OY⟩
abbrev ZK:=E8.run
abbrev PL:=E8.jJ
abbrev ayI:=E8.q
theorem avp (s:pM) (hI:MV s):(Zk s).all (fun _=>True):=by
 refine ⟨fun c1=>⟨?_,fun _=>trivial,fun c2=>⟨?_,?_,fun _=>trivial,fun c3=>⟨?_,?_,fun _=>trivial,fun _=>trivial⟩⟩⟩,fun _=>trivial⟩
 all_goals ((obtain ⟨⟨h0,h1⟩,h2,h3,h4,h5,h6⟩:=hI;simp only [decide_eq_true_eq] at c1;omega))
noncomputable def WX:Specs:=aZ [(11,Yc),(12,XO),(14,Jd),(22,XM),(23,X5),(24,lC),(25,P7),(26,XP)]
theorem aiE:∀g S,WX g=some S→Valid Tryz.prog aP g S:=aS (l:=[(11,Yc),(12,XO),(14,Jd),(22,XM),(23,X5),(24,lC),(25,P7),(26,XP)]) ⟨atH,atj,aeR,ati,atz,yD,alo,atm,trivial⟩
theorem ahn:E8.Ok:=⟨fun s=>by kernel_rfl,fun s=>by kernel_rfl,fun s=>rfl,fun s t r=>rfl,fun s=>rfl,fun s=>by kernel_rfl⟩
theorem agi:E8.Pf (akJ):=⟨aBw,fun _ _=>rfl,axr,avp⟩
theorem amF:bg Tryz.prog aP (AN 0) (.loop BJ) E8.lp:=bK.snd ahn agi (aT (Γ:=WX) (K:=eu) (L:=aB) aiE aF BJ (fun b hb=>by rw [show aC BJ=[] by kernel_rfl] at hb;cases hb)) (fun s=>by kernel_rfl)
theorem ap6 (s:pM) (hE:adw s):∃s',MV s'∧akJ (PL s) s' (ZK s):=bK.fin ahn agi s hE
def asB:List LV→T LV
 | [.agg [.xl (.pair .str (.pair (.int .i64) (.pair (.int .i64) (.pair (.int .i64) (.pair (.pair (.int .i64) (.int .i64)) (.pair (.int .i64) (.pair (.int .i64) (.pair (.int .i64) (.pair (.int .i64) (.int .i64)))))))))) cs,.xl (.str) os,.xl (.pair .str (.pair (.int .i64) (.pair (.int .i64) (.int .i64)))) ks,.xl (.pair .str (.pair (.int .i64) (.pair (.int .i64) (.pair (.int .i64) (.pair (.int .i64) (.pair (.int .i64) (.pair (.int .i64) (.int .i64)))))))) gs,.xl (.pair .str (.int .i64)) bs],.xl (.pair (.int .i64) (.pair (.int .i64) (.pair (.int .i64) (.pair (.int .i64) (.int .i64))))) _,.xl (.pair (.int .i64) (.int .i64)) _,.xl (.pair .bool (.pair (.int .i64) (.pair (.int .i64) (.int .i64)))) _,.v (.int .i64 _),.v (.int .i64 _)]=> .req (nmR (gJ cs os ks gs bs)) (.ok (.v (.bool true)))
 |_=> .no
noncomputable def aBH:List LV→T LV:=gB Tryz.prog Tryz.f5.params.toList asB
theorem aAk (cs:List Cd) (os:List ByteArray) (ks:List Ko) (gs:List Ch) (bs:List Ba) (l:List Le) (rs:List Ra) (d:List Dm) (t n:Int):bT Tryz.prog aP (WX) eu (fun i=>if i=10 then E8.lp else aB i) Tryz.f5 [.agg [.xl dX cs,.xl .str os,.xl dY ks,.xl dS gs,.xl dZ bs],.xl ng l,.xl Fg rs,.xl qG d,.v (.int .i64 t),.v (.int .i64 n)]=.br (!(aph cs os ks gs bs l rs d)) (.ok (.v (.bool true))) (.req (nmR (gJ cs os ks gs bs)∧(List.length l:Int)≤1000) (.br (!(Gf cs os ks gs bs l rs d t n)) (.ok (.v (.bool true))) (.req (Si cs os ks gs bs d∧xQ d t∧d.length≤19) (.req (xQ d t∧d.length≤19) (.br (((0:Int) !=0) ||(((deE cs os ks gs bs l rs d t n) !=0) ||(((List.length (YK cs os ks gs bs d t):Int) !=(List.length gs:Int)) ||(((List.length (IE cs os ks gs bs l rs d t n):Int) !=(List.length (YK cs os ks gs bs d t):Int)) ||((List.length (Xg cs os ks gs bs l rs d t n):Int) !=(List.length (YK cs os ks gs bs d t):Int)))))) (.ok (.v (.bool false))) (.req (ayI (⟨l,t,false,true,(YK cs os ks gs bs d t),(IE cs os ks gs bs l rs d t n),(Xg cs os ks gs bs l rs d t n),(fQ cs os ks gs bs),(vG cs os ks gs bs),(List.length (IE cs os ks gs bs l rs d t n):Int),(0:Int),cs,os,ks,gs,bs⟩:pM)) (.br (iy (PL (⟨l,t,false,true,(YK cs os ks gs bs d t),(IE cs os ks gs bs l rs d t n),(Xg cs os ks gs bs l rs d t n),(fQ cs os ks gs bs),(vG cs os ks gs bs),(List.length (IE cs os ks gs bs l rs d t n):Int),(0:Int),cs,os,ks,gs,bs⟩:pM)) (.ret)) (.ok (.v (.bool (ZK (⟨l,t,false,true,(YK cs os ks gs bs d t),(IE cs os ks gs bs l rs d t n),(Xg cs os ks gs bs l rs d t n),(fQ cs os ks gs bs),(vG cs os ks gs bs),(List.length (IE cs os ks gs bs l rs d t n):Int),(0:Int),cs,os,ks,gs,bs⟩:pM)).q))) (.br true (.br ((vG cs os ks gs bs)==0) (.req (Dp l (List.length gs:Int) t=true) (.req ((List.length (fQ cs os ks gs bs):Int)≤1000∧∀r∈(fQ cs os ks gs bs),Gu (xX gs l t) (IE cs os ks gs bs l rs d t n) r) (.ok (.v (.bool (uM (fQ cs os ks gs bs) (xX gs l t) (IE cs os ks gs bs l rs d t n))))))) (.ok (.v (.bool false)))) (.ok (.v (.bool false))))))))))):=by kernel_rfl
theorem aD0:Valid Tryz.prog aP 5 aBH:=aH Tryz.func5 rfl aiE aF (L:=(fun i=>if i=10 then E8.lp else aB i)) (fun b hb=>by
 rw [show aC _=[BJ] by kernel_rfl] at hb
 simp only [List.mem_cons,List.not_mem_nil,or_false] at hb
 subst hb
 exact amF) (fun args lv h=>by
 unfold asB at h
 split at h
 ·simp only [canL,canX]
  rw [aAk]
  rename_i cs os ks gs bs l rs d t n
  obtain ⟨hn,rfl⟩:=h
  refine ⟨fun c=>rfl,fun c=>⟨⟨hn,aBb c⟩,fun c2=>rfl,fun c2=>?_⟩⟩
  have c2:=NS c2
  have V:=aqt c2
  have hw:=ayW V
  obtain ⟨ea,er,el,ee⟩:=axj c2
  have gl:=V.gl
  obtain ⟨r1,r2,r3⟩:=avv (YJ (t:=t) V.si)
  have tl:=(aeT (t:=t) V.si).1
  have al:(IE cs os ks gs bs l rs d t n).length=gs.length:=by rw [ea];exact bW
  have rl:(Xg cs os ks gs bs l rs d t n).length=gs.length:=by rw [er];exact FU
  refine ⟨⟨V.si,hw⟩,hw,fun c3=>absurd c3 (by rw [ee,al,rl,tl];simp),fun _=>?_⟩
  have hE:adw ⟨l,t,false,true,YK cs os ks gs bs d t,IE cs os ks gs bs l rs d t n,Xg cs os ks gs bs l rs d t n,fQ cs os ks gs bs,vG cs os ks gs bs,(List.length (IE cs os ks gs bs l rs d t n):Int),0,cs,os,ks,gs,bs⟩:=⟨rfl,rfl,by simp only;omega,by simp only;omega,by simp only;omega,fun j j0 j1=>by
   have j1:j<((IE cs os ks gs bs l rs d t n).length:Int):=j1
   rw [al] at j1
   have h1:=ajj V j0 j1
   simp only
   rw [ea,er]
   refine ⟨⟨h1.1,by omega⟩,?_⟩
   rw [ajl j0 j1,ajn j0 j1]⟩
  obtain ⟨_,_,q1⟩:=ap6 _ hE
  refine ⟨⟨hE,rfl,rfl⟩,fun c4=>(by rw [show PL ⟨l,t,false,true,YK cs os ks gs bs d t,IE cs os ks gs bs l rs d t n,Xg cs os ks gs bs l rs d t n,fQ cs os ks gs bs,vG cs os ks gs bs,(List.length (IE cs os ks gs bs l rs d t n):Int),0,cs,os,ks,gs,bs⟩=_ from q1] at c4;cases c4),fun _=>⟨fun _=>?_,fun h=>by cases h⟩⟩
  rw [r2,r1,ea]
  refine ⟨fun _=>⟨abN V,⟨by omega,axI V (aBt V)⟩,?_⟩,fun h=>absurd h (by decide)⟩
  rw [ap1 V]
  rfl
 ·cases h)
end Go.Proofs.YtlihnbimgclogaaGreatDoor
namespace Go.Sx
open Go Go.RowKit Go.Proofs.YtlihnbimgclogaaGreatDoor
def Vb:(t:Ty)→t.D→Prop
 | .int k,n=>(Lit.int k n).wf=true
 | .bool,_=>True
 | .str,s=>s.size≤maxLen
 | .sl e,l=>List.length l≤maxLen∧∀d,d∈l→Vb e d
 | .pair a b,d=>Vb a d.1∧Vb b d.2
def CS (P:Program):Nat→List Field→Bool
 |_,[]=>true
 |o,f::fs=>decide (f.offset=o)&&CS P (o+P.cellsOf f.type) fs
def Gq (P:Program):Nat→TypeId→Bool
 |0,_=>false
 |m+1,t=>match P.underlying t with
  |some (.int _) |some .bool|some .string=>decide (P.cellsOf t=1)
  |some (.struct fs)=>CS P 0 fs.toList&&decide (P.cellsOf t=((fs.toList.map (·.type)).map P.cellsOf).sum)&&fs.toList.all (fun f=>Gq P m f.type)
  |some (.array n e)=>decide (P.cellsOf t=((List.replicate n e).map P.cellsOf).sum)&&Gq P m e
  |some (.slice e)=>decide (P.cellsOf t=1)&&decide (1≤P.cellsOf e)&&(xR P m e).any (fun ty=>ty.n==P.cellsOf e)&&Gq P m e
  |_=>false
variable {H : Type} {enc : TypeId × Value → H} {P : Program} {w : World} {base : Nat} {spare : Nat → Bool} {held : Bool} {β : Nat → Loc}
def Good (enc:TypeId×Value→H) (P:Program) (w:World) (base:Nat) (spare:Nat→Bool) (held:Bool) (t:TypeId) (cs:List Value):Prop:=∃n x,DataW.trod enc P w base spare held n t cs=some x
theorem RL.append' {Z:Nat→Prop}:∀ {l1 l2:List LV}{y1 y2:List Value},RL β Z w l1 y1→RL β Z w l2 y2→RL β Z w (l1++l2) (y1++y2)
 | [],l2,y1,y2,h1,h2=>by simp only [RL] at h1;subst h1;exact h2
 |x::xs,l2,y1,y2,h1,h2=>by
  simp only [RL,List.cons_append] at h1⊢
  obtain ⟨y,zs,rfl,h3,h4⟩:=h1
  exact ⟨y,zs++y2,rfl,h3,RL.append' h4 h2⟩
theorem Xd {Z:Nat→Prop}:∀(t:Ty) (d:t.D) (cs:List Value) (b o:Nat),RL β Z w (fE t d) cs→(∀(j:Nat) v,cs[j]? =some v→w.cell? ⟨b,o+j,none⟩=some v)→RD Z w t d b o
 | .int k,d,cs,b,o,h,hc=>by
  simp only [fE,RL,R] at h
  obtain ⟨y,zs,rfl,rfl,_⟩:=h
  simp only [RD];exact hc 0 _ rfl
 | .bool,d,cs,b,o,h,hc=>by
  simp only [fE,RL,R] at h
  obtain ⟨y,zs,rfl,rfl,_⟩:=h
  simp only [RD];exact hc 0 _ rfl
 | .str,d,cs,b,o,h,hc=>by
  simp only [fE,RL,R] at h
  obtain ⟨y,zs,rfl,rfl,_⟩:=h
  simp only [RD];exact hc 0 _ rfl
 | .sl e,d,cs,b,o,h,hc=>by
  simp only [fE,RL,R] at h
  obtain ⟨y,zs,rfl,⟨a,cap,rfl,h2,h3⟩,_⟩:=h
  simp only [RD];exact ⟨a,cap,hc 0 _ rfl,h2,h3⟩
 | .pair p q,d,cs,b,o,h,hc=>by
  simp only [fE] at h
  have hl:=RL.length h
  simp only [List.length_append,bZ] at hl
  have h1:=h.take_drop 0 p.n
  have h2:RL β Z w ((fE p d.1++fE q d.2).drop p.n) (cs.drop p.n):=by
   refine RL.cO (by simp [hl,bZ]) fun i z hz=>?_
   rw [List.getElem?_drop] at hz⊢
   exact RL.get _ _ h hz
  have t1:((fE p d.1++fE q d.2).drop 0).take p.n=fE p d.1:=by
   rw [List.drop_zero,List.take_append_of_le_length (by rw [bZ];exact Nat.le_refl _),List.take_of_length_le (by rw [bZ];exact Nat.le_refl _)]
  have t2:(fE p d.1++fE q d.2).drop p.n=fE q d.2:=by
   rw [List.drop_append_of_le_length (by rw [bZ];exact Nat.le_refl _),List.drop_eq_nil_of_le (by rw [bZ];exact Nat.le_refl _),List.nil_append]
  rw [t1,List.drop_zero] at h1
  rw [t2] at h2
  simp only [RD]
  refine ⟨Xd p d.1 _ b o h1 (fun j v hv=>?_),Xd q d.2 _ b (o+p.n) h2 (fun j v hv=>?_)⟩
  ·rw [List.getElem?_take] at hv
   split at hv
   ·exact hc j v hv
   ·cases hv
  ·rw [List.getElem?_drop] at hv
   have:=hc (p.n+j) v hv
   rwa [←Nat.add_assoc] at this
theorem GY {Z:Nat→Prop}{r:TypeId→Option Ty}{sz:TypeId→Nat}{Gd:TypeId→List Value→Prop}:∀(ts:List TypeId) (ty:Ty) (cs:List Value),Vj r ts=some ty→
  (∀t∈ts,∀ty c,r t=some ty→Gd t c→∃d:ty.D,RL β Z w (fE ty d) c∧Vb ty d)→cs.length=(ts.map sz).sum→(∀pre t post,ts=pre++t::post→Gd t ((cs.drop (pre.map sz).sum).take (sz t)))→∃d:ty.D,RL β Z w (fE ty d) cs∧Vb ty d
 | [],ty,cs,h,_,_,_=>by simp [Vj] at h
 | [t],ty,cs,h,ih,hl,hg=>by
  simp only [Vj] at h
  have:=ih t (by simp) ty _ h (hg [] t [] rfl)
  have e:(cs.drop (List.map sz []).sum).take (sz t)=cs:=by
   simp at hl⊢
   exact List.take_of_length_le (by omega)
  rw [e] at this
  exact this
 | t::u::ts,ty,cs,h,ih,hl,hg=>by
  simp only [Vj] at h
  split at h
  ·rename_i a b ha hb
   simp only [Option.some.injEq] at h
   subst h
   obtain ⟨d1,a1,a2⟩:=ih t (by simp) a _ ha (hg [] t (u::ts) rfl)
   obtain ⟨d2,b1,b2⟩:=GY (sz:=sz) (Gd:=Gd) (u::ts) b (cs.drop (sz t)) hb (fun t' ht=>ih t' (by simp at ht⊢;exact .inr ht)) (by simp at hl⊢;omega) (fun pre t' post e=>by
    have:=hg (t::pre) t' post (by rw [e];rfl)
    rw [List.drop_drop]
    simpa using this)
   refine ⟨(d1,d2),?_,by simp only [Vb];exact ⟨a2,b2⟩⟩
   have:=RL.append' a1 b1
   simp only [fE]
   simpa using this
  ·cases h
theorem NM:∀(fs:List Field) (o:Nat),CS P o fs=true→∀pre f post,fs=pre++f::post→f.offset=o+((pre.map (·.type)).map P.cellsOf).sum
 | [],o,_,pre,f,post,e=>by cases pre<;>cases e
 |g::fs,o,h,[],f,post,e=>by
  simp only [CS,Bool.and_eq_true,decide_eq_true_eq] at h
  simp only [List.nil_append,List.cons.injEq] at e
  rw [←e.1];simpa using h.1
 |g::fs,o,h,p::pre,f,post,e=>by
  simp only [CS,Bool.and_eq_true,decide_eq_true_eq] at h
  simp only [List.cons_append,List.cons.injEq] at e
  have:=NM fs _ h.2 pre f post e.2
  rw [this,←e.1];simp;omega
theorem FH {Z:Nat→Prop}(hZ:∀b,b<w.heap.size→Z b):∀(m:Nat) (t:TypeId) (ty:Ty),Gq P m t=true→xR P m t=some ty→∀cs,Good enc P w base spare held t cs→∃d:ty.D,RL β Z w (fE ty d) cs∧Vb ty d
 |0,t,_,h,_,_,_=>by cases h
 | m + 1,t,ty,h,hty,cs,⟨n,x,hx⟩=>by
  simp only [Gq] at h
  simp only [xR] at hty
  split at h
  ·rename_i k hu
   obtain ⟨z,rfl,_,hw⟩:=DataW.trod_int hu hx
   simp only [hu,Option.some.injEq] at hty
   subst hty
   exact ⟨z,by simp [fE,RL,R],hw⟩
  ·rename_i hu
   obtain ⟨z,rfl,_⟩:=DataW.trod_bool hu hx
   simp only [hu,Option.some.injEq] at hty
   subst hty
   exact ⟨z,by simp [fE,RL,R],trivial⟩
  ·rename_i hu
   obtain ⟨z,rfl,_,hs⟩:=DataW.trod_string hu hx
   simp only [hu,Option.some.injEq] at hty
   subst hty
   exact ⟨z,by simp [fE,RL,R],hs⟩
  ·rename_i fs hu
   simp only [Bool.and_eq_true,decide_eq_true_eq,List.all_eq_true] at h
   obtain ⟨⟨h1,h2⟩,h3⟩:=h
   obtain ⟨xs,n',_,_,hl,hxl,hf⟩:=DataW.trod_struct hu hx
   simp only [hu] at hty
   refine GY (Gd:=Good enc P w base spare held) (sz:=P.cellsOf) (fs.toList.map (·.type)) ty cs hty (fun t' ht ty' c hty' hc=>?_) (by rw [hl,h2]) (fun pre t' post e=>?_)
   ·obtain ⟨f,hf1,rfl⟩:=List.mem_map.1 ht
    exact FH hZ m f.type ty' (h3 f hf1) hty' c hc
   ·obtain ⟨fpre,frest,e1,e2,e3⟩:=List.map_eq_append_iff.1 e
    obtain ⟨f,fpost,rfl,e4,e5⟩:=List.map_eq_cons_iff.1 e3
    have ho:=NM fs.toList 0 h1 fpre f fpost e1
    have hi:fs[fpre.length]? =some f:=by
     have:fs.toList[fpre.length]? =some f:=by rw [e1];simp
     simpa using this
    have hg:=hf _ f hi
    have hlt:fpre.length<fs.size:=(Array.getElem?_eq_some_iff.1 hi).1
    rw [ho,Nat.zero_add] at hg
    refine ⟨n',xs[fpre.length]'(by omega),?_⟩
    rw [←e2,←e4,hg,List.getElem?_eq_getElem]
  ·rename_i n0 e hu
   simp only [Bool.and_eq_true,decide_eq_true_eq] at h
   obtain ⟨h2,h3⟩:=h
   obtain ⟨xs,n',_,_,hl,hxl,hf⟩:=DataW.trod_array hu hx
   simp only [hu] at hty
   refine GY (Gd:=Good enc P w base spare held) (sz:=P.cellsOf) (List.replicate n0 e) ty cs hty (fun t' ht ty' c hty' hc=>?_) (by rw [hl,h2]) (fun pre t' post e'=>?_)
   ·rw [(List.mem_replicate.1 ht).2] at hc hty'
    exact FH hZ m e ty' h3 hty' c hc
   ·obtain ⟨c1,c2,c3⟩:=List.replicate_eq_append_iff.1 e'
    have ht':t'=e:=by
     have:t'∈List.replicate n0 e:=by rw [e'];simp
     exact (List.mem_replicate.1 this).2
    have hlen:pre.length<n0:=by
     have:=congrArg List.length e'
     simp at this;omega
    have hg:=hf pre.length hlen
    refine ⟨n',xs[pre.length]'(by omega),?_⟩
    have hs:(pre.map P.cellsOf).sum=pre.length*P.cellsOf e:=by rw [c2];simp
    rw [hs,ht',hg,List.getElem?_eq_getElem]
  ·rename_i e hu
   simp only [Bool.and_eq_true,decide_eq_true_eq] at h
   obtain ⟨⟨⟨h1,h2⟩,h4⟩,h3⟩:=h
   simp only [hu,Option.map_eq_some_iff] at hty
   obtain ⟨te,hte,rfl⟩:=hty
   rw [hte] at h4
   simp only [Option.any_some,beq_iff_eq] at h4
   rcases DataW.trod_slice hu hx with ⟨rfl,_⟩ |⟨a,len,cap,elems,rest,n',_,rfl,_,hb,hlc,hm,hlen,hel,_,_⟩
   ·refine ⟨([]:List te.D),?_,Nat.zero_le _,fun d hd=>by cases hd⟩
    simp only [fE,RL,R]
    exact ⟨_,[],rfl,⟨none,0,rfl,Nat.le_refl _,fun h=>absurd h (Nat.lt_irrefl 0)⟩,rfl⟩
   ·have each:∀i,∃d:te.D,i<len→∃c,w.cells? base (a.add (i*P.cellsOf e)) (P.cellsOf e)=some c∧RL β Z w (fE te d) c∧Vb te d:=fun i=>by
     by_cases hi:i<len
     ·have he:=hel i hi
      rw [List.getElem?_eq_getElem (by omega)] at he
      obtain ⟨c,hc,ht⟩:=Option.bind_eq_some_iff.1 he
      obtain ⟨d,l1,l2⟩:=FH hZ m e te h3 hte c ⟨n',_,ht⟩
      exact ⟨d,fun _=>⟨c,hc,l1,l2⟩⟩
     ·exact ⟨te.dflt,fun h=>absurd h hi⟩
    have ⟨g,hg⟩:=Classical.axiomOfChoice each
    have hlg:List.length ((List.range len).map g)=len:=by simp
    refine ⟨(List.range len).map g,?_,by rw [hlg];omega,fun d hd=>?_⟩
    ·simp only [fE,RL,R]
     refine ⟨_,[],rfl,⟨some a,cap,by rw [hlg],by rw [hlg];omega,fun hn=>?_⟩,rfl⟩
     rw [hlg] at hn
     obtain ⟨c0,hc0,hr0,_⟩:=hg 0 hn
     obtain ⟨_,hcl0,hat0⟩:=World.cells?_some hc0
     have hcell0:∃z,w.cell? ((a.add (0*P.cellsOf e)).add 0)=some z:=by
      rw [hat0 0 (by omega)];exact ⟨_,List.getElem?_eq_getElem (by omega)⟩
     obtain ⟨z0,hz0⟩:=hcell0
     obtain ⟨b,off,spot⟩:=a
     have hsp:spot=none:=by
      cases spot with
      |none=>rfl
      |some q=>
       unfold World.cell? at hz0
       split at hz0
       ·simp [Addr.add] at hz0
       ·cases hz0
     subst hsp
     have hbl:b<w.heap.size:=by
      simp only [addr_add] at hz0
      unfold World.cell? at hz0
      split at hz0
      ·rename_i hh;exact (Array.getElem?_eq_some_iff.1 hh).1
      ·cases hz0
     refine ⟨b,off,rfl,hZ b hbl,fun i d hd=>?_⟩
     have hi:i<len:=by
      have:=(List.getElem?_eq_some_iff.1 hd).1
      rwa [hlg] at this
     have hdd:d=g i:=by
      rw [List.getElem?_map,List.getElem?_range hi] at hd
      simpa using hd.symm
     subst hdd
     obtain ⟨c,hc,hr,_⟩:=hg i hi
     obtain ⟨_,hcl,hat⟩:=World.cells?_some hc
     refine Xd te (g i) c b _ hr (fun j v hv=>?_)
     have hj:j<P.cellsOf e:=by
      have:=(List.getElem?_eq_some_iff.1 hv).1
      omega
     have:=hat j hj
     rw [hv] at this
     rw [h4]
     simpa [addr_add,Nat.add_assoc] using this
    ·obtain ⟨i,hi,rfl⟩:=List.mem_map.1 hd
     obtain ⟨_,_,_,hw⟩:=hg i (by simpa using hi)
     exact hw
  ·cases h
def Qm (P:Program) (m:Nat) (t:TypeId) (l:List LV):Prop:=∃(ty:Ty) (d:ty.D),xR P m t=some ty∧l=fE ty d∧Vb ty d
theorem Cj {P:Program}{m:Nat}{t:TypeId}{l:List LV}{ty:Ty}(ht:xR P m t=some ty) (h:Qm P m t l):∃d:ty.D,l=fE ty d∧Vb ty d:=by
 obtain ⟨ty',d,h1,h2,h3⟩:=h
 obtain rfl:=Option.some.inj (ht.symm.trans h1)
 exact ⟨d,h2,h3⟩
theorem agz {Z:Nat→Prop}(hZ:∀b,b<w.heap.size→Z b) (m:Nat) (t:TypeId) (hs:Gq P m t=true) (ht:(xR P m t).isSome=true) (cs:List Value) (hg:Good enc P w base spare held t cs):∃l,RL β Z w l cs∧dw 0 l∧Qm P m t l:=by
 obtain ⟨ty,hty⟩:=Option.isSome_iff_exists.1 ht
 obtain ⟨d,h1,h2⟩:=FH (β:=β) hZ m t ty hs hty cs hg
 exact ⟨fE ty d,h1,nV 0 ty d,ty,d,hty,rfl,h2⟩
end Go.Sx
namespace Go.Sx
open Go Go.RowKit Go.Proofs.YtlihnbimgclogaaGreatDoor Go.ChangeShapes Go.WideShapes
variable {H : Type} {enc : TypeId × Value → H} {P : Program} {β : Nat → Loc} {Z : Nat → Prop}
theorem x9 (hl:laidOutB P=true) {W W':World}(hb:Below W.heap.size W W'):∀(ts:List TypeId) (vs:List Value) (ds:List (DataW H)) (ps:List MemPlace),ts.all (fun t=>P.readableRec t&&decide (t<P.types.size))=true→
  DataW.TrodAll enc P W 0 (fun _=>true) true ts vs ds ps→(∀x∈ps,x.block<W.heap.size)→DataW.TrodAll enc P W' 0 (fun b=>decide (b<W.heap.size)) true ts vs ds ps
 | [],vs,ds,ps,_,h,_=>by
  cases vs<;>cases ds<;>first|exact h|exact h.elim
 | t::ts,vs,ds,ps,hr,h,hlt=>by
  cases vs with
  |nil=>cases ds<;>exact h.elim
  | cons v vs=>
   cases ds with
   |nil=>exact h.elim
   |cons d ds=>
    obtain ⟨p,q,h1,h2,rfl⟩:=h
    simp only [List.all_cons,Bool.and_eq_true,decide_eq_true_eq] at hr
    refine ⟨p,q,Below.trod hl hr.1.1 hr.1.2 h1 hb (fun x hx=>hlt x (by simp [hx])),?_,rfl⟩
    exact x9 hl hb ts vs ds q (by simpa using hr.2) h2 (fun x hx=>hlt x (by simp [hx]))
theorem ah3 {fn:Func}{s:ChangeSpec}{tb:TypeId}{apart:Bool}{W W':World}{args:Array Value}{ds gs:List (DataW H)}{before:List MemPlace}
  (hl:laidOutB P=true) (hr:fn.params.toList.all (fun t=>P.readableRec t&&decide (t<P.types.size))=true) (hres:fn.resultTypes=#[tb]) (hb:P.underlying tb=some .bool) (hvars:s.vars=[])
  (hfn:(s.fn H ds).results=[.lit (.bool true)]∧(s.fn H ds).args=ds∧(s.fn H ds).vars=[])
  (hW:DataW.Whole enc P fn.params.toList s.vars apart W args.toList ds gs before) (hB:Below W.heap.size W W'):s.post enc P fn apart true false false W args (.bool true) W':=by
 have hW':=hW
 obtain ⟨p,q,hA,hV,rfl,hfz,hnd⟩:=hW
 have hg:gs=[]∧q=[]:=by
  rw [hvars] at hV
  cases gs with
  |nil=>exact ⟨rfl,hV⟩
  |cons g r=>exact hV.elim
 obtain ⟨rfl,rfl⟩:=hg
 have hlt:∀x∈p,x.block<W.heap.size:=fun x hx=>hW'.lt x (by simp [hx])
 refine ⟨ds,[],p++[],[],p,[],hW',?_,?_,?_,hB.frame _,fun h=>by cases h⟩
 ·rw [List.append_nil,hfn.1,hres]
  exact trodAll_mk1 (shut_bool hb true)
 ·rw [List.append_nil,hfn.2.1]
  exact x9 hl hB _ _ _ _ hr hA hlt
 ·rw [List.append_nil,hfn.2.2,hvars]
  rfl
def pLV (P:Program) (t:TypeId) (l:List LV):LV:=
 match P.underlying t with
 |some (.struct _)=>qY l
 |some (.array _ _)=> .junk
 |_=>match l with
  | [x]=>x
  |_=> .junk
theorem cell_of {w:World}{b0:Nat}{r:Reach}{m:Nat}{t:TypeId}(hs:Gq P m t=true) {v:Value}(hv:Value.okWide P w r b0 t v) (h1:∀fs,P.underlying t=some (.struct fs)→False) (h2:∀n e,P.underlying t=some (.array n e)→False):v.cells.toList=[v]:=by
 cases m with
 |zero=>cases hs
 | succ m=>
  simp only [Gq] at hs
  split at hs
  ·rename_i k hu
   obtain ⟨n,rfl⟩:=okWide_int hu hv
   rfl
  ·rename_i hu
   obtain ⟨n,rfl⟩:=okWide_bool hu hv
   rfl
  ·rename_i hu
   obtain ⟨n,rfl⟩:=okWide_string hu hv
   rfl
  ·rename_i fs hu
   exact (h1 fs hu).elim
  ·rename_i n e hu
   exact (h2 n e hu).elim
  ·rename_i e hu
   obtain ⟨a,l,c,rfl⟩:=okWide_slice hu hv
   rfl
  ·cases hs
theorem VR {w:World}{base b0:Nat}{spare:Nat→Bool}{held:Bool}{r:Reach}(hZ:∀b,b<w.heap.size→Z b) {m:Nat}{t:TypeId}(hs:Gq P m t=true) (ht:(xR P m t).isSome=true) {v:Value}{d:DataW H}{p:List MemPlace}(hv:Value.okWide P w r b0 t v) (h:DataW.Trod enc P w base spare held t v d p):
  ∃l,okV 0 (pLV P t l)∧R β Z w (pLV P t l) v∧Qm P m t l:=by
 obtain ⟨fuel,hf⟩:=h
 obtain ⟨l,h1,h2,h3⟩:=agz (β:=β) hZ m t hs ht v.cells.toList ⟨fuel,_,hf⟩
 refine ⟨l,?_,?_,h3⟩
 ·unfold pLV
  split
  ·exact ou h2
  ·trivial
  ·split
   ·exact h2.1
   ·trivial
 ·unfold pLV
  split
  ·rename_i fs hu
   obtain ⟨cs,rfl,_⟩:=okWide_struct hu hv
   exact qX h1
  ·simp only [R]
  ·split
   ·rename_i x
    simp only [RL] at h1
    obtain ⟨y,zs,e1,e2,rfl⟩:=h1
    have hc:=cell_of hs hv (by assumption) (by assumption)
    have:v=y:=by rw [hc] at e1;simpa using e1
    rw [this];exact e2
   ·simp only [R]
def VO (P:Program):List TypeId→List (List LV)→List LV
 |t::ts,l::ls=>pLV P t l::VO P ts ls
 |_,_=>[]
def Gt (P:Program) (m:Nat):List TypeId→List (List LV)→Prop
 | [],ls=>ls=[]
 |t::ts,ls=>∃l r,ls=l::r∧Qm P m t l∧Gt P m ts r
theorem Dz {w:World}{base b0:Nat}{spare:Nat→Bool}{held:Bool}{r:Reach}(hZ:∀b,b<w.heap.size→Z b) {m:Nat}:∀(ts:List TypeId) (vs:List Value) (ds:List (DataW H)) (ps:List MemPlace),ts.all (fun t=>Gq P m t&&(xR P m t).isSome)=true→
  (∀(j:Nat) t v,ts[j]? =some t→vs[j]? =some v→Value.okWide P w r b0 t v)→DataW.TrodAll enc P w base spare held ts vs ds ps→∃ls,dw 0 (VO P ts ls)∧RL β Z w (VO P ts ls) vs∧Gt P m ts ls
 | [],vs,ds,ps,_,_,h=>by
  cases vs with
  |nil=>exact ⟨[],trivial,by simp [VO,RL],rfl⟩
  |cons _ _=>cases ds<;>exact h.elim
 | t::ts,vs,ds,ps,hs,hv,h=>by
  cases vs with
  |nil=>cases ds<;>exact h.elim
  | cons v vs=>
   cases ds with
   |nil=>exact h.elim
   |cons d ds=>
    obtain ⟨p,q,h1,h2,rfl⟩:=h
    simp only [List.all_cons,Bool.and_eq_true] at hs
    obtain ⟨l,a1,a2,a3⟩:=VR (β:=β) hZ hs.1.1 hs.1.2 (hv 0 t v rfl rfl) h1
    obtain ⟨ls,b1,b2,b3⟩:=Dz hZ ts vs ds q hs.2 (fun j t' v' e1 e2=>hv (j+1) t' v' (by simpa using e1) (by simpa using e2)) h2
    exact ⟨l::ls,⟨a1,b1⟩,⟨v,vs,rfl,a2,b2⟩,l,ls,rfl,a3,b3⟩
theorem Po {G:bY}{f:FuncId}{fn:Func}{S:List LV→T LV}{s:ChangeSpec}{tb:TypeId}{apart:Bool}{m:Nat}{W:World}{base:Nat}{args:Array Value}{ds gs:List (DataW H)}{before:List MemPlace}
  (hv:Valid P G f S) (hl:laidOutB P=true) (hr:fn.params.toList.all (fun t=>P.readableRec t&&decide (t<P.types.size))=true) (hres:fn.resultTypes=#[tb]) (hb:P.underlying tb=some .bool) (hvars:s.vars=[])
  (hfn:(s.fn H ds).results=[.lit (.bool true)]∧(s.fn H ds).args=ds∧(s.fn H ds).vars=[]) (hs:fn.params.toList.all (fun t=>Gq P m t&&(xR P m t).isSome)=true)
  (hS:∀ls,Gt P m fn.params.toList ls→(S (VO P fn.params.toList ls)).all (fun x=>x=.v (.bool true)))
  (hg:UM G (fun b=>b<W.heap.size) W)
  (hval:∀(j:Nat) t v,fn.params[j]? =some t→args[j]? =some v→Value.okWide P W .any base t v)
  (hW:DataW.Whole enc P fn.params.toList s.vars apart W args.toList ds gs before):
  Calls P f args W fun e W'=>∃v,e=.returned v∧s.post enc P fn apart true false false W args v W':=by
 have hA:∃p,DataW.TrodAll enc P W 0 (fun _=>true) true fn.params.toList args.toList ds p:=by
  obtain ⟨p,q,hA,_⟩:=hW
  exact ⟨p,hA⟩
 obtain ⟨p,hA⟩:=hA
 obtain ⟨ls,h1,h2,h3⟩:=Dz (β:=β0) (Z:=fun b=>b<W.heap.size) (fun _ h=>h) fn.params.toList args.toList ds p hs (fun j t v e1 e2=>hval j t v (by simpa using e1) (by simpa using e2)) hA
 refine (hv _ args W _ _ (fun _ h=>h) hg h1 h2 (hS ls h3)).mono fun e W' ⟨hB,v,he,_,hR⟩=>⟨v,he,?_⟩
 simp only [R] at hR
 rw [hR]
 exact ah3 hl hr hres hb hvars hfn hW hB
end Go.Sx
namespace Go.Sx
open Go Go.RowKit Go.Proofs.YtlihnbimgclogaaGreatDoor
variable {H : Type} {enc : TypeId × Value → H} {P : Program} {w : World} {base : Nat} {spare : Nat → Bool} {held : Bool}
def D6 {H:Type}:Nat→DataW H→List Value
 |0,_=>[]
 |_+1,.lit (.int k n)=>[.int k n]
 |_+1,.lit (.bool b)=>[.bool b]
 |m+1,.agg l=>l.flatMap (D6 m)
 |_,_=>[]
def GL (P:Program):Nat→TypeId→Bool
 |0,_=>false
 |m+1,t=>match P.underlying t with
  |some (.int _) |some .bool=>true
  |some (.struct fs)=>CS P 0 fs.toList&&decide (P.cellsOf t=((fs.toList.map (·.type)).map P.cellsOf).sum)&&fs.toList.all (fun f=>GL P m f.type)
  |some (.array n e)=>decide (P.cellsOf t=((List.replicate n e).map P.cellsOf).sum)&&GL P m e
  |_=>false
theorem Iy {sz:TypeId→Nat}{g:DataW H→List Value}{Tr:TypeId→List Value→DataW H→Prop}:∀(ts:List TypeId) (cs:List Value) (ds:List (DataW H)),
  (∀t∈ts,∀c d,Tr t c d→g d=c)→ds.length=ts.length→cs.length=(ts.map sz).sum→(∀pre t post,ts=pre++t::post→∃d,ds[pre.length]? =some d∧Tr t ((cs.drop (pre.map sz).sum).take (sz t)) d)→ds.flatMap g=cs
 | [],cs,ds,_,h0,hl,_=>by
  have:cs=[]:=by simpa using hl
  have h2:ds=[]:=by simpa using h0
  rw [this,h2];rfl
 |t::ts,cs,[],_,h0,_,_=>by simp at h0
 | t::ts,cs,d::ds,ih,h0,hl,hg=>by
  obtain ⟨d',e1,e2⟩:=hg [] t ts rfl
  simp at e1
  subst e1
  have r:=Iy (sz:=sz) (g:=g) (Tr:=Tr) ts (cs.drop (sz t)) ds (fun t' ht=>ih t' (by simp [ht])) (by simpa using h0) (by simp at hl⊢;omega) (fun pre t' post e=>by
   obtain ⟨q,q1,q2⟩:=hg (t::pre) t' post (by rw [e];rfl)
   refine ⟨q,by simpa using q1,?_⟩
   rw [List.drop_drop]
   simpa using q2)
  rw [List.flatMap_cons,r,ih t (by simp) _ _ e2]
  simp
theorem PD:∀(m:Nat) (t:TypeId),GL P m t=true→∀(n:Nat) (cs:List Value) (x:DataW H×List MemPlace),DataW.trod enc P w base spare held n t cs=some x→D6 m x.1=cs
 |0,t,h,_,_,_,_=>by cases h
 | m +1,t,h,n,cs,x,hx=>by
  simp only [GL] at h
  split at h
  ·rename_i k hu
   obtain ⟨z,rfl,rfl,hw⟩:=DataW.trod_int hu hx
   rfl
  ·rename_i hu
   obtain ⟨z,rfl,rfl⟩:=DataW.trod_bool hu hx
   rfl
  ·rename_i fs hu
   simp only [Bool.and_eq_true,decide_eq_true_eq,List.all_eq_true] at h
   obtain ⟨⟨h1,h2⟩,h3⟩:=h
   obtain ⟨xs,n',_,rfl,hl,hxl,hf⟩:=DataW.trod_struct hu hx
   simp only [D6]
   refine Iy (sz:=P.cellsOf) (Tr:=fun t c d=>∃y,DataW.trod enc P w base spare held n' t c=some y∧y.1=d) (fs.toList.map (·.type)) cs _ (fun t' ht c d hc=>?_) (by simp [hxl]) (by rw [hl,h2]) (fun pre t' post e=>?_)
   ·obtain ⟨f,hf1,rfl⟩:=List.mem_map.1 ht
    obtain ⟨y,hy,rfl⟩:=hc
    exact PD m f.type (h3 f hf1) n' c y hy
   ·obtain ⟨fpre,frest,e1,e2,e3⟩:=List.map_eq_append_iff.1 e
    obtain ⟨f,fpost,rfl,e4,e5⟩:=List.map_eq_cons_iff.1 e3
    have ho:=NM fs.toList 0 h1 fpre f fpost e1
    have hi:fs[fpre.length]? =some f:=by
     have:fs.toList[fpre.length]? =some f:=by rw [e1];simp
     simpa using this
    have hg:=hf _ f hi
    have hlt:fpre.length<fs.size:=(Array.getElem?_eq_some_iff.1 hi).1
    rw [ho,Nat.zero_add] at hg
    refine ⟨(xs[fpre.length]'(by omega)).1,?_,xs[fpre.length]'(by omega),?_,rfl⟩
    ·rw [←e2,List.length_map,List.getElem?_map,List.getElem?_eq_getElem (by omega)];rfl
    ·rw [←e2,←e4,hg,List.getElem?_eq_getElem]
  ·rename_i n0 e hu
   simp only [Bool.and_eq_true,decide_eq_true_eq] at h
   obtain ⟨h2,h3⟩:=h
   obtain ⟨xs,n',_,rfl,hl,hxl,hf⟩:=DataW.trod_array hu hx
   simp only [D6]
   refine Iy (sz:=P.cellsOf) (Tr:=fun t c d=>∃y,DataW.trod enc P w base spare held n' t c=some y∧y.1=d) (List.replicate n0 e) cs _ (fun t' ht c d hc=>?_) (by simp [hxl]) (by rw [hl,h2]) (fun pre t' post e'=>?_)
   ·rw [(List.mem_replicate.1 ht).2] at hc
    obtain ⟨y,hy,rfl⟩:=hc
    exact PD m e h3 n' c y hy
   ·obtain ⟨c1,c2,c3⟩:=List.replicate_eq_append_iff.1 e'
    have ht':t'=e:=by
     have:t'∈List.replicate n0 e:=by rw [e'];simp
     exact (List.mem_replicate.1 this).2
    have hlen:pre.length<n0:=by
     have:=congrArg List.length e'
     simp at this;omega
    have hg:=hf pre.length hlen
    have hs:(pre.map P.cellsOf).sum=pre.length*P.cellsOf e:=by rw [c2];simp
    refine ⟨(xs[pre.length]'(by omega)).1,?_,xs[pre.length]'(by omega),?_,rfl⟩
    ·rw [List.getElem?_map,List.getElem?_eq_getElem (by omega)];rfl
    ·rw [hs,ht',hg,List.getElem?_eq_getElem]
  ·cases h
theorem JU {W:World}{name:String}{d:DataW Unit}{rest:List (String×DataW Unit)}{g:Nat}{t:TypeId}{m:Nat}(hg:P.globalNamed name=some g) (hty:(P.globals[g]?).map (·.type)=some t) (hp:GL P m t=true)
  (h:laidMet P ((name,d)::rest) W):(∀i,W.cell? ⟨g,i,none⟩=(D6 m d)[i]?)∧((D6 m d)≠ []→g<W.heap.size):=by
 obtain ⟨ps,⟨g',t',cs,fuel,p,q,hg',ht',hvar,hd,_,_⟩,_⟩:=h
 obtain rfl:=Option.some.inj (hg.symm.trans hg')
 obtain rfl:=Option.some.inj (hty.symm.trans ht')
 have hf:=PD m t hp fuel _ _ hd
 simp only at hf
 have hcell:∀i,W.cell? ⟨g,i,none⟩=(D6 m d)[i]? :=fun i=>by
  rw [World.var?_cell hg hvar i,hf];simp
 refine ⟨hcell,fun hne=>?_⟩
 have h0:=hcell 0
 cases hh:(D6 m d)[0]? with
 |none=>exact absurd (List.getElem?_eq_none_iff.1 hh) (by have:=List.length_pos_iff.2 hne;omega)
 |some z=>
  rw [hh] at h0
  unfold World.cell? at h0
  split at h0
  ·rename_i hb;exact (Array.getElem?_eq_some_iff.1 hb).1
  ·cases h0
end Go.Sx
namespace Go.Proofs.YtlihnbimgclogaaGreatDoor
open Go.Sx Go.ChangeShapes Go.WideShapes Go.ChangeAt Go.RowKit
theorem own:ownKnob Tryz.prog.godebug=none:=by kernel_rfl
theorem laidOut:laidOutB Tryz.prog=true:=by kernel_rfl
theorem aEl:Tryz.prog.globalNamed "chargepark/ramp.happens"=some 0:=by kernel_rfl
theorem aA9:(Tryz.prog.globals[0]?).map (·.type)=some 130:=by kernel_rfl
theorem aiI {W:World}(h:laidMetH Tryz.prog [("chargepark/ramp.happens",Rows.laid_chargepark_ramp_happens)] W):UM aP (fun b=>b<W.heap.size) W:=by
 obtain ⟨h1,h2⟩:=JU (m:=4) aEl aA9 (by kernel_rfl) (show laidMet Tryz.prog [("chargepark/ramp.happens",Rows.laid_chargepark_ramp_happens)] W from h)
 intro g n f hg
 unfold aP at hg
 split at hg
 ·simp only [Option.some.injEq,Prod.mk.injEq] at hg
  obtain ⟨rfl,rfl⟩:=hg
  refine ⟨h2 (by decide),fun j hj=>?_⟩
  rw [h1 j]
  match j,hj with
  |0,_=>rfl
  |1,_=>rfl
  |2,_=>rfl
  |3,_=>rfl
  |4,_=>rfl
  |5,_=>rfl
  |6,_=>rfl
  |7,_=>rfl
 ·cases hg
theorem KW {H:Type}{enc:TypeId×Value→H}{P:Program}{w:World}{base:Nat}{spare:Nat→Bool}{held:Bool}:∀ {ts:List TypeId}{vs:List Value}{ds:List (DataW H)}{ps:List MemPlace},DataW.TrodAll enc P w base spare held ts vs ds ps→ds.length=ts.length
 | [],[],[],_,_=>rfl
 | [],_::_,_,_,h=>by cases h
 | [],[],_::_,_,h=>by cases h
 |_::_,[],_,_,h=>by cases h
 |_::_,_::_,[],_,h=>by cases h
 |_::_,_::_,_::_,_,h=>by
  obtain ⟨_,_,_,h2,_⟩:=h
  simp [KW h2]
noncomputable def laidWorld (os:Os):World:=
 { World.holding Tryz.prog os ⟨#[],#[],[]⟩ with heap:=(World.holding Tryz.prog os ⟨#[],#[],[]⟩).heap.modify 0 fun
   | .cells _ t frozen=> .cells #[.int .i64 1,.int .i64 1,.int .i64 1,.int .i64 0,.int .i64 2,.int .i64 2,.int .i64 3,.int .i64 3] t frozen
   |o=>o}
theorem alh {cs:List Cd}{os:List ByteArray}{ks:List Ko}{gs:List Ch}{bs:List Ba}(h1:Vb (.sl dX) cs) (h2:Vb (.sl .str) os) (h3:Vb (.sl dY) ks) (h4:Vb (.sl dS) gs) (h5:Vb (.sl dZ) bs):nmR (gJ cs os ks gs bs):=by
 intro w hw
 have key:∀n:Nat,n≤maxLen→(n:Int)≤9223372036854775807:=fun n h=>by
  unfold maxLen at h
  omega
 refine key _ ?_
 unfold gJ at hw
 simp only [List.mem_append,List.mem_map] at hw
 rcases hw with (((⟨x,hx,rfl⟩ |hx) |⟨x,hx,rfl⟩) |⟨x,hx,rfl⟩) |⟨x,hx,rfl⟩
 ·exact (h1.2 x hx).1
 ·exact h2.2 w hx
 ·exact (h3.2 x hx).1
 ·exact (h4.2 x hx).1
 ·exact (h5.2 x hx).1
end Go.Proofs.YtlihnbimgclogaaGreatDoor
namespace Go.Proofs.YtlihnbimgclogaaGreatDoor
open Go.Sx Go.ChangeShapes Go.WideShapes Go.ChangeAt Go.RowKit
namespace ControlTargets
set_option maxRecDepth 100000 in
theorem opened (ls:List (List LV)) (h:Gt Tryz.prog 8 Tryz.f5.params.toList ls):(aBH (VO Tryz.prog Tryz.f5.params.toList ls)).all (fun x=>x=.v (.bool true)):=by
 rw [Tryz.params5] at h⊢
 simp only [Gt] at h
 obtain ⟨l0,_,rfl,h0,l1,_,rfl,h1,l2,_,rfl,h2,l3,_,rfl,h3,l4,_,rfl,h4,l5,_,rfl,h5,rfl⟩:=h
 obtain ⟨d0,rfl,w0⟩:=Cj (ty:=(.pair (.sl dX) (.pair (.sl .str) (.pair (.sl dY) (.pair (.sl dS) (.sl dZ)))))) (by kernel_rfl) h0
 obtain ⟨d1,rfl,w1⟩:=Cj (ty:=(.sl ng)) (by kernel_rfl) h1
 obtain ⟨d2,rfl,w2⟩:=Cj (ty:=(.sl Fg)) (by kernel_rfl) h2
 obtain ⟨d3,rfl,w3⟩:=Cj (ty:=(.sl qG)) (by kernel_rfl) h3
 obtain ⟨d4,rfl,w4⟩:=Cj (ty:=(.int .i64)) (by kernel_rfl) h4
 obtain ⟨d5,rfl,w5⟩:=Cj (ty:=(.int .i64)) (by kernel_rfl) h5
 simp only [VO,pLV,Tryz.underlying31,Tryz.underlying29,Tryz.underlying30,Tryz.underlying28,Tryz.underlying3]
 refine aeg (t':=T.req (nmR (gJ d0.1 d0.2.1 d0.2.2.1 d0.2.2.2.1 d0.2.2.2.2)) (T.ok (LV.v (Value.bool true)))) (by kernel_rfl) ?_
 exact ⟨(alh w0.1 w0.2.1 w0.2.2.1 w0.2.2.2.1 w0.2.2.2.2),rfl⟩
set_option maxRecDepth 100000 in
theorem contract (H:Type) (enc:TypeId×Value→H) (W:World) (base:Nat) (args:Array Value) (ds gs:List (DataW H)) (before:List MemPlace)
  (hval:∀(j:Nat) t v,Tryz.f5.params[j]? =some t→args[j]? =some v→Value.okWide Tryz.prog W .any base t v)
  (hW:DataW.Whole enc Tryz.prog Tryz.f5.params.toList Rows.controlTargetsSpec.vars false W args.toList ds gs before) (hL:laidMetH Tryz.prog Rows.controlTargetsRow.laid W):
  Calls Tryz.prog 5 args W fun e W'=>∃v,e=.returned v∧Rows.controlTargetsSpec.post enc Tryz.prog Tryz.f5 false true false false W args v W':=by
 refine Po (m:=8) (tb:=4) aD0 laidOut (by kernel_rfl) (by kernel_rfl) Tryz.underlying4 rfl ?_ (by kernel_rfl) opened (aiI hL) hval hW
 obtain ⟨p,q,hA,_⟩:=hW
 have hl:=KW hA
 rw [Tryz.params5] at hl
 match ds,hl with
 | [_,_,_,_,_,_],_=>exact ⟨rfl,rfl,rfl⟩
theorem laid_met (os:Os):laidMet Tryz.prog Rows.controlTargetsRow.laid ((laidWorld os).forCall (fun _ _=>0) ⟨#[],#[.agg #[.slice none 0 0,.slice none 0 0,.slice none 0 0,.slice none 0 0,.slice none 0 0],.slice none 0 0,.slice none 0 0,.slice none 0 0,.int .i64 0,.int .i64 0],[]⟩).memory:=
 laidMet_of_run' 8 (by kernel_rfl) (by kernel_rfl)
theorem reads (os:Os) {H:Type}(enc:TypeId×Value→H):∃places,DataW.whole enc Tryz.prog ((laidWorld os).forCall (fun _ _=>0) ⟨#[],#[.agg #[.slice none 0 0,.slice none 0 0,.slice none 0 0,.slice none 0 0,.slice none 0 0],.slice none 0 0,.slice none 0 0,.slice none 0 0,.int .i64 0,.int .i64 0],[]⟩).memory Tryz.f5.params.toList Rows.controlTargetsSpec.vars false #[.agg #[.slice none 0 0,.slice none 0 0,.slice none 0 0,.slice none 0 0,.slice none 0 0],.slice none 0 0,.slice none 0 0,.slice none 0 0,.int .i64 0,.int .i64 0].toList 8=some ([.agg [.nil,.nil,.nil,.nil,.nil],.nil,.nil,.nil,.lit (.int .i64 0),.lit (.int .i64 0)],[],places):=
 ⟨[],by kernel_rfl⟩
set_option maxRecDepth 100000 in
theorem lifted (os:Os) (started:os.Started) (H:Type) (enc:TypeId×Value→H) (F:Stop.Interp):
  ReturnsInHanded {} Tryz.checked os 5 .any ((OpenSpec.ofChange Rows.controlTargetsSpec).preRow enc Tryz.prog Tryz.f5 Rows.controlTargetsRow.domain false Rows.controlTargetsRow.laid) (((OpenSpec.ofChange Rows.controlTargetsSpec).at F).post enc Tryz.prog Tryz.f5 false true false false):=by
 obtain ⟨places,hx⟩:=reads os enc
 refine returnsInHanded_of_row (C:=Tryz.checked) (s:=OpenSpec.ofChange Rows.controlTargetsSpec) own started (by kernel_rfl) Tryz.func5
  (witness_row_at (enc:=enc) (C:=Tryz.checked) false (laidWorld os) #[.agg #[.slice none 0 0,.slice none 0 0,.slice none 0 0,.slice none 0 0,.slice none 0 0],.slice none 0 0,.slice none 0 0,.slice none 0 0,.int .i64 0,.int .i64 0] rfl (by kernel_rfl) (by kernel_rfl) (by kernel_rfl)
   (OpenSpec.preRow_of_cond 8 hx (by kernel_rfl) (fun k hk=>by cases hk) (by kernel_rfl) (laid_met os))) ?_
 intro W base args ds gs before hval hW _ _ _ hL _ _
 exact contract H enc W base args ds gs before hval hW hL
theorem said:Rows.ControlTargetsSaid:=
 OpenClaim.holds_of_cond 5 Tryz.f5 rfl rfl rfl rfl rfl rfl rfl ⟨rfl,rfl,rfl,rfl,rfl⟩ rfl rfl rfl rfl rfl (by kernel_rfl) Tryz.func5 (by kernel_rfl)
  (of_decide_eq_true (by kernel_rfl)) (by unfold Func.isWrapper;first|(rw [if_pos (by decide+kernel)];kernel_rfl) |(rw [if_neg (by decide+kernel)];exact ⟨rfl,rfl⟩))
  (fun os started H enc _ F=>by rw [OpenClaim.pre_eq_preRow];exact lifted os started H enc F)
theorem plain (f:FuncId) (fn:Func) (hf:Tryz.pinned.checked.prog.funcNamed "chargepark/chargeparklaw25.ControlTargets"=some f) (hfn:Tryz.pinned.checked.prog.funcs[f]? =some fn):
  false=Tryz.pinned.checked.prog.looks []∧∀(j:Nat) t,fn.params[j]? =some t→Tryz.pinned.checked.prog.wantsStandIn t=false:=by
 obtain rfl:f=5:=Option.some.inj ((show Tryz.prog.funcNamed "chargepark/chargeparklaw25.ControlTargets"=some 5 by kernel_rfl).symm.trans hf) |>.symm
 obtain rfl:fn=Tryz.f5:=(Option.some.inj (Tryz.func5.symm.trans hfn)).symm
 refine ⟨by kernel_rfl,fun j t ht=>?_⟩
 have h:Tryz.f5.params.toList.all (fun t=>!Tryz.prog.wantsStandIn t)=true:=by kernel_rfl
 have:=List.all_eq_true.1 h t (by simpa using Array.mem_of_getElem? ht)
 show Tryz.prog.wantsStandIn t=false
 simpa using this
theorem card:Rows.ControlTargetsCardSaid:=
 Claim7.holds_tied_plain_at .later [] _ _ _ _ said (fun _ h=>by cases h) (by kernel_rfl) (fun _ h=>by cases h) controlTargets_row_tie rfl ⟨rfl,rfl⟩ (by kernel_rfl) rfl plain (by kernel_rfl)
end ControlTargets
theorem controlTargets_card:Rows.ControlTargetsCardSaid:=ControlTargets.card
end Go.Proofs.YtlihnbimgclogaaGreatDoor
