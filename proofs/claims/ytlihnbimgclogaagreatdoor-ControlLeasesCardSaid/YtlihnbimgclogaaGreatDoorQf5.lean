/- ControlLeases returns true for all arguments: the new leases have increasing numbers, each charger gets at most one, and they can be granted after earlier ones as far as there is room. Conditions: none; the table ramp.happens holds what its text says. -/
import Derived.Test.YtlihnbimgclogaaGreatDoorQf4
namespace Go.Proofs.YtlihnbimgclogaaGreatDoor
open Go.Sx
theorem au0 (s:lC) (hI:LU s):bM (fun s'=>LU s'∧GH s'<GH s) (fun x s'=>ajd x s s') (aql s):=by
 unfold aql Yt
 dsimp only [T.rd,T.rl]
 obtain ⟨⟨h0,h1⟩,h2,h3,h4,h5,h6⟩:=hI
 refine au (fun c1=>?_) (fun c1=>?_)
 ·refine au (fun c2=>?_) (fun c2=>?_)
  ·have c1:s.i<s.k:=by simpa using c1
   rw [aK (x:=s.i+1) (by omega) (by omega)]
   refine ⟨⟨⟨by simp only;omega,by simp only;omega⟩,h2,h3,by simp only [List.length_set];exact h4,fun j j0 j1=>?_,h6⟩,by simp only [GH];omega⟩
   simp only
   have hi:=h5 s.i h0 c1
   rw [if_neg (show ¬s.i<s.i by omega)] at hi
   rw [pO h0 (by rw [h4];omega) j0]
   by_cases e:j=s.i
   ·subst e
    rw [if_pos rfl,if_pos (show s.i<s.i+1 by omega)]
    first|(rw [if_pos (by simpa using c2)]) |(rw [if_neg (by simpa using c2)])
   ·rw [if_neg e,h5 j j0 j1]
    by_cases q:j<s.i
    ·rw [if_pos q,if_pos (show j<s.i+1 by omega)]
    ·rw [if_neg q,if_neg (show ¬j<s.i+1 by omega)]
  ·have c1:s.i<s.k:=by simpa using c1
   rw [aK (x:=s.i+1) (by omega) (by omega)]
   refine ⟨⟨⟨by simp only;omega,by simp only;omega⟩,h2,h3,h4,fun j j0 j1=>?_,h6⟩,by simp only [GH];omega⟩
   simp only
   have hi:=h5 s.i h0 c1
   rw [if_neg (show ¬s.i<s.i by omega)] at hi
   rw [h5 j j0 j1]
   by_cases e:j=s.i
   ·subst e
    rw [if_neg (show ¬s.i<s.i by omega),if_pos (show s.i<s.i+1 by omega)]
    first|(rw [if_pos (by simpa using c2)]) |(rw [if_neg (by simpa using c2)])
   ·by_cases q:j<s.i
    ·rw [if_pos q,if_pos (show j<s.i+1 by omega)]
    ·rw [if_neg q,if_neg (show ¬j<s.i+1 by omega)]
 ·have c1:s.k≤s.i:=by simpa using c1
  refine ⟨rfl,?_⟩
  refine Ht (by rw [eU];exact h4) fun j j0 j1=>?_
  rw [eU] at j1
  rw [o7 j0 j1,h5 j j0 (by omega),if_pos (show j<s.i by omega)]
def ED:bQ lC:=⟨0,53,[0,4,18,19,20],[],aBk,aAn,fun v b=>⟨aQ dW (mJ (v.getD 0 .junk) 0),aQ .str (mJ (v.getD 0 .junk) 1),aQ eu (mJ (v.getD 0 .junk) 2),aQ dQ (mJ (v.getD 0 .junk) 3),aQ eG (mJ (v.getD 0 .junk) 4),aQ jL (mJ (v.getD 0 .junk) 5),aQ rE (mJ (v.getD 0 .junk) 6),gI (mJ (v.getD 0 .junk) 7),aQ (.int .i64) (mJ (v.getD 0 .junk) 8),aQ dQ (v.getD 2 .junk),gI (v.getD 3 .junk),gI (v.getD 4 .junk),jk (.int .i64) (aO b 0)⟩,Yt,fun s r=> {r with cs:=s.cs,os:=s.os,ks:=s.ks,gs:=s.gs,bs:=s.bs,l:=s.l,d:=s.d,t:=s.t,od:=s.od,m:=s.m,k:=s.k},fun s=>s,fun _ s=>s,[.exit 0],acf,LU,GH⟩
abbrev qB:=ED.run
abbrev anS:=ED.jZ
abbrev awn:=ED.q
theorem asY (s:lC) (hI:LU s):(Yt s).all (fun _=>True):=by
 refine ⟨fun c1=>⟨?_,?_,fun c2=>⟨?_,?_,?_,trivial⟩,fun c2=>⟨⟨rfl,rfl⟩,trivial⟩⟩,fun c1=>⟨⟨rfl,rfl⟩,trivial⟩⟩
 all_goals ((obtain ⟨⟨h0,h1⟩,h2,h3,h4,h5,h6⟩:=hI;(try simp only [decide_eq_true_eq] at c1);first|omega|exact ⟨rfl,by simp⟩ |(omega)))
noncomputable def ahr:Specs:=bf [(52,Iy),(72,Xz)]
theorem apu:∀g S,ahr g=some S→Valid Tryz.prog aP g S:=aS (l:=[(52,Iy),(72,Xz)]) ⟨adA,arz,trivial⟩
theorem afX:ED.Ok:=⟨fun s=>by kernel_rfl,fun s=>by kernel_rfl,fun s=>rfl,fun s t r=>rfl,fun s=>rfl,fun s=>by kernel_rfl⟩
theorem aeZ:ED.Pf (ajd):=⟨ay9,fun _ _=>rfl,au0,asY⟩
theorem akS:bg Tryz.prog aP (AN 0) (.loop A7) ED.lp:=bQ.snd afX aeZ (aU (Γ:=ahr) (K:=eY) (L:=aC) apu aG A7 (fun b hb=>by rw [show aF A7=[] by kernel_rfl] at hb;cases hb)) (fun s=>by kernel_rfl)
theorem an5 (s:lC) (hE:acf s):∃s',LU s'∧ajd (anS s) s' (qB s):=bQ.fin afX aeZ s hE
def abB:List LV→T LV
 | [.xq 9 q0]=>(match ([q0 0,q0 1,q0 2,q0 3,q0 4,q0 5,q0 6,q0 7,q0 8]:List LV) with
  | [.xl (.pair .str (.pair (.int .i64) (.pair (.int .i64) (.pair (.int .i64) (.pair (.pair (.int .i64) (.int .i64)) (.pair (.int .i64) (.pair (.int .i64) (.pair (.int .i64) (.pair (.int .i64) (.int .i64)))))))))) cs,.xl (.str) os,.xl (.pair .str (.pair (.int .i64) (.pair (.int .i64) (.int .i64)))) ks,.xl (.pair .str (.pair (.int .i64) (.pair (.int .i64) (.pair (.int .i64) (.pair (.int .i64) (.pair (.int .i64) (.pair (.int .i64) (.int .i64)))))))) gs,.xl (.pair .str (.int .i64)) bs,.xl (.pair (.int .i64) (.pair (.int .i64) (.pair (.int .i64) (.pair (.int .i64) (.int .i64))))) _,.xl (.pair .bool (.pair (.int .i64) (.pair (.int .i64) (.int .i64)))) d,.v (.int .i64 _),.xl (.int .i64) od]=> .req ((List.length gs:Int)≤1000∧d.length=gs.length) (.ok (.gV [.xl (.int .i64) (xH cs os ks gs bs (mO gs) (oV gs d) od),.v (.int .i64 (shE cs os ks gs bs (mO gs) (oV gs d) od))]))
  |_=> .no)
 |_=> .no
noncomputable def Xw:List LV→T LV:=gW Tryz.prog Tryz.f71.params.toList abB
theorem amM (cs:List Cd) (os:List ByteArray) (ks:List Ko) (gs:List Ch) (bs:List Ba) (l:List Le) (d:List Dm) (t:Int) (od:List Int):bW Tryz.prog aP (ahr) eY (fun i=>if i=3 then ED.lp else aC i) Tryz.f71 [.xq 9 (fun j=>([.xl dW cs,.xl .str os,.xl eu ks,.xl dQ gs,.xl eG bs,.xl jL l,.xl rE d,.v (.int .i64 t),.xl (.int .i64) od]:List LV).getD j .junk)]=.req (0≤(List.length gs:Int)∧(List.length gs:Int)≤(List.length gs:Int)∧8*(List.length gs:Int)≤2^48∧(List.length gs:Int)<2^63) (.req (0=0∧(List.length gs:Int).toNat=List.length (List.replicate (List.length gs:Int).toNat (0:Int))) (.req (awn (⟨cs,os,ks,gs,bs,l,d,t,od,gs,(List.length gs:Int),(0:Int),(List.replicate (List.length gs:Int).toNat (0:Int))⟩:lC)) (.req ((List.length gs:Int)≤1000) (.req (0+(List.length (qB (⟨cs,os,ks,gs,bs,l,d,t,od,gs,(List.length gs:Int),(0:Int),(List.replicate (List.length gs:Int).toNat (0:Int))⟩:lC)).wanted)≤List.length (qB (⟨cs,os,ks,gs,bs,l,d,t,od,gs,(List.length gs:Int),(0:Int),(List.replicate (List.length gs:Int).toNat (0:Int))⟩:lC)).wanted) (.ok (.gV [.xl (.int .i64) (xH cs os ks gs bs (mO gs) (((qB (⟨cs,os,ks,gs,bs,l,d,t,od,gs,(List.length gs:Int),(0:Int),(List.replicate (List.length gs:Int).toNat (0:Int))⟩:lC)).wanted.drop 0).take (List.length (qB (⟨cs,os,ks,gs,bs,l,d,t,od,gs,(List.length gs:Int),(0:Int),(List.replicate (List.length gs:Int).toNat (0:Int))⟩:lC)).wanted)) od),.v (.int .i64 (shE cs os ks gs bs (mO gs) (((qB (⟨cs,os,ks,gs,bs,l,d,t,od,gs,(List.length gs:Int),(0:Int),(List.replicate (List.length gs:Int).toNat (0:Int))⟩:lC)).wanted.drop 0).take (List.length (qB (⟨cs,os,ks,gs,bs,l,d,t,od,gs,(List.length gs:Int),(0:Int),(List.replicate (List.length gs:Int).toNat (0:Int))⟩:lC)).wanted)) od))])))))):=by kernel_rfl
theorem arv:Valid Tryz.prog aP 71 Xw:=aH Tryz.func71 rfl apu aG (L:=(fun i=>if i=3 then ED.lp else aC i)) (fun b hb=>by
 rw [show aF _=[A7] by kernel_rfl] at hb
 simp only [List.mem_cons,List.not_mem_nil,or_false] at hb
 subst hb
 exact akS) (fun args lv h=>by
 unfold abB at h
 split at h
 ·split at h
  case h_2=>cases h
  rename_i heq0
  simp only [canL,canX]
  rw [oH (n:=9) heq0]
  simp only [canL,canX]
  rw [amM]
  rename_i cs os ks gs bs l d t od
  obtain ⟨⟨hn,hd⟩,rfl⟩:=h
  have hE:acf ⟨cs,os,ks,gs,bs,l,d,t,od,gs,(List.length gs:Int),0,List.replicate (List.length gs:Int).toNat 0⟩:=⟨rfl,rfl,hn,by simp,fun j _ _=>vF,hd⟩
  obtain ⟨_,_,q1,q2⟩:=an5 _ hE
  have q2:(qB ⟨cs,os,ks,gs,bs,l,d,t,od,gs,(List.length gs:Int),0,List.replicate (List.length gs:Int).toNat 0⟩).wanted=oV gs d:=q2
  refine ⟨by omega,⟨rfl,by simp⟩,⟨hE,rfl,rfl⟩,hn,by omega,?_⟩
  show LV.gV [LV.xl _ _,_]=_
  rw [List.drop_zero,List.take_length,q2]
 ·cases h)
structure jW where
 m:List Ch
 k:Int
 i:Int
 out:List Int
def aBn (s:jW):List LV:=[.os 0 1 0 (List.length s.out),.xl dQ s.m,.v (.int .i64 s.k),.v (.int .i64 s.i)]
def aAq (s:jW):List aT:=[⟨[],3,.vec (.int .i64) s.out,false⟩]
noncomputable def SI:Code:=((aF (Tryz.f72.body.getD .skip))[0]?).getD .skip
def Yv (s:jW):T (Rd jW):=
 .br (decide (s.i<s.k)) (.req (0≤s.i∧s.i<(List.length s.m:Int)) (.req (0≤s.i∧s.i<((List.length s.out:Nat):Int)) (.req (s.i.toNat<List.length s.out) (.req (0=0∧(List.length s.out)=List.length (s.out.set s.i.toNat (bC s.m s.i).2.2.2.2.2.2.1)) (.ok (.next {s with i:=(IntKind.i64.wrap (s.i+1)),out:=(s.out.set s.i.toNat (bC s.m s.i).2.2.2.2.2.2.1)})))))) (.rl s.out (.ok (.stop (.exit 0) s)))
abbrev aqn (s:jW):=(Yv s).rd s
def aci (s:jW):Prop:=s.i=0∧s.k=(List.length s.m:Int)∧s.k≤1000∧s.out.length=s.m.length∧(∀j,0≤j→j<s.k→gi s.out j=0)∧True
def LX (s:jW):Prop:=(0≤s.i∧s.i≤s.k)∧s.k=(List.length s.m:Int)∧s.k≤1000∧s.out.length=s.m.length∧(∀j,0≤j→j<s.k→gi s.out j=if j<s.i then wS (bC s.m j) else 0)∧True
def Oh (s:jW):Nat:=(s.k-s.i).toNat
def ajf (x:Ex) (_ s':jW):Prop:=x=.exit 0∧s'.out=zn s'.m.length (fun j=>wS (bC s'.m j))
theorem azc:∀s,aci s→LX s:=by
 intro s h
 obtain ⟨h0,h2,h3,h4,h5,h6⟩:=h
 exact ⟨by omega,h2,h3,h4,fun j j0 j1=>by rw [h5 j j0 j1,if_neg (by omega)],h6⟩
theorem au3 (s:jW) (hI:LX s):bM (fun s'=>LX s'∧Oh s'<Oh s) (fun x s'=>ajf x s s') (aqn s):=by
 unfold aqn Yv
 dsimp only [T.rd,T.rl]
 obtain ⟨⟨h0,h1⟩,h2,h3,h4,h5,h6⟩:=hI
 refine au (fun c1=>?_) (fun c1=>?_)
 ·have c1:s.i<s.k:=by simpa using c1
  rw [aK (x:=s.i+1) (by omega) (by omega)]
  refine ⟨⟨⟨by simp only;omega,by simp only;omega⟩,h2,h3,by simp only [List.length_set];exact h4,fun j j0 j1=>?_,h6⟩,by simp only [Oh];omega⟩
  simp only
  have hi:=h5 s.i h0 c1
  rw [if_neg (show ¬s.i<s.i by omega)] at hi
  rw [pO h0 (by rw [h4];omega) j0]
  by_cases e:j=s.i
  ·subst e
   rw [if_pos rfl,if_pos (show s.i<s.i+1 by omega)]
   rfl
  ·rw [if_neg e,h5 j j0 j1]
   by_cases q:j<s.i
   ·rw [if_pos q,if_pos (show j<s.i+1 by omega)]
   ·rw [if_neg q,if_neg (show ¬j<s.i+1 by omega)]
 ·have c1:s.k≤s.i:=by simpa using c1
  refine ⟨rfl,?_⟩
  refine Ht (by rw [eU];exact h4) fun j j0 j1=>?_
  rw [eU] at j1
  rw [o7 j0 j1,h5 j j0 (by omega),if_pos (show j<s.i by omega)]
def Jo:bQ jW:=⟨0,31,[3,17,18,19],[],aBn,aAq,fun v b=>⟨aQ dQ (v.getD 1 .junk),gI (v.getD 2 .junk),gI (v.getD 3 .junk),jk (.int .i64) (aO b 0)⟩,Yv,fun s r=> {r with m:=s.m,k:=s.k},fun s=>s,fun _ s=>s,[.exit 0],aci,LX,Oh⟩
abbrev kN:=Jo.run
abbrev anU:=Jo.jZ
abbrev awq:=Jo.q
noncomputable def zD:Specs:=bf [(52,Iy),(66,XE),(71,Xw)]
theorem Dk:∀g S,zD g=some S→Valid Tryz.prog aP g S:=aS (l:=[(52,Iy),(66,XE),(71,Xw)]) ⟨adA,arE,arv,trivial⟩
noncomputable def ag5:Hand:=inl Tryz.prog aP zD (lJ Tryz.prog aP (zD) 20 2) 9
theorem ao6:dM Tryz.prog aP ag5:=bT Dk (dP Dk) 9
theorem as2 (s:jW) (hI:LX s):(Yv s).all (fun _=>True):=by
 refine ⟨fun c1=>⟨?_,?_,?_,?_,trivial⟩,fun c1=>⟨⟨rfl,rfl⟩,trivial⟩⟩
 all_goals ((obtain ⟨⟨h0,h1⟩,h2,h3,h4,h5,h6⟩:=hI;(try simp only [decide_eq_true_eq] at c1);first|omega|exact ⟨rfl,by simp⟩ |(omega)))
theorem af0:Jo.Ok:=⟨fun s=>by kernel_rfl,fun s=>by kernel_rfl,fun s=>rfl,fun s t r=>rfl,fun s=>rfl,fun s=>by kernel_rfl⟩
theorem ae2:Jo.Pf (ajf):=⟨azc,fun _ _=>rfl,au3,as2⟩
theorem akV:bg Tryz.prog aP (AN 0) (.loop SI) Jo.lp:=bQ.snd af0 ae2 (bF (Γ:=zD) (K:=ag5) (L:=(sH Tryz.prog aP zD ag5 20 2)) Dk ao6 SI (fun b _=>dR Dk ao6 20 2 b)) (fun s=>by kernel_rfl)
theorem an8 (s:jW) (hE:aci s):∃s',LX s'∧ajf (anU s) s' (kN s):=bQ.fin af0 ae2 s hE
structure lD where
 cs:List Cd
 os:List ByteArray
 ks:List Ko
 gs:List Ch
 bs:List Ba
 l:List Le
 d:List Dm
 t:Int
 od:List Int
 targets:List Int
 m:List Int
 k:Int
 i:Int
 alive:List Int
def aBl (s:lD):List LV:=[.xq 9 (fun j=>([.xl dW s.cs,.xl .str s.os,.xl eu s.ks,.xl dQ s.gs,.xl eG s.bs,.xl jL s.l,.xl rE s.d,.v (.int .i64 s.t),.xl (.int .i64) s.od]:List LV).getD j .junk),.xl (.int .i64) s.targets,.os 0 1 0 (List.length s.alive),.xl (.int .i64) s.m,.v (.int .i64 s.k),.v (.int .i64 s.i)]
def aAo (s:lD):List aT:=[⟨[],3,.vec (.int .i64) s.alive,false⟩]
noncomputable def A8:Code:=((aF (Tryz.f36.body.getD .skip))[0]?).getD .skip
def Yu (s:lD):T (Rd lD):=
 .br (decide (s.i<s.k)) (.req (0≤s.i∧s.i<(List.length s.m:Int)) (.req (0≤s.i∧s.i<((List.length s.alive:Nat):Int)) (.req (s.i.toNat<List.length s.alive) (.req (0≤s.i∧s.i<((List.length s.alive:Nat):Int)) (.req (s.i.toNat<List.length s.alive) (.req (0=0∧(List.length s.alive)=List.length (s.alive.set s.i.toNat (if (s.alive.getD s.i.toNat (Ty.dflt (.int .i64)))<(gi s.m s.i) then (gi s.m s.i) else (s.alive.getD s.i.toNat (Ty.dflt (.int .i64)))))) (.ok (.next {s with i:=(IntKind.i64.wrap (s.i+1)),alive:=(s.alive.set s.i.toNat (if (s.alive.getD s.i.toNat (Ty.dflt (.int .i64)))<(gi s.m s.i) then (gi s.m s.i) else (s.alive.getD s.i.toNat (Ty.dflt (.int .i64)))))})))))))) (.rl s.alive (.ok (.stop (.exit 0) s)))
abbrev aqm (s:lD):=(Yu s).rd s
def acg (s:lD):Prop:=s.i=0∧s.k=(List.length s.m:Int)∧s.k≤1000∧s.alive.length=s.m.length∧(∀j,0≤j→j<s.k→gi s.alive j=wS (bC s.gs j))∧True
def LW (s:lD):Prop:=(0≤s.i∧s.i≤s.k)∧s.k=(List.length s.m:Int)∧s.k≤1000∧s.alive.length=s.m.length∧(∀j,0≤j→j<s.k→gi s.alive j=if j<s.i then mx (wS (bC s.gs j)) (gi s.m j) else wS (bC s.gs j))∧True
def Oe (s:lD):Nat:=(s.k-s.i).toNat
def aje (x:Ex) (_ s':lD):Prop:=x=.exit 0∧s'.alive=zn s'.m.length (fun j=>mx (wS (bC s'.gs j)) (gi s'.m j))
theorem aza:∀s,acg s→LW s:=by
 intro s h
 obtain ⟨h0,h2,h3,h4,h5,h6⟩:=h
 exact ⟨by omega,h2,h3,h4,fun j j0 j1=>by rw [h5 j j0 j1,if_neg (by omega)],h6⟩
theorem au1 (s:lD) (hI:LW s):bM (fun s'=>LW s'∧Oe s'<Oe s) (fun x s'=>aje x s s') (aqm s):=by
 unfold aqm Yu
 dsimp only [T.rd,T.rl]
 obtain ⟨⟨h0,h1⟩,h2,h3,h4,h5,h6⟩:=hI
 refine au (fun c1=>?_) (fun c1=>?_)
 ·have c1:s.i<s.k:=by simpa using c1
  rw [aK (x:=s.i+1) (by omega) (by omega)]
  refine ⟨⟨⟨by simp only;omega,by simp only;omega⟩,h2,h3,by simp only [List.length_set];exact h4,fun j j0 j1=>?_,h6⟩,by simp only [Oe];omega⟩
  simp only
  have hi:=h5 s.i h0 c1
  rw [if_neg (show ¬s.i<s.i by omega)] at hi
  rw [pO h0 (by rw [h4];omega) j0]
  by_cases e:j=s.i
  ·subst e
   rw [if_pos rfl,if_pos (show s.i<s.i+1 by omega)]
   show mx (gi s.alive s.i) (gi s.m s.i)=_
   rw [hi]
  ·rw [if_neg e,h5 j j0 j1]
   by_cases q:j<s.i
   ·rw [if_pos q,if_pos (show j<s.i+1 by omega)]
   ·rw [if_neg q,if_neg (show ¬j<s.i+1 by omega)]
 ·have c1:s.k≤s.i:=by simpa using c1
  refine ⟨rfl,?_⟩
  refine Ht (by rw [eU];exact h4) fun j j0 j1=>?_
  rw [eU] at j1
  rw [o7 j0 j1,h5 j j0 (by omega),if_pos (show j<s.i by omega)]
def EF:bQ lD:=⟨0,71,[0,4,7,41,42,43],[],aBl,aAo,fun v b=>⟨aQ dW (mJ (v.getD 0 .junk) 0),aQ .str (mJ (v.getD 0 .junk) 1),aQ eu (mJ (v.getD 0 .junk) 2),aQ dQ (mJ (v.getD 0 .junk) 3),aQ eG (mJ (v.getD 0 .junk) 4),aQ jL (mJ (v.getD 0 .junk) 5),aQ rE (mJ (v.getD 0 .junk) 6),gI (mJ (v.getD 0 .junk) 7),aQ (.int .i64) (mJ (v.getD 0 .junk) 8),aQ (.int .i64) (v.getD 1 .junk),aQ (.int .i64) (v.getD 3 .junk),gI (v.getD 4 .junk),gI (v.getD 5 .junk),jk (.int .i64) (aO b 0)⟩,Yu,fun s r=> {r with cs:=s.cs,os:=s.os,ks:=s.ks,gs:=s.gs,bs:=s.bs,l:=s.l,d:=s.d,t:=s.t,od:=s.od,targets:=s.targets,m:=s.m,k:=s.k},fun s=>s,fun _ s=>s,[.exit 0],acg,LW,Oe⟩
abbrev qC:=EF.run
abbrev anT:=EF.jZ
abbrev awo:=EF.q
theorem asZ (s:lD) (hI:LW s):(Yu s).all (fun _=>True):=by
 refine ⟨fun c1=>⟨?_,?_,?_,?_,?_,?_,trivial⟩,fun c1=>⟨⟨rfl,rfl⟩,trivial⟩⟩
 all_goals ((obtain ⟨⟨h0,h1⟩,h2,h3,h4,h5,h6⟩:=hI;(try simp only [decide_eq_true_eq] at c1);first|omega|exact ⟨rfl,by simp⟩ |(omega)))
noncomputable def ag4:Hand:=inl Tryz.prog aP zD (ku 72 0 3 (Jo.lp) (lJ Tryz.prog aP (zD) 20 2)) 9
theorem ao5:dM Tryz.prog aP ag4:=bT Dk (dL Tryz.func72 rfl (by kernel_rfl) akV (dP Dk)) 9
theorem afY:EF.Ok:=⟨fun s=>by kernel_rfl,fun s=>by kernel_rfl,fun s=>rfl,fun s t r=>rfl,fun s=>rfl,fun s=>by kernel_rfl⟩
theorem ae0:EF.Pf (aje):=⟨aza,fun _ _=>rfl,au1,asZ⟩
theorem akT:bg Tryz.prog aP (AN 0) (.loop A8) EF.lp:=bQ.snd afY ae0 (aU (Γ:=zD) (K:=ag4) (L:=aC) Dk ao5 A8 (fun b hb=>by rw [show aF A8=[] by kernel_rfl] at hb;cases hb)) (fun s=>by kernel_rfl)
theorem an6 (s:lD) (hE:acg s):∃s',LW s'∧aje (anT s) s' (qC s):=bQ.fin afY ae0 s hE
def abC:List LV→T LV
 | [.xq 9 q0]=>(match ([q0 0,q0 1,q0 2,q0 3,q0 4,q0 5,q0 6,q0 7,q0 8]:List LV) with
  | [.xl (.pair .str (.pair (.int .i64) (.pair (.int .i64) (.pair (.int .i64) (.pair (.pair (.int .i64) (.int .i64)) (.pair (.int .i64) (.pair (.int .i64) (.pair (.int .i64) (.pair (.int .i64) (.int .i64)))))))))) cs,.xl (.str) os,.xl (.pair .str (.pair (.int .i64) (.pair (.int .i64) (.int .i64)))) ks,.xl (.pair .str (.pair (.int .i64) (.pair (.int .i64) (.pair (.int .i64) (.pair (.int .i64) (.pair (.int .i64) (.pair (.int .i64) (.int .i64)))))))) gs,.xl (.pair .str (.int .i64)) bs,.xl (.pair (.int .i64) (.pair (.int .i64) (.pair (.int .i64) (.pair (.int .i64) (.int .i64))))) l,.xl (.pair .bool (.pair (.int .i64) (.pair (.int .i64) (.int .i64)))) d,.v (.int .i64 t),.xl (.int .i64) od]=> .req (d.length=gs.length∧qU cs os ks gs bs (mO gs) (oV gs d) od=true∧JA l (List.length gs:Int) t=true∧qU cs os ks gs bs (WL gs l t) (xH cs os ks gs bs (mO gs) (oV gs d) od) od=true) (.ok (.gV [.xl (.int .i64) (Nc cs os ks gs bs l d t od),.v (.int .i64 0)]))
  |_=> .no)
 |_=> .no
noncomputable def Xx:List LV→T LV:=gW Tryz.prog Tryz.f36.params.toList abC
theorem amN (cs:List Cd) (os:List ByteArray) (ks:List Ko) (gs:List Ch) (bs:List Ba) (l:List Le) (d:List Dm) (t:Int) (od:List Int):bW Tryz.prog aP (zD) ag4 (fun i=>if i=9 then EF.lp else aC i) Tryz.f36 [.xq 9 (fun j=>([.xl dW cs,.xl .str os,.xl eu ks,.xl dQ gs,.xl eG bs,.xl jL l,.xl rE d,.v (.int .i64 t),.xl (.int .i64) od]:List LV).getD j .junk)]=.req ((List.length gs:Int)≤1000∧d.length=gs.length) (.br ((shE cs os ks gs bs (mO gs) (oV gs d) od) !=0) (.ok (.gV [.xl (.int .i64) ([]:List Int),.v (.int .i64 (shE cs os ks gs bs (mO gs) (oV gs d) od))])) (.br ((SX l (List.length gs:Int) t) !=0) (.ok (.gV [.xl (.int .i64) ([]:List Int),.v (.int .i64 (SX l (List.length gs:Int) t))])) (.req (0≤(List.length gs:Int)∧(List.length gs:Int)≤(List.length gs:Int)∧8*(List.length gs:Int)≤2^48∧(List.length gs:Int)<2^63) (.req (0=0∧(List.length gs:Int).toNat=List.length (List.replicate (List.length gs:Int).toNat (0:Int))) (.req (awq (⟨gs,(List.length gs:Int),(0:Int),(List.replicate (List.length gs:Int).toNat (0:Int))⟩:jW)) (.rl (kN (⟨gs,(List.length gs:Int),(0:Int),(List.replicate (List.length gs:Int).toNat (0:Int))⟩:jW)).out (.req (awo (⟨cs,os,ks,gs,bs,l,d,t,od,(xH cs os ks gs bs (mO gs) (oV gs d) od),(nV l (List.length gs:Int) t),(List.length (nV l (List.length gs:Int) t):Int),(0:Int),(kN (⟨gs,(List.length gs:Int),(0:Int),(List.replicate (List.length gs:Int).toNat (0:Int))⟩:jW)).out⟩:lD)) (.req (0+(List.length (qC (⟨cs,os,ks,gs,bs,l,d,t,od,(xH cs os ks gs bs (mO gs) (oV gs d) od),(nV l (List.length gs:Int) t),(List.length (nV l (List.length gs:Int) t):Int),(0:Int),(kN (⟨gs,(List.length gs:Int),(0:Int),(List.replicate (List.length gs:Int).toNat (0:Int))⟩:jW)).out⟩:lD)).alive)≤List.length (qC (⟨cs,os,ks,gs,bs,l,d,t,od,(xH cs os ks gs bs (mO gs) (oV gs d) od),(nV l (List.length gs:Int) t),(List.length (nV l (List.length gs:Int) t):Int),(0:Int),(kN (⟨gs,(List.length gs:Int),(0:Int),(List.replicate (List.length gs:Int).toNat (0:Int))⟩:jW)).out⟩:lD)).alive) (.ok (.gV [.xl (.int .i64) (xH cs os ks gs bs (((qC (⟨cs,os,ks,gs,bs,l,d,t,od,(xH cs os ks gs bs (mO gs) (oV gs d) od),(nV l (List.length gs:Int) t),(List.length (nV l (List.length gs:Int) t):Int),(0:Int),(kN (⟨gs,(List.length gs:Int),(0:Int),(List.replicate (List.length gs:Int).toNat (0:Int))⟩:jW)).out⟩:lD)).alive.drop 0).take (List.length (qC (⟨cs,os,ks,gs,bs,l,d,t,od,(xH cs os ks gs bs (mO gs) (oV gs d) od),(nV l (List.length gs:Int) t),(List.length (nV l (List.length gs:Int) t):Int),(0:Int),(kN (⟨gs,(List.length gs:Int),(0:Int),(List.replicate (List.length gs:Int).toNat (0:Int))⟩:jW)).out⟩:lD)).alive)) (xH cs os ks gs bs (mO gs) (oV gs d) od) od),.v (.int .i64 (shE cs os ks gs bs (((qC (⟨cs,os,ks,gs,bs,l,d,t,od,(xH cs os ks gs bs (mO gs) (oV gs d) od),(nV l (List.length gs:Int) t),(List.length (nV l (List.length gs:Int) t):Int),(0:Int),(kN (⟨gs,(List.length gs:Int),(0:Int),(List.replicate (List.length gs:Int).toNat (0:Int))⟩:jW)).out⟩:lD)).alive.drop 0).take (List.length (qC (⟨cs,os,ks,gs,bs,l,d,t,od,(xH cs os ks gs bs (mO gs) (oV gs d) od),(nV l (List.length gs:Int) t),(List.length (nV l (List.length gs:Int) t):Int),(0:Int),(kN (⟨gs,(List.length gs:Int),(0:Int),(List.replicate (List.length gs:Int).toNat (0:Int))⟩:jW)).out⟩:lD)).alive)) (xH cs os ks gs bs (mO gs) (oV gs d) od) od))])))))))))):=by kernel_rfl
theorem arw:Valid Tryz.prog aP 36 Xx:=aH Tryz.func36 rfl Dk ao5 (L:=(fun i=>if i=9 then EF.lp else aC i)) (fun b hb=>by
 rw [show aF _=[A8] by kernel_rfl] at hb
 simp only [List.mem_cons,List.not_mem_nil,or_false] at hb
 subst hb
 exact akT) (fun args lv h=>by
 unfold abC at h
 split at h
 ·split at h
  case h_2=>cases h
  rename_i heq0
  simp only [canL,canX]
  rw [oH (n:=9) heq0]
  simp only [canL,canX]
  rw [amN]
  rename_i cs os ks gs bs l d t od
  obtain ⟨⟨hd,hk,hv,hk2⟩,rfl⟩:=h
  have gl:=(gm.1 (iK.1 hk).1).1.2.2.2.2.1
  have ea:nV l (List.length gs:Int) t=WM gs.length l t:=by unfold nV;rw [if_pos hv,Int.toNat_natCast]
  rw [aoK hk,show SX l (List.length gs:Int) t=0 by unfold SX;rw [if_pos hv]]
  refine ⟨⟨by omega,hd⟩,fun c=>absurd c (by decide),fun _=>⟨fun c=>absurd c (by decide),fun _=>?_⟩⟩
  have hE:aci ⟨gs,(List.length gs:Int),0,List.replicate (List.length gs:Int).toNat 0⟩:=⟨rfl,rfl,by simp only;omega,by simp,fun j _ _=>vF,trivial⟩
  obtain ⟨_,_,q1,q2⟩:=an8 _ hE
  have q2:(kN ⟨gs,(List.length gs:Int),0,List.replicate (List.length gs:Int).toNat 0⟩).out=mO gs:=q2
  have hE2:acg ⟨cs,os,ks,gs,bs,l,d,t,od,xH cs os ks gs bs (mO gs) (oV gs d) od,nV l (List.length gs:Int) t,(List.length (nV l (List.length gs:Int) t):Int),0,(kN ⟨gs,(List.length gs:Int),0,List.replicate (List.length gs:Int).toNat 0⟩).out⟩:=⟨rfl,rfl,by simp only;rw [ea,Bl];omega,by simp only;rw [q2,ea,Bl];exact eU,fun j j0 j1=>by
   simp only at j1⊢
   rw [ea,Bl] at j1
   rw [q2]
   exact o7 j0 j1,trivial⟩
  obtain ⟨_,_,q3,q4⟩:=an6 _ hE2
  have q4:(qC ⟨cs,os,ks,gs,bs,l,d,t,od,xH cs os ks gs bs (mO gs) (oV gs d) od,nV l (List.length gs:Int) t,(List.length (nV l (List.length gs:Int) t):Int),0,(kN ⟨gs,(List.length gs:Int),0,List.replicate (List.length gs:Int).toNat 0⟩).out⟩).alive=WL gs l t:=q4.trans (by
   show zn (nV l (List.length gs:Int) t).length (fun j=>mx (wS (bC gs j)) (gi (nV l (List.length gs:Int) t) j))=_
   rw [ea,Bl]
   rfl)
  refine ⟨by omega,⟨rfl,by simp⟩,⟨hE,rfl,rfl⟩,⟨rfl,rfl⟩,⟨hE2,rfl,rfl⟩,by omega,?_⟩
  show LV.gV [LV.xl _ _,_]=_
  rw [List.drop_zero,List.take_length,q4,aoK hk2]
  rfl
 ·cases h)
end Go.Proofs.YtlihnbimgclogaaGreatDoor
namespace Go.Proofs.YtlihnbimgclogaaGreatDoor
open Go.Sx
noncomputable def aeb:Array Tmp×Code×Code:=((jD (Tryz.f38.body.getD .skip))[0]?).getD (#[],.skip,.skip)
noncomputable def axv:Array Tmp:=aeb.1
noncomputable def axO:Code:=aeb.2.1
noncomputable def axJ:Code:=aeb.2.2
structure mD where
 i:Int
 cs:List Cd
 os:List ByteArray
 ks:List Ko
 gs:List Ch
 bs:List Ba
 l:List Le
 d:List Dm
 t:Int
 od:List Int
 c:Int
 a:Int
 r:Bool
 m:List Le
 st:LS
def aBm (s:mD):List LV:=[.um 5,.own 4 0,.v (.int .i64 s.i)]
noncomputable def aAp (s:mD):List aT:=[⟨[.xq 9 (fun j=>([.xl dW s.cs,.xl .str s.os,.xl eu s.ks,.xl dQ s.gs,.xl eG s.bs,.xl jL s.l,.xl rE s.d,.v (.int .i64 s.t),.xl (.int .i64) s.od]:List LV).getD j .junk)],73,.cl,false⟩,⟨[.v (.int .i64 s.c)],3,.cl,false⟩,⟨[.v (.int .i64 s.a)],3,.cl,false⟩,⟨[.v (.bool s.r)],4,.cl,false⟩,⟨[.xl jL s.m],29,.cl,false⟩,⟨[.junk,.junk,.junk,.own 0 0,.own 1 0,.own 2 0,.own 3 0,.junk,.v (.tuple #[]),.junk,.junk,.junk,.junk,.junk,.junk,.junk,.junk,.junk,.junk,.junk,.junk,.junk,.junk,.junk,.junk,.junk,.v (.tuple #[]),.v (.tuple #[]),.v (.tuple #[]),.v (.tuple #[]),.v (.tuple #[]),.v (.tuple #[]),.v (.tuple #[]),.v (.tuple #[]),.v (.tuple #[]),.v (.tuple #[]),.v (.tuple #[]),.v (.tuple #[]),.v (.tuple #[]),.v (.tuple #[]),.v (.tuple #[]),.v (.tuple #[]),.v (.tuple #[]),.v (.tuple #[]),.v (.tuple #[])],0,.kD axv axO axJ s.st,false⟩]
noncomputable def SH:Code:=((aF (Tryz.f115.body.getD .skip))[0]?).getD .skip
def Qr (s:mD):T (Rd mD):=
 .br (decide (s.i≥0)) (.req (0≤s.i∧s.i<(List.length s.m:Int)) (.br ((bI s.m s.i).2.1==s.c) (.ok (.stop (.ret) {s with r:=(((bI s.m s.i).2.2.1 !=s.a) ||(decide ((bI s.m s.i).2.2.2.1≤(IntKind.i64.wrap (s.t-6))))),st:=(.done (.ret))})) (.ok (.next {s with i:=(IntKind.i64.wrap (s.i-1))})))) (.ok (.stop (.exit 0) s))
abbrev aac (s:mD):=(Qr s).rd s
def ach (s:mD):Prop:=s.st=.ready∧s.i=(List.length s.m:Int)-1∧(List.length s.m:Int)≤1000∧0≤s.t∧s.t≤1000000
def TU (s:mD):Prop:=s.st=.ready∧(-1≤s.i∧s.i<(List.length s.m:Int))∧(List.length s.m:Int)≤1000∧0≤s.t∧s.t≤1000000
def Og (s:mD):Nat:=(s.i+1).toNat
def aqH (_:Ex) (_ _:mD):Prop:=True
theorem azb:∀s,ach s→TU s:=by
 intro s h
 obtain ⟨h0,h1,h2⟩:=h
 exact ⟨h0,by omega,h2⟩
theorem au2 (s:mD) (hI:TU s):bM (fun s'=>TU s'∧Og s'<Og s) (fun x s'=>aqH x s s') (aac s):=by
 unfold aac Qr
 dsimp only [T.rd,T.rl]
 obtain ⟨hs,⟨h0,h1⟩,h2⟩:=hI
 refine au (fun c1=>au (fun c2=>trivial) (fun c2=>?_)) (fun c1=>trivial)
 have c1:0≤s.i:=by simpa using c1
 rw [aK (x:=s.i-1) (by omega) (by omega)]
 exact ⟨⟨hs,⟨by simp only;omega,by simp only;omega⟩,h2⟩,by simp only [Og];omega⟩
noncomputable def Jm:bQ mD:=⟨6,19,[0,1,3],[],aBm,aAp,fun v b=>⟨gI (v.getD 2 .junk),aQ dW (mJ (aY (aO b 0) 0) 0),aQ .str (mJ (aY (aO b 0) 0) 1),aQ eu (mJ (aY (aO b 0) 0) 2),aQ dQ (mJ (aY (aO b 0) 0) 3),aQ eG (mJ (aY (aO b 0) 0) 4),aQ jL (mJ (aY (aO b 0) 0) 5),aQ rE (mJ (aY (aO b 0) 0) 6),gI (mJ (aY (aO b 0) 0) 7),aQ (.int .i64) (mJ (aY (aO b 0) 0) 8),gI (aY (aO b 1) 0),gI (aY (aO b 2) 0),vH (aY (aO b 3) 0),aQ jL (aY (aO b 4) 0),.ready⟩,Qr,fun s r=> {r with cs:=s.cs,os:=s.os,ks:=s.ks,gs:=s.gs,bs:=s.bs,l:=s.l,d:=s.d,t:=s.t,od:=s.od,c:=s.c,a:=s.a,m:=s.m},fun s=> {s with st:=.ready},fun x s=> {s with st:=(match x with| .ret=>(.done (.ret)) | .exit 0=> .ready|_=> .ready)},[.ret,.exit 0],ach,TU,Og⟩
noncomputable abbrev YT:=Jm.run
noncomputable abbrev aay:=Jm.jZ
abbrev awp:=Jm.q
noncomputable def Dt:Specs:=bf []
theorem Hg:∀g S,Dt g=some S→Valid Tryz.prog aP g S:=aS (l:=[]) trivial
noncomputable def ag3:Hand:=inl Tryz.prog aP Dt (lJ Tryz.prog aP (Dt) 20 2) 9
theorem ao4:dM Tryz.prog aP ag3:=bT Hg (dP Hg) 9
theorem as1 (s:mD) (hI:TU s):(Qr s).all (fun _=>True):=by
 refine ⟨fun c1=>⟨?_,fun _=>trivial,fun _=>trivial⟩,fun _=>trivial⟩
 ·(obtain ⟨hs,⟨h0,h1⟩,h2⟩:=hI;simp only [decide_eq_true_eq] at c1;omega)
theorem afZ:Jm.Ok:=⟨fun s=>by kernel_rfl,fun s=>by kernel_rfl,fun s=>rfl,fun s t r=>rfl,fun s=>rfl,fun s=>by kernel_rfl⟩
theorem ae1:Jm.Pf (aqH):=⟨azb,fun s h=>by
 obtain ⟨i,cs,os,ks,gs,bs,l,d,t,od,c,a,r,m,st⟩:=s
 have e:st=.ready:=h.1
 subst e
 rfl,au2,as1⟩
theorem akU:bg Tryz.prog aP (AN 6) (.loop SH) Jm.lp:=bQ.snd afZ ae1 (bF (Γ:=Dt) (K:=ag3) (L:=(sH Tryz.prog aP Dt ag3 20 2)) Hg ao4 SH (fun b _=>dR Hg ao4 20 2 b)) (fun s=>by kernel_rfl)
theorem an7 (s:mD) (hE:ach s):(fun (x:Ex) (s':mD) (v:Bool)=>(x=.ret∧s'.r=v)∨(x=.exit 0∧v=true)) (aay s) (YT s) ((fun s:mD=>nwO s.a s.t ((s.m.take (s.i+1).toNat).reverse.find? (fun x=>x.2.1==s.c))) s):=by
 exact bQ.xB afZ ae1 (fun s:mD=>nwO s.a s.t ((s.m.take (s.i+1).toNat).reverse.find? (fun x=>x.2.1==s.c))) (fun x s' v=>(x=.ret∧s'.r=v)∨(x=.exit 0∧v=true)) (fun s hI=>by
  show bM _ _ (aac s)
  unfold aac Qr
  dsimp only [T.rd,T.rl]
  obtain ⟨hs,⟨h0,h1⟩,h2⟩:=hI
  refine au (fun c1=>?_) (fun c1=>?_)
  ·have c1:0≤s.i:=by simpa using c1
   have e:=(Hz c1 (show s.i<(List.length s.m:Int) by omega)).2
   refine au (fun c2=> .inl ⟨rfl,?_⟩) (fun c2=>?_)
   ·rw [e,List.reverse_append]
    show _=nwO s.a s.t (List.find? _ (bI s.m s.i::_))
    rw [List.find?_cons_of_pos (by exact c2)]
    simp only [nwO]
    rw [aK (x:=s.t-6) (by omega) (by omega)]
   ·show nwO _ _ _=nwO _ _ _
    simp only
    rw [aK (x:=s.i-1) (by omega) (by omega),e,List.reverse_append]
    show _=nwO s.a s.t (List.find? _ (bI s.m s.i::_))
    rw [List.find?_cons_of_neg (by rw [c2];decide),show (s.i-1+1).toNat=s.i.toNat by omega]
    rfl
  ·have c1:s.i<0:=by simpa using c1
   refine .inr ⟨rfl,?_⟩
   rw [show (s.i+1).toNat=0 by omega]
   rfl) s hE
def abD:List LV→T LV
 | [.xq 9 q0,.v (.int .i64 i),.v (.int .i64 a)]=>(match ([q0 0,q0 1,q0 2,q0 3,q0 4,q0 5,q0 6,q0 7,q0 8]:List LV) with
  | [.xl (.pair .str (.pair (.int .i64) (.pair (.int .i64) (.pair (.int .i64) (.pair (.pair (.int .i64) (.int .i64)) (.pair (.int .i64) (.pair (.int .i64) (.pair (.int .i64) (.pair (.int .i64) (.int .i64)))))))))) _,.xl (.str) _,.xl (.pair .str (.pair (.int .i64) (.pair (.int .i64) (.int .i64)))) _,.xl (.pair .str (.pair (.int .i64) (.pair (.int .i64) (.pair (.int .i64) (.pair (.int .i64) (.pair (.int .i64) (.pair (.int .i64) (.int .i64)))))))) gs,.xl (.pair .str (.int .i64)) _,.xl (.pair (.int .i64) (.pair (.int .i64) (.pair (.int .i64) (.pair (.int .i64) (.int .i64))))) l,.xl (.pair .bool (.pair (.int .i64) (.pair (.int .i64) (.int .i64)))) _,.v (.int .i64 t),.xl (.int .i64) _]=> .req ((0≤i∧i<(List.length gs:Int))∧(List.length l:Int)≤1000∧0≤t∧t≤1000000) (.ok (.v (.bool (nwB gs l t i a))))
  |_=> .no)
 |_=> .no
noncomputable def Xy:List LV→T LV:=gW Tryz.prog Tryz.f38.params.toList abD
noncomputable def apg:Hand:=inl Tryz.prog aP Dt (ku 115 6 1 (Jm.lp) (lJ Tryz.prog aP (Dt) 20 2)) 9
theorem ayn:dM Tryz.prog aP apg:=bT Hg (dL Tryz.func115 rfl (by kernel_rfl) akU (dP Hg)) 9
theorem amO (cs:List Cd) (os:List ByteArray) (ks:List Ko) (gs:List Ch) (bs:List Ba) (l:List Le) (d:List Dm) (t:Int) (od:List Int) (i a:Int):bW Tryz.prog aP (Dt) apg aC Tryz.f38 [.xq 9 (fun j=>([.xl dW cs,.xl .str os,.xl eu ks,.xl dQ gs,.xl eG bs,.xl jL l,.xl rE d,.v (.int .i64 t),.xl (.int .i64) od]:List LV).getD j .junk),.v (.int .i64 i),.v (.int .i64 a)]=.req (0≤i∧i<(List.length gs:Int)) (.br (decide (a≤(bC gs i).2.2.2.2.2.2.1)) (.ok (.v (.bool false))) (.req (awp (⟨(IntKind.i64.wrap ((List.length l:Int)-1)),cs,os,ks,gs,bs,l,d,t,od,i,a,false,l,.ready⟩:mD)) (.br (ig (aay (⟨(IntKind.i64.wrap ((List.length l:Int)-1)),cs,os,ks,gs,bs,l,d,t,od,i,a,false,l,.ready⟩:mD)) (.ret)) (.ok (.v (.bool (YT (⟨(IntKind.i64.wrap ((List.length l:Int)-1)),cs,os,ks,gs,bs,l,d,t,od,i,a,false,l,.ready⟩:mD)).r))) (.ok (.v (.bool true)))))):=by kernel_rfl
theorem arx:Valid Tryz.prog aP 38 Xy:=aH Tryz.func38 rfl Hg ayn (aW (by kernel_rfl)) (fun args lv h=>by
 unfold abD at h
 split at h
 ·split at h
  case h_2=>cases h
  rename_i heq0
  simp only [canL,canX]
  rw [oH (n:=9) heq0]
  simp only [canL,canX]
  rw [amO]
  rename_i i a _ cs os ks gs bs l d t od
  obtain ⟨⟨hi,hl,ht⟩,rfl⟩:=h
  refine ⟨hi,fun c=>congrArg (fun z=>LV.v (.bool z)) ?_,fun c=>?_⟩
  ·have c:a≤wS (bC gs i):=of_decide_eq_true c
   unfold nwB
   rw [decide_eq_true c]
   rfl
  have c:¬a≤wS (bC gs i):=of_decide_eq_false c
  have hE:ach ⟨IntKind.i64.wrap ((List.length l:Int)-1),cs,os,ks,gs,bs,l,d,t,od,i,a,false,l,.ready⟩:=⟨rfl,by show IntKind.i64.wrap ((List.length l:Int)-1)=_;rw [aK (by omega) (by omega)],hl,ht⟩
  have ev:nwB gs l t i a=nwO a t ((l.take (IntKind.i64.wrap ((List.length l:Int)-1)+1).toNat).reverse.find? (fun x=>x.2.1==i)):=by
   unfold nwB
   rw [decide_eq_false c,aK (x:=(List.length l:Int)-1) (by omega) (by omega),show ((List.length l:Int)-1+1).toNat=l.length by omega,List.take_length]
   rfl
  refine ⟨⟨hE,rfl,rfl⟩,?_⟩
  rcases an7 _ hE with ⟨q1,q2⟩ |⟨q1,q2⟩<;>rw [q1]
  ·exact ⟨fun _=>congrArg (fun z=>LV.v (.bool z)) (q2.trans ev.symm),fun h=>by cases h⟩
  ·exact ⟨fun h=>(by cases h),fun _=>congrArg (fun z=>LV.v (.bool z)) (q2.symm.trans ev.symm)⟩
 ·cases h)
end Go.Proofs.YtlihnbimgclogaaGreatDoor
namespace Go.Proofs.YtlihnbimgclogaaGreatDoor
open Go.Sx
def Tt:List LV→T LV
 | [.v (.int .i64 _)]=> .ok (.v (.bool false))
 |_=> .no
noncomputable def Po:List LV→T LV:=gW Tryz.prog Tryz.f85.params.toList Tt
noncomputable def Ry:Specs:=bf []
theorem Zx:∀g S,Ry g=some S→Valid Tryz.prog aP g S:=aS (l:=[]) trivial
theorem agq (x:Int):bW Tryz.prog aP (Ry) eY aC Tryz.f85 [.v (.int .i64 x)]=.ok (.v (.bool (x !=x))):=by kernel_rfl
theorem ajT:Valid Tryz.prog aP 85 Po:=aH Tryz.func85 rfl Zx aG (aW (by kernel_rfl)) (fun args lv h=>by
 unfold Tt at h
 split at h
 ·simp only [canL,canX]
  rw [agq]
  obtain rfl:=h
  exact congrArg (fun z=>LV.v (.bool z)) (by simp)
 ·cases h)
def abI:List LV→T LV
 | [.v (.int .i64 x),.v (.int .i64 y)]=> .ok (.v (.int .i64 (cm x y)))
 |_=> .no
noncomputable def XB:List LV→T LV:=gW Tryz.prog Tryz.f47.params.toList abI
noncomputable def apQ:Specs:=bf [(85,Po)]
theorem ayL:∀g S,apQ g=some S→Valid Tryz.prog aP g S:=aS (l:=[(85,Po)]) ⟨ajT,trivial⟩
theorem amS (x y:Int):bW Tryz.prog aP (apQ) eY aC Tryz.f47 [.v (.int .i64 x),.v (.int .i64 y)]=.br false (.br false (.ok (.v (.int .i64 0))) (.ok (.v (.int .i64 (-1))))) (.br false (.ok (.v (.int .i64 1))) (.br (decide (x<y)) (.ok (.v (.int .i64 (-1)))) (.br (decide (x>y)) (.ok (.v (.int .i64 1))) (.ok (.v (.int .i64 0)))))):=by kernel_rfl
theorem arB:Valid Tryz.prog aP 47 XB:=aH Tryz.func47 rfl ayL aG (aW (by kernel_rfl)) (fun args lv h=>by
 unfold abI at h
 split at h
 ·simp only [canL,canX]
  rw [amS]
  obtain rfl:=h
  unfold cm
  refine ⟨fun h=>(by cases h),fun _=>⟨fun h=>(by cases h),fun _=>⟨fun c=>?_,fun c=>⟨fun c2=>?_,fun c2=>?_⟩⟩⟩⟩<;>refine congrArg (fun z=>LV.v (.int .i64 z)) ?_
  ·rw [if_pos (by simpa using c)]
  ·rw [if_neg (by simpa using c),if_pos (by simpa using c2)]
  ·rw [if_neg (by simpa using c),if_neg (by simpa using c2)]
 ·cases h)
structure mF where
 r:Int
 z:Int
 l:List Int
 n:Int
 i:Int
def aBq (s:mF):List LV:=[.v (.int .i64 s.r),.v (.int .i64 s.z),.xl (.int .i64) s.l,.v (.int .i64 s.n),.v (.int .i64 s.i)]
def aAt (_:mF):List aT:=[]
noncomputable def Be:Code:=((aF (Tryz.f46.body.getD .skip))[0]?).getD .skip
def Qs (s:mF):T (Rd mF):=
 .br (decide (s.i<s.n)) (.req (0≤s.i∧s.i<(List.length s.l:Int)) (.br ((gi s.l s.i) !=s.z) (.ok (.stop (.ret) {s with r:=(gi s.l s.i)})) (.ok (.next {s with i:=(IntKind.i64.wrap (s.i+1))})))) (.ok (.stop (.exit 0) s))
abbrev aad (s:mF):=(Qs s).rd s
def ack (s:mF):Prop:=s.i=0∧s.n=(List.length s.l:Int)∧s.n≤1000∧s.z=0
def TV (s:mF):Prop:=(0≤s.i∧s.i≤s.n)∧s.n=(List.length s.l:Int)∧s.n≤1000∧s.z=0
def Oj (s:mF):Nat:=(s.n-s.i).toNat
def aqI (_:Ex) (_ _:mF):Prop:=True
theorem azh:∀s,ack s→TV s:=by
 intro s h
 obtain ⟨h0,h2,h3,h4⟩:=h
 exact ⟨by omega,h2,h3,h4⟩
theorem avd (s:mF) (hI:TV s):bM (fun s'=>TV s'∧Oj s'<Oj s) (fun x s'=>aqI x s s') (aad s):=by
 unfold aad Qs
 dsimp only [T.rd,T.rl]
 obtain ⟨⟨h0,h1⟩,h2,h3,h4⟩:=hI
 refine au (fun c1=>?_) (fun c1=>?_)
 ·refine au (fun c2=>?_) (fun c2=>?_)
  ·exact trivial
  ·have c1:s.i<s.n:=by simpa using c1
   rw [aK (x:=s.i+1) (by omega) (by omega)]
   exact ⟨⟨⟨by simp only;omega,by simp only;omega⟩,h2,h3,h4⟩,by simp only [Oj];omega⟩
 ·exact trivial
def EI:bQ mF:=⟨0,18,[2,3,6,7,8],[],aBq,aAt,fun v _=>⟨gI (v.getD 0 .junk),gI (v.getD 1 .junk),aQ (.int .i64) (v.getD 2 .junk),gI (v.getD 3 .junk),gI (v.getD 4 .junk)⟩,Qs,fun s r=> {r with z:=s.z,l:=s.l,n:=s.n},fun s=>s,fun _ s=>s,[.ret,.exit 0],ack,TV,Oj⟩
abbrev YU:=EI.run
abbrev aaz:=EI.jZ
abbrev awt:=EI.q
theorem as5 (s:mF) (hI:TV s):(Qs s).all (fun _=>True):=by
 refine ⟨fun c1=>⟨?_,fun _=>trivial,fun _=>trivial⟩,fun _=>trivial⟩
 ·(obtain ⟨⟨h0,h1⟩,h2,h3⟩:=hI;simp only [decide_eq_true_eq] at c1;omega)
theorem af4:EI.Ok:=⟨fun s=>by kernel_rfl,fun s=>by kernel_rfl,fun s=>rfl,fun s t r=>rfl,fun s=>rfl,fun s=>by kernel_rfl⟩
theorem ae4:EI.Pf (aqI):=⟨azh,fun _ _=>rfl,avd,as5⟩
theorem akY:bg Tryz.prog aP (AN 0) (.loop Be) EI.lp:=bQ.snd af4 ae4 (aU (Γ:=Ry) (K:=eY) (L:=aC) Zx aG Be (fun b hb=>by rw [show aF Be=[] by kernel_rfl] at hb;cases hb)) (fun s=>by kernel_rfl)
theorem aod (s:mF) (hE:ack s):(fun (x:Ex) (s':mF) (v:Int)=>(x=.ret∧s'.r=v)∨(x=.exit 0∧s'.z=v)) (aaz s) (YU s) ((fun s:mF=>orI (s.l.drop s.i.toNat)) s):=by
 exact bQ.xB af4 ae4 (fun s:mF=>orI (s.l.drop s.i.toNat)) (fun x s' v=>(x=.ret∧s'.r=v)∨(x=.exit 0∧s'.z=v)) (fun s hI=>by
  show bM _ _ (aad s)
  unfold aad Qs
  dsimp only [T.rd,T.rl]
  obtain ⟨⟨h0,h1⟩,h2,h3,h4⟩:=hI
  refine au (fun c1=>?_) (fun c1=>?_)
  ·have c1:s.i<s.n:=by simpa using c1
   have e:s.l.drop s.i.toNat=gi s.l s.i::s.l.drop (s.i+1).toNat:=(gi_step h0 (show s.i<(List.length s.l:Int) by omega)).1
   rw [aK (x:=s.i+1) (by omega) (by omega)]
   refine au (fun c2=>?_) (fun c2=>?_)
   ·refine .inl ⟨rfl,?_⟩
    simp only
    rw [e,orI,if_pos (by rw [h4] at c2;exact c2)]
   ·show orI _=orI _
    simp only
    rw [e,orI,if_neg (by rw [h4] at c2;rw [c2];simp)]
  ·have c1:s.n≤s.i:=by simpa using c1
   refine .inr ⟨rfl,?_⟩
   rw [List.drop_eq_nil_of_le (by omega),h4]
   rfl) s hE
def abJ:List LV→T LV
 | [.xl (.int .i64) l]=> .req ((List.length l:Int)≤1000) (.ok (.v (.int .i64 (orI l))))
 |_=> .no
noncomputable def XC:List LV→T LV:=gW Tryz.prog Tryz.f46.params.toList abJ
theorem amT (l:List Int):bW Tryz.prog aP (Ry) eY (fun i=>if i=3 then EI.lp else aC i) Tryz.f46 [.xl (.int .i64) l]=.req (awt (⟨(0:Int),(0:Int),l,(List.length l:Int),(0:Int)⟩:mF)) (.br (ig (aaz (⟨(0:Int),(0:Int),l,(List.length l:Int),(0:Int)⟩:mF)) (.ret)) (.ok (.v (.int .i64 (YU (⟨(0:Int),(0:Int),l,(List.length l:Int),(0:Int)⟩:mF)).r))) (.ok (.v (.int .i64 (0:Int))))):=by kernel_rfl
theorem arC:Valid Tryz.prog aP 46 XC:=aH Tryz.func46 rfl Zx aG (L:=(fun i=>if i=3 then EI.lp else aC i)) (fun b hb=>by
 rw [show aF _=[Be] by kernel_rfl] at hb
 simp only [List.mem_cons,List.not_mem_nil,or_false] at hb
 subst hb
 exact akY) (fun args lv h=>by
 unfold abJ at h
 split at h
 ·simp only [canL,canX]
  rw [amT]
  rename_i l
  obtain ⟨hl,rfl⟩:=h
  have hE:ack ⟨0,0,l,(List.length l:Int),0⟩:=⟨rfl,rfl,hl,rfl⟩
  refine ⟨⟨hE,rfl,rfl⟩,?_⟩
  rcases aod _ hE with ⟨q1,q2⟩ |⟨q1,q2⟩<;>rw [q1]
  ·exact ⟨fun _=>congrArg (fun z=>LV.v (.int .i64 z)) q2,fun h=>by cases h⟩
  ·exact ⟨fun h=>(by cases h),fun _=>congrArg (fun z=>LV.v (.int .i64 z)) q2⟩
 ·cases h)
def aaW:List LV→T LV
 | [.v (.int .i64 i),.xq 1 q0,.xq 1 q1]=>(match ([q0 0]:List LV) with
  | [.xl (.pair .bool (.pair (.int .i64) (.pair (.int .i64) (.int .i64)))) d]=>(match ([q1 0]:List LV) with
  | [.v (.int .i64 t)]=> .req (yM d t∧0≤i∧i<(List.length d:Int)) (.ok (.v (.int .i64 (slk d t i))))
  |_=> .no)
  |_=> .no)
 |_=> .no
noncomputable def yH:List LV→T LV:=gW Tryz.prog Tryz.f43.params.toList aaW
theorem al5 (i:Int) (d:List Dm) (t:Int):bW Tryz.prog aP (Ry) eY aC Tryz.f43 [.v (.int .i64 i),.xq 1 (fun j=>([.xl rE d]:List LV).getD j .junk),.xq 1 (fun j=>([.v (.int .i64 t)]:List LV).getD j .junk)]=.req (0≤i∧i<(List.length d:Int)) (.req (0≤i∧i<(List.length d:Int)) (.ok (.v (.int .i64 (IntKind.i64.wrap ((IntKind.i64.wrap ((su d i).2.2.1-t))-(su d i).2.1)))))):=by kernel_rfl
theorem UA:Valid Tryz.prog aP 43 yH:=aH Tryz.func43 rfl Zx aG (aW (by kernel_rfl)) (fun args lv h=>by
 unfold aaW at h
 split at h
 ·split at h
  case h_2=>cases h
  rename_i heq0
  split at h
  case h_2=>cases h
  rename_i heq1
  simp only [canL,canX]
  rw [oH (n:=1) heq0]
  simp only [canL,canX]
  rw [oH (n:=1) heq1]
  simp only [canL,canX]
  rw [al5]
  rename_i i _ _ _ d _ t
  obtain ⟨⟨hw,hi⟩,rfl⟩:=h
  have b:=aqN hw hi.1 hi.2
  have ht:=hw.2
  refine ⟨hi,hi,congrArg (fun z=>LV.v (.int .i64 z)) ?_⟩
  unfold slk
  rw [aK (x:=(su d i).2.2.1-t) (by omega) (by omega),aK (by omega) (by omega)]
 ·cases h)
def aiH:List LV→T LV
 | [.v (.int .i64 a),.v (.int .i64 b),.xq 1 q0,.xq 1 q1]=>(match ([q0 0]:List LV) with
  | [.xl (.pair .bool (.pair (.int .i64) (.pair (.int .i64) (.int .i64)))) d]=>(match ([q1 0]:List LV) with
  | [.fn 43 [.xq 1 q2,.xq 1 q3]]=>(match ([q2 0]:List LV) with
  | [.xl (.pair .bool (.pair (.int .i64) (.pair (.int .i64) (.int .i64)))) e]=>(match ([q3 0]:List LV) with
  | [.v (.int .i64 t)]=> .req (d=e∧yM d t∧(0≤a∧a<(List.length d:Int))∧0≤b∧b<(List.length d:Int)) (.ok (.v (.int .i64 (cmD d t a b))))
  |_=> .no)
  |_=> .no)
  |_=> .no)
  |_=> .no)
 |_=> .no
noncomputable def Ti:List LV→T LV:=gW Tryz.prog Tryz.f45.params.toList aiH
noncomputable def apP:Specs:=bf [(43,yH),(46,XC),(47,XB)]
theorem ayK:∀g S,apP g=some S→Valid Tryz.prog aP g S:=aS (l:=[(43,yH),(46,XC),(47,XB)]) ⟨UA,arC,arB,trivial⟩
theorem at6 (a b:Int) (d e:List Dm) (t:Int):bW Tryz.prog aP (apP) eY aC Tryz.f45 [.v (.int .i64 a),.v (.int .i64 b),.xq 1 (fun j=>([.xl rE d]:List LV).getD j .junk),.xq 1 (fun j=>([.fn 43 [.xq 1 (fun j=>([.xl rE e]:List LV).getD j .junk),.xq 1 (fun j=>([.v (.int .i64 t)]:List LV).getD j .junk)]]:List LV).getD j .junk)]=.req (0≤a∧a<(List.length d:Int)) (.req (0≤b∧b<(List.length d:Int)) (.req (yM e t∧0≤a∧a<(List.length e:Int)) (.req (yM e t∧0≤b∧b<(List.length e:Int)) (.req ((List.length ([(cm (su d a).2.2.2 (su d b).2.2.2),(cm (slk e t a) (slk e t b)),(cm a b)]):Int)≤1000) (.ok (.v (.int .i64 (orI ([(cm (su d a).2.2.2 (su d b).2.2.2),(cm (slk e t a) (slk e t b)),(cm a b)]))))))))):=by kernel_rfl
theorem aoD:Valid Tryz.prog aP 45 Ti:=aH Tryz.func45 rfl ayK aG (aW (by kernel_rfl)) (fun args lv h=>by
 unfold aiH at h
 split at h
 ·split at h
  case h_2=>cases h
  rename_i heq0
  split at h
  case h_2=>cases h
  rename_i heq1
  split at h
  case h_2=>cases h
  rename_i heq2
  split at h
  case h_2=>cases h
  rename_i heq3
  simp only [canL,canX]
  rw [oH (n:=1) heq0]
  simp only [canL,canX]
  rw [oH (n:=1) heq1]
  simp only [canL,canX]
  rw [oH (n:=1) heq2]
  simp only [canL,canX]
  rw [oH (n:=1) heq3]
  simp only [canL,canX]
  rw [at6]
  rename_i a b _ d _ _ _ _ e _ t
  obtain ⟨⟨rfl,hw,ha,hb⟩,rfl⟩:=h
  exact ⟨ha,hb,⟨hw,ha⟩,⟨hw,hb⟩,by simp,rfl⟩
 ·cases h)
structure qj where
 n:Int
 i:Int
 d:List Dm
 tick:Int
 out:List Int
def aAX (s:qj):List LV:=[.own 0 0,.own 1 0,.os 2 1 0 (List.length s.out),.v (.int .i64 s.n),.v (.int .i64 s.i)]
def az1 (s:qj):List aT:=[⟨[.xl rE s.d],31,.cl,false⟩,⟨[.v (.int .i64 s.tick)],3,.cl,false⟩,⟨[],3,.vec (.int .i64) s.out,false⟩]
noncomputable def Ar:Code:=((aF (Tryz.f19.body.getD .skip))[0]?).getD .skip
def Yi (s:qj):T (Rd qj):=
 .br (decide (s.i<s.n)) (.req (0≤s.i∧s.i<((List.length s.out:Nat):Int)) (.req (s.i.toNat<List.length s.out) (.req (0=0∧(List.length s.out)=List.length (s.out.set s.i.toNat s.i)) (.ok (.next {s with i:=(IntKind.i64.wrap (s.i+1)),out:=(s.out.set s.i.toNat s.i)}))))) (.rl s.out (.ok (.stop (.exit 0) s)))
abbrev aqb (s:qj):=(Yi s).rd s
def ab1 (s:qj):Prop:=s.i=0∧s.out=List.replicate s.d.length 0∧s.n=(List.length s.d:Int)∧s.n≤1000∧s.out.length=s.d.length
def Lh (s:qj):Prop:=(0≤s.i∧s.i≤s.n)∧s.out=yc s.i.toNat++List.replicate (s.d.length-s.i.toNat) 0∧s.n=(List.length s.d:Int)∧s.n≤1000∧s.out.length=s.d.length
def NM (s:qj):Nat:=(s.n-s.i).toNat
def aiX (x:Ex) (_ s':qj):Prop:=x=.exit 0∧s'.out=yc s'.d.length
theorem axX:∀s,ab1 s→Lh s:=by
 intro s h
 obtain ⟨h0,h1,h2⟩:=h
 exact ⟨by omega,by rw [h0,h1];rfl,h2⟩
theorem aty (s:qj) (hI:Lh s):bM (fun s'=>Lh s'∧NM s'<NM s) (fun x s'=>aiX x s s') (aqb s):=by
 unfold aqb Yi
 dsimp only [T.rd,T.rl]
 obtain ⟨⟨h0,h1⟩,h2,h3,h4,h5⟩:=hI
 refine au (fun c1=>?_) (fun c1=>?_)
 ·have c1:s.i<s.n:=by simpa using c1
  rw [aK (x:=s.i+1) (by omega) (by omega)]
  have e:s.d.length-s.i.toNat=(s.d.length-(s.i+1).toNat)+1:=by omega
  refine ⟨⟨⟨by simp only;omega,by simp only;omega⟩,?_,h3,h4,by simp only [List.length_set];exact h5⟩,by simp only [NM];omega⟩
  simp only
  have hs:=YG (xs:=yc s.i.toNat) (r:=s.d.length-(s.i+1).toNat) (v:=s.i)
  rw [pF] at hs
  rw [h2,e,hs,show (s.i+1).toNat=s.i.toNat+1 by omega,acw,Int.toNat_of_nonneg h0]
 ·have c1:s.n≤s.i:=by simpa using c1
  refine ⟨rfl,?_⟩
  rw [h2,show s.i.toNat=s.d.length by omega]
  simp
def Eg:bQ qj:=⟨0,26,[2,3,5,12,13],[],aAX,az1,fun v b=>⟨gI (v.getD 3 .junk),gI (v.getD 4 .junk),aQ rE (aY (aO b 0) 0),gI (aY (aO b 1) 0),jk (.int .i64) (aO b 2)⟩,Yi,fun s r=> {r with n:=s.n,d:=s.d,tick:=s.tick},fun s=>s,fun _ s=>s,[.exit 0],ab1,Lh,NM⟩
abbrev jM:=Eg.run
abbrev anH:=Eg.jZ
abbrev av2:=Eg.q
theorem asB (s:qj) (hI:Lh s):(Yi s).all (fun _=>True):=by
 refine ⟨fun c1=>⟨?_,?_,?_,trivial⟩,fun c1=>⟨⟨rfl,rfl⟩,trivial⟩⟩
 all_goals ((obtain ⟨⟨h0,h1⟩,h2,h3,h4,h5⟩:=hI;simp only [decide_eq_true_eq] at c1;first|omega|exact ⟨rfl,by simp⟩))
noncomputable def vG:Specs:=bf [(43,yH),(45,Ti)]
theorem xM:∀g S,vG g=some S→Valid Tryz.prog aP g S:=aS (l:=[(43,yH),(45,Ti)]) ⟨UA,aoD,trivial⟩
noncomputable def Ro:Hand:=inl Tryz.prog aP vG (lJ Tryz.prog aP (vG) 20 2) 9
theorem Zo:dM Tryz.prog aP Ro:=bT xM (dP xM) 9
theorem afJ:Eg.Ok:=⟨fun s=>by kernel_rfl,fun s=>by kernel_rfl,fun s=>rfl,fun s t r=>rfl,fun s=>rfl,fun s=>by kernel_rfl⟩
theorem aeL:Eg.Pf (aiX):=⟨axX,fun _ _=>rfl,aty,asB⟩
theorem akA:bg Tryz.prog aP (AN 0) (.loop Ar) Eg.lp:=bQ.snd afJ aeL (aU (Γ:=vG) (K:=Ro) (L:=aC) xM Zo Ar (fun b hb=>by rw [show aF Ar=[] by kernel_rfl] at hb;cases hb)) (fun s=>by kernel_rfl)
theorem alG (s:qj) (hE:ab1 s):∃s',Lh s'∧aiX (anH s) s' (jM s):=bQ.fin afJ aeL s hE
structure mg where
 a:Int
 b:Int
 i:Int
 j:Int
 b0:List Dm
 b1:Int
 data:List Int
def aBa (s:mg):List LV:=[.os 2 1 0 (List.length s.data),.v (.int .i64 s.a),.v (.int .i64 s.b),.fn 45 [.own 0 0,.own 3 0],.v (.int .i64 s.i),.v (.int .i64 s.j)]
def aAe (s:mg):List aT:=[⟨[.xl rE s.b0],31,.cl,false⟩,⟨[.v (.int .i64 s.b1)],3,.cl,false⟩,⟨[],3,.vec (.int .i64) s.data,false⟩,⟨[.fn 43 [.own 0 0,.own 1 0]],84,.cl,false⟩]
noncomputable def Ik:Code:=((aF (((aF (Tryz.f120.body.getD .skip))[0]?).getD .skip))[0]?).getD .skip
def Qo (s:mg):T (Rd mg):=
 .br (decide (s.j>s.a)) (.req (0≤s.j∧s.j<((List.length s.data:Nat):Int)) (.req (s.j.toNat<List.length s.data) (.req (0≤(IntKind.i64.wrap (s.j-1))∧(IntKind.i64.wrap (s.j-1))<((List.length s.data:Nat):Int)) (.req ((IntKind.i64.wrap (s.j-1)).toNat<List.length s.data) (.req (s.b0=s.b0∧yM s.b0 s.b1∧(0≤(s.data.getD s.j.toNat (Ty.dflt (.int .i64)))∧(s.data.getD s.j.toNat (Ty.dflt (.int .i64)))<(List.length s.b0:Int))∧0≤(s.data.getD (IntKind.i64.wrap (s.j-1)).toNat (Ty.dflt (.int .i64)))∧(s.data.getD (IntKind.i64.wrap (s.j-1)).toNat (Ty.dflt (.int .i64)))<(List.length s.b0:Int)) (.br (decide ((cmD s.b0 s.b1 (s.data.getD s.j.toNat (Ty.dflt (.int .i64))) (s.data.getD (IntKind.i64.wrap (s.j-1)).toNat (Ty.dflt (.int .i64))))<0)) (.req (0≤(IntKind.i64.wrap (s.j-1))∧(IntKind.i64.wrap (s.j-1))<((List.length s.data:Nat):Int)) (.req (0≤s.j∧s.j<((List.length s.data:Nat):Int)) (.req ((IntKind.i64.wrap (s.j-1)).toNat<List.length s.data) (.req (s.j.toNat<List.length s.data) (.req (0≤s.j∧s.j<((List.length s.data:Nat):Int)) (.req (s.j.toNat<List.length s.data) (.req (0≤(IntKind.i64.wrap (s.j-1))∧(IntKind.i64.wrap (s.j-1))<((List.length s.data:Nat):Int)) (.req ((IntKind.i64.wrap (s.j-1)).toNat<List.length (s.data.set s.j.toNat (s.data.getD (IntKind.i64.wrap (s.j-1)).toNat (Ty.dflt (.int .i64))))) (.req (0=0∧(List.length s.data)=List.length ((s.data.set s.j.toNat (s.data.getD (IntKind.i64.wrap (s.j-1)).toNat (Ty.dflt (.int .i64)))).set (IntKind.i64.wrap (s.j-1)).toNat (s.data.getD s.j.toNat (Ty.dflt (.int .i64))))) (.ok (.next {s with j:=(IntKind.i64.wrap (s.j-1)),data:=((s.data.set s.j.toNat (s.data.getD (IntKind.i64.wrap (s.j-1)).toNat (Ty.dflt (.int .i64)))).set (IntKind.i64.wrap (s.j-1)).toNat (s.data.getD s.j.toNat (Ty.dflt (.int .i64))))}))))))))))) (.rl s.data (.ok (.stop (.exit 2) s))))))))) (.rl s.data (.ok (.stop (.exit 2) s)))
abbrev Z7 (s:mg):=(Qo s).rd s
def ab5 (s:mg):Prop:=s.a=0∧(0≤s.j∧s.j<(List.length s.data:Int))∧(s.data.length=s.b0.length∧(List.length s.data:Int)≤1000)∧(∀x∈s.data,0≤x∧x<(List.length s.b0:Int))∧yM s.b0 s.b1
def TS (s:mg):Prop:=s.a=0∧(0≤s.j∧s.j<(List.length s.data:Int))∧(s.data.length=s.b0.length∧(List.length s.data:Int)≤1000)∧(∀x∈s.data,0≤x∧x<(List.length s.b0:Int))∧yM s.b0 s.b1
def NW (s:mg):Nat:=s.j.toNat
def aqE (x:Ex) (_ _:mg):Prop:=x=.exit 2
theorem ayh:∀s,ab5 s→TS s:=by
 exact fun s h=>h
theorem auo (s:mg) (hI:TS s):bM (fun s'=>TS s'∧NW s'<NW s) (fun x s'=>aqE x s s') (Z7 s):=by
 unfold Z7 Qo
 dsimp only [T.rd,T.rl]
 obtain ⟨h0,⟨h1,h2⟩,⟨h3,h3'⟩,h4,h5⟩:=hI
 refine au (fun c1=>?_) (fun c1=>rfl)
 have c1:s.a<s.j:=by simpa using c1
 rw [aK (x:=s.j-1) (by omega) (by omega)]
 refine au (fun c2=>?_) (fun c2=>rfl)
 have g0:=fun (k:Nat) (hk:k<s.data.length)=>h4 (s.data.getD k 0) (by simp [List.getD,hk])
 have hm:∀x∈(s.data.set s.j.toNat (s.data.getD (s.j-1).toNat 0)).set (s.j-1).toNat (s.data.getD s.j.toNat 0),0≤x∧x<(List.length s.b0:Int):=fun x hx=>by
  rcases List.mem_or_eq_of_mem_set hx with hx|e
  ·rcases List.mem_or_eq_of_mem_set hx with hx|e
   ·exact h4 x hx
   ·rw [e];exact g0 _ (by omega)
  ·rw [e];exact g0 _ (by omega)
 exact ⟨⟨h0,⟨by simp only;omega,by simp only [List.length_set];omega⟩,⟨by simp only [List.length_set];exact h3,by simp only [List.length_set];exact h3'⟩,hm,h5⟩,by simp only [NW];omega⟩
def Jl:bQ mg:=⟨4,53,[0,1,2,3,8,9],[],aBa,aAe,fun v b=>⟨gI (v.getD 1 .junk),gI (v.getD 2 .junk),gI (v.getD 4 .junk),gI (v.getD 5 .junk),aQ rE (aY (aO b 0) 0),gI (aY (aO b 1) 0),jk (.int .i64) (aO b 2)⟩,Qo,fun s r=> {r with a:=s.a,b:=s.b,i:=s.i,b0:=s.b0,b1:=s.b1},fun s=>s,fun _ s=>s,[.exit 2],ab5,TS,NW⟩
abbrev y7:=Jl.run
abbrev anQ:=Jl.jZ
abbrev awf:=Jl.q
theorem asO (s:mg) (hI:TS s):(Qo s).all (fun _=>True):=by
 refine ⟨fun c1=>⟨?_,?_,?_,?_,?_,fun c2=>⟨?_,?_,?_,?_,?_,?_,?_,?_,?_,trivial⟩,fun c2=>⟨⟨rfl,rfl⟩,trivial⟩⟩,fun c1=>⟨⟨rfl,rfl⟩,trivial⟩⟩
 all_goals ((obtain ⟨h0,⟨h1,h2⟩,⟨h3,h3'⟩,h4,h5⟩:=hI;simp only [decide_eq_true_eq,gt_iff_lt] at c1;(try rw [aK (x:=s.j-1) (by omega) (by omega)]);have g0:∀k:Nat,k<s.data.length→0≤s.data.getD k (Ty.dflt (.int .i64))∧s.data.getD k (Ty.dflt (.int .i64))<(List.length s.b0:Int):=(fun k hk=>h4 _ (by simp [List.getD,hk]));first|omega|exact ⟨rfl,h5,g0 _ (by omega),g0 _ (by omega)⟩ |(simp only [List.length_set];omega) |exact ⟨rfl,by simp⟩))
theorem afO:Jl.Ok:=⟨fun s=>by kernel_rfl,fun s=>by kernel_rfl,fun s=>rfl,fun s t r=>rfl,fun s=>rfl,fun s=>by kernel_rfl⟩
theorem aeQ:Jl.Pf (aqE):=⟨ayh,fun _ _=>rfl,auo,asO⟩
theorem akM:bg Tryz.prog aP (AN 4) (.loop Ik) Jl.lp:=bQ.snd afO aeQ (bF (Γ:=vG) (K:=Ro) (L:=(sH Tryz.prog aP vG Ro 20 2)) xM Zo Ik (fun b _=>dR xM Zo 20 2 b)) (fun s=>by kernel_rfl)
theorem Zh (s:mg) (hE:ab5 s):(fun (x:Ex) (s':mg) (v:List Int)=>x=.exit 2∧s'.data=v) (anQ s) (y7 s) ((fun s:mg=>bub (ltD s.b0 s.b1) s.j.toNat s.data) s):=by
 exact bQ.xB afO aeQ (fun s:mg=>bub (ltD s.b0 s.b1) s.j.toNat s.data) (fun x s' v=>x=.exit 2∧s'.data=v) (fun s hI=>by
  show bM _ _ (Z7 s)
  unfold Z7 Qo
  dsimp only [T.rd,T.rl]
  obtain ⟨h0,⟨h1,h2⟩,⟨h3,h3'⟩,h4,h5⟩:=hI
  refine au (fun c1=>?_) (fun c1=>?_)
  ·have c1:s.a<s.j:=by simpa using c1
   rw [aK (x:=s.j-1) (by omega) (by omega)]
   have e:s.j.toNat=(s.j-1).toNat+1:=by omega
   refine au (fun c2=>?_) (fun c2=>?_)
   ·show bub _ _ _=bub _ _ _
    simp only
    rw [e,bub,if_pos (by unfold ltD;rw [e] at c2;exact c2)]
    rfl
   ·refine ⟨rfl,?_⟩
    rw [e] at c2
    rw [e,bub,if_neg (fun hh=>absurd ((show true=_ from hh.symm).trans c2) (by decide))]
  ·have c1:s.j≤s.a:=by simpa using c1
   refine ⟨rfl,?_⟩
   rw [show s.j.toNat=0 by omega]
   rfl) s hE
structure jV where
 a:Int
 b:Int
 i:Int
 b0:List Dm
 b1:Int
 data:List Int
def aBb (s:jV):List LV:=[.os 2 1 0 (List.length s.data),.v (.int .i64 s.a),.v (.int .i64 s.b),.fn 45 [.own 0 0,.own 3 0],.v (.int .i64 s.i)]
def aAf (s:jV):List aT:=[⟨[.xl rE s.b0],31,.cl,false⟩,⟨[.v (.int .i64 s.b1)],3,.cl,false⟩,⟨[],3,.vec (.int .i64) s.data,false⟩,⟨[.fn 43 [.own 0 0,.own 1 0]],84,.cl,false⟩]
noncomputable def SC:Code:=((aF (Tryz.f120.body.getD .skip))[0]?).getD .skip
def Qp (s:jV):T (Rd jV):=
 .br (decide (s.i<s.b)) (.rl s.data (.req (awf (⟨s.a,s.b,s.i,s.i,s.b0,s.b1,s.data⟩:mg)) (.rl (y7 (⟨s.a,s.b,s.i,s.i,s.b0,s.b1,s.data⟩:mg)).data (.ok (.next {s with i:=(IntKind.i64.wrap (s.i+1)),data:=(y7 (⟨s.a,s.b,s.i,s.i,s.b0,s.b1,s.data⟩:mg)).data}))))) (.rl s.data (.ok (.stop (.exit 0) s)))
abbrev Z8 (s:jV):=(Qp s).rd s
def ab6 (s:jV):Prop:=s.i=1∧(s.a=0∧s.b=(List.length s.data:Int))∧(s.data.length=s.b0.length∧(List.length s.data:Int)≤1000)∧(∀x∈s.data,0≤x∧x<(List.length s.b0:Int))∧yM s.b0 s.b1
def LG (s:jV):Prop:=1≤s.i∧(s.a=0∧s.b=(List.length s.data:Int))∧(s.data.length=s.b0.length∧(List.length s.data:Int)≤1000)∧(∀x∈s.data,0≤x∧x<(List.length s.b0:Int))∧yM s.b0 s.b1
def NY (s:jV):Nat:=(s.b-s.i).toNat
def aqF (x:Ex) (_ _:jV):Prop:=x=.exit 0
theorem ayi:∀s,ab6 s→LG s:=by
 intro s h
 obtain ⟨h0,h1⟩:=h
 exact ⟨by omega,h1⟩
theorem VT (s:jV) (hI:LG s) (c1:s.i<s.b):ab5 ⟨s.a,s.b,s.i,s.i,s.b0,s.b1,s.data⟩:=by
 obtain ⟨h0,⟨h1,h2⟩,h3⟩:=hI
 exact ⟨h1,⟨by simp only;omega,by simp only;omega⟩,h3⟩
theorem aup (s:jV) (hI:LG s):bM (fun s'=>LG s'∧NY s'<NY s) (fun x s'=>aqF x s s') (Z8 s):=by
 unfold Z8 Qp
 dsimp only [T.rd,T.rl]
 have hin:=fun c1=>VT s hI c1
 obtain ⟨h0,⟨h1,h2⟩,⟨h3,h3'⟩,h4,h5⟩:=hI
 refine au (fun c1=>?_) (fun c1=>rfl)
 have c1:s.i<s.b:=by simpa using c1
 obtain ⟨q1,q2⟩:=Zh _ (hin c1)
 have q2:(y7 ⟨s.a,s.b,s.i,s.i,s.b0,s.b1,s.data⟩).data=bub (ltD s.b0 s.b1) s.i.toNat s.data:=q2
 have hp:=ah3 (lt:=ltD s.b0 s.b1) (j:=s.i.toNat) (l:=s.data) (by omega)
 rw [aK (x:=s.i+1) (by omega) (by omega),q2]
 exact ⟨⟨by simp only;omega,⟨h1,by simp only [hp.length_eq];exact h2⟩,⟨by simp only [hp.length_eq];exact h3,by simp only [hp.length_eq];exact h3'⟩,fun x hx=>h4 x (hp.subset hx),h5⟩,by simp only [NY];omega⟩
def BF:bQ jV:=⟨4,53,[0,1,2,3,8],[],aBb,aAf,fun v b=>⟨gI (v.getD 1 .junk),gI (v.getD 2 .junk),gI (v.getD 4 .junk),aQ rE (aY (aO b 0) 0),gI (aY (aO b 1) 0),jk (.int .i64) (aO b 2)⟩,Qp,fun s r=> {r with a:=s.a,b:=s.b,b0:=s.b0,b1:=s.b1},fun s=>s,fun _ s=>s,[.exit 0],ab6,LG,NY⟩
abbrev oZ:=BF.run
abbrev anR:=BF.jZ
abbrev ajF:=BF.q
theorem asP (s:jV) (hI:LG s):(Qp s).all (fun _=>True):=by
 refine ⟨fun c1=>⟨⟨rfl,rfl⟩,?_,⟨rfl,rfl⟩,trivial⟩,fun c1=>⟨⟨rfl,rfl⟩,trivial⟩⟩
 ·exact ⟨VT s hI (by simpa using c1),rfl,rfl⟩
theorem afP:BF.Ok:=⟨fun s=>by kernel_rfl,fun s=>by kernel_rfl,fun s=>rfl,fun s t r=>rfl,fun s=>rfl,fun s=>by kernel_rfl⟩
theorem aeR:BF.Pf (aqF):=⟨ayi,fun _ _=>rfl,aup,asP⟩
theorem MQ:bg Tryz.prog aP (AN 4) (.loop SC) BF.lp:=bQ.snd afP aeR (bF (Γ:=vG) (K:=Ro) (L:=(ac6 (fun i=>if i=4 then Jl.lp else aC i))) xM Zo SC (fun b hb=>by
 rw [show aF _=[Ik] by kernel_rfl] at hb
 simp only [List.mem_cons,List.not_mem_nil,or_false] at hb
 subst hb
 exact akM)) (fun s=>by kernel_rfl)
theorem anf (s:jV) (hE:ab6 s):(fun (x:Ex) (s':jV) (v:List Int)=>x=.exit 0∧s'.data=v) (anR s) (oZ s) ((fun s:jV=>uq (ltD s.b0 s.b1) s.data s.i.toNat) s):=by
 exact bQ.xB afP aeR (fun s:jV=>uq (ltD s.b0 s.b1) s.data s.i.toNat) (fun x s' v=>x=.exit 0∧s'.data=v) (fun s hI=>by
  show bM _ _ (Z8 s)
  unfold Z8 Qp
  dsimp only [T.rd,T.rl]
  have hin:=fun c1=>VT s hI c1
  obtain ⟨h0,⟨h1,h2⟩,⟨h3,h3'⟩,h4,h5⟩:=hI
  refine au (fun c1=>?_) (fun c1=>?_)
  ·have c1:s.i<s.b:=by simpa using c1
   obtain ⟨q1,q2⟩:=Zh _ (hin c1)
   have q2:(y7 ⟨s.a,s.b,s.i,s.i,s.b0,s.b1,s.data⟩).data=bub (ltD s.b0 s.b1) s.i.toNat s.data:=q2
   rw [aK (x:=s.i+1) (by omega) (by omega)]
   show uq _ _ _=uq _ _ _
   simp only
   rw [q2,show (s.i+1).toNat=s.i.toNat+1 by omega,UQ (by omega)]
  ·have c1:s.b≤s.i:=by simpa using c1
   exact ⟨rfl,(acz (by omega)).symm⟩) s hE
structure mP where
 n:Int
 di:Int
 a:Int
 b:Int
 b0:List Dm
 b1:Int
 data:List Int
def aAD (s:mP):List LV:=[.os 2 1 0 (List.length s.data),.v (.int .i64 s.n),.fn 45 [.own 0 0,.own 3 0],.v (.int .i64 s.di),.v (.int .i64 s.a),.v (.int .i64 s.b)]
def azH (s:mP):List aT:=[⟨[.xl rE s.b0],31,.cl,false⟩,⟨[.v (.int .i64 s.b1)],3,.cl,false⟩,⟨[],3,.vec (.int .i64) s.data,false⟩,⟨[.fn 43 [.own 0 0,.own 1 0]],84,.cl,false⟩]
noncomputable def Sv:Code:=((aF (Tryz.f84.body.getD .skip))[0]?).getD .skip
def P7 (s:mP):T (Rd mP):=
 .br (decide (s.b≤s.n)) (.rl s.data (.req (ajF (⟨s.a,s.b,(IntKind.i64.wrap (s.a+1)),s.b0,s.b1,s.data⟩:jV)) (.req (0=0∧(List.length s.data)=List.length (oZ (⟨s.a,s.b,(IntKind.i64.wrap (s.a+1)),s.b0,s.b1,s.data⟩:jV)).data) (.ok (.next {s with a:=s.b,b:=(IntKind.i64.wrap (s.b+s.di)),data:=(oZ (⟨s.a,s.b,(IntKind.i64.wrap (s.a+1)),s.b0,s.b1,s.data⟩:jV)).data}))))) (.rl s.data (.ok (.stop (.exit 0) s)))
abbrev ZJ (s:mP):=(P7 s).rd s
def abV (s:mP):Prop:=s.b=20∧s.n<20
def KR (s:mP):Prop:=s.b=20∧s.n<20
def VA (_:mP):Nat:=0
def aqw (x:Ex) (_ _:mP):Prop:=x=.exit 0
theorem axa:∀s,abV s→KR s:=by
 exact fun s h=>h
theorem arL (s:mP) (hI:KR s):bM (fun s'=>KR s'∧VA s'<VA s) (fun x s'=>aqw x s s') (ZJ s):=by
 unfold ZJ P7
 dsimp only [T.rd,T.rl]
 obtain ⟨h0,h1⟩:=hI
 refine au (fun c1=>absurd (show s.b≤s.n by simpa using c1) (by omega)) (fun c1=>rfl)
def DV:bQ mP:=⟨4,63,[0,1,2,6,7,8],[],aAD,azH,fun v b=>⟨gI (v.getD 1 .junk),gI (v.getD 3 .junk),gI (v.getD 4 .junk),gI (v.getD 5 .junk),aQ rE (aY (aO b 0) 0),gI (aY (aO b 1) 0),jk (.int .i64) (aO b 2)⟩,P7,fun s r=> {r with n:=s.n,di:=s.di,b0:=s.b0,b1:=s.b1},fun s=>s,fun _ s=>s,[.exit 0],abV,KR,VA⟩
abbrev iT:=DV.run
abbrev anw:=DV.jZ
abbrev avI:=DV.q
noncomputable def ag7:Hand:=inl Tryz.prog aP vG (ku 120 4 1 (BF.lp) (lJ Tryz.prog aP (vG) 20 2)) 9
theorem ao8:dM Tryz.prog aP ag7:=bT xM (dL Tryz.func120 rfl (by kernel_rfl) MQ (dP xM)) 9
theorem asb (s:mP) (hI:KR s):(P7 s).all (fun _=>True):=by
 refine ⟨fun c1=>⟨⟨rfl,rfl⟩,?_,?_,trivial⟩,fun c1=>⟨⟨rfl,rfl⟩,trivial⟩⟩
 all_goals ((simp only [decide_eq_true_eq] at c1;exact absurd c1 (by have:=hI;unfold KR at this;omega)))
theorem afq:DV.Ok:=⟨fun s=>by kernel_rfl,fun s=>by kernel_rfl,fun s=>rfl,fun s t r=>rfl,fun s=>rfl,fun s=>by kernel_rfl⟩
theorem aer:DV.Pf (aqw):=⟨axa,fun _ _=>rfl,arL,asb⟩
theorem YC:bg Tryz.prog aP (AN 4) (.loop Sv) DV.lp:=bQ.snd afq aer (bF (Γ:=vG) (K:=ag7) (L:=(sH Tryz.prog aP vG ag7 20 2)) xM ao8 Sv (fun b _=>dR xM ao8 20 2 b)) (fun s=>by kernel_rfl)
theorem aj7 (s:mP) (hE:abV s):(fun (x:Ex) (s':mP) (v:List Int×Int)=>x=.exit 0∧(s'.data,s'.a)=v) (anw s) (iT s) ((fun s:mP=>(s.data,s.a)) s):=by
 exact bQ.xB afq aer (fun s:mP=>(s.data,s.a)) (fun x s' v=>x=.exit 0∧(s'.data,s'.a)=v) (fun s hI=>by
  show bM _ _ (ZJ s)
  unfold ZJ P7
  dsimp only [T.rd,T.rl]
  obtain ⟨h0,h1⟩:=hI
  exact au (fun c1=>absurd (show s.b≤s.n by simpa using c1) (by omega)) (fun c1=>⟨rfl,rfl⟩)) s hE
def WV:List LV→T LV:=fun _=> .req False (.ok (.v undef))
theorem aqY:Valid Tryz.prog aP 121 WV:=by
 intro _ _ _ _ _ _ _ _ _ h
 exact h.1.elim
structure qQ where
 n:Int
 di:Int
 a:Int
 b:Int
 b0:List Dm
 b1:Int
 data:List Int
def aAB (s:qQ):List LV:=[.os 2 1 0 (List.length s.data),.v (.int .i64 s.n),.fn 45 [.own 0 0,.own 3 0],.v (.int .i64 s.di),.v (.int .i64 s.a),.v (.int .i64 s.b)]
def azF (s:qQ):List aT:=[⟨[.xl rE s.b0],31,.cl,false⟩,⟨[.v (.int .i64 s.b1)],3,.cl,false⟩,⟨[],3,.vec (.int .i64) s.data,false⟩,⟨[.fn 43 [.own 0 0,.own 1 0]],84,.cl,false⟩]
noncomputable def Ig:Code:=((aF (((aF (Tryz.f84.body.getD .skip))[1]?).getD .skip))[0]?).getD .skip
def X5 (s:qQ):T (Rd qQ):=
 .br (decide (s.b≤s.n)) (.req (0+(List.length s.data)≤List.length s.data) (.req False (.rl s.data (.ok (.next {s with a:=s.b,b:=(IntKind.i64.wrap (s.b+(IntKind.i64.wrap (2*s.di))))}))))) (.rl s.data (.ok (.stop (.exit 4) s)))
abbrev apY (s:qQ):=(X5 s).rd s
def aqK (_:qQ):Prop:=False
def TJ (_:qQ):Prop:=False
def Vy (_:qQ):Nat:=0
def aqu (_:Ex) (_ _:qQ):Prop:=True
theorem aw8:∀s,aqK s→TJ s:=by
 exact fun s h=>h
theorem arJ (s:qQ) (hI:TJ s):bM (fun s'=>TJ s'∧Vy s'<Vy s) (fun x s'=>aqu x s s') (apY s):=by
 unfold apY X5
 dsimp only [T.rd,T.rl]
 exact hI.elim
def Me:bQ qQ:=⟨4,63,[0,1,2,6,7,8],[],aAB,azF,fun v b=>⟨gI (v.getD 1 .junk),gI (v.getD 3 .junk),gI (v.getD 4 .junk),gI (v.getD 5 .junk),aQ rE (aY (aO b 0) 0),gI (aY (aO b 1) 0),jk (.int .i64) (aO b 2)⟩,X5,fun s r=> {r with n:=s.n,di:=s.di,b0:=s.b0,b1:=s.b1,data:=s.data},fun s=>s,fun _ s=>s,[.exit 4],aqK,TJ,Vy⟩
abbrev ald:=Me.run
abbrev avG:=Me.q
noncomputable def zG:Specs:=bf [(43,yH),(45,Ti),(121,WV)]
theorem Dn:∀g S,zG g=some S→Valid Tryz.prog aP g S:=aS (l:=[(43,yH),(45,Ti),(121,WV)]) ⟨UA,aoD,aqY,trivial⟩
noncomputable def Zq:Hand:=inl Tryz.prog aP zG (ku 84 4 2 (DV.lp) (ku 120 4 1 (BF.lp) (lJ Tryz.prog aP (zG) 20 2))) 9
theorem ag0:dM Tryz.prog aP Zq:=bT Dn (dL Tryz.func84 rfl (by kernel_rfl) YC (dL Tryz.func120 rfl (by kernel_rfl) MQ (dP Dn))) 9
theorem ar9 (s:qQ) (hI:TJ s):(X5 s).all (fun _=>True):=by
 refine ⟨fun c1=>⟨?_,?_,⟨rfl,rfl⟩,trivial⟩,fun c1=>⟨⟨rfl,rfl⟩,trivial⟩⟩
 all_goals (exact hI.elim)
theorem atw:Me.Ok:=⟨fun s=>by kernel_rfl,fun s=>by kernel_rfl,fun s=>rfl,fun s t r=>rfl,fun s=>rfl,fun s=>by kernel_rfl⟩
theorem atq:Me.Pf (aqu):=⟨aw8,fun _ _=>rfl,arJ,ar9⟩
theorem akf:bg Tryz.prog aP (AN 4) (.loop Ig) Me.lp:=bQ.snd atw atq (bF (Γ:=zG) (K:=Zq) (L:=(sH Tryz.prog aP zG Zq 20 2)) Dn ag0 Ig (fun b _=>dR Dn ag0 20 2 b)) (fun s=>by kernel_rfl)
structure qR where
 n:Int
 di:Int
 b0:List Dm
 b1:Int
 data:List Int
def aAC (s:qR):List LV:=[.os 2 1 0 (List.length s.data),.v (.int .i64 s.n),.fn 45 [.own 0 0,.own 3 0],.v (.int .i64 s.di)]
def azG (s:qR):List aT:=[⟨[.xl rE s.b0],31,.cl,false⟩,⟨[.v (.int .i64 s.b1)],3,.cl,false⟩,⟨[],3,.vec (.int .i64) s.data,false⟩,⟨[.fn 43 [.own 0 0,.own 1 0]],84,.cl,false⟩]
noncomputable def Sr:Code:=((aF (Tryz.f84.body.getD .skip))[1]?).getD .skip
def X6 (s:qR):T (Rd qR):=
 .br (decide (s.di<s.n)) (.rl s.data (.req (avG (⟨s.n,s.di,(0:Int),(IntKind.i64.wrap (2*s.di)),s.b0,s.b1,s.data⟩:qQ)) (.br (decide ((IntKind.i64.wrap ((ald (⟨s.n,s.di,(0:Int),(IntKind.i64.wrap (2*s.di)),s.b0,s.b1,s.data⟩:qQ)).a+s.di))<s.n)) (.req (0+(List.length s.data)≤List.length s.data) (.req False (.rl s.data (.ok (.next {s with di:=(IntKind.i64.wrap (s.di*2))}))))) (.rl s.data (.ok (.next {s with di:=(IntKind.i64.wrap (s.di*2))})))))) (.rl s.data (.ok (.stop (.exit 2) s)))
abbrev apZ (s:qR):=(X6 s).rd s
def ajq (s:qR):Prop:=s.di=20∧s.n<20
def KQ (s:qR):Prop:=s.di=20∧s.n<20
def Vz (_:qR):Nat:=0
def aqv (x:Ex) (_ _:qR):Prop:=x=.exit 2
theorem aw9:∀s,ajq s→KQ s:=by
 exact fun s h=>h
theorem arK (s:qR) (hI:KQ s):bM (fun s'=>KQ s'∧Vz s'<Vz s) (fun x s'=>aqv x s s') (apZ s):=by
 unfold apZ X6
 dsimp only [T.rd,T.rl]
 obtain ⟨h0,h1⟩:=hI
 refine au (fun c1=>absurd (show s.di<s.n by simpa using c1) (by omega)) (fun c1=>rfl)
def Um:bQ qR:=⟨4,63,[0,1,2,6],[],aAC,azG,fun v b=>⟨gI (v.getD 1 .junk),gI (v.getD 3 .junk),aQ rE (aY (aO b 0) 0),gI (aY (aO b 1) 0),jk (.int .i64) (aO b 2)⟩,X6,fun s r=> {r with n:=s.n,b0:=s.b0,b1:=s.b1,data:=s.data},fun s=>s,fun _ s=>s,[.exit 2],ajq,KQ,Vz⟩
abbrev avH:=Um.q
theorem asa (s:qR) (hI:KQ s):(X6 s).all (fun _=>True):=by
 refine ⟨fun c1=>⟨⟨rfl,rfl⟩,?_,fun c2=>⟨?_,?_,⟨rfl,rfl⟩,trivial⟩,fun c2=>⟨⟨rfl,rfl⟩,trivial⟩⟩,fun c1=>⟨⟨rfl,rfl⟩,trivial⟩⟩
 all_goals ((simp only [decide_eq_true_eq] at c1;exact absurd c1 (by have:=hI;unfold KQ at this;omega)))
theorem atx:Um.Ok:=⟨fun s=>by kernel_rfl,fun s=>by kernel_rfl,fun s=>rfl,fun s t r=>rfl,fun s=>rfl,fun s=>by kernel_rfl⟩
theorem atr:Um.Pf (aqv):=⟨aw9,fun _ _=>rfl,arK,asa⟩
theorem akg:bg Tryz.prog aP (AN 4) (.loop Sr) Um.lp:=bQ.snd atx atr (bF (Γ:=zG) (K:=Zq) (L:=(ac6 (fun i=>if i=9 then Me.lp else aC i))) Dn ag0 Sr (fun b hb=>by
 rw [show aF _=[Ig] by kernel_rfl] at hb
 simp only [List.mem_cons,List.not_mem_nil,or_false] at hb
 subst hb
 exact akf)) (fun s=>by kernel_rfl)
def abh:List LV→T LV
 | [.xl (.pair .bool (.pair (.int .i64) (.pair (.int .i64) (.int .i64)))) d,.v (.int .i64 t)]=> .req (yM d t∧d.length≤19) (.ok (.xl (.int .i64) (jQ d t)))
 |_=> .no
noncomputable def II:List LV→T LV:=gW Tryz.prog Tryz.f19.params.toList abh
def iq (d:List Dm) (t:Int):qj:=(⟨(((List.length d:Int).toNat:Nat):Int),(0:Int),d,t,(List.replicate (List.length d:Int).toNat (0:Int))⟩:qj)
def gu (d:List Dm) (t:Int):mP:=(⟨((List.length (jM (iq d t)).out:Nat):Int),(20:Int),(0:Int),(20:Int),d,t,(jM (iq d t)).out⟩:mP)
def nN (d:List Dm) (t:Int):jV:=(⟨(iT (gu d t)).a,((List.length (jM (iq d t)).out:Nat):Int),(IntKind.i64.wrap ((iT (gu d t)).a+1)),d,t,(iT (gu d t)).data⟩:jV)
def Qy (d:List Dm) (t:Int):qR:=(⟨((List.length (jM (iq d t)).out:Nat):Int),(20:Int),d,t,(oZ (nN d t)).data⟩:qR)
noncomputable def apk:Hand:=inl Tryz.prog aP zG (ku 84 4 7 (Um.lp) (ku 84 4 2 (DV.lp) (ku 120 4 1 (BF.lp) (lJ Tryz.prog aP (zG) 20 2)))) 9
theorem ayq:dM Tryz.prog aP apk:=bT Dn (dL Tryz.func84 rfl (by kernel_rfl) akg (dL Tryz.func84 rfl (by kernel_rfl) YC (dL Tryz.func120 rfl (by kernel_rfl) MQ (dP Dn)))) 9
theorem amo (d:List Dm) (t:Int):bW Tryz.prog aP (zG) apk (fun i=>if i=3 then Eg.lp else aC i) Tryz.f19 [.xl rE d,.v (.int .i64 t)]=.req (0≤(List.length d:Int)∧(List.length d:Int)≤(List.length d:Int)∧8*(List.length d:Int)≤2^48∧(List.length d:Int)<2^63) (.req (0=0∧(List.length d:Int).toNat=List.length (List.replicate (List.length d:Int).toNat (0:Int))) (.req (av2 (iq d t)) (.rl (jM (iq d t)).out (.req (avI (gu d t)) (.rl (iT (gu d t)).data (.req (ajF (nN d t)) (.req (0=0∧(List.length (iT (gu d t)).data)=List.length (oZ (nN d t)).data) (.req (avH (Qy d t)) (.req (0+(List.length (jM (iq d t)).out)≤List.length (oZ (nN d t)).data) (.ok (.xl (.int .i64) (((oZ (nN d t)).data.drop 0).take (List.length (jM (iq d t)).out))))))))))))):=by kernel_rfl
theorem adH:Valid Tryz.prog aP 19 II:=aH Tryz.func19 rfl Dn ayq (L:=(fun i=>if i=3 then Eg.lp else aC i)) (fun b hb=>by
 rw [show aF _=[Ar] by kernel_rfl] at hb
 simp only [List.mem_cons,List.not_mem_nil,or_false] at hb
 subst hb
 exact akA) (fun args lv h=>by
 unfold abh at h
 split at h
 ·simp only [canL,canX]
  rw [amo]
  rename_i d t
  obtain ⟨⟨hw,hd⟩,rfl⟩:=h
  have hE:ab1 (iq d t):=⟨rfl,by show List.replicate (List.length d:Int).toNat (0:Int)=List.replicate d.length 0;rw [Int.toNat_natCast],by show (((List.length d:Int).toNat:Nat):Int)=(List.length d:Int);omega,by show (((List.length d:Int).toNat:Nat):Int)≤1000;omega,by show (List.replicate _ (0:Int)).length=d.length;rw [List.length_replicate];omega⟩
  obtain ⟨_,_,_,q1⟩:=alG _ hE
  have q1:(jM (iq d t)).out=yc d.length:=q1
  have hl:(jM (iq d t)).out.length=d.length:=by rw [q1,pF]
  have hE2:abV (gu d t):=⟨rfl,by show ((List.length (jM (iq d t)).out:Nat):Int)<20;omega⟩
  obtain ⟨_,q2⟩:=aj7 _ hE2
  have q2a:(iT (gu d t)).data=yc d.length:=(congrArg Prod.fst q2).trans q1
  have q2b:(iT (gu d t)).a=0:=congrArg Prod.snd q2
  have hE3:ab6 (nN d t):=⟨by show IntKind.i64.wrap ((iT (gu d t)).a+1)=1;rw [q2b];rfl,⟨q2b,by show ((List.length (jM (iq d t)).out:Nat):Int)=(List.length (iT (gu d t)).data:Int);rw [q2a,hl,pF]⟩,⟨by show (iT (gu d t)).data.length=d.length;rw [q2a,pF],by show (List.length (iT (gu d t)).data:Int)≤1000;rw [q2a,pF];omega⟩,fun x hx=>QI.1 (by have hx:x∈(iT (gu d t)).data:=hx;rw [q2a] at hx;exact hx),hw⟩
  obtain ⟨_,q3⟩:=anf _ hE3
  have q3:(oZ (nN d t)).data=jQ d t:=q3.trans (by
   show uq (ltD d t) (iT (gu d t)).data (IntKind.i64.wrap ((iT (gu d t)).a+1)).toNat=_
   rw [q2b,q2a]
   exact acy)
  have hl3:(oZ (nN d t)).data.length=d.length:=by rw [q3,QT]
  have hE4:ajq (Qy d t):=⟨rfl,by show ((List.length (jM (iq d t)).out:Nat):Int)<20;omega⟩
  refine ⟨⟨by omega,by omega,by omega,by omega⟩,⟨rfl,by simp⟩,⟨hE,rfl,rfl⟩,⟨rfl,rfl⟩,⟨hE2,rfl,rfl⟩,⟨rfl,rfl⟩,⟨hE3,rfl,rfl⟩,⟨rfl,by rw [q2a,pF,hl3]⟩,⟨hE4,rfl,rfl⟩,by omega,?_⟩
  show LV.xl _ _=_
  rw [List.drop_zero,hl,←hl3,List.take_length,q3]
 ·cases h)
end Go.Proofs.YtlihnbimgclogaaGreatDoor
namespace Go.Proofs.YtlihnbimgclogaaGreatDoor
def isL (mn mx st a:Int):Bool:=a==0 ||(decide (mn≤a)&&(decide (a≤mx)&&((a-mn) %st==0)))
theorem tC {mn mx st a:Int}:isL mn mx st a=true↔a=0∨(mn≤a∧a≤mx∧(a-mn) %st=0):=by simp [isL]
theorem zo {mn mx st a:Int}(hc:uz mn mx st):isL mn mx st (kY mn mx st a)=true:=by
 unfold uz at hc
 rw [tC]
 unfold kY
 split
 ·exact .inl rfl
 ·right
  have e1:=uf (x:=min a mx-mn) (s:=st) (by omega) (by omega)
  refine ⟨by omega,by omega,?_⟩
  have h:=Int.mul_ediv_add_emod (min a mx-mn) st
  rw [show min a mx-(min a mx-mn) %st-mn=st*((min a mx-mn) / st) by omega]
  exact Int.mul_emod_right _ _
theorem GV {mn mx st a:Int}(hc:uz mn mx st) (ha:0≤a):kY mn mx st a≤a:=by
 have hc':=hc
 unfold uz at hc'
 have:=pK (a:=a) hc'.1 hc'.2.1 hc'.2.2.1 hc'.2.2.2.1
 by_cases h:a<mn
 ·omega
 ·omega
theorem amX {x y s:Int}(hs:1≤s) (hy:y%s=0) (h:y≤x):y≤x-x%s:=by
 have h1:=Int.mul_ediv_add_emod x s
 have h2:=Int.mul_ediv_add_emod y s
 have h3:=Int.emod_lt_of_pos x (b:=s) (by omega)
 by_cases hq:y / s≤x / s
 ·have:=Int.mul_le_mul_of_nonneg_left hq (show 0≤s by omega)
  omega
 ·have:=Int.mul_le_mul_of_nonneg_left (show x / s+1≤y / s by omega) (show 0≤s by omega)
  rw [Int.mul_add,Int.mul_one] at this
  omega
theorem lV {mn mx st a L:Int}(hc:uz mn mx st) (hL:isL mn mx st L=true) (h:L≤a):L≤kY mn mx st a:=by
 have hc':=hc
 unfold uz at hc'
 rw [tC] at hL
 rcases hL with rfl|⟨h1,h2,h3⟩
 ·exact (pK (a:=a) hc'.1 hc'.2.1 hc'.2.2.1 hc'.2.2.2.1).1
 ·unfold kY
  rw [if_neg (by omega)]
  have:=amX (x:=min a mx-mn) (y:=L-mn) (s:=st) (by omega) h3 (by omega)
  omega
theorem Q9 {mn mx st a:Int}(hc:uz mn mx st) (h:isL mn mx st a=true) (ha:0≤a):kY mn mx st a=a:=by
 have h1:=GV hc ha
 have h2:=lV hc h (Int.le_refl a)
 omega
theorem QW {ph mn mx st fb a s want:Int}(h:okB ph mn mx st fb a s want=true):uz mn mx st∧0≤s∧s≤1000000∧0≤want∧want≤80∧0≤a∧a≤80∧isL mn mx st a=true∧a≤mx∧(a≠0→mn≤a):=by
 have h':=h
 simp only [okB,Jt,Bool.and_eq_true,decide_eq_true_eq,beq_iff_eq] at h'
 obtain ⟨⟨_,_,_,_,h5⟩,_⟩:=h'
 obtain ⟨_,h2,h3,h4,h6,h7,_⟩:=Y4 h
 have hl:isL mn mx st a=true:=by rw [←h5];exact zo h2
 have hl':=tC.1 hl
 have h2':=h2
 unfold uz at h2'
 exact ⟨h2,h3.1,h3.2,h4.1,h4.2,h6,h7,hl,by omega,by omega⟩
theorem ax7 {ph mn mx st fb a s want:Int}(h:okB ph mn mx st fb a s want=true):nE ph mn mx st fb a s want=0:=by rw [nE,if_pos h]
theorem ao1 {ph mn mx st fb a s want:Int}(h:okB ph mn mx st fb a s want=true):nA ph mn mx st fb a s want=if a=0 then (if kY mn mx st want≠0∧5≤s then mn else 0) else if kY mn mx st want=0 then 0 else min (kY mn mx st want) (a+st):=by rw [nA,if_pos h]
theorem ax6 {ph mn mx st fb a s want:Int}(h:okB ph mn mx st fb a s want=true):nS ph mn mx st fb a s want=if a=0 then (if kY mn mx st want≠0∧5≤s then 0 else min (s+1) 1000000) else if kY mn mx st want=0 then 0 else min (s+1) 1000000:=by rw [nS,if_pos h]
theorem agT {mn mx st:Int}(hc:uz mn mx st):isL mn mx st mn=true:=by
 unfold uz at hc
 rw [tC];right;exact ⟨by omega,by omega,by simp⟩
theorem ang {mn mx st a:Int}(ha:isL mn mx st a=true) (h0:a≠0) (h1:a+st≤mx) (hs:1≤st):isL mn mx st (a+st)=true:=by
 rw [tC] at ha⊢
 rcases ha with h|⟨h2,h3,h4⟩
 ·exact absurd h h0
 ·right
  exact ⟨by omega,h1,by rw [show a+st-mn=(a-mn)+st by omega,Int.add_emod_right];exact h4⟩
theorem Rf {mn mx st a b:Int}(hc:uz mn mx st) (h0:0≤a) (h:a≤b):kY mn mx st a≤kY mn mx st b:=by
 have h1:=GV hc h0
 exact lV hc (zo (a:=a) hc) (by omega)
theorem acO {mn mx st a:Int}(hc:uz mn mx st):kY mn mx st a≤mx:=by
 have h:=tC.1 (zo (a:=a) hc)
 unfold uz at hc
 omega
theorem alr {mn mx st a want:Int}(hc:uz mn mx st) (ha:isL mn mx st a=true) (h0:a≠0) (ha0:0≤a) (hw:0≤want):(if kY mn mx st want=0 then 0 else min (kY mn mx st want) (a+st))=kY mn mx st (min want (a+st)):=by
 have hc':=hc
 unfold uz at hc'
 have hla:=tC.1 ha
 by_cases h1:want≤a+st
 ·rw [show min want (a+st)=want by omega]
  have:=GV hc hw
  split<;>omega
 ·rw [show min want (a+st)=a+st by omega]
  have hge:a≤kY mn mx st want:=lV hc ha (by omega)
  rw [if_neg (by omega)]
  by_cases h2:a+st≤mx
  ·have hl:=ang ha h0 h2 (by omega)
   rw [Q9 hc hl (by omega)]
   have:=lV hc hl (show a+st≤want by omega)
   omega
  ·have m1:=acO (a:=want) hc
   have g1:=lV hc (zo (a:=want) hc) (show kY mn mx st want≤a+st by omega)
   have g2:=Rf hc (show 0≤a+st by omega) (show a+st≤want by omega)
   omega
theorem alX {ph mn mx st fb a s want most:Int}(hk:okB ph mn mx st fb a s want=true) (hm:most=if a=0 then mn else a+st):
  isL mn mx st (nA ph mn mx st fb a s want)=true∧nA ph mn mx st fb a s want≤want∧nA ph mn mx st fb a s want≤most∧(nA ph mn mx st fb a s want=kY mn mx st (min want most)∨(a=0∧s<5∧nA ph mn mx st fb a s want=0))∧(a≠0∨5≤s∨nA ph mn mx st fb a s want=0):=by
 obtain ⟨hc,h1,h2,h3,h4,h5,h6,h7,h8,h9⟩:=QW hk
 have hc':=hc
 unfold uz at hc'
 rw [ao1 hk]
 have lw:=GV hc h3
 by_cases h0:a=0
 ·rw [if_pos h0] at hm⊢
  by_cases hh:kY mn mx st want≠0∧5≤s
  ·rw [if_pos hh]
   have hw:mn≤want:=by
    apply Classical.byContradiction
    intro hn
    exact hh.1 (by rw [kY,if_pos (by omega)])
   refine ⟨agT hc,hw,by omega,.inl ?_,.inr (.inl hh.2)⟩
   rw [hm,show min want mn=mn by omega,Q9 hc (agT hc) (by omega)]
  ·rw [if_neg hh]
   refine ⟨by simp [isL],h3,by omega,?_,.inr (.inr rfl)⟩
   by_cases hs:s<5
   ·exact .inr ⟨h0,hs,rfl⟩
   ·left
    have h10:kY mn mx st want=0:=by
     apply Classical.byContradiction
     intro hn
     exact hh ⟨hn,by omega⟩
    have:=Rf hc (show 0≤min want most by omega) (show min want most≤want by omega)
    have:=(pK (a:=min want most) hc'.1 hc'.2.1 hc'.2.2.1 hc'.2.2.2.1).1
    omega
 ·rw [if_neg h0] at hm⊢
  rw [alr hc h7 h0 h5 h3]
  have:=GV hc (show 0≤min want (a+st) by omega)
  exact ⟨zo hc,by omega,by omega,.inl (by rw [hm]),.inl h0⟩
theorem Vt {ph mn mx st fb a s want:Int}(hk:okB ph mn mx st fb a s want=true):
  0≤nA ph mn mx st fb a s want∧(0≤nS ph mn mx st fb a s want∧nS ph mn mx st fb a s want≤1000000∧nS ph mn mx st fb a s want≤s+1)∧(a=0→nA ph mn mx st fb a s want≠0→5≤s)∧(a≠0→nA ph mn mx st fb a s want=0→nS ph mn mx st fb a s want=0)∧
  (¬((nA ph mn mx st fb a s want=0)↔(a=0))→nS ph mn mx st fb a s want=0)∧(((nA ph mn mx st fb a s want=0)↔(a=0))→nS ph mn mx st fb a s want=min (s+1) 1000000):=by
 obtain ⟨hc,h1,h2,h3,h4,h5,h6,h7,h8,h9⟩:=QW hk
 have hc':=hc
 unfold uz at hc'
 have hb:=(pK (a:=want) hc'.1 hc'.2.1 hc'.2.2.1 hc'.2.2.2.1).1
 rw [ao1 hk,ax6 hk]
 by_cases h0:a=0
 ·simp only [if_pos h0]
  by_cases hh:kY mn mx st want≠0∧5≤s
  ·simp only [if_pos hh];exact ⟨by omega,⟨by omega,by omega,by omega⟩,fun _ _=>by omega,fun _ _=>by omega,fun _=>trivial,fun h=>absurd (h.2 h0) (by omega)⟩
  ·simp only [if_neg hh];exact ⟨by omega,⟨by omega,by omega,by omega⟩,fun _ _=>by omega,fun _ _=>by omega,fun h=>absurd ⟨fun _=>h0,fun _=>trivial⟩ h,fun _=>trivial⟩
 ·simp only [if_neg h0]
  by_cases hh:kY mn mx st want=0
  ·simp only [if_pos hh];exact ⟨by omega,⟨by omega,by omega,by omega⟩,fun _ _=>by omega,fun _ _=>by omega,fun _=>trivial,fun h=>absurd (h.1 trivial) h0⟩
  ·simp only [if_neg hh];exact ⟨by omega,⟨by omega,by omega,by omega⟩,fun _ _=>by omega,fun _ _=>by omega,fun h=>absurd ⟨fun e=>by omega,fun e=>absurd e h0⟩ h,fun _=>trivial⟩
end Go.Proofs.YtlihnbimgclogaaGreatDoor
namespace Go.Proofs.YtlihnbimgclogaaGreatDoor
open Go.Sx
structure kK where
 rs:List Ra
 tick:Int
 n:Int
 t15:Int
 offers:List Int
 m:List Ch
 k:Int
 i:Int
 Wv:List Cd
 c1:List ByteArray
 c2:List Ko
 c3:List Ch
 c4:List Ba
 jl:List Le
 CP:List Dm
 uh:Int
 O6:List Int
 dO:List Int
 next:List Ra
 cZ:List Le
def aBo (s:kK):List LV:=[.xl FQ s.rs,.v (.int .i64 s.tick),.v (.int .i64 s.n),.v (.slice none 0 0),.v (.slice none 0 0),.v (.slice none 0 0),.v (.int .i64 s.t15),.own 0 0,.xl (.int .i64) s.offers,.os 1 1 0 (List.length s.dO),.os 2 2 0 (List.length s.next),.os 3 5 0 (List.length s.cZ),.xl dQ s.m,.v (.int .i64 s.k),.v (.int .i64 s.i)]
def aAr (s:kK):List aT:=[⟨[.xl dW s.Wv,.xl .str s.c1,.xl eu s.c2,.xl dQ s.c3,.xl eG s.c4,.xl jL s.jl,.xl rE s.CP,.v (.int .i64 s.uh),.xl (.int .i64) s.O6],75,.cl,true⟩,⟨[],3,.vec (.int .i64) s.dO,false⟩,⟨[],53,.vec FQ s.next,false⟩,⟨[],63,.vec jL s.cZ,false⟩]
noncomputable def Bc:Code:=((aF (Tryz.f14.body.getD .skip))[0]?).getD .skip
def MJ (s:kK) (e:Int) (w:Bool) (x:Int) (y:Int):T (Rd kK):=
 .br (decide (s.i<s.k)) (.req (0≤s.i∧s.i<(List.length s.m:Int)) (.req (0≤s.i∧s.i<(List.length s.rs:Int)) (.req (0≤s.i∧s.i<(List.length s.offers:Int)) (.br (e !=0) (.rl s.dO (.rl s.next (.rl s.cZ (.ok (.stop (.ret) {s with t15:=(1:Int)}))))) (.req (0≤s.i∧s.i<((List.length s.dO:Nat):Int)) (.req (s.i.toNat<List.length s.dO) (.req (0≤s.i∧s.i<((List.length s.next:Nat):Int)) (.req (s.i.toNat<List.length s.next) (.req ((0≤s.i∧s.i<(List.length s.c3:Int))∧(List.length s.jl:Int)≤1000∧0≤s.uh∧s.uh≤1000000) (.br w (.req (0+(List.length s.cZ)=List.length s.cZ∧((List.length s.cZ+List.length ([(s.n,(s.i,(x,(s.tick,(12:Int)))))]):Nat):Int)*40≤2^47∧((List.length s.cZ+List.length ([(s.n,(s.i,(x,(s.tick,(12:Int)))))]):Nat):Int)<2^62) (.req (0=0∧(List.length s.dO)=List.length (s.dO.set s.i.toNat x)) (.req (0=0∧(List.length s.next)=List.length (s.next.set s.i.toNat (x,y))) (.req (0=0∧(List.length s.cZ+List.length ([(s.n,(s.i,(x,(s.tick,(12:Int)))))]))=List.length (s.cZ++([(s.n,(s.i,(x,(s.tick,(12:Int)))))]))) (.ok (.next {s with n:=(IntKind.i64.wrap (s.n+1)),i:=(IntKind.i64.wrap (s.i+1)),dO:=(s.dO.set s.i.toNat x),next:=(s.next.set s.i.toNat (x,y)),cZ:=(s.cZ++([(s.n,(s.i,(x,(s.tick,(12:Int)))))]))})))))) (.req (0=0∧(List.length s.dO)=List.length (s.dO.set s.i.toNat x)) (.req (0=0∧(List.length s.next)=List.length (s.next.set s.i.toNat (x,y))) (.rl s.cZ (.ok (.next {s with i:=(IntKind.i64.wrap (s.i+1)),dO:=(s.dO.set s.i.toNat x),next:=(s.next.set s.i.toNat (x,y))}))))))))))))))) (.rl s.dO (.rl s.next (.rl s.cZ (.ok (.stop (.exit 0) s)))))
abbrev Yw (s:kK):=MJ s (nE (bC s.m s.i).2.2.1 (bC s.m s.i).2.2.2.1 (bC s.m s.i).2.2.2.2.1 (bC s.m s.i).2.2.2.2.2.1 (bC s.m s.i).2.2.2.2.2.2.1 (lH s.rs s.i).1 (lH s.rs s.i).2 (gi s.offers s.i)) (nwB s.c3 s.jl s.uh s.i (nA (bC s.m s.i).2.2.1 (bC s.m s.i).2.2.2.1 (bC s.m s.i).2.2.2.2.1 (bC s.m s.i).2.2.2.2.2.1 (bC s.m s.i).2.2.2.2.2.2.1 (lH s.rs s.i).1 (lH s.rs s.i).2 (gi s.offers s.i))) (nA (bC s.m s.i).2.2.1 (bC s.m s.i).2.2.2.1 (bC s.m s.i).2.2.2.2.1 (bC s.m s.i).2.2.2.2.2.1 (bC s.m s.i).2.2.2.2.2.2.1 (lH s.rs s.i).1 (lH s.rs s.i).2 (gi s.offers s.i)) (nS (bC s.m s.i).2.2.1 (bC s.m s.i).2.2.2.1 (bC s.m s.i).2.2.2.2.1 (bC s.m s.i).2.2.2.2.2.1 (bC s.m s.i).2.2.2.2.2.2.1 (lH s.rs s.i).1 (lH s.rs s.i).2 (gi s.offers s.i))
abbrev ahL (s:kK):=(Yw s).rd s
def Uj (s:kK):Prop:=s.i=0∧s.cZ=[]∧(s.k=(List.length s.m:Int)∧s.k≤16)∧(s.c3=s.m∧s.uh=s.tick)∧((List.length s.jl:Int)≤1000∧0≤s.tick∧s.tick≤1000000)∧(s.rs.length=s.m.length∧s.offers.length=s.m.length∧s.dO.length=s.m.length∧s.next.length=s.m.length)∧dcK s.m s.rs s.offers∧1≤s.n-(List.length s.cZ:Int)∧s.n-(List.length s.cZ:Int)≤999900
def DL (s:kK):Prop:=(0≤s.i∧s.i≤s.k)∧(∀j,0≤j→j<s.i→gi s.dO j=nxA (bC s.m j) (lH s.rs j) (gi s.offers j)∧lH s.next j=(nxA (bC s.m j) (lH s.rs j) (gi s.offers j),nxS (bC s.m j) (lH s.rs j) (gi s.offers j)))∧s.cZ=O1 s.m s.jl s.tick (s.n-(List.length s.cZ:Int)) (Ky s.m s.rs s.offers s.m.length) s.i.toNat∧(s.k=(List.length s.m:Int)∧s.k≤16)∧(s.c3=s.m∧s.uh=s.tick)∧((List.length s.jl:Int)≤1000∧0≤s.tick∧s.tick≤1000000)∧(s.rs.length=s.m.length∧s.offers.length=s.m.length∧s.dO.length=s.m.length∧s.next.length=s.m.length)∧dcK s.m s.rs s.offers∧1≤s.n-(List.length s.cZ:Int)∧s.n-(List.length s.cZ:Int)≤999900
def yt (s:kK):Nat:=(s.k-s.i).toNat
def abU (x:Ex) (_ s':kK):Prop:=x=.exit 0∧s'.dO=Ky s'.m s'.rs s'.offers s'.m.length∧s'.next=dcR s'.m s'.rs s'.offers s'.m.length∧s'.cZ=O1 s'.m s'.jl s'.tick (s'.n-(List.length s'.cZ:Int)) (Ky s'.m s'.rs s'.offers s'.m.length) s'.m.length
theorem azf:∀s,Uj s→DL s:=by
 intro s h
 obtain ⟨h0,h1,h2⟩:=h
 exact ⟨by omega,fun j j0 j1=>by omega,by rw [h0,h1];rfl,h2⟩
theorem aob (s:kK) (hI:DL s) (e:Int) (w:Bool) (x:Int) (y:Int) (he:nE (bC s.m s.i).2.2.1 (bC s.m s.i).2.2.2.1 (bC s.m s.i).2.2.2.2.1 (bC s.m s.i).2.2.2.2.2.1 (bC s.m s.i).2.2.2.2.2.2.1 (lH s.rs s.i).1 (lH s.rs s.i).2 (gi s.offers s.i)=e) (hw:nwB s.c3 s.jl s.uh s.i (nA (bC s.m s.i).2.2.1 (bC s.m s.i).2.2.2.1 (bC s.m s.i).2.2.2.2.1 (bC s.m s.i).2.2.2.2.2.1 (bC s.m s.i).2.2.2.2.2.2.1 (lH s.rs s.i).1 (lH s.rs s.i).2 (gi s.offers s.i))=w) (hx:nA (bC s.m s.i).2.2.1 (bC s.m s.i).2.2.2.1 (bC s.m s.i).2.2.2.2.1 (bC s.m s.i).2.2.2.2.2.1 (bC s.m s.i).2.2.2.2.2.2.1 (lH s.rs s.i).1 (lH s.rs s.i).2 (gi s.offers s.i)=x) (hy:nS (bC s.m s.i).2.2.1 (bC s.m s.i).2.2.2.1 (bC s.m s.i).2.2.2.2.1 (bC s.m s.i).2.2.2.2.2.1 (bC s.m s.i).2.2.2.2.2.2.1 (lH s.rs s.i).1 (lH s.rs s.i).2 (gi s.offers s.i)=y):bM (fun s'=>DL s'∧yt s'<yt s) (fun x s'=>abU x s s') ((MJ s e w x y).rd s):=by
 unfold MJ
 dsimp only [T.rd,T.rl]
 obtain ⟨⟨h0,h1⟩,hA,hL,⟨h2,h3⟩,⟨h4,h5⟩,h6,⟨h7,h8,h9,h10⟩,hk,h11⟩:=hI
 have hll:s.cZ.length≤s.i.toNat:=(by rw [hL];exact zL)
 refine au (fun c1=>?_) (fun c1=>?_)
 ·refine au (fun c2=>?_) (fun c2=>?_)
  ·have c1:s.i<s.k:=by simpa using c1
   have hm:s.i<(s.m.length:Int):=by omega
   exact absurd (he.symm.trans (ax7 (hk s.i h0 hm))) (by simpa using c2)
  ·refine au (fun c3=>?_) (fun c3=>?_)
   ·have c1:s.i<s.k:=by simpa using c1
    have hm:s.i<(s.m.length:Int):=by omega
    have hx':nxA (bC s.m s.i) (lH s.rs s.i) (gi s.offers s.i)=x:=hx
    have hy':nxS (bC s.m s.i) (lH s.rs s.i) (gi s.offers s.i)=y:=hy
    have hA':∀j,0≤j→j<s.i+1→gi (s.dO.set s.i.toNat x) j=nxA (bC s.m j) (lH s.rs j) (gi s.offers j)∧lH (s.next.set s.i.toNat (x,y)) j=(nxA (bC s.m j) (lH s.rs j) (gi s.offers j),nxS (bC s.m j) (lH s.rs j) (gi s.offers j)):=fun j j0 j1=>by
     rw [pO h0 (by omega) j0,ZG h0 (by omega) j0]
     by_cases e:j=s.i
     ·subst e
      rw [if_pos rfl,if_pos rfl,hx',hy']
      exact ⟨rfl,rfl⟩
     ·rw [if_neg e,if_neg e]
      exact hA j j0 (by omega)
    have hs:s.i.toNat+1=(s.i+1).toNat:=by omega
    have hg:gi (Ky s.m s.rs s.offers s.m.length) (s.i.toNat:Nat)=x:=by rw [Int.toNat_of_nonneg h0,Ky,o7 h0 hm,hx']
    have hw':nwB s.m s.jl s.tick (s.i.toNat:Nat) x=w:=by rw [Int.toNat_of_nonneg h0,←hw,h4,h5];rw [←hx]
    rw [aK (x:=s.i+1) (by omega) (by omega),aK (x:=s.n+1) (by omega) (by omega)]
    have hn:s.n+1-((List.length (s.cZ++[(s.n,s.i,x,s.tick,12)]):Nat):Int)=s.n-(List.length s.cZ:Int):=by
     rw [List.length_append]
     show s.n+1-((s.cZ.length+1:Nat):Int)=_
     omega
    refine ⟨⟨⟨by simp only;omega,by simp only;omega⟩,hA',?_,⟨h2,h3⟩,⟨h4,h5⟩,h6,⟨h7,h8,by simp only [List.length_set];exact h9,by simp only [List.length_set];exact h10⟩,hk,by simp only;rw [hn];exact h11⟩,by simp only [yt];omega⟩
    simp only
    rw [hn,←hs,O1,←hL,hg,hw',c3,if_pos rfl,Int.toNat_of_nonneg h0,show s.n-(List.length s.cZ:Int)+(List.length s.cZ:Int)=s.n by omega]
   ·have c1:s.i<s.k:=by simpa using c1
    have hm:s.i<(s.m.length:Int):=by omega
    have hx':nxA (bC s.m s.i) (lH s.rs s.i) (gi s.offers s.i)=x:=hx
    have hy':nxS (bC s.m s.i) (lH s.rs s.i) (gi s.offers s.i)=y:=hy
    have hA':∀j,0≤j→j<s.i+1→gi (s.dO.set s.i.toNat x) j=nxA (bC s.m j) (lH s.rs j) (gi s.offers j)∧lH (s.next.set s.i.toNat (x,y)) j=(nxA (bC s.m j) (lH s.rs j) (gi s.offers j),nxS (bC s.m j) (lH s.rs j) (gi s.offers j)):=fun j j0 j1=>by
     rw [pO h0 (by omega) j0,ZG h0 (by omega) j0]
     by_cases e:j=s.i
     ·subst e
      rw [if_pos rfl,if_pos rfl,hx',hy']
      exact ⟨rfl,rfl⟩
     ·rw [if_neg e,if_neg e]
      exact hA j j0 (by omega)
    have hs:s.i.toNat+1=(s.i+1).toNat:=by omega
    have hg:gi (Ky s.m s.rs s.offers s.m.length) (s.i.toNat:Nat)=x:=by rw [Int.toNat_of_nonneg h0,Ky,o7 h0 hm,hx']
    have hw':nwB s.m s.jl s.tick (s.i.toNat:Nat) x=w:=by rw [Int.toNat_of_nonneg h0,←hw,h4,h5];rw [←hx]
    rw [aK (x:=s.i+1) (by omega) (by omega)]
    refine ⟨⟨⟨by simp only;omega,by simp only;omega⟩,hA',?_,⟨h2,h3⟩,⟨h4,h5⟩,h6,⟨h7,h8,by simp only [List.length_set];exact h9,by simp only [List.length_set];exact h10⟩,hk,h11⟩,by simp only [yt];omega⟩
    simp only
    rw [←hs,O1,←hL,hg,hw',c3,if_neg (by decide),List.append_nil]
 ·have c1:s.k≤s.i:=by simpa using c1
  have hi:s.i.toNat=s.m.length:=by omega
  refine ⟨rfl,Ht (by rw [h9];exact eU.symm) fun j j0 j1=>?_,anl (by rw [h10,O0]) fun j j0 j1=>?_,by have hL':=hL;rw [hi] at hL';exact hL'⟩
  ·rw [Ky,eU] at j1
   rw [Ky,o7 j0 j1]
   exact (hA j j0 (by omega)).1
  ·rw [O0] at j1
   rw [au9 j0 j1]
   exact (hA j j0 (by omega)).2
theorem au8 (s:kK) (hI:DL s):bM (fun s'=>DL s'∧yt s'<yt s) (fun x s'=>abU x s s') (ahL s):=aob s hI _ _ _ _ rfl rfl rfl rfl
def EG:bQ kK:=⟨0,108,[2,4,5,12,13,14,15,16,17,19,20,21,57,58,59],[.nl 21 63 jL],aBo,aAr,fun v b=>⟨aQ FQ (v.getD 0 .junk),gI (v.getD 1 .junk),gI (v.getD 2 .junk),gI (v.getD 6 .junk),aQ (.int .i64) (v.getD 8 .junk),aQ dQ (v.getD 12 .junk),gI (v.getD 13 .junk),gI (v.getD 14 .junk),aQ dW (aY (aO b 0) 0),aQ .str (aY (aO b 0) 1),aQ eu (aY (aO b 0) 2),aQ dQ (aY (aO b 0) 3),aQ eG (aY (aO b 0) 4),aQ jL (aY (aO b 0) 5),aQ rE (aY (aO b 0) 6),gI (aY (aO b 0) 7),aQ (.int .i64) (aY (aO b 0) 8),jk (.int .i64) (aO b 1),jk FQ (aO b 2),jk jL (aO b 3)⟩,Yw,fun s r=> {r with rs:=s.rs,tick:=s.tick,offers:=s.offers,m:=s.m,k:=s.k,Wv:=s.Wv,c1:=s.c1,c2:=s.c2,c3:=s.c3,c4:=s.c4,jl:=s.jl,CP:=s.CP,uh:=s.uh,O6:=s.O6},fun s=>s,fun _ s=>s,[.ret,.exit 0],Uj,DL,yt⟩
abbrev gq:=EG.run
abbrev OX:=EG.jZ
abbrev awr:=EG.q
theorem as3 (s:kK) (hI:DL s):(Yw s).all (fun _=>True):=by
 refine ⟨fun c1=>⟨?_,?_,?_,fun c2=>⟨⟨rfl,rfl⟩,⟨rfl,rfl⟩,⟨rfl,rfl⟩,trivial⟩,fun c2=>⟨?_,?_,?_,?_,?_,fun c3=>⟨?_,?_,?_,?_,trivial⟩,fun c3=>⟨?_,?_,⟨rfl,rfl⟩,trivial⟩⟩⟩,fun c1=>⟨⟨rfl,rfl⟩,⟨rfl,rfl⟩,⟨rfl,rfl⟩,trivial⟩⟩
 all_goals ((obtain ⟨⟨h0,h1⟩,hA,hL,⟨h2,h3⟩,⟨h4,h5⟩,h6,⟨h7,h8,h9,h10⟩,hk,h11⟩:=hI;have hll:s.cZ.length≤s.i.toNat:=(by rw [hL];exact zL);(try simp only [decide_eq_true_eq] at c1);have hl3:s.c3.length=s.m.length:=congrArg List.length h4;first|omega|exact ⟨rfl,by simp⟩ |(refine ⟨by omega,?_,?_⟩<;>simp only [List.length_cons,List.length_nil]<;>omega)))
noncomputable def ahq:Specs:=bf [(19,II),(35,Xv),(36,Xx),(37,Xj),(38,Xy)]
theorem apt:∀g S,ahq g=some S→Valid Tryz.prog aP g S:=aS (l:=[(19,II),(35,Xv),(36,Xx),(37,Xj),(38,Xy)]) ⟨adH,aru,arw,arf,arx,trivial⟩
theorem Vq:EG.Ok:=⟨fun s=>by kernel_rfl,fun s=>by kernel_rfl,fun s=>rfl,fun s t r=>rfl,fun s=>rfl,fun s=>by kernel_rfl⟩
theorem U5:EG.Pf (abU):=⟨azf,fun _ _=>rfl,au8,as3⟩
theorem akW:bg Tryz.prog aP (AN 0) (.loop Bc) EG.lp:=bQ.snd Vq U5 (aU (Γ:=ahq) (K:=eY) (L:=aC) apt aG Bc (fun b hb=>by rw [show aF Bc=[] by kernel_rfl] at hb;cases hb)) (fun s=>by kernel_rfl)
theorem aoa (s:kK) (hE:Uj s):∃s',DL s'∧abU (OX s) s' (gq s):=bQ.fin Vq U5 s hE
theorem an9 (s:kK) (hE:Uj s):(fun (_:Ex) (s':kK) (v:Int)=>s'.n-(List.length s'.cZ:Int)=v) (OX s) (gq s) ((fun s:kK=>s.n-(List.length s.cZ:Int)) s):=by
 exact bQ.xB Vq U5 (fun s:kK=>s.n-(List.length s.cZ:Int)) (fun x s' v=>s'.n-(List.length s'.cZ:Int)=v) (fun s hI=>by
  show bM _ _ (ahL s)
  unfold ahL Yw MJ
  dsimp only [T.rd,T.rl]
  obtain ⟨⟨h0,h1⟩,hA,hL,⟨h2,h3⟩,⟨h4,h5⟩,h6,⟨h7,h8,h9,h10⟩,hk,h11⟩:=hI
  have hll:s.cZ.length≤s.i.toNat:=(by rw [hL];exact zL)
  refine au (fun c1=>?_) (fun c1=>?_)
  ·refine au (fun c2=>?_) (fun c2=>?_)
   ·rfl
   ·refine au (fun c3=>?_) (fun c3=>?_)
    ·have c1:s.i<s.k:=by simpa using c1
     rw [aK (x:=s.n+1) (by omega) (by omega)]
     show s.n+1-((List.length (s.cZ++[_]):Nat):Int)=s.n-(List.length s.cZ:Int)
     rw [List.length_append]
     show s.n+1-((s.cZ.length+1:Nat):Int)=_
     omega
    ·rfl
  ·rfl) s hE
def abE:List LV→T LV
 | [.agg [.xl (.pair .str (.pair (.int .i64) (.pair (.int .i64) (.pair (.int .i64) (.pair (.pair (.int .i64) (.int .i64)) (.pair (.int .i64) (.pair (.int .i64) (.pair (.int .i64) (.pair (.int .i64) (.int .i64)))))))))) cs,.xl (.str) os,.xl (.pair .str (.pair (.int .i64) (.pair (.int .i64) (.int .i64)))) ks,.xl (.pair .str (.pair (.int .i64) (.pair (.int .i64) (.pair (.int .i64) (.pair (.int .i64) (.pair (.int .i64) (.pair (.int .i64) (.int .i64)))))))) gs,.xl (.pair .str (.int .i64)) bs],.xl (.pair (.int .i64) (.pair (.int .i64) (.pair (.int .i64) (.pair (.int .i64) (.int .i64))))) l,.xl (.pair (.int .i64) (.int .i64)) rs,.xl (.pair .bool (.pair (.int .i64) (.pair (.int .i64) (.int .i64)))) d,.v (.int .i64 t),.v (.int .i64 n)]=> .req (yM d t∧d.length≤19) (.ok (.gV [.xl (.int .i64) (CO cs os ks gs bs l rs d t n),.xl FQ (deR cs os ks gs bs l rs d t n),.xl jL (sD cs os ks gs bs l rs d t n),.v (.int .i64 (deE cs os ks gs bs l rs d t n))]))
 |_=> .no
noncomputable def IK:List LV→T LV:=gW Tryz.prog Tryz.f14.params.toList abE
def dU (cs:List Cd) (os:List ByteArray) (ks:List Ko) (gs:List Ch) (bs:List Ba) (l:List Le) (rs:List Ra) (d:List Dm) (t n:Int):kK:=(⟨rs,t,n,(0:Int),(Nc cs os ks gs bs l d t (jQ d t)),gs,(List.length gs:Int),(0:Int),cs,os,ks,gs,bs,l,d,t,(jQ d t),(List.replicate (List.length (Nc cs os ks gs bs l d t (jQ d t)):Int).toNat (0:Int)),(List.replicate (List.length (Nc cs os ks gs bs l d t (jQ d t)):Int).toNat ((0:Int),(0:Int))),([]:List Le)⟩:kK)
theorem amP (cs:List Cd) (os:List ByteArray) (ks:List Ko) (gs:List Ch) (bs:List Ba) (l:List Le) (rs:List Ra) (d:List Dm) (t n:Int):bW Tryz.prog aP (ahq) eY (fun i=>if i=11 then EG.lp else aC i) Tryz.f14 [.agg [.xl dW cs,.xl .str os,.xl eu ks,.xl dQ gs,.xl eG bs],.xl jL l,.xl FQ rs,.xl rE d,.v (.int .i64 t),.v (.int .i64 n)]=.req (yM d t∧d.length≤19) (.br (!(FH cs os ks gs bs l rs d t n)) (.ok (.gV [.xl (.int .i64) ([]:List Int),.xl FQ ([]:List Ra),.xl jL ([]:List Le),.v (.int .i64 1)])) (.req (d.length=gs.length∧qU cs os ks gs bs (mO gs) (oV gs d) (jQ d t)=true∧JA l (List.length gs:Int) t=true∧qU cs os ks gs bs (WL gs l t) (xH cs os ks gs bs (mO gs) (oV gs d) (jQ d t)) (jQ d t)=true) (.br ((0:Int) !=0) (.ok (.gV [.xl (.int .i64) ([]:List Int),.xl FQ ([]:List Ra),.xl jL ([]:List Le),.v (.int .i64 1)])) (.req (0≤(List.length (Nc cs os ks gs bs l d t (jQ d t)):Int)∧(List.length (Nc cs os ks gs bs l d t (jQ d t)):Int)≤(List.length (Nc cs os ks gs bs l d t (jQ d t)):Int)∧8*(List.length (Nc cs os ks gs bs l d t (jQ d t)):Int)≤2^48∧(List.length (Nc cs os ks gs bs l d t (jQ d t)):Int)<2^63) (.req (0≤(List.length (Nc cs os ks gs bs l d t (jQ d t)):Int)∧(List.length (Nc cs os ks gs bs l d t (jQ d t)):Int)≤(List.length (Nc cs os ks gs bs l d t (jQ d t)):Int)∧16*(List.length (Nc cs os ks gs bs l d t (jQ d t)):Int)≤2^48∧(List.length (Nc cs os ks gs bs l d t (jQ d t)):Int)<2^63) (.req (0=0∧(List.length (Nc cs os ks gs bs l d t (jQ d t)):Int).toNat=List.length (List.replicate (List.length (Nc cs os ks gs bs l d t (jQ d t)):Int).toNat (0:Int))) (.req (0=0∧(List.length (Nc cs os ks gs bs l d t (jQ d t)):Int).toNat=List.length (List.replicate (List.length (Nc cs os ks gs bs l d t (jQ d t)):Int).toNat ((0:Int),(0:Int)))) (.req (0=0∧0=List.length ([]:List Le)) (.req (awr (dU cs os ks gs bs l rs d t n)) (.br (ig (OX (dU cs os ks gs bs l rs d t n)) (.ret)) (.ok (.gV [.xl (.int .i64) ([]:List Int),.xl FQ ([]:List Ra),.xl jL ([]:List Le),.v (.int .i64 (gq (dU cs os ks gs bs l rs d t n)).t15)])) (.req (0+(List.length (gq (dU cs os ks gs bs l rs d t n)).dO)≤List.length (gq (dU cs os ks gs bs l rs d t n)).dO) (.req (0+(List.length (gq (dU cs os ks gs bs l rs d t n)).next)≤List.length (gq (dU cs os ks gs bs l rs d t n)).next) (.req (0+(List.length (gq (dU cs os ks gs bs l rs d t n)).cZ)≤List.length (gq (dU cs os ks gs bs l rs d t n)).cZ) (.ok (.gV [.xl (.int .i64) (((gq (dU cs os ks gs bs l rs d t n)).dO.drop 0).take (List.length (gq (dU cs os ks gs bs l rs d t n)).dO)),.xl FQ (((gq (dU cs os ks gs bs l rs d t n)).next.drop 0).take (List.length (gq (dU cs os ks gs bs l rs d t n)).next)),.xl jL (((gq (dU cs os ks gs bs l rs d t n)).cZ.drop 0).take (List.length (gq (dU cs os ks gs bs l rs d t n)).cZ)),.v (.int .i64 0)]))))))))))))))):=by kernel_rfl
theorem adJ:Valid Tryz.prog aP 14 IK:=aH Tryz.func14 rfl apt aG (L:=(fun i=>if i=11 then EG.lp else aC i)) (fun b hb=>by
 rw [show aF _=[Bc] by kernel_rfl] at hb
 simp only [List.mem_cons,List.not_mem_nil,or_false] at hb
 subst hb
 exact akW) (fun args lv h=>by
 unfold abE at h
 split at h
 ·simp only [canL,canX]
  rw [amP]
  rename_i cs os ks gs bs l rs d t n
  obtain ⟨hw,rfl⟩:=h
  refine ⟨hw,fun c=>?_,fun c=>?_⟩
  ·unfold CO deR sD deE
   rw [ntW c]
   rfl
  have c:=PS c
  have V:=aoz c
  have ol:(Nc cs os ks gs bs l d t (jQ d t)).length=gs.length:=(aoZ V).1
  have hE:Uj (dU cs os ks gs bs l rs d t n):=⟨rfl,rfl,⟨rfl,by have:=V.gl;show (gs.length:Int)≤16;omega⟩,⟨rfl,rfl⟩,⟨by have:=(pM V.les).1;show (l.length:Int)≤1000;omega,V.tb⟩,⟨V.rl,ol,by show (List.replicate _ (0:Int)).length=gs.length;rw [List.length_replicate];omega,by show (List.replicate _ ((0:Int),(0:Int))).length=gs.length;rw [List.length_replicate];omega⟩,ahX V,by have:=V.nb;show 1≤n-(0:Int);omega,by have:=V.nb;show n-(0:Int)≤999900;omega⟩
  obtain ⟨_,_,q1,q2,q3,q4⟩:=aoa _ hE
  have hn:=an9 _ hE
  have hn:(gq (dU cs os ks gs bs l rs d t n)).n-((gq (dU cs os ks gs bs l rs d t n)).cZ.length:Int)=n:=hn.trans (Int.sub_zero n)
  have q2:(gq (dU cs os ks gs bs l rs d t n)).dO=CO cs os ks gs bs l rs d t n:=q2.trans (by unfold CO;rw [if_pos c];rfl)
  have q3:(gq (dU cs os ks gs bs l rs d t n)).next=deR cs os ks gs bs l rs d t n:=q3.trans (by unfold deR;rw [if_pos c];rfl)
  rw [hn] at q4
  have q4:(gq (dU cs os ks gs bs l rs d t n)).cZ=sD cs os ks gs bs l rs d t n:=q4.trans (by unfold sD;rw [if_pos c];rfl)
  have gl:=V.gl
  refine ⟨⟨V.dl,adL V.si,aon V,af8 V⟩,fun c2=>absurd c2 (by decide),fun _=>?_⟩
  refine ⟨by rw [ol];omega,by rw [ol];omega,⟨rfl,by simp⟩,⟨rfl,by simp⟩,⟨rfl,rfl⟩,⟨hE,rfl,rfl⟩,?_⟩
  rw [q1]
  refine ⟨fun h=>(by cases h),fun _=>⟨by omega,by omega,by omega,?_⟩⟩
  show LV.gV [LV.xl _ _,LV.xl _ _,LV.xl _ _,_]=_
  rw [List.drop_zero,List.take_length,List.drop_zero,List.take_length,List.drop_zero,List.take_length,q2,q3,q4]
  unfold deE
  rw [if_pos c]
 ·cases h)
end Go.Proofs.YtlihnbimgclogaaGreatDoor
namespace Go.Proofs.YtlihnbimgclogaaGreatDoor
open Go.Sx
noncomputable def ahw:Specs:=bf []
theorem apz:∀g S,ahw g=some S→Valid Tryz.prog aP g S:=aS (l:=[]) trivial
structure jI where
 a:List Int
 b:List Int
 r:Bool
 i:Int
def awz (s:jI):List LV:=[.xl (.int .i64) s.a,.xl (.int .i64) s.b,.v (.bool s.r),.v (.int .i64 s.i)]
def awy (_:jI):List aT:=[]
noncomputable def wZ:Code:=((aF (Tryz.f16.body.getD .skip))[0]?).getD .skip
def MK (s:jI):T (Rd jI):=
 .br (decide (s.i<(List.length s.a:Int))) (.req (0≤s.i∧s.i<(List.length s.a:Int)) (.req (0≤s.i∧s.i<(List.length s.b:Int)) (.br ((gi s.a s.i) !=(gi s.b s.i)) (.ok (.stop (.ret) {s with r:=false})) (.ok (.next {s with i:=(IntKind.i64.wrap (s.i+1))}))))) (.ok (.stop (.exit 0) s))
abbrev ahK (s:jI):=(MK s).rd s
def yK (s:jI) (j:Int):Bool:=gi s.a j==gi s.b j
def XJ (s:jI):Prop:=s.i=0∧0≤(List.length s.a:Int)∧(List.length s.a:Int)≤1000∧s.a.length=s.b.length
def CY (s:jI):Prop:=0≤s.i∧s.i≤(List.length s.a:Int)∧(List.length s.a:Int)≤1000∧(s.a.length=s.b.length)∧∀j:Nat,(j:Int)<s.i→yK s j=true
def EZ (s:jI):Nat:=((List.length s.a:Int)-s.i).toNat
def XF (x:Ex) (_ s':jI):Prop:=(x=.exit 0∧∀j:Nat,(j:Int)<(List.length s'.a:Int)→yK s' j=true)∨(x=.ret∧s'.r=false∧∃j:Nat,(j:Int)<(List.length s'.a:Int)∧yK s' j=false)
theorem ath:∀s,XJ s→CY s:=by
 intro s h
 obtain ⟨h0,h1,h2,h3⟩:=h
 exact ⟨by omega,by omega,h2,h3,fun j hj=>by omega⟩
theorem als (s:jI) (hI:CY s):bM (fun s'=>CY s'∧EZ s'<EZ s) (fun x s'=>XF x s s') (ahK s):=by
 unfold ahK MK
 dsimp only [T.rd,T.rl]
 obtain ⟨h0,h1,h2,h3,h4⟩:=hI
 refine au (fun c1=>au (fun c2=>?_) (fun c2=>?_)) (fun c1=>?_)
 ·have c1:s.i<(List.length s.a:Int):=by simpa using c1
  refine .inr ⟨rfl,rfl,s.i.toNat,by simp only;omega,?_⟩
  rw [Int.toNat_of_nonneg (by omega)]
  have hg:yK s s.i=false:=by unfold yK;(simpa using c2)
  exact hg
 ·have c1:s.i<(List.length s.a:Int):=by simpa using c1
  have hg:yK s s.i=true:=by unfold yK;(simpa using c2)
  rw [aK (x:=s.i+1) (by omega) (by omega)]
  refine ⟨⟨by simp only;omega,by simp only;omega,h2,h3,fun j hj=>?_⟩,by simp only [EZ];omega⟩
  by_cases hji:(j:Int)<s.i
  ·exact h4 j hji
  ·have:(j:Int)=s.i:=by simp only at hj;omega
   rw [this];exact hg
 ·have c1:(List.length s.a:Int)≤s.i:=by simpa using c1
  exact .inl ⟨rfl,fun j hj=>h4 j (by omega)⟩
def vY:bQ jI:=⟨0,26,[0,1,4,5],[],awz,awy,fun v _=>⟨aQ (.int .i64) (v.getD 0 .junk),aQ (.int .i64) (v.getD 1 .junk),vH (v.getD 2 .junk),gI (v.getD 3 .junk)⟩,MK,fun s r=> {r with a:=s.a,b:=s.b},fun s=>s,fun _ s=>s,[.ret,.exit 0],XJ,CY,EZ⟩
abbrev QF:=vY.run
abbrev RV:=vY.jZ
abbrev aov:=vY.q
theorem alg (s:jI) (hI:CY s):(MK s).all (fun _=>True):=by
 refine ⟨fun c1=>⟨?_,?_,fun _=>trivial,fun _=>trivial⟩,fun _=>trivial⟩
 all_goals ((obtain ⟨h0,h1,h2,h3,h4⟩:=hI;simp at c1;omega))
theorem Y3:vY.Ok:=⟨fun s=>by kernel_rfl,fun s=>by kernel_rfl,fun s=>rfl,fun s t r=>rfl,fun s=>rfl,fun s=>by kernel_rfl⟩
theorem Y0:vY.Pf (XF):=⟨ath,fun _ _=>rfl,als,alg⟩
theorem adQ:bg Tryz.prog aP (AN 0) (.loop wZ) vY.lp:=bQ.snd Y3 Y0 (aU (Γ:=ahw) (K:=eY) (L:=aC) apz aG wZ (fun b hb=>by rw [show aF wZ=[] by kernel_rfl] at hb;cases hb)) (fun s=>by kernel_rfl)
theorem aeh (s:jI) (hE:XJ s):∃s',CY s'∧XF (RV s) s' (QF s):=bQ.fin Y3 Y0 s hE
def Tq:List LV→T LV
 | [.xl (.int .i64) a,.xl (.int .i64) b]=> .req ((List.length a:Int)≤1000) (.ok (.v (.bool (a==b))))
 |_=> .no
noncomputable def Pm:List LV→T LV:=gW Tryz.prog Tryz.f16.params.toList Tq
theorem agp (a b:List Int):bW Tryz.prog aP (ahw) eY (fun i=>if i=4 then vY.lp else aC i) Tryz.f16 [.xl (.int .i64) a,.xl (.int .i64) b]=.br ((List.length a:Int) !=(List.length b:Int)) (.ok (.v (.bool false))) (.req (aov (⟨a,b,false,(0:Int)⟩:jI)) (.br (ig (RV (⟨a,b,false,(0:Int)⟩:jI)) (.ret)) (.ok (.v (.bool (QF (⟨a,b,false,(0:Int)⟩:jI)).r))) (.ok (.v (.bool true))))):=by kernel_rfl
theorem ajS:Valid Tryz.prog aP 16 Pm:=aH Tryz.func16 rfl apz aG (L:=(fun i=>if i=4 then vY.lp else aC i)) (fun b hb=>by
 rw [show aF _=[wZ] by kernel_rfl] at hb
 simp only [List.mem_cons,List.not_mem_nil,or_false] at hb
 subst hb
 exact adQ) (fun args lv h=>by
 unfold Tq at h
 split at h
 ·simp only [canL,canX]
  rw [agp]
  rename_i a b
  obtain ⟨hl,rfl⟩:=h
  refine ⟨fun c=>congrArg (fun z=>LV.v (.bool z)) ?_,fun c=>?_⟩
  ·have c:¬a.length=b.length:=by simp at c;omega
   rw [eq_comm,beq_eq_false_iff_ne]
   exact fun e=>c (by rw [e])
  ·have c:a.length=b.length:=by simp at c;omega
   refine nD ⟨⟨rfl,Int.natCast_nonneg _,hl,c⟩,rfl,rfl⟩ (fun hE=>?_)
   obtain ⟨s',_,hq⟩:=aeh _ hE.1
   rcases hq with ⟨q1,q2⟩ |⟨q1,q2,j,q3,q4⟩
   ·have e:(a==b)=true:=by
     rw [beq_iff_eq]
     refine List.ext_getElem c fun j h1 h2=>?_
     have:(gi a j==gi b j)=true:=q2 j (by show (j:Int)<(a.length:Int);omega)
     rw [oN (by simpa using h1),oN (by simpa using h2)] at this
     simpa using this
    rw [q1,e]
    exact ⟨fun h=>(by cases h),fun _=>rfl⟩
   ·have e:(a==b)=false:=by
     rw [beq_eq_false_iff_ne]
     rintro rfl
     have q4:(gi a j==gi a j)=false:=q4
     simp at q4
    rw [q1,q2,e]
    exact ⟨fun _=>rfl,fun h=>by cases h⟩
 ·cases h)
end Go.Proofs.YtlihnbimgclogaaGreatDoor
namespace Go.Proofs.YtlihnbimgclogaaGreatDoor
open Go.Sx
structure mV where
 l:List ByteArray
 k:Int
 i:Int
 bJ:Value
 iL:Value
 fG:Value
 fV:Value
 lZ:Value
 aj:List Cd
 aB:List ByteArray
 ai:Value
 aJ:Value
 gs:List Ch
def aAW (s:mV):List LV:=[.own 0 0,.own 1 0,.xl .str s.l,.v (.int .i64 s.k),.v (.int .i64 s.i)]
def az0 (s:mV):List aT:=[⟨[.v (s.bJ),.v (s.iL),.v (s.fG),.v (s.fV),.v (s.lZ)],28,.cl,false⟩,⟨[.xl dW s.aj,.xl .str s.aB,.v (s.ai),.os 2 8 0 (List.length s.gs),.v (s.aJ)],28,.cl,false⟩,⟨[],58,.vec dQ s.gs,false⟩]
noncomputable def Aq:Code:=((aF (Tryz.f33.body.getD .skip))[0]?).getD .skip
def Yh (s:mV):T (Rd mV):=
 .br (decide (s.i<s.k)) (.req (0≤s.i∧s.i<(List.length s.l:Int)) (.req (0+(List.length s.gs)=List.length s.gs∧((List.length s.gs+List.length ([((gS s.l s.i),((0:Int),((1:Int),((6:Int),((10:Int),((1:Int),((0:Int),(0:Int))))))))]):Nat):Int)*72≤2^47∧((List.length s.gs+List.length ([((gS s.l s.i),((0:Int),((1:Int),((6:Int),((10:Int),((1:Int),((0:Int),(0:Int))))))))]):Nat):Int)<2^62) (.req (0=0∧(List.length s.gs+List.length ([((gS s.l s.i),((0:Int),((1:Int),((6:Int),((10:Int),((1:Int),((0:Int),(0:Int))))))))]))=List.length (s.gs++([((gS s.l s.i),((0:Int),((1:Int),((6:Int),((10:Int),((1:Int),((0:Int),(0:Int))))))))]))) (.ok (.next {s with i:=(IntKind.i64.wrap (s.i+1)),gs:=(s.gs++([((gS s.l s.i),((0:Int),((1:Int),((6:Int),((10:Int),((1:Int),((0:Int),(0:Int))))))))]))}))))) (.rl s.gs (.ok (.stop (.exit 0) s)))
abbrev aqa (s:mV):=(Yh s).rd s
def pkG:List Ch:=[(ByteArray.mk #[120],0,1,6,10,1,0,0),(ByteArray.mk #[121],0,1,6,10,1,0,0)]
def pkC (n:Int):List Cd:=[(ByteArray.mk #[102],-1,n,100,(0,0),0,0,0,0,0)]
def pkS:List ByteArray:=[ByteArray.mk #[120],ByteArray.mk #[121]]
def abZ (s:mV):Prop:=s.i=0∧s.gs=[]∧s.l=pkS∧s.k=2
def Ld (s:mV):Prop:=(0≤s.i∧s.i≤2)∧s.gs=pkG.take s.i.toNat∧s.l=pkS∧s.k=2
def NK (s:mV):Nat:=(2-s.i).toNat
def aiW (x:Ex) (_ s':mV):Prop:=x=.exit 0∧s'.gs=pkG
theorem axV:∀s,abZ s→Ld s:=by
 intro s h
 obtain ⟨h0,h1,h2⟩:=h
 exact ⟨by omega,by rw [h0,h1];rfl,h2⟩
theorem atp (s:mV) (hI:Ld s):bM (fun s'=>Ld s'∧NK s'<NK s) (fun x s'=>aiW x s s') (aqa s):=by
 unfold aqa Yh
 dsimp only [T.rd,T.rl]
 obtain ⟨⟨h0,h1⟩,h2,h3,h4⟩:=hI
 refine au (fun c1=>?_) (fun c1=>?_)
 ·have c1:s.i<2:=by simpa [h4] using c1
  rw [aK (x:=s.i+1) (by omega) (by omega)]
  refine ⟨⟨⟨by simp only;omega,by simp only;omega⟩,?_,h3,h4⟩,by simp only [NK];omega⟩
  simp only
  rw [h2,h3]
  rcases (by omega:s.i=0∨s.i=1) with e|e<;>rw [e]<;>rfl
 ·have c1:2≤s.i:=by simpa [h4] using c1
  refine ⟨rfl,?_⟩
  rw [h2,show s.i.toNat=2 by omega]
  rfl
def Ef:bQ mV:=⟨0,27,[2,3,12,13,14],[.nc 1 3 58 dQ],aAW,az0,fun v b=>⟨aQ .str (v.getD 2 .junk),gI (v.getD 3 .junk),gI (v.getD 4 .junk),gAn (aY (aO b 0) 0),gAn (aY (aO b 0) 1),gAn (aY (aO b 0) 2),gAn (aY (aO b 0) 3),gAn (aY (aO b 0) 4),aQ dW (aY (aO b 1) 0),aQ .str (aY (aO b 1) 1),gAn (aY (aO b 1) 2),gAn (aY (aO b 1) 4),jk dQ (aO b 2)⟩,Yh,fun s r=> {r with l:=s.l,k:=s.k,bJ:=s.bJ,iL:=s.iL,fG:=s.fG,fV:=s.fV,lZ:=s.lZ,aj:=s.aj,aB:=s.aB,ai:=s.ai,aJ:=s.aJ},fun s=>s,fun _ s=>s,[.exit 0],abZ,Ld,NK⟩
abbrev wB:=Ef.run
abbrev anG:=Ef.jZ
abbrev av1:=Ef.q
theorem asA (s:mV) (hI:Ld s):(Yh s).all (fun _=>True):=by
 refine ⟨fun c1=>⟨?_,?_,?_,trivial⟩,fun c1=>⟨⟨rfl,rfl⟩,trivial⟩⟩
 all_goals ((obtain ⟨⟨h0,h1⟩,h2,h3,h4⟩:=hI;simp only [decide_eq_true_eq] at c1;have hl:s.l.length=2:=(by rw [h3];rfl);have hg:s.gs.length≤2:=(by rw [h2,List.length_take];show min _ 2≤2;omega);first|omega|(refine ⟨by omega,?_,?_⟩<;>simp only [List.length_cons,List.length_nil]<;>omega) |exact ⟨rfl,by simp⟩))
noncomputable def V7:Specs:=bf []
theorem ahn:∀g S,V7 g=some S→Valid Tryz.prog aP g S:=aS (l:=[]) trivial
theorem afI:Ef.Ok:=⟨fun s=>by kernel_rfl,fun s=>by kernel_rfl,fun s=>rfl,fun s t r=>rfl,fun s=>rfl,fun s=>by kernel_rfl⟩
theorem aeK:Ef.Pf (aiW):=⟨axV,fun _ _=>rfl,atp,asA⟩
theorem akz:bg Tryz.prog aP (AN 0) (.loop Aq) Ef.lp:=bQ.snd afI aeK (aU (Γ:=V7) (K:=eY) (L:=aC) ahn aG Aq (fun b hb=>by rw [show aF Aq=[] by kernel_rfl] at hb;cases hb)) (fun s=>by kernel_rfl)
theorem alz (s:mV) (hE:abZ s):∃s',Ld s'∧aiW (anG s) s' (wB s):=bQ.fin afI aeK s hE
def abg:List LV→T LV
 | [.v (.int .i64 n)]=> .ok (.agg [.xl dW (pkC n),.xl .str ([(ByteArray.mk #[111])]),.xl eu ([]:List Ko),.xl dQ pkG,.xl eG ([]:List Ba)])
 |_=> .no
noncomputable def Xh:List LV→T LV:=gW Tryz.prog Tryz.f33.params.toList abg
theorem amn (n:Int):bW Tryz.prog aP (V7) eY (fun i=>if i=3 then Ef.lp else aC i) Tryz.f33 [.v (.int .i64 n)]=.req (0=0∧0=List.length ([]:List Ch)) (.req (av1 (⟨([(ByteArray.mk #[120]),(ByteArray.mk #[121])]),(List.length ([(ByteArray.mk #[120]),(ByteArray.mk #[121])]):Int),(0:Int),(.slice none 0 0),(.slice none 0 0),(.slice none 0 0),(.slice none 0 0),(.slice none 0 0),([((ByteArray.mk #[102]),((-1:Int),(n,((100:Int),(((0:Int),(0:Int)),((0:Int),((0:Int),((0:Int),((0:Int),(0:Int))))))))))]),([(ByteArray.mk #[111])]),(.slice none 0 0),(.slice none 0 0),([]:List Ch)⟩:mV)) (.req (0+(List.length (wB (⟨([(ByteArray.mk #[120]),(ByteArray.mk #[121])]),(List.length ([(ByteArray.mk #[120]),(ByteArray.mk #[121])]):Int),(0:Int),(.slice none 0 0),(.slice none 0 0),(.slice none 0 0),(.slice none 0 0),(.slice none 0 0),([((ByteArray.mk #[102]),((-1:Int),(n,((100:Int),(((0:Int),(0:Int)),((0:Int),((0:Int),((0:Int),((0:Int),(0:Int))))))))))]),([(ByteArray.mk #[111])]),(.slice none 0 0),(.slice none 0 0),([]:List Ch)⟩:mV)).gs)≤List.length (wB (⟨([(ByteArray.mk #[120]),(ByteArray.mk #[121])]),(List.length ([(ByteArray.mk #[120]),(ByteArray.mk #[121])]):Int),(0:Int),(.slice none 0 0),(.slice none 0 0),(.slice none 0 0),(.slice none 0 0),(.slice none 0 0),([((ByteArray.mk #[102]),((-1:Int),(n,((100:Int),(((0:Int),(0:Int)),((0:Int),((0:Int),((0:Int),((0:Int),(0:Int))))))))))]),([(ByteArray.mk #[111])]),(.slice none 0 0),(.slice none 0 0),([]:List Ch)⟩:mV)).gs) (.ok (.agg [.xl dW ([((ByteArray.mk #[102]),((-1:Int),(n,((100:Int),(((0:Int),(0:Int)),((0:Int),((0:Int),((0:Int),((0:Int),(0:Int))))))))))]),.xl .str ([(ByteArray.mk #[111])]),.xl eu ([]:List Ko),.xl dQ (((wB (⟨([(ByteArray.mk #[120]),(ByteArray.mk #[121])]),(List.length ([(ByteArray.mk #[120]),(ByteArray.mk #[121])]):Int),(0:Int),(.slice none 0 0),(.slice none 0 0),(.slice none 0 0),(.slice none 0 0),(.slice none 0 0),([((ByteArray.mk #[102]),((-1:Int),(n,((100:Int),(((0:Int),(0:Int)),((0:Int),((0:Int),((0:Int),((0:Int),(0:Int))))))))))]),([(ByteArray.mk #[111])]),(.slice none 0 0),(.slice none 0 0),([]:List Ch)⟩:mV)).gs.drop 0).take (List.length (wB (⟨([(ByteArray.mk #[120]),(ByteArray.mk #[121])]),(List.length ([(ByteArray.mk #[120]),(ByteArray.mk #[121])]):Int),(0:Int),(.slice none 0 0),(.slice none 0 0),(.slice none 0 0),(.slice none 0 0),(.slice none 0 0),([((ByteArray.mk #[102]),((-1:Int),(n,((100:Int),(((0:Int),(0:Int)),((0:Int),((0:Int),((0:Int),((0:Int),(0:Int))))))))))]),([(ByteArray.mk #[111])]),(.slice none 0 0),(.slice none 0 0),([]:List Ch)⟩:mV)).gs)),.xl eG ([]:List Ba)])))):=by kernel_rfl
theorem arb:Valid Tryz.prog aP 33 Xh:=aH Tryz.func33 rfl ahn aG (L:=(fun i=>if i=3 then Ef.lp else aC i)) (fun b hb=>by
 rw [show aF _=[Aq] by kernel_rfl] at hb
 simp only [List.mem_cons,List.not_mem_nil,or_false] at hb
 subst hb
 exact akz) (fun args lv h=>by
 unfold abg at h
 split at h
 ·simp only [canL,canX]
  rw [amn]
  rename_i n
  obtain rfl:=h
  have hE:abZ ⟨([(ByteArray.mk #[120]),(ByteArray.mk #[121])]),(List.length ([(ByteArray.mk #[120]),(ByteArray.mk #[121])]):Int),0,.slice none 0 0,.slice none 0 0,.slice none 0 0,.slice none 0 0,.slice none 0 0,[((ByteArray.mk #[102]),-1,n,100,(0,0),0,0,0,0,0)],[(ByteArray.mk #[111])],.slice none 0 0,.slice none 0 0,[]⟩:=⟨rfl,rfl,rfl,rfl⟩
  obtain ⟨_,_,q1,q2⟩:=alz _ hE
  have q2:(wB ⟨([(ByteArray.mk #[120]),(ByteArray.mk #[121])]),(List.length ([(ByteArray.mk #[120]),(ByteArray.mk #[121])]):Int),0,.slice none 0 0,.slice none 0 0,.slice none 0 0,.slice none 0 0,.slice none 0 0,[((ByteArray.mk #[102]),-1,n,100,(0,0),0,0,0,0,0)],[(ByteArray.mk #[111])],.slice none 0 0,.slice none 0 0,[]⟩).gs=pkG:=q2
  refine ⟨⟨rfl,rfl⟩,⟨hE,rfl,rfl⟩,by omega,?_⟩
  rw [List.drop_zero,List.take_length,q2]
  rfl
 ·cases h)
def abw:List LV→T LV
 | []=> .ok (.v (.bool true))
 |_=> .no
noncomputable def Xq:List LV→T LV:=gW Tryz.prog Tryz.f11.params.toList abw
noncomputable def ahC:Specs:=bf [(14,IK),(16,Pm),(19,II),(33,Xh)]
theorem auF:∀g S,ahC g=some S→Valid Tryz.prog aP g S:=aS (l:=[(14,IK),(16,Pm),(19,II),(33,Xh)]) ⟨adJ,ajS,adH,arb,trivial⟩
theorem amG:(bW Tryz.prog aP (ahC) eY aC Tryz.f11 []).red=.req (yM ([(true,((0:Int),((0:Int),(2:Int)))),(true,((0:Int),((50:Int),(1:Int))))]) (40:Int)∧([(true,((0:Int),((0:Int),(2:Int)))),(true,((0:Int),((50:Int),(1:Int))))]).length≤19) (.req (yM ([(true,((0:Int),((0:Int),(2:Int)))),(true,((0:Int),((50:Int),(1:Int))))]) (40:Int)∧([(true,((0:Int),((0:Int),(2:Int)))),(true,((0:Int),((50:Int),(1:Int))))]).length≤19) (.req (0≤(0:Int)∧(0:Int)≤(1:Int)∧(1:Int)≤(List.length ([((0:Int),(9:Int)),((0:Int),(9:Int))]):Int)) (.req (yM ([(true,((0:Int),((0:Int),(2:Int)))),(true,((0:Int),((50:Int),(1:Int))))]) (40:Int)∧([(true,((0:Int),((0:Int),(2:Int)))),(true,((0:Int),((50:Int),(1:Int))))]).length≤19) (.req ((List.length (CO (pkC (10:Int)) ([(ByteArray.mk #[111])]) ([]:List Ko) pkG ([]:List Ba) ([]:List Le) ([((0:Int),(9:Int)),((0:Int),(9:Int))]) ([(true,((0:Int),((0:Int),(2:Int)))),(true,((0:Int),((50:Int),(1:Int))))]) (40:Int) (7:Int)):Int)≤1000) (.req (0≤(1:Int)∧1<(List.length (deR (pkC (10:Int)) ([(ByteArray.mk #[111])]) ([]:List Ko) pkG ([]:List Ba) ([]:List Le) ([((0:Int),(9:Int)),((0:Int),(9:Int))]) ([(true,((0:Int),((0:Int),(2:Int)))),(true,((0:Int),((50:Int),(1:Int))))]) (40:Int) (7:Int)):Int)) (.req (0≤(0:Int)∧0<(List.length (deR (pkC (10:Int)) ([(ByteArray.mk #[111])]) ([]:List Ko) pkG ([]:List Ba) ([]:List Le) ([((0:Int),(9:Int)),((0:Int),(9:Int))]) ([(true,((0:Int),((0:Int),(2:Int)))),(true,((0:Int),((50:Int),(1:Int))))]) (40:Int) (7:Int)):Int)) (.req (0≤(0:Int)∧0<(List.length (sD (pkC (10:Int)) ([(ByteArray.mk #[111])]) ([]:List Ko) pkG ([]:List Ba) ([]:List Le) ([((0:Int),(9:Int)),((0:Int),(9:Int))]) ([(true,((0:Int),((0:Int),(2:Int)))),(true,((0:Int),((50:Int),(1:Int))))]) (40:Int) (7:Int)):Int)) (.req ((List.length (CO (pkC (20:Int)) ([(ByteArray.mk #[111])]) ([]:List Ko) pkG ([]:List Ba) ([((3:Int),((1:Int),((20:Int),((30:Int),(12:Int)))))]) ([((0:Int),(9:Int)),((0:Int),(9:Int))]) ([(true,((0:Int),((0:Int),(2:Int)))),(true,((0:Int),((50:Int),(1:Int))))]) (40:Int) (7:Int)):Int)≤1000) (.req (yM ([(true,((0:Int),((0:Int),(2:Int)))),(true,((0:Int),((50:Int),(1:Int))))]) (40:Int)∧([(true,((0:Int),((0:Int),(2:Int)))),(true,((0:Int),((50:Int),(1:Int))))]).length≤19) (.req ((List.length (jQ ([(true,((0:Int),((0:Int),(2:Int)))),(true,((0:Int),((50:Int),(1:Int))))]) (40:Int)):Int)≤1000) (.ok (.v (.bool true))))))))))))):=by kernel_rfl
theorem aro:Valid Tryz.prog aP 11 Xq:=aH Tryz.func11 rfl auF aG (aW (by kernel_rfl)) (fun args lv h=>by
 unfold abw at h
 split at h
 ·simp only [canL]
  refine @T.FB _ _ _ ?_
  rw [amG]
  exact ⟨(by first|decide+kernel|(unfold yM;decide+kernel)),(by first|decide+kernel|(unfold yM;decide+kernel)),(by first|decide+kernel|(unfold yM;decide+kernel)),(by first|decide+kernel|(unfold yM;decide+kernel)),(by first|decide+kernel|(unfold yM;decide+kernel)),(by first|decide+kernel|(unfold yM;decide+kernel)),(by first|decide+kernel|(unfold yM;decide+kernel)),(by first|decide+kernel|(unfold yM;decide+kernel)),(by first|decide+kernel|(unfold yM;decide+kernel)),(by first|decide+kernel|(unfold yM;decide+kernel)),(by first|decide+kernel|(unfold yM;decide+kernel)),h⟩
 ·cases h)
end Go.Proofs.YtlihnbimgclogaaGreatDoor
namespace Go.Proofs.YtlihnbimgclogaaGreatDoor
open Go.Sx
def aiF:List LV→T LV
 | [.xl (.pair (.int .i64) (.pair (.int .i64) (.pair (.int .i64) (.pair (.int .i64) (.int .i64))))) l,.v (.agg ⟨[.int .i64 nu,.int .i64 co,.int .i64 am,.int .i64 fr,.int .i64 tk]⟩)]=> .ok (.gV [.xl jL (OH l (nu,co,am,fr,tk)),.v (.int .i64 (vC l (nu,co,am,fr,tk)))])
 |_=> .no
noncomputable def ain:List LV→T LV:=gW Tryz.prog Tryz.f30.params.toList aiF
noncomputable def apI:Specs:=bf [(62,yI),(63,IJ),(64,Tf)]
theorem ayD:∀g S,apI g=some S→Valid Tryz.prog aP g S:=aS (l:=[(62,yI),(63,IJ),(64,Tf)]) ⟨UB,adI,aoC,trivial⟩
theorem atZ (l:List Le) (nu co am fr tk:Int):bW Tryz.prog aP (apI) eY aC Tryz.f30 [.xl jL l,.v (.agg #[.int .i64 nu,.int .i64 co,.int .i64 am,.int .i64 fr,.int .i64 tk])]=.br ((!(jY l)) ||(!(G5 (nu,co,am,fr,tk)))) (.ok (.gV [.xl jL ([]:List Le),.v (.int .i64 1)])) (.br (decide ((List.length l:Int)>0)) (.req (0≤(IntKind.i64.wrap ((List.length l:Int)-1))∧(IntKind.i64.wrap ((List.length l:Int)-1))<(List.length l:Int)) (.br (!(xA (bI l (IntKind.i64.wrap ((List.length l:Int)-1))) (nu,co,am,fr,tk))) (.ok (.gV [.xl jL ([]:List Le),.v (.int .i64 12)])) (.br ((List.length l:Int)==64) (.ok (.gV [.xl jL ([]:List Le),.v (.int .i64 10)])) (.req (0≤(0:Int)∧(0:Int)≤(IntKind.i64.wrap ((List.length l:Int)+1))∧40*(IntKind.i64.wrap ((List.length l:Int)+1))≤2^48∧(IntKind.i64.wrap ((List.length l:Int)+1))<2^63) (.req (0+(0:Int).toNat=List.length (List.replicate (0:Int).toNat ((0:Int),((0:Int),((0:Int),((0:Int),(0:Int))))))∧(((0:Int).toNat+List.length l:Nat):Int)*40≤2^47∧(((0:Int).toNat+List.length l:Nat):Int)<2^62) (.req (0+((0:Int).toNat+List.length l)=List.length ((List.replicate (0:Int).toNat ((0:Int),((0:Int),((0:Int),((0:Int),(0:Int))))))++l)∧(((0:Int).toNat+List.length l+List.length ([(nu,(co,(am,(fr,tk))))]):Nat):Int)*40≤2^47∧(((0:Int).toNat+List.length l+List.length ([(nu,(co,(am,(fr,tk))))]):Nat):Int)<2^62) (.req (0+((0:Int).toNat+List.length l+List.length ([(nu,(co,(am,(fr,tk))))]))≤List.length (((List.replicate (0:Int).toNat ((0:Int),((0:Int),((0:Int),((0:Int),(0:Int))))))++l)++([(nu,(co,(am,(fr,tk))))]))) (.ok (.gV [.xl jL (((((List.replicate (0:Int).toNat ((0:Int),((0:Int),((0:Int),((0:Int),(0:Int))))))++l)++([(nu,(co,(am,(fr,tk))))])).drop 0).take ((0:Int).toNat+List.length l+List.length ([(nu,(co,(am,(fr,tk))))]))),.v (.int .i64 0)]))))))))) (.br ((List.length l:Int)==64) (.ok (.gV [.xl jL ([]:List Le),.v (.int .i64 10)])) (.req (0≤(0:Int)∧(0:Int)≤(IntKind.i64.wrap ((List.length l:Int)+1))∧40*(IntKind.i64.wrap ((List.length l:Int)+1))≤2^48∧(IntKind.i64.wrap ((List.length l:Int)+1))<2^63) (.req (0+(0:Int).toNat=List.length (List.replicate (0:Int).toNat ((0:Int),((0:Int),((0:Int),((0:Int),(0:Int))))))∧(((0:Int).toNat+List.length l:Nat):Int)*40≤2^47∧(((0:Int).toNat+List.length l:Nat):Int)<2^62) (.req (0+((0:Int).toNat+List.length l)=List.length ((List.replicate (0:Int).toNat ((0:Int),((0:Int),((0:Int),((0:Int),(0:Int))))))++l)∧(((0:Int).toNat+List.length l+List.length ([(nu,(co,(am,(fr,tk))))]):Nat):Int)*40≤2^47∧(((0:Int).toNat+List.length l+List.length ([(nu,(co,(am,(fr,tk))))]):Nat):Int)<2^62) (.req (0+((0:Int).toNat+List.length l+List.length ([(nu,(co,(am,(fr,tk))))]))≤List.length (((List.replicate (0:Int).toNat ((0:Int),((0:Int),((0:Int),((0:Int),(0:Int))))))++l)++([(nu,(co,(am,(fr,tk))))]))) (.ok (.gV [.xl jL (((((List.replicate (0:Int).toNat ((0:Int),((0:Int),((0:Int),((0:Int),(0:Int))))))++l)++([(nu,(co,(am,(fr,tk))))])).drop 0).take ((0:Int).toNat+List.length l+List.length ([(nu,(co,(am,(fr,tk))))]))),.v (.int .i64 0)])))))))):=by kernel_rfl
theorem aw0:Valid Tryz.prog aP 30 ain:=aH Tryz.func30 rfl ayD aG (aW (by kernel_rfl)) (fun args lv h=>by
 unfold aiF at h
 split at h
 ·simp only [canL,canX]
  rw [atZ]
  rename_i l nu co am fr tk
  obtain rfl:=h
  have bad:∀e:Int,e≠0→vC l (nu,co,am,fr,tk)=e→LV.gV [.xl jL ([]:List Le),.v (.int .i64 e)]=LV.gV [.xl jL (OH l (nu,co,am,fr,tk)),.v (.int .i64 (vC l (nu,co,am,fr,tk)))]:=fun e h0 h1=>by
   unfold OH
   rw [h1,if_neg h0]
  refine ⟨fun c=>bad 1 (by decide) ?_,fun c=>?_⟩
  ·unfold vC
   rw [if_neg (by revert c;cases jY l<;>cases G5 (nu,co,am,fr,tk)<;>simp)]
  have hk:(jY l&&G5 (nu,co,am,fr,tk))=true:=by revert c;cases jY l<;>cases G5 (nu,co,am,fr,tk)<;>simp
  have hl:l.length≤64:=by rw [Bool.and_eq_true] at hk;exact (pM hk.1).1
  have w1:IntKind.i64.wrap ((List.length l:Int)+1)=(List.length l:Int)+1:=aK (by omega) (by omega)
  have fin:(decide (l.length>0)&&!xA (bI l ((l.length:Int)-1)) (nu,co,am,fr,tk))=false→l.length≠64→LV.gV [.xl jL ((l++[(nu,co,am,fr,tk)]).take (0+l.length+1)),.v (.int .i64 0)]=LV.gV [.xl jL (OH l (nu,co,am,fr,tk)),.v (.int .i64 (vC l (nu,co,am,fr,tk)))]:=fun h1 h2=>by
   have e:vC l (nu,co,am,fr,tk)=0:=by unfold vC;rw [if_pos hk,if_neg (by rw [h1];simp),if_neg h2]
   unfold OH
   rw [e,if_pos rfl,List.take_of_length_le (by simp)]
  have rq:(0≤(0:Int)∧(0:Int)≤IntKind.i64.wrap ((List.length l:Int)+1)∧40*IntKind.i64.wrap ((List.length l:Int)+1)≤2^48∧IntKind.i64.wrap ((List.length l:Int)+1)<2^63):=by rw [w1];omega
  refine ⟨fun c2=>?_,fun c2=>?_⟩
  ·have c2:0<l.length:=by have:=of_decide_eq_true c2;omega
   have w2:IntKind.i64.wrap ((List.length l:Int)-1)=(List.length l:Int)-1:=aK (by omega) (by omega)
   rw [w2]
   refine ⟨by omega,fun c3=>bad 12 (by decide) ?_,fun c3=>⟨fun c4=>bad 10 (by decide) ?_,fun c4=>⟨rq,⟨rfl,by simp;omega,by simp;omega⟩,⟨by simp,by simp;omega,by simp;omega⟩,by simp,?_⟩⟩⟩
   ·unfold vC
    rw [if_pos hk,if_pos (by rw [c3,decide_eq_true c2];rfl)]
   ·unfold vC
    rw [if_pos hk,if_neg (by rw [c3];simp),if_pos (by simp at c4;omega)]
   ·exact fin (by rw [c3,Bool.and_false]) (by simp at c4;omega)
  ·have c2:¬l.length>0:=by have:=of_decide_eq_false c2;omega
   refine ⟨fun c4=>bad 10 (by decide) ?_,fun c4=>⟨rq,⟨rfl,by simp;omega,by simp;omega⟩,⟨by simp,by simp;omega,by simp;omega⟩,by simp,?_⟩⟩
   ·simp at c4;omega
   ·exact fin (by rw [decide_eq_false c2,Bool.false_and]) (by omega)
 ·cases h)
end Go.Proofs.YtlihnbimgclogaaGreatDoor
namespace Go.Proofs.YtlihnbimgclogaaGreatDoor
open Go.Sx
section
variable {P : List Int → Bool} {tp : Int → Int}
end
end Go.Proofs.YtlihnbimgclogaaGreatDoor
namespace Go.Proofs.YtlihnbimgclogaaGreatDoor
open Go.Sx
section
variable {cs : List Cd} {os : List ByteArray} {ks : List Ko} {gs : List Ch} {bs : List Ba} {l : List Le} {rs : List Ra} {d : List Dm} {t n : Int}
theorem avb {w:List Int}{k:Nat}{j:Int}(h0:0≤j) (h1:j<(k:Int)):gi (Ky gs rs w k) j=nxA (bC gs j) (lH rs j) (gi w j):=o7 h0 h1
theorem ahW (V:Vd cs os ks gs bs l rs d t n) {j:Int}(j0:0≤j) (j1:j<(gs.length:Int)):0≤gi (Ky gs rs (Uu cs os ks gs bs l d t) gs.length) j∧gi (Ky gs rs (Uu cs os ks gs bs l d t) gs.length) j≤gi (Uu cs os ks gs bs l d t) j∧gi (Uu cs os ks gs bs l d t) j≤gi (tgL cs os ks gs bs d t) j:=by
 have hk:=ahX V j j0 j1
 rw [avb j0 j1]
 exact ⟨(Vt hk).1,(alX hk rfl).2.1,((ad1 (af8 V)).2 j j0 j1).2⟩
theorem aze (V:Vd cs os ks gs bs l rs d t n):ajj gs (Ky gs rs (Uu cs os ks gs bs l d t) gs.length):=⟨eU,fun a ha=>by
 obtain ⟨j,⟨h0,h1⟩,rfl⟩:=agB ha
 have h1:j<(gs.length:Int):=by unfold Ky at h1;rw [eU] at h1;exact h1
 have h2:=ahW V h0 h1
 have h3:=Y5 V (j:=j)
 omega⟩
theorem ayW (h:(!ant cs os ks gs bs l rs d)=false):(l.length:Int)≤1000:=by
 have h:=PS h
 unfold ant at h
 simp only [Bool.and_eq_true,decide_eq_true_eq] at h
 omega
theorem au4 (c:FH cs os ks gs bs l rs d t n=true):CO cs os ks gs bs l rs d t n=Ky gs rs (Uu cs os ks gs bs l d t) gs.length∧deR cs os ks gs bs l rs d t n=dcR gs rs (Uu cs os ks gs bs l d t) gs.length∧sD cs os ks gs bs l rs d t n=O1 gs l t n (Ky gs rs (Uu cs os ks gs bs l d t) gs.length) gs.length∧deE cs os ks gs bs l rs d t n=0:=by
 unfold CO deR sD deE
 rw [if_pos c,if_pos c,if_pos c,if_pos c]
 exact ⟨rfl,rfl,rfl,rfl⟩
theorem atC {i a:Int}(h:nwB gs l t i a=true):wS (bC gs i)<a:=by
 unfold nwB at h
 rw [Bool.and_eq_true] at h
 have h1:=h.1
 simp only [Bool.not_eq_true',decide_eq_false_iff_not] at h1
 omega
end
end Go.Proofs.YtlihnbimgclogaaGreatDoor
namespace Go.Proofs.YtlihnbimgclogaaGreatDoor
open Go.Sx
section
variable {cs : List Cd} {os : List ByteArray} {ks : List Ko} {gs : List Ch} {bs : List Ba} {l : List Le} {rs : List Ra} {d : List Dm} {t n : Int}
structure NwL (gs:List Ch) (am:List Int) (t n:Int) (m:List Le):Prop where
 at_:∀k:Int,0≤k→k<(m.length:Int)→bI m k=(n+k,(bI m k).2.1,gi am (bI m k).2.1,t,12)∧(0≤(bI m k).2.1∧(bI m k).2.1<(gs.length:Int))∧wS (bC gs (bI m k).2.1)<gi am (bI m k).2.1
 up:∀k:Int,1≤k→k<(m.length:Int)→(bI m (k-1)).2.1<(bI m k).2.1
theorem tX {m:List Le}{x:Le}{k:Int}(h0:0≤k):bI (m++[x]) k=if k<(m.length:Int) then bI m k else if k=(m.length:Int) then x else (0,0,0,0,0):=by
 unfold bI
 rw [List.getD_eq_getElem?_getD,List.getD_eq_getElem?_getD]
 split
 ·rw [List.getElem?_append_left (by omega)]
 ·rw [List.getElem?_append_right (by omega)]
  split
  ·rw [show k.toNat-m.length=0 by omega]
   rfl
  ·rw [List.getElem?_eq_none (by simp;omega)]
   rfl
theorem ahY {am:List Int}:∀ {K:Nat},K≤gs.length→NwL gs am t n (O1 gs l t n am K)∧∀x∈O1 gs l t n am K,x.2.1<(K:Int)
 |0,_=>⟨⟨fun k h0 h1=>by simp [O1] at h1;omega,fun k h0 h1=>by simp [O1] at h1;omega⟩,fun x hx=>by cases hx⟩
 | K +1,h=>by
  obtain ⟨⟨h1,h2⟩,h3⟩:=ahY (am:=am) (K:=K) (by omega)
  rw [O1]
  split
  ·rename_i hn
   have hf:=atC hn
   refine ⟨⟨fun k k0 k1=>?_,fun k k0 k1=>?_⟩,fun x hx=>?_⟩
   ·simp only [List.length_append,List.length_cons,List.length_nil] at k1
    rw [tX k0]
    split
    ·rename_i hk;exact h1 k k0 hk
    ·rename_i hk
     have e:k=((O1 gs l t n am K).length:Int):=by omega
     rw [if_pos e,e]
     exact ⟨rfl,by simp only;omega,hf⟩
   ·simp only [List.length_append,List.length_cons,List.length_nil] at k1
    rw [tX (by omega),tX (by omega),if_pos (show k-1<((O1 gs l t n am K).length:Int) by omega)]
    split
    ·rename_i hk;exact h2 k k0 hk
    ·rename_i hk
     rw [if_pos (show k=((O1 gs l t n am K).length:Int) by omega)]
     exact h3 _ (Fe (by omega) (by omega))
   ·rw [List.mem_append,List.mem_singleton] at hx
    rcases hx with hx|rfl
    ·have:=h3 x hx;omega
    ·simp only;omega
  ·rw [List.append_nil]
   exact ⟨⟨h1,h2⟩,fun x hx=>by have:=h3 x hx;omega⟩
theorem agO:jY l=true↔l.length≤64∧∀k:Int,0≤k→k<(l.length:Int)→G5 (bI l k)=true∧(k=0∨xA (bI l (k-1)) (bI l k)=true):=by
 unfold jY
 rw [Bool.and_eq_true,decide_eq_true_eq,fM]
 refine and_congr_right fun _=>⟨fun h k k0 k1=>?_,fun h j hj=>?_⟩
 ·have:=h k.toNat (by omega)
  rw [Int.toNat_of_nonneg k0] at this
  unfold jr at this
  rw [Bool.and_eq_true,Bool.or_eq_true,decide_eq_true_eq] at this
  exact this
 ·obtain ⟨h1,h2⟩:=h j (by omega) hj
  unfold jr
  rw [h1,Bool.true_and,Bool.or_eq_true,decide_eq_true_eq]
  exact h2
theorem acR {x:Le}(h:jY l=true) (hx:G5 x=true) (hl:l.length<64) (hf:l.length=0∨xA (bI l ((l.length:Int)-1)) x=true):jY (l++[x])=true:=by
 rw [agO] at h⊢
 refine ⟨by simp;omega,fun k k0 k1=>?_⟩
 simp only [List.length_append,List.length_cons,List.length_nil] at k1
 rw [tX k0]
 split
 ·rename_i hk
  obtain ⟨h1,h2⟩:=h.2 k k0 hk
  refine ⟨h1,?_⟩
  rcases h2 with h2|h2
  ·exact .inl h2
  ·by_cases e:k=0
   ·exact .inl e
   ·rw [tX (by omega),if_pos (by omega)]
    exact .inr h2
 ·rename_i hk
  have e:k=(l.length:Int):=by omega
  rw [if_pos e]
  refine ⟨hx,?_⟩
  rcases hf with hf|hf
  ·exact .inl (by omega)
  ·by_cases e0:k=0
   ·exact .inl e0
   ·rw [tX (by omega),if_pos (by omega),e]
    exact .inr hf
structure Fit (l:List Le) (n t:Int):Prop where
 les:jY l=true
 last:l.length=0∨((bI l ((l.length:Int)-1)).1<n∧(bI l ((l.length:Int)-1)).2.2.2.1≤t)
theorem tZ {x:Le}(h:Fit l x.1 x.2.2.2.1) (hx:G5 x=true):(vC l x=0∧OH l x=l++[x]∧l.length<64∧Fit (l++[x]) (x.1+1) x.2.2.2.1)∨(vC l x=10∧l.length=64):=by
 have hf:l.length=0∨xA (bI l ((l.length:Int)-1)) x=true:=by
  rcases h.last with h1|h1
  ·exact .inl h1
  ·right
   unfold xA
   rw [decide_eq_true (p:=x.1>_) h1.1,decide_eq_true (p:=x.2.2.2.1≥_) h1.2]
   rfl
 have hc:(decide (l.length>0)&&!xA (bI l ((l.length:Int)-1)) x)=false:=by
  rcases hf with h1|h1
  ·rw [decide_eq_false (by omega),Bool.false_and]
  ·rw [h1];simp
 by_cases hl:l.length=64
 ·right
  unfold vC
  rw [h.les,hx,if_pos (show (true&&true)=true from rfl),hc,if_neg (by decide),if_pos hl]
  exact ⟨rfl,hl⟩
 ·left
  have h64:=(pM h.les).1
  have e:vC l x=0:=by
   unfold vC
   rw [h.les,hx,if_pos (show (true&&true)=true from rfl),hc,if_neg (by decide),if_neg hl]
  refine ⟨e,by unfold OH;rw [if_pos e],by omega,acR h.les hx (by omega) hf,.inr ?_⟩
  rw [tX (by simp<;>omega),if_neg (by simp),if_pos (by simp)]
  exact ⟨by omega,Int.le_refl _⟩
theorem Fit.mono {n' t':Int}(h:Fit l n t) (hn:n≤n') (ht:t≤t'):Fit l n' t':=⟨h.les,by
 rcases h.last with h1|h1
 ·exact .inl h1
 ·exact .inr (by omega)⟩
theorem atA {am:List Int}{m:List Le}(M:NwL gs am t n m) (V:Vd cs os ks gs bs l rs d t n) (hm:m.length≤gs.length) (_:ajj gs am) (h80:∀j,gi am j≤80) {k:Int}(k0:0≤k) (k1:k<(m.length:Int)):G5 (bI m k)=true:=by
 obtain ⟨h1,h2,h3⟩:=M.at_ k k0 k1
 have gl:=V.gl
 have tb:=V.tb
 have nb:=V.nb
 have:=O4 (V.ch _ h2.1 h2.2)
 have:=h80 (bI m k).2.1
 rw [OC,h1]
 simp only
 omega
end
end Go.Proofs.YtlihnbimgclogaaGreatDoor
namespace Go.Proofs.YtlihnbimgclogaaGreatDoor
open Go.Sx
structure jy where
 l:List Le
 tick:Int
 number:Int
 q:Bool
 xC:Bool
 a:List Int
 fits:Bool
 last:Int
 m:List Le
 k:Int
 i:Int
 aj:List Cd
 aB:List ByteArray
 ai:List Ko
 ak:List Ch
 aJ:List Ba
def aA8 (s:jy):List LV:=[.xl jL s.l,.v (.int .i64 s.tick),.v (.int .i64 s.number),.own 0 0,.v (.bool s.q),.v (.bool s.xC),.xl (.int .i64) s.a,.v (.bool s.fits),.v (.int .i64 s.last),.xl jL s.m,.v (.int .i64 s.k),.v (.int .i64 s.i)]
def aAc (s:jy):List aT:=[⟨[.xl dW s.aj,.xl .str s.aB,.xl eu s.ai,.xl dQ s.ak,.xl eG s.aJ],28,.cl,false⟩]
noncomputable def AP:Code:=((aF (Tryz.f8.body.getD .skip))[0]?).getD .skip
def UF (s:jy) (ge:Int) (gl:List Le):T (Rd jy):=
 .br (decide (s.i<s.k)) (.req (0≤s.i∧s.i<(List.length s.m:Int)) (.br (decide ((bI s.m s.i).2.1≤s.last)) (.ok (.stop (.ret) {s with q:=false})) (.br (decide ((bI s.m s.i).2.1≥(List.length s.a:Int))) (.ok (.stop (.ret) {s with q:=false})) (.req (0≤(bI s.m s.i).2.1∧(bI s.m s.i).2.1<(List.length s.a:Int)) (.br (!(((bI s.m s.i).1==(IntKind.i64.wrap (s.number+s.i)))&&(((bI s.m s.i).2.1==(bI s.m s.i).2.1)&&(((bI s.m s.i).2.2.1==(gi s.a (bI s.m s.i).2.1))&&(((bI s.m s.i).2.2.2.1==s.tick)&&((bI s.m s.i).2.2.2.2==12)))))) (.ok (.stop (.ret) {s with q:=false})) (.req (0≤(bI s.m s.i).2.1∧(bI s.m s.i).2.1<(List.length s.ak:Int)) (.br (decide ((bI s.m s.i).2.2.1≤(bC s.ak (bI s.m s.i).2.1).2.2.2.2.2.2.1)) (.ok (.stop (.ret) {s with q:=false})) (.br (s.fits&&((ge !=0)&&((ge !=10) ||(decide ((List.length s.l:Int)<64))))) (.ok (.stop (.ret) {s with q:=false,last:=(bI s.m s.i).2.1})) (.br (ge==0) (.ok (.next {s with l:=gl,last:=(bI s.m s.i).2.1,i:=(IntKind.i64.wrap (s.i+1))})) (.ok (.next {s with last:=(bI s.m s.i).2.1,i:=(IntKind.i64.wrap (s.i+1))}))))))))))) (.ok (.stop (.exit 0) s))
abbrev adP (s:jy):=UF s (vC s.l (bI s.m s.i)) (OH s.l (bI s.m s.i))
abbrev ayZ (s:jy):=(adP s).rd s
def Uh (s:jy):Prop:=s.i=0∧s.last=-1∧(s.fits=true→Fit s.l s.number s.tick)∧(s.k=(List.length s.m:Int)∧s.k≤1000)∧(s.a.length=s.ak.length∧0≤s.number∧s.number≤1000000)∧NwL s.ak s.a s.tick s.number s.m∧(∀j,0≤j→j<s.k→G5 (bI s.m j)=true)
def DK (s:jy):Prop:=(0≤s.i∧s.i≤s.k)∧((s.i=0∧s.last=-1)∨(1≤s.i∧s.last=(bI s.m (s.i-1)).2.1))∧(s.fits=true→Fit s.l (s.number+s.i) s.tick)∧(s.k=(List.length s.m:Int)∧s.k≤1000)∧(s.a.length=s.ak.length∧0≤s.number∧s.number≤1000000)∧NwL s.ak s.a s.tick s.number s.m∧(∀j,0≤j→j<s.k→G5 (bI s.m j)=true)
def yj (s:jy):Nat:=(s.k-s.i).toNat
def abS (x:Ex) (s s':jy):Prop:=x=.exit 0
theorem ayb:∀s,Uh s→DK s:=by
 intro s h
 obtain ⟨h0,hl,hf,h2⟩:=h
 exact ⟨by omega,.inl ⟨h0,hl⟩,fun q=>by rw [h0,Int.add_zero];exact hf q,h2⟩
theorem am7 (s:jy) (hI:DK s) (ge:Int) (gl:List Le) (hge:vC s.l (bI s.m s.i)=ge) (hgl:OH s.l (bI s.m s.i)=gl):bM (fun s'=>DK s'∧yj s'<yj s) (fun x s'=>abS x s s') ((UF s ge gl).rd s):=by
 unfold UF
 dsimp only [T.rd,T.rl]
 obtain ⟨⟨h0,h1⟩,hla,hf,⟨h2,h3⟩,⟨h4,h5⟩,M,hv⟩:=hI
 refine au (fun c1=>?_) (fun c1=>?_)
 ·refine au (fun c2=>?_) (fun c2=>?_)
  ·have c1:s.i<s.k:=by simpa using c1
   obtain ⟨m1,m2,m3⟩:=M.at_ s.i h0 (by omega)
   have e1:decide ((bI s.m s.i).2.1≤s.last)=false:=decide_eq_false (by
    rcases hla with hla|hla
    ·omega
    ·have:=M.up s.i hla.1 (by omega)
     omega)
   have e2:decide ((bI s.m s.i).2.1≥(List.length s.a:Int))=false:=decide_eq_false (by omega)
   have e3:(!((bI s.m s.i).1==IntKind.i64.wrap (s.number+s.i)&&((bI s.m s.i).2.1==(bI s.m s.i).2.1&&((bI s.m s.i).2.2.1==gi s.a (bI s.m s.i).2.1&&((bI s.m s.i).2.2.2.1==s.tick&&(bI s.m s.i).2.2.2.2==12)))))=false:=by
    rw [aK (x:=s.number+s.i) (by omega) (by omega),m1]
    simp
   have e4:decide ((bI s.m s.i).2.2.1≤(bC s.ak (bI s.m s.i).2.1).2.2.2.2.2.2.1)=false:=decide_eq_false (by
    have e:(bI s.m s.i).2.2.1=gi s.a (bI s.m s.i).2.1:=by rw [m1]
    unfold wS at m3
    omega)
   have hfit:s.fits=true→(ge=0∧gl=s.l++[bI s.m s.i]∧Fit (s.l++[bI s.m s.i]) (s.number+(s.i+1)) s.tick)∨(ge=10∧s.l.length=64):=fun hft=>by
    have ex:(bI s.m s.i).1=s.number+s.i:=by rw [m1]
    have et:(bI s.m s.i).2.2.2.1=s.tick:=by rw [m1]
    have F:=hf hft
    rcases tZ (x:=bI s.m s.i) (by rw [ex,et];exact F) (hv s.i h0 c1) with ⟨g1,g2,g3,g4⟩ |⟨g1,g2⟩
    ·rw [ex,et] at g4
     exact .inl ⟨hge▸g1,hgl▸g2,g4.mono (by omega) (Int.le_refl _)⟩
    ·exact .inr ⟨hge▸g1,g2⟩
   have e5:(s.fits&&(ge !=0&&(ge !=10 ||decide ((List.length s.l:Int)<64))))=false:=by
    cases hq:s.fits with
    |false=>rfl
    |true=>
     rcases hfit hq with ⟨g1,_⟩ |⟨g1,g2⟩
     ·rw [g1];rfl
     ·rw [g1,g2];rfl
   first|exact absurd (e1.symm.trans c2) (by decide) |exact absurd (e2.symm.trans c2) (by decide) |exact absurd (e3.symm.trans c2) (by decide) |exact absurd (e4.symm.trans c2) (by decide) |exact absurd (e5.symm.trans c2) (by decide)
  ·refine au (fun c3=>?_) (fun c3=>?_)
   ·have c1:s.i<s.k:=by simpa using c1
    obtain ⟨m1,m2,m3⟩:=M.at_ s.i h0 (by omega)
    have e1:decide ((bI s.m s.i).2.1≤s.last)=false:=decide_eq_false (by
     rcases hla with hla|hla
     ·omega
     ·have:=M.up s.i hla.1 (by omega)
      omega)
    have e2:decide ((bI s.m s.i).2.1≥(List.length s.a:Int))=false:=decide_eq_false (by omega)
    have e3:(!((bI s.m s.i).1==IntKind.i64.wrap (s.number+s.i)&&((bI s.m s.i).2.1==(bI s.m s.i).2.1&&((bI s.m s.i).2.2.1==gi s.a (bI s.m s.i).2.1&&((bI s.m s.i).2.2.2.1==s.tick&&(bI s.m s.i).2.2.2.2==12)))))=false:=by
     rw [aK (x:=s.number+s.i) (by omega) (by omega),m1]
     simp
    have e4:decide ((bI s.m s.i).2.2.1≤(bC s.ak (bI s.m s.i).2.1).2.2.2.2.2.2.1)=false:=decide_eq_false (by
     have e:(bI s.m s.i).2.2.1=gi s.a (bI s.m s.i).2.1:=by rw [m1]
     unfold wS at m3
     omega)
    have hfit:s.fits=true→(ge=0∧gl=s.l++[bI s.m s.i]∧Fit (s.l++[bI s.m s.i]) (s.number+(s.i+1)) s.tick)∨(ge=10∧s.l.length=64):=fun hft=>by
     have ex:(bI s.m s.i).1=s.number+s.i:=by rw [m1]
     have et:(bI s.m s.i).2.2.2.1=s.tick:=by rw [m1]
     have F:=hf hft
     rcases tZ (x:=bI s.m s.i) (by rw [ex,et];exact F) (hv s.i h0 c1) with ⟨g1,g2,g3,g4⟩ |⟨g1,g2⟩
     ·rw [ex,et] at g4
      exact .inl ⟨hge▸g1,hgl▸g2,g4.mono (by omega) (Int.le_refl _)⟩
     ·exact .inr ⟨hge▸g1,g2⟩
    have e5:(s.fits&&(ge !=0&&(ge !=10 ||decide ((List.length s.l:Int)<64))))=false:=by
     cases hq:s.fits with
     |false=>rfl
     |true=>
      rcases hfit hq with ⟨g1,_⟩ |⟨g1,g2⟩
      ·rw [g1];rfl
      ·rw [g1,g2];rfl
    first|exact absurd (e1.symm.trans c3) (by decide) |exact absurd (e2.symm.trans c3) (by decide) |exact absurd (e3.symm.trans c3) (by decide) |exact absurd (e4.symm.trans c3) (by decide) |exact absurd (e5.symm.trans c3) (by decide)
   ·refine au (fun c4=>?_) (fun c4=>?_)
    ·have c1:s.i<s.k:=by simpa using c1
     obtain ⟨m1,m2,m3⟩:=M.at_ s.i h0 (by omega)
     have e1:decide ((bI s.m s.i).2.1≤s.last)=false:=decide_eq_false (by
      rcases hla with hla|hla
      ·omega
      ·have:=M.up s.i hla.1 (by omega)
       omega)
     have e2:decide ((bI s.m s.i).2.1≥(List.length s.a:Int))=false:=decide_eq_false (by omega)
     have e3:(!((bI s.m s.i).1==IntKind.i64.wrap (s.number+s.i)&&((bI s.m s.i).2.1==(bI s.m s.i).2.1&&((bI s.m s.i).2.2.1==gi s.a (bI s.m s.i).2.1&&((bI s.m s.i).2.2.2.1==s.tick&&(bI s.m s.i).2.2.2.2==12)))))=false:=by
      rw [aK (x:=s.number+s.i) (by omega) (by omega),m1]
      simp
     have e4:decide ((bI s.m s.i).2.2.1≤(bC s.ak (bI s.m s.i).2.1).2.2.2.2.2.2.1)=false:=decide_eq_false (by
      have e:(bI s.m s.i).2.2.1=gi s.a (bI s.m s.i).2.1:=by rw [m1]
      unfold wS at m3
      omega)
     have hfit:s.fits=true→(ge=0∧gl=s.l++[bI s.m s.i]∧Fit (s.l++[bI s.m s.i]) (s.number+(s.i+1)) s.tick)∨(ge=10∧s.l.length=64):=fun hft=>by
      have ex:(bI s.m s.i).1=s.number+s.i:=by rw [m1]
      have et:(bI s.m s.i).2.2.2.1=s.tick:=by rw [m1]
      have F:=hf hft
      rcases tZ (x:=bI s.m s.i) (by rw [ex,et];exact F) (hv s.i h0 c1) with ⟨g1,g2,g3,g4⟩ |⟨g1,g2⟩
      ·rw [ex,et] at g4
       exact .inl ⟨hge▸g1,hgl▸g2,g4.mono (by omega) (Int.le_refl _)⟩
      ·exact .inr ⟨hge▸g1,g2⟩
     have e5:(s.fits&&(ge !=0&&(ge !=10 ||decide ((List.length s.l:Int)<64))))=false:=by
      cases hq:s.fits with
      |false=>rfl
      |true=>
       rcases hfit hq with ⟨g1,_⟩ |⟨g1,g2⟩
       ·rw [g1];rfl
       ·rw [g1,g2];rfl
     first|exact absurd (e1.symm.trans c4) (by decide) |exact absurd (e2.symm.trans c4) (by decide) |exact absurd (e3.symm.trans c4) (by decide) |exact absurd (e4.symm.trans c4) (by decide) |exact absurd (e5.symm.trans c4) (by decide)
    ·refine au (fun c5=>?_) (fun c5=>?_)
     ·have c1:s.i<s.k:=by simpa using c1
      obtain ⟨m1,m2,m3⟩:=M.at_ s.i h0 (by omega)
      have e1:decide ((bI s.m s.i).2.1≤s.last)=false:=decide_eq_false (by
       rcases hla with hla|hla
       ·omega
       ·have:=M.up s.i hla.1 (by omega)
        omega)
      have e2:decide ((bI s.m s.i).2.1≥(List.length s.a:Int))=false:=decide_eq_false (by omega)
      have e3:(!((bI s.m s.i).1==IntKind.i64.wrap (s.number+s.i)&&((bI s.m s.i).2.1==(bI s.m s.i).2.1&&((bI s.m s.i).2.2.1==gi s.a (bI s.m s.i).2.1&&((bI s.m s.i).2.2.2.1==s.tick&&(bI s.m s.i).2.2.2.2==12)))))=false:=by
       rw [aK (x:=s.number+s.i) (by omega) (by omega),m1]
       simp
      have e4:decide ((bI s.m s.i).2.2.1≤(bC s.ak (bI s.m s.i).2.1).2.2.2.2.2.2.1)=false:=decide_eq_false (by
       have e:(bI s.m s.i).2.2.1=gi s.a (bI s.m s.i).2.1:=by rw [m1]
       unfold wS at m3
       omega)
      have hfit:s.fits=true→(ge=0∧gl=s.l++[bI s.m s.i]∧Fit (s.l++[bI s.m s.i]) (s.number+(s.i+1)) s.tick)∨(ge=10∧s.l.length=64):=fun hft=>by
       have ex:(bI s.m s.i).1=s.number+s.i:=by rw [m1]
       have et:(bI s.m s.i).2.2.2.1=s.tick:=by rw [m1]
       have F:=hf hft
       rcases tZ (x:=bI s.m s.i) (by rw [ex,et];exact F) (hv s.i h0 c1) with ⟨g1,g2,g3,g4⟩ |⟨g1,g2⟩
       ·rw [ex,et] at g4
        exact .inl ⟨hge▸g1,hgl▸g2,g4.mono (by omega) (Int.le_refl _)⟩
       ·exact .inr ⟨hge▸g1,g2⟩
      have e5:(s.fits&&(ge !=0&&(ge !=10 ||decide ((List.length s.l:Int)<64))))=false:=by
       cases hq:s.fits with
       |false=>rfl
       |true=>
        rcases hfit hq with ⟨g1,_⟩ |⟨g1,g2⟩
        ·rw [g1];rfl
        ·rw [g1,g2];rfl
      first|exact absurd (e1.symm.trans c5) (by decide) |exact absurd (e2.symm.trans c5) (by decide) |exact absurd (e3.symm.trans c5) (by decide) |exact absurd (e4.symm.trans c5) (by decide) |exact absurd (e5.symm.trans c5) (by decide)
     ·refine au (fun c6=>?_) (fun c6=>?_)
      ·have c1:s.i<s.k:=by simpa using c1
       obtain ⟨m1,m2,m3⟩:=M.at_ s.i h0 (by omega)
       have e1:decide ((bI s.m s.i).2.1≤s.last)=false:=decide_eq_false (by
        rcases hla with hla|hla
        ·omega
        ·have:=M.up s.i hla.1 (by omega)
         omega)
       have e2:decide ((bI s.m s.i).2.1≥(List.length s.a:Int))=false:=decide_eq_false (by omega)
       have e3:(!((bI s.m s.i).1==IntKind.i64.wrap (s.number+s.i)&&((bI s.m s.i).2.1==(bI s.m s.i).2.1&&((bI s.m s.i).2.2.1==gi s.a (bI s.m s.i).2.1&&((bI s.m s.i).2.2.2.1==s.tick&&(bI s.m s.i).2.2.2.2==12)))))=false:=by
        rw [aK (x:=s.number+s.i) (by omega) (by omega),m1]
        simp
       have e4:decide ((bI s.m s.i).2.2.1≤(bC s.ak (bI s.m s.i).2.1).2.2.2.2.2.2.1)=false:=decide_eq_false (by
        have e:(bI s.m s.i).2.2.1=gi s.a (bI s.m s.i).2.1:=by rw [m1]
        unfold wS at m3
        omega)
       have hfit:s.fits=true→(ge=0∧gl=s.l++[bI s.m s.i]∧Fit (s.l++[bI s.m s.i]) (s.number+(s.i+1)) s.tick)∨(ge=10∧s.l.length=64):=fun hft=>by
        have ex:(bI s.m s.i).1=s.number+s.i:=by rw [m1]
        have et:(bI s.m s.i).2.2.2.1=s.tick:=by rw [m1]
        have F:=hf hft
        rcases tZ (x:=bI s.m s.i) (by rw [ex,et];exact F) (hv s.i h0 c1) with ⟨g1,g2,g3,g4⟩ |⟨g1,g2⟩
        ·rw [ex,et] at g4
         exact .inl ⟨hge▸g1,hgl▸g2,g4.mono (by omega) (Int.le_refl _)⟩
        ·exact .inr ⟨hge▸g1,g2⟩
       have e5:(s.fits&&(ge !=0&&(ge !=10 ||decide ((List.length s.l:Int)<64))))=false:=by
        cases hq:s.fits with
        |false=>rfl
        |true=>
         rcases hfit hq with ⟨g1,_⟩ |⟨g1,g2⟩
         ·rw [g1];rfl
         ·rw [g1,g2];rfl
       first|exact absurd (e1.symm.trans c6) (by decide) |exact absurd (e2.symm.trans c6) (by decide) |exact absurd (e3.symm.trans c6) (by decide) |exact absurd (e4.symm.trans c6) (by decide) |exact absurd (e5.symm.trans c6) (by decide)
      ·refine au (fun c7=>?_) (fun c7=>?_)
       ·have c1:s.i<s.k:=by simpa using c1
        obtain ⟨m1,m2,m3⟩:=M.at_ s.i h0 (by omega)
        have e1:decide ((bI s.m s.i).2.1≤s.last)=false:=decide_eq_false (by
         rcases hla with hla|hla
         ·omega
         ·have:=M.up s.i hla.1 (by omega)
          omega)
        have e2:decide ((bI s.m s.i).2.1≥(List.length s.a:Int))=false:=decide_eq_false (by omega)
        have e3:(!((bI s.m s.i).1==IntKind.i64.wrap (s.number+s.i)&&((bI s.m s.i).2.1==(bI s.m s.i).2.1&&((bI s.m s.i).2.2.1==gi s.a (bI s.m s.i).2.1&&((bI s.m s.i).2.2.2.1==s.tick&&(bI s.m s.i).2.2.2.2==12)))))=false:=by
         rw [aK (x:=s.number+s.i) (by omega) (by omega),m1]
         simp
        have e4:decide ((bI s.m s.i).2.2.1≤(bC s.ak (bI s.m s.i).2.1).2.2.2.2.2.2.1)=false:=decide_eq_false (by
         have e:(bI s.m s.i).2.2.1=gi s.a (bI s.m s.i).2.1:=by rw [m1]
         unfold wS at m3
         omega)
        have hfit:s.fits=true→(ge=0∧gl=s.l++[bI s.m s.i]∧Fit (s.l++[bI s.m s.i]) (s.number+(s.i+1)) s.tick)∨(ge=10∧s.l.length=64):=fun hft=>by
         have ex:(bI s.m s.i).1=s.number+s.i:=by rw [m1]
         have et:(bI s.m s.i).2.2.2.1=s.tick:=by rw [m1]
         have F:=hf hft
         rcases tZ (x:=bI s.m s.i) (by rw [ex,et];exact F) (hv s.i h0 c1) with ⟨g1,g2,g3,g4⟩ |⟨g1,g2⟩
         ·rw [ex,et] at g4
          exact .inl ⟨hge▸g1,hgl▸g2,g4.mono (by omega) (Int.le_refl _)⟩
         ·exact .inr ⟨hge▸g1,g2⟩
        have e5:(s.fits&&(ge !=0&&(ge !=10 ||decide ((List.length s.l:Int)<64))))=false:=by
         cases hq:s.fits with
         |false=>rfl
         |true=>
          rcases hfit hq with ⟨g1,_⟩ |⟨g1,g2⟩
          ·rw [g1];rfl
          ·rw [g1,g2];rfl
        rw [aK (x:=s.i+1) (by omega) (by omega)]
        refine ⟨⟨⟨by simp only;omega,by simp only;omega⟩,.inr ⟨by simp only;omega,by simp only;rw [show s.i+1-1=s.i by omega]⟩,fun hft=>?_,⟨h2,h3⟩,⟨h4,h5⟩,M,hv⟩,by simp only [yj];omega⟩
        simp only
        rcases hfit hft with ⟨g1,g2,g3⟩ |⟨g1,g2⟩
        ·rw [g2]
         exact g3
        ·rw [g1] at c7
         cases c7
       ·have c1:s.i<s.k:=by simpa using c1
        obtain ⟨m1,m2,m3⟩:=M.at_ s.i h0 (by omega)
        have e1:decide ((bI s.m s.i).2.1≤s.last)=false:=decide_eq_false (by
         rcases hla with hla|hla
         ·omega
         ·have:=M.up s.i hla.1 (by omega)
          omega)
        have e2:decide ((bI s.m s.i).2.1≥(List.length s.a:Int))=false:=decide_eq_false (by omega)
        have e3:(!((bI s.m s.i).1==IntKind.i64.wrap (s.number+s.i)&&((bI s.m s.i).2.1==(bI s.m s.i).2.1&&((bI s.m s.i).2.2.1==gi s.a (bI s.m s.i).2.1&&((bI s.m s.i).2.2.2.1==s.tick&&(bI s.m s.i).2.2.2.2==12)))))=false:=by
         rw [aK (x:=s.number+s.i) (by omega) (by omega),m1]
         simp
        have e4:decide ((bI s.m s.i).2.2.1≤(bC s.ak (bI s.m s.i).2.1).2.2.2.2.2.2.1)=false:=decide_eq_false (by
         have e:(bI s.m s.i).2.2.1=gi s.a (bI s.m s.i).2.1:=by rw [m1]
         unfold wS at m3
         omega)
        have hfit:s.fits=true→(ge=0∧gl=s.l++[bI s.m s.i]∧Fit (s.l++[bI s.m s.i]) (s.number+(s.i+1)) s.tick)∨(ge=10∧s.l.length=64):=fun hft=>by
         have ex:(bI s.m s.i).1=s.number+s.i:=by rw [m1]
         have et:(bI s.m s.i).2.2.2.1=s.tick:=by rw [m1]
         have F:=hf hft
         rcases tZ (x:=bI s.m s.i) (by rw [ex,et];exact F) (hv s.i h0 c1) with ⟨g1,g2,g3,g4⟩ |⟨g1,g2⟩
         ·rw [ex,et] at g4
          exact .inl ⟨hge▸g1,hgl▸g2,g4.mono (by omega) (Int.le_refl _)⟩
         ·exact .inr ⟨hge▸g1,g2⟩
        have e5:(s.fits&&(ge !=0&&(ge !=10 ||decide ((List.length s.l:Int)<64))))=false:=by
         cases hq:s.fits with
         |false=>rfl
         |true=>
          rcases hfit hq with ⟨g1,_⟩ |⟨g1,g2⟩
          ·rw [g1];rfl
          ·rw [g1,g2];rfl
        rw [aK (x:=s.i+1) (by omega) (by omega)]
        refine ⟨⟨⟨by simp only;omega,by simp only;omega⟩,.inr ⟨by simp only;omega,by simp only;rw [show s.i+1-1=s.i by omega]⟩,fun hft=>?_,⟨h2,h3⟩,⟨h4,h5⟩,M,hv⟩,by simp only [yj];omega⟩
        simp only
        rcases hfit hft with ⟨g1,g2,g3⟩ |⟨g1,g2⟩
        ·rw [g1] at c7
         cases c7
        ·exact (hf hft).mono (by omega) (Int.le_refl _)
 ·exact rfl
theorem aui (s:jy) (hI:DK s):bM (fun s'=>DK s'∧yj s'<yj s) (fun x s'=>abS x s s') (ayZ s):=am7 s hI _ _ rfl rfl
def Es:bQ jy:=⟨0,170,[1,4,5,6,12,13,14,18,19,97,98,99],[],aA8,aAc,fun v b=>⟨aQ jL (v.getD 0 .junk),gI (v.getD 1 .junk),gI (v.getD 2 .junk),vH (v.getD 4 .junk),vH (v.getD 5 .junk),aQ (.int .i64) (v.getD 6 .junk),vH (v.getD 7 .junk),gI (v.getD 8 .junk),aQ jL (v.getD 9 .junk),gI (v.getD 10 .junk),gI (v.getD 11 .junk),aQ dW (aY (aO b 0) 0),aQ .str (aY (aO b 0) 1),aQ eu (aY (aO b 0) 2),aQ dQ (aY (aO b 0) 3),aQ eG (aY (aO b 0) 4)⟩,adP,fun s r=> {r with tick:=s.tick,number:=s.number,xC:=s.xC,a:=s.a,fits:=s.fits,m:=s.m,k:=s.k,aj:=s.aj,aB:=s.aB,ai:=s.ai,ak:=s.ak,aJ:=s.aJ},fun s=>s,fun _ s=>s,[.ret,.exit 0],Uh,DK,yj⟩
abbrev y5:=Es.run
abbrev wV:=Es.jZ
abbrev PI:=Es.q
theorem asM (s:jy) (hI:DK s):(adP s).all (fun _=>True):=by
 refine ⟨fun c1=>⟨?_,fun _=>trivial,fun c2=>⟨fun _=>trivial,fun c3=>⟨?_,fun _=>trivial,fun c4=>⟨?_,fun _=>trivial,fun c5=>⟨fun _=>trivial,fun c6=>⟨fun _=>trivial,fun _=>trivial⟩⟩⟩⟩⟩⟩,fun _=>trivial⟩
 all_goals ((obtain ⟨⟨h0,h1⟩,hla,hf,⟨h2,h3⟩,⟨h4,h5⟩,M,hv⟩:=hI;simp only [decide_eq_true_eq] at c1;obtain ⟨m1,m2,m3⟩:=M.at_ s.i h0 (by omega);omega))
noncomputable def V6:Specs:=bf [(11,Xq),(12,Xc),(14,IK),(22,Xb),(30,ain)]
theorem ahm:∀g S,V6 g=some S→Valid Tryz.prog aP g S:=aS (l:=[(11,Xq),(12,Xc),(14,IK),(22,Xb),(30,ain)]) ⟨aro,aq6,adJ,aq5,aw0,trivial⟩
theorem afM:Es.Ok:=⟨fun s=>by kernel_rfl,fun s=>by kernel_rfl,fun s=>rfl,fun s t r=>rfl,fun s=>rfl,fun s=>by kernel_rfl⟩
theorem aeO:Es.Pf (abS):=⟨ayb,fun s h=>rfl,aui,asM⟩
theorem akK:bg Tryz.prog aP (AN 0) (.loop AP) Es.lp:=bQ.snd afM aeO (aU (Γ:=V6) (K:=eY) (L:=aC) ahm aG AP (fun b hb=>by rw [show aF AP=[] by kernel_rfl] at hb;cases hb)) (fun s=>by kernel_rfl)
theorem am6 (s:jy) (hE:Uh s):∃s',DK s'∧abS (wV s) s' (y5 s):=bQ.fin afM aeO s hE
def aqt:List LV→T LV
 | [.agg [.xl (.pair .str (.pair (.int .i64) (.pair (.int .i64) (.pair (.int .i64) (.pair (.pair (.int .i64) (.int .i64)) (.pair (.int .i64) (.pair (.int .i64) (.pair (.int .i64) (.pair (.int .i64) (.int .i64)))))))))) cs,.xl (.str) os,.xl (.pair .str (.pair (.int .i64) (.pair (.int .i64) (.int .i64)))) ks,.xl (.pair .str (.pair (.int .i64) (.pair (.int .i64) (.pair (.int .i64) (.pair (.int .i64) (.pair (.int .i64) (.pair (.int .i64) (.int .i64)))))))) gs,.xl (.pair .str (.int .i64)) bs],.xl (.pair (.int .i64) (.pair (.int .i64) (.pair (.int .i64) (.pair (.int .i64) (.int .i64))))) l,.xl (.pair (.int .i64) (.int .i64)) rs,.xl (.pair .bool (.pair (.int .i64) (.pair (.int .i64) (.int .i64)))) d,.v (.int .i64 t),.v (.int .i64 n)]=> .req (nmR (gB cs os ks gs bs)) (.ok (.v (.bool true)))
 |_=> .no
noncomputable def azr:List LV→T LV:=gW Tryz.prog Tryz.f8.params.toList aqt
theorem ax5 (cs:List Cd) (os:List ByteArray) (ks:List Ko) (gs:List Ch) (bs:List Ba) (l:List Le) (rs:List Ra) (d:List Dm) (t n:Int):bW Tryz.prog aP (V6) eY (fun i=>if i=10 then Es.lp else aC i) Tryz.f8 [.agg [.xl dW cs,.xl .str os,.xl eu ks,.xl dQ gs,.xl eG bs],.xl jL l,.xl FQ rs,.xl rE d,.v (.int .i64 t),.v (.int .i64 n)]=.br (!(ant cs os ks gs bs l rs d)) (.ok (.v (.bool true))) (.req (nmR (gB cs os ks gs bs)∧(List.length l:Int)≤1000) (.br (!(FH cs os ks gs bs l rs d t n)) (.ok (.v (.bool true))) (.req (yM d t∧d.length≤19) (.br (((deE cs os ks gs bs l rs d t n) !=0) ||((decide ((List.length (sD cs os ks gs bs l rs d t n):Int)>(List.length gs:Int))) ||((List.length (CO cs os ks gs bs l rs d t n):Int) !=(List.length gs:Int)))) (.ok (.v (.bool false))) (.br ((List.length l:Int)==0) (.req (PI (⟨l,t,n,false,true,(CO cs os ks gs bs l rs d t n),true,(-1:Int),(sD cs os ks gs bs l rs d t n),(List.length (sD cs os ks gs bs l rs d t n):Int),(0:Int),cs,os,ks,gs,bs⟩:jy)) (.br (ig (wV (⟨l,t,n,false,true,(CO cs os ks gs bs l rs d t n),true,(-1:Int),(sD cs os ks gs bs l rs d t n),(List.length (sD cs os ks gs bs l rs d t n):Int),(0:Int),cs,os,ks,gs,bs⟩:jy)) (.ret)) (.ok (.v (.bool (y5 (⟨l,t,n,false,true,(CO cs os ks gs bs l rs d t n),true,(-1:Int),(sD cs os ks gs bs l rs d t n),(List.length (sD cs os ks gs bs l rs d t n):Int),(0:Int),cs,os,ks,gs,bs⟩:jy)).q))) (.ok (.v (.bool true))))) (.req (0≤(IntKind.i64.wrap ((List.length l:Int)-1))∧(IntKind.i64.wrap ((List.length l:Int)-1))<(List.length l:Int)) (.br (decide ((bI l (IntKind.i64.wrap ((List.length l:Int)-1))).1<n)) (.req (0≤(IntKind.i64.wrap ((List.length l:Int)-1))∧(IntKind.i64.wrap ((List.length l:Int)-1))<(List.length l:Int)) (.req (PI (⟨l,t,n,false,true,(CO cs os ks gs bs l rs d t n),(decide ((bI l (IntKind.i64.wrap ((List.length l:Int)-1))).2.2.2.1≤t)),(-1:Int),(sD cs os ks gs bs l rs d t n),(List.length (sD cs os ks gs bs l rs d t n):Int),(0:Int),cs,os,ks,gs,bs⟩:jy)) (.br (ig (wV (⟨l,t,n,false,true,(CO cs os ks gs bs l rs d t n),(decide ((bI l (IntKind.i64.wrap ((List.length l:Int)-1))).2.2.2.1≤t)),(-1:Int),(sD cs os ks gs bs l rs d t n),(List.length (sD cs os ks gs bs l rs d t n):Int),(0:Int),cs,os,ks,gs,bs⟩:jy)) (.ret)) (.ok (.v (.bool (y5 (⟨l,t,n,false,true,(CO cs os ks gs bs l rs d t n),(decide ((bI l (IntKind.i64.wrap ((List.length l:Int)-1))).2.2.2.1≤t)),(-1:Int),(sD cs os ks gs bs l rs d t n),(List.length (sD cs os ks gs bs l rs d t n):Int),(0:Int),cs,os,ks,gs,bs⟩:jy)).q))) (.ok (.v (.bool true)))))) (.req (PI (⟨l,t,n,false,true,(CO cs os ks gs bs l rs d t n),false,(-1:Int),(sD cs os ks gs bs l rs d t n),(List.length (sD cs os ks gs bs l rs d t n):Int),(0:Int),cs,os,ks,gs,bs⟩:jy)) (.br (ig (wV (⟨l,t,n,false,true,(CO cs os ks gs bs l rs d t n),false,(-1:Int),(sD cs os ks gs bs l rs d t n),(List.length (sD cs os ks gs bs l rs d t n):Int),(0:Int),cs,os,ks,gs,bs⟩:jy)) (.ret)) (.ok (.v (.bool (y5 (⟨l,t,n,false,true,(CO cs os ks gs bs l rs d t n),false,(-1:Int),(sD cs os ks gs bs l rs d t n),(List.length (sD cs os ks gs bs l rs d t n):Int),(0:Int),cs,os,ks,gs,bs⟩:jy)).q))) (.ok (.v (.bool true)))))))))))):=by kernel_rfl
theorem aBB:Valid Tryz.prog aP 8 azr:=aH Tryz.func8 rfl ahm aG (L:=(fun i=>if i=10 then Es.lp else aC i)) (fun b hb=>by
 rw [show aF _=[AP] by kernel_rfl] at hb
 simp only [List.mem_cons,List.not_mem_nil,or_false] at hb
 subst hb
 exact akK) (fun args lv h=>by
 unfold aqt at h
 split at h
 ·simp only [canL,canX]
  rw [ax5]
  rename_i cs os ks gs bs l rs d t n
  obtain ⟨hn,rfl⟩:=h
  refine ⟨fun c=>rfl,fun c=>⟨⟨hn,ayW c⟩,fun c2=>rfl,fun c2=>?_⟩⟩
  have c2:=PS c2
  have V:=aoz c2
  have hw:=awK V
  obtain ⟨ea,er,el,ee⟩:=au4 c2
  have gl:=V.gl
  obtain ⟨r1,r2,r3⟩:=as9 (adL (t:=t) V.si)
  have tl:=(adM (t:=t) V.si).1
  have al:(CO cs os ks gs bs l rs d t n).length=gs.length:=by rw [ea];exact eU
  have ml:(sD cs os ks gs bs l rs d t n).length≤gs.length:=by rw [el];exact zL
  have M:NwL gs (CO cs os ks gs bs l rs d t n) t n (sD cs os ks gs bs l rs d t n):=by rw [el,ea];exact (ahY (Nat.le_refl _)).1
  have h80:∀j,gi (CO cs os ks gs bs l rs d t n) j≤80:=fun j=>by
   rw [ea]
   by_cases hj:0≤j∧j<(gs.length:Int)
   ·have h1:=ahW V hj.1 hj.2
    have h2:=Y5 V (j:=j)
    omega
   ·by_cases hn:j<0
    ·unfold gi
     rw [show j.toNat=(0:Int).toNat by omega]
     show gi _ 0≤80
     by_cases hg:(0:Int)<(gs.length:Int)
     ·have h1:=ahW V (Int.le_refl 0) hg
      have h2:=Y5 V (j:=0)
      omega
     ·rw [OJ (by rw [Ky,eU];omega)]
      decide
    ·rw [OJ (by rw [Ky,eU];omega)]
     decide
  have nb:=V.nb
  have fin:∀f:Bool,(f=true→Fit l n t)→Uh ⟨l,t,n,false,true,CO cs os ks gs bs l rs d t n,f,-1,sD cs os ks gs bs l rs d t n,(List.length (sD cs os ks gs bs l rs d t n):Int),0,cs,os,ks,gs,bs⟩∧wV ⟨l,t,n,false,true,CO cs os ks gs bs l rs d t n,f,-1,sD cs os ks gs bs l rs d t n,(List.length (sD cs os ks gs bs l rs d t n):Int),0,cs,os,ks,gs,bs⟩=.exit 0:=fun f hf=>by
   have hE:Uh ⟨l,t,n,false,true,CO cs os ks gs bs l rs d t n,f,-1,sD cs os ks gs bs l rs d t n,(List.length (sD cs os ks gs bs l rs d t n):Int),0,cs,os,ks,gs,bs⟩:=⟨rfl,rfl,hf,⟨rfl,by simp only;omega⟩,⟨al,by simp only;omega,by simp only;omega⟩,M,fun j j0 j1=>atA M V ml (by rw [ea];exact aze V) h80 j0 j1⟩
   obtain ⟨_,_,q1⟩:=am6 _ hE
   exact ⟨hE,q1⟩
  have go:∀f:Bool,(f=true→Fit l n t)→T.all (fun x=>x=LV.v (.bool true)) (.req (PI ⟨l,t,n,false,true,CO cs os ks gs bs l rs d t n,f,-1,sD cs os ks gs bs l rs d t n,(List.length (sD cs os ks gs bs l rs d t n):Int),0,cs,os,ks,gs,bs⟩) (.br (ig (wV ⟨l,t,n,false,true,CO cs os ks gs bs l rs d t n,f,-1,sD cs os ks gs bs l rs d t n,(List.length (sD cs os ks gs bs l rs d t n):Int),0,cs,os,ks,gs,bs⟩) .ret) (.ok (.v (.bool (y5 ⟨l,t,n,false,true,CO cs os ks gs bs l rs d t n,f,-1,sD cs os ks gs bs l rs d t n,(List.length (sD cs os ks gs bs l rs d t n):Int),0,cs,os,ks,gs,bs⟩).q))) (.ok (.v (.bool true))))):=fun f hf=>by
   obtain ⟨hE,q1⟩:=fin f hf
   refine ⟨⟨hE,rfl,rfl⟩,fun c4=>(by rw [q1] at c4;cases c4),fun _=>rfl⟩
  refine ⟨hw,fun c3=>absurd c3 (by rw [ee,al,decide_eq_false (by omega)];simp),fun _=>⟨fun c4=>go true fun _=>⟨V.les,.inl (by simp at c4;simp [c4])⟩,fun c4=>?_⟩⟩
  have c4:l.length≠0:=fun h=>by rw [h] at c4;cases c4
  have lv:=(pM V.les).1
  have w1:IntKind.i64.wrap ((List.length l:Int)-1)=(List.length l:Int)-1:=aK (by omega) (by omega)
  rw [w1]
  refine ⟨by omega,fun c5=>⟨by omega,go _ fun h=>⟨V.les,.inr ⟨of_decide_eq_true c5,of_decide_eq_true h⟩⟩⟩,fun c5=>go false fun h=>by cases h⟩
 ·cases h)
end Go.Proofs.YtlihnbimgclogaaGreatDoor
namespace Go.Sx
open Go Go.RowKit Go.Proofs.YtlihnbimgclogaaGreatDoor
def Uz:(t:Ty)→t.D→Prop
 | .int k,n=>(Lit.int k n).wf=true
 | .bool,_=>True
 | .str,s=>s.size≤maxLen
 | .sl e,l=>List.length l≤maxLen∧∀d,d∈l→Uz e d
 | .pair a b,d=>Uz a d.1∧Uz b d.2
def BV (P:Program):Nat→List Field→Bool
 |_,[]=>true
 |o,f::fs=>decide (f.offset=o)&&BV P (o+P.cellsOf f.type) fs
def FU (P:Program):Nat→TypeId→Bool
 |0,_=>false
 |m+1,t=>match P.underlying t with
  |some (.int _) |some .bool|some .string=>decide (P.cellsOf t=1)
  |some (.struct fs)=>BV P 0 fs.toList&&decide (P.cellsOf t=((fs.toList.map (·.type)).map P.cellsOf).sum)&&fs.toList.all (fun f=>FU P m f.type)
  |some (.array n e)=>decide (P.cellsOf t=((List.replicate n e).map P.cellsOf).sum)&&FU P m e
  |some (.slice e)=>decide (P.cellsOf t=1)&&decide (1≤P.cellsOf e)&&(xk P m e).any (fun ty=>ty.n==P.cellsOf e)&&FU P m e
  |_=>false
variable {H : Type} {enc : TypeId × Value → H} {P : Program} {w : World} {base : Nat} {spare : Nat → Bool} {held : Bool} {β : Nat → Loc}
def Good (enc:TypeId×Value→H) (P:Program) (w:World) (base:Nat) (spare:Nat→Bool) (held:Bool) (t:TypeId) (cs:List Value):Prop:=∃n x,DataW.trod enc P w base spare held n t cs=some x
theorem RL.append' {Z:Nat→Prop}:∀ {l1 l2:List LV}{y1 y2:List Value},RL β Z w l1 y1→RL β Z w l2 y2→RL β Z w (l1++l2) (y1++y2)
 | [],l2,y1,y2,h1,h2=>by simp only [RL] at h1;subst h1;exact h2
 |x::xs,l2,y1,y2,h1,h2=>by
  simp only [RL,List.cons_append] at h1⊢
  obtain ⟨y,zs,rfl,h3,h4⟩:=h1
  exact ⟨y,zs++y2,rfl,h3,RL.append' h4 h2⟩
theorem Wj {Z:Nat→Prop}:∀(t:Ty) (d:t.D) (cs:List Value) (b o:Nat),RL β Z w (fD t d) cs→(∀(j:Nat) v,cs[j]? =some v→w.cell? ⟨b,o+j,none⟩=some v)→RD Z w t d b o
 | .int k,d,cs,b,o,h,hc=>by
  simp only [fD,RL,R] at h
  obtain ⟨y,zs,rfl,rfl,_⟩:=h
  simp only [RD];exact hc 0 _ rfl
 | .bool,d,cs,b,o,h,hc=>by
  simp only [fD,RL,R] at h
  obtain ⟨y,zs,rfl,rfl,_⟩:=h
  simp only [RD];exact hc 0 _ rfl
 | .str,d,cs,b,o,h,hc=>by
  simp only [fD,RL,R] at h
  obtain ⟨y,zs,rfl,rfl,_⟩:=h
  simp only [RD];exact hc 0 _ rfl
 | .sl e,d,cs,b,o,h,hc=>by
  simp only [fD,RL,R] at h
  obtain ⟨y,zs,rfl,⟨a,cap,rfl,h2,h3⟩,_⟩:=h
  simp only [RD];exact ⟨a,cap,hc 0 _ rfl,h2,h3⟩
 | .pair p q,d,cs,b,o,h,hc=>by
  simp only [fD] at h
  have hl:=RL.length h
  simp only [List.length_append,bZ] at hl
  have h1:=h.take_drop 0 p.n
  have h2:RL β Z w ((fD p d.1++fD q d.2).drop p.n) (cs.drop p.n):=by
   refine RL.cO (by simp [hl,bZ]) fun i z hz=>?_
   rw [List.getElem?_drop] at hz⊢
   exact RL.get _ _ h hz
  have t1:((fD p d.1++fD q d.2).drop 0).take p.n=fD p d.1:=by
   rw [List.drop_zero,List.take_append_of_le_length (by rw [bZ];exact Nat.le_refl _),List.take_of_length_le (by rw [bZ];exact Nat.le_refl _)]
  have t2:(fD p d.1++fD q d.2).drop p.n=fD q d.2:=by
   rw [List.drop_append_of_le_length (by rw [bZ];exact Nat.le_refl _),List.drop_eq_nil_of_le (by rw [bZ];exact Nat.le_refl _),List.nil_append]
  rw [t1,List.drop_zero] at h1
  rw [t2] at h2
  simp only [RD]
  refine ⟨Wj p d.1 _ b o h1 (fun j v hv=>?_),Wj q d.2 _ b (o+p.n) h2 (fun j v hv=>?_)⟩
  ·rw [List.getElem?_take] at hv
   split at hv
   ·exact hc j v hv
   ·cases hv
  ·rw [List.getElem?_drop] at hv
   have:=hc (p.n+j) v hv
   rwa [←Nat.add_assoc] at this
theorem Gm {Z:Nat→Prop}{r:TypeId→Option Ty}{sz:TypeId→Nat}{Gd:TypeId→List Value→Prop}:∀(ts:List TypeId) (ty:Ty) (cs:List Value),UD r ts=some ty→
  (∀t∈ts,∀ty c,r t=some ty→Gd t c→∃d:ty.D,RL β Z w (fD ty d) c∧Uz ty d)→cs.length=(ts.map sz).sum→(∀pre t post,ts=pre++t::post→Gd t ((cs.drop (pre.map sz).sum).take (sz t)))→∃d:ty.D,RL β Z w (fD ty d) cs∧Uz ty d
 | [],ty,cs,h,_,_,_=>by simp [UD] at h
 | [t],ty,cs,h,ih,hl,hg=>by
  simp only [UD] at h
  have:=ih t (by simp) ty _ h (hg [] t [] rfl)
  have e:(cs.drop (List.map sz []).sum).take (sz t)=cs:=by
   simp at hl⊢
   exact List.take_of_length_le (by omega)
  rw [e] at this
  exact this
 | t::u::ts,ty,cs,h,ih,hl,hg=>by
  simp only [UD] at h
  split at h
  ·rename_i a b ha hb
   simp only [Option.some.injEq] at h
   subst h
   obtain ⟨d1,a1,a2⟩:=ih t (by simp) a _ ha (hg [] t (u::ts) rfl)
   obtain ⟨d2,b1,b2⟩:=Gm (sz:=sz) (Gd:=Gd) (u::ts) b (cs.drop (sz t)) hb (fun t' ht=>ih t' (by simp at ht⊢;exact .inr ht)) (by simp at hl⊢;omega) (fun pre t' post e=>by
    have:=hg (t::pre) t' post (by rw [e];rfl)
    rw [List.drop_drop]
    simpa using this)
   refine ⟨(d1,d2),?_,by simp only [Uz];exact ⟨a2,b2⟩⟩
   have:=RL.append' a1 b1
   simp only [fD]
   simpa using this
  ·cases h
theorem Nb:∀(fs:List Field) (o:Nat),BV P o fs=true→∀pre f post,fs=pre++f::post→f.offset=o+((pre.map (·.type)).map P.cellsOf).sum
 | [],o,_,pre,f,post,e=>by cases pre<;>cases e
 |g::fs,o,h,[],f,post,e=>by
  simp only [BV,Bool.and_eq_true,decide_eq_true_eq] at h
  simp only [List.nil_append,List.cons.injEq] at e
  rw [←e.1];simpa using h.1
 |g::fs,o,h,p::pre,f,post,e=>by
  simp only [BV,Bool.and_eq_true,decide_eq_true_eq] at h
  simp only [List.cons_append,List.cons.injEq] at e
  have:=Nb fs _ h.2 pre f post e.2
  rw [this,←e.1];simp;omega
theorem EX {Z:Nat→Prop}(hZ:∀b,b<w.heap.size→Z b):∀(m:Nat) (t:TypeId) (ty:Ty),FU P m t=true→xk P m t=some ty→∀cs,Good enc P w base spare held t cs→∃d:ty.D,RL β Z w (fD ty d) cs∧Uz ty d
 |0,t,_,h,_,_,_=>by cases h
 | m + 1,t,ty,h,hty,cs,⟨n,x,hx⟩=>by
  simp only [FU] at h
  simp only [xk] at hty
  split at h
  ·rename_i k hu
   obtain ⟨z,rfl,_,hw⟩:=DataW.trod_int hu hx
   simp only [hu,Option.some.injEq] at hty
   subst hty
   exact ⟨z,by simp [fD,RL,R],hw⟩
  ·rename_i hu
   obtain ⟨z,rfl,_⟩:=DataW.trod_bool hu hx
   simp only [hu,Option.some.injEq] at hty
   subst hty
   exact ⟨z,by simp [fD,RL,R],trivial⟩
  ·rename_i hu
   obtain ⟨z,rfl,_,hs⟩:=DataW.trod_string hu hx
   simp only [hu,Option.some.injEq] at hty
   subst hty
   exact ⟨z,by simp [fD,RL,R],hs⟩
  ·rename_i fs hu
   simp only [Bool.and_eq_true,decide_eq_true_eq,List.all_eq_true] at h
   obtain ⟨⟨h1,h2⟩,h3⟩:=h
   obtain ⟨xs,n',_,_,hl,hxl,hf⟩:=DataW.trod_struct hu hx
   simp only [hu] at hty
   refine Gm (Gd:=Good enc P w base spare held) (sz:=P.cellsOf) (fs.toList.map (·.type)) ty cs hty (fun t' ht ty' c hty' hc=>?_) (by rw [hl,h2]) (fun pre t' post e=>?_)
   ·obtain ⟨f,hf1,rfl⟩:=List.mem_map.1 ht
    exact EX hZ m f.type ty' (h3 f hf1) hty' c hc
   ·obtain ⟨fpre,frest,e1,e2,e3⟩:=List.map_eq_append_iff.1 e
    obtain ⟨f,fpost,rfl,e4,e5⟩:=List.map_eq_cons_iff.1 e3
    have ho:=Nb fs.toList 0 h1 fpre f fpost e1
    have hi:fs[fpre.length]? =some f:=by
     have:fs.toList[fpre.length]? =some f:=by rw [e1];simp
     simpa using this
    have hg:=hf _ f hi
    have hlt:fpre.length<fs.size:=(Array.getElem?_eq_some_iff.1 hi).1
    rw [ho,Nat.zero_add] at hg
    refine ⟨n',xs[fpre.length]'(by omega),?_⟩
    rw [←e2,←e4,hg,List.getElem?_eq_getElem]
  ·rename_i n0 e hu
   simp only [Bool.and_eq_true,decide_eq_true_eq] at h
   obtain ⟨h2,h3⟩:=h
   obtain ⟨xs,n',_,_,hl,hxl,hf⟩:=DataW.trod_array hu hx
   simp only [hu] at hty
   refine Gm (Gd:=Good enc P w base spare held) (sz:=P.cellsOf) (List.replicate n0 e) ty cs hty (fun t' ht ty' c hty' hc=>?_) (by rw [hl,h2]) (fun pre t' post e'=>?_)
   ·rw [(List.mem_replicate.1 ht).2] at hc hty'
    exact EX hZ m e ty' h3 hty' c hc
   ·obtain ⟨c1,c2,c3⟩:=List.replicate_eq_append_iff.1 e'
    have ht':t'=e:=by
     have:t'∈List.replicate n0 e:=by rw [e'];simp
     exact (List.mem_replicate.1 this).2
    have hlen:pre.length<n0:=by
     have:=congrArg List.length e'
     simp at this;omega
    have hg:=hf pre.length hlen
    refine ⟨n',xs[pre.length]'(by omega),?_⟩
    have hs:(pre.map P.cellsOf).sum=pre.length*P.cellsOf e:=by rw [c2];simp
    rw [hs,ht',hg,List.getElem?_eq_getElem]
  ·rename_i e hu
   simp only [Bool.and_eq_true,decide_eq_true_eq] at h
   obtain ⟨⟨⟨h1,h2⟩,h4⟩,h3⟩:=h
   simp only [hu,Option.map_eq_some_iff] at hty
   obtain ⟨te,hte,rfl⟩:=hty
   rw [hte] at h4
   simp only [Option.any_some,beq_iff_eq] at h4
   rcases DataW.trod_slice hu hx with ⟨rfl,_⟩ |⟨a,len,cap,elems,rest,n',_,rfl,_,hb,hlc,hm,hlen,hel,_,_⟩
   ·refine ⟨([]:List te.D),?_,Nat.zero_le _,fun d hd=>by cases hd⟩
    simp only [fD,RL,R]
    exact ⟨_,[],rfl,⟨none,0,rfl,Nat.le_refl _,fun h=>absurd h (Nat.lt_irrefl 0)⟩,rfl⟩
   ·have each:∀i,∃d:te.D,i<len→∃c,w.cells? base (a.add (i*P.cellsOf e)) (P.cellsOf e)=some c∧RL β Z w (fD te d) c∧Uz te d:=fun i=>by
     by_cases hi:i<len
     ·have he:=hel i hi
      rw [List.getElem?_eq_getElem (by omega)] at he
      obtain ⟨c,hc,ht⟩:=Option.bind_eq_some_iff.1 he
      obtain ⟨d,l1,l2⟩:=EX hZ m e te h3 hte c ⟨n',_,ht⟩
      exact ⟨d,fun _=>⟨c,hc,l1,l2⟩⟩
     ·exact ⟨te.dflt,fun h=>absurd h hi⟩
    have ⟨g,hg⟩:=Classical.axiomOfChoice each
    have hlg:List.length ((List.range len).map g)=len:=by simp
    refine ⟨(List.range len).map g,?_,by rw [hlg];omega,fun d hd=>?_⟩
    ·simp only [fD,RL,R]
     refine ⟨_,[],rfl,⟨some a,cap,by rw [hlg],by rw [hlg];omega,fun hn=>?_⟩,rfl⟩
     rw [hlg] at hn
     obtain ⟨c0,hc0,hr0,_⟩:=hg 0 hn
     obtain ⟨_,hcl0,hat0⟩:=World.cells?_some hc0
     have hcell0:∃z,w.cell? ((a.add (0*P.cellsOf e)).add 0)=some z:=by
      rw [hat0 0 (by omega)];exact ⟨_,List.getElem?_eq_getElem (by omega)⟩
     obtain ⟨z0,hz0⟩:=hcell0
     obtain ⟨b,off,spot⟩:=a
     have hsp:spot=none:=by
      cases spot with
      |none=>rfl
      |some q=>
       unfold World.cell? at hz0
       split at hz0
       ·simp [Addr.add] at hz0
       ·cases hz0
     subst hsp
     have hbl:b<w.heap.size:=by
      simp only [addr_add] at hz0
      unfold World.cell? at hz0
      split at hz0
      ·rename_i hh;exact (Array.getElem?_eq_some_iff.1 hh).1
      ·cases hz0
     refine ⟨b,off,rfl,hZ b hbl,fun i d hd=>?_⟩
     have hi:i<len:=by
      have:=(List.getElem?_eq_some_iff.1 hd).1
      rwa [hlg] at this
     have hdd:d=g i:=by
      rw [List.getElem?_map,List.getElem?_range hi] at hd
      simpa using hd.symm
     subst hdd
     obtain ⟨c,hc,hr,_⟩:=hg i hi
     obtain ⟨_,hcl,hat⟩:=World.cells?_some hc
     refine Wj te (g i) c b _ hr (fun j v hv=>?_)
     have hj:j<P.cellsOf e:=by
      have:=(List.getElem?_eq_some_iff.1 hv).1
      omega
     have:=hat j hj
     rw [hv] at this
     rw [h4]
     simpa [addr_add,Nat.add_assoc] using this
    ·obtain ⟨i,hi,rfl⟩:=List.mem_map.1 hd
     obtain ⟨_,_,_,hw⟩:=hg i (by simpa using hi)
     exact hw
  ·cases h
def PN (P:Program) (m:Nat) (t:TypeId) (l:List LV):Prop:=∃(ty:Ty) (d:ty.D),xk P m t=some ty∧l=fD ty d∧Uz ty d
theorem BL {P:Program}{m:Nat}{t:TypeId}{l:List LV}{ty:Ty}(ht:xk P m t=some ty) (h:PN P m t l):∃d:ty.D,l=fD ty d∧Uz ty d:=by
 obtain ⟨ty',d,h1,h2,h3⟩:=h
 obtain rfl:=Option.some.inj (ht.symm.trans h1)
 exact ⟨d,h2,h3⟩
theorem afi {Z:Nat→Prop}(hZ:∀b,b<w.heap.size→Z b) (m:Nat) (t:TypeId) (hs:FU P m t=true) (ht:(xk P m t).isSome=true) (cs:List Value) (hg:Good enc P w base spare held t cs):∃l,RL β Z w l cs∧dw 0 l∧PN P m t l:=by
 obtain ⟨ty,hty⟩:=Option.isSome_iff_exists.1 ht
 obtain ⟨d,h1,h2⟩:=EX (β:=β) hZ m t ty hs hty cs hg
 exact ⟨fD ty d,h1,nJ 0 ty d,ty,d,hty,rfl,h2⟩
end Go.Sx
namespace Go.Sx
open Go Go.RowKit Go.Proofs.YtlihnbimgclogaaGreatDoor Go.ChangeShapes Go.WideShapes
variable {H : Type} {enc : TypeId × Value → H} {P : Program} {β : Nat → Loc} {Z : Nat → Prop}
theorem xE (hl:laidOutB P=true) {W W':World}(hb:Below W.heap.size W W'):∀(ts:List TypeId) (vs:List Value) (ds:List (DataW H)) (ps:List MemPlace),ts.all (fun t=>P.readableRec t&&decide (t<P.types.size))=true→
  DataW.TrodAll enc P W 0 (fun _=>true) true ts vs ds ps→(∀x∈ps,x.block<W.heap.size)→DataW.TrodAll enc P W' 0 (fun b=>decide (b<W.heap.size)) true ts vs ds ps
 | [],vs,ds,ps,_,h,_=>by
  cases vs<;>cases ds<;>first|exact h|exact h.elim
 | t::ts,vs,ds,ps,hr,h,hlt=>by
  cases vs with
  |nil=>cases ds<;>exact h.elim
  | cons v vs=>
   cases ds with
   |nil=>exact h.elim
   |cons d ds=>
    obtain ⟨p,q,h1,h2,rfl⟩:=h
    simp only [List.all_cons,Bool.and_eq_true,decide_eq_true_eq] at hr
    refine ⟨p,q,Below.trod hl hr.1.1 hr.1.2 h1 hb (fun x hx=>hlt x (by simp [hx])),?_,rfl⟩
    exact xE hl hb ts vs ds q (by simpa using hr.2) h2 (fun x hx=>hlt x (by simp [hx]))
theorem agP {fn:Func}{s:ChangeSpec}{tb:TypeId}{apart:Bool}{W W':World}{args:Array Value}{ds gs:List (DataW H)}{before:List MemPlace}
  (hl:laidOutB P=true) (hr:fn.params.toList.all (fun t=>P.readableRec t&&decide (t<P.types.size))=true) (hres:fn.resultTypes=#[tb]) (hb:P.underlying tb=some .bool) (hvars:s.vars=[])
  (hfn:(s.fn H ds).results=[.lit (.bool true)]∧(s.fn H ds).args=ds∧(s.fn H ds).vars=[])
  (hW:DataW.Whole enc P fn.params.toList s.vars apart W args.toList ds gs before) (hB:Below W.heap.size W W'):s.post enc P fn apart true false false W args (.bool true) W':=by
 have hW':=hW
 obtain ⟨p,q,hA,hV,rfl,hfz,hnd⟩:=hW
 have hg:gs=[]∧q=[]:=by
  rw [hvars] at hV
  cases gs with
  |nil=>exact ⟨rfl,hV⟩
  |cons g r=>exact hV.elim
 obtain ⟨rfl,rfl⟩:=hg
 have hlt:∀x∈p,x.block<W.heap.size:=fun x hx=>hW'.lt x (by simp [hx])
 refine ⟨ds,[],p++[],[],p,[],hW',?_,?_,?_,hB.frame _,fun h=>by cases h⟩
 ·rw [List.append_nil,hfn.1,hres]
  exact trodAll_mk1 (shut_bool hb true)
 ·rw [List.append_nil,hfn.2.1]
  exact xE hl hB _ _ _ _ hr hA hlt
 ·rw [List.append_nil,hfn.2.2,hvars]
  rfl
def pLV (P:Program) (t:TypeId) (l:List LV):LV:=
 match P.underlying t with
 |some (.struct _)=>qI l
 |some (.array _ _)=> .junk
 |_=>match l with
  | [x]=>x
  |_=> .junk
theorem cell_of {w:World}{b0:Nat}{r:Reach}{m:Nat}{t:TypeId}(hs:FU P m t=true) {v:Value}(hv:Value.okWide P w r b0 t v) (h1:∀fs,P.underlying t=some (.struct fs)→False) (h2:∀n e,P.underlying t=some (.array n e)→False):v.cells.toList=[v]:=by
 cases m with
 |zero=>cases hs
 | succ m=>
  simp only [FU] at hs
  split at hs
  ·rename_i k hu
   obtain ⟨n,rfl⟩:=okWide_int hu hv
   rfl
  ·rename_i hu
   obtain ⟨n,rfl⟩:=okWide_bool hu hv
   rfl
  ·rename_i hu
   obtain ⟨n,rfl⟩:=okWide_string hu hv
   rfl
  ·rename_i fs hu
   exact (h1 fs hu).elim
  ·rename_i n e hu
   exact (h2 n e hu).elim
  ·rename_i e hu
   obtain ⟨a,l,c,rfl⟩:=okWide_slice hu hv
   rfl
  ·cases hs
theorem Va {w:World}{base b0:Nat}{spare:Nat→Bool}{held:Bool}{r:Reach}(hZ:∀b,b<w.heap.size→Z b) {m:Nat}{t:TypeId}(hs:FU P m t=true) (ht:(xk P m t).isSome=true) {v:Value}{d:DataW H}{p:List MemPlace}(hv:Value.okWide P w r b0 t v) (h:DataW.Trod enc P w base spare held t v d p):
  ∃l,okV 0 (pLV P t l)∧R β Z w (pLV P t l) v∧PN P m t l:=by
 obtain ⟨fuel,hf⟩:=h
 obtain ⟨l,h1,h2,h3⟩:=afi (β:=β) hZ m t hs ht v.cells.toList ⟨fuel,_,hf⟩
 refine ⟨l,?_,?_,h3⟩
 ·unfold pLV
  split
  ·exact nR h2
  ·trivial
  ·split
   ·exact h2.1
   ·trivial
 ·unfold pLV
  split
  ·rename_i fs hu
   obtain ⟨cs,rfl,_⟩:=okWide_struct hu hv
   exact qH h1
  ·simp only [R]
  ·split
   ·rename_i x
    simp only [RL] at h1
    obtain ⟨y,zs,e1,e2,rfl⟩:=h1
    have hc:=cell_of hs hv (by assumption) (by assumption)
    have:v=y:=by rw [hc] at e1;simpa using e1
    rw [this];exact e2
   ·simp only [R]
def U7 (P:Program):List TypeId→List (List LV)→List LV
 |t::ts,l::ls=>pLV P t l::U7 P ts ls
 |_,_=>[]
def FW (P:Program) (m:Nat):List TypeId→List (List LV)→Prop
 | [],ls=>ls=[]
 |t::ts,ls=>∃l r,ls=l::r∧PN P m t l∧FW P m ts r
theorem Dc {w:World}{base b0:Nat}{spare:Nat→Bool}{held:Bool}{r:Reach}(hZ:∀b,b<w.heap.size→Z b) {m:Nat}:∀(ts:List TypeId) (vs:List Value) (ds:List (DataW H)) (ps:List MemPlace),ts.all (fun t=>FU P m t&&(xk P m t).isSome)=true→
  (∀(j:Nat) t v,ts[j]? =some t→vs[j]? =some v→Value.okWide P w r b0 t v)→DataW.TrodAll enc P w base spare held ts vs ds ps→∃ls,dw 0 (U7 P ts ls)∧RL β Z w (U7 P ts ls) vs∧FW P m ts ls
 | [],vs,ds,ps,_,_,h=>by
  cases vs with
  |nil=>exact ⟨[],trivial,by simp [U7,RL],rfl⟩
  |cons _ _=>cases ds<;>exact h.elim
 | t::ts,vs,ds,ps,hs,hv,h=>by
  cases vs with
  |nil=>cases ds<;>exact h.elim
  | cons v vs=>
   cases ds with
   |nil=>exact h.elim
   |cons d ds=>
    obtain ⟨p,q,h1,h2,rfl⟩:=h
    simp only [List.all_cons,Bool.and_eq_true] at hs
    obtain ⟨l,a1,a2,a3⟩:=Va (β:=β) hZ hs.1.1 hs.1.2 (hv 0 t v rfl rfl) h1
    obtain ⟨ls,b1,b2,b3⟩:=Dc hZ ts vs ds q hs.2 (fun j t' v' e1 e2=>hv (j+1) t' v' (by simpa using e1) (by simpa using e2)) h2
    exact ⟨l::ls,⟨a1,b1⟩,⟨v,vs,rfl,a2,b2⟩,l,ls,rfl,a3,b3⟩
theorem OD {G:bY}{f:FuncId}{fn:Func}{S:List LV→T LV}{s:ChangeSpec}{tb:TypeId}{apart:Bool}{m:Nat}{W:World}{base:Nat}{args:Array Value}{ds gs:List (DataW H)}{before:List MemPlace}
  (hv:Valid P G f S) (hl:laidOutB P=true) (hr:fn.params.toList.all (fun t=>P.readableRec t&&decide (t<P.types.size))=true) (hres:fn.resultTypes=#[tb]) (hb:P.underlying tb=some .bool) (hvars:s.vars=[])
  (hfn:(s.fn H ds).results=[.lit (.bool true)]∧(s.fn H ds).args=ds∧(s.fn H ds).vars=[]) (hs:fn.params.toList.all (fun t=>FU P m t&&(xk P m t).isSome)=true)
  (hS:∀ls,FW P m fn.params.toList ls→(S (U7 P fn.params.toList ls)).all (fun x=>x=.v (.bool true)))
  (hg:TY G (fun b=>b<W.heap.size) W)
  (hval:∀(j:Nat) t v,fn.params[j]? =some t→args[j]? =some v→Value.okWide P W .any base t v)
  (hW:DataW.Whole enc P fn.params.toList s.vars apart W args.toList ds gs before):
  Calls P f args W fun e W'=>∃v,e=.returned v∧s.post enc P fn apart true false false W args v W':=by
 have hA:∃p,DataW.TrodAll enc P W 0 (fun _=>true) true fn.params.toList args.toList ds p:=by
  obtain ⟨p,q,hA,_⟩:=hW
  exact ⟨p,hA⟩
 obtain ⟨p,hA⟩:=hA
 obtain ⟨ls,h1,h2,h3⟩:=Dc (β:=β0) (Z:=fun b=>b<W.heap.size) (fun _ h=>h) fn.params.toList args.toList ds p hs (fun j t v e1 e2=>hval j t v (by simpa using e1) (by simpa using e2)) hA
 refine (hv _ args W _ _ (fun _ h=>h) hg h1 h2 (hS ls h3)).mono fun e W' ⟨hB,v,he,_,hR⟩=>⟨v,he,?_⟩
 simp only [R] at hR
 rw [hR]
 exact agP hl hr hres hb hvars hfn hW hB
end Go.Sx
namespace Go.Sx
open Go Go.RowKit Go.Proofs.YtlihnbimgclogaaGreatDoor
variable {H : Type} {enc : TypeId × Value → H} {P : Program} {w : World} {base : Nat} {spare : Nat → Bool} {held : Bool}
def DC {H:Type}:Nat→DataW H→List Value
 |0,_=>[]
 |_+1,.lit (.int k n)=>[.int k n]
 |_+1,.lit (.bool b)=>[.bool b]
 |m+1,.agg l=>l.flatMap (DC m)
 |_,_=>[]
def Gf (P:Program):Nat→TypeId→Bool
 |0,_=>false
 |m+1,t=>match P.underlying t with
  |some (.int _) |some .bool=>true
  |some (.struct fs)=>BV P 0 fs.toList&&decide (P.cellsOf t=((fs.toList.map (·.type)).map P.cellsOf).sum)&&fs.toList.all (fun f=>Gf P m f.type)
  |some (.array n e)=>decide (P.cellsOf t=((List.replicate n e).map P.cellsOf).sum)&&Gf P m e
  |_=>false
theorem H9 {sz:TypeId→Nat}{g:DataW H→List Value}{Tr:TypeId→List Value→DataW H→Prop}:∀(ts:List TypeId) (cs:List Value) (ds:List (DataW H)),
  (∀t∈ts,∀c d,Tr t c d→g d=c)→ds.length=ts.length→cs.length=(ts.map sz).sum→(∀pre t post,ts=pre++t::post→∃d,ds[pre.length]? =some d∧Tr t ((cs.drop (pre.map sz).sum).take (sz t)) d)→ds.flatMap g=cs
 | [],cs,ds,_,h0,hl,_=>by
  have:cs=[]:=by simpa using hl
  have h2:ds=[]:=by simpa using h0
  rw [this,h2];rfl
 |t::ts,cs,[],_,h0,_,_=>by simp at h0
 | t::ts,cs,d::ds,ih,h0,hl,hg=>by
  obtain ⟨d',e1,e2⟩:=hg [] t ts rfl
  simp at e1
  subst e1
  have r:=H9 (sz:=sz) (g:=g) (Tr:=Tr) ts (cs.drop (sz t)) ds (fun t' ht=>ih t' (by simp [ht])) (by simpa using h0) (by simp at hl⊢;omega) (fun pre t' post e=>by
   obtain ⟨q,q1,q2⟩:=hg (t::pre) t' post (by rw [e];rfl)
   refine ⟨q,by simpa using q1,?_⟩
   rw [List.drop_drop]
   simpa using q2)
  rw [List.flatMap_cons,r,ih t (by simp) _ _ e2]
  simp
theorem OT:∀(m:Nat) (t:TypeId),Gf P m t=true→∀(n:Nat) (cs:List Value) (x:DataW H×List MemPlace),DataW.trod enc P w base spare held n t cs=some x→DC m x.1=cs
 |0,t,h,_,_,_,_=>by cases h
 | m +1,t,h,n,cs,x,hx=>by
  simp only [Gf] at h
  split at h
  ·rename_i k hu
   obtain ⟨z,rfl,rfl,hw⟩:=DataW.trod_int hu hx
   rfl
  ·rename_i hu
   obtain ⟨z,rfl,rfl⟩:=DataW.trod_bool hu hx
   rfl
  ·rename_i fs hu
   simp only [Bool.and_eq_true,decide_eq_true_eq,List.all_eq_true] at h
   obtain ⟨⟨h1,h2⟩,h3⟩:=h
   obtain ⟨xs,n',_,rfl,hl,hxl,hf⟩:=DataW.trod_struct hu hx
   simp only [DC]
   refine H9 (sz:=P.cellsOf) (Tr:=fun t c d=>∃y,DataW.trod enc P w base spare held n' t c=some y∧y.1=d) (fs.toList.map (·.type)) cs _ (fun t' ht c d hc=>?_) (by simp [hxl]) (by rw [hl,h2]) (fun pre t' post e=>?_)
   ·obtain ⟨f,hf1,rfl⟩:=List.mem_map.1 ht
    obtain ⟨y,hy,rfl⟩:=hc
    exact OT m f.type (h3 f hf1) n' c y hy
   ·obtain ⟨fpre,frest,e1,e2,e3⟩:=List.map_eq_append_iff.1 e
    obtain ⟨f,fpost,rfl,e4,e5⟩:=List.map_eq_cons_iff.1 e3
    have ho:=Nb fs.toList 0 h1 fpre f fpost e1
    have hi:fs[fpre.length]? =some f:=by
     have:fs.toList[fpre.length]? =some f:=by rw [e1];simp
     simpa using this
    have hg:=hf _ f hi
    have hlt:fpre.length<fs.size:=(Array.getElem?_eq_some_iff.1 hi).1
    rw [ho,Nat.zero_add] at hg
    refine ⟨(xs[fpre.length]'(by omega)).1,?_,xs[fpre.length]'(by omega),?_,rfl⟩
    ·rw [←e2,List.length_map,List.getElem?_map,List.getElem?_eq_getElem (by omega)];rfl
    ·rw [←e2,←e4,hg,List.getElem?_eq_getElem]
  ·rename_i n0 e hu
   simp only [Bool.and_eq_true,decide_eq_true_eq] at h
   obtain ⟨h2,h3⟩:=h
   obtain ⟨xs,n',_,rfl,hl,hxl,hf⟩:=DataW.trod_array hu hx
   simp only [DC]
   refine H9 (sz:=P.cellsOf) (Tr:=fun t c d=>∃y,DataW.trod enc P w base spare held n' t c=some y∧y.1=d) (List.replicate n0 e) cs _ (fun t' ht c d hc=>?_) (by simp [hxl]) (by rw [hl,h2]) (fun pre t' post e'=>?_)
   ·rw [(List.mem_replicate.1 ht).2] at hc
    obtain ⟨y,hy,rfl⟩:=hc
    exact OT m e h3 n' c y hy
   ·obtain ⟨c1,c2,c3⟩:=List.replicate_eq_append_iff.1 e'
    have ht':t'=e:=by
     have:t'∈List.replicate n0 e:=by rw [e'];simp
     exact (List.mem_replicate.1 this).2
    have hlen:pre.length<n0:=by
     have:=congrArg List.length e'
     simp at this;omega
    have hg:=hf pre.length hlen
    have hs:(pre.map P.cellsOf).sum=pre.length*P.cellsOf e:=by rw [c2];simp
    refine ⟨(xs[pre.length]'(by omega)).1,?_,xs[pre.length]'(by omega),?_,rfl⟩
    ·rw [List.getElem?_map,List.getElem?_eq_getElem (by omega)];rfl
    ·rw [hs,ht',hg,List.getElem?_eq_getElem]
  ·cases h
theorem Jw {W:World}{name:String}{d:DataW Unit}{rest:List (String×DataW Unit)}{g:Nat}{t:TypeId}{m:Nat}(hg:P.globalNamed name=some g) (hty:(P.globals[g]?).map (·.type)=some t) (hp:Gf P m t=true)
  (h:laidMet P ((name,d)::rest) W):(∀i,W.cell? ⟨g,i,none⟩=(DC m d)[i]?)∧((DC m d)≠ []→g<W.heap.size):=by
 obtain ⟨ps,⟨g',t',cs,fuel,p,q,hg',ht',hvar,hd,_,_⟩,_⟩:=h
 obtain rfl:=Option.some.inj (hg.symm.trans hg')
 obtain rfl:=Option.some.inj (hty.symm.trans ht')
 have hf:=OT m t hp fuel _ _ hd
 simp only at hf
 have hcell:∀i,W.cell? ⟨g,i,none⟩=(DC m d)[i]? :=fun i=>by
  rw [World.var?_cell hg hvar i,hf];simp
 refine ⟨hcell,fun hne=>?_⟩
 have h0:=hcell 0
 cases hh:(DC m d)[0]? with
 |none=>exact absurd (List.getElem?_eq_none_iff.1 hh) (by have:=List.length_pos_iff.2 hne;omega)
 |some z=>
  rw [hh] at h0
  unfold World.cell? at h0
  split at h0
  ·rename_i hb;exact (Array.getElem?_eq_some_iff.1 hb).1
  ·cases h0
end Go.Sx
namespace Go.Proofs.YtlihnbimgclogaaGreatDoor
open Go.Sx Go.ChangeShapes Go.WideShapes Go.ChangeAt Go.RowKit
theorem own:ownKnob Tryz.prog.godebug=none:=by kernel_rfl
theorem laidOut:laidOutB Tryz.prog=true:=by kernel_rfl
theorem aBV:Tryz.prog.globalNamed "chargepark/ramp.happens"=some 0:=by kernel_rfl
theorem ayU:(Tryz.prog.globals[0]?).map (·.type)=some 130:=by kernel_rfl
theorem ahp {W:World}(h:laidMetH Tryz.prog [("chargepark/ramp.happens",Rows.laid_chargepark_ramp_happens)] W):TY aP (fun b=>b<W.heap.size) W:=by
 obtain ⟨h1,h2⟩:=Jw (m:=4) aBV ayU (by kernel_rfl) (show laidMet Tryz.prog [("chargepark/ramp.happens",Rows.laid_chargepark_ramp_happens)] W from h)
 intro g n f hg
 unfold aP at hg
 split at hg
 ·simp only [Option.some.injEq,Prod.mk.injEq] at hg
  obtain ⟨rfl,rfl⟩:=hg
  refine ⟨h2 (by decide),fun j hj=>?_⟩
  rw [h1 j]
  match j,hj with
  |0,_=>rfl
  |1,_=>rfl
  |2,_=>rfl
  |3,_=>rfl
  |4,_=>rfl
  |5,_=>rfl
  |6,_=>rfl
  |7,_=>rfl
 ·cases hg
theorem Kw {H:Type}{enc:TypeId×Value→H}{P:Program}{w:World}{base:Nat}{spare:Nat→Bool}{held:Bool}:∀ {ts:List TypeId}{vs:List Value}{ds:List (DataW H)}{ps:List MemPlace},DataW.TrodAll enc P w base spare held ts vs ds ps→ds.length=ts.length
 | [],[],[],_,_=>rfl
 | [],_::_,_,_,h=>by cases h
 | [],[],_::_,_,h=>by cases h
 |_::_,[],_,_,h=>by cases h
 |_::_,_::_,[],_,h=>by cases h
 |_::_,_::_,_::_,_,h=>by
  obtain ⟨_,_,_,h2,_⟩:=h
  simp [Kw h2]
noncomputable def laidWorld (os:Os):World:=
 { World.holding Tryz.prog os ⟨#[],#[],[]⟩ with heap:=(World.holding Tryz.prog os ⟨#[],#[],[]⟩).heap.modify 0 fun
   | .cells _ t frozen=> .cells #[.int .i64 1,.int .i64 1,.int .i64 1,.int .i64 0,.int .i64 2,.int .i64 2,.int .i64 3,.int .i64 3] t frozen
   |o=>o}
theorem ajL {cs:List Cd}{os:List ByteArray}{ks:List Ko}{gs:List Ch}{bs:List Ba}(h1:Uz (.sl dW) cs) (h2:Uz (.sl .str) os) (h3:Uz (.sl eu) ks) (h4:Uz (.sl dQ) gs) (h5:Uz (.sl eG) bs):nmR (gB cs os ks gs bs):=by
 intro w hw
 have key:∀n:Nat,n≤maxLen→(n:Int)≤9223372036854775807:=fun n h=>by
  unfold maxLen at h
  omega
 refine key _ ?_
 unfold gB at hw
 simp only [List.mem_append,List.mem_map] at hw
 rcases hw with (((⟨x,hx,rfl⟩ |hx) |⟨x,hx,rfl⟩) |⟨x,hx,rfl⟩) |⟨x,hx,rfl⟩
 ·exact (h1.2 x hx).1
 ·exact h2.2 w hx
 ·exact (h3.2 x hx).1
 ·exact (h4.2 x hx).1
 ·exact (h5.2 x hx).1
end Go.Proofs.YtlihnbimgclogaaGreatDoor
namespace Go.Proofs.YtlihnbimgclogaaGreatDoor
open Go.Sx Go.ChangeShapes Go.WideShapes Go.ChangeAt Go.RowKit
namespace ControlLeases
set_option maxRecDepth 100000 in
theorem opened (ls:List (List LV)) (h:FW Tryz.prog 8 Tryz.f8.params.toList ls):(azr (U7 Tryz.prog Tryz.f8.params.toList ls)).all (fun x=>x=.v (.bool true)):=by
 rw [Tryz.params8] at h⊢
 simp only [FW] at h
 obtain ⟨l0,_,rfl,h0,l1,_,rfl,h1,l2,_,rfl,h2,l3,_,rfl,h3,l4,_,rfl,h4,l5,_,rfl,h5,rfl⟩:=h
 obtain ⟨d0,rfl,w0⟩:=BL (ty:=(.pair (.sl dW) (.pair (.sl .str) (.pair (.sl eu) (.pair (.sl dQ) (.sl eG)))))) (by kernel_rfl) h0
 obtain ⟨d1,rfl,w1⟩:=BL (ty:=(.sl jL)) (by kernel_rfl) h1
 obtain ⟨d2,rfl,w2⟩:=BL (ty:=(.sl FQ)) (by kernel_rfl) h2
 obtain ⟨d3,rfl,w3⟩:=BL (ty:=(.sl rE)) (by kernel_rfl) h3
 obtain ⟨d4,rfl,w4⟩:=BL (ty:=(.int .i64)) (by kernel_rfl) h4
 obtain ⟨d5,rfl,w5⟩:=BL (ty:=(.int .i64)) (by kernel_rfl) h5
 simp only [U7,pLV,Tryz.underlying31,Tryz.underlying29,Tryz.underlying30,Tryz.underlying28,Tryz.underlying3]
 refine ada (t':=T.req (nmR (gB d0.1 d0.2.1 d0.2.2.1 d0.2.2.2.1 d0.2.2.2.2)) (T.ok (LV.v (Value.bool true)))) (by kernel_rfl) ?_
 exact ⟨(ajL w0.1 w0.2.1 w0.2.2.1 w0.2.2.2.1 w0.2.2.2.2),rfl⟩
set_option maxRecDepth 100000 in
theorem contract (H:Type) (enc:TypeId×Value→H) (W:World) (base:Nat) (args:Array Value) (ds gs:List (DataW H)) (before:List MemPlace)
  (hval:∀(j:Nat) t v,Tryz.f8.params[j]? =some t→args[j]? =some v→Value.okWide Tryz.prog W .any base t v)
  (hW:DataW.Whole enc Tryz.prog Tryz.f8.params.toList Rows.controlLeasesSpec.vars false W args.toList ds gs before) (hL:laidMetH Tryz.prog Rows.controlLeasesRow.laid W):
  Calls Tryz.prog 8 args W fun e W'=>∃v,e=.returned v∧Rows.controlLeasesSpec.post enc Tryz.prog Tryz.f8 false true false false W args v W':=by
 refine OD (m:=8) (tb:=4) aBB laidOut (by kernel_rfl) (by kernel_rfl) Tryz.underlying4 rfl ?_ (by kernel_rfl) opened (ahp hL) hval hW
 obtain ⟨p,q,hA,_⟩:=hW
 have hl:=Kw hA
 rw [Tryz.params8] at hl
 match ds,hl with
 | [_,_,_,_,_,_],_=>exact ⟨rfl,rfl,rfl⟩
theorem laid_met (os:Os):laidMet Tryz.prog Rows.controlLeasesRow.laid ((laidWorld os).forCall (fun _ _=>0) ⟨#[],#[.agg #[.slice none 0 0,.slice none 0 0,.slice none 0 0,.slice none 0 0,.slice none 0 0],.slice none 0 0,.slice none 0 0,.slice none 0 0,.int .i64 0,.int .i64 0],[]⟩).memory:=
 laidMet_of_run' 8 (by kernel_rfl) (by kernel_rfl)
theorem reads (os:Os) {H:Type}(enc:TypeId×Value→H):∃places,DataW.whole enc Tryz.prog ((laidWorld os).forCall (fun _ _=>0) ⟨#[],#[.agg #[.slice none 0 0,.slice none 0 0,.slice none 0 0,.slice none 0 0,.slice none 0 0],.slice none 0 0,.slice none 0 0,.slice none 0 0,.int .i64 0,.int .i64 0],[]⟩).memory Tryz.f8.params.toList Rows.controlLeasesSpec.vars false #[.agg #[.slice none 0 0,.slice none 0 0,.slice none 0 0,.slice none 0 0,.slice none 0 0],.slice none 0 0,.slice none 0 0,.slice none 0 0,.int .i64 0,.int .i64 0].toList 8=some ([.agg [.nil,.nil,.nil,.nil,.nil],.nil,.nil,.nil,.lit (.int .i64 0),.lit (.int .i64 0)],[],places):=
 ⟨[],by kernel_rfl⟩
set_option maxRecDepth 100000 in
theorem lifted (os:Os) (started:os.Started) (H:Type) (enc:TypeId×Value→H) (F:Stop.Interp):
  ReturnsInHanded {} Tryz.checked os 8 .any ((OpenSpec.ofChange Rows.controlLeasesSpec).preRow enc Tryz.prog Tryz.f8 Rows.controlLeasesRow.domain false Rows.controlLeasesRow.laid) (((OpenSpec.ofChange Rows.controlLeasesSpec).at F).post enc Tryz.prog Tryz.f8 false true false false):=by
 obtain ⟨places,hx⟩:=reads os enc
 refine returnsInHanded_of_row (C:=Tryz.checked) (s:=OpenSpec.ofChange Rows.controlLeasesSpec) own started (by kernel_rfl) Tryz.func8
  (witness_row_at (enc:=enc) (C:=Tryz.checked) false (laidWorld os) #[.agg #[.slice none 0 0,.slice none 0 0,.slice none 0 0,.slice none 0 0,.slice none 0 0],.slice none 0 0,.slice none 0 0,.slice none 0 0,.int .i64 0,.int .i64 0] rfl (by kernel_rfl) (by kernel_rfl) (by kernel_rfl)
   (OpenSpec.preRow_of_cond 8 hx (by kernel_rfl) (fun k hk=>by cases hk) (by kernel_rfl) (laid_met os))) ?_
 intro W base args ds gs before hval hW _ _ _ hL _ _
 exact contract H enc W base args ds gs before hval hW hL
theorem said:Rows.ControlLeasesSaid:=
 OpenClaim.holds_of_cond 8 Tryz.f8 rfl rfl rfl rfl rfl rfl rfl ⟨rfl,rfl,rfl,rfl,rfl⟩ rfl rfl rfl rfl rfl (by kernel_rfl) Tryz.func8 (by kernel_rfl)
  (of_decide_eq_true (by kernel_rfl)) (by unfold Func.isWrapper;first|(rw [if_pos (by decide+kernel)];kernel_rfl) |(rw [if_neg (by decide+kernel)];exact ⟨rfl,rfl⟩))
  (fun os started H enc _ F=>by rw [OpenClaim.pre_eq_preRow];exact lifted os started H enc F)
theorem plain (f:FuncId) (fn:Func) (hf:Tryz.pinned.checked.prog.funcNamed "chargepark/chargeparklaw25.ControlLeases"=some f) (hfn:Tryz.pinned.checked.prog.funcs[f]? =some fn):
  false=Tryz.pinned.checked.prog.looks []∧∀(j:Nat) t,fn.params[j]? =some t→Tryz.pinned.checked.prog.wantsStandIn t=false:=by
 obtain rfl:f=8:=Option.some.inj ((show Tryz.prog.funcNamed "chargepark/chargeparklaw25.ControlLeases"=some 8 by kernel_rfl).symm.trans hf) |>.symm
 obtain rfl:fn=Tryz.f8:=(Option.some.inj (Tryz.func8.symm.trans hfn)).symm
 refine ⟨by kernel_rfl,fun j t ht=>?_⟩
 have h:Tryz.f8.params.toList.all (fun t=>!Tryz.prog.wantsStandIn t)=true:=by kernel_rfl
 have:=List.all_eq_true.1 h t (by simpa using Array.mem_of_getElem? ht)
 show Tryz.prog.wantsStandIn t=false
 simpa using this
theorem card:Rows.ControlLeasesCardSaid:=
 Claim7.holds_tied_plain_at .later [] _ _ _ _ said (fun _ h=>by cases h) (by kernel_rfl) (fun _ h=>by cases h) controlLeases_row_tie rfl ⟨rfl,rfl⟩ (by kernel_rfl) rfl plain (by kernel_rfl)
end ControlLeases
theorem controlLeases_card:Rows.ControlLeasesCardSaid:=ControlLeases.card
end Go.Proofs.YtlihnbimgclogaaGreatDoor
