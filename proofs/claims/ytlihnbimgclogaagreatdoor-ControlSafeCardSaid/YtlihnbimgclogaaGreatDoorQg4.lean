/- ControlSafe returns true for all arguments: what may be alive exceeds no limit after the new leases were granted, in this tick and in any later one, if it exceeded none before. Conditions: none; the table ramp.happens holds what its text says. -/
import Derived.Test.YtlihnbimgclogaaGreatDoorQg3
namespace Go.Proofs.YtlihnbimgclogaaGreatDoor
open Go.Sx
theorem aor:bn Tryz.prog aS (AN 0) (.loop CB) FZ.lp:=bQ.snd Yj XZ (aU (Γ:=JB) (K:=fE) (L:=aC) Np aG CB (fun b hb=>by rw [show aB CB=[] by kernel_rfl] at hb;cases hb)) (fun s=>by kernel_rfl)
theorem apM (s:jL) (hE:Xf s):∃s',Om s'∧amH (arL s) s' (iK s):=bQ.fin Yj XZ s hE
theorem apL (s:jL) (hE:Xf s):(iK s).out=s.out++s.l:=by
 have hk:=bQ.uf Yj XZ (fun s=>s.out++(s.l.drop s.i.toNat)) (fun s hI=>by
  obtain ⟨h0,h1,h2,h3,h4⟩:=hI
  show bP _ _ (acS s)
  unfold acS Ua
  dsimp only [T.rd,T.rl]
  refine au (fun c1=>?_) (fun c1=>?_)
  ·have c1:s.i<s.n:=by simpa using c1
   rw [aN (x:=s.i+1) (by omega) (by omega)]
   show _++_=_++_
   simp only
   rw [(vz h0 (show s.i<s.l.length by omega)).1]
   simp
  ·rfl) s hE
 obtain ⟨s',hI,q1,q2⟩:=apM s hE
 have q3:(iK s).i=(iK s).n:=q2
 have hn:(iK s).n=(s.l.length:Int):=hE.2.1
 have hl:(iK s).l=s.l:=rfl
 rw [q3,hn,hl,List.drop_eq_nil_of_le (by omega),hE.1] at hk
 simpa using hk
structure kF where
 l:List Ko
 n:Int
 i:Int
 af:List Cd
 aA:List ByteArray
 ai:List Ko
 ak:List Ch
 aJ:List Ba
 out:List ByteArray
def aGb (s:kF):List LV:=[.own 0 0,.os 1 1 0 (List.length s.out),.xl eG s.l,.v (.int .i64 s.n),.v (.int .i64 s.i)]
def aE8 (s:kF):List aW:=[⟨[.xl eu s.af,.xl .str s.aA,.xl eG s.ai,.xl dK s.ak,.xl eP s.aJ],28,.cl,false⟩,⟨[],9,.vec .str s.out,false⟩]
noncomputable def Cm:Code:=((aB (Tryz.f98.body.getD .skip))[2]?).getD .skip
def TY (s:kF):T (Rd kF):=
 .br (decide (s.i<s.n)) (.req (0≤s.i∧s.i<(List.length s.l:Int)) (.req (0+(List.length s.out)=List.length s.out∧((List.length s.out+List.length ([(nR s.l s.i).1]):Nat):Int)*16≤2^47∧((List.length s.out+List.length ([(nR s.l s.i).1]):Nat):Int)<2^62) (.req (0=0∧(List.length s.out+List.length ([(nR s.l s.i).1]))=List.length (s.out++([(nR s.l s.i).1]))) (.ok (.next {s with i:=(IntKind.i64.wrap (s.i+1)),out:=(s.out++([(nR s.l s.i).1]))}))))) (.rl s.out (.ok (.stop (.exit 4) s)))
abbrev acR (s:kF):=(TY s).rd s
def Xe (s:kF):Prop:=s.i=0∧s.n=(s.l.length:Int)∧s.n≤1000∧(s.out.length:Int)≤10000
def Ol (s:kF):Prop:=0≤s.i∧s.i≤s.n∧s.n=(s.l.length:Int)∧s.n≤1000∧(s.out.length:Int)≤10000+s.i
def Qq (s:kF):Nat:=(s.n-s.i).toNat
def amG (x:Ex) (_ s':kF):Prop:=x=.exit 4∧s'.i=s'.n
theorem aCX:∀s,Xe s→Ol s:=by
 intro s h
 obtain ⟨h0,h1,h2,h3⟩:=h
 exact ⟨by omega,by omega,h1,h2,by omega⟩
theorem aym (s:kF) (hI:Ol s):bP (fun s'=>Ol s'∧Qq s'<Qq s) (fun x s'=>amG x s s') (acR s):=by
 unfold acR TY
 dsimp only [T.rd,T.rl]
 obtain ⟨h0,h1,h2,h3,h4⟩:=hI
 refine au (fun c1=>?_) (fun c1=>?_)
 ·have c1:s.i<s.n:=by simpa using c1
  rw [aN (x:=s.i+1) (by omega) (by omega)]
  exact ⟨⟨by simp only;omega,by simp only;omega,h2,h3,by simp only [List.length_append,List.length_cons,List.length_nil];omega⟩,by simp only [Qq];omega⟩
 ·have c1:s.n≤s.i:=by simpa using c1
  exact ⟨rfl,by omega⟩
def FY:bQ kF:=⟨0,80,[1,3,41,42,43],[],aGb,aE8,fun v b=>⟨aQ eG (v.getD 2 .junk),gI (v.getD 3 .junk),gI (v.getD 4 .junk),aQ eu (aV (aO b 0) 0),aQ .str (aV (aO b 0) 1),aQ eG (aV (aO b 0) 2),aQ dK (aV (aO b 0) 3),aQ eP (aV (aO b 0) 4),jd .str (aO b 1)⟩,TY,fun s r=> {r with l:=s.l,n:=s.n,af:=s.af,aA:=s.aA,ai:=s.ai,ak:=s.ak,aJ:=s.aJ},fun s=>s,fun _ s=>s,[.exit 4],Xe,Ol,Qq⟩
abbrev ji:=FY.run
abbrev arK:=FY.jU
abbrev aAR:=FY.q
theorem axo (s:kF) (hI:Ol s):(TY s).all (fun _=>True):=by
 refine ⟨fun c1=>⟨?_,?_,?_,trivial⟩,fun c1=>⟨⟨rfl,rfl⟩,trivial⟩⟩
 all_goals ((obtain ⟨h0,h1,h2,h3,h4⟩:=hI;(try simp only [decide_eq_true_eq] at c1);first|omega|(refine ⟨by omega,?_,?_⟩<;>simp only [List.length_cons,List.length_nil]<;>omega) |(simp only [List.length_append,List.length_cons,List.length_nil];omega) |exact ⟨rfl,by simp⟩ |exact ⟨rfl,rfl⟩))
theorem Yi:FY.Ok:=⟨fun s=>by kernel_rfl,fun s=>by kernel_rfl,fun s=>rfl,fun s t r=>rfl,fun s=>rfl,fun s=>by kernel_rfl⟩
theorem XY:FY.Pf (amG):=⟨aCX,fun _ _=>rfl,aym,axo⟩
theorem aoq:bn Tryz.prog aS (AN 0) (.loop Cm) FY.lp:=bQ.snd Yi XY (aU (Γ:=JB) (K:=fE) (L:=aC) Np aG Cm (fun b hb=>by rw [show aB Cm=[] by kernel_rfl] at hb;cases hb)) (fun s=>by kernel_rfl)
theorem apK (s:kF) (hE:Xe s):∃s',Ol s'∧amG (arK s) s' (ji s):=bQ.fin Yi XY s hE
theorem apJ (s:kF) (hE:Xe s):(ji s).out=s.out++s.l.map (·.1):=by
 have hk:=bQ.uf Yi XY (fun s=>s.out++(s.l.drop s.i.toNat).map (·.1)) (fun s hI=>by
  obtain ⟨h0,h1,h2,h3,h4⟩:=hI
  show bP _ _ (acR s)
  unfold acR TY
  dsimp only [T.rd,T.rl]
  refine au (fun c1=>?_) (fun c1=>?_)
  ·have c1:s.i<s.n:=by simpa using c1
   rw [aN (x:=s.i+1) (by omega) (by omega)]
   show _++_=_++_
   simp only
   rw [(JC h0 (show s.i<s.l.length by omega)).1]
   simp
  ·rfl) s hE
 obtain ⟨s',hI,q1,q2⟩:=apK s hE
 have q3:(ji s).i=(ji s).n:=q2
 have hn:(ji s).n=(s.l.length:Int):=hE.2.1
 have hl:(ji s).l=s.l:=rfl
 rw [q3,hn,hl,List.drop_eq_nil_of_le (by omega),hE.1] at hk
 simpa using hk
structure lu where
 l:List Ch
 n:Int
 i:Int
 af:List Cd
 aA:List ByteArray
 ai:List Ko
 ak:List Ch
 aJ:List Ba
 out:List ByteArray
def aGa (s:lu):List LV:=[.own 0 0,.os 1 1 0 (List.length s.out),.xl dK s.l,.v (.int .i64 s.n),.v (.int .i64 s.i)]
def aE7 (s:lu):List aW:=[⟨[.xl eu s.af,.xl .str s.aA,.xl eG s.ai,.xl dK s.ak,.xl eP s.aJ],28,.cl,false⟩,⟨[],9,.vec .str s.out,false⟩]
noncomputable def Cj:Code:=((aB (Tryz.f98.body.getD .skip))[3]?).getD .skip
def TW (s:lu):T (Rd lu):=
 .br (decide (s.i<s.n)) (.req (0≤s.i∧s.i<(List.length s.l:Int)) (.req (0+(List.length s.out)=List.length s.out∧((List.length s.out+List.length ([(bD s.l s.i).1]):Nat):Int)*16≤2^47∧((List.length s.out+List.length ([(bD s.l s.i).1]):Nat):Int)<2^62) (.req (0=0∧(List.length s.out+List.length ([(bD s.l s.i).1]))=List.length (s.out++([(bD s.l s.i).1]))) (.ok (.next {s with i:=(IntKind.i64.wrap (s.i+1)),out:=(s.out++([(bD s.l s.i).1]))}))))) (.rl s.out (.ok (.stop (.exit 6) s)))
abbrev acQ (s:lu):=(TW s).rd s
def Xd (s:lu):Prop:=s.i=0∧s.n=(s.l.length:Int)∧s.n≤1000∧(s.out.length:Int)≤10000
def Oj (s:lu):Prop:=0≤s.i∧s.i≤s.n∧s.n=(s.l.length:Int)∧s.n≤1000∧(s.out.length:Int)≤10000+s.i
def Qp (s:lu):Nat:=(s.n-s.i).toNat
def amF (x:Ex) (_ s':lu):Prop:=x=.exit 6∧s'.i=s'.n
theorem aCW:∀s,Xd s→Oj s:=by
 intro s h
 obtain ⟨h0,h1,h2,h3⟩:=h
 exact ⟨by omega,by omega,h1,h2,by omega⟩
theorem ayl (s:lu) (hI:Oj s):bP (fun s'=>Oj s'∧Qp s'<Qp s) (fun x s'=>amF x s s') (acQ s):=by
 unfold acQ TW
 dsimp only [T.rd,T.rl]
 obtain ⟨h0,h1,h2,h3,h4⟩:=hI
 refine au (fun c1=>?_) (fun c1=>?_)
 ·have c1:s.i<s.n:=by simpa using c1
  rw [aN (x:=s.i+1) (by omega) (by omega)]
  exact ⟨⟨by simp only;omega,by simp only;omega,h2,h3,by simp only [List.length_append,List.length_cons,List.length_nil];omega⟩,by simp only [Qp];omega⟩
 ·have c1:s.n≤s.i:=by simpa using c1
  exact ⟨rfl,by omega⟩
def FX:bQ lu:=⟨0,80,[1,3,54,55,56],[],aGa,aE7,fun v b=>⟨aQ dK (v.getD 2 .junk),gI (v.getD 3 .junk),gI (v.getD 4 .junk),aQ eu (aV (aO b 0) 0),aQ .str (aV (aO b 0) 1),aQ eG (aV (aO b 0) 2),aQ dK (aV (aO b 0) 3),aQ eP (aV (aO b 0) 4),jd .str (aO b 1)⟩,TW,fun s r=> {r with l:=s.l,n:=s.n,af:=s.af,aA:=s.aA,ai:=s.ai,ak:=s.ak,aJ:=s.aJ},fun s=>s,fun _ s=>s,[.exit 6],Xd,Oj,Qp⟩
abbrev kK:=FX.run
abbrev arJ:=FX.jU
abbrev aAQ:=FX.q
theorem axn (s:lu) (hI:Oj s):(TW s).all (fun _=>True):=by
 refine ⟨fun c1=>⟨?_,?_,?_,trivial⟩,fun c1=>⟨⟨rfl,rfl⟩,trivial⟩⟩
 all_goals ((obtain ⟨h0,h1,h2,h3,h4⟩:=hI;(try simp only [decide_eq_true_eq] at c1);first|omega|(refine ⟨by omega,?_,?_⟩<;>simp only [List.length_cons,List.length_nil]<;>omega) |(simp only [List.length_append,List.length_cons,List.length_nil];omega) |exact ⟨rfl,by simp⟩ |exact ⟨rfl,rfl⟩))
theorem Yh:FX.Ok:=⟨fun s=>by kernel_rfl,fun s=>by kernel_rfl,fun s=>rfl,fun s t r=>rfl,fun s=>rfl,fun s=>by kernel_rfl⟩
theorem XW:FX.Pf (amF):=⟨aCW,fun _ _=>rfl,ayl,axn⟩
theorem aop:bn Tryz.prog aS (AN 0) (.loop Cj) FX.lp:=bQ.snd Yh XW (aU (Γ:=JB) (K:=fE) (L:=aC) Np aG Cj (fun b hb=>by rw [show aB Cj=[] by kernel_rfl] at hb;cases hb)) (fun s=>by kernel_rfl)
theorem apI (s:lu) (hE:Xd s):∃s',Oj s'∧amF (arJ s) s' (kK s):=bQ.fin Yh XW s hE
theorem apH (s:lu) (hE:Xd s):(kK s).out=s.out++s.l.map (·.1):=by
 have hk:=bQ.uf Yh XW (fun s=>s.out++(s.l.drop s.i.toNat).map (·.1)) (fun s hI=>by
  obtain ⟨h0,h1,h2,h3,h4⟩:=hI
  show bP _ _ (acQ s)
  unfold acQ TW
  dsimp only [T.rd,T.rl]
  refine au (fun c1=>?_) (fun c1=>?_)
  ·have c1:s.i<s.n:=by simpa using c1
   rw [aN (x:=s.i+1) (by omega) (by omega)]
   show _++_=_++_
   simp only
   rw [(Vr h0 (show s.i<s.l.length by omega)).1]
   simp
  ·rfl) s hE
 obtain ⟨s',hI,q1,q2⟩:=apI s hE
 have q3:(kK s).i=(kK s).n:=q2
 have hn:(kK s).n=(s.l.length:Int):=hE.2.1
 have hl:(kK s).l=s.l:=rfl
 rw [q3,hn,hl,List.drop_eq_nil_of_le (by omega),hE.1] at hk
 simpa using hk
structure nI where
 l:List Ba
 n:Int
 i:Int
 out:List ByteArray
def aF9 (s:nI):List LV:=[.os 0 1 0 (List.length s.out),.xl eP s.l,.v (.int .i64 s.n),.v (.int .i64 s.i)]
def aE6 (s:nI):List aW:=[⟨[],9,.vec .str s.out,false⟩]
noncomputable def Ci:Code:=((aB (Tryz.f98.body.getD .skip))[4]?).getD .skip
def TV (s:nI):T (Rd nI):=
 .br (decide (s.i<s.n)) (.req (0≤s.i∧s.i<(List.length s.l:Int)) (.req (0+(List.length s.out)=List.length s.out∧((List.length s.out+List.length ([(DL s.l s.i).1]):Nat):Int)*16≤2^47∧((List.length s.out+List.length ([(DL s.l s.i).1]):Nat):Int)<2^62) (.req (0=0∧(List.length s.out+List.length ([(DL s.l s.i).1]))=List.length (s.out++([(DL s.l s.i).1]))) (.ok (.next {s with i:=(IntKind.i64.wrap (s.i+1)),out:=(s.out++([(DL s.l s.i).1]))}))))) (.rl s.out (.ok (.stop (.exit 8) s)))
abbrev acP (s:nI):=(TV s).rd s
def Xc (s:nI):Prop:=s.i=0∧s.n=(s.l.length:Int)∧s.n≤1000∧(s.out.length:Int)≤10000
def Oi (s:nI):Prop:=0≤s.i∧s.i≤s.n∧s.n=(s.l.length:Int)∧s.n≤1000∧(s.out.length:Int)≤10000+s.i
def Qo (s:nI):Nat:=(s.n-s.i).toNat
def amD (x:Ex) (_ s':nI):Prop:=x=.exit 8∧s'.i=s'.n
theorem aCV:∀s,Xc s→Oi s:=by
 intro s h
 obtain ⟨h0,h1,h2,h3⟩:=h
 exact ⟨by omega,by omega,h1,h2,by omega⟩
theorem ayk (s:nI) (hI:Oi s):bP (fun s'=>Oi s'∧Qo s'<Qo s) (fun x s'=>amD x s s') (acP s):=by
 unfold acP TV
 dsimp only [T.rd,T.rl]
 obtain ⟨h0,h1,h2,h3,h4⟩:=hI
 refine au (fun c1=>?_) (fun c1=>?_)
 ·have c1:s.i<s.n:=by simpa using c1
  rw [aN (x:=s.i+1) (by omega) (by omega)]
  exact ⟨⟨by simp only;omega,by simp only;omega,h2,h3,by simp only [List.length_append,List.length_cons,List.length_nil];omega⟩,by simp only [Qo];omega⟩
 ·have c1:s.n≤s.i:=by simpa using c1
  exact ⟨rfl,by omega⟩
def FW:bQ nI:=⟨0,80,[3,67,68,69],[],aF9,aE6,fun v b=>⟨aQ eP (v.getD 1 .junk),gI (v.getD 2 .junk),gI (v.getD 3 .junk),jd .str (aO b 0)⟩,TV,fun s r=> {r with l:=s.l,n:=s.n},fun s=>s,fun _ s=>s,[.exit 8],Xc,Oi,Qo⟩
abbrev mX:=FW.run
abbrev arI:=FW.jU
abbrev aAP:=FW.q
theorem axm (s:nI) (hI:Oi s):(TV s).all (fun _=>True):=by
 refine ⟨fun c1=>⟨?_,?_,?_,trivial⟩,fun c1=>⟨⟨rfl,rfl⟩,trivial⟩⟩
 all_goals ((obtain ⟨h0,h1,h2,h3,h4⟩:=hI;(try simp only [decide_eq_true_eq] at c1);first|omega|(refine ⟨by omega,?_,?_⟩<;>simp only [List.length_cons,List.length_nil]<;>omega) |(simp only [List.length_append,List.length_cons,List.length_nil];omega) |exact ⟨rfl,by simp⟩ |exact ⟨rfl,rfl⟩))
theorem Yg:FW.Ok:=⟨fun s=>by kernel_rfl,fun s=>by kernel_rfl,fun s=>rfl,fun s t r=>rfl,fun s=>rfl,fun s=>by kernel_rfl⟩
theorem XV:FW.Pf (amD):=⟨aCV,fun _ _=>rfl,ayk,axm⟩
theorem aoo:bn Tryz.prog aS (AN 0) (.loop Ci) FW.lp:=bQ.snd Yg XV (aU (Γ:=JB) (K:=fE) (L:=aC) Np aG Ci (fun b hb=>by rw [show aB Ci=[] by kernel_rfl] at hb;cases hb)) (fun s=>by kernel_rfl)
theorem apG (s:nI) (hE:Xc s):∃s',Oi s'∧amD (arI s) s' (mX s):=bQ.fin Yg XV s hE
theorem apF (s:nI) (hE:Xc s):(mX s).out=s.out++s.l.map (·.1):=by
 have hk:=bQ.uf Yg XV (fun s=>s.out++(s.l.drop s.i.toNat).map (·.1)) (fun s hI=>by
  obtain ⟨h0,h1,h2,h3,h4⟩:=hI
  show bP _ _ (acP s)
  unfold acP TV
  dsimp only [T.rd,T.rl]
  refine au (fun c1=>?_) (fun c1=>?_)
  ·have c1:s.i<s.n:=by simpa using c1
   rw [aN (x:=s.i+1) (by omega) (by omega)]
   show _++_=_++_
   simp only
   rw [(Vu h0 (show s.i<s.l.length by omega)).1]
   simp
  ·rfl) s hE
 obtain ⟨s',hI,q1,q2⟩:=apG s hE
 have q3:(mX s).i=(mX s).n:=q2
 have hn:(mX s).n=(s.l.length:Int):=hE.2.1
 have hl:(mX s).l=s.l:=rfl
 rw [q3,hn,hl,List.drop_eq_nil_of_le (by omega),hE.1] at hk
 simpa using hk
def aej:List LV→T LV
 | [.agg [.xl (.pair .str (.pair (.int .i64) (.pair (.int .i64) (.pair (.int .i64) (.pair (.pair (.int .i64) (.int .i64)) (.pair (.int .i64) (.pair (.int .i64) (.pair (.int .i64) (.pair (.int .i64) (.int .i64)))))))))) cs,.xl (.str) os,.xl (.pair .str (.pair (.int .i64) (.pair (.int .i64) (.int .i64)))) ks,.xl (.pair .str (.pair (.int .i64) (.pair (.int .i64) (.pair (.int .i64) (.pair (.int .i64) (.pair (.int .i64) (.pair (.int .i64) (.int .i64)))))))) gs,.xl (.pair .str (.int .i64)) bs]]=> .req ((List.length cs:Int)≤1000∧(List.length os:Int)≤1000∧(List.length ks:Int)≤1000∧(List.length gs:Int)≤1000∧(List.length bs:Int)≤1000) (.ok (.xl .str (gY cs os ks gs bs)))
 |_=> .no
noncomputable def ZR:List LV→T LV:=gZ Tryz.prog Tryz.f98.params.toList aej
theorem aqh (cs:List Cd) (os:List ByteArray) (ks:List Ko) (gs:List Ch) (bs:List Ba):bW Tryz.prog aS (JB) fE (fun i=>if i=3 then F5.lp else if i=8 then FZ.lp else if i=13 then FY.lp else if i=18 then FX.lp else if i=23 then FW.lp else aC i) Tryz.f98 [.agg [.xl eu cs,.xl .str os,.xl eG ks,.xl dK gs,.xl eP bs]]=.req (0=0∧0=List.length ([]:List ByteArray)) (.req (aAT (⟨cs,(List.length cs:Int),(0:Int),cs,os,ks,gs,bs,([]:List ByteArray)⟩:jc)) (.rl (ig (⟨cs,(List.length cs:Int),(0:Int),cs,os,ks,gs,bs,([]:List ByteArray)⟩:jc)).out (.req (aAS (⟨os,(List.length os:Int),(0:Int),cs,os,ks,gs,bs,(ig (⟨cs,(List.length cs:Int),(0:Int),cs,os,ks,gs,bs,([]:List ByteArray)⟩:jc)).out⟩:jL)) (.rl (iK (⟨os,(List.length os:Int),(0:Int),cs,os,ks,gs,bs,(ig (⟨cs,(List.length cs:Int),(0:Int),cs,os,ks,gs,bs,([]:List ByteArray)⟩:jc)).out⟩:jL)).out (.req (aAR (⟨ks,(List.length ks:Int),(0:Int),cs,os,ks,gs,bs,(iK (⟨os,(List.length os:Int),(0:Int),cs,os,ks,gs,bs,(ig (⟨cs,(List.length cs:Int),(0:Int),cs,os,ks,gs,bs,([]:List ByteArray)⟩:jc)).out⟩:jL)).out⟩:kF)) (.rl (ji (⟨ks,(List.length ks:Int),(0:Int),cs,os,ks,gs,bs,(iK (⟨os,(List.length os:Int),(0:Int),cs,os,ks,gs,bs,(ig (⟨cs,(List.length cs:Int),(0:Int),cs,os,ks,gs,bs,([]:List ByteArray)⟩:jc)).out⟩:jL)).out⟩:kF)).out (.req (aAQ (⟨gs,(List.length gs:Int),(0:Int),cs,os,ks,gs,bs,(ji (⟨ks,(List.length ks:Int),(0:Int),cs,os,ks,gs,bs,(iK (⟨os,(List.length os:Int),(0:Int),cs,os,ks,gs,bs,(ig (⟨cs,(List.length cs:Int),(0:Int),cs,os,ks,gs,bs,([]:List ByteArray)⟩:jc)).out⟩:jL)).out⟩:kF)).out⟩:lu)) (.rl (kK (⟨gs,(List.length gs:Int),(0:Int),cs,os,ks,gs,bs,(ji (⟨ks,(List.length ks:Int),(0:Int),cs,os,ks,gs,bs,(iK (⟨os,(List.length os:Int),(0:Int),cs,os,ks,gs,bs,(ig (⟨cs,(List.length cs:Int),(0:Int),cs,os,ks,gs,bs,([]:List ByteArray)⟩:jc)).out⟩:jL)).out⟩:kF)).out⟩:lu)).out (.req (aAP (⟨bs,(List.length bs:Int),(0:Int),(kK (⟨gs,(List.length gs:Int),(0:Int),cs,os,ks,gs,bs,(ji (⟨ks,(List.length ks:Int),(0:Int),cs,os,ks,gs,bs,(iK (⟨os,(List.length os:Int),(0:Int),cs,os,ks,gs,bs,(ig (⟨cs,(List.length cs:Int),(0:Int),cs,os,ks,gs,bs,([]:List ByteArray)⟩:jc)).out⟩:jL)).out⟩:kF)).out⟩:lu)).out⟩:nI)) (.req (0+(List.length (mX (⟨bs,(List.length bs:Int),(0:Int),(kK (⟨gs,(List.length gs:Int),(0:Int),cs,os,ks,gs,bs,(ji (⟨ks,(List.length ks:Int),(0:Int),cs,os,ks,gs,bs,(iK (⟨os,(List.length os:Int),(0:Int),cs,os,ks,gs,bs,(ig (⟨cs,(List.length cs:Int),(0:Int),cs,os,ks,gs,bs,([]:List ByteArray)⟩:jc)).out⟩:jL)).out⟩:kF)).out⟩:lu)).out⟩:nI)).out)≤List.length (mX (⟨bs,(List.length bs:Int),(0:Int),(kK (⟨gs,(List.length gs:Int),(0:Int),cs,os,ks,gs,bs,(ji (⟨ks,(List.length ks:Int),(0:Int),cs,os,ks,gs,bs,(iK (⟨os,(List.length os:Int),(0:Int),cs,os,ks,gs,bs,(ig (⟨cs,(List.length cs:Int),(0:Int),cs,os,ks,gs,bs,([]:List ByteArray)⟩:jc)).out⟩:jL)).out⟩:kF)).out⟩:lu)).out⟩:nI)).out) (.ok (.xl .str (((mX (⟨bs,(List.length bs:Int),(0:Int),(kK (⟨gs,(List.length gs:Int),(0:Int),cs,os,ks,gs,bs,(ji (⟨ks,(List.length ks:Int),(0:Int),cs,os,ks,gs,bs,(iK (⟨os,(List.length os:Int),(0:Int),cs,os,ks,gs,bs,(ig (⟨cs,(List.length cs:Int),(0:Int),cs,os,ks,gs,bs,([]:List ByteArray)⟩:jc)).out⟩:jL)).out⟩:kF)).out⟩:lu)).out⟩:nI)).out.drop 0).take (List.length (mX (⟨bs,(List.length bs:Int),(0:Int),(kK (⟨gs,(List.length gs:Int),(0:Int),cs,os,ks,gs,bs,(ji (⟨ks,(List.length ks:Int),(0:Int),cs,os,ks,gs,bs,(iK (⟨os,(List.length os:Int),(0:Int),cs,os,ks,gs,bs,(ig (⟨cs,(List.length cs:Int),(0:Int),cs,os,ks,gs,bs,([]:List ByteArray)⟩:jc)).out⟩:jL)).out⟩:kF)).out⟩:lu)).out⟩:nI)).out)))))))))))))):=by kernel_rfl
theorem av1:Valid Tryz.prog aS 98 ZR:=aI Tryz.func98 rfl Np aG (L:=(fun i=>if i=3 then F5.lp else if i=8 then FZ.lp else if i=13 then FY.lp else if i=18 then FX.lp else if i=23 then FW.lp else aC i)) (fun b hb=>by
 rw [show aB _=[CG,CB,Cm,Cj,Ci] by kernel_rfl] at hb
 simp only [List.mem_cons,List.not_mem_nil,or_false] at hb
 rcases hb with rfl|rfl|rfl|rfl|rfl
 ·exact aos
 ·exact aor
 ·exact aoq
 ·exact aop
 ·exact aoo) (fun args lv h=>by
 unfold aej at h
 split at h
 ·simp only [canL,canX]
  rw [aqh]
  rename_i cs os ks gs bs
  obtain ⟨⟨hc,ho,hk,hg,hb⟩,rfl⟩:=h
  have hE0:Xg ⟨cs,(List.length cs:Int),(0:Int),cs,os,ks,gs,bs,([]:List ByteArray)⟩:=⟨rfl,rfl,hc,by simp only;decide⟩
  have o0:=apN _ hE0
  refine ⟨⟨rfl,rfl⟩,⟨hE0,rfl,rfl⟩,?_⟩
  generalize (ig ⟨cs,(List.length cs:Int),(0:Int),cs,os,ks,gs,bs,([]:List ByteArray)⟩).out=r0 at*
  have o0:r0=([]:List ByteArray)++cs.map (·.1):=o0
  have l0:(List.length r0:Int)≤1000:=by rw [o0];simp only [List.length_append,List.length_map,List.length_nil];omega
  have hE1:Xf ⟨os,(List.length os:Int),(0:Int),cs,os,ks,gs,bs,r0⟩:=⟨rfl,rfl,ho,by simp only;omega⟩
  have o1:=apL _ hE1
  refine ⟨⟨rfl,rfl⟩,⟨hE1,rfl,rfl⟩,?_⟩
  generalize (iK ⟨os,(List.length os:Int),(0:Int),cs,os,ks,gs,bs,r0⟩).out=r1 at*
  have o1:r1=r0++os:=o1
  have l1:(List.length r1:Int)≤2000:=by rw [o1];simp only [List.length_append];omega
  have hE2:Xe ⟨ks,(List.length ks:Int),(0:Int),cs,os,ks,gs,bs,r1⟩:=⟨rfl,rfl,hk,by simp only;omega⟩
  have o2:=apJ _ hE2
  refine ⟨⟨rfl,rfl⟩,⟨hE2,rfl,rfl⟩,?_⟩
  generalize (ji ⟨ks,(List.length ks:Int),(0:Int),cs,os,ks,gs,bs,r1⟩).out=r2 at*
  have o2:r2=r1++ks.map (·.1):=o2
  have l2:(List.length r2:Int)≤3000:=by rw [o2];simp only [List.length_append,List.length_map];omega
  have hE3:Xd ⟨gs,(List.length gs:Int),(0:Int),cs,os,ks,gs,bs,r2⟩:=⟨rfl,rfl,hg,by simp only;omega⟩
  have o3:=apH _ hE3
  refine ⟨⟨rfl,rfl⟩,⟨hE3,rfl,rfl⟩,?_⟩
  generalize (kK ⟨gs,(List.length gs:Int),(0:Int),cs,os,ks,gs,bs,r2⟩).out=r3 at*
  have o3:r3=r2++gs.map (·.1):=o3
  have l3:(List.length r3:Int)≤4000:=by rw [o3];simp only [List.length_append,List.length_map];omega
  have hE4:Xc ⟨bs,(List.length bs:Int),(0:Int),r3⟩:=⟨rfl,rfl,hb,by simp only;omega⟩
  have o4:=apF _ hE4
  refine ⟨⟨rfl,rfl⟩,⟨hE4,rfl,rfl⟩,?_⟩
  generalize (mX ⟨bs,(List.length bs:Int),(0:Int),r3⟩).out=r4 at*
  have o4:r4=r3++bs.map (·.1):=o4
  have l4:(List.length r4:Int)≤5000:=by rw [o4];simp only [List.length_append,List.length_map];omega
  refine ⟨by omega,?_⟩
  show LV.xl _ _=_
  rw [List.drop_zero,List.take_of_length_le (by omega),o4,o3,o2,o1,o0,List.nil_append]
  rfl
 ·cases h)
end Go.Proofs.YtlihnbimgclogaaGreatDoor
namespace Go.Proofs.YtlihnbimgclogaaGreatDoor
open Go.Sx
structure je where
 r:Bool
 l:List Cd
 n:Int
 i:Int
 af:List Cd
 aA:List ByteArray
 ai:List Ko
 ak:List Ch
 aJ:List Ba
def aFJ (s:je):List LV:=[.own 0 0,.v (.bool s.r),.xl eu s.l,.v (.int .i64 s.n),.v (.int .i64 s.i)]
def aEG (s:je):List aW:=[⟨[.xl eu s.af,.xl .str s.aA,.xl eG s.ai,.xl dK s.ak,.xl eP s.aJ],28,.cl,false⟩]
noncomputable def BH:Code:=((aB (Tryz.f100.body.getD .skip))[0]?).getD .skip
def aaH (s:je):T (Rd je):=
 .br (decide (s.i<s.n)) (.req (0≤s.i∧s.i<(List.length s.l:Int)) (.req (0≤s.i) (.br (!(Fb s.i (dY s.l s.i))) (.ok (.stop (.ret) {s with r:=false})) (.ok (.next {s with i:=(IntKind.i64.wrap (s.i+1))}))))) (.ok (.stop (.exit 0) s))
abbrev auB (s:je):=(aaH s).rd s
def KG (s:je) (j:Int):Bool:=Fb j (dY s.l j)
def am9 (s:je):Prop:=s.i=0∧0≤s.n∧s.n≤1000∧s.n=(s.l.length:Int)
def NV (s:je):Prop:=0≤s.i∧s.i≤s.n∧s.n≤1000∧(s.n=(s.l.length:Int))∧∀j:Nat,(j:Int)<s.i→KG s j=true
def P5 (s:je):Nat:=(s.n-s.i).toNat
def amn (x:Ex) (_ s':je):Prop:=(x=.exit 0∧∀j:Nat,(j:Int)<s'.n→KG s' j=true)∨(x=.ret∧s'.r=false∧∃j:Nat,(j:Int)<s'.n∧KG s' j=false)
theorem aBC:∀s,am9 s→NV s:=by
 intro s h
 obtain ⟨h0,h1,h2,h3⟩:=h
 exact ⟨by omega,by omega,h2,h3,fun j hj=>by omega⟩
theorem avG (s:je) (hI:NV s):bP (fun s'=>NV s'∧P5 s'<P5 s) (fun x s'=>amn x s s') (auB s):=by
 unfold auB aaH
 dsimp only [T.rd,T.rl]
 obtain ⟨h0,h1,h2,h3,h4⟩:=hI
 refine au (fun c1=>au (fun c2=>?_) (fun c2=>?_)) (fun c1=>?_)
 ·have c1:s.i<s.n:=by simpa using c1
  refine .inr ⟨rfl,rfl,s.i.toNat,by simp only;omega,?_⟩
  rw [Int.toNat_of_nonneg (by omega)]
  have hg:KG s s.i=false:=by unfold KG;(first|(have c2:(!(Fb s.i (dY s.l s.i)))=false:=c2;simpa using c2) |(have c2:(!(Fb s.i (dY s.l s.i)))=true:=c2;simpa using c2))
  exact hg
 ·have c1:s.i<s.n:=by simpa using c1
  have hg:KG s s.i=true:=by unfold KG;(first|(have c2:(!(Fb s.i (dY s.l s.i)))=false:=c2;simpa using c2) |(have c2:(!(Fb s.i (dY s.l s.i)))=true:=c2;simpa using c2))
  rw [aN (x:=s.i+1) (by omega) (by omega)]
  refine ⟨⟨by simp only;omega,by simp only;omega,h2,h3,fun j hj=>?_⟩,by simp only [P5];omega⟩
  by_cases hji:(j:Int)<s.i
  ·exact h4 j hji
  ·have:(j:Int)=s.i:=by simp only at hj;omega
   rw [this];exact hg
 ·have c1:s.n≤s.i:=by simpa using c1
  exact .inl ⟨rfl,fun j hj=>h4 j (by omega)⟩
def Fp:bQ je:=⟨0,95,[1,2,13,14,15],[],aFJ,aEG,fun v b=>⟨yF (v.getD 1 .junk),aQ eu (v.getD 2 .junk),gI (v.getD 3 .junk),gI (v.getD 4 .junk),aQ eu (aV (aO b 0) 0),aQ .str (aV (aO b 0) 1),aQ eG (aV (aO b 0) 2),aQ dK (aV (aO b 0) 3),aQ eP (aV (aO b 0) 4)⟩,aaH,fun s r=> {r with l:=s.l,n:=s.n,af:=s.af,aA:=s.aA,ai:=s.ai,ak:=s.ak,aJ:=s.aJ},fun s=>s,fun _ s=>s,[.ret,.exit 0],am9,NV,P5⟩
abbrev mV:=Fp.run
abbrev ada:=Fp.jU
abbrev aAq:=Fp.q
theorem awW (s:je) (hI:NV s):(aaH s).all (fun _=>True):=by
 refine ⟨fun c1=>⟨?_,?_,fun _=>trivial,fun _=>trivial⟩,fun _=>trivial⟩
 all_goals ((obtain ⟨h0,h1,h2,h3,h4⟩:=hI;simp at c1;omega))
noncomputable def Ns:Specs:=bf [(126,ZA),(127,vN),(128,ZB)]
theorem Vj:∀g S,Ns g=some S→Valid Tryz.prog aS g S:=aT (l:=[(126,ZA),(127,vN),(128,ZB)]) ⟨avL,O6,avM,trivial⟩
theorem aiB:Fp.Ok:=⟨fun s=>by kernel_rfl,fun s=>by kernel_rfl,fun s=>rfl,fun s t r=>rfl,fun s=>rfl,fun s=>by kernel_rfl⟩
theorem aht:Fp.Pf (amn):=⟨aBC,fun _ _=>rfl,avG,awW⟩
theorem an0:bn Tryz.prog aS (AN 0) (.loop BH) Fp.lp:=bQ.snd aiB aht (aU (Γ:=Ns) (K:=fE) (L:=aC) Vj aG BH (fun b hb=>by rw [show aB BH=[] by kernel_rfl] at hb;cases hb)) (fun s=>by kernel_rfl)
theorem anD (s:je) (hE:am9 s):∃s',NV s'∧amn (ada s) s' (mV s):=bQ.fin aiB aht s hE
structure kC where
 r:Bool
 l:List Ko
 n:Int
 i:Int
 af:List Cd
 aA:List ByteArray
 ai:List Ko
 ak:List Ch
 aJ:List Ba
 cards:List Int
def aFI (s:kC):List LV:=[.own 0 0,.v (.bool s.r),.om 1,.xl eG s.l,.v (.int .i64 s.n),.v (.int .i64 s.i)]
def aEF (s:kC):List aW:=[⟨[.xl eu s.af,.xl .str s.aA,.xl eG s.ai,.xl dK s.ak,.xl eP s.aJ],28,.cl,false⟩,⟨[],183,.st (.int .i64) s.cards,false⟩]
noncomputable def BG:Code:=((aB (Tryz.f100.body.getD .skip))[1]?).getD .skip
def aaG (s:kC):T (Rd kC):=
 .br (decide (s.i<s.n)) (.req (0≤s.i∧s.i<(List.length s.l:Int)) (.br ((!(inB (nR s.l s.i).2.1 (0:Int) (IntKind.i64.wrap ((List.length s.aA:Int)-1)))) ||((!(inB (nR s.l s.i).2.2.1 (1:Int) (9:Int))) ||((!(inB (nR s.l s.i).2.2.2 (1:Int) (1000000:Int))) ||(List.contains s.cards (nR s.l s.i).2.2.2)))) (.ok (.stop (.ret) {s with r:=false})) (.req (List.contains s.cards (nR s.l s.i).2.2.2=false) (.ok (.next {s with i:=(IntKind.i64.wrap (s.i+1)),cards:=(s.cards++[(nR s.l s.i).2.2.2])}))))) (.ok (.stop (.exit 2) s))
abbrev auA (s:kC):=(aaG s).rd s
def KF (s:kC) (j:Int):Bool:=koV s.aA.length (nR s.l j)&&!(((s.l.take j.toNat).map (·.2.2.2)).contains (nR s.l j).2.2.2)
def am8 (s:kC):Prop:=s.i=0∧s.cards=[]∧s.n=(s.l.length:Int)∧s.n≤1000∧(s.aA.length:Int)≤1000
def NU (s:kC):Prop:=0≤s.i∧s.i≤s.n∧s.n=(s.l.length:Int)∧s.n≤1000∧((s.aA.length:Int)≤1000)∧s.cards=(s.l.take s.i.toNat).map (·.2.2.2)∧∀j:Nat,(j:Int)<s.i→KF s j=true
def PZ (s:kC):Nat:=(s.n-s.i).toNat
def amm (x:Ex) (_ s':kC):Prop:=(x=.exit 2∧∀j:Nat,(j:Int)<s'.n→KF s' j=true)∨(x=.ret∧s'.r=false∧∃j:Nat,(j:Int)<s'.n∧KF s' j=false)
theorem aBB:∀s,am8 s→NU s:=by
 intro s h
 obtain ⟨h0,h1,h2,h3,h4⟩:=h
 exact ⟨by omega,by omega,h2,h3,h4,by rw [h0,h1];rfl,fun j hj=>by omega⟩
theorem avF (s:kC) (hI:NU s):bP (fun s'=>NU s'∧PZ s'<PZ s) (fun x s'=>amm x s s') (auA s):=by
 unfold auA aaG
 dsimp only [T.rd,T.rl]
 obtain ⟨h0,h1,h2,h3,h4,h5,h6⟩:=hI
 refine au (fun c1=>au (fun c2=>?_) (fun c2=>?_)) (fun c1=>?_)
 ·have c1:s.i<s.n:=by simpa using c1
  refine .inr ⟨rfl,rfl,s.i.toNat,by simp only;omega,?_⟩
  rw [Int.toNat_of_nonneg h0]
  have hg:KF s s.i=false:=by
   unfold KF
   (rw [aN (by omega) (by omega),h5] at c2;unfold koV;revert c2;generalize inB (nR s.l s.i).2.1 _ _=a;generalize inB (nR s.l s.i).2.2.1 _ _=b;generalize inB (nR s.l s.i).2.2.2 _ _=c;generalize List.contains (α:=Int) _ _=d;cases a<;>cases b<;>cases c<;>cases d<;>simp)
  exact hg
 ·have c1:s.i<s.n:=by simpa using c1
  have hg:KF s s.i=true:=by
   unfold KF
   (rw [aN (by omega) (by omega),h5] at c2;unfold koV;revert c2;generalize inB (nR s.l s.i).2.1 _ _=a;generalize inB (nR s.l s.i).2.2.1 _ _=b;generalize inB (nR s.l s.i).2.2.2 _ _=c;generalize List.contains (α:=Int) _ _=d;cases a<;>cases b<;>cases c<;>cases d<;>simp)
  rw [aN (x:=s.i+1) (by omega) (by omega)]
  refine ⟨⟨by simp only;omega,by simp only;omega,h2,h3,h4,?_,fun j hj=>?_⟩,by simp only [PZ];omega⟩
  ·simp only
   rw [(JC h0 (show s.i<s.l.length by omega)).2,h5]
   try rw [List.map_append]
   try rfl
  ·by_cases hji:(j:Int)<s.i
   ·exact h6 j hji
   ·have:(j:Int)=s.i:=by simp only at hj;omega
    rw [this];exact hg
 ·have c1:s.n≤s.i:=by simpa using c1
  exact .inl ⟨rfl,fun j hj=>h6 j (by omega)⟩
def Fj:bQ kC:=⟨0,95,[1,2,5,27,28,29],[],aFI,aEF,fun v b=>⟨yF (v.getD 1 .junk),aQ eG (v.getD 3 .junk),gI (v.getD 4 .junk),gI (v.getD 5 .junk),aQ eu (aV (aO b 0) 0),aQ .str (aV (aO b 0) 1),aQ eG (aV (aO b 0) 2),aQ dK (aV (aO b 0) 3),aQ eP (aV (aO b 0) 4),gSe (.int .i64) (aO b 1)⟩,aaG,fun s r=> {r with l:=s.l,n:=s.n,af:=s.af,aA:=s.aA,ai:=s.ai,ak:=s.ak,aJ:=s.aJ},fun s=>s,fun _ s=>s,[.ret,.exit 2],am8,NU,PZ⟩
abbrev rJ:=Fj.run
abbrev ac9:=Fj.jU
abbrev aAp:=Fj.q
theorem awV (s:kC) (hI:NU s):(aaG s).all (fun _=>True):=by
 refine ⟨fun c1=>⟨?_,fun _=>trivial,fun c2=>⟨?_,trivial⟩⟩,fun _=>trivial⟩
 all_goals ((obtain ⟨h0,h1,h2,h3,h4,h5,h6⟩:=hI;first|(simp at c1;omega) |(simp only [Bool.or_eq_false_iff] at c2;exact c2.2.2.2)))
theorem aiA:Fj.Ok:=⟨fun s=>by kernel_rfl,fun s=>by kernel_rfl,fun s=>rfl,fun s t r=>rfl,fun s=>rfl,fun s=>by kernel_rfl⟩
theorem ahs:Fj.Pf (amm):=⟨aBB,fun _ _=>rfl,avF,awV⟩
theorem anZ:bn Tryz.prog aS (AN 0) (.loop BG) Fj.lp:=bQ.snd aiA ahs (aU (Γ:=Ns) (K:=fE) (L:=aC) Vj aG BG (fun b hb=>by rw [show aB BG=[] by kernel_rfl] at hb;cases hb)) (fun s=>by kernel_rfl)
theorem anC (s:kC) (hE:am8 s):∃s',NU s'∧amm (ac9 s) s' (rJ s):=bQ.fin aiA ahs s hE
structure lX where
 r:Bool
 l:List Ch
 n:Int
 i:Int
 af:List Cd
 aA:List ByteArray
 ai:List Ko
 ak:List Ch
 aJ:List Ba
def aFH (s:lX):List LV:=[.own 0 0,.v (.bool s.r),.xl dK s.l,.v (.int .i64 s.n),.v (.int .i64 s.i)]
def aEE (s:lX):List aW:=[⟨[.xl eu s.af,.xl .str s.aA,.xl eG s.ai,.xl dK s.ak,.xl eP s.aJ],28,.cl,false⟩]
noncomputable def BF:Code:=((aB (Tryz.f100.body.getD .skip))[2]?).getD .skip
def aaF (s:lX):T (Rd lX):=
 .br (decide (s.i<s.n)) (.req (0≤s.i∧s.i<(List.length s.l:Int)) (.req ((List.length s.af:Int)≤1000∧(List.length s.aA:Int)≤1000) (.br (!(GV s.af.length s.aA.length (bD s.l s.i))) (.ok (.stop (.ret) {s with r:=false})) (.ok (.next {s with i:=(IntKind.i64.wrap (s.i+1))}))))) (.ok (.stop (.exit 4) s))
abbrev auz (s:lX):=(aaF s).rd s
def KE (s:lX) (j:Int):Bool:=GV s.af.length s.aA.length (bD s.l j)
def am7 (s:lX):Prop:=s.i=0∧0≤s.n∧s.n≤1000∧s.n=(s.l.length:Int)∧(s.af.length:Int)≤1000∧(s.aA.length:Int)≤1000
def NT (s:lX):Prop:=0≤s.i∧s.i≤s.n∧s.n≤1000∧(s.n=(s.l.length:Int)∧(s.af.length:Int)≤1000∧(s.aA.length:Int)≤1000)∧∀j:Nat,(j:Int)<s.i→KE s j=true
def PY (s:lX):Nat:=(s.n-s.i).toNat
def aml (x:Ex) (_ s':lX):Prop:=(x=.exit 4∧∀j:Nat,(j:Int)<s'.n→KE s' j=true)∨(x=.ret∧s'.r=false∧∃j:Nat,(j:Int)<s'.n∧KE s' j=false)
theorem aBA:∀s,am7 s→NT s:=by
 intro s h
 obtain ⟨h0,h1,h2,h3⟩:=h
 exact ⟨by omega,by omega,h2,h3,fun j hj=>by omega⟩
theorem avE (s:lX) (hI:NT s):bP (fun s'=>NT s'∧PY s'<PY s) (fun x s'=>aml x s s') (auz s):=by
 unfold auz aaF
 dsimp only [T.rd,T.rl]
 obtain ⟨h0,h1,h2,h3,h4⟩:=hI
 refine au (fun c1=>au (fun c2=>?_) (fun c2=>?_)) (fun c1=>?_)
 ·have c1:s.i<s.n:=by simpa using c1
  refine .inr ⟨rfl,rfl,s.i.toNat,by simp only;omega,?_⟩
  rw [Int.toNat_of_nonneg (by omega)]
  have hg:KE s s.i=false:=by unfold KE;(first|(have c2:(!(GV s.af.length s.aA.length (bD s.l s.i)))=false:=c2;simpa using c2) |(have c2:(!(GV s.af.length s.aA.length (bD s.l s.i)))=true:=c2;simpa using c2))
  exact hg
 ·have c1:s.i<s.n:=by simpa using c1
  have hg:KE s s.i=true:=by unfold KE;(first|(have c2:(!(GV s.af.length s.aA.length (bD s.l s.i)))=false:=c2;simpa using c2) |(have c2:(!(GV s.af.length s.aA.length (bD s.l s.i)))=true:=c2;simpa using c2))
  rw [aN (x:=s.i+1) (by omega) (by omega)]
  refine ⟨⟨by simp only;omega,by simp only;omega,h2,h3,fun j hj=>?_⟩,by simp only [PY];omega⟩
  by_cases hji:(j:Int)<s.i
  ·exact h4 j hji
  ·have:(j:Int)=s.i:=by simp only at hj;omega
   rw [this];exact hg
 ·have c1:s.n≤s.i:=by simpa using c1
  exact .inl ⟨rfl,fun j hj=>h4 j (by omega)⟩
def Fh:bQ lX:=⟨0,95,[1,2,67,68,69],[],aFH,aEE,fun v b=>⟨yF (v.getD 1 .junk),aQ dK (v.getD 2 .junk),gI (v.getD 3 .junk),gI (v.getD 4 .junk),aQ eu (aV (aO b 0) 0),aQ .str (aV (aO b 0) 1),aQ eG (aV (aO b 0) 2),aQ dK (aV (aO b 0) 3),aQ eP (aV (aO b 0) 4)⟩,aaF,fun s r=> {r with l:=s.l,n:=s.n,af:=s.af,aA:=s.aA,ai:=s.ai,ak:=s.ak,aJ:=s.aJ},fun s=>s,fun _ s=>s,[.ret,.exit 4],am7,NT,PY⟩
abbrev Af:=Fh.run
abbrev ac8:=Fh.jU
abbrev aAo:=Fh.q
theorem awU (s:lX) (hI:NT s):(aaF s).all (fun _=>True):=by
 refine ⟨fun c1=>⟨?_,?_,fun _=>trivial,fun _=>trivial⟩,fun _=>trivial⟩
 all_goals ((obtain ⟨h0,h1,h2,h3,h4⟩:=hI;simp at c1;first|omega|exact h3.2))
theorem aiz:Fh.Ok:=⟨fun s=>by kernel_rfl,fun s=>by kernel_rfl,fun s=>rfl,fun s t r=>rfl,fun s=>rfl,fun s=>by kernel_rfl⟩
theorem ahr:Fh.Pf (aml):=⟨aBA,fun _ _=>rfl,avE,awU⟩
theorem anY:bn Tryz.prog aS (AN 0) (.loop BF) Fh.lp:=bQ.snd aiz ahr (aU (Γ:=Ns) (K:=fE) (L:=aC) Vj aG BF (fun b hb=>by rw [show aB BF=[] by kernel_rfl] at hb;cases hb)) (fun s=>by kernel_rfl)
theorem anB (s:lX) (hE:am7 s):∃s',NT s'∧aml (ac8 s) s' (Af s):=bQ.fin aiz ahr s hE
structure o7 where
 r:Bool
 l:List Ba
 n:Int
 i:Int
 af:List Cd
 aA:List ByteArray
 ai:List Ko
 ak:List Ch
 aJ:List Ba
def aFG (s:o7):List LV:=[.own 0 0,.v (.bool s.r),.xl eP s.l,.v (.int .i64 s.n),.v (.int .i64 s.i)]
def aED (s:o7):List aW:=[⟨[.xl eu s.af,.xl .str s.aA,.xl eG s.ai,.xl dK s.ak,.xl eP s.aJ],28,.cl,false⟩]
noncomputable def BD:Code:=((aB (Tryz.f100.body.getD .skip))[3]?).getD .skip
def aaE (s:o7):T (Rd o7):=
 .br (decide (s.i<s.n)) (.req (0≤s.i∧s.i<(List.length s.l:Int)) (.br (!(inB (DL s.l s.i).2 (0:Int) (IntKind.i64.wrap ((List.length s.ak:Int)-1)))) (.ok (.stop (.ret) {s with r:=false})) (.ok (.next {s with i:=(IntKind.i64.wrap (s.i+1))})))) (.ok (.stop (.exit 6) s))
abbrev auy (s:o7):=(aaE s).rd s
def KD (s:o7) (j:Int):Bool:=inB (DL s.l j).2 0 (IntKind.i64.wrap ((List.length s.ak:Int)-1))
def am6 (s:o7):Prop:=s.i=0∧0≤s.n∧s.n≤1000∧s.n=(s.l.length:Int)
def NS (s:o7):Prop:=0≤s.i∧s.i≤s.n∧s.n≤1000∧(s.n=(s.l.length:Int))∧∀j:Nat,(j:Int)<s.i→KD s j=true
def PX (s:o7):Nat:=(s.n-s.i).toNat
def amk (x:Ex) (_ s':o7):Prop:=(x=.exit 6∧∀j:Nat,(j:Int)<s'.n→KD s' j=true)∨(x=.ret∧s'.r=false∧∃j:Nat,(j:Int)<s'.n∧KD s' j=false)
theorem aBz:∀s,am6 s→NS s:=by
 intro s h
 obtain ⟨h0,h1,h2,h3⟩:=h
 exact ⟨by omega,by omega,h2,h3,fun j hj=>by omega⟩
theorem avD (s:o7) (hI:NS s):bP (fun s'=>NS s'∧PX s'<PX s) (fun x s'=>amk x s s') (auy s):=by
 unfold auy aaE
 dsimp only [T.rd,T.rl]
 obtain ⟨h0,h1,h2,h3,h4⟩:=hI
 refine au (fun c1=>au (fun c2=>?_) (fun c2=>?_)) (fun c1=>?_)
 ·have c1:s.i<s.n:=by simpa using c1
  refine .inr ⟨rfl,rfl,s.i.toNat,by simp only;omega,?_⟩
  rw [Int.toNat_of_nonneg (by omega)]
  have hg:KD s s.i=false:=by unfold KD;(first|(have c2:(!(inB (DL s.l s.i).2 0 (IntKind.i64.wrap ((List.length s.ak:Int)-1))))=false:=c2;simpa using c2) |(have c2:(!(inB (DL s.l s.i).2 0 (IntKind.i64.wrap ((List.length s.ak:Int)-1))))=true:=c2;simpa using c2))
  exact hg
 ·have c1:s.i<s.n:=by simpa using c1
  have hg:KD s s.i=true:=by unfold KD;(first|(have c2:(!(inB (DL s.l s.i).2 0 (IntKind.i64.wrap ((List.length s.ak:Int)-1))))=false:=c2;simpa using c2) |(have c2:(!(inB (DL s.l s.i).2 0 (IntKind.i64.wrap ((List.length s.ak:Int)-1))))=true:=c2;simpa using c2))
  rw [aN (x:=s.i+1) (by omega) (by omega)]
  refine ⟨⟨by simp only;omega,by simp only;omega,h2,h3,fun j hj=>?_⟩,by simp only [PX];omega⟩
  by_cases hji:(j:Int)<s.i
  ·exact h4 j hji
  ·have:(j:Int)=s.i:=by simp only at hj;omega
   rw [this];exact hg
 ·have c1:s.n≤s.i:=by simpa using c1
  exact .inl ⟨rfl,fun j hj=>h4 j (by omega)⟩
def Fg:bQ o7:=⟨0,95,[1,2,79,80,81],[],aFG,aED,fun v b=>⟨yF (v.getD 1 .junk),aQ eP (v.getD 2 .junk),gI (v.getD 3 .junk),gI (v.getD 4 .junk),aQ eu (aV (aO b 0) 0),aQ .str (aV (aO b 0) 1),aQ eG (aV (aO b 0) 2),aQ dK (aV (aO b 0) 3),aQ eP (aV (aO b 0) 4)⟩,aaE,fun s r=> {r with l:=s.l,n:=s.n,af:=s.af,aA:=s.aA,ai:=s.ai,ak:=s.ak,aJ:=s.aJ},fun s=>s,fun _ s=>s,[.ret,.exit 6],am6,NS,PX⟩
abbrev abr:=Fg.run
abbrev ac7:=Fg.jU
abbrev aAn:=Fg.q
theorem awT (s:o7) (hI:NS s):(aaE s).all (fun _=>True):=by
 refine ⟨fun c1=>⟨?_,fun _=>trivial,fun _=>trivial⟩,fun _=>trivial⟩
 ·(obtain ⟨h0,h1,h2,h3,h4⟩:=hI;simp at c1;omega)
theorem aiy:Fg.Ok:=⟨fun s=>by kernel_rfl,fun s=>by kernel_rfl,fun s=>rfl,fun s t r=>rfl,fun s=>rfl,fun s=>by kernel_rfl⟩
theorem ahq:Fg.Pf (amk):=⟨aBz,fun _ _=>rfl,avD,awT⟩
theorem anX:bn Tryz.prog aS (AN 0) (.loop BD) Fg.lp:=bQ.snd aiy ahq (aU (Γ:=Ns) (K:=fE) (L:=aC) Vj aG BD (fun b hb=>by rw [show aB BD=[] by kernel_rfl] at hb;cases hb)) (fun s=>by kernel_rfl)
theorem anA (s:o7) (hE:am6 s):∃s',NS s'∧amk (ac7 s) s' (abr s):=bQ.fin aiy ahq s hE
def adU:List LV→T LV
 | [.agg [.xl (.pair .str (.pair (.int .i64) (.pair (.int .i64) (.pair (.int .i64) (.pair (.pair (.int .i64) (.int .i64)) (.pair (.int .i64) (.pair (.int .i64) (.pair (.int .i64) (.pair (.int .i64) (.int .i64)))))))))) cs,.xl (.str) os,.xl (.pair .str (.pair (.int .i64) (.pair (.int .i64) (.int .i64)))) ks,.xl (.pair .str (.pair (.int .i64) (.pair (.int .i64) (.pair (.int .i64) (.pair (.int .i64) (.pair (.int .i64) (.pair (.int .i64) (.int .i64)))))))) gs,.xl (.pair .str (.int .i64)) bs]]=> .req ((List.length cs:Int)≤1000∧(List.length os:Int)≤1000∧(List.length ks:Int)≤1000∧(List.length gs:Int)≤1000∧(List.length bs:Int)≤1000) (.ok (.v (.bool (Xp cs os ks gs bs))))
 |_=> .no
noncomputable def Zz:List LV→T LV:=gZ Tryz.prog Tryz.f100.params.toList adU
theorem apT (cs:List Cd) (os:List ByteArray) (ks:List Ko) (gs:List Ch) (bs:List Ba):bW Tryz.prog aS (Ns) fE (fun i=>if i=2 then Fp.lp else if i=9 then Fj.lp else if i=16 then Fh.lp else if i=22 then Fg.lp else aC i) Tryz.f100 [.agg [.xl eu cs,.xl .str os,.xl eG ks,.xl dK gs,.xl eP bs]]=.req (aAq (⟨false,cs,(List.length cs:Int),(0:Int),cs,os,ks,gs,bs⟩:je)) (.br (iE (ada (⟨false,cs,(List.length cs:Int),(0:Int),cs,os,ks,gs,bs⟩:je)) (.ret)) (.ok (.v (.bool (mV (⟨false,cs,(List.length cs:Int),(0:Int),cs,os,ks,gs,bs⟩:je)).r))) (.req (aAp (⟨(mV (⟨false,cs,(List.length cs:Int),(0:Int),cs,os,ks,gs,bs⟩:je)).r,ks,(List.length ks:Int),(0:Int),cs,os,ks,gs,bs,([]:List Int)⟩:kC)) (.br (iE (ac9 (⟨(mV (⟨false,cs,(List.length cs:Int),(0:Int),cs,os,ks,gs,bs⟩:je)).r,ks,(List.length ks:Int),(0:Int),cs,os,ks,gs,bs,([]:List Int)⟩:kC)) (.ret)) (.ok (.v (.bool (rJ (⟨(mV (⟨false,cs,(List.length cs:Int),(0:Int),cs,os,ks,gs,bs⟩:je)).r,ks,(List.length ks:Int),(0:Int),cs,os,ks,gs,bs,([]:List Int)⟩:kC)).r))) (.req (aAo (⟨(rJ (⟨(mV (⟨false,cs,(List.length cs:Int),(0:Int),cs,os,ks,gs,bs⟩:je)).r,ks,(List.length ks:Int),(0:Int),cs,os,ks,gs,bs,([]:List Int)⟩:kC)).r,gs,(List.length gs:Int),(0:Int),cs,os,ks,gs,bs⟩:lX)) (.br (iE (ac8 (⟨(rJ (⟨(mV (⟨false,cs,(List.length cs:Int),(0:Int),cs,os,ks,gs,bs⟩:je)).r,ks,(List.length ks:Int),(0:Int),cs,os,ks,gs,bs,([]:List Int)⟩:kC)).r,gs,(List.length gs:Int),(0:Int),cs,os,ks,gs,bs⟩:lX)) (.ret)) (.ok (.v (.bool (Af (⟨(rJ (⟨(mV (⟨false,cs,(List.length cs:Int),(0:Int),cs,os,ks,gs,bs⟩:je)).r,ks,(List.length ks:Int),(0:Int),cs,os,ks,gs,bs,([]:List Int)⟩:kC)).r,gs,(List.length gs:Int),(0:Int),cs,os,ks,gs,bs⟩:lX)).r))) (.req (aAn (⟨(Af (⟨(rJ (⟨(mV (⟨false,cs,(List.length cs:Int),(0:Int),cs,os,ks,gs,bs⟩:je)).r,ks,(List.length ks:Int),(0:Int),cs,os,ks,gs,bs,([]:List Int)⟩:kC)).r,gs,(List.length gs:Int),(0:Int),cs,os,ks,gs,bs⟩:lX)).r,bs,(List.length bs:Int),(0:Int),cs,os,ks,gs,bs⟩:o7)) (.br (iE (ac7 (⟨(Af (⟨(rJ (⟨(mV (⟨false,cs,(List.length cs:Int),(0:Int),cs,os,ks,gs,bs⟩:je)).r,ks,(List.length ks:Int),(0:Int),cs,os,ks,gs,bs,([]:List Int)⟩:kC)).r,gs,(List.length gs:Int),(0:Int),cs,os,ks,gs,bs⟩:lX)).r,bs,(List.length bs:Int),(0:Int),cs,os,ks,gs,bs⟩:o7)) (.ret)) (.ok (.v (.bool (abr (⟨(Af (⟨(rJ (⟨(mV (⟨false,cs,(List.length cs:Int),(0:Int),cs,os,ks,gs,bs⟩:je)).r,ks,(List.length ks:Int),(0:Int),cs,os,ks,gs,bs,([]:List Int)⟩:kC)).r,gs,(List.length gs:Int),(0:Int),cs,os,ks,gs,bs⟩:lX)).r,bs,(List.length bs:Int),(0:Int),cs,os,ks,gs,bs⟩:o7)).r))) (.ok (.v (.bool true)))))))))):=by kernel_rfl
theorem avK:Valid Tryz.prog aS 100 Zz:=aI Tryz.func100 rfl Vj aG (L:=(fun i=>if i=2 then Fp.lp else if i=9 then Fj.lp else if i=16 then Fh.lp else if i=22 then Fg.lp else aC i)) (fun b hb=>by
 rw [show aB _=[BH,BG,BF,BD] by kernel_rfl] at hb
 simp only [List.mem_cons,List.not_mem_nil,or_false] at hb
 rcases hb with rfl|rfl|rfl|rfl
 ·exact an0
 ·exact anZ
 ·exact anY
 ·exact anX) (fun args lv h=>by
 unfold adU at h
 split at h
 ·simp only [canL,canX]
  rw [apT]
  rename_i cs os ks gs bs
  obtain ⟨⟨hc,ho,hk,hg,hb⟩,rfl⟩:=h
  refine oH ⟨⟨rfl,by simp only;omega,hc,rfl⟩,rfl,rfl⟩ (fun hE0=>?_)
  obtain ⟨s',_,hq⟩:=anD _ hE0.1
  rcases hq with ⟨q1,q2⟩ |⟨q1,q2,j,q3,q4⟩
  rotate_left
  ·rw [q1,q2]
   refine ⟨fun _=>congrArg (fun z=>LV.v (.bool z)) ?_,fun h=>by cases h⟩
   unfold Xp
   rw [uP (f:=fun j=>Fb j (dY cs j)) j q3 q4]
   rfl
  rw [q1]
  refine ⟨fun h=>(by cases h),fun _=>?_⟩
  have g0:Lr cs.length (fun j=>Fb j (dY cs j))=true:=fU.2 q2
  refine oH ⟨⟨rfl,rfl,rfl,hk,ho⟩,rfl,rfl⟩ (fun hE1=>?_)
  obtain ⟨s',_,hq⟩:=anC _ hE1.1
  rcases hq with ⟨q1,q2⟩ |⟨q1,q2,j,q3,q4⟩
  rotate_left
  ·rw [q1,q2]
   refine ⟨fun _=>congrArg (fun z=>LV.v (.bool z)) ?_,fun h=>by cases h⟩
   unfold Xp
   have hn:(ks.all (koV os.length)&&once (ks.map (·.2.2.2)))=false:=by
    rw [Bool.eq_false_iff];intro hx
    have:=(kZ (d:=(emp,0,0,0))).2 hx j q3
    exact Bool.noConfusion (this.symm.trans q4)
   rw [g0,Bool.true_and,←Bool.and_assoc,hn]
   rfl
  rw [q1]
  refine ⟨fun h=>(by cases h),fun _=>?_⟩
  have g1:(ks.all (koV os.length)&&once (ks.map (·.2.2.2)))=true:=(kZ (d:=(emp,0,0,0))).1 q2
  refine oH ⟨⟨rfl,by simp only;omega,hg,rfl,hc,ho⟩,rfl,rfl⟩ (fun hE2=>?_)
  obtain ⟨s',_,hq⟩:=anB _ hE2.1
  rcases hq with ⟨q1,q2⟩ |⟨q1,q2,j,q3,q4⟩
  rotate_left
  ·rw [q1,q2]
   refine ⟨fun _=>congrArg (fun z=>LV.v (.bool z)) ?_,fun h=>by cases h⟩
   unfold Xp
   have hn:gs.all (GV cs.length os.length)=false:=by
    rw [Bool.eq_false_iff];intro hx
    have:=(jV (d:=(emp,0,0,0,0,0,0,0))).2 hx j q3
    exact Bool.noConfusion (this.symm.trans q4)
   rw [g0,Bool.true_and,←Bool.and_assoc,g1,hn]
   rfl
  rw [q1]
  refine ⟨fun h=>(by cases h),fun _=>?_⟩
  have g2:gs.all (GV cs.length os.length)=true:=(jV (d:=(emp,0,0,0,0,0,0,0))).1 q2
  have hw:=aN (x:=(List.length gs:Int)-1) (by omega) (by omega)
  refine oH ⟨⟨rfl,by simp only;omega,hb,rfl⟩,rfl,rfl⟩ (fun hE3=>?_)
  obtain ⟨s',_,hq⟩:=anA _ hE3.1
  rcases hq with ⟨q1,q2⟩ |⟨q1,q2,j,q3,q4⟩
  rotate_left
  ·rw [q1,q2]
   refine ⟨fun _=>congrArg (fun z=>LV.v (.bool z)) ?_,fun h=>by cases h⟩
   unfold Xp
   have hn:bs.all (fun b=>inB b.2 0 ((gs.length:Int)-1))=false:=by
    rw [Bool.eq_false_iff];intro hx
    have:=(jV (d:=(emp,0))).2 hx j q3
    have q4:inB (DL bs j).2 0 (IntKind.i64.wrap ((List.length gs:Int)-1))=false:=q4
    rw [hw] at q4
    exact Bool.noConfusion (this.symm.trans q4)
   rw [g0,Bool.true_and,←Bool.and_assoc,g1,g2,hn]
   rfl
  rw [q1]
  refine ⟨fun h=>(by cases h),fun _=>?_⟩
  have g3:bs.all (fun b=>inB b.2 0 ((gs.length:Int)-1))=true:=(jV (d:=(emp,0))).1 (fun j hj=>by
   have:inB (DL bs j).2 0 (IntKind.i64.wrap ((List.length gs:Int)-1))=true:=q2 j hj
   rw [hw] at this
   exact this)
  refine congrArg (fun z=>LV.v (.bool z)) ?_
  unfold Xp
  rw [g0,Bool.true_and,←Bool.and_assoc,g1,g2,g3]
  rfl
 ·cases h)
end Go.Proofs.YtlihnbimgclogaaGreatDoor
namespace Go.Proofs.YtlihnbimgclogaaGreatDoor
open Go.Sx
structure xI where
 r:Bool
 l:List ByteArray
 n:Int
 i:Int
 af:List Cd
 aA:List ByteArray
 ai:List Ko
 ak:List Ch
 aJ:List Ba
 seen:List ByteArray
def aHr (s:xI):List LV:=[.own 0 0,.v (.bool s.r),.om 1,.xl .str s.l,.v (.int .i64 s.n),.v (.int .i64 s.i)]
def aHj (s:xI):List aW:=[⟨[.xl eu s.af,.xl .str s.aA,.xl eG s.ai,.xl dK s.ak,.xl eP s.aJ],28,.cl,false⟩,⟨[],149,.st .str s.seen,false⟩]
noncomputable def Hy:Code:=((aB (Tryz.f53.body.getD .skip))[0]?).getD .skip
def anP (s:xI):T (Rd xI):=
 .br (decide (s.i<s.n)) (.req (0≤s.i∧s.i<(List.length s.l:Int)) (.br ((!(nameB (gS s.l s.i))) ||(List.contains s.seen (gS s.l s.i))) (.ok (.stop (.ret) {s with r:=false})) (.req (List.contains s.seen (gS s.l s.i)=false) (.ok (.next {s with i:=(IntKind.i64.wrap (s.i+1)),seen:=(s.seen++[(gS s.l s.i)])}))))) (.ok (.stop (.exit 0) s))
abbrev aDX (s:xI):=(anP s).rd s
def aaq (s:xI) (j:Int):Bool:=nameB (gS s.l j)&&!(((s.l.take j.toNat).map id).contains (gS s.l j))
def aAr (s:xI):Prop:=s.i=0∧s.seen=[]∧s.n=(s.l.length:Int)∧s.n≤1000∧True
def agc (s:xI):Prop:=0≤s.i∧s.i≤s.n∧s.n=(s.l.length:Int)∧s.n≤1000∧(True)∧s.seen=(s.l.take s.i.toNat).map id∧∀j:Nat,(j:Int)<s.i→aaq s j=true
def abS (s:xI):Nat:=(s.n-s.i).toNat
def aAg (x:Ex) (_ s':xI):Prop:=(x=.exit 0∧∀j:Nat,(j:Int)<s'.n→aaq s' j=true)∨(x=.ret∧s'.r=false∧∃j:Nat,(j:Int)<s'.n∧aaq s' j=false)
theorem aGS:∀s,aAr s→agc s:=by
 intro s h
 obtain ⟨h0,h1,h2,h3,h4⟩:=h
 exact ⟨by omega,by omega,h2,h3,h4,by rw [h0,h1];rfl,fun j hj=>by omega⟩
theorem aBY (s:xI) (hI:agc s):bP (fun s'=>agc s'∧abS s'<abS s) (fun x s'=>aAg x s s') (aDX s):=by
 unfold aDX anP
 dsimp only [T.rd,T.rl]
 obtain ⟨h0,h1,h2,h3,h4,h5,h6⟩:=hI
 refine au (fun c1=>au (fun c2=>?_) (fun c2=>?_)) (fun c1=>?_)
 ·have c1:s.i<s.n:=by simpa using c1
  refine .inr ⟨rfl,rfl,s.i.toNat,by simp only;omega,?_⟩
  rw [Int.toNat_of_nonneg h0]
  have hg:aaq s s.i=false:=by
   unfold aaq
   (rw [h5] at c2;revert c2;generalize nameB _=a;generalize List.contains (α:=ByteArray) _ _=d;cases a<;>cases d<;>simp)
  exact hg
 ·have c1:s.i<s.n:=by simpa using c1
  have hg:aaq s s.i=true:=by
   unfold aaq
   (rw [h5] at c2;revert c2;generalize nameB _=a;generalize List.contains (α:=ByteArray) _ _=d;cases a<;>cases d<;>simp)
  rw [aN (x:=s.i+1) (by omega) (by omega)]
  refine ⟨⟨by simp only;omega,by simp only;omega,h2,h3,h4,?_,fun j hj=>?_⟩,by simp only [abS];omega⟩
  ·simp only
   rw [(vz h0 (show s.i<s.l.length by omega)).2,h5]
   try rw [List.map_append]
   try rfl
  ·by_cases hji:(j:Int)<s.i
   ·exact h6 j hji
   ·have:(j:Int)=s.i:=by simp only at hj;omega
    rw [this];exact hg
 ·have c1:s.n≤s.i:=by simpa using c1
  exact .inl ⟨rfl,fun j hj=>h6 j (by omega)⟩
def Xk:bQ xI:=⟨0,61,[1,2,3,42,43,44],[],aHr,aHj,fun v b=>⟨yF (v.getD 1 .junk),aQ .str (v.getD 3 .junk),gI (v.getD 4 .junk),gI (v.getD 5 .junk),aQ eu (aV (aO b 0) 0),aQ .str (aV (aO b 0) 1),aQ eG (aV (aO b 0) 2),aQ dK (aV (aO b 0) 3),aQ eP (aV (aO b 0) 4),gSe .str (aO b 1)⟩,anP,fun s r=> {r with l:=s.l,n:=s.n,af:=s.af,aA:=s.aA,ai:=s.ai,ak:=s.ak,aJ:=s.aJ},fun s=>s,fun _ s=>s,[.ret,.exit 0],aAr,agc,abS⟩
abbrev ag7:=Xk.run
abbrev ali:=Xk.jU
abbrev aEx:=Xk.q
theorem aCf (s:xI) (hI:agc s):(anP s).all (fun _=>True):=by
 refine ⟨fun c1=>⟨?_,fun _=>trivial,fun c2=>⟨?_,trivial⟩⟩,fun _=>trivial⟩
 all_goals ((obtain ⟨h0,h1,h2,h3,h4,h5,h6⟩:=hI;first|(simp at c1;omega) |(simp only [Bool.or_eq_false_iff] at c2;exact c2.2)))
noncomputable def ak4:Specs:=bf [(98,ZR),(99,Z8),(100,Zz)]
theorem auh:∀g S,ak4 g=some S→Valid Tryz.prog aS g S:=aT (l:=[(98,ZR),(99,Z8),(100,Zz)]) ⟨av1,awd,avK,trivial⟩
theorem atg:Xk.Ok:=⟨fun s=>by kernel_rfl,fun s=>by kernel_rfl,fun s=>rfl,fun s t r=>rfl,fun s=>rfl,fun s=>by kernel_rfl⟩
theorem as8:Xk.Pf (aAg):=⟨aGS,fun _ _=>rfl,aBY,aCf⟩
theorem awC:bn Tryz.prog aS (AN 0) (.loop Hy) Xk.lp:=bQ.snd atg as8 (aU (Γ:=ak4) (K:=fE) (L:=aC) auh aG Hy (fun b hb=>by rw [show aB Hy=[] by kernel_rfl] at hb;cases hb)) (fun s=>by kernel_rfl)
theorem aww (s:xI) (hE:aAr s):∃s',agc s'∧aAg (ali s) s' (ag7 s):=bQ.fin atg as8 s hE
def adX:List LV→T LV
 | [.agg [.xl (.pair .str (.pair (.int .i64) (.pair (.int .i64) (.pair (.int .i64) (.pair (.pair (.int .i64) (.int .i64)) (.pair (.int .i64) (.pair (.int .i64) (.pair (.int .i64) (.pair (.int .i64) (.int .i64)))))))))) cs,.xl (.str) os,.xl (.pair .str (.pair (.int .i64) (.pair (.int .i64) (.int .i64)))) ks,.xl (.pair .str (.pair (.int .i64) (.pair (.int .i64) (.pair (.int .i64) (.pair (.int .i64) (.pair (.int .i64) (.pair (.int .i64) (.int .i64)))))))) gs,.xl (.pair .str (.int .i64)) bs]]=> .ok (.v (.bool (dL cs os ks gs bs)))
 |_=> .no
noncomputable def qU:List LV→T LV:=gZ Tryz.prog Tryz.f53.params.toList adX
theorem apW (cs:List Cd) (os:List ByteArray) (ks:List Ko) (gs:List Ch) (bs:List Ba):bW Tryz.prog aS (ak4) fE (fun i=>if i=5 then Xk.lp else aC i) Tryz.f53 [.agg [.xl eu cs,.xl .str os,.xl eG ks,.xl dK gs,.xl eP bs]]=.br ((decide ((List.length cs:Int)<1)) ||((decide ((List.length cs:Int)>16)) ||((decide ((List.length os:Int)>8)) ||((decide ((List.length ks:Int)>32)) ||((decide ((List.length gs:Int)>16)) ||(decide ((List.length bs:Int)>24))))))) (.ok (.v (.bool false))) (.req ((List.length cs:Int)≤1000∧(List.length os:Int)≤1000∧(List.length ks:Int)≤1000∧(List.length gs:Int)≤1000∧(List.length bs:Int)≤1000) (.req (aEx (⟨false,(gY cs os ks gs bs),(List.length (gY cs os ks gs bs):Int),(0:Int),cs,os,ks,gs,bs,([]:List ByteArray)⟩:xI)) (.br (iE (ali (⟨false,(gY cs os ks gs bs),(List.length (gY cs os ks gs bs):Int),(0:Int),cs,os,ks,gs,bs,([]:List ByteArray)⟩:xI)) (.ret)) (.ok (.v (.bool (ag7 (⟨false,(gY cs os ks gs bs),(List.length (gY cs os ks gs bs):Int),(0:Int),cs,os,ks,gs,bs,([]:List ByteArray)⟩:xI)).r))) (.req ((List.length cs:Int)≤1000∧(List.length os:Int)≤1000∧(List.length ks:Int)≤1000∧(List.length gs:Int)≤1000∧(List.length bs:Int)≤1000) (.ok (.v (.bool (Xp cs os ks gs bs)))))))):=by kernel_rfl
theorem Ig:Valid Tryz.prog aS 53 qU:=aI Tryz.func53 rfl auh aG (L:=(fun i=>if i=5 then Xk.lp else aC i)) (fun b hb=>by
 rw [show aB _=[Hy] by kernel_rfl] at hb
 simp only [List.mem_cons,List.not_mem_nil,or_false] at hb
 subst hb
 exact awC) (fun args lv h=>by
 unfold adX at h
 split at h
 ·simp only [canL,canX]
  rw [apW]
  rename_i cs os ks gs bs
  obtain rfl:=h
  refine ⟨fun c=>congrArg (fun z=>LV.v (.bool z)) ?_,fun c=>?_⟩
  ·rw [eq_comm,Bool.eq_false_iff]
   intro hx
   unfold dL at hx
   rw [Bool.and_eq_true,decide_eq_true_eq] at hx
   simp only [Bool.or_eq_true,decide_eq_true_eq] at c
   omega
  have hd:1≤cs.length∧cs.length≤16∧os.length≤8∧ks.length≤32∧gs.length≤16∧bs.length≤24:=by
   simp only [Bool.or_eq_false_iff,decide_eq_false_iff_not] at c
   omega
  have hs:dL cs os ks gs bs=(((gY cs os ks gs bs).all nameB&&once (gY cs os ks gs bs))&&Xp cs os ks gs bs):=by
   unfold dL
   rw [decide_eq_true hd,Bool.true_and,Bool.and_assoc]
  have hl:((gY cs os ks gs bs).length:Int)≤1000:=by
   unfold gY
   simp only [List.length_append,List.length_map]
   omega
  rw [hs]
  have hr:(List.length cs:Int)≤1000∧(List.length os:Int)≤1000∧(List.length ks:Int)≤1000∧(List.length gs:Int)≤1000∧(List.length bs:Int)≤1000:=by omega
  refine ⟨hr,?_⟩
  generalize gY cs os ks gs bs=l at*
  refine oH ⟨⟨rfl,rfl,rfl,hl,trivial⟩,rfl,rfl⟩ (fun hE=>?_)
  obtain ⟨s',_,hq⟩:=aww _ hE.1
  rcases hq with ⟨q1,q2⟩ |⟨q1,q2,j,q3,q4⟩
  ·rw [q1]
   have hk:=(kZ (d:=emp) (p:=nameB) (k:=id)).1 q2
   rw [List.map_id] at hk
   refine ⟨fun h=>(by cases h),fun _=>⟨hr,?_⟩⟩
   rw [hk,Bool.true_and]
   rfl
  ·rw [q1,q2]
   refine ⟨fun _=>congrArg (fun z=>LV.v (.bool z)) ?_,fun h=>by cases h⟩
   have hn:(l.all nameB&&once l)=false:=by
    rw [Bool.eq_false_iff];intro hx
    have:=(kZ (d:=emp) (p:=nameB) (k:=id)).2 (by rw [List.map_id];exact hx) j q3
    exact Bool.noConfusion (this.symm.trans q4)
   rw [hn]
   rfl
 ·cases h)
end Go.Proofs.YtlihnbimgclogaaGreatDoor
namespace Go.Proofs.YtlihnbimgclogaaGreatDoor
open Go.Sx
def aeg:List LV→T LV
 | [.agg [.xl (.pair .str (.pair (.int .i64) (.pair (.int .i64) (.pair (.int .i64) (.pair (.pair (.int .i64) (.int .i64)) (.pair (.int .i64) (.pair (.int .i64) (.pair (.int .i64) (.pair (.int .i64) (.int .i64)))))))))) cs,.xl (.str) os,.xl (.pair .str (.pair (.int .i64) (.pair (.int .i64) (.int .i64)))) ks,.xl (.pair .str (.pair (.int .i64) (.pair (.int .i64) (.pair (.int .i64) (.pair (.int .i64) (.pair (.int .i64) (.pair (.int .i64) (.int .i64)))))))) gs,.xl (.pair .str (.int .i64)) bs],.v (.int .i64 c)]=> .ok (.fn 129 [.xq 1 (fun j=>([.v (.int .i64 c)]:List LV).getD j .junk),.xq 5 (fun j=>([.xl eu cs,.xl .str os,.xl eG ks,.xl dK gs,.xl eP bs]:List LV).getD j .junk)])
 |_=> .no
noncomputable def vK:List LV→T LV:=gZ Tryz.prog Tryz.f104.params.toList aeg
noncomputable def Bd:Specs:=bf []
theorem ES:∀g S,Bd g=some S→Valid Tryz.prog aS g S:=aT (l:=[]) trivial
noncomputable def ach:Hand:=inl Tryz.prog aS Bd (kH Tryz.prog aS (Bd) 20 2) 9
theorem ako:cZ Tryz.prog aS ach:=bM ES (dI ES) 9
theorem aqe (cs:List Cd) (os:List ByteArray) (ks:List Ko) (gs:List Ch) (bs:List Ba) (c:Int):bW Tryz.prog aS (Bd) ach aC Tryz.f104 [.agg [.xl eu cs,.xl .str os,.xl eG ks,.xl dK gs,.xl eP bs],.v (.int .i64 c)]=.ok (.fn 129 [.xq 1 (fun j=>([.v (.int .i64 c)]:List LV).getD j .junk),.xq 5 (fun j=>([.xl eu cs,.xl .str os,.xl eG ks,.xl dK gs,.xl eP bs]:List LV).getD j .junk)]):=by kernel_rfl
theorem O4:Valid Tryz.prog aS 104 vK:=aI Tryz.func104 rfl ES ako (aY (by kernel_rfl)) (fun args lv h=>by
 unfold aeg at h
 split at h
 ·simp only [canL,canX]
  rw [aqe]
  exact h
 ·cases h)
noncomputable def ahh:Array Tmp×Code×Code:=((ja (Tryz.f103.body.getD .skip))[0]?).getD (#[],.skip,.skip)
noncomputable def aCq:Array Tmp:=ahh.1
noncomputable def aCL:Code:=ahh.2.1
noncomputable def aCF:Code:=ahh.2.2
structure qc where
 cs:List Cd
 os:List ByteArray
 ks:List Ko
 gs:List Ch
 bs:List Ba
 c:Int
 b0:Int
 b1:Bool
 st:LS
def aF4 (s:qc):List LV:=[.tN 2,.xq 5 (fun j=>([.xl eu s.cs,.xl .str s.os,.xl eG s.ks,.xl dK s.gs,.xl eP s.bs]:List LV).getD j .junk),.v (.int .i64 s.c)]
noncomputable def aE1 (s:qc):List aW:=[⟨[.v (.int .i64 s.b0)],3,.cl,false⟩,⟨[.v (.bool s.b1)],4,.cl,false⟩,⟨[.junk,.junk,.junk,.own 0 0,.own 1 0,.v (.tuple #[]),.junk,.v (.tuple #[]),.v (.tuple #[]),.v (.tuple #[]),.v (.tuple #[])],0,.jZ aCq aCL aCF s.st,false⟩]
noncomputable def VP:Code:=((aB (Tryz.f129.body.getD .skip))[0]?).getD .skip
def MB (s:qc):T (Rd qc):=
 .br (decide (s.c≥0)) (.br (s.c==s.b0) (.ok (.stop (.ret) {s with b1:=true,st:=(.done (.ret))})) (.req (0≤s.c∧s.c<(List.length s.cs:Int)) (.ok (.next {s with c:=(dY s.cs s.c).2.1})))) (.ok (.stop (.exit 0) s))
abbrev Nv (s:qc):=(MB s).rd s
def ano (s:qc):Prop:=s.st=.ready∧LC s.cs=true∧s.c<(s.cs.length:Int)∧s.b1=false
def WR (s:qc):Prop:=s.st=.ready∧LC s.cs=true∧s.c<(s.cs.length:Int)
def Ql (s:qc):Nat:=(s.c+1).toNat
def avn (x:Ex) (s s':qc):Prop:=(x=.ret∧s'.b1=true∧MP s.cs s.b0 s.c=true)∨(x=.exit 0∧MP s.cs s.b0 s.c=false)
theorem aCO:∀s,ano s→WR s:=by
 intro s h
 obtain ⟨h0,h1,h2,h3⟩:=h
 exact ⟨h0,h1,h2⟩
theorem ahm (s:qc) (hI:WR s):bP (fun s'=>WR s'∧Ql s'<Ql s) (fun x s'=>avn x s s') (Nv s):=by
 unfold Nv MB
 dsimp only [T.rd,T.rl]
 obtain ⟨h0,h1,h2⟩:=hI
 have hp:=aix (o:=s.b0) h1 h2
 refine au (fun c1=>au (fun c2=>?_) (fun c2=>?_)) (fun c1=>?_)
 ·have c1:0≤s.c:=by simpa using c1
  exact .inl ⟨rfl,rfl,by rw [hp,if_pos c1,c2];rfl⟩
 ·have c1:0≤s.c:=by simpa using c1
  have:=wF h1 c1 h2
  exact ⟨⟨h0,h1,by simp only;omega⟩,by simp only [Ql];omega⟩
 ·have c1:¬(0≤s.c):=by simpa using c1
  exact .inr ⟨rfl,by rw [hp,if_neg c1]⟩
noncomputable def KZ:bQ qc:=⟨3,18,[0,2,4],[],aF4,aE1,fun v b=>⟨aQ eu (lW (v.getD 1 .junk) 0),aQ .str (lW (v.getD 1 .junk) 1),aQ eG (lW (v.getD 1 .junk) 2),aQ dK (lW (v.getD 1 .junk) 3),aQ eP (lW (v.getD 1 .junk) 4),gI (v.getD 2 .junk),gI (aV (aO b 0) 0),yF (aV (aO b 1) 0),.ready⟩,MB,fun s r=> {r with cs:=s.cs,os:=s.os,ks:=s.ks,gs:=s.gs,bs:=s.bs,b0:=s.b0},fun s=> {s with st:=.ready},fun x s=> {s with st:=(match x with| .ret=>(.done (.ret)) | .exit 0=> .ready|_=> .ready)},[.ret,.exit 0],ano,WR,Ql⟩
noncomputable abbrev PD:=KZ.run
noncomputable abbrev RP:=KZ.jU
abbrev aAL:=KZ.q
theorem axh (s:qc) (hI:WR s):(MB s).all (fun _=>True):=by
 refine ⟨fun c1=>⟨fun _=>trivial,fun c2=>⟨?_,trivial⟩⟩,fun _=>trivial⟩
 ·(obtain ⟨h0,h1,h2⟩:=hI;simp at c1 h2;exact ⟨c1,h2⟩)
theorem Yd:KZ.Ok:=⟨fun s=>by kernel_rfl,fun s=>by kernel_rfl,fun s=>rfl,fun s t r=>rfl,fun s=>rfl,fun s=>by kernel_rfl⟩
theorem XR:KZ.Pf (avn):=⟨aCO,fun s h=>by
 obtain ⟨cs,os,ks,gs,bs,c,b0,b1,st⟩:=s
 have e:st=.ready:=h.1
 subst e
 rfl,ahm,axh⟩
theorem aok:bn Tryz.prog aS (AN 3) (.loop VP) KZ.lp:=bQ.snd Yd XR (bF (Γ:=Bd) (K:=ach) (L:=(sO Tryz.prog aS Bd ach 20 2)) ES ako VP (fun b _=>dN ES ako 20 2 b)) (fun s=>by kernel_rfl)
theorem ax8 (s:qc) (hE:ano s):(RP s=.ret∧(PD s).b1=true∧MP s.cs s.b0 s.c=true)∨(RP s=.exit 0∧MP s.cs s.b0 s.c=false):=by
 have hk:=bQ.uf Yd XR (fun s=>MP s.cs s.b0 s.c) (fun s hI=>by
  obtain ⟨h0,h1,h2⟩:=hI
  have hp:=aix (o:=s.b0) h1 h2
  show bP _ _ (Nv s)
  unfold Nv MB
  dsimp only [T.rd,T.rl]
  refine au (fun c1=>au (fun c2=>rfl) (fun c2=>?_)) (fun c1=>rfl)
  have c1:0≤s.c:=by simpa using c1
  show MP _ _ _=MP _ _ _
  rw [hp,if_pos c1,c2,Bool.false_or]) s hE
 have hk:MP s.cs s.b0 (PD s).c=MP s.cs s.b0 s.c:=hk
 obtain ⟨s',hI,hf⟩:=bQ.end_ Yd XR s hE
 have hq:=yN (ahm s' hI) hf
 have hc:=yN (Pn:=fun _=>True) (Ps:=fun _ r=>r.cs=s'.cs∧r.b0=s'.b0∧r.c=s'.c) (r:=Nv s') (by
   unfold Nv MB
   dsimp only [T.rd,T.rl]
   exact au (fun _=>au (fun _=>⟨rfl,rfl,rfl⟩) (fun _=>trivial)) (fun _=>⟨rfl,rfl,rfl⟩)) hf
 obtain ⟨hc1,hc3,hc2⟩:=hc
 have e1:s.cs=s'.cs:=hc1
 have e2:s.b0=s'.b0:=hc3
 rw [←hk,hc2,e1,e2]
 exact hq
def ame:List LV→T LV
 | [.fn 129 [.xq 1 q0,.xq 5 q1],.v (.int .i64 o)]=>(match ([q0 0]:List LV) with
  | [.v (.int .i64 c)]=>(match ([q1 0,q1 1,q1 2,q1 3,q1 4]:List LV) with
  | [.xl (.pair .str (.pair (.int .i64) (.pair (.int .i64) (.pair (.int .i64) (.pair (.pair (.int .i64) (.int .i64)) (.pair (.int .i64) (.pair (.int .i64) (.pair (.int .i64) (.pair (.int .i64) (.int .i64)))))))))) cs,.xl (.str) _,.xl (.pair .str (.pair (.int .i64) (.pair (.int .i64) (.int .i64)))) _,.xl (.pair .str (.pair (.int .i64) (.pair (.int .i64) (.pair (.int .i64) (.pair (.int .i64) (.pair (.int .i64) (.pair (.int .i64) (.int .i64)))))))) _,.xl (.pair .str (.int .i64)) _]=> .req (LC cs=true∧c<(List.length cs:Int)) (.ok (.v (.bool (MP cs o c))))
  |_=> .no)
  |_=> .no)
 |_=> .no
noncomputable def alV:List LV→T LV:=gZ Tryz.prog Tryz.f103.params.toList ame
noncomputable def atU:Hand:=inl Tryz.prog aS Bd (jX 129 3 1 (KZ.lp) (kH Tryz.prog aS (Bd) 20 2)) 9
theorem aDu:cZ Tryz.prog aS atU:=bM ES (dF Tryz.func129 rfl (by kernel_rfl) aok (dI ES)) 9
theorem ayE (c:Int) (cs:List Cd) (os:List ByteArray) (ks:List Ko) (gs:List Ch) (bs:List Ba) (o:Int):bW Tryz.prog aS (Bd) atU aC Tryz.f103 [.fn 129 [.xq 1 (fun j=>([.v (.int .i64 c)]:List LV).getD j .junk),.xq 5 (fun j=>([.xl eu cs,.xl .str os,.xl eG ks,.xl dK gs,.xl eP bs]:List LV).getD j .junk)],.v (.int .i64 o)]=.req (aAL (⟨cs,os,ks,gs,bs,c,o,false,.ready⟩:qc)) (.br (iE (RP (⟨cs,os,ks,gs,bs,c,o,false,.ready⟩:qc)) (.ret)) (.ok (.v (.bool (PD (⟨cs,os,ks,gs,bs,c,o,false,.ready⟩:qc)).b1))) (.ok (.v (.bool false)))):=by kernel_rfl
theorem aBN:Valid Tryz.prog aS 103 alV:=aI Tryz.func103 rfl ES aDu (aY (by kernel_rfl)) (fun args lv h=>by
 unfold ame at h
 split at h
 ·split at h
  case h_2=>cases h
  rename_i heq0
  split at h
  case h_2=>cases h
  rename_i heq1
  simp only [canL,canX]
  rw [pM (n:=1) heq0]
  simp only [canL,canX]
  rw [pM (n:=5) heq1]
  simp only [canL,canX]
  rw [ayE]
  obtain ⟨⟨hu,hc⟩,rfl⟩:=h
  refine oH ⟨⟨rfl,hu,hc,rfl⟩,rfl,rfl⟩ (fun hE=>?_)
  rcases ax8 _ hE.1 with ⟨h1,h2,h3⟩ |⟨h1,h2⟩
  ·rw [h1,h2]
   exact ⟨fun _=>congrArg (fun z=>LV.v (.bool z)) h3.symm,fun h=>by cases h⟩
  ·rw [h1]
   exact ⟨fun h=>(by cases h),fun _=>congrArg (fun z=>LV.v (.bool z)) h2.symm⟩
 ·cases h)
end Go.Proofs.YtlihnbimgclogaaGreatDoor
namespace Go.Proofs.YtlihnbimgclogaaGreatDoor
open Go.Sx
structure wB where
 l:List Ch
 n:Int
 i:Int
 aH:List Cd
 cu:List ByteArray
 bG:List Ko
 bK:List Ch
 eX:List Ba
 b1:Int
 out:List Int
def aHx (s:wB):List LV:=[.fn 102 [.own 0 0,.own 1 0],.os 2 1 0 (List.length s.out),.xl dK s.l,.v (.int .i64 s.n),.v (.int .i64 s.i)]
def aHp (s:wB):List aW:=[⟨[.xl eu s.aH,.xl .str s.cu,.xl eG s.bG,.xl dK s.bK,.xl eP s.eX],28,.cl,false⟩,⟨[.v (.int .i64 s.b1)],3,.cl,false⟩,⟨[],3,.vec (.int .i64) s.out,false⟩]
noncomputable def H6:Code:=((aB (Tryz.f55.body.getD .skip))[0]?).getD .skip
def anT (s:wB):T (Rd wB):=
 .br (decide (s.i<s.n)) (.req (0≤s.i∧s.i<(List.length s.l:Int)) (.req (LC s.aH=true∧(bD s.l s.i).2.1<(List.length s.aH:Int)) (.br (MP s.aH s.b1 (bD s.l s.i).2.1) (.req (0+(List.length s.out)=List.length s.out∧((List.length s.out+List.length ([s.i]):Nat):Int)*8≤2^47∧((List.length s.out+List.length ([s.i]):Nat):Int)<2^62) (.req (0=0∧(List.length s.out+List.length ([s.i]))=List.length (s.out++([s.i]))) (.ok (.next {s with i:=(IntKind.i64.wrap (s.i+1)),out:=(s.out++([s.i]))})))) (.rl s.out (.ok (.next {s with i:=(IntKind.i64.wrap (s.i+1))})))))) (.rl s.out (.ok (.stop (.exit 0) s)))
abbrev aD1 (s:wB):=(anT s).rd s
def asN (s:wB):Prop:=s.i=0∧s.out=[]∧s.n=(s.l.length:Int)∧s.n≤1000∧LC s.aH=true∧atB s.aH s.l=true
def agj (s:wB):Prop:=(0≤s.i∧s.i≤s.n)∧s.out=jR s.aH s.l s.b1 s.i.toNat∧s.n=(s.l.length:Int)∧s.n≤1000∧LC s.aH=true∧atB s.aH s.l=true
def UY (s:wB):Nat:=(s.n-s.i).toNat
def aAl (x:Ex) (_ s':wB):Prop:=x=.exit 0∧s'.out=jR s'.aH s'.l s'.b1 s'.l.length
theorem aHf:∀s,asN s→agj s:=by
 intro s h
 obtain ⟨h0,h1,h2,h3,h4,h5⟩:=h
 exact ⟨⟨by omega,by omega⟩,by rw [h0,h1];rfl,h2,h3,h4,h5⟩
theorem aEm (s:wB) (hI:agj s):bP (fun s'=>agj s'∧UY s'<UY s) (fun x s'=>aAl x s s') (aD1 s):=by
 unfold aD1 anT
 dsimp only [T.rd,T.rl]
 obtain ⟨⟨h0,h1⟩,h2,h3,h4,h5,h6⟩:=hI
 refine au (fun c1=>?_) (fun c1=>?_)
 ·have c1:s.i<s.n:=by simpa using c1
  have hs:=NH (cs:=s.aH) (gs:=s.l) (o:=s.b1) (k:=s.i.toNat)
  rw [show s.i.toNat+1=(s.i+1).toNat by omega,Int.toNat_of_nonneg h0] at hs
  rw [aN (x:=s.i+1) (by omega) (by omega)]
  refine au (fun c2=>?_) (fun c2=>?_)
  ·refine ⟨⟨⟨by simp only;omega,by simp only;omega⟩,?_,h3,h4,h5,h6⟩,by simp only [UY];omega⟩
   simp only
   rw [hs,if_pos c2,h2]
  ·refine ⟨⟨⟨by simp only;omega,by simp only;omega⟩,?_,h3,h4,h5,h6⟩,by simp only [UY];omega⟩
   simp only
   rw [hs,if_neg (by rw [c2];simp),h2,List.append_nil]
 ·have c1:s.n≤s.i:=by simpa using c1
  exact ⟨rfl,by rw [h2,show s.i.toNat=s.l.length by omega]⟩
def Xo:bQ wB:=⟨0,42,[6,7,26,27,28],[.nl 7 3 (.int .i64)],aHx,aHp,fun v b=>⟨aQ dK (v.getD 2 .junk),gI (v.getD 3 .junk),gI (v.getD 4 .junk),aQ eu (aV (aO b 0) 0),aQ .str (aV (aO b 0) 1),aQ eG (aV (aO b 0) 2),aQ dK (aV (aO b 0) 3),aQ eP (aV (aO b 0) 4),gI (aV (aO b 1) 0),jd (.int .i64) (aO b 2)⟩,anT,fun s r=> {r with l:=s.l,n:=s.n,aH:=s.aH,cu:=s.cu,bG:=s.bG,bK:=s.bK,eX:=s.eX,b1:=s.b1},fun s=>s,fun _ s=>s,[.exit 0],asN,agj,UY⟩
abbrev DW:=Xo.run
abbrev azB:=Xo.jU
abbrev aEC:=Xo.q
theorem aCl (s:wB) (hI:agj s):(anT s).all (fun _=>True):=by
 refine ⟨fun c1=>⟨?_,?_,fun c2=>⟨?_,?_,trivial⟩,fun c2=>⟨⟨rfl,rfl⟩,trivial⟩⟩,fun c1=>⟨⟨rfl,rfl⟩,trivial⟩⟩
 all_goals ((obtain ⟨⟨h0,h1⟩,h2,h3,h4,h5,h6⟩:=hI;have hol:s.out.length≤s.i.toNat:=(by rw [h2];exact Dt);(try simp only [decide_eq_true_eq] at c1);first|omega|exact ⟨h5,SC h6 h0 (by omega)⟩ |(refine ⟨by omega,?_,?_⟩<;>simp only [List.length_cons,List.length_nil]<;>omega) |exact ⟨rfl,by simp⟩ |exact ⟨rfl,rfl⟩))
noncomputable def Vp:Specs:=bf [(53,qU),(103,alV),(104,vK)]
theorem acs:∀g S,Vp g=some S→Valid Tryz.prog aS g S:=aT (l:=[(53,qU),(103,alV),(104,vK)]) ⟨Ig,aBN,O4,trivial⟩
noncomputable def akA:Hand:=inl Tryz.prog aS Vp (kH Tryz.prog aS (Vp) 20 2) 9
theorem atJ:cZ Tryz.prog aS akA:=bM acs (dI acs) 9
theorem atn:Xo.Ok:=⟨fun s=>by kernel_rfl,fun s=>by kernel_rfl,fun s=>rfl,fun s t r=>rfl,fun s=>rfl,fun s=>by kernel_rfl⟩
theorem atd:Xo.Pf (aAl):=⟨aHf,fun _ _=>rfl,aEm,aCl⟩
theorem awH:bn Tryz.prog aS (AN 0) (.loop H6) Xo.lp:=bQ.snd atn atd (aU (Γ:=Vp) (K:=akA) (L:=aC) acs atJ H6 (fun b hb=>by rw [show aB H6=[] by kernel_rfl] at hb;cases hb)) (fun s=>by kernel_rfl)
theorem az5 (s:wB) (hE:asN s):∃s',agj s'∧aAl (azB s) s' (DW s):=bQ.fin atn atd s hE
def WI:List LV→T LV
 | [.agg [.xl (.pair .str (.pair (.int .i64) (.pair (.int .i64) (.pair (.int .i64) (.pair (.pair (.int .i64) (.int .i64)) (.pair (.int .i64) (.pair (.int .i64) (.pair (.int .i64) (.pair (.int .i64) (.int .i64)))))))))) cs,.xl (.str) os,.xl (.pair .str (.pair (.int .i64) (.pair (.int .i64) (.int .i64)))) ks,.xl (.pair .str (.pair (.int .i64) (.pair (.int .i64) (.pair (.int .i64) (.pair (.int .i64) (.pair (.int .i64) (.pair (.int .i64) (.int .i64)))))))) gs,.xl (.pair .str (.int .i64)) bs],.v (.int .i64 o)]=> .ok (.gQ [.xl (.int .i64) (bY cs os ks gs bs o),.v (.int .i64 (az8 cs os ks gs bs o))])
 |_=> .no
noncomputable def SY:List LV→T LV:=gZ Tryz.prog Tryz.f55.params.toList WI
theorem ajK (cs:List Cd) (os:List ByteArray) (ks:List Ko) (gs:List Ch) (bs:List Ba) (o:Int):bW Tryz.prog aS (Vp) akA (fun i=>if i=6 then Xo.lp else aC i) Tryz.f55 [.agg [.xl eu cs,.xl .str os,.xl eG ks,.xl dK gs,.xl eP bs],.v (.int .i64 o)]=.br ((!(dL cs os ks gs bs)) ||((decide (o<0)) ||(decide (o≥(List.length cs:Int))))) (.ok (.gQ [.xl (.int .i64) ([]:List Int),.v (.int .i64 1)])) (.req (0=0∧0=List.length ([]:List Int)) (.req (aEC (⟨gs,(List.length gs:Int),(0:Int),cs,os,ks,gs,bs,o,([]:List Int)⟩:wB)) (.req (0+(List.length (DW (⟨gs,(List.length gs:Int),(0:Int),cs,os,ks,gs,bs,o,([]:List Int)⟩:wB)).out)≤List.length (DW (⟨gs,(List.length gs:Int),(0:Int),cs,os,ks,gs,bs,o,([]:List Int)⟩:wB)).out) (.ok (.gQ [.xl (.int .i64) (((DW (⟨gs,(List.length gs:Int),(0:Int),cs,os,ks,gs,bs,o,([]:List Int)⟩:wB)).out.drop 0).take (List.length (DW (⟨gs,(List.length gs:Int),(0:Int),cs,os,ks,gs,bs,o,([]:List Int)⟩:wB)).out)),.v (.int .i64 0)]))))):=by kernel_rfl
theorem anM:Valid Tryz.prog aS 55 SY:=aI Tryz.func55 rfl acs atJ (L:=(fun i=>if i=6 then Xo.lp else aC i)) (fun b hb=>by
 rw [show aB _=[H6] by kernel_rfl] at hb
 simp only [List.mem_cons,List.not_mem_nil,or_false] at hb
 subst hb
 exact awH) (fun args lv h=>by
 unfold WI at h
 split at h
 ·simp only [canL,canX]
  rw [ajK]
  rename_i cs os ks gs bs o
  obtain rfl:=h
  refine ⟨fun c=>?_,fun c=>?_⟩
  ·have hn:¬(dL cs os ks gs bs=true∧0≤o∧o<(cs.length:Int)):=by
    rintro ⟨h1,h2,h3⟩
    rw [h1] at c
    simp at c
    omega
   show LV.gQ _=_
   unfold bY az8
   rw [if_neg hn,if_neg hn]
  ·simp only [Bool.or_eq_false_iff,Bool.not_eq_false',decide_eq_false_iff_not] at c
   have hp:dL cs os ks gs bs=true∧0≤o∧o<(cs.length:Int):=⟨c.1,by omega,by omega⟩
   have hl:=(fG.1 c.1).1
   have hE:asN ⟨gs,(List.length gs:Int),(0:Int),cs,os,ks,gs,bs,o,([]:List Int)⟩:=⟨rfl,rfl,rfl,by simp only;omega,Ac c.1,Ad c.1⟩
   obtain ⟨s',_,q1,q2⟩:=az5 _ hE
   have q2:(DW ⟨gs,(List.length gs:Int),(0:Int),cs,os,ks,gs,bs,o,([]:List Int)⟩).out=jR cs gs o gs.length:=q2
   refine ⟨⟨rfl,rfl⟩,⟨hE,rfl,rfl⟩,by omega,?_⟩
   show LV.gQ [LV.xl _ _,_]=_
   rw [List.drop_zero,List.take_length,q2]
   unfold bY az8
   rw [if_pos hp,if_pos hp]
 ·cases h)
end Go.Proofs.YtlihnbimgclogaaGreatDoor
namespace Go.Proofs.YtlihnbimgclogaaGreatDoor
open Go.Sx
def aeL:List LV→T LV
 | [.v (.agg ⟨[.int .i64 am,.int .i64 mo,.int .i64 ga,.int .i64 lo,.int .i64 de]⟩)]=> .ok (.v (.bool (Sj (am,mo,ga,lo,de))))
 |_=> .no
noncomputable def aaj:List LV→T LV:=gZ Tryz.prog Tryz.f130.params.toList aeL
noncomputable def Nr:Specs:=bf []
theorem Vh:∀g S,Nr g=some S→Valid Tryz.prog aS g S:=aT (l:=[]) trivial
noncomputable def atT:Hand:=inl Tryz.prog aS Nr (kH Tryz.prog aS (Nr) 20 2) 9
theorem aDt:cZ Tryz.prog aS atT:=bM Vh (dI Vh) 9
theorem aqI (am mo ga lo de:Int):bW Tryz.prog aS (Nr) atT aC Tryz.f130 [.v (.agg #[.int .i64 am,.int .i64 mo,.int .i64 ga,.int .i64 lo,.int .i64 de])]=.br ((am==0)&&((mo==0)&&((ga==0)&&((lo==0)&&(de==0))))) (.ok (.v (.bool true))) (.br ((decide (am≥0))&&(decide (am≤200000))) (.br (decide (mo>am)) (.br (decide (mo≤200000)) (.br ((decide (ga≥0))&&(decide (ga≤1000))) (.br ((decide (lo≥0))&&(decide (lo≤1000))) (.ok (.v (.bool ((decide (de≥1))&&(decide (de≤1000000)))))) (.ok (.v (.bool false)))) (.ok (.v (.bool false)))) (.ok (.v (.bool false)))) (.ok (.v (.bool false)))) (.ok (.v (.bool false)))):=by kernel_rfl
theorem awm:Valid Tryz.prog aS 130 aaj:=aI Tryz.func130 rfl Vh aDt (aY (by kernel_rfl)) (fun args lv h=>by
 unfold aeL at h
 split at h
 ·simp only [canL,canX]
  rw [aqI]
  rename_i am mo ga lo de
  obtain rfl:=h
  unfold Sj cbZ
  simp only
  refine ⟨fun c=>by rw [c];rfl,fun c=>?_⟩
  rw [c,Bool.false_or]
  unfold inB
  refine ⟨fun c1=>⟨fun c2=>⟨fun c3=>⟨fun c4=>⟨fun c5=>?_,fun c5=>?_⟩,fun c4=>?_⟩,fun c3=>?_⟩,fun c2=>?_⟩,fun c1=>?_⟩
  all_goals refine congrArg (fun z=>LV.v (.bool z)) ?_
  all_goals
   rw [Bool.eq_iff_iff]
   simp only [Bool.and_eq_true,Bool.and_eq_false_iff,decide_eq_true_eq,decide_eq_false_iff_not,Bool.false_eq_true] at*
   constructor<;>intro hz<;>first|exact hz.elim|(exfalso;omega) |omega
 ·cases h)
def adS:List LV→T LV
 | [.xq 6 q0]=>(match ([q0 0,q0 1,q0 2,q0 3,q0 4,q0 5]:List LV) with
  | [.v (.int .i64 _),.v (.int .i64 _),.v (.int .i64 _),.v (.int .i64 lo),.v (.int .i64 de),.v (.int .i64 _)]=> .ok (.v (.int .i64 (if de<lo then de else lo)))
  |_=> .no)
 |_=> .no
noncomputable def Zx:List LV→T LV:=gZ Tryz.prog Tryz.f132.params.toList adS
theorem apR (am mo ga lo de now:Int):bW Tryz.prog aS (Nr) fE aC Tryz.f132 [.xq 6 (fun j=>([.v (.int .i64 am),.v (.int .i64 mo),.v (.int .i64 ga),.v (.int .i64 lo),.v (.int .i64 de),.v (.int .i64 now)]:List LV).getD j .junk)]=.ok (.v (.int .i64 (if de<lo then de else lo))):=by kernel_rfl
theorem avI:Valid Tryz.prog aS 132 Zx:=aI Tryz.func132 rfl Vh aG (aY (by kernel_rfl)) (fun args lv h=>by
 unfold adS at h
 split at h
 ·split at h
  case h_2=>cases h
  rename_i heq0
  simp only [canL,canX]
  rw [pM (n:=6) heq0]
  simp only [canL,canX]
  rw [apR]
  exact h
 ·cases h)
def adR:List LV→T LV
 | [.xq 6 q0]=>(match ([q0 0,q0 1,q0 2,q0 3,q0 4,q0 5]:List LV) with
  | [.v (.int .i64 am),.v (.int .i64 mo),.v (.int .i64 ga),.v (.int .i64 lo),.v (.int .i64 de),.v (.int .i64 _)]=> .ok (.v (.bool (cbZ (am,mo,ga,lo,de))))
  |_=> .no)
 |_=> .no
noncomputable def Zw:List LV→T LV:=gZ Tryz.prog Tryz.f131.params.toList adR
theorem apQ (am mo ga lo de now:Int):bW Tryz.prog aS (Nr) fE aC Tryz.f131 [.xq 6 (fun j=>([.v (.int .i64 am),.v (.int .i64 mo),.v (.int .i64 ga),.v (.int .i64 lo),.v (.int .i64 de),.v (.int .i64 now)]:List LV).getD j .junk)]=.ok (.v (.bool ((am==0)&&((mo==0)&&((ga==0)&&((lo==0)&&(de==0))))))):=by kernel_rfl
theorem avH:Valid Tryz.prog aS 131 Zw:=aI Tryz.func131 rfl Vh aG (aY (by kernel_rfl)) (fun args lv h=>by
 unfold adR at h
 split at h
 ·split at h
  case h_2=>cases h
  rename_i heq0
  simp only [canL,canX]
  rw [pM (n:=6) heq0]
  simp only [canL,canX]
  rw [apQ]
  exact h
 ·cases h)
structure zQ where
 low:Int
 high:Int
 zK:Int
 Sz:Int
 SB:Int
 SA:Int
 Zp:Int
 JS:Int
 b11:Int
 b12:Int
 b13:Int
 b14:Int
 Zo:Int
 b3:Int
def aHw (s:zQ):List LV:=[.v (.int .i64 s.low),.v (.int .i64 s.high),.fn 134 [.own 2 0,.own 3 0]]
def aHo (s:zQ):List aW:=[⟨[.v (.int .i64 s.zK),.v (.int .i64 s.Sz),.v (.int .i64 s.SB),.v (.int .i64 s.SA),.v (.int .i64 s.Zp)],103,.cl,false⟩,⟨[.v (.int .i64 s.JS),.v (.int .i64 s.b11),.v (.int .i64 s.b12),.v (.int .i64 s.b13),.v (.int .i64 s.b14),.v (.int .i64 s.Zo)],190,.cl,false⟩,⟨[.own 1 0],188,.cl,false⟩,⟨[.v (.int .i64 s.b3)],3,.cl,false⟩]
noncomputable def adK:Code:=((aB (Tryz.f133.body.getD .skip))[0]?).getD .skip
def anS (s:zQ):T (Rd zQ):=
 .br (decide (s.low<s.high)) (.req ((2:Int)≠0) (.br (decide ((IntKind.i64.wrap ((IntKind.i64.wrap (s.b12*(IntKind.i64.wrap (s.low+(IntKind.i64.wrap ((IntKind.i64.wrap ((IntKind.i64.wrap (s.high-s.low))+1)).tdiv 2))))))*(IntKind.i64.wrap (s.low+(IntKind.i64.wrap ((IntKind.i64.wrap ((IntKind.i64.wrap (s.high-s.low))+1)).tdiv 2))))))≤s.b3)) (.ok (.next {s with low:=(IntKind.i64.wrap (s.low+(IntKind.i64.wrap ((IntKind.i64.wrap ((IntKind.i64.wrap (s.high-s.low))+1)).tdiv 2))))})) (.ok (.next {s with high:=(IntKind.i64.wrap ((IntKind.i64.wrap (s.low+(IntKind.i64.wrap ((IntKind.i64.wrap ((IntKind.i64.wrap (s.high-s.low))+1)).tdiv 2))))-1))})))) (.ok (.stop (.exit 0) s))
abbrev aD0 (s:zQ):=(anS s).rd s
def aA5 (s:zQ):Prop:=s.low=0∧s.high=1000∧(0≤s.b12∧s.b12≤1000)∧0≤s.b3
def agi (s:zQ):Prop:=(0≤s.low∧s.low≤s.high∧s.high≤1000)∧s.b12*s.low*s.low≤s.b3∧(∀a:Int,s.high<a→a≤1000→¬s.b12*a*a≤s.b3)∧(0≤s.b12∧s.b12≤1000)∧0≤s.b3
def UX (s:zQ):Nat:=(s.high-s.low).toNat
def aAk (x:Ex) (_ s':zQ):Prop:=x=.exit 0∧s'.low=prm s'.b12 s'.b3
theorem aG7:∀s,aA5 s→agi s:=by
 intro s h
 obtain ⟨h0,h1,h2,h3⟩:=h
 exact ⟨by omega,by rw [h0];simpa using h3,fun a h h2=>by omega,h2,h3⟩
theorem aDA (s:zQ) (hI:agi s):bP (fun s'=>agi s'∧UX s'<UX s) (fun x s'=>aAk x s s') (aD0 s):=by
 unfold aD0 anS
 dsimp only [T.rd,T.rl]
 obtain ⟨⟨h0,h1,h2⟩,h3,h4,⟨h5,h6⟩,h7⟩:=hI
 have em:s.low<s.high→IntKind.i64.wrap (s.low+IntKind.i64.wrap ((IntKind.i64.wrap (IntKind.i64.wrap (s.high-s.low)+1)).tdiv 2))=s.low+(s.high-s.low+1) / 2:=fun c=>by
  rw [aN (x:=s.high-s.low) (by omega) (by omega),aN (x:=s.high-s.low+1) (by omega) (by omega),Int.tdiv_eq_ediv_of_nonneg (by omega),aN (x:=(s.high-s.low+1) / 2) (by omega) (by omega),aN (by omega) (by omega)]
 refine au (fun c1=>?_) (fun c1=>?_)
 ·have c1:s.low<s.high:=by simpa using c1
  rw [em c1]
  have hm1:s.low<s.low+(s.high-s.low+1) / 2:=by omega
  have hm2:s.low+(s.high-s.low+1) / 2≤s.high:=by omega
  generalize s.low+(s.high-s.low+1) / 2=m at hm1 hm2⊢
  obtain ⟨⟨b1,b2⟩,b3,b4⟩:=aB2 h5 h6 (m:=m) (by omega) (by omega)
  rw [aN (x:=s.b12*m) (by omega) (by omega),aN (x:=s.b12*m*m) (by omega) (by omega),aN (x:=m-1) (by omega) (by omega)]
  refine au (fun c2=>?_) (fun c2=>?_)
  ·have c2:s.b12*m*m≤s.b3:=by simpa using c2
   exact ⟨⟨⟨by simp only;omega,by simp only;omega,h2⟩,c2,h4,⟨h5,h6⟩,h7⟩,by simp only [UX];omega⟩
  ·have c2:¬s.b12*m*m≤s.b3:=by simpa using c2
   refine ⟨⟨⟨h0,by simp only;omega,by simp only;omega⟩,h3,fun a ha hk=>?_,⟨h5,h6⟩,h7⟩,by simp only [UX];omega⟩
   have:=anW h5 (a:=m) (b:=a) (by omega) (by simp only at ha;omega)
   simp only
   omega
 ·have c1:s.high≤s.low:=by simpa using c1
  refine ⟨rfl,(abJ (k:=1000) h0 (by omega) (.inr h3) (fun a ha hk=>h4 a (by omega) (by omega))).symm⟩
def aau:bQ zQ:=⟨4,25,[0,1,2],[],aHw,aHo,fun v b=>⟨gI (v.getD 0 .junk),gI (v.getD 1 .junk),gI (aV (aO b 0) 0),gI (aV (aO b 0) 1),gI (aV (aO b 0) 2),gI (aV (aO b 0) 3),gI (aV (aO b 0) 4),gI (aV (aO b 1) 0),gI (aV (aO b 1) 1),gI (aV (aO b 1) 2),gI (aV (aO b 1) 3),gI (aV (aO b 1) 4),gI (aV (aO b 1) 5),gI (aV (aO b 3) 0)⟩,anS,fun s r=> {r with zK:=s.zK,Sz:=s.Sz,SB:=s.SB,SA:=s.SA,Zp:=s.Zp,JS:=s.JS,b11:=s.b11,b12:=s.b12,b13:=s.b13,b14:=s.b14,Zo:=s.Zo,b3:=s.b3},fun s=>s,fun _ s=>s,[.exit 0],aA5,agi,UX⟩
abbrev ag9:=aau.run
abbrev azA:=aau.jU
abbrev aEB:=aau.q
noncomputable def EY:Specs:=bf [(130,aaj),(131,Zw),(132,Zx)]
theorem Jv:∀g S,EY g=some S→Valid Tryz.prog aS g S:=aT (l:=[(130,aaj),(131,Zw),(132,Zx)]) ⟨awm,avH,avI,trivial⟩
noncomputable def akz:Hand:=inl Tryz.prog aS EY (kH Tryz.prog aS (EY) 20 2) 9
theorem atI:cZ Tryz.prog aS akz:=bM Jv (dI Jv) 9
theorem aCk (s:zQ) (_:agi s):(anS s).all (fun _=>True):=by
 refine ⟨fun c1=>⟨?_,fun _=>trivial,fun _=>trivial⟩,fun _=>trivial⟩
 ·(first|decide|omega)
theorem atm:aau.Ok:=⟨fun s=>by kernel_rfl,fun s=>by kernel_rfl,fun s=>rfl,fun s t r=>rfl,fun s=>rfl,fun s=>by kernel_rfl⟩
theorem atc:aau.Pf (aAk):=⟨aG7,fun _ _=>rfl,aDA,aCk⟩
theorem awG:bn Tryz.prog aS (AN 4) (.loop adK) aau.lp:=bQ.snd atm atc (bF (Γ:=EY) (K:=akz) (L:=(sO Tryz.prog aS EY akz 20 2)) Jv atI adK (fun b _=>dN Jv atI 20 2 b)) (fun s=>by kernel_rfl)
theorem azj (s:zQ) (hE:aA5 s):∃s',agi s'∧aAk (azA s) s' (ag9 s):=bQ.fin atm atc s hE
def aef:List LV→T LV
 | [.v (.agg ⟨[.int .i64 am,.int .i64 mo,.int .i64 ga,.int .i64 lo,.int .i64 de]⟩)]=> .ok (.v (.tuple #[.int .i64 (pmA (am,mo,ga,lo,de)),.int .i64 (pmE (am,mo,ga,lo,de))]))
 |_=> .no
noncomputable def ZO:List LV→T LV:=gZ Tryz.prog Tryz.f105.params.toList aef
noncomputable def atS:Hand:=inl Tryz.prog aS EY (jX 133 4 1 (aau.lp) (kH Tryz.prog aS (EY) 20 2)) 9
theorem aDs:cZ Tryz.prog aS atS:=bM Jv (dF Tryz.func133 rfl (by kernel_rfl) awG (dI Jv)) 9
theorem aqd (am mo ga lo de:Int):bW Tryz.prog aS (EY) atS aC Tryz.f105 [.v (.agg #[.int .i64 am,.int .i64 mo,.int .i64 ga,.int .i64 lo,.int .i64 de])]=.br (!(Sj (am,mo,ga,lo,de))) (.ok (.v (.tuple #[.int .i64 0,.int .i64 1]))) (.br (cbZ (am,mo,ga,lo,de)) (.ok (.v (.tuple #[.int .i64 1000,.int .i64 0]))) (.req (aEB (⟨(0:Int),(1000:Int),am,mo,ga,lo,de,am,mo,ga,lo,de,(0:Int),(IntKind.i64.wrap ((if de<lo then de else lo)*(IntKind.i64.wrap (mo-am))))⟩:zQ)) (.ok (.v (.tuple #[.int .i64 (ag9 (⟨(0:Int),(1000:Int),am,mo,ga,lo,de,am,mo,ga,lo,de,(0:Int),(IntKind.i64.wrap ((if de<lo then de else lo)*(IntKind.i64.wrap (mo-am))))⟩:zQ)).low,.int .i64 0]))))):=by kernel_rfl
theorem avY:Valid Tryz.prog aS 105 ZO:=aI Tryz.func105 rfl Jv aDs (aY (by kernel_rfl)) (fun args lv h=>by
 unfold aef at h
 split at h
 ·simp only [canL,canX]
  rw [aqd]
  rename_i am mo ga lo de
  obtain rfl:=h
  refine ⟨fun c=>?_,fun c=>⟨fun c2=>?_,fun c2=>?_⟩⟩
  ·have c:Sj (am,mo,ga,lo,de)=false:=by simpa using c
   simp [T.all,pmA,pmE,c]
  ·have c:Sj (am,mo,ga,lo,de)=true:=by simpa using c
   simp [T.all,pmA,pmE,c,c2]
  ·have c:Sj (am,mo,ga,lo,de)=true:=by simpa using c
   obtain ⟨⟨h1,h2,h3⟩,⟨h4,h5⟩,⟨h6,h7⟩,h8,h9⟩:=az4 c c2
   simp only at h1 h2 h3 h4 h5 h6 h7 h8 h9
   have hm:0≤(if de<lo then de else lo)∧(if de<lo then de else lo)≤1000:=by split<;>omega
   have e:pmA (am,mo,ga,lo,de)=prm ga ((if de<lo then de else lo)*(mo-am)):=by
    unfold pmA
    rw [if_pos c,if_neg (by rw [c2];simp)]
   have e2:pmE (am,mo,ga,lo,de)=0:=by
    unfold pmE
    rw [if_pos c]
   rw [e,e2,aN (x:=mo-am) (by omega) (by omega)]
   generalize (if de<lo then de else lo)=mn at hm⊢
   have a1:0≤mn*(mo-am):=Int.mul_nonneg hm.1 (by omega)
   have a2:mn*(mo-am)≤1000*(mo-am):=Int.mul_le_mul_of_nonneg_right hm.2 (by omega)
   rw [aN (x:=mn*(mo-am)) (by omega) (by omega)]
   refine oH ⟨⟨rfl,rfl,⟨h4,h5⟩,a1⟩,rfl,rfl⟩ (fun hE=>?_)
   obtain ⟨s',_,q1,q2⟩:=azj _ hE.1
   show LV.v (.tuple #[.int .i64 _,_])=_
   rw [q2]
   rfl
 ·cases h)
end Go.Proofs.YtlihnbimgclogaaGreatDoor
namespace Go.Proofs.YtlihnbimgclogaaGreatDoor
open Go.Sx
structure nJ where
 first:Int
 l:List Int
 n:Int
 i:Int
def aGj (s:nJ):List LV:=[.v (.int .i64 s.first),.xl (.int .i64) s.l,.v (.int .i64 s.n),.v (.int .i64 s.i)]
def aFg (_:nJ):List aW:=[]
noncomputable def CQ:Code:=((aB (Tryz.f106.body.getD .skip))[0]?).getD .skip
def Ud (s:nJ):T (Rd nJ):=
 .br (decide (s.i<s.n)) (.req (0≤s.i∧s.i<(List.length s.l:Int)) (.ok (.next {s with first:=(if (gi s.l s.i)<s.first then (gi s.l s.i) else s.first),i:=(IntKind.i64.wrap (s.i+1))}))) (.ok (.stop (.exit 0) s))
abbrev acV (s:nJ):=(Ud s).rd s
def ae8 (s:nJ):Prop:=s.i=0∧s.n=(s.l.length:Int)∧s.n≤1000
def Ox (s:nJ):Prop:=0≤s.i∧s.i≤s.n∧s.n=(s.l.length:Int)∧s.n≤1000
def Qw (s:nJ):Nat:=(s.n-s.i).toNat
def amP (x:Ex) (_ s':nJ):Prop:=x=.exit 0∧s'.i=s'.n
theorem aC8:∀s,ae8 s→Ox s:=by
 intro s h
 obtain ⟨h0,h1,h2⟩:=h
 exact ⟨by omega,by omega,h1,h2⟩
theorem ayV (s:nJ) (hI:Ox s):bP (fun s'=>Ox s'∧Qw s'<Qw s) (fun x s'=>amP x s s') (acV s):=by
 unfold acV Ud
 dsimp only [T.rd,T.rl]
 obtain ⟨h0,h1,h2,h3⟩:=hI
 refine au (fun c1=>?_) (fun c1=>?_)
 ·have c1:s.i<s.n:=by simpa using c1
  rw [aN (x:=s.i+1) (by omega) (by omega)]
  exact ⟨⟨by simp only;omega,by simp only;omega,h2,h3⟩,by simp only [Qw];omega⟩
 ·have c1:s.n≤s.i:=by simpa using c1
  exact ⟨rfl,by omega⟩
def Gf:bQ nJ:=⟨0,18,[0,7,8,9],[],aGj,aFg,fun v _=>⟨gI (v.getD 0 .junk),aQ (.int .i64) (v.getD 1 .junk),gI (v.getD 2 .junk),gI (v.getD 3 .junk)⟩,Ud,fun s r=> {r with l:=s.l,n:=s.n},fun s=>s,fun _ s=>s,[.exit 0],ae8,Ox,Qw⟩
abbrev Ai:=Gf.run
abbrev arP:=Gf.jU
abbrev aAZ:=Gf.q
theorem axw (s:nJ) (hI:Ox s):(Ud s).all (fun _=>True):=by
 refine ⟨fun c1=>⟨?_,trivial⟩,fun _=>trivial⟩
 ·(obtain ⟨h0,h1,h2,h3⟩:=hI;simp at c1;omega)
noncomputable def acA:Specs:=bf []
theorem akL:∀g S,acA g=some S→Valid Tryz.prog aS g S:=aT (l:=[]) trivial
theorem Ym:Gf.Ok:=⟨fun s=>by kernel_rfl,fun s=>by kernel_rfl,fun s=>rfl,fun s t r=>rfl,fun s=>rfl,fun s=>by kernel_rfl⟩
theorem X4:Gf.Pf (amP):=⟨aC8,fun _ _=>rfl,ayV,axw⟩
theorem aox:bn Tryz.prog aS (AN 0) (.loop CQ) Gf.lp:=bQ.snd Ym X4 (aU (Γ:=acA) (K:=fE) (L:=aC) akL aG CQ (fun b hb=>by rw [show aB CQ=[] by kernel_rfl] at hb;cases hb)) (fun s=>by kernel_rfl)
theorem aqZ (s:nJ) (hE:ae8 s):∃s',Ox s'∧amP (arP s) s' (Ai s):=bQ.fin Ym X4 s hE
theorem ajV (s:nJ) (hE:ae8 s):(fun s:nJ=>YA s.first (s.l.drop s.i.toNat)) (Ai s)=(fun s:nJ=>YA s.first (s.l.drop s.i.toNat)) s:=by
 exact bQ.uf Ym X4 (fun s:nJ=>YA s.first (s.l.drop s.i.toNat)) (fun s hI=>by
  show bP _ _ (acV s)
  unfold acV Ud
  dsimp only [T.rd,T.rl]
  obtain ⟨h0,h1,h2,h3⟩:=hI
  refine au (fun c1=>?_) (fun c1=>rfl)
  have c1:s.i<s.n:=by simpa using c1
  rw [aN (x:=s.i+1) (by omega) (by omega)]
  show YA _ _=YA _ _
  rw [(gi_step h0 (show s.i<s.l.length by omega)).1]
  rfl) s hE
def aes:List LV→T LV
 | [.v (.int .i64 f),.xl (.int .i64) l]=> .req ((List.length l:Int)≤1000) (.ok (.v (.int .i64 (YA f l))))
 |_=> .no
noncomputable def ZV:List LV→T LV:=gZ Tryz.prog Tryz.f106.params.toList aes
theorem aqp (f:Int) (l:List Int):bW Tryz.prog aS (acA) fE (fun i=>if i=2 then Gf.lp else aC i) Tryz.f106 [.v (.int .i64 f),.xl (.int .i64) l]=.req (aAZ (⟨f,l,(List.length l:Int),(0:Int)⟩:nJ)) (.ok (.v (.int .i64 (Ai (⟨f,l,(List.length l:Int),(0:Int)⟩:nJ)).first))):=by kernel_rfl
theorem av4:Valid Tryz.prog aS 106 ZV:=aI Tryz.func106 rfl akL aG (L:=(fun i=>if i=2 then Gf.lp else aC i)) (fun b hb=>by
 rw [show aB _=[CQ] by kernel_rfl] at hb
 simp only [List.mem_cons,List.not_mem_nil,or_false] at hb
 subst hb
 exact aox) (fun args lv h=>by
 unfold aes at h
 split at h
 ·simp only [canL,canX]
  rw [aqp]
  rename_i f l
  obtain ⟨hl,rfl⟩:=h
  refine oH ⟨⟨rfl,rfl,hl⟩,rfl,rfl⟩ (fun hE=>?_)
  obtain ⟨s',_,q1,q2⟩:=aqZ _ hE.1
  have q3:=ajV _ hE.1
  simp only at q3
  rw [q2] at q3
  have e:(Ai ⟨f,l,(List.length l:Int),(0:Int)⟩).n=(List.length l:Int):=rfl
  have e2:(Ai ⟨f,l,(List.length l:Int),(0:Int)⟩).l=l:=rfl
  rw [e,e2,List.drop_eq_nil_of_le (by omega)] at q3
  exact congrArg (fun z=>LV.v (.int .i64 z)) q3
 ·cases h)
def aen:List LV→T LV
 | [.v (.agg ⟨[.string nm,.int .i64 up_,.int .i64 li,.int .i64 ne,.int .i64 ra,.int .i64 he,.int .i64 am,.int .i64 mo,.int .i64 ga,.int .i64 lo,.int .i64 de]⟩)]=> .ok (.v (.int .i64 (bV (nm,up_,li,ne,(ra,he),am,mo,ga,lo,de))))
 |_=> .no
noncomputable def zO:List LV→T LV:=gZ Tryz.prog Tryz.f58.params.toList aen
noncomputable def aut:Specs:=bf [(105,ZO),(106,ZV)]
theorem aDM:∀g S,aut g=some S→Valid Tryz.prog aS g S:=aT (l:=[(105,ZO),(106,ZV)]) ⟨avY,av4,trivial⟩
theorem aql (nm:ByteArray) (up_ li ne ra he am mo ga lo de:Int):bW Tryz.prog aS (aut) fE aC Tryz.f58 [.v (.agg #[.string nm,.int .i64 up_,.int .i64 li,.int .i64 ne,.int .i64 ra,.int .i64 he,.int .i64 am,.int .i64 mo,.int .i64 ga,.int .i64 lo,.int .i64 de])]=.br ((pmE (am,mo,ga,lo,de)) !=0) (.br (ra==0) (.req ((List.length ([ne,(0:Int)]):Int)≤1000) (.ok (.v (.int .i64 (YA li ([ne,(0:Int)])))))) (.req ((List.length ([ne,(0:Int),ra]):Int)≤1000) (.ok (.v (.int .i64 (YA li ([ne,(0:Int),ra]))))))) (.br (ra==0) (.req ((List.length ([ne,(pmA (am,mo,ga,lo,de))]):Int)≤1000) (.ok (.v (.int .i64 (YA li ([ne,(pmA (am,mo,ga,lo,de))])))))) (.req ((List.length ([ne,(pmA (am,mo,ga,lo,de)),ra]):Int)≤1000) (.ok (.v (.int .i64 (YA li ([ne,(pmA (am,mo,ga,lo,de)),ra]))))))):=by kernel_rfl
theorem Xz:Valid Tryz.prog aS 58 zO:=aI Tryz.func58 rfl aDM aG (aY (by kernel_rfl)) (fun args lv h=>by
 unfold aen at h
 split at h
 ·simp only [canL,canX]
  rw [aql]
  rename_i nm up_ li ne ra he am mo ga lo de
  obtain rfl:=h
  unfold bV
  simp only
  refine ⟨fun c=>?_,fun c=>?_⟩
  ·have e:pmA (am,mo,ga,lo,de)=0:=by
    rw [apr] at c
    have c:Sj (am,mo,ga,lo,de)=false:=by simpa using c
    unfold pmA
    rw [c]
    rfl
   rw [e]
   refine ⟨fun c2=>⟨by simp,?_⟩,fun c2=>⟨by simp,?_⟩⟩
   ·rw [if_pos (by simpa using c2)];rfl
   ·rw [if_neg (by simpa using c2)];rfl
  ·refine ⟨fun c2=>⟨by simp,?_⟩,fun c2=>⟨by simp,?_⟩⟩
   ·rw [if_pos (by simpa using c2)];rfl
   ·rw [if_neg (by simpa using c2)];rfl
 ·cases h)
def ad2:List LV→T LV
 | [.v (.int .i64 k),.xq 5 q0,.xq 2 q1]=>(match ([q0 0,q0 1,q0 2,q0 3,q0 4]:List LV) with
  | [.xl (.pair .str (.pair (.int .i64) (.pair (.int .i64) (.pair (.int .i64) (.pair (.pair (.int .i64) (.int .i64)) (.pair (.int .i64) (.pair (.int .i64) (.pair (.int .i64) (.pair (.int .i64) (.int .i64)))))))))) _,.xl (.str) _,.xl (.pair .str (.pair (.int .i64) (.pair (.int .i64) (.int .i64)))) _,.xl (.pair .str (.pair (.int .i64) (.pair (.int .i64) (.pair (.int .i64) (.pair (.int .i64) (.pair (.int .i64) (.pair (.int .i64) (.int .i64)))))))) gs,.xl (.pair .str (.int .i64)) _]=>(match ([q1 0,q1 1]:List LV) with
  | [.v (.int .i64 _),.v (.int .i64 p)]=> .req ((0≤k∧k<(List.length gs:Int))∧0≤p) (.ok (.v (.bool (usA (bD gs k).2.2.1 p))))
  |_=> .no)
  |_=> .no)
 |_=> .no
noncomputable def J4:List LV→T LV:=gZ Tryz.prog Tryz.f57.params.toList ad2
theorem ap0 (k:Int) (cs:List Cd) (os:List ByteArray) (ks:List Ko) (gs:List Ch) (bs:List Ba) (c p:Int):bW Tryz.prog aS (acA) fE aC Tryz.f57 [.v (.int .i64 k),.xq 5 (fun j=>([.xl eu cs,.xl .str os,.xl eG ks,.xl dK gs,.xl eP bs]:List LV).getD j .junk),.xq 2 (fun j=>([.v (.int .i64 c),.v (.int .i64 p)]:List LV).getD j .junk)]=.req (0≤k∧k<(List.length gs:Int)) (.req (0≤p) (.ok (.v (.bool ((tH .i64 (bD gs k).2.2.1 (IntKind.i64.wrap ((1:Int)*2^(min p.toNat 64)))) !=0))))):=by kernel_rfl
theorem agA:Valid Tryz.prog aS 57 J4:=aI Tryz.func57 rfl akL aG (aY (by kernel_rfl)) (fun args lv h=>by
 unfold ad2 at h
 split at h
 ·split at h
  case h_2=>cases h
  rename_i heq0
  split at h
  case h_2=>cases h
  rename_i heq1
  simp only [canL,canX]
  rw [pM (n:=5) heq0]
  simp only [canL,canX]
  rw [pM (n:=2) heq1]
  simp only [canL,canX]
  rw [ap0]
  obtain ⟨⟨h1,h2⟩,h3⟩:=h
  exact ⟨h1,h2,h3⟩
 ·cases h)
structure kG where
 cs:List Cd
 os:List ByteArray
 ks:List Ko
 gs:List Ch
 bs:List Ba
 c:Int
 p:Int
 l:List Int
 n:Int
 i:Int
 out:List Int
def aGG (s:kG):List LV:=[.fn 57 [.xq 5 (fun j=>([.xl eu s.cs,.xl .str s.os,.xl eG s.ks,.xl dK s.gs,.xl eP s.bs]:List LV).getD j .junk),.xq 2 (fun j=>([.v (.int .i64 s.c),.v (.int .i64 s.p)]:List LV).getD j .junk)],.os 0 1 0 (List.length s.out),.xl (.int .i64) s.l,.v (.int .i64 s.n),.v (.int .i64 s.i)]
def aFD (s:kG):List aW:=[⟨[],3,.vec (.int .i64) s.out,false⟩]
noncomputable def Dl:Code:=((aB (Tryz.f56.body.getD .skip))[0]?).getD .skip
def Un (s:kG):T (Rd kG):=
 .br (decide (s.i<s.n)) (.req (0≤s.i∧s.i<(List.length s.l:Int)) (.req ((0≤(gi s.l s.i)∧(gi s.l s.i)<(List.length s.gs:Int))∧0≤s.p) (.br (usA (bD s.gs (gi s.l s.i)).2.2.1 s.p) (.req (0+(List.length s.out)=List.length s.out∧((List.length s.out+List.length ([(gi s.l s.i)]):Nat):Int)*8≤2^47∧((List.length s.out+List.length ([(gi s.l s.i)]):Nat):Int)<2^62) (.req (0=0∧(List.length s.out+List.length ([(gi s.l s.i)]))=List.length (s.out++([(gi s.l s.i)]))) (.ok (.next {s with i:=(IntKind.i64.wrap (s.i+1)),out:=(s.out++([(gi s.l s.i)]))})))) (.rl s.out (.ok (.next {s with i:=(IntKind.i64.wrap (s.i+1))})))))) (.rl s.out (.ok (.stop (.exit 0) s)))
abbrev ac5 (s:kG):=(Un s).rd s
def Xj (s:kG):Prop:=s.i=0∧s.out=[]∧s.n=(s.l.length:Int)∧s.n≤1000∧0≤s.p∧∀k∈s.l,0≤k∧k<(s.gs.length:Int)
def OT (s:kG):Prop:=(0≤s.i∧s.i≤s.n)∧(s.out.length:Int)≤s.i∧s.n=(s.l.length:Int)∧s.n≤1000∧0≤s.p∧∀k∈s.l,0≤k∧k<(s.gs.length:Int)
def Ja (s:kG):Nat:=(s.n-s.i).toNat
def am1 (x:Ex) (_ s':kG):Prop:=x=.exit 0∧s'.i=s'.n
theorem aEk:∀s,Xj s→OT s:=by
 intro s h
 obtain ⟨h0,h1,h2,h3,h4,h5⟩:=h
 exact ⟨by omega,by rw [h1];simp;omega,h2,h3,h4,h5⟩
theorem az1 (s:kG) (hI:OT s):bP (fun s'=>OT s'∧Ja s'<Ja s) (fun x s'=>am1 x s s') (ac5 s):=by
 unfold ac5 Un
 dsimp only [T.rd,T.rl]
 obtain ⟨⟨h0,h1⟩,h2,h3,h4,h5,h6⟩:=hI
 refine au (fun c1=>?_) (fun c1=>?_)
 ·have c1:s.i<s.n:=by simpa using c1
  rw [aN (x:=s.i+1) (by omega) (by omega)]
  refine au (fun c2=>?_) (fun c2=>?_)
  ·exact ⟨⟨⟨by simp only;omega,by simp only;omega⟩,by simp only [List.length_append,List.length_cons,List.length_nil];omega,h3,h4,h5,h6⟩,by simp only [Ja];omega⟩
  ·exact ⟨⟨⟨by simp only;omega,by simp only;omega⟩,by simp only;omega,h3,h4,h5,h6⟩,by simp only [Ja];omega⟩
 ·have c1:s.n≤s.i:=by simpa using c1
  exact ⟨rfl,by omega⟩
def Gy:bQ kG:=⟨0,23,[1,5,8,9,10],[.nl 5 3 (.int .i64)],aGG,aFD,fun v b=>⟨aQ eu (lW (gFn (v.getD 0 .junk) 0) 0),aQ .str (lW (gFn (v.getD 0 .junk) 0) 1),aQ eG (lW (gFn (v.getD 0 .junk) 0) 2),aQ dK (lW (gFn (v.getD 0 .junk) 0) 3),aQ eP (lW (gFn (v.getD 0 .junk) 0) 4),gI (lW (gFn (v.getD 0 .junk) 1) 0),gI (lW (gFn (v.getD 0 .junk) 1) 1),aQ (.int .i64) (v.getD 2 .junk),gI (v.getD 3 .junk),gI (v.getD 4 .junk),jd (.int .i64) (aO b 0)⟩,Un,fun s r=> {r with cs:=s.cs,os:=s.os,ks:=s.ks,gs:=s.gs,bs:=s.bs,c:=s.c,p:=s.p,l:=s.l,n:=s.n},fun s=>s,fun _ s=>s,[.exit 0],Xj,OT,Ja⟩
abbrev qo:=Gy.run
abbrev arZ:=Gy.jU
abbrev aBm:=Gy.q
theorem axT (s:kG) (hI:OT s):(Un s).all (fun _=>True):=by
 refine ⟨fun c1=>⟨?_,?_,fun c2=>⟨?_,?_,trivial⟩,fun c2=>⟨⟨rfl,rfl⟩,trivial⟩⟩,fun c1=>⟨⟨rfl,rfl⟩,trivial⟩⟩
 all_goals ((obtain ⟨⟨h0,h1⟩,h2,h3,h4,h5,h6⟩:=hI;(try simp only [decide_eq_true_eq] at c1);first|omega|(refine ⟨h6 _ ?_,h5⟩;rw [pX (by omega)];exact List.getElem_mem _) |(refine ⟨by omega,?_,?_⟩<;>simp only [List.length_cons,List.length_nil]<;>omega) |exact ⟨rfl,by simp⟩ |exact ⟨rfl,rfl⟩))
noncomputable def ak3:Specs:=bf [(57,J4)]
theorem aug:∀g S,ak3 g=some S→Valid Tryz.prog aS g S:=aT (l:=[(57,J4)]) ⟨agA,trivial⟩
theorem Yo:Gy.Ok:=⟨fun s=>by kernel_rfl,fun s=>by kernel_rfl,fun s=>rfl,fun s t r=>rfl,fun s=>rfl,fun s=>by kernel_rfl⟩
theorem X6:Gy.Pf (am1):=⟨aEk,fun _ _=>rfl,az1,axT⟩
theorem aoR:bn Tryz.prog aS (AN 0) (.loop Dl) Gy.lp:=bQ.snd Yo X6 (aU (Γ:=ak3) (K:=fE) (L:=aC) aug aG Dl (fun b hb=>by rw [show aB Dl=[] by kernel_rfl] at hb;cases hb)) (fun s=>by kernel_rfl)
theorem asv (s:kG) (hE:Xj s):∃s',OT s'∧am1 (arZ s) s' (qo s):=bQ.fin Yo X6 s hE
theorem alz (s:kG) (hE:Xj s):(fun s:kG=>s.out++fP s.gs s.p (s.l.drop s.i.toNat)) (qo s)=(fun s:kG=>s.out++fP s.gs s.p (s.l.drop s.i.toNat)) s:=by
 exact bQ.uf Yo X6 (fun s:kG=>s.out++fP s.gs s.p (s.l.drop s.i.toNat)) (fun s hI=>by
  show bP _ _ (ac5 s)
  unfold ac5 Un
  dsimp only [T.rd,T.rl]
  obtain ⟨⟨h0,h1⟩,h2,h3,h4,h5,h6⟩:=hI
  refine au (fun c1=>?_) (fun c1=>rfl)
  have c1:s.i<s.n:=by simpa using c1
  rw [aN (x:=s.i+1) (by omega) (by omega)]
  refine au (fun c2=>?_) (fun c2=>?_)
  ·show _++fP _ _ _=_++fP _ _ _
   rw [(gi_step h0 (show s.i<s.l.length by omega)).1]
   simp [fP,c2]
  ·show _++fP _ _ _=_++fP _ _ _
   rw [(gi_step h0 (show s.i<s.l.length by omega)).1]
   simp [fP,c2]) s hE
theorem asu (s:kG) (hE:Xj s):(qo s).out=fP s.gs s.p s.l:=by
 obtain ⟨s',_,q1,q2⟩:=asv s hE
 have q3:=alz s hE
 obtain ⟨h0,h1,h2,h3⟩:=hE
 simp only at q3
 rw [q2,show (qo s).n=s.n from rfl,show (qo s).l=s.l from rfl,List.drop_eq_nil_of_le (by omega),h0,h1] at q3
 simpa [fP] using q3
def aeO:List LV→T LV
 | [.xl (.int .i64) l,.fn 57 [.xq 5 q0,.xq 2 q1]]=>(match ([q0 0,q0 1,q0 2,q0 3,q0 4]:List LV) with
  | [.xl (.pair .str (.pair (.int .i64) (.pair (.int .i64) (.pair (.int .i64) (.pair (.pair (.int .i64) (.int .i64)) (.pair (.int .i64) (.pair (.int .i64) (.pair (.int .i64) (.pair (.int .i64) (.int .i64)))))))))) _,.xl (.str) _,.xl (.pair .str (.pair (.int .i64) (.pair (.int .i64) (.int .i64)))) _,.xl (.pair .str (.pair (.int .i64) (.pair (.int .i64) (.pair (.int .i64) (.pair (.int .i64) (.pair (.int .i64) (.pair (.int .i64) (.int .i64)))))))) gs,.xl (.pair .str (.int .i64)) _]=>(match ([q1 0,q1 1]:List LV) with
  | [.v (.int .i64 _),.v (.int .i64 p)]=> .req (VI gs p l) (.ok (.xl (.int .i64) (fP gs p l)))
  |_=> .no)
  |_=> .no)
 |_=> .no
noncomputable def aam:List LV→T LV:=gZ Tryz.prog Tryz.f56.params.toList aeO
theorem aqL (l:List Int) (cs:List Cd) (os:List ByteArray) (ks:List Ko) (gs:List Ch) (bs:List Ba) (c p:Int):bW Tryz.prog aS (ak3) fE (fun i=>if i=3 then Gy.lp else aC i) Tryz.f56 [.xl (.int .i64) l,.fn 57 [.xq 5 (fun j=>([.xl eu cs,.xl .str os,.xl eG ks,.xl dK gs,.xl eP bs]:List LV).getD j .junk),.xq 2 (fun j=>([.v (.int .i64 c),.v (.int .i64 p)]:List LV).getD j .junk)]]=.req (0=0∧0=List.length ([]:List Int)) (.req (aBm (⟨cs,os,ks,gs,bs,c,p,l,(List.length l:Int),(0:Int),([]:List Int)⟩:kG)) (.req (0+(List.length (qo (⟨cs,os,ks,gs,bs,c,p,l,(List.length l:Int),(0:Int),([]:List Int)⟩:kG)).out)≤List.length (qo (⟨cs,os,ks,gs,bs,c,p,l,(List.length l:Int),(0:Int),([]:List Int)⟩:kG)).out) (.ok (.xl (.int .i64) (((qo (⟨cs,os,ks,gs,bs,c,p,l,(List.length l:Int),(0:Int),([]:List Int)⟩:kG)).out.drop 0).take (List.length (qo (⟨cs,os,ks,gs,bs,c,p,l,(List.length l:Int),(0:Int),([]:List Int)⟩:kG)).out)))))):=by kernel_rfl
theorem awp:Valid Tryz.prog aS 56 aam:=aI Tryz.func56 rfl aug aG (L:=(fun i=>if i=3 then Gy.lp else aC i)) (fun b hb=>by
 rw [show aB _=[Dl] by kernel_rfl] at hb
 simp only [List.mem_cons,List.not_mem_nil,or_false] at hb
 subst hb
 exact aoR) (fun args lv h=>by
 unfold aeO at h
 split at h
 ·split at h
  case h_2=>cases h
  rename_i heq0
  split at h
  case h_2=>cases h
  rename_i heq1
  simp only [canL,canX]
  rw [pM (n:=5) heq0]
  simp only [canL,canX]
  rw [pM (n:=2) heq1]
  simp only [canL,canX]
  rw [aqL]
  obtain ⟨⟨hp,hl,hm⟩,rfl⟩:=h
  refine ⟨⟨rfl,rfl⟩,oH ⟨⟨rfl,rfl,rfl,by simp only;omega,hp,hm⟩,rfl,rfl⟩ (fun hE=>⟨by omega,?_⟩)⟩
  show LV.xl _ _=_
  rw [List.drop_zero,List.take_length,asu _ hE.1]
 ·cases h)
end Go.Proofs.YtlihnbimgclogaaGreatDoor
namespace Go.Proofs.YtlihnbimgclogaaGreatDoor
open Go.Sx
noncomputable def ahg:Array Tmp×Code×Code:=((ja (Tryz.f24.body.getD .skip))[0]?).getD (#[],.skip,.skip)
noncomputable def aCp:Array Tmp:=ahg.1
noncomputable def aCK:Code:=ahg.2.1
noncomputable def aCE:Code:=ahg.2.2
structure wz where
 n:Int
 c:Int
 ah:List Cd
 aK:List ByteArray
 aF:List Ko
 aj:List Ch
 aX:List Ba
 below:List Int
 bU:List Cd
 fB:List ByteArray
 bZ:List Ko
 dn:List Ch
 iQ:List Ba
 rows:List Rw
 st:LS
def aHs (s:wz):List LV:=[.tN 4,.v (.int .i64 s.n),.v (.int .i64 s.c)]
noncomputable def aHk (s:wz):List aW:=[⟨[.xl eu s.ah,.xl .str s.aK,.xl eG s.aF,.xl dK s.aj,.xl eP s.aX],28,.cl,true⟩,⟨[.os 5 2 0 (List.length s.rows)],49,.cl,false⟩,⟨[.xl (.int .i64) s.below],35,.cl,false⟩,⟨[.xl eu s.bU,.xl .str s.fB,.xl eG s.bZ,.xl dK s.dn,.xl eP s.iQ],28,.cl,false⟩,⟨[.junk,.own 0 0,.junk,.junk,.own 1 0,.own 2 0,.v (.tuple #[]),.v (.tuple #[]),.junk,.junk,.junk,.junk,.junk,.v (.tuple #[]),.v (.tuple #[]),.v (.tuple #[]),.v (.tuple #[]),.v (.tuple #[]),.v (.tuple #[]),.v (.tuple #[]),.v (.tuple #[]),.v (.tuple #[]),.v (.tuple #[]),.junk,.v (.tuple #[]),.v (.tuple #[]),.v (.tuple #[]),.v (.tuple #[]),.v (.tuple #[]),.v (.tuple #[]),.v (.tuple #[]),.v (.tuple #[]),.v (.tuple #[]),.v (.tuple #[]),.v (.tuple #[]),.v (.tuple #[]),.v (.tuple #[]),.v (.tuple #[]),.v (.tuple #[]),.v (.tuple #[]),.v (.tuple #[]),.v (.tuple #[]),.junk],0,.jZ aCp aCK aCE s.st,false⟩,⟨[],107,.vec GY s.rows,false⟩]
noncomputable def adI:Code:=((aB (Tryz.f101.body.getD .skip))[0]?).getD .skip
set_option maxHeartbeats 4000000 in
def anQ (s:wz):T (Rd wz):=
 .br (decide (s.c<s.n)) (.req (VI s.aj (0:Int) (bY s.ah s.aK s.aF s.aj s.aX s.c)) (.br (decide ((List.length (fP s.aj (0:Int) (bY s.ah s.aK s.aF s.aj s.aX s.c)):Int)>0)) (.req (0≤s.c∧s.c<(List.length s.ah:Int)) (.req (0+(List.length s.rows)=List.length s.rows∧((List.length s.rows+List.length ([((bV (dY s.ah s.c)),fP s.aj (0:Int) (bY s.ah s.aK s.aF s.aj s.aX s.c))]):Nat):Int)*32≤2^47∧((List.length s.rows+List.length ([((bV (dY s.ah s.c)),fP s.aj (0:Int) (bY s.ah s.aK s.aF s.aj s.aX s.c))]):Nat):Int)<2^62) (.req (VI s.aj (1:Int) (bY s.ah s.aK s.aF s.aj s.aX s.c)) (.br (decide ((List.length (fP s.aj (1:Int) (bY s.ah s.aK s.aF s.aj s.aX s.c)):Int)>0)) (.req (0≤s.c∧s.c<(List.length s.ah:Int)) (.req (0+(List.length s.rows+List.length ([((bV (dY s.ah s.c)),fP s.aj (0:Int) (bY s.ah s.aK s.aF s.aj s.aX s.c))]))=List.length (s.rows++([((bV (dY s.ah s.c)),fP s.aj (0:Int) (bY s.ah s.aK s.aF s.aj s.aX s.c))]))∧((List.length s.rows+List.length ([((bV (dY s.ah s.c)),fP s.aj (0:Int) (bY s.ah s.aK s.aF s.aj s.aX s.c))])+List.length ([((bV (dY s.ah s.c)),fP s.aj (1:Int) (bY s.ah s.aK s.aF s.aj s.aX s.c))]):Nat):Int)*32≤2^47∧((List.length s.rows+List.length ([((bV (dY s.ah s.c)),fP s.aj (0:Int) (bY s.ah s.aK s.aF s.aj s.aX s.c))])+List.length ([((bV (dY s.ah s.c)),fP s.aj (1:Int) (bY s.ah s.aK s.aF s.aj s.aX s.c))]):Nat):Int)<2^62) (.req (VI s.aj (2:Int) (bY s.ah s.aK s.aF s.aj s.aX s.c)) (.br (decide ((List.length (fP s.aj (2:Int) (bY s.ah s.aK s.aF s.aj s.aX s.c)):Int)>0)) (.req (0≤s.c∧s.c<(List.length s.ah:Int)) (.req (0+(List.length s.rows+List.length ([((bV (dY s.ah s.c)),fP s.aj (0:Int) (bY s.ah s.aK s.aF s.aj s.aX s.c))])+List.length ([((bV (dY s.ah s.c)),fP s.aj (1:Int) (bY s.ah s.aK s.aF s.aj s.aX s.c))]))=List.length ((s.rows++([((bV (dY s.ah s.c)),fP s.aj (0:Int) (bY s.ah s.aK s.aF s.aj s.aX s.c))]))++([((bV (dY s.ah s.c)),fP s.aj (1:Int) (bY s.ah s.aK s.aF s.aj s.aX s.c))]))∧((List.length s.rows+List.length ([((bV (dY s.ah s.c)),fP s.aj (0:Int) (bY s.ah s.aK s.aF s.aj s.aX s.c))])+List.length ([((bV (dY s.ah s.c)),fP s.aj (1:Int) (bY s.ah s.aK s.aF s.aj s.aX s.c))])+List.length ([((bV (dY s.ah s.c)),fP s.aj (2:Int) (bY s.ah s.aK s.aF s.aj s.aX s.c))]):Nat):Int)*32≤2^47∧((List.length s.rows+List.length ([((bV (dY s.ah s.c)),fP s.aj (0:Int) (bY s.ah s.aK s.aF s.aj s.aX s.c))])+List.length ([((bV (dY s.ah s.c)),fP s.aj (1:Int) (bY s.ah s.aK s.aF s.aj s.aX s.c))])+List.length ([((bV (dY s.ah s.c)),fP s.aj (2:Int) (bY s.ah s.aK s.aF s.aj s.aX s.c))]):Nat):Int)<2^62) (.req (0=0∧(List.length s.rows+List.length ([((bV (dY s.ah s.c)),fP s.aj (0:Int) (bY s.ah s.aK s.aF s.aj s.aX s.c))])+List.length ([((bV (dY s.ah s.c)),fP s.aj (1:Int) (bY s.ah s.aK s.aF s.aj s.aX s.c))])+List.length ([((bV (dY s.ah s.c)),fP s.aj (2:Int) (bY s.ah s.aK s.aF s.aj s.aX s.c))]))=List.length (((s.rows++([((bV (dY s.ah s.c)),fP s.aj (0:Int) (bY s.ah s.aK s.aF s.aj s.aX s.c))]))++([((bV (dY s.ah s.c)),fP s.aj (1:Int) (bY s.ah s.aK s.aF s.aj s.aX s.c))]))++([((bV (dY s.ah s.c)),fP s.aj (2:Int) (bY s.ah s.aK s.aF s.aj s.aX s.c))]))) (.ok (.next {s with c:=(IntKind.i64.wrap (s.c+1)),below:=(bY s.ah s.aK s.aF s.aj s.aX s.c),rows:=(((s.rows++([((bV (dY s.ah s.c)),fP s.aj (0:Int) (bY s.ah s.aK s.aF s.aj s.aX s.c))]))++([((bV (dY s.ah s.c)),fP s.aj (1:Int) (bY s.ah s.aK s.aF s.aj s.aX s.c))]))++([((bV (dY s.ah s.c)),fP s.aj (2:Int) (bY s.ah s.aK s.aF s.aj s.aX s.c))]))}))))) (.req (0=0∧(List.length s.rows+List.length ([((bV (dY s.ah s.c)),fP s.aj (0:Int) (bY s.ah s.aK s.aF s.aj s.aX s.c))])+List.length ([((bV (dY s.ah s.c)),fP s.aj (1:Int) (bY s.ah s.aK s.aF s.aj s.aX s.c))]))=List.length ((s.rows++([((bV (dY s.ah s.c)),fP s.aj (0:Int) (bY s.ah s.aK s.aF s.aj s.aX s.c))]))++([((bV (dY s.ah s.c)),fP s.aj (1:Int) (bY s.ah s.aK s.aF s.aj s.aX s.c))]))) (.ok (.next {s with c:=(IntKind.i64.wrap (s.c+1)),below:=(bY s.ah s.aK s.aF s.aj s.aX s.c),rows:=((s.rows++([((bV (dY s.ah s.c)),fP s.aj (0:Int) (bY s.ah s.aK s.aF s.aj s.aX s.c))]))++([((bV (dY s.ah s.c)),fP s.aj (1:Int) (bY s.ah s.aK s.aF s.aj s.aX s.c))]))}))))))) (.req (VI s.aj (2:Int) (bY s.ah s.aK s.aF s.aj s.aX s.c)) (.br (decide ((List.length (fP s.aj (2:Int) (bY s.ah s.aK s.aF s.aj s.aX s.c)):Int)>0)) (.req (0≤s.c∧s.c<(List.length s.ah:Int)) (.req (0+(List.length s.rows+List.length ([((bV (dY s.ah s.c)),fP s.aj (0:Int) (bY s.ah s.aK s.aF s.aj s.aX s.c))]))=List.length (s.rows++([((bV (dY s.ah s.c)),fP s.aj (0:Int) (bY s.ah s.aK s.aF s.aj s.aX s.c))]))∧((List.length s.rows+List.length ([((bV (dY s.ah s.c)),fP s.aj (0:Int) (bY s.ah s.aK s.aF s.aj s.aX s.c))])+List.length ([((bV (dY s.ah s.c)),fP s.aj (2:Int) (bY s.ah s.aK s.aF s.aj s.aX s.c))]):Nat):Int)*32≤2^47∧((List.length s.rows+List.length ([((bV (dY s.ah s.c)),fP s.aj (0:Int) (bY s.ah s.aK s.aF s.aj s.aX s.c))])+List.length ([((bV (dY s.ah s.c)),fP s.aj (2:Int) (bY s.ah s.aK s.aF s.aj s.aX s.c))]):Nat):Int)<2^62) (.req (0=0∧(List.length s.rows+List.length ([((bV (dY s.ah s.c)),fP s.aj (0:Int) (bY s.ah s.aK s.aF s.aj s.aX s.c))])+List.length ([((bV (dY s.ah s.c)),fP s.aj (2:Int) (bY s.ah s.aK s.aF s.aj s.aX s.c))]))=List.length ((s.rows++([((bV (dY s.ah s.c)),fP s.aj (0:Int) (bY s.ah s.aK s.aF s.aj s.aX s.c))]))++([((bV (dY s.ah s.c)),fP s.aj (2:Int) (bY s.ah s.aK s.aF s.aj s.aX s.c))]))) (.ok (.next {s with c:=(IntKind.i64.wrap (s.c+1)),below:=(bY s.ah s.aK s.aF s.aj s.aX s.c),rows:=((s.rows++([((bV (dY s.ah s.c)),fP s.aj (0:Int) (bY s.ah s.aK s.aF s.aj s.aX s.c))]))++([((bV (dY s.ah s.c)),fP s.aj (2:Int) (bY s.ah s.aK s.aF s.aj s.aX s.c))]))}))))) (.req (0=0∧(List.length s.rows+List.length ([((bV (dY s.ah s.c)),fP s.aj (0:Int) (bY s.ah s.aK s.aF s.aj s.aX s.c))]))=List.length (s.rows++([((bV (dY s.ah s.c)),fP s.aj (0:Int) (bY s.ah s.aK s.aF s.aj s.aX s.c))]))) (.ok (.next {s with c:=(IntKind.i64.wrap (s.c+1)),below:=(bY s.ah s.aK s.aF s.aj s.aX s.c),rows:=(s.rows++([((bV (dY s.ah s.c)),fP s.aj (0:Int) (bY s.ah s.aK s.aF s.aj s.aX s.c))]))}))))))))) (.req (VI s.aj (1:Int) (bY s.ah s.aK s.aF s.aj s.aX s.c)) (.br (decide ((List.length (fP s.aj (1:Int) (bY s.ah s.aK s.aF s.aj s.aX s.c)):Int)>0)) (.req (0≤s.c∧s.c<(List.length s.ah:Int)) (.req (0+(List.length s.rows)=List.length s.rows∧((List.length s.rows+List.length ([((bV (dY s.ah s.c)),fP s.aj (1:Int) (bY s.ah s.aK s.aF s.aj s.aX s.c))]):Nat):Int)*32≤2^47∧((List.length s.rows+List.length ([((bV (dY s.ah s.c)),fP s.aj (1:Int) (bY s.ah s.aK s.aF s.aj s.aX s.c))]):Nat):Int)<2^62) (.req (VI s.aj (2:Int) (bY s.ah s.aK s.aF s.aj s.aX s.c)) (.br (decide ((List.length (fP s.aj (2:Int) (bY s.ah s.aK s.aF s.aj s.aX s.c)):Int)>0)) (.req (0≤s.c∧s.c<(List.length s.ah:Int)) (.req (0+(List.length s.rows+List.length ([((bV (dY s.ah s.c)),fP s.aj (1:Int) (bY s.ah s.aK s.aF s.aj s.aX s.c))]))=List.length (s.rows++([((bV (dY s.ah s.c)),fP s.aj (1:Int) (bY s.ah s.aK s.aF s.aj s.aX s.c))]))∧((List.length s.rows+List.length ([((bV (dY s.ah s.c)),fP s.aj (1:Int) (bY s.ah s.aK s.aF s.aj s.aX s.c))])+List.length ([((bV (dY s.ah s.c)),fP s.aj (2:Int) (bY s.ah s.aK s.aF s.aj s.aX s.c))]):Nat):Int)*32≤2^47∧((List.length s.rows+List.length ([((bV (dY s.ah s.c)),fP s.aj (1:Int) (bY s.ah s.aK s.aF s.aj s.aX s.c))])+List.length ([((bV (dY s.ah s.c)),fP s.aj (2:Int) (bY s.ah s.aK s.aF s.aj s.aX s.c))]):Nat):Int)<2^62) (.req (0=0∧(List.length s.rows+List.length ([((bV (dY s.ah s.c)),fP s.aj (1:Int) (bY s.ah s.aK s.aF s.aj s.aX s.c))])+List.length ([((bV (dY s.ah s.c)),fP s.aj (2:Int) (bY s.ah s.aK s.aF s.aj s.aX s.c))]))=List.length ((s.rows++([((bV (dY s.ah s.c)),fP s.aj (1:Int) (bY s.ah s.aK s.aF s.aj s.aX s.c))]))++([((bV (dY s.ah s.c)),fP s.aj (2:Int) (bY s.ah s.aK s.aF s.aj s.aX s.c))]))) (.ok (.next {s with c:=(IntKind.i64.wrap (s.c+1)),below:=(bY s.ah s.aK s.aF s.aj s.aX s.c),rows:=((s.rows++([((bV (dY s.ah s.c)),fP s.aj (1:Int) (bY s.ah s.aK s.aF s.aj s.aX s.c))]))++([((bV (dY s.ah s.c)),fP s.aj (2:Int) (bY s.ah s.aK s.aF s.aj s.aX s.c))]))}))))) (.req (0=0∧(List.length s.rows+List.length ([((bV (dY s.ah s.c)),fP s.aj (1:Int) (bY s.ah s.aK s.aF s.aj s.aX s.c))]))=List.length (s.rows++([((bV (dY s.ah s.c)),fP s.aj (1:Int) (bY s.ah s.aK s.aF s.aj s.aX s.c))]))) (.ok (.next {s with c:=(IntKind.i64.wrap (s.c+1)),below:=(bY s.ah s.aK s.aF s.aj s.aX s.c),rows:=(s.rows++([((bV (dY s.ah s.c)),fP s.aj (1:Int) (bY s.ah s.aK s.aF s.aj s.aX s.c))]))}))))))) (.req (VI s.aj (2:Int) (bY s.ah s.aK s.aF s.aj s.aX s.c)) (.br (decide ((List.length (fP s.aj (2:Int) (bY s.ah s.aK s.aF s.aj s.aX s.c)):Int)>0)) (.req (0≤s.c∧s.c<(List.length s.ah:Int)) (.req (0+(List.length s.rows)=List.length s.rows∧((List.length s.rows+List.length ([((bV (dY s.ah s.c)),fP s.aj (2:Int) (bY s.ah s.aK s.aF s.aj s.aX s.c))]):Nat):Int)*32≤2^47∧((List.length s.rows+List.length ([((bV (dY s.ah s.c)),fP s.aj (2:Int) (bY s.ah s.aK s.aF s.aj s.aX s.c))]):Nat):Int)<2^62) (.req (0=0∧(List.length s.rows+List.length ([((bV (dY s.ah s.c)),fP s.aj (2:Int) (bY s.ah s.aK s.aF s.aj s.aX s.c))]))=List.length (s.rows++([((bV (dY s.ah s.c)),fP s.aj (2:Int) (bY s.ah s.aK s.aF s.aj s.aX s.c))]))) (.ok (.next {s with c:=(IntKind.i64.wrap (s.c+1)),below:=(bY s.ah s.aK s.aF s.aj s.aX s.c),rows:=(s.rows++([((bV (dY s.ah s.c)),fP s.aj (2:Int) (bY s.ah s.aK s.aF s.aj s.aX s.c))]))}))))) (.rl s.rows (.ok (.next {s with c:=(IntKind.i64.wrap (s.c+1)),below:=(bY s.ah s.aK s.aF s.aj s.aX s.c)}))))))))) (.rl s.rows (.ok (.stop (.exit 0) s)))
abbrev aDY (s:wz):=(anQ s).rd s
def asK (s:wz):Prop:=s.st=.ready∧s.c=0∧s.rows=[]∧dL s.ah s.aK s.aF s.aj s.aX=true∧s.n=(s.ah.length:Int)
def agd (s:wz):Prop:=s.st=.ready∧(0≤s.c∧s.c≤s.n)∧s.rows=jH s.ah s.aj s.c.toNat∧dL s.ah s.aK s.aF s.aj s.aX=true∧s.n=(s.ah.length:Int)
def abT (s:wz):Nat:=(s.n-s.c).toNat
def aAh (x:Ex) (_ s':wz):Prop:=x=.exit 0∧s'.rows=jH s'.ah s'.aj s'.ah.length
theorem aGT:∀s,asK s→agd s:=by
 intro s h
 obtain ⟨h0,h1,h2,h3,h4⟩:=h
 exact ⟨h0,by omega,by rw [h1,h2];rfl,h3,h4⟩
theorem aB8 (s:wz) (hI:agd s):bP (fun s'=>agd s'∧abT s'<abT s) (fun x s'=>aAh x s s') (aDY s):=by
 unfold aDY anQ
 dsimp only [T.rd,T.rl]
 obtain ⟨h0,⟨h1,h2⟩,h3,h4,h5⟩:=hI
 refine au (fun c1=>?_) (fun c1=>?_)
 rotate_left
 ·have c1:s.n≤s.c:=by simpa using c1
  exact ⟨rfl,by rw [h3,show s.c.toNat=s.ah.length by omega]⟩
 have c1:s.c<s.n:=by simpa using c1
 have hl:=(fG.1 h4).1
 rw [aN (x:=s.c+1) (by omega) (by omega)]
 have eb:bY s.ah s.aK s.aF s.aj s.aX s.c=jR s.ah s.aj s.c s.aj.length:=by
  unfold bY
  rw [if_pos ⟨h4,h1,by omega⟩]
 rw [eb]
 have fin:∀r:List Rw,r=jH s.ah s.aj s.c.toNat++(rowP s.ah s.aj s.c 0++rowP s.ah s.aj s.c 1++rowP s.ah s.aj s.c 2)→r=jH s.ah s.aj (s.c+1).toNat:=fun r hr=>by
  rw [hr,show (s.c+1).toNat=s.c.toNat+1 by omega,jH,Int.toNat_of_nonneg h1]
  rfl
 refine au (fun c2=>?_) (fun c2=>?_)<;>refine au (fun c3=>?_) (fun c3=>?_)<;>refine au (fun c4=>?_) (fun c4=>?_)
 all_goals
  refine ⟨⟨h0,⟨by simp only;omega,by simp only;omega⟩,?_,h4,h5⟩,by simp only [abT];omega⟩
  simp only [decide_eq_true_eq,decide_eq_false_iff_not] at c2 c3 c4
  refine fin _ ?_
  simp only [h3,rowP]
  first|rw [if_pos (by omega)] |rw [if_neg (by omega)]
  first|rw [if_pos (by omega)] |rw [if_neg (by omega)]
  first|rw [if_pos (by omega)] |rw [if_neg (by omega)]
  simp only [List.append_assoc,List.nil_append,List.append_nil]
noncomputable def aat:bQ wz:=⟨5,22,[0,7,8],[.nc 1 0 107 GY,.pc 2 0 (.int .i64),.pk 0],aHs,aHk,fun v b=>⟨gI (v.getD 1 .junk),gI (v.getD 2 .junk),aQ eu (aV (aO b 0) 0),aQ .str (aV (aO b 0) 1),aQ eG (aV (aO b 0) 2),aQ dK (aV (aO b 0) 3),aQ eP (aV (aO b 0) 4),aQ (.int .i64) (aV (aO b 2) 0),aQ eu (aV (aO b 3) 0),aQ .str (aV (aO b 3) 1),aQ eG (aV (aO b 3) 2),aQ dK (aV (aO b 3) 3),aQ eP (aV (aO b 3) 4),jd GY (aO b 5),.ready⟩,anQ,fun s r=> {r with n:=s.n,ah:=s.ah,aK:=s.aK,aF:=s.aF,aj:=s.aj,aX:=s.aX,bU:=s.bU,fB:=s.fB,bZ:=s.bZ,dn:=s.dn,iQ:=s.iQ,st:=s.st},fun s=> {s with st:=.ready},fun x s=> {s with st:=(match x with| .exit 0=> .ready|_=> .ready)},[.exit 0],asK,agd,abT⟩
noncomputable abbrev DV:=aat.run
noncomputable abbrev azy:=aat.jU
abbrev aEy:=aat.q
noncomputable def EX:Specs:=bf [(53,qU),(55,SY),(56,aam),(57,J4),(58,zO)]
theorem Ju:∀g S,EX g=some S→Valid Tryz.prog aS g S:=aT (l:=[(53,qU),(55,SY),(56,aam),(57,J4),(58,zO)]) ⟨Ig,anM,awp,agA,Xz,trivial⟩
noncomputable def aky:Hand:=inl Tryz.prog aS EX (kH Tryz.prog aS (EX) 20 2) 9
theorem atH:cZ Tryz.prog aS aky:=bM Ju (dI Ju) 9
theorem aCg (s:wz) (hI:agd s):(anQ s).all (fun _=>True):=by
 refine ⟨fun c1=>⟨?_,fun c2=>⟨?_,?_,?_,fun c3=>⟨?_,?_,?_,fun c4=>⟨?_,?_,?_,trivial⟩,fun c4=>⟨?_,trivial⟩⟩,fun c3=>⟨?_,fun c5=>⟨?_,?_,?_,trivial⟩,fun c5=>⟨?_,trivial⟩⟩⟩,fun c2=>⟨?_,fun c6=>⟨?_,?_,?_,fun c7=>⟨?_,?_,?_,trivial⟩,fun c7=>⟨?_,trivial⟩⟩,fun c6=>⟨?_,fun c8=>⟨?_,?_,?_,trivial⟩,fun c8=>⟨⟨rfl,rfl⟩,trivial⟩⟩⟩⟩,fun c1=>⟨⟨rfl,rfl⟩,trivial⟩⟩
 all_goals ((obtain ⟨h0,⟨h1,h2⟩,h3,h4,h5⟩:=hI;have hl:=(fG.1 h4).1;(try simp only [decide_eq_true_eq] at c1);have hr:s.rows.length≤3*s.c.toNat:=(by rw [h3];exact Ak);have eb:bY s.ah s.aK s.aF s.aj s.aX s.c=jR s.ah s.aj s.c s.aj.length:=(by unfold bY;rw [if_pos ⟨h4,h1,by omega⟩]);first|omega|((try simp only);rw [eb];refine ⟨by decide,Nat.le_trans Dt (by omega),fun k hk=>Dq hk⟩) |(refine ⟨by omega,?_,?_⟩<;>simp only [List.length_cons,List.length_nil]<;>omega) |(simp only [List.length_append,List.length_cons,List.length_nil];omega) |exact ⟨rfl,by simp⟩ |exact ⟨rfl,rfl⟩))
theorem ath:aat.Ok:=⟨fun s=>by kernel_rfl,fun s=>by kernel_rfl,fun s=>rfl,fun s t r=>rfl,fun s=>rfl,fun s=>by kernel_rfl⟩
theorem as9:aat.Pf (aAh):=⟨aGT,fun s h=>by
 obtain ⟨n,c,ah,aK,aF,aj,aX,below,bU,fB,bZ,dn,iQ,rows,st⟩:=s
 have e:st=.ready:=h.1
 subst e
 rfl,aB8,aCg⟩
theorem awD:bn Tryz.prog aS (AN 5) (.loop adI) aat.lp:=bQ.snd ath as9 (bF (Γ:=EX) (K:=aky) (L:=(sO Tryz.prog aS EX aky 20 2)) Ju atH adI (fun b _=>dN Ju atH 20 2 b)) (fun s=>by kernel_rfl)
theorem awM (s:wz) (hE:asK s):∃s',agd s'∧aAh (azy s) s' (DV s):=bQ.fin ath as9 s hE
def ad3:List LV→T LV
 | [.agg [.xl (.pair .str (.pair (.int .i64) (.pair (.int .i64) (.pair (.int .i64) (.pair (.pair (.int .i64) (.int .i64)) (.pair (.int .i64) (.pair (.int .i64) (.pair (.int .i64) (.pair (.int .i64) (.int .i64)))))))))) cs,.xl (.str) os,.xl (.pair .str (.pair (.int .i64) (.pair (.int .i64) (.int .i64)))) ks,.xl (.pair .str (.pair (.int .i64) (.pair (.int .i64) (.pair (.int .i64) (.pair (.int .i64) (.pair (.int .i64) (.pair (.int .i64) (.int .i64)))))))) gs,.xl (.pair .str (.int .i64)) bs]]=> .ok (.gQ [.xl GY (iL cs os ks gs bs),.v (.int .i64 (PI cs os ks gs bs))])
 |_=> .no
noncomputable def oI:List LV→T LV:=gZ Tryz.prog Tryz.f24.params.toList ad3
noncomputable def atQ:Hand:=inl Tryz.prog aS EX (jX 101 5 1 (aat.lp) (kH Tryz.prog aS (EX) 20 2)) 9
theorem aDr:cZ Tryz.prog aS atQ:=bM Ju (dF Tryz.func101 rfl (by kernel_rfl) awD (dI Ju)) 9
theorem ap1 (cs:List Cd) (os:List ByteArray) (ks:List Ko) (gs:List Ch) (bs:List Ba):bW Tryz.prog aS (EX) atQ aC Tryz.f24 [.agg [.xl eu cs,.xl .str os,.xl eG ks,.xl dK gs,.xl eP bs]]=.br (!(dL cs os ks gs bs)) (.ok (.gQ [.xl GY ([]:List Rw),.v (.int .i64 1)])) (.req (0=0∧0=List.length ([]:List Rw)) (.req (aEy (⟨(List.length cs:Int),(0:Int),cs,os,ks,gs,bs,([]:List Int),cs,os,ks,gs,bs,([]:List Rw),.ready⟩:wz)) (.req (0+(List.length (DV (⟨(List.length cs:Int),(0:Int),cs,os,ks,gs,bs,([]:List Int),cs,os,ks,gs,bs,([]:List Rw),.ready⟩:wz)).rows)≤List.length (DV (⟨(List.length cs:Int),(0:Int),cs,os,ks,gs,bs,([]:List Int),cs,os,ks,gs,bs,([]:List Rw),.ready⟩:wz)).rows) (.ok (.gQ [.xl GY (((DV (⟨(List.length cs:Int),(0:Int),cs,os,ks,gs,bs,([]:List Int),cs,os,ks,gs,bs,([]:List Rw),.ready⟩:wz)).rows.drop 0).take (List.length (DV (⟨(List.length cs:Int),(0:Int),cs,os,ks,gs,bs,([]:List Int),cs,os,ks,gs,bs,([]:List Rw),.ready⟩:wz)).rows)),.v (.int .i64 0)]))))):=by kernel_rfl
theorem DR:Valid Tryz.prog aS 24 oI:=aI Tryz.func24 rfl Ju aDr (aY (by kernel_rfl)) (fun args lv h=>by
 unfold ad3 at h
 split at h
 ·simp only [canL,canX]
  rw [ap1]
  rename_i cs os ks gs bs
  obtain rfl:=h
  refine ⟨fun c=>?_,fun c=>?_⟩
  ·have c:dL cs os ks gs bs=false:=by simpa using c
   show LV.gQ _=_
   unfold iL PI
   rw [c]
   rfl
  ·have c:dL cs os ks gs bs=true:=by simpa using c
   have hE:asK ⟨(List.length cs:Int),(0:Int),cs,os,ks,gs,bs,([]:List Int),cs,os,ks,gs,bs,([]:List (Int×(List Int))),.ready⟩:=⟨rfl,rfl,rfl,c,rfl⟩
   obtain ⟨s',_,q1,q2⟩:=awM _ hE
   have q2:(DV ⟨(List.length cs:Int),(0:Int),cs,os,ks,gs,bs,([]:List Int),cs,os,ks,gs,bs,([]:List (Int×(List Int))),.ready⟩).rows=jH cs gs cs.length:=q2
   refine ⟨⟨rfl,rfl⟩,⟨hE,rfl,rfl⟩,by omega,?_⟩
   show LV.gQ [LV.xl _ _,_]=_
   rw [List.drop_zero,List.take_length,q2]
   unfold iL PI
   rw [if_pos c,if_pos c]
 ·cases h)
end Go.Proofs.YtlihnbimgclogaaGreatDoor
namespace Go.Proofs.YtlihnbimgclogaaGreatDoor
open Go.Sx
def ami:List LV→T LV
 | [.v (.int .i64 n),.v (.int .i64 a),.v (.int .i64 b)]=> .ok (.v (.bool (inB n a b)))
 |_=> .no
noncomputable def Wq:List LV→T LV:=gZ Tryz.prog Tryz.f68.params.toList ami
noncomputable def auj:Specs:=bf []
theorem aDC:∀g S,auj g=some S→Valid Tryz.prog aS g S:=aT (l:=[]) trivial
theorem ayI (n a b:Int):bW Tryz.prog aS (auj) fE aC Tryz.f68 [.v (.int .i64 n),.v (.int .i64 a),.v (.int .i64 b)]=.ok (.v (.bool ((decide (n≥a))&&(decide (n≤b))))):=by kernel_rfl
theorem asV:Valid Tryz.prog aS 68 Wq:=aI Tryz.func68 rfl aDC aG (aY (by kernel_rfl)) (fun args lv h=>by
 unfold ami at h
 split at h
 ·simp only [canL,canX]
  rw [ayI]
  exact h
 ·cases h)
def al0:List LV→T LV
 | [.v (.agg ⟨[.bool wa,.int .i64 ow,.int .i64 le,.int .i64 ra]⟩)]=> .ok (.v (.bool (Xu (wa,ow,le,ra))))
 |_=> .no
noncomputable def alL:List LV→T LV:=gZ Tryz.prog Tryz.f70.params.toList al0
noncomputable def aui:Specs:=bf [(68,Wq)]
theorem aDB:∀g S,aui g=some S→Valid Tryz.prog aS g S:=aT (l:=[(68,Wq)]) ⟨asV,trivial⟩
theorem ayq (wa:Bool) (ow le ra:Int):bW Tryz.prog aS (aui) fE aC Tryz.f70 [.v (.agg #[.bool wa,.int .i64 ow,.int .i64 le,.int .i64 ra])]=.ok (.v (.bool ((inB ow (0:Int) (1000000000:Int))&&((inB le (0:Int) (1000000:Int))&&(inB ra (1:Int) (9:Int)))))):=by kernel_rfl
theorem aBD:Valid Tryz.prog aS 70 alL:=aI Tryz.func70 rfl aDB aG (aY (by kernel_rfl)) (fun args lv h=>by
 unfold al0 at h
 split at h
 ·simp only [canL,canX]
  rw [ayq]
  exact h
 ·cases h)
structure mr where
 cs:List Cd
 os:List ByteArray
 ks:List Ko
 gs:List Ch
 bs:List Ba
 l:List Le
 d:List Dm
 t:Int
 od:List Int
 IB:List Ra
 r:Bool
 n:Int
 m:List Le
 k:Int
 i:Int
def aGw (s:mr):List LV:=[.xq 9 (fun j=>([.xl eu s.cs,.xl .str s.os,.xl eG s.ks,.xl dK s.gs,.xl eP s.bs,.xl iV s.l,.xl tJ s.d,.v (.int .i64 s.t),.xl (.int .i64) s.od]:List LV).getD j .junk),.xl oP s.IB,.v (.bool s.r),.v (.int .i64 s.n),.xl iV s.m,.v (.int .i64 s.k),.v (.int .i64 s.i)]
def aFt (_:mr):List aW:=[]
noncomputable def Dc:Code:=((aB (Tryz.f35.body.getD .skip))[0]?).getD .skip
def aa7 (s:mr):T (Rd mr):=
 .br (decide (s.i<s.k)) (.req (0≤s.i∧s.i<(List.length s.m:Int)) (.br (decide ((gU s.m s.i).2.1≥s.n)) (.ok (.stop (.ret) {s with r:=false})) (.ok (.next {s with i:=(IntKind.i64.wrap (s.i+1))})))) (.ok (.stop (.exit 0) s))
abbrev au1 (s:mr):=(aa7 s).rd s
def KT (s:mr) (j:Int):Bool:=decide ((gU s.m j).2.1<s.n)
def afi (s:mr):Prop:=s.i=0∧0≤s.k∧s.k≤1000∧s.k=(s.m.length:Int)
def OH (s:mr):Prop:=0≤s.i∧s.i≤s.k∧s.k≤1000∧(s.k=(s.m.length:Int))∧∀j:Nat,(j:Int)<s.i→KT s j=true
def QJ (s:mr):Nat:=(s.k-s.i).toNat
def amW (x:Ex) (_ s':mr):Prop:=(x=.exit 0∧∀j:Nat,(j:Int)<s'.k→KT s' j=true)∨(x=.ret∧s'.r=false∧∃j:Nat,(j:Int)<s'.k∧KT s' j=false)
theorem aD8:∀s,afi s→OH s:=by
 intro s h
 obtain ⟨h0,h1,h2,h3⟩:=h
 exact ⟨by omega,by omega,h2,h3,fun j hj=>by omega⟩
theorem azI (s:mr) (hI:OH s):bP (fun s'=>OH s'∧QJ s'<QJ s) (fun x s'=>amW x s s') (au1 s):=by
 unfold au1 aa7
 dsimp only [T.rd,T.rl]
 obtain ⟨h0,h1,h2,h3,h4⟩:=hI
 refine au (fun c1=>au (fun c2=>?_) (fun c2=>?_)) (fun c1=>?_)
 ·have c1:s.i<s.k:=by simpa using c1
  refine .inr ⟨rfl,rfl,s.i.toNat,by simp only;omega,?_⟩
  rw [Int.toNat_of_nonneg (by omega)]
  have hg:KT s s.i=false:=by unfold KT;(simp only [decide_eq_true_eq,decide_eq_false_iff_not] at c2⊢;omega)
  exact hg
 ·have c1:s.i<s.k:=by simpa using c1
  have hg:KT s s.i=true:=by unfold KT;(simp only [decide_eq_true_eq,decide_eq_false_iff_not] at c2⊢;omega)
  rw [aN (x:=s.i+1) (by omega) (by omega)]
  refine ⟨⟨by simp only;omega,by simp only;omega,h2,h3,fun j hj=>?_⟩,by simp only [QJ];omega⟩
  by_cases hji:(j:Int)<s.i
  ·exact h4 j hji
  ·have:(j:Int)=s.i:=by simp only at hj;omega
   rw [this];exact hg
 ·have c1:s.k≤s.i:=by simpa using c1
  exact .inl ⟨rfl,fun j hj=>h4 j (by omega)⟩
def Gs:bQ mr:=⟨0,108,[0,1,6,9,67,68,69],[],aGw,aFt,fun v _=>⟨aQ eu (lW (v.getD 0 .junk) 0),aQ .str (lW (v.getD 0 .junk) 1),aQ eG (lW (v.getD 0 .junk) 2),aQ dK (lW (v.getD 0 .junk) 3),aQ eP (lW (v.getD 0 .junk) 4),aQ iV (lW (v.getD 0 .junk) 5),aQ tJ (lW (v.getD 0 .junk) 6),gI (lW (v.getD 0 .junk) 7),aQ (.int .i64) (lW (v.getD 0 .junk) 8),aQ oP (v.getD 1 .junk),yF (v.getD 2 .junk),gI (v.getD 3 .junk),aQ iV (v.getD 4 .junk),gI (v.getD 5 .junk),gI (v.getD 6 .junk)⟩,aa7,fun s r=> {r with cs:=s.cs,os:=s.os,ks:=s.ks,gs:=s.gs,bs:=s.bs,l:=s.l,d:=s.d,t:=s.t,od:=s.od,IB:=s.IB,n:=s.n,m:=s.m,k:=s.k},fun s=>s,fun _ s=>s,[.ret,.exit 0],afi,OH,QJ⟩
abbrev yc:=Gs.run
abbrev adt:=Gs.jU
abbrev aBb:=Gs.q
theorem axJ (s:mr) (hI:OH s):(aa7 s).all (fun _=>True):=by
 refine ⟨fun c1=>⟨?_,fun _=>trivial,fun _=>trivial⟩,fun _=>trivial⟩
 ·(obtain ⟨h0,h1,h2,h3,h4⟩:=hI;simp at c1;omega)
noncomputable def acw:Specs:=bf [(24,oI),(62,vM),(68,Wq),(69,Wj),(70,alL)]
theorem akI:∀g S,acw g=some S→Valid Tryz.prog aS g S:=aT (l:=[(24,oI),(62,vM),(68,Wq),(69,Wj),(70,alL)]) ⟨DR,O5,asV,asQ,aBD,trivial⟩
theorem ajc:Gs.Ok:=⟨fun s=>by kernel_rfl,fun s=>by kernel_rfl,fun s=>rfl,fun s t r=>rfl,fun s=>rfl,fun s=>by kernel_rfl⟩
theorem ah4:Gs.Pf (amW):=⟨aD8,fun _ _=>rfl,azI,axJ⟩
theorem aoH:bn Tryz.prog aS (AN 0) (.loop Dc) Gs.lp:=bQ.snd ajc ah4 (aU (Γ:=acw) (K:=fE) (L:=aC) akI aG Dc (fun b hb=>by rw [show aB Dc=[] by kernel_rfl] at hb;cases hb)) (fun s=>by kernel_rfl)
theorem ar8 (s:mr) (hE:afi s):∃s',OH s'∧amW (adt s) s' (yc s):=bQ.fin ajc ah4 s hE
structure pI where
 cs:List Cd
 os:List ByteArray
 ks:List Ko
 gs:List Ch
 bs:List Ba
 l:List Le
 d:List Dm
 t:Int
 od:List Int
 rs:List Ra
 r:Bool
 m:List Ch
 k:Int
 i:Int
def aGv (s:pI):List LV:=[.xq 9 (fun j=>([.xl eu s.cs,.xl .str s.os,.xl eG s.ks,.xl dK s.gs,.xl eP s.bs,.xl iV s.l,.xl tJ s.d,.v (.int .i64 s.t),.xl (.int .i64) s.od]:List LV).getD j .junk),.xl oP s.rs,.v (.bool s.r),.xl dK s.m,.v (.int .i64 s.k),.v (.int .i64 s.i)]
def aFs (_:pI):List aW:=[]
noncomputable def C9:Code:=((aB (Tryz.f35.body.getD .skip))[1]?).getD .skip
def aa6 (s:pI):T (Rd pI):=
 .br (decide (s.i<s.k)) (.req (0≤s.i∧s.i<(List.length s.m:Int)) (.req (0≤s.i∧s.i<(List.length s.rs:Int)) (.br (!(LH (bD s.m s.i).2.2.1 (bD s.m s.i).2.2.2.1 (bD s.m s.i).2.2.2.2.1 (bD s.m s.i).2.2.2.2.2.1 (bD s.m s.i).2.2.2.2.2.2.1 (mM s.rs s.i).1 (mM s.rs s.i).2)) (.ok (.stop (.ret) {s with r:=false})) (.req (0≤s.i∧s.i<(List.length s.d:Int)) (.br (!(Xu (uy s.d s.i))) (.ok (.stop (.ret) {s with r:=false})) (.ok (.next {s with i:=(IntKind.i64.wrap (s.i+1))}))))))) (.ok (.stop (.exit 2) s))
abbrev au0 (s:pI):=(aa6 s).rd s
def DI (s:pI) (j:Int):Bool:=UL (bD s.m j) (mM s.rs j)&&Xu (uy s.d j)
def afh (s:pI):Prop:=s.i=0∧0≤s.k∧s.k≤1000∧s.k=(s.m.length:Int)∧s.rs.length=s.m.length∧s.d.length=s.m.length
def OG (s:pI):Prop:=0≤s.i∧s.i≤s.k∧s.k≤1000∧(s.k=(s.m.length:Int)∧s.rs.length=s.m.length∧s.d.length=s.m.length)∧∀j:Nat,(j:Int)<s.i→DI s j=true
def QI (s:pI):Nat:=(s.k-s.i).toNat
def amV (x:Ex) (_ s':pI):Prop:=(x=.exit 2∧∀j:Nat,(j:Int)<s'.k→DI s' j=true)∨(x=.ret∧s'.r=false∧∃j:Nat,(j:Int)<s'.k∧DI s' j=false)
theorem aD7:∀s,afh s→OG s:=by
 intro s h
 obtain ⟨h0,h1,h2,h3⟩:=h
 exact ⟨by omega,by omega,h2,h3,fun j hj=>by omega⟩
theorem azH (s:pI) (hI:OG s):bP (fun s'=>OG s'∧QI s'<QI s) (fun x s'=>amV x s s') (au0 s):=by
 unfold au0 aa6
 dsimp only [T.rd,T.rl]
 obtain ⟨h0,h1,h2,h3,h4⟩:=hI
 refine au (fun c1=>au (fun c2=>?_) (fun c2=>au (fun c3=>?_) (fun c3=>?_))) (fun c1=>?_)
 ·have c1:s.i<s.k:=by simpa using c1
  refine .inr ⟨rfl,rfl,s.i.toNat,by simp only;omega,?_⟩
  rw [Int.toNat_of_nonneg (by omega)]
  have hg:DI s s.i=false:=by unfold DI;(unfold UL zD;simp_all)
  exact hg
 ·have c1:s.i<s.k:=by simpa using c1
  refine .inr ⟨rfl,rfl,s.i.toNat,by simp only;omega,?_⟩
  rw [Int.toNat_of_nonneg (by omega)]
  have hg:DI s s.i=false:=by unfold DI;(unfold UL zD;simp_all)
  exact hg
 ·have c1:s.i<s.k:=by simpa using c1
  have hg:DI s s.i=true:=by unfold DI;(unfold UL zD;simp_all)
  rw [aN (x:=s.i+1) (by omega) (by omega)]
  refine ⟨⟨by simp only;omega,by simp only;omega,h2,h3,fun j hj=>?_⟩,by simp only [QI];omega⟩
  by_cases hji:(j:Int)<s.i
  ·exact h4 j hji
  ·have:(j:Int)=s.i:=by simp only at hj;omega
   rw [this];exact hg
 ·have c1:s.k≤s.i:=by simpa using c1
  exact .inl ⟨rfl,fun j hj=>h4 j (by omega)⟩
def Gq:bQ pI:=⟨0,108,[0,1,6,82,83,84],[],aGv,aFs,fun v _=>⟨aQ eu (lW (v.getD 0 .junk) 0),aQ .str (lW (v.getD 0 .junk) 1),aQ eG (lW (v.getD 0 .junk) 2),aQ dK (lW (v.getD 0 .junk) 3),aQ eP (lW (v.getD 0 .junk) 4),aQ iV (lW (v.getD 0 .junk) 5),aQ tJ (lW (v.getD 0 .junk) 6),gI (lW (v.getD 0 .junk) 7),aQ (.int .i64) (lW (v.getD 0 .junk) 8),aQ oP (v.getD 1 .junk),yF (v.getD 2 .junk),aQ dK (v.getD 3 .junk),gI (v.getD 4 .junk),gI (v.getD 5 .junk)⟩,aa6,fun s r=> {r with cs:=s.cs,os:=s.os,ks:=s.ks,gs:=s.gs,bs:=s.bs,l:=s.l,d:=s.d,t:=s.t,od:=s.od,rs:=s.rs,m:=s.m,k:=s.k},fun s=>s,fun _ s=>s,[.ret,.exit 2],afh,OG,QI⟩
abbrev abD:=Gq.run
abbrev ads:=Gq.jU
abbrev aBa:=Gq.q
theorem axI (s:pI) (hI:OG s):(aa6 s).all (fun _=>True):=by
 refine ⟨fun c1=>⟨?_,?_,fun _=>trivial,fun c2=>⟨?_,fun _=>trivial,fun _=>trivial⟩⟩,fun _=>trivial⟩
 all_goals ((obtain ⟨h0,h1,h2,h3,h4⟩:=hI;obtain ⟨h3,h5,h6⟩:=h3;simp at c1;omega))
theorem ajb:Gq.Ok:=⟨fun s=>by kernel_rfl,fun s=>by kernel_rfl,fun s=>rfl,fun s t r=>rfl,fun s=>rfl,fun s=>by kernel_rfl⟩
theorem ah3:Gq.Pf (amV):=⟨aD7,fun _ _=>rfl,azH,axI⟩
theorem aoG:bn Tryz.prog aS (AN 0) (.loop C9) Gq.lp:=bQ.snd ajb ah3 (aU (Γ:=acw) (K:=fE) (L:=aC) akI aG C9 (fun b hb=>by rw [show aB C9=[] by kernel_rfl] at hb;cases hb)) (fun s=>by kernel_rfl)
theorem ar7 (s:pI) (hE:afh s):∃s',OG s'∧amV (ads s) s' (abD s):=bQ.fin ajb ah3 s hE
def aeF:List LV→T LV
 | [.xq 9 q0,.xl (.pair (.int .i64) (.int .i64)) rs,.v (.int .i64 n)]=>(match ([q0 0,q0 1,q0 2,q0 3,q0 4,q0 5,q0 6,q0 7,q0 8]:List LV) with
  | [.xl (.pair .str (.pair (.int .i64) (.pair (.int .i64) (.pair (.int .i64) (.pair (.pair (.int .i64) (.int .i64)) (.pair (.int .i64) (.pair (.int .i64) (.pair (.int .i64) (.pair (.int .i64) (.int .i64)))))))))) cs,.xl (.str) os,.xl (.pair .str (.pair (.int .i64) (.pair (.int .i64) (.int .i64)))) ks,.xl (.pair .str (.pair (.int .i64) (.pair (.int .i64) (.pair (.int .i64) (.pair (.int .i64) (.pair (.int .i64) (.pair (.int .i64) (.int .i64)))))))) gs,.xl (.pair .str (.int .i64)) bs,.xl (.pair (.int .i64) (.pair (.int .i64) (.pair (.int .i64) (.pair (.int .i64) (.int .i64))))) l,.xl (.pair .bool (.pair (.int .i64) (.pair (.int .i64) (.int .i64)))) d,.v (.int .i64 t),.xl (.int .i64) _]=> .ok (.v (.bool (Ie cs os ks gs bs l rs d t n)))
  |_=> .no)
 |_=> .no
noncomputable def aae:List LV→T LV:=gZ Tryz.prog Tryz.f35.params.toList aeF
theorem aqC (cs:List Cd) (os:List ByteArray) (ks:List Ko) (gs:List Ch) (bs:List Ba) (l:List Le) (d:List Dm) (t:Int) (od:List Int) (rs:List Ra) (n:Int):bW Tryz.prog aS (acw) fE (fun i=>if i=8 then Gs.lp else if i=14 then Gq.lp else aC i) Tryz.f35 [.xq 9 (fun j=>([.xl eu cs,.xl .str os,.xl eG ks,.xl dK gs,.xl eP bs,.xl iV l,.xl tJ d,.v (.int .i64 t),.xl (.int .i64) od]:List LV).getD j .junk),.xl oP rs,.v (.int .i64 n)]=.br (((PI cs os ks gs bs) !=0) ||(!(gJ l))) (.ok (.v (.bool false))) (.br (((List.length rs:Int) !=(List.length gs:Int)) ||(((List.length d:Int) !=(List.length gs:Int)) ||((!(inB t (0:Int) (1000000:Int))) ||(!(inB n (1:Int) (999900:Int)))))) (.ok (.v (.bool false))) (.req (aBb (⟨cs,os,ks,gs,bs,l,d,t,od,rs,false,(List.length gs:Int),l,(List.length l:Int),(0:Int)⟩:mr)) (.br (iE (adt (⟨cs,os,ks,gs,bs,l,d,t,od,rs,false,(List.length gs:Int),l,(List.length l:Int),(0:Int)⟩:mr)) (.ret)) (.ok (.v (.bool (yc (⟨cs,os,ks,gs,bs,l,d,t,od,rs,false,(List.length gs:Int),l,(List.length l:Int),(0:Int)⟩:mr)).r))) (.req (aBa (⟨cs,os,ks,gs,bs,l,d,t,od,rs,(yc (⟨cs,os,ks,gs,bs,l,d,t,od,rs,false,(List.length gs:Int),l,(List.length l:Int),(0:Int)⟩:mr)).r,gs,(List.length gs:Int),(0:Int)⟩:pI)) (.br (iE (ads (⟨cs,os,ks,gs,bs,l,d,t,od,rs,(yc (⟨cs,os,ks,gs,bs,l,d,t,od,rs,false,(List.length gs:Int),l,(List.length l:Int),(0:Int)⟩:mr)).r,gs,(List.length gs:Int),(0:Int)⟩:pI)) (.ret)) (.ok (.v (.bool (abD (⟨cs,os,ks,gs,bs,l,d,t,od,rs,(yc (⟨cs,os,ks,gs,bs,l,d,t,od,rs,false,(List.length gs:Int),l,(List.length l:Int),(0:Int)⟩:mr)).r,gs,(List.length gs:Int),(0:Int)⟩:pI)).r))) (.ok (.v (.bool true)))))))):=by kernel_rfl
theorem awh:Valid Tryz.prog aS 35 aae:=aI Tryz.func35 rfl akI aG (L:=(fun i=>if i=8 then Gs.lp else if i=14 then Gq.lp else aC i)) (fun b hb=>by
 rw [show aB _=[Dc,C9] by kernel_rfl] at hb
 simp only [List.mem_cons,List.not_mem_nil,or_false] at hb
 rcases hb with rfl|rfl
 ·exact aoH
 ·exact aoG) (fun args lv h=>by
 unfold aeF at h
 split at h
 ·split at h
  case h_2=>cases h
  rename_i heq0
  simp only [canL,canX]
  rw [pM (n:=9) heq0]
  simp only [canL,canX]
  rw [aqC]
  rename_i rs n _ cs os ks gs bs l d t od
  obtain rfl:=h
  have e0:((PI cs os ks gs bs !=0) || !gJ l)=!(dL cs os ks gs bs&&gJ l):=by
   unfold PI
   cases dL cs os ks gs bs<;>cases gJ l<;>rfl
  have e1:(((List.length rs:Int) !=(List.length gs:Int)) ||(((List.length d:Int) !=(List.length gs:Int)) ||(!inB t 0 1000000 || !inB n 1 999900)))=!(decide (rs.length=gs.length)&&(decide (d.length=gs.length)&&(inB t 0 1000000&&inB n 1 999900))):=by
   rw [neN,neN,Bool.not_and,Bool.not_and,Bool.not_and]
  rw [e0,e1]
  have bad:Ie cs os ks gs bs l rs d t n=false→LV.v (.bool false)=LV.v (.bool (Ie cs os ks gs bs l rs d t n)):=fun h=>by rw [h]
  refine ⟨fun c=>bad (by unfold Ie;rw [ntW c];rfl),fun c=>⟨fun c2=>bad (by unfold Ie;rw [ntW c2,Bool.false_and,Bool.and_false]),fun c2=>?_⟩⟩
  have c:=LJ c
  have c2:=LJ c2
  have c':=c
  have c2':=c2
  simp only [Bool.and_eq_true,decide_eq_true_eq] at c' c2'
  have hl:=jI c'.2
  have hg:=(fG.1 c'.1).1.2.2.2.2.1
  have hE:afi ⟨cs,os,ks,gs,bs,l,d,t,od,rs,false,(List.length gs:Int),l,(List.length l:Int),0⟩:=⟨rfl,by simp only;omega,by simp only;omega,rfl⟩
  have ev:Ie cs os ks gs bs l rs d t n=(below gs.length l&&Lr gs.length (fun j=>UL (bD gs j) (mM rs j)&&Xu (uy d j))):=by
   unfold Ie
   rw [c,c2,Bool.true_and,Bool.true_and]
  refine ⟨⟨hE,rfl,rfl⟩,?_⟩
  obtain ⟨_,_,hq⟩:=ar8 _ hE
  have eb:below gs.length l=Lr l.length (fun j=>decide ((gU l j).2.1<(gs.length:Int))):=by
   rw [Bool.eq_iff_iff,fU]
   exact (jV (d:=(0,0,0,0,0)) (p:=fun x:Le=>decide (x.2.1<(gs.length:Int)))).symm
  rcases hq with ⟨q1,q2⟩ |⟨q1,q2,j,q3,q4⟩<;>rw [q1]
  rotate_left
  ·rw [q2]
   exact ⟨fun _=>bad (by rw [ev,eb,uP (f:=fun j=>decide ((gU l j).2.1<(gs.length:Int))) j q3 q4];rfl),fun h=>by cases h⟩
  refine ⟨fun h=>(by cases h),fun _=>?_⟩
  have g0:below gs.length l=true:=by rw [eb];exact fU.2 q2
  have hE2:afh ⟨cs,os,ks,gs,bs,l,d,t,od,rs,(yc ⟨cs,os,ks,gs,bs,l,d,t,od,rs,false,(List.length gs:Int),l,(List.length l:Int),0⟩).r,gs,(List.length gs:Int),0⟩:=⟨rfl,by simp only;omega,by simp only;omega,rfl,c2'.1,c2'.2.1⟩
  refine ⟨⟨hE2,rfl,rfl⟩,?_⟩
  obtain ⟨_,_,hq⟩:=ar7 _ hE2
  rcases hq with ⟨q5,q6⟩ |⟨q5,q6,j,q7,q8⟩<;>rw [q5]
  ·exact ⟨fun h=>(by cases h),fun _=>by rw [ev,g0,(fU (f:=fun j=>UL (bD gs j) (mM rs j)&&Xu (uy d j))).2 q6];rfl⟩
  ·rw [q6]
   exact ⟨fun _=>bad (by rw [ev,uP (f:=fun j=>UL (bD gs j) (mM rs j)&&Xu (uy d j)) j q7 q8,Bool.and_false]),fun h=>by cases h⟩
 ·cases h)
end Go.Proofs.YtlihnbimgclogaaGreatDoor
namespace Go.Proofs.YtlihnbimgclogaaGreatDoor
open Go.Sx
structure pz where
 n:Int
 r:Bool
 l:List Int
 m:Int
 k:Int
 seen:List Bool
def aGl (s:pz):List LV:=[.v (.int .i64 s.n),.v (.bool s.r),.os 0 1 0 (List.length s.seen),.xl (.int .i64) s.l,.v (.int .i64 s.m),.v (.int .i64 s.k)]
def aFi (s:pz):List aW:=[⟨[],4,.vec .bool s.seen,false⟩]
noncomputable def CU:Code:=((aB (Tryz.f94.body.getD .skip))[0]?).getD .skip
def aa0 (s:pz):T (Rd pz):=
 .br (decide (s.k<s.m)) (.req (0≤s.k∧s.k<(List.length s.l:Int)) (.br (decide ((gi s.l s.k)<0)) (.rl s.seen (.ok (.stop (.ret) {s with r:=false}))) (.br (decide ((gi s.l s.k)≥s.n)) (.rl s.seen (.ok (.stop (.ret) {s with r:=false}))) (.req (0≤(gi s.l s.k)∧(gi s.l s.k)<((List.length s.seen:Nat):Int)) (.req ((gi s.l s.k).toNat<List.length s.seen) (.br (s.seen.getD (gi s.l s.k).toNat (Ty.dflt .bool)) (.rl s.seen (.ok (.stop (.ret) {s with r:=false}))) (.req (0≤(gi s.l s.k)∧(gi s.l s.k)<((List.length s.seen:Nat):Int)) (.req ((gi s.l s.k).toNat<List.length s.seen) (.req (0=0∧(List.length s.seen)=List.length (s.seen.set (gi s.l s.k).toNat true)) (.ok (.next {s with k:=(IntKind.i64.wrap (s.k+1)),seen:=(s.seen.set (gi s.l s.k).toNat true)}))))))))))) (.rl s.seen (.ok (.stop (.exit 0) s)))
abbrev auU (s:pz):=(aa0 s).rd s
def DF (s:pz) (j:Int):Bool:=UJ s.n (gi s.l j)&&!(((s.l.take j.toNat).map id).contains (id (gi s.l j)))
def anp (s:pz):Prop:=s.k=0∧s.seen=List.replicate s.seen.length false∧s.m=(s.l.length:Int)∧s.m≤1000∧s.n=(s.seen.length:Int)
def Oy (s:pz):Prop:=(0≤s.k∧s.k≤s.m)∧(∀j:Nat,j<s.seen.length→s.seen.getD j false=(s.l.take s.k.toNat).contains (j:Int))∧(∀j:Nat,(j:Int)<s.k→DF s j=true)∧s.m=(s.l.length:Int)∧s.m≤1000∧s.n=(s.seen.length:Int)
def Qy (s:pz):Nat:=(s.m-s.k).toNat
def aeW (x:Ex) (_ s':pz):Prop:=(x=.exit 0∧∀j:Nat,(j:Int)<s'.m→DF s' j=true)∨(x=.ret∧s'.r=false∧∃j:Nat,(j:Int)<s'.m∧DF s' j=false)
theorem aDf:∀s,anp s→Oy s:=by
 intro s h
 obtain ⟨h0,h1,h2,h3,h4⟩:=h
 refine ⟨by omega,fun j hj=>?_,fun j hj=>by omega,h2,h3,h4⟩
 rw [h1,h0]
 simp [List.getD,List.getElem?_replicate]
 split<;>rfl
theorem ay1 (s:pz) (hI:Oy s):bP (fun s'=>Oy s'∧Qy s'<Qy s) (fun x s'=>aeW x s s') (auU s):=by
 unfold auU aa0
 dsimp only [T.rd,T.rl]
 obtain ⟨⟨h0,h1⟩,h2,h3,h4,h5,h6⟩:=hI
 refine au (fun c1=>?_) (fun c1=>?_)
 rotate_left
 ·have c1:s.m≤s.k:=by simpa using c1
  exact .inl ⟨rfl,fun j hj=>h3 j (by omega)⟩
 have c1:s.k<s.m:=by simpa using c1
 have bad:DF s s.k=false→aeW .ret s {s with r:=false}:=fun hg=> .inr ⟨rfl,rfl,s.k.toNat,by simp only;omega,by rw [Int.toNat_of_nonneg h0];exact hg⟩
 refine au (fun c2=>bad ?_) (fun c2=>au (fun c3=>bad ?_) (fun c3=>au (fun c4=>bad ?_) (fun c4=>?_)))
 ·unfold DF UJ
  simp only [decide_eq_true_eq] at c2
  rw [decide_eq_false (by omega)]
  rfl
 ·unfold DF UJ
  simp only [decide_eq_true_eq] at c3
  rw [decide_eq_false (p:=gi s.l s.k<s.n) (by omega),Bool.and_false]
  rfl
 all_goals
  have c2:0≤gi s.l s.k:=by simpa using c2
  have c3:gi s.l s.k<s.n:=by simpa using c3
  have e:=h2 (gi s.l s.k).toNat (by omega)
  rw [Int.toNat_of_nonneg c2] at e
 ·have c4:s.seen.getD (gi s.l s.k).toNat false=true:=c4
  unfold DF
  rw [List.map_id,id,←e,c4]
  simp
 ·have c4:s.seen.getD (gi s.l s.k).toNat false=false:=c4
  have hg:DF s s.k=true:=by
   unfold DF
   rw [List.map_id,id,←e,c4,Am.2 ⟨c2,c3⟩]
   rfl
  rw [aN (x:=s.k+1) (by omega) (by omega)]
  refine ⟨⟨⟨by simp only;omega,by simp only;omega⟩,fun j hj=>?_,fun j hj=>?_,h4,h5,by simp only [List.length_set];exact h6⟩,by simp only [Qy];omega⟩
  ·simp only [List.length_set] at hj
   simp only
   rw [(gi_step h0 (show s.k<s.l.length by omega)).2,List.contains_append,←h2 j hj]
   by_cases hj2:(gi s.l s.k).toNat=j
   ·subst hj2
    rw [Int.toNat_of_nonneg c2]
    simp [List.getD,hj]
   ·have:¬(j:Int)=gi s.l s.k:=by omega
    simp [List.getD,List.getElem?_set_ne hj2,this]
  ·by_cases hji:(j:Int)<s.k
   ·exact h3 j hji
   ·have:(j:Int)=s.k:=by simp only at hj;omega
    rw [this];exact hg
def Gi:bQ pz:=⟨0,37,[1,4,5,14,15,16],[],aGl,aFi,fun v b=>⟨gI (v.getD 0 .junk),yF (v.getD 1 .junk),aQ (.int .i64) (v.getD 3 .junk),gI (v.getD 4 .junk),gI (v.getD 5 .junk),jd .bool (aO b 0)⟩,aa0,fun s r=> {r with n:=s.n,l:=s.l,m:=s.m},fun s=>s,fun _ s=>s,[.ret,.exit 0],anp,Oy,Qy⟩
abbrev abA:=Gi.run
abbrev ado:=Gi.jU
abbrev aA1:=Gi.q
theorem axy (s:pz) (hI:Oy s):(aa0 s).all (fun _=>True):=by
 refine ⟨fun c1=>⟨?_,fun c2=>⟨⟨rfl,rfl⟩,trivial⟩,fun c2=>⟨fun c3=>⟨⟨rfl,rfl⟩,trivial⟩,fun c3=>⟨?_,?_,fun c4=>⟨⟨rfl,rfl⟩,trivial⟩,fun c4=>⟨?_,?_,?_,trivial⟩⟩⟩⟩,fun c1=>⟨⟨rfl,rfl⟩,trivial⟩⟩
 iterate 5 · (obtain ⟨⟨h0,h1⟩,h2,h3,h4,h5,h6⟩:=hI;simp only [decide_eq_true_eq,decide_eq_false_iff_not] at*;omega)
 ·exact ⟨rfl,by simp⟩
noncomputable def ak2:Specs:=bf []
theorem auf:∀g S,ak2 g=some S→Valid Tryz.prog aS g S:=aT (l:=[]) trivial
theorem ai1:Gi.Ok:=⟨fun s=>by kernel_rfl,fun s=>by kernel_rfl,fun s=>rfl,fun s t r=>rfl,fun s=>rfl,fun s=>by kernel_rfl⟩
theorem ahT:Gi.Pf (aeW):=⟨aDf,fun _ _=>rfl,ay1,axy⟩
theorem aoz:bn Tryz.prog aS (AN 0) (.loop CU) Gi.lp:=bQ.snd ai1 ahT (aU (Γ:=ak2) (K:=fE) (L:=aC) auf aG CU (fun b hb=>by rw [show aB CU=[] by kernel_rfl] at hb;cases hb)) (fun s=>by kernel_rfl)
theorem aq6 (s:pz) (hE:anp s):∃s',Oy s'∧aeW (ado s) s' (abA s):=bQ.fin ai1 ahT s hE
def aey:List LV→T LV
 | [.xl (.int .i64) l,.v (.int .i64 n)]=> .req (n≤1000) (.ok (.v (.bool (nC l n))))
 |_=> .no
noncomputable def qW:List LV→T LV:=gZ Tryz.prog Tryz.f94.params.toList aey
theorem aqv (l:List Int) (n:Int):bW Tryz.prog aS (ak2) fE (fun i=>if i=5 then Gi.lp else aC i) Tryz.f94 [.xl (.int .i64) l,.v (.int .i64 n)]=.br ((List.length l:Int) !=n) (.ok (.v (.bool false))) (.req (0≤n∧n≤n∧1*n≤2^48∧n<2^63) (.req (0=0∧n.toNat=List.length (List.replicate n.toNat false)) (.req (aA1 (⟨n,false,l,(List.length l:Int),(0:Int),(List.replicate n.toNat false)⟩:pz)) (.br (iE (ado (⟨n,false,l,(List.length l:Int),(0:Int),(List.replicate n.toNat false)⟩:pz)) (.ret)) (.ok (.v (.bool (abA (⟨n,false,l,(List.length l:Int),(0:Int),(List.replicate n.toNat false)⟩:pz)).r))) (.ok (.v (.bool true))))))):=by kernel_rfl
theorem Ii:Valid Tryz.prog aS 94 qW:=aI Tryz.func94 rfl auf aG (L:=(fun i=>if i=5 then Gi.lp else aC i)) (fun b hb=>by
 rw [show aB _=[CU] by kernel_rfl] at hb
 simp only [List.mem_cons,List.not_mem_nil,or_false] at hb
 subst hb
 exact aoz) (fun args lv h=>by
 unfold aey at h
 split at h
 ·simp only [canL,canX]
  rw [aqv]
  rename_i l n
  obtain ⟨hl,rfl⟩:=h
  refine ⟨fun c=>congrArg (fun z=>LV.v (.bool z)) ?_,fun c=>?_⟩
  ·have c:¬(List.length l:Int)=n:=by simpa using c
   unfold nC
   rw [decide_eq_false c]
   rfl
  ·have c:(List.length l:Int)=n:=by simpa using c
   unfold nC
   rw [decide_eq_true c,Bool.true_and]
   refine ⟨by omega,⟨rfl,by simp⟩,oH ⟨⟨rfl,by simp,rfl,by simp only;omega,by simp only [List.length_replicate];omega⟩,rfl,rfl⟩ (fun hE=>?_)⟩
   obtain ⟨s',_,hq⟩:=aq6 _ hE.1
   rcases hq with ⟨q1,q2⟩ |⟨q1,q2,j,q3,q4⟩
   ·rw [q1]
    have hk:=(kZ (d:=(0:Int)) (p:=UJ n) (k:=id)).1 q2
    rw [List.map_id] at hk
    rw [hk]
    exact ⟨fun h=>(by cases h),fun _=>rfl⟩
   ·rw [q1,q2]
    refine ⟨fun _=>congrArg (fun z=>LV.v (.bool z)) ?_,fun h=>by cases h⟩
    rw [eq_comm,Bool.eq_false_iff]
    intro hx
    have:=(kZ (d:=(0:Int)) (p:=UJ n) (k:=id)).2 (by rw [List.map_id];exact hx) j q3
    exact Bool.noConfusion (this.symm.trans q4)
 ·cases h)
end Go.Proofs.YtlihnbimgclogaaGreatDoor
namespace Go.Proofs.YtlihnbimgclogaaGreatDoor
open Go.Sx
structure jW where
 r:Bool
 l:List Int
 n:Int
 i:Int
 aH:List Cd
 cu:List ByteArray
 bG:List Ko
 bK:List Ch
 eX:List Ba
def aGr (s:jW):List LV:=[.fn 92 [],.v (.bool s.r),.xl (.int .i64) s.l,.v (.int .i64 s.n),.v (.int .i64 s.i)]
def aFo (s:jW):List aW:=[⟨[.xl eu s.aH,.xl .str s.cu,.xl eG s.bG,.xl dK s.bK,.xl eP s.eX],28,.cl,false⟩]
noncomputable def VU:Code:=((aB (Tryz.f93.body.getD .skip))[0]?).getD .skip
def aa2 (s:jW):T (Rd jW):=
 .br (decide (s.i<s.n)) (.req (0≤s.i∧s.i<(List.length s.l:Int)) (.br (!((decide ((gi s.l s.i)≥0))&&(decide ((gi s.l s.i)≤80)))) (.ok (.stop (.ret) {s with r:=false})) (.ok (.next {s with i:=(IntKind.i64.wrap (s.i+1))})))) (.ok (.stop (.exit 0) s))
abbrev auW (s:jW):=(aa2 s).rd s
def KO (s:jW) (j:Int):Bool:=vH (gi s.l j)
def afe (s:jW):Prop:=s.i=0∧0≤s.n∧s.n≤1000∧s.n=(s.l.length:Int)
def OB (s:jW):Prop:=0≤s.i∧s.i≤s.n∧s.n≤1000∧(s.n=(s.l.length:Int))∧∀j:Nat,(j:Int)<s.i→KO s j=true
def QE (s:jW):Nat:=(s.n-s.i).toNat
def amR (x:Ex) (_ s':jW):Prop:=(x=.exit 0∧∀j:Nat,(j:Int)<s'.n→KO s' j=true)∨(x=.ret∧s'.r=false∧∃j:Nat,(j:Int)<s'.n∧KO s' j=false)
theorem aD3:∀s,afe s→OB s:=by
 intro s h
 obtain ⟨h0,h1,h2,h3⟩:=h
 exact ⟨by omega,by omega,h2,h3,fun j hj=>by omega⟩
theorem azD (s:jW) (hI:OB s):bP (fun s'=>OB s'∧QE s'<QE s) (fun x s'=>amR x s s') (auW s):=by
 unfold auW aa2
 dsimp only [T.rd,T.rl]
 obtain ⟨h0,h1,h2,h3,h4⟩:=hI
 refine au (fun c1=>au (fun c2=>?_) (fun c2=>?_)) (fun c1=>?_)
 ·have c1:s.i<s.n:=by simpa using c1
  refine .inr ⟨rfl,rfl,s.i.toNat,by simp only;omega,?_⟩
  rw [Int.toNat_of_nonneg (by omega)]
  have hg:KO s s.i=false:=by unfold KO;(first|(have c2:(!(vH (gi s.l s.i)))=false:=c2;simpa using c2) |(have c2:(!(vH (gi s.l s.i)))=true:=c2;simpa using c2))
  exact hg
 ·have c1:s.i<s.n:=by simpa using c1
  have hg:KO s s.i=true:=by unfold KO;(first|(have c2:(!(vH (gi s.l s.i)))=false:=c2;simpa using c2) |(have c2:(!(vH (gi s.l s.i)))=true:=c2;simpa using c2))
  rw [aN (x:=s.i+1) (by omega) (by omega)]
  refine ⟨⟨by simp only;omega,by simp only;omega,h2,h3,fun j hj=>?_⟩,by simp only [QE];omega⟩
  by_cases hji:(j:Int)<s.i
  ·exact h4 j hji
  ·have:(j:Int)=s.i:=by simp only at hj;omega
   rw [this];exact hg
 ·have c1:s.n≤s.i:=by simpa using c1
  exact .inl ⟨rfl,fun j hj=>h4 j (by omega)⟩
def vX:bQ jW:=⟨1,18,[1,4,7,8,9],[],aGr,aFo,fun v b=>⟨yF (v.getD 1 .junk),aQ (.int .i64) (v.getD 2 .junk),gI (v.getD 3 .junk),gI (v.getD 4 .junk),aQ eu (aV (aO b 0) 0),aQ .str (aV (aO b 0) 1),aQ eG (aV (aO b 0) 2),aQ dK (aV (aO b 0) 3),aQ eP (aV (aO b 0) 4)⟩,aa2,fun s r=> {r with l:=s.l,n:=s.n,aH:=s.aH,cu:=s.cu,bG:=s.bG,bK:=s.bK,eX:=s.eX},fun s=>s,fun _ s=>s,[.ret,.exit 0],afe,OB,QE⟩
abbrev uO:=vX.run
abbrev yI:=vX.jU
abbrev aas:=vX.q
noncomputable def y7:Specs:=bf [(24,oI),(61,qX),(94,qW),(96,qV)]
theorem AY:∀g S,y7 g=some S→Valid Tryz.prog aS g S:=aT (l:=[(24,oI),(61,qX),(94,qW),(96,qV)]) ⟨DR,Ij,Ii,Ih,trivial⟩
noncomputable def akx:Hand:=inl Tryz.prog aS y7 (kH Tryz.prog aS (y7) 20 2) 9
theorem atG:cZ Tryz.prog aS akx:=bM AY (dI AY) 9
theorem axE (s:jW) (hI:OB s):(aa2 s).all (fun _=>True):=by
 refine ⟨fun c1=>⟨?_,fun _=>trivial,fun _=>trivial⟩,fun _=>trivial⟩
 ·(obtain ⟨h0,h1,h2,h3,h4⟩:=hI;simp at c1;omega)
theorem ai7:vX.Ok:=⟨fun s=>by kernel_rfl,fun s=>by kernel_rfl,fun s=>rfl,fun s t r=>rfl,fun s=>rfl,fun s=>by kernel_rfl⟩
theorem ahZ:vX.Pf (amR):=⟨aD3,fun _ _=>rfl,azD,axE⟩
theorem xQ:bn Tryz.prog aS (AN 1) (.loop VU) vX.lp:=bQ.snd ai7 ahZ (bF (Γ:=y7) (K:=akx) (L:=(sO Tryz.prog aS y7 akx 20 2)) AY atG VU (fun b _=>dN AY atG 20 2 b)) (fun s=>by kernel_rfl)
theorem ar2 (s:jW) (hE:afe s):∃s',OB s'∧amR (yI s) s' (uO s):=bQ.fin ai7 ahZ s hE
theorem adx (s:jW) (hE:afe s):(yI s=.exit 0∧s.l.all vH=true)∨(yI s=.ret∧(uO s).r=false∧s.l.all vH=false):=by
 obtain ⟨s',hI,hq⟩:=ar2 s hE
 obtain ⟨h0,h1,h2,h3⟩:=hE
 have el:(uO s).l=s.l:=rfl
 have en:(uO s).n=s.n:=rfl
 rcases hq with ⟨q1,q2⟩ |⟨q1,q2,j,q3,q4⟩
 ·refine .inl ⟨q1,(jV (d:=(0:Int))).1 fun j hj=>?_⟩
  have:=q2 j (by rw [en];omega)
  exact this
 ·refine .inr ⟨q1,q2,?_⟩
  rw [Bool.eq_false_iff]
  intro hx
  have:=(jV (d:=(0:Int))).2 hx j (by rw [en] at q3;omega)
  exact Bool.noConfusion (this.symm.trans q4)
structure iI where
 alive:List Int
 i:Int
 rows:List Rw
 rn:Int
 ri:Int
 l:List Int
 n:Int
 k:Int
 bU:List Cd
 fB:List ByteArray
 bZ:List Ko
 dn:List Ch
 iQ:List Ba
 zk:List Cd
 zh:List ByteArray
 zi:List Ko
 fF:List Ch
 zl:List Ba
 bI:List Rw
 bg:List Int
 jB:List Int
 jA:List Int
 jy:List Int
 jw:List Int
 jv:List Int
 jr:List Int
 jq:List Int
 jo:List Int
 jm:List Int
 jl:List Int
 dU:List Int
 dS:List Int
 dR:List Int
 dQ:List Int
 dP:List Int
 dO:List Int
 sums:List Int
 levels:List Int
def aF8 (s:iI):List LV:=[.xl (.int .i64) s.alive,.own 1 0,.v (.int .i64 s.i),.xl GY s.rows,.v (.int .i64 s.rn),.v (.int .i64 s.ri),.xl (.int .i64) s.l,.v (.int .i64 s.n),.v (.int .i64 s.k)]
def aE5 (s:iI):List aW:=[⟨[.xl eu s.bU,.xl .str s.fB,.xl eG s.bZ,.xl dK s.dn,.xl eP s.iQ],28,.cl,false⟩,⟨[.xl eu s.zk,.xl .str s.zh,.xl eG s.zi,.xl dK s.fF,.xl eP s.zl,.xl GY s.bI,.os 2 1 0 (List.length s.jB),.os 3 1 0 (List.length s.jA),.os 4 1 0 (List.length s.jy),.os 5 1 0 (List.length s.jw),.os 6 1 0 (List.length s.jv),.os 7 1 0 (List.length s.jr),.os 8 1 0 (List.length s.jq),.os 9 1 0 (List.length s.jo),.os 10 1 0 (List.length s.jm),.os 11 1 0 (List.length s.jl),.os 12 1 0 (List.length s.dU),.os 13 1 0 (List.length s.dS),.os 14 1 0 (List.length s.dR),.os 15 1 0 (List.length s.dQ),.os 16 1 0 (List.length s.dP),.os 17 1 0 (List.length s.dO),.os 18 1 0 (List.length s.sums),.xl (.int .i64) s.bg,.os 19 1 0 (List.length s.levels)],148,.cl,false⟩,⟨[],3,.vec (.int .i64) s.jB,false⟩,⟨[],3,.vec (.int .i64) s.jA,false⟩,⟨[],3,.vec (.int .i64) s.jy,false⟩,⟨[],3,.vec (.int .i64) s.jw,false⟩,⟨[],3,.vec (.int .i64) s.jv,false⟩,⟨[],3,.vec (.int .i64) s.jr,false⟩,⟨[],3,.vec (.int .i64) s.jq,false⟩,⟨[],3,.vec (.int .i64) s.jo,false⟩,⟨[],3,.vec (.int .i64) s.jm,false⟩,⟨[],3,.vec (.int .i64) s.jl,false⟩,⟨[],3,.vec (.int .i64) s.dU,false⟩,⟨[],3,.vec (.int .i64) s.dS,false⟩,⟨[],3,.vec (.int .i64) s.dR,false⟩,⟨[],3,.vec (.int .i64) s.dQ,false⟩,⟨[],3,.vec (.int .i64) s.dP,false⟩,⟨[],3,.vec (.int .i64) s.dO,false⟩,⟨[],3,.vec (.int .i64) s.sums,false⟩,⟨[],3,.vec (.int .i64) s.levels,false⟩]
noncomputable def JP:Code:=((aB (((aB (Tryz.f95.body.getD .skip))[0]?).getD .skip))[0]?).getD .skip
set_option maxHeartbeats 4000000 in
def TU (s:iI):T (Rd iI):=
 .br (decide (s.k<s.n)) (.req (0≤s.k∧s.k<(List.length s.l:Int)) (.req (0≤(gi s.l s.k)∧(gi s.l s.k)<(16:Int)) (.br ((gi s.l s.k)==0) (.req (0+(List.length s.jB)=List.length s.jB∧((List.length s.jB+List.length ([s.i]):Nat):Int)*8≤2^47∧((List.length s.jB+List.length ([s.i]):Nat):Int)<2^62) (.req (0≤s.i∧s.i<((List.length s.sums:Nat):Int)) (.req (0≤(0:Int)∧0<(List.length s.alive:Int)) (.req (s.i.toNat<List.length s.sums) (.req (0≤s.i∧s.i<((List.length s.sums:Nat):Int)) (.req (s.i.toNat<List.length s.sums) (.req (0=0∧(List.length s.jB+List.length ([s.i]))=List.length (s.jB++([s.i]))) (.rl s.jA (.rl s.jy (.rl s.jw (.rl s.jv (.rl s.jr (.rl s.jq (.rl s.jo (.rl s.jm (.rl s.jl (.rl s.dU (.rl s.dS (.rl s.dR (.rl s.dQ (.rl s.dP (.rl s.dO (.req (0=0∧(List.length s.sums)=List.length (s.sums.set s.i.toNat (IntKind.i64.wrap ((s.sums.getD s.i.toNat (Ty.dflt (.int .i64)))+(gi s.alive (0:Int)))))) (.rl s.levels (.ok (.next {s with k:=(IntKind.i64.wrap (s.k+1)),jB:=(s.jB++([s.i])),sums:=(s.sums.set s.i.toNat (IntKind.i64.wrap ((s.sums.getD s.i.toNat (Ty.dflt (.int .i64)))+(gi s.alive (0:Int)))))})))))))))))))))))))))))))) (.br ((gi s.l s.k)==1) (.req (0+(List.length s.jA)=List.length s.jA∧((List.length s.jA+List.length ([s.i]):Nat):Int)*8≤2^47∧((List.length s.jA+List.length ([s.i]):Nat):Int)<2^62) (.req (0≤s.i∧s.i<((List.length s.sums:Nat):Int)) (.req (0≤(1:Int)∧1<(List.length s.alive:Int)) (.req (s.i.toNat<List.length s.sums) (.req (0≤s.i∧s.i<((List.length s.sums:Nat):Int)) (.req (s.i.toNat<List.length s.sums) (.rl s.jB (.req (0=0∧(List.length s.jA+List.length ([s.i]))=List.length (s.jA++([s.i]))) (.rl s.jy (.rl s.jw (.rl s.jv (.rl s.jr (.rl s.jq (.rl s.jo (.rl s.jm (.rl s.jl (.rl s.dU (.rl s.dS (.rl s.dR (.rl s.dQ (.rl s.dP (.rl s.dO (.req (0=0∧(List.length s.sums)=List.length (s.sums.set s.i.toNat (IntKind.i64.wrap ((s.sums.getD s.i.toNat (Ty.dflt (.int .i64)))+(gi s.alive (1:Int)))))) (.rl s.levels (.ok (.next {s with k:=(IntKind.i64.wrap (s.k+1)),jA:=(s.jA++([s.i])),sums:=(s.sums.set s.i.toNat (IntKind.i64.wrap ((s.sums.getD s.i.toNat (Ty.dflt (.int .i64)))+(gi s.alive (1:Int)))))})))))))))))))))))))))))))) (.br ((gi s.l s.k)==2) (.req (0+(List.length s.jy)=List.length s.jy∧((List.length s.jy+List.length ([s.i]):Nat):Int)*8≤2^47∧((List.length s.jy+List.length ([s.i]):Nat):Int)<2^62) (.req (0≤s.i∧s.i<((List.length s.sums:Nat):Int)) (.req (0≤(2:Int)∧2<(List.length s.alive:Int)) (.req (s.i.toNat<List.length s.sums) (.req (0≤s.i∧s.i<((List.length s.sums:Nat):Int)) (.req (s.i.toNat<List.length s.sums) (.rl s.jB (.rl s.jA (.req (0=0∧(List.length s.jy+List.length ([s.i]))=List.length (s.jy++([s.i]))) (.rl s.jw (.rl s.jv (.rl s.jr (.rl s.jq (.rl s.jo (.rl s.jm (.rl s.jl (.rl s.dU (.rl s.dS (.rl s.dR (.rl s.dQ (.rl s.dP (.rl s.dO (.req (0=0∧(List.length s.sums)=List.length (s.sums.set s.i.toNat (IntKind.i64.wrap ((s.sums.getD s.i.toNat (Ty.dflt (.int .i64)))+(gi s.alive (2:Int)))))) (.rl s.levels (.ok (.next {s with k:=(IntKind.i64.wrap (s.k+1)),jy:=(s.jy++([s.i])),sums:=(s.sums.set s.i.toNat (IntKind.i64.wrap ((s.sums.getD s.i.toNat (Ty.dflt (.int .i64)))+(gi s.alive (2:Int)))))})))))))))))))))))))))))))) (.br ((gi s.l s.k)==3) (.req (0+(List.length s.jw)=List.length s.jw∧((List.length s.jw+List.length ([s.i]):Nat):Int)*8≤2^47∧((List.length s.jw+List.length ([s.i]):Nat):Int)<2^62) (.req (0≤s.i∧s.i<((List.length s.sums:Nat):Int)) (.req (0≤(3:Int)∧3<(List.length s.alive:Int)) (.req (s.i.toNat<List.length s.sums) (.req (0≤s.i∧s.i<((List.length s.sums:Nat):Int)) (.req (s.i.toNat<List.length s.sums) (.rl s.jB (.rl s.jA (.rl s.jy (.req (0=0∧(List.length s.jw+List.length ([s.i]))=List.length (s.jw++([s.i]))) (.rl s.jv (.rl s.jr (.rl s.jq (.rl s.jo (.rl s.jm (.rl s.jl (.rl s.dU (.rl s.dS (.rl s.dR (.rl s.dQ (.rl s.dP (.rl s.dO (.req (0=0∧(List.length s.sums)=List.length (s.sums.set s.i.toNat (IntKind.i64.wrap ((s.sums.getD s.i.toNat (Ty.dflt (.int .i64)))+(gi s.alive (3:Int)))))) (.rl s.levels (.ok (.next {s with k:=(IntKind.i64.wrap (s.k+1)),jw:=(s.jw++([s.i])),sums:=(s.sums.set s.i.toNat (IntKind.i64.wrap ((s.sums.getD s.i.toNat (Ty.dflt (.int .i64)))+(gi s.alive (3:Int)))))})))))))))))))))))))))))))) (.br ((gi s.l s.k)==4) (.req (0+(List.length s.jv)=List.length s.jv∧((List.length s.jv+List.length ([s.i]):Nat):Int)*8≤2^47∧((List.length s.jv+List.length ([s.i]):Nat):Int)<2^62) (.req (0≤s.i∧s.i<((List.length s.sums:Nat):Int)) (.req (0≤(4:Int)∧4<(List.length s.alive:Int)) (.req (s.i.toNat<List.length s.sums) (.req (0≤s.i∧s.i<((List.length s.sums:Nat):Int)) (.req (s.i.toNat<List.length s.sums) (.rl s.jB (.rl s.jA (.rl s.jy (.rl s.jw (.req (0=0∧(List.length s.jv+List.length ([s.i]))=List.length (s.jv++([s.i]))) (.rl s.jr (.rl s.jq (.rl s.jo (.rl s.jm (.rl s.jl (.rl s.dU (.rl s.dS (.rl s.dR (.rl s.dQ (.rl s.dP (.rl s.dO (.req (0=0∧(List.length s.sums)=List.length (s.sums.set s.i.toNat (IntKind.i64.wrap ((s.sums.getD s.i.toNat (Ty.dflt (.int .i64)))+(gi s.alive (4:Int)))))) (.rl s.levels (.ok (.next {s with k:=(IntKind.i64.wrap (s.k+1)),jv:=(s.jv++([s.i])),sums:=(s.sums.set s.i.toNat (IntKind.i64.wrap ((s.sums.getD s.i.toNat (Ty.dflt (.int .i64)))+(gi s.alive (4:Int)))))})))))))))))))))))))))))))) (.br ((gi s.l s.k)==5) (.req (0+(List.length s.jr)=List.length s.jr∧((List.length s.jr+List.length ([s.i]):Nat):Int)*8≤2^47∧((List.length s.jr+List.length ([s.i]):Nat):Int)<2^62) (.req (0≤s.i∧s.i<((List.length s.sums:Nat):Int)) (.req (0≤(5:Int)∧5<(List.length s.alive:Int)) (.req (s.i.toNat<List.length s.sums) (.req (0≤s.i∧s.i<((List.length s.sums:Nat):Int)) (.req (s.i.toNat<List.length s.sums) (.rl s.jB (.rl s.jA (.rl s.jy (.rl s.jw (.rl s.jv (.req (0=0∧(List.length s.jr+List.length ([s.i]))=List.length (s.jr++([s.i]))) (.rl s.jq (.rl s.jo (.rl s.jm (.rl s.jl (.rl s.dU (.rl s.dS (.rl s.dR (.rl s.dQ (.rl s.dP (.rl s.dO (.req (0=0∧(List.length s.sums)=List.length (s.sums.set s.i.toNat (IntKind.i64.wrap ((s.sums.getD s.i.toNat (Ty.dflt (.int .i64)))+(gi s.alive (5:Int)))))) (.rl s.levels (.ok (.next {s with k:=(IntKind.i64.wrap (s.k+1)),jr:=(s.jr++([s.i])),sums:=(s.sums.set s.i.toNat (IntKind.i64.wrap ((s.sums.getD s.i.toNat (Ty.dflt (.int .i64)))+(gi s.alive (5:Int)))))})))))))))))))))))))))))))) (.br ((gi s.l s.k)==6) (.req (0+(List.length s.jq)=List.length s.jq∧((List.length s.jq+List.length ([s.i]):Nat):Int)*8≤2^47∧((List.length s.jq+List.length ([s.i]):Nat):Int)<2^62) (.req (0≤s.i∧s.i<((List.length s.sums:Nat):Int)) (.req (0≤(6:Int)∧6<(List.length s.alive:Int)) (.req (s.i.toNat<List.length s.sums) (.req (0≤s.i∧s.i<((List.length s.sums:Nat):Int)) (.req (s.i.toNat<List.length s.sums) (.rl s.jB (.rl s.jA (.rl s.jy (.rl s.jw (.rl s.jv (.rl s.jr (.req (0=0∧(List.length s.jq+List.length ([s.i]))=List.length (s.jq++([s.i]))) (.rl s.jo (.rl s.jm (.rl s.jl (.rl s.dU (.rl s.dS (.rl s.dR (.rl s.dQ (.rl s.dP (.rl s.dO (.req (0=0∧(List.length s.sums)=List.length (s.sums.set s.i.toNat (IntKind.i64.wrap ((s.sums.getD s.i.toNat (Ty.dflt (.int .i64)))+(gi s.alive (6:Int)))))) (.rl s.levels (.ok (.next {s with k:=(IntKind.i64.wrap (s.k+1)),jq:=(s.jq++([s.i])),sums:=(s.sums.set s.i.toNat (IntKind.i64.wrap ((s.sums.getD s.i.toNat (Ty.dflt (.int .i64)))+(gi s.alive (6:Int)))))})))))))))))))))))))))))))) (.br ((gi s.l s.k)==7) (.req (0+(List.length s.jo)=List.length s.jo∧((List.length s.jo+List.length ([s.i]):Nat):Int)*8≤2^47∧((List.length s.jo+List.length ([s.i]):Nat):Int)<2^62) (.req (0≤s.i∧s.i<((List.length s.sums:Nat):Int)) (.req (0≤(7:Int)∧7<(List.length s.alive:Int)) (.req (s.i.toNat<List.length s.sums) (.req (0≤s.i∧s.i<((List.length s.sums:Nat):Int)) (.req (s.i.toNat<List.length s.sums) (.rl s.jB (.rl s.jA (.rl s.jy (.rl s.jw (.rl s.jv (.rl s.jr (.rl s.jq (.req (0=0∧(List.length s.jo+List.length ([s.i]))=List.length (s.jo++([s.i]))) (.rl s.jm (.rl s.jl (.rl s.dU (.rl s.dS (.rl s.dR (.rl s.dQ (.rl s.dP (.rl s.dO (.req (0=0∧(List.length s.sums)=List.length (s.sums.set s.i.toNat (IntKind.i64.wrap ((s.sums.getD s.i.toNat (Ty.dflt (.int .i64)))+(gi s.alive (7:Int)))))) (.rl s.levels (.ok (.next {s with k:=(IntKind.i64.wrap (s.k+1)),jo:=(s.jo++([s.i])),sums:=(s.sums.set s.i.toNat (IntKind.i64.wrap ((s.sums.getD s.i.toNat (Ty.dflt (.int .i64)))+(gi s.alive (7:Int)))))})))))))))))))))))))))))))) (.br ((gi s.l s.k)==8) (.req (0+(List.length s.jm)=List.length s.jm∧((List.length s.jm+List.length ([s.i]):Nat):Int)*8≤2^47∧((List.length s.jm+List.length ([s.i]):Nat):Int)<2^62) (.req (0≤s.i∧s.i<((List.length s.sums:Nat):Int)) (.req (0≤(8:Int)∧8<(List.length s.alive:Int)) (.req (s.i.toNat<List.length s.sums) (.req (0≤s.i∧s.i<((List.length s.sums:Nat):Int)) (.req (s.i.toNat<List.length s.sums) (.rl s.jB (.rl s.jA (.rl s.jy (.rl s.jw (.rl s.jv (.rl s.jr (.rl s.jq (.rl s.jo (.req (0=0∧(List.length s.jm+List.length ([s.i]))=List.length (s.jm++([s.i]))) (.rl s.jl (.rl s.dU (.rl s.dS (.rl s.dR (.rl s.dQ (.rl s.dP (.rl s.dO (.req (0=0∧(List.length s.sums)=List.length (s.sums.set s.i.toNat (IntKind.i64.wrap ((s.sums.getD s.i.toNat (Ty.dflt (.int .i64)))+(gi s.alive (8:Int)))))) (.rl s.levels (.ok (.next {s with k:=(IntKind.i64.wrap (s.k+1)),jm:=(s.jm++([s.i])),sums:=(s.sums.set s.i.toNat (IntKind.i64.wrap ((s.sums.getD s.i.toNat (Ty.dflt (.int .i64)))+(gi s.alive (8:Int)))))})))))))))))))))))))))))))) (.br ((gi s.l s.k)==9) (.req (0+(List.length s.jl)=List.length s.jl∧((List.length s.jl+List.length ([s.i]):Nat):Int)*8≤2^47∧((List.length s.jl+List.length ([s.i]):Nat):Int)<2^62) (.req (0≤s.i∧s.i<((List.length s.sums:Nat):Int)) (.req (0≤(9:Int)∧9<(List.length s.alive:Int)) (.req (s.i.toNat<List.length s.sums) (.req (0≤s.i∧s.i<((List.length s.sums:Nat):Int)) (.req (s.i.toNat<List.length s.sums) (.rl s.jB (.rl s.jA (.rl s.jy (.rl s.jw (.rl s.jv (.rl s.jr (.rl s.jq (.rl s.jo (.rl s.jm (.req (0=0∧(List.length s.jl+List.length ([s.i]))=List.length (s.jl++([s.i]))) (.rl s.dU (.rl s.dS (.rl s.dR (.rl s.dQ (.rl s.dP (.rl s.dO (.req (0=0∧(List.length s.sums)=List.length (s.sums.set s.i.toNat (IntKind.i64.wrap ((s.sums.getD s.i.toNat (Ty.dflt (.int .i64)))+(gi s.alive (9:Int)))))) (.rl s.levels (.ok (.next {s with k:=(IntKind.i64.wrap (s.k+1)),jl:=(s.jl++([s.i])),sums:=(s.sums.set s.i.toNat (IntKind.i64.wrap ((s.sums.getD s.i.toNat (Ty.dflt (.int .i64)))+(gi s.alive (9:Int)))))})))))))))))))))))))))))))) (.br ((gi s.l s.k)==10) (.req (0+(List.length s.dU)=List.length s.dU∧((List.length s.dU+List.length ([s.i]):Nat):Int)*8≤2^47∧((List.length s.dU+List.length ([s.i]):Nat):Int)<2^62) (.req (0≤s.i∧s.i<((List.length s.sums:Nat):Int)) (.req (0≤(10:Int)∧10<(List.length s.alive:Int)) (.req (s.i.toNat<List.length s.sums) (.req (0≤s.i∧s.i<((List.length s.sums:Nat):Int)) (.req (s.i.toNat<List.length s.sums) (.rl s.jB (.rl s.jA (.rl s.jy (.rl s.jw (.rl s.jv (.rl s.jr (.rl s.jq (.rl s.jo (.rl s.jm (.rl s.jl (.req (0=0∧(List.length s.dU+List.length ([s.i]))=List.length (s.dU++([s.i]))) (.rl s.dS (.rl s.dR (.rl s.dQ (.rl s.dP (.rl s.dO (.req (0=0∧(List.length s.sums)=List.length (s.sums.set s.i.toNat (IntKind.i64.wrap ((s.sums.getD s.i.toNat (Ty.dflt (.int .i64)))+(gi s.alive (10:Int)))))) (.rl s.levels (.ok (.next {s with k:=(IntKind.i64.wrap (s.k+1)),dU:=(s.dU++([s.i])),sums:=(s.sums.set s.i.toNat (IntKind.i64.wrap ((s.sums.getD s.i.toNat (Ty.dflt (.int .i64)))+(gi s.alive (10:Int)))))})))))))))))))))))))))))))) (.br ((gi s.l s.k)==11) (.req (0+(List.length s.dS)=List.length s.dS∧((List.length s.dS+List.length ([s.i]):Nat):Int)*8≤2^47∧((List.length s.dS+List.length ([s.i]):Nat):Int)<2^62) (.req (0≤s.i∧s.i<((List.length s.sums:Nat):Int)) (.req (0≤(11:Int)∧11<(List.length s.alive:Int)) (.req (s.i.toNat<List.length s.sums) (.req (0≤s.i∧s.i<((List.length s.sums:Nat):Int)) (.req (s.i.toNat<List.length s.sums) (.rl s.jB (.rl s.jA (.rl s.jy (.rl s.jw (.rl s.jv (.rl s.jr (.rl s.jq (.rl s.jo (.rl s.jm (.rl s.jl (.rl s.dU (.req (0=0∧(List.length s.dS+List.length ([s.i]))=List.length (s.dS++([s.i]))) (.rl s.dR (.rl s.dQ (.rl s.dP (.rl s.dO (.req (0=0∧(List.length s.sums)=List.length (s.sums.set s.i.toNat (IntKind.i64.wrap ((s.sums.getD s.i.toNat (Ty.dflt (.int .i64)))+(gi s.alive (11:Int)))))) (.rl s.levels (.ok (.next {s with k:=(IntKind.i64.wrap (s.k+1)),dS:=(s.dS++([s.i])),sums:=(s.sums.set s.i.toNat (IntKind.i64.wrap ((s.sums.getD s.i.toNat (Ty.dflt (.int .i64)))+(gi s.alive (11:Int)))))})))))))))))))))))))))))))) (.br ((gi s.l s.k)==12) (.req (0+(List.length s.dR)=List.length s.dR∧((List.length s.dR+List.length ([s.i]):Nat):Int)*8≤2^47∧((List.length s.dR+List.length ([s.i]):Nat):Int)<2^62) (.req (0≤s.i∧s.i<((List.length s.sums:Nat):Int)) (.req (0≤(12:Int)∧12<(List.length s.alive:Int)) (.req (s.i.toNat<List.length s.sums) (.req (0≤s.i∧s.i<((List.length s.sums:Nat):Int)) (.req (s.i.toNat<List.length s.sums) (.rl s.jB (.rl s.jA (.rl s.jy (.rl s.jw (.rl s.jv (.rl s.jr (.rl s.jq (.rl s.jo (.rl s.jm (.rl s.jl (.rl s.dU (.rl s.dS (.req (0=0∧(List.length s.dR+List.length ([s.i]))=List.length (s.dR++([s.i]))) (.rl s.dQ (.rl s.dP (.rl s.dO (.req (0=0∧(List.length s.sums)=List.length (s.sums.set s.i.toNat (IntKind.i64.wrap ((s.sums.getD s.i.toNat (Ty.dflt (.int .i64)))+(gi s.alive (12:Int)))))) (.rl s.levels (.ok (.next {s with k:=(IntKind.i64.wrap (s.k+1)),dR:=(s.dR++([s.i])),sums:=(s.sums.set s.i.toNat (IntKind.i64.wrap ((s.sums.getD s.i.toNat (Ty.dflt (.int .i64)))+(gi s.alive (12:Int)))))})))))))))))))))))))))))))) (.br ((gi s.l s.k)==13) (.req (0+(List.length s.dQ)=List.length s.dQ∧((List.length s.dQ+List.length ([s.i]):Nat):Int)*8≤2^47∧((List.length s.dQ+List.length ([s.i]):Nat):Int)<2^62) (.req (0≤s.i∧s.i<((List.length s.sums:Nat):Int)) (.req (0≤(13:Int)∧13<(List.length s.alive:Int)) (.req (s.i.toNat<List.length s.sums) (.req (0≤s.i∧s.i<((List.length s.sums:Nat):Int)) (.req (s.i.toNat<List.length s.sums) (.rl s.jB (.rl s.jA (.rl s.jy (.rl s.jw (.rl s.jv (.rl s.jr (.rl s.jq (.rl s.jo (.rl s.jm (.rl s.jl (.rl s.dU (.rl s.dS (.rl s.dR (.req (0=0∧(List.length s.dQ+List.length ([s.i]))=List.length (s.dQ++([s.i]))) (.rl s.dP (.rl s.dO (.req (0=0∧(List.length s.sums)=List.length (s.sums.set s.i.toNat (IntKind.i64.wrap ((s.sums.getD s.i.toNat (Ty.dflt (.int .i64)))+(gi s.alive (13:Int)))))) (.rl s.levels (.ok (.next {s with k:=(IntKind.i64.wrap (s.k+1)),dQ:=(s.dQ++([s.i])),sums:=(s.sums.set s.i.toNat (IntKind.i64.wrap ((s.sums.getD s.i.toNat (Ty.dflt (.int .i64)))+(gi s.alive (13:Int)))))})))))))))))))))))))))))))) (.br ((gi s.l s.k)==14) (.req (0+(List.length s.dP)=List.length s.dP∧((List.length s.dP+List.length ([s.i]):Nat):Int)*8≤2^47∧((List.length s.dP+List.length ([s.i]):Nat):Int)<2^62) (.req (0≤s.i∧s.i<((List.length s.sums:Nat):Int)) (.req (0≤(14:Int)∧14<(List.length s.alive:Int)) (.req (s.i.toNat<List.length s.sums) (.req (0≤s.i∧s.i<((List.length s.sums:Nat):Int)) (.req (s.i.toNat<List.length s.sums) (.rl s.jB (.rl s.jA (.rl s.jy (.rl s.jw (.rl s.jv (.rl s.jr (.rl s.jq (.rl s.jo (.rl s.jm (.rl s.jl (.rl s.dU (.rl s.dS (.rl s.dR (.rl s.dQ (.req (0=0∧(List.length s.dP+List.length ([s.i]))=List.length (s.dP++([s.i]))) (.rl s.dO (.req (0=0∧(List.length s.sums)=List.length (s.sums.set s.i.toNat (IntKind.i64.wrap ((s.sums.getD s.i.toNat (Ty.dflt (.int .i64)))+(gi s.alive (14:Int)))))) (.rl s.levels (.ok (.next {s with k:=(IntKind.i64.wrap (s.k+1)),dP:=(s.dP++([s.i])),sums:=(s.sums.set s.i.toNat (IntKind.i64.wrap ((s.sums.getD s.i.toNat (Ty.dflt (.int .i64)))+(gi s.alive (14:Int)))))})))))))))))))))))))))))))) (.req (0+(List.length s.dO)=List.length s.dO∧((List.length s.dO+List.length ([s.i]):Nat):Int)*8≤2^47∧((List.length s.dO+List.length ([s.i]):Nat):Int)<2^62) (.req (0≤s.i∧s.i<((List.length s.sums:Nat):Int)) (.req (0≤(15:Int)∧15<(List.length s.alive:Int)) (.req (s.i.toNat<List.length s.sums) (.req (0≤s.i∧s.i<((List.length s.sums:Nat):Int)) (.req (s.i.toNat<List.length s.sums) (.rl s.jB (.rl s.jA (.rl s.jy (.rl s.jw (.rl s.jv (.rl s.jr (.rl s.jq (.rl s.jo (.rl s.jm (.rl s.jl (.rl s.dU (.rl s.dS (.rl s.dR (.rl s.dQ (.rl s.dP (.req (0=0∧(List.length s.dO+List.length ([s.i]))=List.length (s.dO++([s.i]))) (.req (0=0∧(List.length s.sums)=List.length (s.sums.set s.i.toNat (IntKind.i64.wrap ((s.sums.getD s.i.toNat (Ty.dflt (.int .i64)))+(gi s.alive (15:Int)))))) (.rl s.levels (.ok (.next {s with k:=(IntKind.i64.wrap (s.k+1)),dO:=(s.dO++([s.i])),sums:=(s.sums.set s.i.toNat (IntKind.i64.wrap ((s.sums.getD s.i.toNat (Ty.dflt (.int .i64)))+(gi s.alive (15:Int)))))}))))))))))))))))))))))))))))))))))))))))))) (.rl s.jB (.rl s.jA (.rl s.jy (.rl s.jw (.rl s.jv (.rl s.jr (.rl s.jq (.rl s.jo (.rl s.jm (.rl s.jl (.rl s.dU (.rl s.dS (.rl s.dR (.rl s.dQ (.rl s.dP (.rl s.dO (.rl s.sums (.rl s.levels (.ok (.stop (.exit 2) s))))))))))))))))))))
abbrev acO (s:iI):=(TU s).rd s
def fM (s:iI):List (List Int):=[s.jB,s.jA,s.jy,s.jw,s.jv,s.jr,s.jq,s.jo,s.jm,s.jl,s.dU,s.dS,s.dR,s.dQ,s.dP,s.dO]
def Xb (s:iI):Prop:=s.k=0∧(∀o∈fM s,(o.length:Int)≤1000000)∧(0≤gi s.sums s.i∧gi s.sums s.i≤1000)∧s.n=(s.l.length:Int)∧s.n≤1000∧(∀m∈s.l,0≤m∧m<16∧m<(s.alive.length:Int))∧(∀a∈s.alive,0≤a∧a≤80)∧(0≤s.i∧s.i<(s.sums.length:Int))
def vW (s:iI):Prop:=(0≤s.k∧s.k≤s.n)∧(∀o∈fM s,(o.length:Int)≤1000000+s.k)∧(0≤gi s.sums s.i∧gi s.sums s.i≤1000+80*s.k)∧s.n=(s.l.length:Int)∧s.n≤1000∧(∀m∈s.l,0≤m∧m<16∧m<(s.alive.length:Int))∧(∀a∈s.alive,0≤a∧a≤80)∧(0≤s.i∧s.i<(s.sums.length:Int))
def wR (s:iI):Nat:=(s.n-s.k).toNat
def amB (x:Ex) (_ s':iI):Prop:=x=.exit 2∧s'.k=s'.n
theorem aCU:∀s,Xb s→vW s:=by
 intro s h
 obtain ⟨h0,h1,h2,h3⟩:=h
 exact ⟨by have:=h3.1;omega,fun o ho=>by have:=h1 o ho;omega,by omega,h3⟩
theorem gG (s:iI) (hI:vW s) (c1:s.k<s.n):0≤gi s.l s.k∧gi s.l s.k<16∧gi s.l s.k<(s.alive.length:Int):=by
 obtain ⟨⟨h0,h1⟩,h2,h3,h4,h5,h6,h7,h8⟩:=hI
 exact h6 _ (by rw [pX (by omega)];exact List.getElem_mem _)
theorem ajt (s s':iI) (j:Nat) (hI:vW s) (c1:s.k<s.n) (em:gi s.l s.k=(j:Int)) (hO:fM s'=(fM s).modify j (·++[s.i])) (hs:s'.sums=s.sums.set s.i.toNat (IntKind.i64.wrap (s.sums.getD s.i.toNat 0+gi s.alive (j:Int)))) (hk:s'.k=IntKind.i64.wrap (s.k+1)) (hn:s'.n=s.n) (hl:s'.l=s.l) (ha:s'.alive=s.alive) (hi:s'.i=s.i):
  (vW s'∧wR s'<wR s)∧(fun s:iI=>(vZ s.i (fM s) (s.l.drop s.k.toNat),s.sums.set s.i.toNat (s.sums.getD s.i.toNat 0+smA s.alive (s.l.drop s.k.toNat)))) s'=(fun s:iI=>(vZ s.i (fM s) (s.l.drop s.k.toNat),s.sums.set s.i.toNat (s.sums.getD s.i.toNat 0+smA s.alive (s.l.drop s.k.toNat)))) s:=by
 have hm:=gG s hI c1
 obtain ⟨⟨h0,h1⟩,h2,⟨h3,h3'⟩,h4,h5,h6,h7,h8⟩:=hI
 rw [aN (x:=s.k+1) (by omega) (by omega)] at hk
 have hav:=h7 (gi s.alive (j:Int)) (by rw [pX (by omega)];exact List.getElem_mem _)
 have hgi:gi s.sums s.i=s.sums.getD s.i.toNat 0:=rfl
 rw [aN (x:=s.sums.getD s.i.toNat 0+gi s.alive (j:Int)) (by omega) (by omega)] at hs
 have hs2:gi s'.sums s'.i=s.sums.getD s.i.toNat 0+gi s.alive (j:Int):=by
  rw [hi,hs]
  show List.getD _ _ _=_
  simp [List.getD,show s.i.toNat<s.sums.length by omega]
 refine ⟨⟨⟨⟨by omega,by omega⟩,fun o ho=>?_,⟨by rw [hs2];omega,by rw [hs2];omega⟩,by rw [hn,hl];exact h4,by omega,by rw [hl,ha];exact h6,by rw [ha];exact h7,⟨by rw [hi];omega,by rw [hi,hs,List.length_set];omega⟩⟩,by simp only [wR];omega⟩,?_⟩
 ·rw [hO] at ho
  obtain ⟨k,hk2,rfl⟩:=List.mem_iff_getElem.1 ho
  rw [List.length_modify] at hk2
  have:=h2 (fM s)[k] (List.getElem_mem _)
  rw [List.getElem_modify]
  split
  ·simp only [List.length_append,List.length_cons,List.length_nil];omega
  ·omega
 ·simp only
  rw [hO,hs,hl,ha,hi,hk,(gi_step h0 (show s.k<s.l.length by omega)).1,yj,Ux,em,Int.toNat_natCast,UA (by omega)]
theorem iZ (s s':iI) (j:Nat) (hI:vW s) (c1:s.k<s.n) (em:gi s.l s.k=(j:Int)) (hO:fM s'=(fM s).modify j (·++[s.i])) (hs:s'.sums=s.sums.set s.i.toNat (IntKind.i64.wrap (s.sums.getD s.i.toNat 0+gi s.alive (j:Int)))) (hk:s'.k=IntKind.i64.wrap (s.k+1)) (hn:s'.n=s.n) (hl:s'.l=s.l) (ha:s'.alive=s.alive) (hi:s'.i=s.i):bP (fun s'=>vW s'∧wR s'<wR s) (fun x s'=>amB x s s') (.next s'):=(ajt s s' j hI c1 em hO hs hk hn hl ha hi).1
theorem iY (s s':iI) (j:Nat) (hI:vW s) (c1:s.k<s.n) (em:gi s.l s.k=(j:Int)) (hO:fM s'=(fM s).modify j (·++[s.i])) (hs:s'.sums=s.sums.set s.i.toNat (IntKind.i64.wrap (s.sums.getD s.i.toNat 0+gi s.alive (j:Int)))) (hk:s'.k=IntKind.i64.wrap (s.k+1)) (hn:s'.n=s.n) (hl:s'.l=s.l) (ha:s'.alive=s.alive) (hi:s'.i=s.i):bP (fun s'=>(fun s:iI=>(vZ s.i (fM s) (s.l.drop s.k.toNat),s.sums.set s.i.toNat (s.sums.getD s.i.toNat 0+smA s.alive (s.l.drop s.k.toNat)))) s'=(fun s:iI=>(vZ s.i (fM s) (s.l.drop s.k.toNat),s.sums.set s.i.toNat (s.sums.getD s.i.toNat 0+smA s.alive (s.l.drop s.k.toNat)))) s) (fun _ s'=>(fun s:iI=>(vZ s.i (fM s) (s.l.drop s.k.toNat),s.sums.set s.i.toNat (s.sums.getD s.i.toNat 0+smA s.alive (s.l.drop s.k.toNat)))) s'=(fun s:iI=>(vZ s.i (fM s) (s.l.drop s.k.toNat),s.sums.set s.i.toNat (s.sums.getD s.i.toNat 0+smA s.alive (s.l.drop s.k.toNat)))) s) (.next s'):=(ajt s s' j hI c1 em hO hs hk hn hl ha hi).2
theorem ajv (s : iI) (hI:vW s):bP (fun s'=>vW s'∧wR s'<wR s) (fun x s'=>amB x s s') (acO s):=by
 unfold acO TU
 dsimp only [T.rd,T.rl]
 refine au (fun c1=>?_) (fun c1=>?_)
 ·refine au (fun c2=>?_) (fun c2=>?_)
  ·have em:gi s.l s.k=0:=by simpa using c2
   exact iZ s _ 0 hI (by simpa using c1) em rfl rfl rfl rfl rfl rfl rfl
  ·refine au (fun c3=>?_) (fun c3=>?_)
   ·have em:gi s.l s.k=1:=by simpa using c3
    exact iZ s _ 1 hI (by simpa using c1) em rfl rfl rfl rfl rfl rfl rfl
   ·refine au (fun c4=>?_) (fun c4=>?_)
    ·have em:gi s.l s.k=2:=by simpa using c4
     exact iZ s _ 2 hI (by simpa using c1) em rfl rfl rfl rfl rfl rfl rfl
    ·refine au (fun c5=>?_) (fun c5=>?_)
     ·have em:gi s.l s.k=3:=by simpa using c5
      exact iZ s _ 3 hI (by simpa using c1) em rfl rfl rfl rfl rfl rfl rfl
     ·refine au (fun c6=>?_) (fun c6=>?_)
      ·have em:gi s.l s.k=4:=by simpa using c6
       exact iZ s _ 4 hI (by simpa using c1) em rfl rfl rfl rfl rfl rfl rfl
      ·refine au (fun c7=>?_) (fun c7=>?_)
       ·have em:gi s.l s.k=5:=by simpa using c7
        exact iZ s _ 5 hI (by simpa using c1) em rfl rfl rfl rfl rfl rfl rfl
       ·refine au (fun c8=>?_) (fun c8=>?_)
        ·have em:gi s.l s.k=6:=by simpa using c8
         exact iZ s _ 6 hI (by simpa using c1) em rfl rfl rfl rfl rfl rfl rfl
        ·refine au (fun c9=>?_) (fun c9=>?_)
         ·have em:gi s.l s.k=7:=by simpa using c9
          exact iZ s _ 7 hI (by simpa using c1) em rfl rfl rfl rfl rfl rfl rfl
         ·refine au (fun c10=>?_) (fun c10=>?_)
          ·have em:gi s.l s.k=8:=by simpa using c10
           exact iZ s _ 8 hI (by simpa using c1) em rfl rfl rfl rfl rfl rfl rfl
          ·refine au (fun c11=>?_) (fun c11=>?_)
           ·have em:gi s.l s.k=9:=by simpa using c11
            exact iZ s _ 9 hI (by simpa using c1) em rfl rfl rfl rfl rfl rfl rfl
           ·refine au (fun c12=>?_) (fun c12=>?_)
            ·have em:gi s.l s.k=10:=by simpa using c12
             exact iZ s _ 10 hI (by simpa using c1) em rfl rfl rfl rfl rfl rfl rfl
            ·refine au (fun c13=>?_) (fun c13=>?_)
             ·have em:gi s.l s.k=11:=by simpa using c13
              exact iZ s _ 11 hI (by simpa using c1) em rfl rfl rfl rfl rfl rfl rfl
             ·refine au (fun c14=>?_) (fun c14=>?_)
              ·have em:gi s.l s.k=12:=by simpa using c14
               exact iZ s _ 12 hI (by simpa using c1) em rfl rfl rfl rfl rfl rfl rfl
              ·refine au (fun c15=>?_) (fun c15=>?_)
               ·have em:gi s.l s.k=13:=by simpa using c15
                exact iZ s _ 13 hI (by simpa using c1) em rfl rfl rfl rfl rfl rfl rfl
               ·refine au (fun c16=>?_) (fun c16=>?_)
                ·have em:gi s.l s.k=14:=by simpa using c16
                 exact iZ s _ 14 hI (by simpa using c1) em rfl rfl rfl rfl rfl rfl rfl
                ·have em:gi s.l s.k=15:=by
                  have hm:=gG s hI (by simpa using c1)
                  simp only [beq_eq_false_iff_ne,ne_eq] at c2 c3 c4 c5 c6 c7 c8 c9 c10 c11 c12 c13 c14 c15 c16
                  omega
                 exact iZ s _ 15 hI (by simpa using c1) em rfl rfl rfl rfl rfl rfl rfl
 ·have c1:s.n≤s.k:=by simpa using c1
  have h0:=hI.1
  exact ⟨rfl,by omega⟩
def O1:bQ iI:=⟨1,67,[2,7,8,23,24,25,31,32,33],[.ns 7 6 3 (.int .i64),.ns 7 7 3 (.int .i64),.ns 7 8 3 (.int .i64),.ns 7 9 3 (.int .i64),.ns 7 10 3 (.int .i64),.ns 7 11 3 (.int .i64),.ns 7 12 3 (.int .i64),.ns 7 13 3 (.int .i64),.ns 7 14 3 (.int .i64),.ns 7 15 3 (.int .i64),.ns 7 16 3 (.int .i64),.ns 7 17 3 (.int .i64),.ns 7 18 3 (.int .i64),.ns 7 19 3 (.int .i64),.ns 7 20 3 (.int .i64),.ns 7 21 3 (.int .i64)],aF8,aE5,fun v b=>⟨aQ (.int .i64) (v.getD 0 .junk),gI (v.getD 2 .junk),aQ GY (v.getD 3 .junk),gI (v.getD 4 .junk),gI (v.getD 5 .junk),aQ (.int .i64) (v.getD 6 .junk),gI (v.getD 7 .junk),gI (v.getD 8 .junk),aQ eu (aV (aO b 0) 0),aQ .str (aV (aO b 0) 1),aQ eG (aV (aO b 0) 2),aQ dK (aV (aO b 0) 3),aQ eP (aV (aO b 0) 4),aQ eu (aV (aO b 1) 0),aQ .str (aV (aO b 1) 1),aQ eG (aV (aO b 1) 2),aQ dK (aV (aO b 1) 3),aQ eP (aV (aO b 1) 4),aQ GY (aV (aO b 1) 5),aQ (.int .i64) (aV (aO b 1) 23),jd (.int .i64) (aO b 2),jd (.int .i64) (aO b 3),jd (.int .i64) (aO b 4),jd (.int .i64) (aO b 5),jd (.int .i64) (aO b 6),jd (.int .i64) (aO b 7),jd (.int .i64) (aO b 8),jd (.int .i64) (aO b 9),jd (.int .i64) (aO b 10),jd (.int .i64) (aO b 11),jd (.int .i64) (aO b 12),jd (.int .i64) (aO b 13),jd (.int .i64) (aO b 14),jd (.int .i64) (aO b 15),jd (.int .i64) (aO b 16),jd (.int .i64) (aO b 17),jd (.int .i64) (aO b 18),jd (.int .i64) (aO b 19)⟩,TU,fun s r=> {r with alive:=s.alive,i:=s.i,rows:=s.rows,rn:=s.rn,ri:=s.ri,l:=s.l,n:=s.n,bU:=s.bU,fB:=s.fB,bZ:=s.bZ,dn:=s.dn,iQ:=s.iQ,zk:=s.zk,zh:=s.zh,zi:=s.zi,fF:=s.fF,zl:=s.zl,bI:=s.bI,bg:=s.bg,levels:=s.levels},fun s=>s,fun _ s=>s,[.exit 2],Xb,vW,wR⟩
abbrev bH:=O1.run
abbrev aAO:=O1.q
noncomputable def acg:Hand:=inl Tryz.prog aS y7 (jX 93 1 2 (vX.lp) (kH Tryz.prog aS (y7) 20 2)) 9
theorem akn:cZ Tryz.prog aS acg:=bM AY (dF Tryz.func93 rfl (by kernel_rfl) xQ (dI AY)) 9
set_option maxRecDepth 100000 in
set_option maxHeartbeats 4000000 in
theorem axl (s:iI) (hI:vW s):(TU s).all (fun _=>True):=by
 refine ⟨fun c1=>⟨?_,?_,fun c2=>⟨?_,?_,?_,?_,?_,?_,?_,⟨rfl,rfl⟩,⟨rfl,rfl⟩,⟨rfl,rfl⟩,⟨rfl,rfl⟩,⟨rfl,rfl⟩,⟨rfl,rfl⟩,⟨rfl,rfl⟩,⟨rfl,rfl⟩,⟨rfl,rfl⟩,⟨rfl,rfl⟩,⟨rfl,rfl⟩,⟨rfl,rfl⟩,⟨rfl,rfl⟩,⟨rfl,rfl⟩,⟨rfl,rfl⟩,?_,⟨rfl,rfl⟩,trivial⟩,fun c2=>⟨fun c3=>⟨?_,?_,?_,?_,?_,?_,⟨rfl,rfl⟩,?_,⟨rfl,rfl⟩,⟨rfl,rfl⟩,⟨rfl,rfl⟩,⟨rfl,rfl⟩,⟨rfl,rfl⟩,⟨rfl,rfl⟩,⟨rfl,rfl⟩,⟨rfl,rfl⟩,⟨rfl,rfl⟩,⟨rfl,rfl⟩,⟨rfl,rfl⟩,⟨rfl,rfl⟩,⟨rfl,rfl⟩,⟨rfl,rfl⟩,?_,⟨rfl,rfl⟩,trivial⟩,fun c3=>⟨fun c4=>⟨?_,?_,?_,?_,?_,?_,⟨rfl,rfl⟩,⟨rfl,rfl⟩,?_,⟨rfl,rfl⟩,⟨rfl,rfl⟩,⟨rfl,rfl⟩,⟨rfl,rfl⟩,⟨rfl,rfl⟩,⟨rfl,rfl⟩,⟨rfl,rfl⟩,⟨rfl,rfl⟩,⟨rfl,rfl⟩,⟨rfl,rfl⟩,⟨rfl,rfl⟩,⟨rfl,rfl⟩,⟨rfl,rfl⟩,?_,⟨rfl,rfl⟩,trivial⟩,fun c4=>⟨fun c5=>⟨?_,?_,?_,?_,?_,?_,⟨rfl,rfl⟩,⟨rfl,rfl⟩,⟨rfl,rfl⟩,?_,⟨rfl,rfl⟩,⟨rfl,rfl⟩,⟨rfl,rfl⟩,⟨rfl,rfl⟩,⟨rfl,rfl⟩,⟨rfl,rfl⟩,⟨rfl,rfl⟩,⟨rfl,rfl⟩,⟨rfl,rfl⟩,⟨rfl,rfl⟩,⟨rfl,rfl⟩,⟨rfl,rfl⟩,?_,⟨rfl,rfl⟩,trivial⟩,fun c5=>⟨fun c6=>⟨?_,?_,?_,?_,?_,?_,⟨rfl,rfl⟩,⟨rfl,rfl⟩,⟨rfl,rfl⟩,⟨rfl,rfl⟩,?_,⟨rfl,rfl⟩,⟨rfl,rfl⟩,⟨rfl,rfl⟩,⟨rfl,rfl⟩,⟨rfl,rfl⟩,⟨rfl,rfl⟩,⟨rfl,rfl⟩,⟨rfl,rfl⟩,⟨rfl,rfl⟩,⟨rfl,rfl⟩,⟨rfl,rfl⟩,?_,⟨rfl,rfl⟩,trivial⟩,fun c6=>⟨fun c7=>⟨?_,?_,?_,?_,?_,?_,⟨rfl,rfl⟩,⟨rfl,rfl⟩,⟨rfl,rfl⟩,⟨rfl,rfl⟩,⟨rfl,rfl⟩,?_,⟨rfl,rfl⟩,⟨rfl,rfl⟩,⟨rfl,rfl⟩,⟨rfl,rfl⟩,⟨rfl,rfl⟩,⟨rfl,rfl⟩,⟨rfl,rfl⟩,⟨rfl,rfl⟩,⟨rfl,rfl⟩,⟨rfl,rfl⟩,?_,⟨rfl,rfl⟩,trivial⟩,fun c7=>⟨fun c8=>⟨?_,?_,?_,?_,?_,?_,⟨rfl,rfl⟩,⟨rfl,rfl⟩,⟨rfl,rfl⟩,⟨rfl,rfl⟩,⟨rfl,rfl⟩,⟨rfl,rfl⟩,?_,⟨rfl,rfl⟩,⟨rfl,rfl⟩,⟨rfl,rfl⟩,⟨rfl,rfl⟩,⟨rfl,rfl⟩,⟨rfl,rfl⟩,⟨rfl,rfl⟩,⟨rfl,rfl⟩,⟨rfl,rfl⟩,?_,⟨rfl,rfl⟩,trivial⟩,fun c8=>⟨fun c9=>⟨?_,?_,?_,?_,?_,?_,⟨rfl,rfl⟩,⟨rfl,rfl⟩,⟨rfl,rfl⟩,⟨rfl,rfl⟩,⟨rfl,rfl⟩,⟨rfl,rfl⟩,⟨rfl,rfl⟩,?_,⟨rfl,rfl⟩,⟨rfl,rfl⟩,⟨rfl,rfl⟩,⟨rfl,rfl⟩,⟨rfl,rfl⟩,⟨rfl,rfl⟩,⟨rfl,rfl⟩,⟨rfl,rfl⟩,?_,⟨rfl,rfl⟩,trivial⟩,fun c9=>⟨fun c10=>⟨?_,?_,?_,?_,?_,?_,⟨rfl,rfl⟩,⟨rfl,rfl⟩,⟨rfl,rfl⟩,⟨rfl,rfl⟩,⟨rfl,rfl⟩,⟨rfl,rfl⟩,⟨rfl,rfl⟩,⟨rfl,rfl⟩,?_,⟨rfl,rfl⟩,⟨rfl,rfl⟩,⟨rfl,rfl⟩,⟨rfl,rfl⟩,⟨rfl,rfl⟩,⟨rfl,rfl⟩,⟨rfl,rfl⟩,?_,⟨rfl,rfl⟩,trivial⟩,fun c10=>⟨fun c11=>⟨?_,?_,?_,?_,?_,?_,⟨rfl,rfl⟩,⟨rfl,rfl⟩,⟨rfl,rfl⟩,⟨rfl,rfl⟩,⟨rfl,rfl⟩,⟨rfl,rfl⟩,⟨rfl,rfl⟩,⟨rfl,rfl⟩,⟨rfl,rfl⟩,?_,⟨rfl,rfl⟩,⟨rfl,rfl⟩,⟨rfl,rfl⟩,⟨rfl,rfl⟩,⟨rfl,rfl⟩,⟨rfl,rfl⟩,?_,⟨rfl,rfl⟩,trivial⟩,fun c11=>⟨fun c12=>⟨?_,?_,?_,?_,?_,?_,⟨rfl,rfl⟩,⟨rfl,rfl⟩,⟨rfl,rfl⟩,⟨rfl,rfl⟩,⟨rfl,rfl⟩,⟨rfl,rfl⟩,⟨rfl,rfl⟩,⟨rfl,rfl⟩,⟨rfl,rfl⟩,⟨rfl,rfl⟩,?_,⟨rfl,rfl⟩,⟨rfl,rfl⟩,⟨rfl,rfl⟩,⟨rfl,rfl⟩,⟨rfl,rfl⟩,?_,⟨rfl,rfl⟩,trivial⟩,fun c12=>⟨fun c13=>⟨?_,?_,?_,?_,?_,?_,⟨rfl,rfl⟩,⟨rfl,rfl⟩,⟨rfl,rfl⟩,⟨rfl,rfl⟩,⟨rfl,rfl⟩,⟨rfl,rfl⟩,⟨rfl,rfl⟩,⟨rfl,rfl⟩,⟨rfl,rfl⟩,⟨rfl,rfl⟩,⟨rfl,rfl⟩,?_,⟨rfl,rfl⟩,⟨rfl,rfl⟩,⟨rfl,rfl⟩,⟨rfl,rfl⟩,?_,⟨rfl,rfl⟩,trivial⟩,fun c13=>⟨fun c14=>⟨?_,?_,?_,?_,?_,?_,⟨rfl,rfl⟩,⟨rfl,rfl⟩,⟨rfl,rfl⟩,⟨rfl,rfl⟩,⟨rfl,rfl⟩,⟨rfl,rfl⟩,⟨rfl,rfl⟩,⟨rfl,rfl⟩,⟨rfl,rfl⟩,⟨rfl,rfl⟩,⟨rfl,rfl⟩,⟨rfl,rfl⟩,?_,⟨rfl,rfl⟩,⟨rfl,rfl⟩,⟨rfl,rfl⟩,?_,⟨rfl,rfl⟩,trivial⟩,fun c14=>⟨fun c15=>⟨?_,?_,?_,?_,?_,?_,⟨rfl,rfl⟩,⟨rfl,rfl⟩,⟨rfl,rfl⟩,⟨rfl,rfl⟩,⟨rfl,rfl⟩,⟨rfl,rfl⟩,⟨rfl,rfl⟩,⟨rfl,rfl⟩,⟨rfl,rfl⟩,⟨rfl,rfl⟩,⟨rfl,rfl⟩,⟨rfl,rfl⟩,⟨rfl,rfl⟩,?_,⟨rfl,rfl⟩,⟨rfl,rfl⟩,?_,⟨rfl,rfl⟩,trivial⟩,fun c15=>⟨fun c16=>⟨?_,?_,?_,?_,?_,?_,⟨rfl,rfl⟩,⟨rfl,rfl⟩,⟨rfl,rfl⟩,⟨rfl,rfl⟩,⟨rfl,rfl⟩,⟨rfl,rfl⟩,⟨rfl,rfl⟩,⟨rfl,rfl⟩,⟨rfl,rfl⟩,⟨rfl,rfl⟩,⟨rfl,rfl⟩,⟨rfl,rfl⟩,⟨rfl,rfl⟩,⟨rfl,rfl⟩,?_,⟨rfl,rfl⟩,?_,⟨rfl,rfl⟩,trivial⟩,fun c16=>⟨?_,?_,?_,?_,?_,?_,⟨rfl,rfl⟩,⟨rfl,rfl⟩,⟨rfl,rfl⟩,⟨rfl,rfl⟩,⟨rfl,rfl⟩,⟨rfl,rfl⟩,⟨rfl,rfl⟩,⟨rfl,rfl⟩,⟨rfl,rfl⟩,⟨rfl,rfl⟩,⟨rfl,rfl⟩,⟨rfl,rfl⟩,⟨rfl,rfl⟩,⟨rfl,rfl⟩,⟨rfl,rfl⟩,?_,?_,⟨rfl,rfl⟩,trivial⟩⟩⟩⟩⟩⟩⟩⟩⟩⟩⟩⟩⟩⟩⟩⟩,fun c1=>⟨⟨rfl,rfl⟩,⟨rfl,rfl⟩,⟨rfl,rfl⟩,⟨rfl,rfl⟩,⟨rfl,rfl⟩,⟨rfl,rfl⟩,⟨rfl,rfl⟩,⟨rfl,rfl⟩,⟨rfl,rfl⟩,⟨rfl,rfl⟩,⟨rfl,rfl⟩,⟨rfl,rfl⟩,⟨rfl,rfl⟩,⟨rfl,rfl⟩,⟨rfl,rfl⟩,⟨rfl,rfl⟩,⟨rfl,rfl⟩,⟨rfl,rfl⟩,trivial⟩⟩
 ·(obtain ⟨h0,h2,h3,h4,h5,h6,h7,h8⟩:=hI;simp only [decide_eq_true_eq] at c1;omega)
 ·exact ⟨(gG s hI (by simpa using c1)).1,(gG s hI (by simpa using c1)).2.1⟩
 ·(have:=hI.2.1 s.jB (by simp [fM]);have:=hI.1;have:=hI.2.2.2.1;have:=hI.2.2.2.2.1;simp only [List.length_cons,List.length_nil];omega)
 ·(obtain ⟨h0,h2,h3,h4,h5,h6,h7,h8⟩:=hI;simp only [decide_eq_true_eq] at c1;omega)
 ·(have em:=eq_of_beq c2;have hm:=gG s hI (by simpa using c1);omega)
 iterate 3 · (obtain ⟨h0,h2,h3,h4,h5,h6,h7,h8⟩:=hI;simp only [decide_eq_true_eq] at c1;omega)
 iterate 2 · exact ⟨rfl,by simp⟩
 ·(have:=hI.2.1 s.jA (by simp [fM]);have:=hI.1;have:=hI.2.2.2.1;have:=hI.2.2.2.2.1;simp only [List.length_cons,List.length_nil];omega)
 ·(obtain ⟨h0,h2,h3,h4,h5,h6,h7,h8⟩:=hI;simp only [decide_eq_true_eq] at c1;omega)
 ·(have em:=eq_of_beq c3;have hm:=gG s hI (by simpa using c1);omega)
 iterate 3 · (obtain ⟨h0,h2,h3,h4,h5,h6,h7,h8⟩:=hI;simp only [decide_eq_true_eq] at c1;omega)
 iterate 2 · exact ⟨rfl,by simp⟩
 ·(have:=hI.2.1 s.jy (by simp [fM]);have:=hI.1;have:=hI.2.2.2.1;have:=hI.2.2.2.2.1;simp only [List.length_cons,List.length_nil];omega)
 ·(obtain ⟨h0,h2,h3,h4,h5,h6,h7,h8⟩:=hI;simp only [decide_eq_true_eq] at c1;omega)
 ·(have em:=eq_of_beq c4;have hm:=gG s hI (by simpa using c1);omega)
 iterate 3 · (obtain ⟨h0,h2,h3,h4,h5,h6,h7,h8⟩:=hI;simp only [decide_eq_true_eq] at c1;omega)
 iterate 2 · exact ⟨rfl,by simp⟩
 ·(have:=hI.2.1 s.jw (by simp [fM]);have:=hI.1;have:=hI.2.2.2.1;have:=hI.2.2.2.2.1;simp only [List.length_cons,List.length_nil];omega)
 ·(obtain ⟨h0,h2,h3,h4,h5,h6,h7,h8⟩:=hI;simp only [decide_eq_true_eq] at c1;omega)
 ·(have em:=eq_of_beq c5;have hm:=gG s hI (by simpa using c1);omega)
 iterate 3 · (obtain ⟨h0,h2,h3,h4,h5,h6,h7,h8⟩:=hI;simp only [decide_eq_true_eq] at c1;omega)
 iterate 2 · exact ⟨rfl,by simp⟩
 ·(have:=hI.2.1 s.jv (by simp [fM]);have:=hI.1;have:=hI.2.2.2.1;have:=hI.2.2.2.2.1;simp only [List.length_cons,List.length_nil];omega)
 ·(obtain ⟨h0,h2,h3,h4,h5,h6,h7,h8⟩:=hI;simp only [decide_eq_true_eq] at c1;omega)
 ·(have em:=eq_of_beq c6;have hm:=gG s hI (by simpa using c1);omega)
 iterate 3 · (obtain ⟨h0,h2,h3,h4,h5,h6,h7,h8⟩:=hI;simp only [decide_eq_true_eq] at c1;omega)
 iterate 2 · exact ⟨rfl,by simp⟩
 ·(have:=hI.2.1 s.jr (by simp [fM]);have:=hI.1;have:=hI.2.2.2.1;have:=hI.2.2.2.2.1;simp only [List.length_cons,List.length_nil];omega)
 ·(obtain ⟨h0,h2,h3,h4,h5,h6,h7,h8⟩:=hI;simp only [decide_eq_true_eq] at c1;omega)
 ·(have em:=eq_of_beq c7;have hm:=gG s hI (by simpa using c1);omega)
 iterate 3 · (obtain ⟨h0,h2,h3,h4,h5,h6,h7,h8⟩:=hI;simp only [decide_eq_true_eq] at c1;omega)
 iterate 2 · exact ⟨rfl,by simp⟩
 ·(have:=hI.2.1 s.jq (by simp [fM]);have:=hI.1;have:=hI.2.2.2.1;have:=hI.2.2.2.2.1;simp only [List.length_cons,List.length_nil];omega)
 ·(obtain ⟨h0,h2,h3,h4,h5,h6,h7,h8⟩:=hI;simp only [decide_eq_true_eq] at c1;omega)
 ·(have em:=eq_of_beq c8;have hm:=gG s hI (by simpa using c1);omega)
 iterate 3 · (obtain ⟨h0,h2,h3,h4,h5,h6,h7,h8⟩:=hI;simp only [decide_eq_true_eq] at c1;omega)
 iterate 2 · exact ⟨rfl,by simp⟩
 ·(have:=hI.2.1 s.jo (by simp [fM]);have:=hI.1;have:=hI.2.2.2.1;have:=hI.2.2.2.2.1;simp only [List.length_cons,List.length_nil];omega)
 ·(obtain ⟨h0,h2,h3,h4,h5,h6,h7,h8⟩:=hI;simp only [decide_eq_true_eq] at c1;omega)
 ·(have em:=eq_of_beq c9;have hm:=gG s hI (by simpa using c1);omega)
 iterate 3 · (obtain ⟨h0,h2,h3,h4,h5,h6,h7,h8⟩:=hI;simp only [decide_eq_true_eq] at c1;omega)
 iterate 2 · exact ⟨rfl,by simp⟩
 ·(have:=hI.2.1 s.jm (by simp [fM]);have:=hI.1;have:=hI.2.2.2.1;have:=hI.2.2.2.2.1;simp only [List.length_cons,List.length_nil];omega)
 ·(obtain ⟨h0,h2,h3,h4,h5,h6,h7,h8⟩:=hI;simp only [decide_eq_true_eq] at c1;omega)
 ·(have em:=eq_of_beq c10;have hm:=gG s hI (by simpa using c1);omega)
 iterate 3 · (obtain ⟨h0,h2,h3,h4,h5,h6,h7,h8⟩:=hI;simp only [decide_eq_true_eq] at c1;omega)
 iterate 2 · exact ⟨rfl,by simp⟩
 ·(have:=hI.2.1 s.jl (by simp [fM]);have:=hI.1;have:=hI.2.2.2.1;have:=hI.2.2.2.2.1;simp only [List.length_cons,List.length_nil];omega)
 ·(obtain ⟨h0,h2,h3,h4,h5,h6,h7,h8⟩:=hI;simp only [decide_eq_true_eq] at c1;omega)
 ·(have em:=eq_of_beq c11;have hm:=gG s hI (by simpa using c1);omega)
 iterate 3 · (obtain ⟨h0,h2,h3,h4,h5,h6,h7,h8⟩:=hI;simp only [decide_eq_true_eq] at c1;omega)
 iterate 2 · exact ⟨rfl,by simp⟩
 ·(have:=hI.2.1 s.dU (by simp [fM]);have:=hI.1;have:=hI.2.2.2.1;have:=hI.2.2.2.2.1;simp only [List.length_cons,List.length_nil];omega)
 ·(obtain ⟨h0,h2,h3,h4,h5,h6,h7,h8⟩:=hI;simp only [decide_eq_true_eq] at c1;omega)
 ·(have em:=eq_of_beq c12;have hm:=gG s hI (by simpa using c1);omega)
 iterate 3 · (obtain ⟨h0,h2,h3,h4,h5,h6,h7,h8⟩:=hI;simp only [decide_eq_true_eq] at c1;omega)
 iterate 2 · exact ⟨rfl,by simp⟩
 ·(have:=hI.2.1 s.dS (by simp [fM]);have:=hI.1;have:=hI.2.2.2.1;have:=hI.2.2.2.2.1;simp only [List.length_cons,List.length_nil];omega)
 ·(obtain ⟨h0,h2,h3,h4,h5,h6,h7,h8⟩:=hI;simp only [decide_eq_true_eq] at c1;omega)
 ·(have em:=eq_of_beq c13;have hm:=gG s hI (by simpa using c1);omega)
 iterate 3 · (obtain ⟨h0,h2,h3,h4,h5,h6,h7,h8⟩:=hI;simp only [decide_eq_true_eq] at c1;omega)
 iterate 2 · exact ⟨rfl,by simp⟩
 ·(have:=hI.2.1 s.dR (by simp [fM]);have:=hI.1;have:=hI.2.2.2.1;have:=hI.2.2.2.2.1;simp only [List.length_cons,List.length_nil];omega)
 ·(obtain ⟨h0,h2,h3,h4,h5,h6,h7,h8⟩:=hI;simp only [decide_eq_true_eq] at c1;omega)
 ·(have em:=eq_of_beq c14;have hm:=gG s hI (by simpa using c1);omega)
 iterate 3 · (obtain ⟨h0,h2,h3,h4,h5,h6,h7,h8⟩:=hI;simp only [decide_eq_true_eq] at c1;omega)
 iterate 2 · exact ⟨rfl,by simp⟩
 ·(have:=hI.2.1 s.dQ (by simp [fM]);have:=hI.1;have:=hI.2.2.2.1;have:=hI.2.2.2.2.1;simp only [List.length_cons,List.length_nil];omega)
 ·(obtain ⟨h0,h2,h3,h4,h5,h6,h7,h8⟩:=hI;simp only [decide_eq_true_eq] at c1;omega)
 ·(have em:=eq_of_beq c15;have hm:=gG s hI (by simpa using c1);omega)
 iterate 3 · (obtain ⟨h0,h2,h3,h4,h5,h6,h7,h8⟩:=hI;simp only [decide_eq_true_eq] at c1;omega)
 iterate 2 · exact ⟨rfl,by simp⟩
 ·(have:=hI.2.1 s.dP (by simp [fM]);have:=hI.1;have:=hI.2.2.2.1;have:=hI.2.2.2.2.1;simp only [List.length_cons,List.length_nil];omega)
 ·(obtain ⟨h0,h2,h3,h4,h5,h6,h7,h8⟩:=hI;simp only [decide_eq_true_eq] at c1;omega)
 ·(have em:=eq_of_beq c16;have hm:=gG s hI (by simpa using c1);omega)
 iterate 3 · (obtain ⟨h0,h2,h3,h4,h5,h6,h7,h8⟩:=hI;simp only [decide_eq_true_eq] at c1;omega)
 iterate 2 · exact ⟨rfl,by simp⟩
 ·(have:=hI.2.1 s.dO (by simp [fM]);have:=hI.1;have:=hI.2.2.2.1;have:=hI.2.2.2.2.1;simp only [List.length_cons,List.length_nil];omega)
 ·(obtain ⟨h0,h2,h3,h4,h5,h6,h7,h8⟩:=hI;simp only [decide_eq_true_eq] at c1;omega)
 ·(have hm:=gG s hI (by simpa using c1);simp only [beq_eq_false_iff_ne,ne_eq] at c2 c3 c4 c5 c6 c7 c8 c9 c10 c11 c12 c13 c14 c15 c16;omega)
 iterate 3 · (obtain ⟨h0,h2,h3,h4,h5,h6,h7,h8⟩:=hI;simp only [decide_eq_true_eq] at c1;omega)
 iterate 2 · exact ⟨rfl,by simp⟩
theorem Yf:O1.Ok:=⟨fun s=>by kernel_rfl,fun s=>by kernel_rfl,fun s=>rfl,fun s t r=>rfl,fun s=>rfl,fun s=>by kernel_rfl⟩
theorem XU:O1.Pf (amB):=⟨aCU,fun _ _=>rfl,ajv,axl⟩
set_option maxRecDepth 100000 in
set_option maxHeartbeats 4000000 in
theorem aon:bn Tryz.prog aS (AN 1) (.loop JP) O1.lp:=bQ.snd Yf XU (bF (Γ:=y7) (K:=acg) (L:=(sO Tryz.prog aS y7 acg 20 2)) AY akn JP (fun b _=>dN AY akn 20 2 b)) (fun s=>by kernel_rfl)
theorem aju (s : iI) (hE:Xb s):(fun s:iI=>(vZ s.i (fM s) (s.l.drop s.k.toNat),s.sums.set s.i.toNat (s.sums.getD s.i.toNat 0+smA s.alive (s.l.drop s.k.toNat)))) (bH s)=(fun s:iI=>(vZ s.i (fM s) (s.l.drop s.k.toNat),s.sums.set s.i.toNat (s.sums.getD s.i.toNat 0+smA s.alive (s.l.drop s.k.toNat)))) s:=by
 exact bQ.uf Yf XU (fun s:iI=>(vZ s.i (fM s) (s.l.drop s.k.toNat),s.sums.set s.i.toNat (s.sums.getD s.i.toNat 0+smA s.alive (s.l.drop s.k.toNat)))) (fun s hI=>by
  show bP _ _ (acO s)
  unfold acO TU
  dsimp only [T.rd,T.rl]
  refine au (fun c1=>?_) (fun c1=>?_)
  ·refine au (fun c2=>?_) (fun c2=>?_)
   ·have em:gi s.l s.k=0:=by simpa using c2
    exact iY s _ 0 hI (by simpa using c1) em rfl rfl rfl rfl rfl rfl rfl
   ·refine au (fun c3=>?_) (fun c3=>?_)
    ·have em:gi s.l s.k=1:=by simpa using c3
     exact iY s _ 1 hI (by simpa using c1) em rfl rfl rfl rfl rfl rfl rfl
    ·refine au (fun c4=>?_) (fun c4=>?_)
     ·have em:gi s.l s.k=2:=by simpa using c4
      exact iY s _ 2 hI (by simpa using c1) em rfl rfl rfl rfl rfl rfl rfl
     ·refine au (fun c5=>?_) (fun c5=>?_)
      ·have em:gi s.l s.k=3:=by simpa using c5
       exact iY s _ 3 hI (by simpa using c1) em rfl rfl rfl rfl rfl rfl rfl
      ·refine au (fun c6=>?_) (fun c6=>?_)
       ·have em:gi s.l s.k=4:=by simpa using c6
        exact iY s _ 4 hI (by simpa using c1) em rfl rfl rfl rfl rfl rfl rfl
       ·refine au (fun c7=>?_) (fun c7=>?_)
        ·have em:gi s.l s.k=5:=by simpa using c7
         exact iY s _ 5 hI (by simpa using c1) em rfl rfl rfl rfl rfl rfl rfl
        ·refine au (fun c8=>?_) (fun c8=>?_)
         ·have em:gi s.l s.k=6:=by simpa using c8
          exact iY s _ 6 hI (by simpa using c1) em rfl rfl rfl rfl rfl rfl rfl
         ·refine au (fun c9=>?_) (fun c9=>?_)
          ·have em:gi s.l s.k=7:=by simpa using c9
           exact iY s _ 7 hI (by simpa using c1) em rfl rfl rfl rfl rfl rfl rfl
          ·refine au (fun c10=>?_) (fun c10=>?_)
           ·have em:gi s.l s.k=8:=by simpa using c10
            exact iY s _ 8 hI (by simpa using c1) em rfl rfl rfl rfl rfl rfl rfl
           ·refine au (fun c11=>?_) (fun c11=>?_)
            ·have em:gi s.l s.k=9:=by simpa using c11
             exact iY s _ 9 hI (by simpa using c1) em rfl rfl rfl rfl rfl rfl rfl
            ·refine au (fun c12=>?_) (fun c12=>?_)
             ·have em:gi s.l s.k=10:=by simpa using c12
              exact iY s _ 10 hI (by simpa using c1) em rfl rfl rfl rfl rfl rfl rfl
             ·refine au (fun c13=>?_) (fun c13=>?_)
              ·have em:gi s.l s.k=11:=by simpa using c13
               exact iY s _ 11 hI (by simpa using c1) em rfl rfl rfl rfl rfl rfl rfl
              ·refine au (fun c14=>?_) (fun c14=>?_)
               ·have em:gi s.l s.k=12:=by simpa using c14
                exact iY s _ 12 hI (by simpa using c1) em rfl rfl rfl rfl rfl rfl rfl
               ·refine au (fun c15=>?_) (fun c15=>?_)
                ·have em:gi s.l s.k=13:=by simpa using c15
                 exact iY s _ 13 hI (by simpa using c1) em rfl rfl rfl rfl rfl rfl rfl
                ·refine au (fun c16=>?_) (fun c16=>?_)
                 ·have em:gi s.l s.k=14:=by simpa using c16
                  exact iY s _ 14 hI (by simpa using c1) em rfl rfl rfl rfl rfl rfl rfl
                 ·have em:gi s.l s.k=15:=by
                   have hm:=gG s hI (by simpa using c1)
                   simp only [beq_eq_false_iff_ne,ne_eq] at c2 c3 c4 c5 c6 c7 c8 c9 c10 c11 c12 c13 c14 c15 c16
                   omega
                  exact iY s _ 15 hI (by simpa using c1) em rfl rfl rfl rfl rfl rfl rfl
  ·rfl) s hE
theorem apE (s:iI) (hE:Xb s):fM (bH s)=vZ s.i (fM s) s.l∧(bH s).sums=s.sums.set s.i.toNat (s.sums.getD s.i.toNat 0+smA s.alive s.l):=by
 have q3:=aju s hE
 obtain ⟨hI2,hf⟩:=bQ.inv Yf XU (fun s=>by kernel_rfl) s hE
 have hI2:vW (bH s):=hI2
 have hq:=yN (ajv _ hI2) hf
 have q2:(bH s).k=(bH s).n:=hq.2
 obtain ⟨h0,h1,h2,h3,h4,h5,h6,h7⟩:=hE
 obtain ⟨g0,g1,g2,g3,g4,g5,g6,g7⟩:=hI2
 have el:(bH s).l=s.l:=rfl
 have en:(bH s).n=s.n:=rfl
 have ei:(bH s).i=s.i:=rfl
 have ea:(bH s).alive=s.alive:=rfl
 simp only at q3
 rw [q2,en,el,ei,ea,List.drop_eq_nil_of_le (by omega),h0,show (0:Int).toNat=0 from rfl,List.drop_zero] at q3
 have e1:=congrArg Prod.fst q3
 have e2:=congrArg Prod.snd q3
 simp only at e1 e2
 refine ⟨e1,?_⟩
 rw [←e2]
 exact (ag4 (by rw [ei] at g7;omega)).symm
structure iC where
 alive:List Int
 rows:List Rw
 rn:Int
 ri:Int
 bU:List Cd
 fB:List ByteArray
 bZ:List Ko
 dn:List Ch
 iQ:List Ba
 zk:List Cd
 zh:List ByteArray
 zi:List Ko
 fF:List Ch
 zl:List Ba
 bI:List Rw
 bg:List Int
 jB:List Int
 jA:List Int
 jy:List Int
 jw:List Int
 jv:List Int
 jr:List Int
 jq:List Int
 jo:List Int
 jm:List Int
 jl:List Int
 dU:List Int
 dS:List Int
 dR:List Int
 dQ:List Int
 dP:List Int
 dO:List Int
 sums:List Int
 levels:List Int
def aF7 (s:iC):List LV:=[.xl (.int .i64) s.alive,.own 1 0,.xl GY s.rows,.v (.int .i64 s.rn),.v (.int .i64 s.ri)]
def aE4 (s:iC):List aW:=[⟨[.xl eu s.bU,.xl .str s.fB,.xl eG s.bZ,.xl dK s.dn,.xl eP s.iQ],28,.cl,false⟩,⟨[.xl eu s.zk,.xl .str s.zh,.xl eG s.zi,.xl dK s.fF,.xl eP s.zl,.xl GY s.bI,.os 2 1 0 (List.length s.jB),.os 3 1 0 (List.length s.jA),.os 4 1 0 (List.length s.jy),.os 5 1 0 (List.length s.jw),.os 6 1 0 (List.length s.jv),.os 7 1 0 (List.length s.jr),.os 8 1 0 (List.length s.jq),.os 9 1 0 (List.length s.jo),.os 10 1 0 (List.length s.jm),.os 11 1 0 (List.length s.jl),.os 12 1 0 (List.length s.dU),.os 13 1 0 (List.length s.dS),.os 14 1 0 (List.length s.dR),.os 15 1 0 (List.length s.dQ),.os 16 1 0 (List.length s.dP),.os 17 1 0 (List.length s.dO),.os 18 1 0 (List.length s.sums),.xl (.int .i64) s.bg,.os 19 1 0 (List.length s.levels)],148,.cl,false⟩,⟨[],3,.vec (.int .i64) s.jB,false⟩,⟨[],3,.vec (.int .i64) s.jA,false⟩,⟨[],3,.vec (.int .i64) s.jy,false⟩,⟨[],3,.vec (.int .i64) s.jw,false⟩,⟨[],3,.vec (.int .i64) s.jv,false⟩,⟨[],3,.vec (.int .i64) s.jr,false⟩,⟨[],3,.vec (.int .i64) s.jq,false⟩,⟨[],3,.vec (.int .i64) s.jo,false⟩,⟨[],3,.vec (.int .i64) s.jm,false⟩,⟨[],3,.vec (.int .i64) s.jl,false⟩,⟨[],3,.vec (.int .i64) s.dU,false⟩,⟨[],3,.vec (.int .i64) s.dS,false⟩,⟨[],3,.vec (.int .i64) s.dR,false⟩,⟨[],3,.vec (.int .i64) s.dQ,false⟩,⟨[],3,.vec (.int .i64) s.dP,false⟩,⟨[],3,.vec (.int .i64) s.dO,false⟩,⟨[],3,.vec (.int .i64) s.sums,false⟩,⟨[],3,.vec (.int .i64) s.levels,false⟩]
noncomputable def VQ:Code:=((aB (Tryz.f95.body.getD .skip))[0]?).getD .skip
def bT (s:iC):iI:=(⟨s.alive,s.ri,s.rows,s.rn,s.ri,(su s.rows s.ri).2,(List.length (su s.rows s.ri).2:Int),(0:Int),s.bU,s.fB,s.bZ,s.dn,s.iQ,s.zk,s.zh,s.zi,s.fF,s.zl,s.bI,s.bg,s.jB,s.jA,s.jy,s.jw,s.jv,s.jr,s.jq,s.jo,s.jm,s.jl,s.dU,s.dS,s.dR,s.dQ,s.dP,s.dO,s.sums,s.levels⟩:iI)
def TT (s:iC):T (Rd iC):=
 .br (decide (s.ri<s.rn)) (.req (0≤s.ri∧s.ri<(List.length s.rows:Int)) (.rl s.jB (.rl s.jA (.rl s.jy (.rl s.jw (.rl s.jv (.rl s.jr (.rl s.jq (.rl s.jo (.rl s.jm (.rl s.jl (.rl s.dU (.rl s.dS (.rl s.dR (.rl s.dQ (.rl s.dP (.rl s.dO (.rl s.sums (.rl s.levels (.req (aAO (bT s)) (.rl (bH (bT s)).jB (.rl (bH (bT s)).jA (.rl (bH (bT s)).jy (.rl (bH (bT s)).jw (.rl (bH (bT s)).jv (.rl (bH (bT s)).jr (.rl (bH (bT s)).jq (.rl (bH (bT s)).jo (.rl (bH (bT s)).jm (.rl (bH (bT s)).jl (.rl (bH (bT s)).dU (.rl (bH (bT s)).dS (.rl (bH (bT s)).dR (.rl (bH (bT s)).dQ (.rl (bH (bT s)).dP (.rl (bH (bT s)).dO (.rl (bH (bT s)).sums (.rl s.levels (.ok (.next {s with ri:=(IntKind.i64.wrap (s.ri+1)),jB:=(bH (bT s)).jB,jA:=(bH (bT s)).jA,jy:=(bH (bT s)).jy,jw:=(bH (bT s)).jw,jv:=(bH (bT s)).jv,jr:=(bH (bT s)).jr,jq:=(bH (bT s)).jq,jo:=(bH (bT s)).jo,jm:=(bH (bT s)).jm,jl:=(bH (bT s)).jl,dU:=(bH (bT s)).dU,dS:=(bH (bT s)).dS,dR:=(bH (bT s)).dR,dQ:=(bH (bT s)).dQ,dP:=(bH (bT s)).dP,dO:=(bH (bT s)).dO,sums:=(bH (bT s)).sums})))))))))))))))))))))))))))))))))))))))) (.rl s.jB (.rl s.jA (.rl s.jy (.rl s.jw (.rl s.jv (.rl s.jr (.rl s.jq (.rl s.jo (.rl s.jm (.rl s.jl (.rl s.dU (.rl s.dS (.rl s.dR (.rl s.dQ (.rl s.dP (.rl s.dO (.rl s.sums (.rl s.levels (.ok (.stop (.exit 0) s))))))))))))))))))))
abbrev acN (s:iC):=(TT s).rd s
def lm (s:iC):List (List Int):=[s.jB,s.jA,s.jy,s.jw,s.jv,s.jr,s.jq,s.jo,s.jm,s.jl,s.dU,s.dS,s.dR,s.dQ,s.dP,s.dO]
def OY (s:iC):Prop:=s.ri=0∧(∀o∈lm s,o=[])∧s.sums=List.replicate s.rows.length 0∧s.rn=(s.rows.length:Int)∧s.rn≤1000∧(∀r∈s.rows,(r.2.length:Int)≤1000∧∀m∈r.2,0≤m∧m<16∧m<(s.alive.length:Int))∧(∀a∈s.alive,0≤a∧a≤80)∧s.sums.length=s.rows.length
def vV (s:iC):Prop:=(0≤s.ri∧s.ri≤s.rn)∧(∀o∈lm s,(o.length:Int)≤1000*s.ri)∧(∀k:Nat,s.ri≤(k:Int)→s.sums.getD k 0=0)∧s.rn=(s.rows.length:Int)∧s.rn≤1000∧(∀r∈s.rows,(r.2.length:Int)≤1000∧∀m∈r.2,0≤m∧m<16∧m<(s.alive.length:Int))∧(∀a∈s.alive,0≤a∧a≤80)∧s.sums.length=s.rows.length
def wQ (s:iC):Nat:=(s.rn-s.ri).toNat
def aeV (x:Ex) (_ s':iC):Prop:=x=.exit 0∧s'.ri=s'.rn
theorem aCT:∀s,OY s→vV s:=by
 intro s h
 obtain ⟨h0,h1,h2,h3⟩:=h
 refine ⟨by have:=h3.1;omega,fun o ho=>by rw [h1 o ho];simp;omega,fun k _=>?_,h3⟩
 rw [h2]
 simp only [List.getD,List.getElem?_replicate]
 split<;>rfl
theorem ajs (s:iC) (hI:vV s) (c1:s.ri<s.rn):Xb (bT s):=by
 obtain ⟨⟨h0,h1⟩,h2,h3,h4,h5,h6,h7,h8⟩:=hI
 have hr:=h6 (su s.rows s.ri) (by rw [Ei (by omega)];exact List.getElem_mem _)
 refine ⟨rfl,fun o ho=>?_,?_,rfl,hr.1,hr.2,h7,h0,?_⟩
 ·have:=h2 o ho
  omega
 ·have:=h3 s.ri.toNat (by omega)
  show 0≤s.sums.getD s.ri.toNat 0∧s.sums.getD s.ri.toNat 0≤1000
  omega
 ·show s.ri<(s.sums.length:Int)
  omega
theorem ajq (s s':iC) (hI:vV s) (c1:s.ri<s.rn) (hO:lm s'=fM (bH (bT s))) (hs:s'.sums=(bH (bT s)).sums) (hk:s'.ri=IntKind.i64.wrap (s.ri+1)) (hn:s'.rn=s.rn) (hl:s'.rows=s.rows) (ha:s'.alive=s.alive):
  (vV s'∧wQ s'<wQ s)∧(fun s:iC=>(TI (lm s) s.ri (s.rows.drop s.ri.toNat),TG s.alive s.sums s.ri (s.rows.drop s.ri.toNat))) s'=(fun s:iC=>(TI (lm s) s.ri (s.rows.drop s.ri.toNat),TG s.alive s.sums s.ri (s.rows.drop s.ri.toNat))) s:=by
 obtain ⟨r1,r2⟩:=apE _ (ajs s hI c1)
 obtain ⟨⟨h0,h1⟩,h2,h3,h4,h5,h6,h7,h8⟩:=hI
 have hr:=h6 (su s.rows s.ri) (by rw [Ei (by omega)];exact List.getElem_mem _)
 rw [aN (x:=s.ri+1) (by omega) (by omega)] at hk
 have r1:fM (bH (bT s))=vZ s.ri (lm s) (su s.rows s.ri).2:=r1
 have r2:(bH (bT s)).sums=s.sums.set s.ri.toNat (s.sums.getD s.ri.toNat 0+smA s.alive (su s.rows s.ri).2):=r2
 refine ⟨⟨⟨⟨by omega,by omega⟩,fun o ho=>?_,fun k hk2=>?_,by rw [hn,hl];exact h4,by omega,by rw [hl,ha];exact h6,by rw [ha];exact h7,by rw [hs,r2,List.length_set,hl];exact h8⟩,by simp only [wQ];omega⟩,?_⟩
 ·rw [hO,r1] at ho
  have:=abI h2 o ho
  have:=hr.1
  rw [hk]
  omega
 ·rw [hs,r2]
  have:=h3 k (by omega)
  simp only [List.getD] at this⊢
  rw [List.getElem?_set_ne (by omega)]
  exact this
 ·simp only
  rw [hO,hs,hl,ha,r1,r2,hk,(ak9 h0 (show s.ri<s.rows.length by omega)).1]
  rfl
theorem apC (s s':iC) (hI:vV s) (c1:s.ri<s.rn) (hO:lm s'=fM (bH (bT s))) (hs:s'.sums=(bH (bT s)).sums) (hk:s'.ri=IntKind.i64.wrap (s.ri+1)) (hn:s'.rn=s.rn) (hl:s'.rows=s.rows) (ha:s'.alive=s.alive):bP (fun s'=>vV s'∧wQ s'<wQ s) (fun x s'=>aeV x s s') (.next s'):=(ajq s s' hI c1 hO hs hk hn hl ha).1
theorem apB (s s':iC) (hI:vV s) (c1:s.ri<s.rn) (hO:lm s'=fM (bH (bT s))) (hs:s'.sums=(bH (bT s)).sums) (hk:s'.ri=IntKind.i64.wrap (s.ri+1)) (hn:s'.rn=s.rn) (hl:s'.rows=s.rows) (ha:s'.alive=s.alive):bP (fun s'=>(fun s:iC=>(TI (lm s) s.ri (s.rows.drop s.ri.toNat),TG s.alive s.sums s.ri (s.rows.drop s.ri.toNat))) s'=(fun s:iC=>(TI (lm s) s.ri (s.rows.drop s.ri.toNat),TG s.alive s.sums s.ri (s.rows.drop s.ri.toNat))) s) (fun _ s'=>(fun s:iC=>(TI (lm s) s.ri (s.rows.drop s.ri.toNat),TG s.alive s.sums s.ri (s.rows.drop s.ri.toNat))) s'=(fun s:iC=>(TI (lm s) s.ri (s.rows.drop s.ri.toNat),TG s.alive s.sums s.ri (s.rows.drop s.ri.toNat))) s) (.next s'):=(ajq s s' hI c1 hO hs hk hn hl ha).2
theorem ayj (s:iC) (hI:vV s):bP (fun s'=>vV s'∧wQ s'<wQ s) (fun x s'=>aeV x s s') (acN s):=by
 unfold acN TT
 dsimp only [T.rd,T.rl]
 refine au (fun c1=>?_) (fun c1=>?_)
 ·exact apC s _ hI (by simpa using c1) rfl rfl rfl rfl rfl rfl
 ·have c1:s.rn≤s.ri:=by simpa using c1
  have h0:=hI.1
  exact ⟨rfl,by omega⟩
def xM:bQ iC:=⟨1,67,[2,7,23,24,25],[.ns 7 6 3 (.int .i64),.ns 7 7 3 (.int .i64),.ns 7 8 3 (.int .i64),.ns 7 9 3 (.int .i64),.ns 7 10 3 (.int .i64),.ns 7 11 3 (.int .i64),.ns 7 12 3 (.int .i64),.ns 7 13 3 (.int .i64),.ns 7 14 3 (.int .i64),.ns 7 15 3 (.int .i64),.ns 7 16 3 (.int .i64),.ns 7 17 3 (.int .i64),.ns 7 18 3 (.int .i64),.ns 7 19 3 (.int .i64),.ns 7 20 3 (.int .i64),.ns 7 21 3 (.int .i64)],aF7,aE4,fun v b=>⟨aQ (.int .i64) (v.getD 0 .junk),aQ GY (v.getD 2 .junk),gI (v.getD 3 .junk),gI (v.getD 4 .junk),aQ eu (aV (aO b 0) 0),aQ .str (aV (aO b 0) 1),aQ eG (aV (aO b 0) 2),aQ dK (aV (aO b 0) 3),aQ eP (aV (aO b 0) 4),aQ eu (aV (aO b 1) 0),aQ .str (aV (aO b 1) 1),aQ eG (aV (aO b 1) 2),aQ dK (aV (aO b 1) 3),aQ eP (aV (aO b 1) 4),aQ GY (aV (aO b 1) 5),aQ (.int .i64) (aV (aO b 1) 23),jd (.int .i64) (aO b 2),jd (.int .i64) (aO b 3),jd (.int .i64) (aO b 4),jd (.int .i64) (aO b 5),jd (.int .i64) (aO b 6),jd (.int .i64) (aO b 7),jd (.int .i64) (aO b 8),jd (.int .i64) (aO b 9),jd (.int .i64) (aO b 10),jd (.int .i64) (aO b 11),jd (.int .i64) (aO b 12),jd (.int .i64) (aO b 13),jd (.int .i64) (aO b 14),jd (.int .i64) (aO b 15),jd (.int .i64) (aO b 16),jd (.int .i64) (aO b 17),jd (.int .i64) (aO b 18),jd (.int .i64) (aO b 19)⟩,TT,fun s r=> {r with alive:=s.alive,rows:=s.rows,rn:=s.rn,bU:=s.bU,fB:=s.fB,bZ:=s.bZ,dn:=s.dn,iQ:=s.iQ,zk:=s.zk,zh:=s.zh,zi:=s.zi,fF:=s.fF,zl:=s.zl,bI:=s.bI,bg:=s.bg,levels:=s.levels},fun s=>s,fun _ s=>s,[.exit 0],OY,vV,wQ⟩
abbrev ax:=xM.run
abbrev arH:=xM.jU
abbrev Td:=xM.q
theorem axk (s:iC) (hI:vV s):(TT s).all (fun _=>True):=by
 refine ⟨fun c1=>⟨?_,⟨rfl,rfl⟩,⟨rfl,rfl⟩,⟨rfl,rfl⟩,⟨rfl,rfl⟩,⟨rfl,rfl⟩,⟨rfl,rfl⟩,⟨rfl,rfl⟩,⟨rfl,rfl⟩,⟨rfl,rfl⟩,⟨rfl,rfl⟩,⟨rfl,rfl⟩,⟨rfl,rfl⟩,⟨rfl,rfl⟩,⟨rfl,rfl⟩,⟨rfl,rfl⟩,⟨rfl,rfl⟩,⟨rfl,rfl⟩,⟨rfl,rfl⟩,?_,⟨rfl,rfl⟩,⟨rfl,rfl⟩,⟨rfl,rfl⟩,⟨rfl,rfl⟩,⟨rfl,rfl⟩,⟨rfl,rfl⟩,⟨rfl,rfl⟩,⟨rfl,rfl⟩,⟨rfl,rfl⟩,⟨rfl,rfl⟩,⟨rfl,rfl⟩,⟨rfl,rfl⟩,⟨rfl,rfl⟩,⟨rfl,rfl⟩,⟨rfl,rfl⟩,⟨rfl,rfl⟩,⟨rfl,rfl⟩,⟨rfl,rfl⟩,trivial⟩,fun c1=>⟨⟨rfl,rfl⟩,⟨rfl,rfl⟩,⟨rfl,rfl⟩,⟨rfl,rfl⟩,⟨rfl,rfl⟩,⟨rfl,rfl⟩,⟨rfl,rfl⟩,⟨rfl,rfl⟩,⟨rfl,rfl⟩,⟨rfl,rfl⟩,⟨rfl,rfl⟩,⟨rfl,rfl⟩,⟨rfl,rfl⟩,⟨rfl,rfl⟩,⟨rfl,rfl⟩,⟨rfl,rfl⟩,⟨rfl,rfl⟩,⟨rfl,rfl⟩,trivial⟩⟩
 ·(obtain ⟨h0,h2,h3,h4,h5,h6,h7,h8⟩:=hI;simp only [decide_eq_true_eq] at c1;omega)
 ·exact ⟨ajs s hI (by simpa using c1),rfl,rfl⟩
theorem Ye:xM.Ok:=⟨fun s=>by kernel_rfl,fun s=>by kernel_rfl,fun s=>rfl,fun s t r=>rfl,fun s=>rfl,fun s=>by kernel_rfl⟩
theorem XT:xM.Pf (aeV):=⟨aCT,fun _ _=>rfl,ayj,axk⟩
theorem zZ:bn Tryz.prog aS (AN 1) (.loop VQ) xM.lp:=bQ.snd Ye XT (bF (Γ:=y7) (K:=acg) (L:=(Zl (fun i=>if i=6 then O1.lp else aC i))) AY akn VQ (fun b hb=>by
 rw [show aB _=[JP] by kernel_rfl] at hb
 simp only [List.mem_cons,List.not_mem_nil,or_false] at hb
 subst hb
 exact aon)) (fun s=>by kernel_rfl)
theorem apD (s:iC) (hE:OY s):∃s',vV s'∧aeV (arH s) s' (ax s):=bQ.fin Ye XT s hE
theorem ajr (s:iC) (hE:OY s):(fun s:iC=>(TI (lm s) s.ri (s.rows.drop s.ri.toNat),TG s.alive s.sums s.ri (s.rows.drop s.ri.toNat))) (ax s)=(fun s:iC=>(TI (lm s) s.ri (s.rows.drop s.ri.toNat),TG s.alive s.sums s.ri (s.rows.drop s.ri.toNat))) s:=by
 exact bQ.uf Ye XT (fun s:iC=>(TI (lm s) s.ri (s.rows.drop s.ri.toNat),TG s.alive s.sums s.ri (s.rows.drop s.ri.toNat))) (fun s hI=>by
  show bP _ _ (acN s)
  unfold acN TT
  dsimp only [T.rd,T.rl]
  refine au (fun c1=>?_) (fun c1=>?_)
  ·exact apB s _ hI (by simpa using c1) rfl rfl rfl rfl rfl rfl
  ·rfl) s hE
theorem apA (s:iC) (hE:OY s):lm (ax s)=TI (lm s) 0 s.rows∧(ax s).sums=TG s.alive s.sums 0 s.rows:=by
 have q3:=ajr s hE
 obtain ⟨s',hI,q1,q2⟩:=apD s hE
 obtain ⟨h0,h1,h2,h3,h4,h5⟩:=hE
 have el:(ax s).rows=s.rows:=rfl
 have en:(ax s).rn=s.rn:=rfl
 have ea:(ax s).alive=s.alive:=rfl
 simp only at q3
 rw [q2,en,el,ea,List.drop_eq_nil_of_le (by omega),h0] at q3
 exact ⟨congrArg Prod.fst q3,congrArg Prod.snd q3⟩
end Go.Proofs.YtlihnbimgclogaaGreatDoor
namespace Go.Proofs.YtlihnbimgclogaaGreatDoor
open Go.Sx
structure pF where
 r:Bool
 l:List Int
 n:Int
 i:Int
 bU:List Cd
 fB:List ByteArray
 bZ:List Ko
 dn:List Ch
 iQ:List Ba
 zk:List Cd
 zh:List ByteArray
 zi:List Ko
 fF:List Ch
 zl:List Ba
 bI:List Rw
 jB:List Int
 jA:List Int
 jy:List Int
 jw:List Int
 jv:List Int
 jr:List Int
 jq:List Int
 jo:List Int
 jm:List Int
 jl:List Int
 dU:List Int
 dS:List Int
 dR:List Int
 dQ:List Int
 dP:List Int
 dO:List Int
 bg:List Int
 sums:List Int
 levels:List Int
 qQ:ByteArray
 Zk:Int
 qP:Int
 alA:Int
 alB:Int
 Zh:Int
 lN:Int
 nH:Int
 more:Int
def aGs (s:pF):List LV:=[.fn 124 [.own 4 0,.own 6 0],.v (.bool s.r),.xl (.int .i64) s.l,.v (.int .i64 s.n),.v (.int .i64 s.i)]
def aFp (s:pF):List aW:=[⟨[.xl eu s.bU,.xl .str s.fB,.xl eG s.bZ,.xl dK s.dn,.xl eP s.iQ],28,.cl,false⟩,⟨[.xl eu s.zk,.xl .str s.zh,.xl eG s.zi,.xl dK s.fF,.xl eP s.zl,.xl GY s.bI,.xl (.int .i64) s.jB,.xl (.int .i64) s.jA,.xl (.int .i64) s.jy,.xl (.int .i64) s.jw,.xl (.int .i64) s.jv,.xl (.int .i64) s.jr,.xl (.int .i64) s.jq,.xl (.int .i64) s.jo,.xl (.int .i64) s.jm,.xl (.int .i64) s.jl,.xl (.int .i64) s.dU,.xl (.int .i64) s.dS,.xl (.int .i64) s.dR,.xl (.int .i64) s.dQ,.xl (.int .i64) s.dP,.xl (.int .i64) s.dO,.os 2 1 0 (List.length s.sums),.xl (.int .i64) s.bg,.os 3 1 0 (List.length s.levels)],148,.cl,false⟩,⟨[],3,.vec (.int .i64) s.sums,false⟩,⟨[],3,.vec (.int .i64) s.levels,false⟩,⟨[.own 1 0],144,.cl,false⟩,⟨[.v (.string s.qQ),.v (.int .i64 s.Zk),.v (.int .i64 s.qP),.v (.int .i64 s.alA),.v (.int .i64 s.alB),.v (.int .i64 s.Zh),.v (.int .i64 s.lN),.v (.int .i64 s.nH)],58,.cl,false⟩,⟨[.v (.int .i64 s.more)],3,.cl,false⟩]
noncomputable def VW:Code:=((aB (Tryz.f93.body.getD .skip))[0]?).getD .skip
def aa3 (s:pF):T (Rd pF):=
 .br (decide (s.i<s.n)) (.req (0≤s.i∧s.i<(List.length s.l:Int)) (.req (0≤(gi s.l s.i)∧(gi s.l s.i)<((List.length s.sums:Nat):Int)) (.req ((gi s.l s.i).toNat<List.length s.sums) (.req (0≤(gi s.l s.i)∧(gi s.l s.i)<(List.length s.bI:Int)) (.br (!(decide ((IntKind.i64.wrap ((s.sums.getD (gi s.l s.i).toNat (Ty.dflt (.int .i64)))+s.more))≤(su s.bI (gi s.l s.i)).1))) (.rl s.sums (.rl s.levels (.ok (.stop (.ret) {s with r:=false})))) (.rl s.sums (.rl s.levels (.ok (.next {s with i:=(IntKind.i64.wrap (s.i+1))}))))))))) (.rl s.sums (.rl s.levels (.ok (.stop (.exit 0) s))))
abbrev auX (s:pF):=(aa3 s).rd s
def KP (s:pF) (j:Int):Bool:=Bg s.bI s.sums s.more (gi s.l j)
def Xh (s:pF):Prop:=s.i=0∧0≤s.n∧s.n≤1000∧s.n=(s.l.length:Int)∧(∀r∈s.l,0≤r∧r<(s.bI.length:Int))∧s.sums.length=s.bI.length∧(∀k:Nat,0≤s.sums.getD k 0∧s.sums.getD k 0≤2000)∧(0≤s.more∧s.more≤10000)
def OC (s:pF):Prop:=0≤s.i∧s.i≤s.n∧s.n≤1000∧(s.n=(s.l.length:Int)∧(∀r∈s.l,0≤r∧r<(s.bI.length:Int))∧s.sums.length=s.bI.length∧(∀k:Nat,0≤s.sums.getD k 0∧s.sums.getD k 0≤2000)∧(0≤s.more∧s.more≤10000))∧∀j:Nat,(j:Int)<s.i→KP s j=true
def QF (s:pF):Nat:=(s.n-s.i).toNat
def amS (x:Ex) (_ s':pF):Prop:=(x=.exit 0∧∀j:Nat,(j:Int)<s'.n→KP s' j=true)∨(x=.ret∧s'.r=false∧∃j:Nat,(j:Int)<s'.n∧KP s' j=false)
theorem aD4:∀s,Xh s→OC s:=by
 intro s h
 obtain ⟨h0,h1,h2,h3⟩:=h
 exact ⟨by omega,by omega,h2,h3,fun j hj=>by omega⟩
theorem azE (s:pF) (hI:OC s):bP (fun s'=>OC s'∧QF s'<QF s) (fun x s'=>amS x s s') (auX s):=by
 unfold auX aa3
 dsimp only [T.rd,T.rl]
 obtain ⟨h0,h1,h2,h3,h4⟩:=hI
 refine au (fun c1=>au (fun c2=>?_) (fun c2=>?_)) (fun c1=>?_)
 ·have c1:s.i<s.n:=by simpa using c1
  refine .inr ⟨rfl,rfl,s.i.toNat,by simp only;omega,?_⟩
  rw [Int.toNat_of_nonneg (by omega)]
  have hg:KP s s.i=false:=by unfold KP;(obtain ⟨e0,e1,e2,e3,e4⟩:=h3;have hb:=e3 (gi s.l s.i).toNat;have c2:=c2;rw [aN (x:=s.sums.getD (gi s.l s.i).toNat (Ty.dflt (.int .i64))+s.more) (by show _≤s.sums.getD (gi s.l s.i).toNat 0+s.more;omega) (by show s.sums.getD (gi s.l s.i).toNat 0+s.more≤_;omega)] at c2;unfold Bg;first|(have c3:(!(decide (s.sums.getD (gi s.l s.i).toNat 0+s.more≤(su s.bI (gi s.l s.i)).1)))=true:=c2;simpa using c3) |(have c3:(!(decide (s.sums.getD (gi s.l s.i).toNat 0+s.more≤(su s.bI (gi s.l s.i)).1)))=false:=c2;simpa using c3))
  exact hg
 ·have c1:s.i<s.n:=by simpa using c1
  have hg:KP s s.i=true:=by unfold KP;(obtain ⟨e0,e1,e2,e3,e4⟩:=h3;have hb:=e3 (gi s.l s.i).toNat;have c2:=c2;rw [aN (x:=s.sums.getD (gi s.l s.i).toNat (Ty.dflt (.int .i64))+s.more) (by show _≤s.sums.getD (gi s.l s.i).toNat 0+s.more;omega) (by show s.sums.getD (gi s.l s.i).toNat 0+s.more≤_;omega)] at c2;unfold Bg;first|(have c3:(!(decide (s.sums.getD (gi s.l s.i).toNat 0+s.more≤(su s.bI (gi s.l s.i)).1)))=true:=c2;simpa using c3) |(have c3:(!(decide (s.sums.getD (gi s.l s.i).toNat 0+s.more≤(su s.bI (gi s.l s.i)).1)))=false:=c2;simpa using c3))
  rw [aN (x:=s.i+1) (by omega) (by omega)]
  refine ⟨⟨by simp only;omega,by simp only;omega,h2,h3,fun j hj=>?_⟩,by simp only [QF];omega⟩
  by_cases hji:(j:Int)<s.i
  ·exact h4 j hji
  ·have:(j:Int)=s.i:=by simp only at hj;omega
   rw [this];exact hg
 ·have c1:s.n≤s.i:=by simpa using c1
  exact .inl ⟨rfl,fun j hj=>h4 j (by omega)⟩
def y9:bQ pF:=⟨7,18,[1,4,7,8,9],[],aGs,aFp,fun v b=>⟨yF (v.getD 1 .junk),aQ (.int .i64) (v.getD 2 .junk),gI (v.getD 3 .junk),gI (v.getD 4 .junk),aQ eu (aV (aO b 0) 0),aQ .str (aV (aO b 0) 1),aQ eG (aV (aO b 0) 2),aQ dK (aV (aO b 0) 3),aQ eP (aV (aO b 0) 4),aQ eu (aV (aO b 1) 0),aQ .str (aV (aO b 1) 1),aQ eG (aV (aO b 1) 2),aQ dK (aV (aO b 1) 3),aQ eP (aV (aO b 1) 4),aQ GY (aV (aO b 1) 5),aQ (.int .i64) (aV (aO b 1) 6),aQ (.int .i64) (aV (aO b 1) 7),aQ (.int .i64) (aV (aO b 1) 8),aQ (.int .i64) (aV (aO b 1) 9),aQ (.int .i64) (aV (aO b 1) 10),aQ (.int .i64) (aV (aO b 1) 11),aQ (.int .i64) (aV (aO b 1) 12),aQ (.int .i64) (aV (aO b 1) 13),aQ (.int .i64) (aV (aO b 1) 14),aQ (.int .i64) (aV (aO b 1) 15),aQ (.int .i64) (aV (aO b 1) 16),aQ (.int .i64) (aV (aO b 1) 17),aQ (.int .i64) (aV (aO b 1) 18),aQ (.int .i64) (aV (aO b 1) 19),aQ (.int .i64) (aV (aO b 1) 20),aQ (.int .i64) (aV (aO b 1) 21),aQ (.int .i64) (aV (aO b 1) 23),jd (.int .i64) (aO b 2),jd (.int .i64) (aO b 3),gSr (aV (aO b 5) 0),gI (aV (aO b 5) 1),gI (aV (aO b 5) 2),gI (aV (aO b 5) 3),gI (aV (aO b 5) 4),gI (aV (aO b 5) 5),gI (aV (aO b 5) 6),gI (aV (aO b 5) 7),gI (aV (aO b 6) 0)⟩,aa3,fun s r=> {r with l:=s.l,n:=s.n,bU:=s.bU,fB:=s.fB,bZ:=s.bZ,dn:=s.dn,iQ:=s.iQ,zk:=s.zk,zh:=s.zh,zi:=s.zi,fF:=s.fF,zl:=s.zl,bI:=s.bI,jB:=s.jB,jA:=s.jA,jy:=s.jy,jw:=s.jw,jv:=s.jv,jr:=s.jr,jq:=s.jq,jo:=s.jo,jm:=s.jm,jl:=s.jl,dU:=s.dU,dS:=s.dS,dR:=s.dR,dQ:=s.dQ,dP:=s.dP,dO:=s.dO,bg:=s.bg,sums:=s.sums,levels:=s.levels,qQ:=s.qQ,Zk:=s.Zk,qP:=s.qP,alA:=s.alA,alB:=s.alB,Zh:=s.Zh,lN:=s.lN,nH:=s.nH,more:=s.more},fun s=>s,fun _ s=>s,[.ret,.exit 0],Xh,OC,QF⟩
abbrev G7:=y9.run
abbrev Hq:=y9.jU
abbrev aA7:=y9.q
noncomputable def Bc:Specs:=bf [(24,oI),(61,qX),(94,qW),(96,qV)]
theorem ER:∀g S,Bc g=some S→Valid Tryz.prog aS g S:=aT (l:=[(24,oI),(61,qX),(94,qW),(96,qV)]) ⟨DR,Ij,Ii,Ih,trivial⟩
noncomputable def akw:Hand:=inl Tryz.prog aS Bc (jX 95 1 3 (xM.lp) (jX 93 1 2 (vX.lp) (kH Tryz.prog aS (Bc) 20 2))) 9
theorem atF:cZ Tryz.prog aS akw:=bM ER (dF Tryz.func95 rfl (by kernel_rfl) zZ (dF Tryz.func93 rfl (by kernel_rfl) xQ (dI ER))) 9
theorem axF (s:pF) (hI:OC s):(aa3 s).all (fun _=>True):=by
 refine ⟨fun c1=>⟨?_,?_,?_,?_,fun c2=>⟨⟨rfl,rfl⟩,⟨rfl,rfl⟩,trivial⟩,fun c2=>⟨⟨rfl,rfl⟩,⟨rfl,rfl⟩,trivial⟩⟩,fun c1=>⟨⟨rfl,rfl⟩,⟨rfl,rfl⟩,trivial⟩⟩
 all_goals ((obtain ⟨h0,h1,h2,⟨e0,e1,e2,e3,e4⟩,h4⟩:=hI;simp only [decide_eq_true_eq] at c1;have hm:=e1 (gi s.l s.i) (qL (by omega) (by omega));omega))
theorem ai8:y9.Ok:=⟨fun s=>by kernel_rfl,fun s=>by kernel_rfl,fun s=>rfl,fun s t r=>rfl,fun s=>rfl,fun s=>by kernel_rfl⟩
theorem ah0:y9.Pf (amS):=⟨aD4,fun _ _=>rfl,azE,axF⟩
theorem GZ:bn Tryz.prog aS (AN 7) (.loop VW) y9.lp:=bQ.snd ai8 ah0 (bF (Γ:=Bc) (K:=akw) (L:=(sO Tryz.prog aS Bc akw 20 2)) ER atF VW (fun b _=>dN ER atF 20 2 b)) (fun s=>by kernel_rfl)
theorem ar4 (s:pF) (hE:Xh s):∃s',OC s'∧amS (Hq s) s' (G7 s):=bQ.fin ai8 ah0 s hE
theorem sF (s:pF) (hE:Xh s):(Hq s=.exit 0∧s.l.all (Bg s.bI s.sums s.more)=true)∨(Hq s=.ret∧(G7 s).r=false∧s.l.all (Bg s.bI s.sums s.more)=false):=by
 obtain ⟨s',hI,hq⟩:=ar4 s hE
 obtain ⟨h0,h1,h2,h3,_⟩:=hE
 have en:(G7 s).n=s.n:=rfl
 rcases hq with ⟨q1,q2⟩ |⟨q1,q2,j,q3,q4⟩
 ·exact .inl ⟨q1,(jV (d:=(0:Int))).1 fun j hj=>q2 j (by rw [en];omega)⟩
 ·refine .inr ⟨q1,q2,?_⟩
  rw [Bool.eq_false_iff]
  intro hx
  have:=(jV (d:=(0:Int))).2 hx j (by rw [en] at q3;omega)
  exact Bool.noConfusion (this.symm.trans q4)
structure uw where
 RY:Int
 level:Int
 l:List Int
 n:Int
 i:Int
 bU:List Cd
 fB:List ByteArray
 bZ:List Ko
 dn:List Ch
 iQ:List Ba
 zk:List Cd
 zh:List ByteArray
 zi:List Ko
 fF:List Ch
 zl:List Ba
 bI:List Rw
 jB:List Int
 jA:List Int
 jy:List Int
 jw:List Int
 jv:List Int
 jr:List Int
 jq:List Int
 jo:List Int
 jm:List Int
 jl:List Int
 dU:List Int
 dS:List Int
 dR:List Int
 dQ:List Int
 dP:List Int
 dO:List Int
 bg:List Int
 sums:List Int
 levels:List Int
 more:Int
def aHt (s:uw):List LV:=[.v (.int .i64 s.RY),.own 4 0,.v (.int .i64 s.level),.own 5 0,.xl (.int .i64) s.l,.v (.int .i64 s.n),.v (.int .i64 s.i)]
def aHl (s:uw):List aW:=[⟨[.xl eu s.bU,.xl .str s.fB,.xl eG s.bZ,.xl dK s.dn,.xl eP s.iQ],28,.cl,false⟩,⟨[.xl eu s.zk,.xl .str s.zh,.xl eG s.zi,.xl dK s.fF,.xl eP s.zl,.xl GY s.bI,.xl (.int .i64) s.jB,.xl (.int .i64) s.jA,.xl (.int .i64) s.jy,.xl (.int .i64) s.jw,.xl (.int .i64) s.jv,.xl (.int .i64) s.jr,.xl (.int .i64) s.jq,.xl (.int .i64) s.jo,.xl (.int .i64) s.jm,.xl (.int .i64) s.jl,.xl (.int .i64) s.dU,.xl (.int .i64) s.dS,.xl (.int .i64) s.dR,.xl (.int .i64) s.dQ,.xl (.int .i64) s.dP,.xl (.int .i64) s.dO,.os 2 1 0 (List.length s.sums),.xl (.int .i64) s.bg,.os 3 1 0 (List.length s.levels)],148,.cl,false⟩,⟨[],3,.vec (.int .i64) s.sums,false⟩,⟨[],3,.vec (.int .i64) s.levels,false⟩,⟨[.own 1 0],144,.cl,false⟩,⟨[.v (.int .i64 s.more)],3,.cl,false⟩]
noncomputable def adJ:Code:=((aB (Tryz.f97.body.getD .skip))[0]?).getD .skip
def agM (s:uw):T (Rd uw):=
 .br (decide (s.i<s.n)) (.req (0≤s.i∧s.i<(List.length s.l:Int)) (.req (0≤(gi s.l s.i)∧(gi s.l s.i)<((List.length s.sums:Nat):Int)) (.req ((gi s.l s.i).toNat<List.length s.sums) (.req (0≤(gi s.l s.i)∧(gi s.l s.i)<((List.length s.sums:Nat):Int)) (.req ((gi s.l s.i).toNat<List.length s.sums) (.req (0=0∧(List.length s.sums)=List.length (s.sums.set (gi s.l s.i).toNat (IntKind.i64.wrap ((s.sums.getD (gi s.l s.i).toNat (Ty.dflt (.int .i64)))+s.more)))) (.rl s.levels (.ok (.next {s with i:=(IntKind.i64.wrap (s.i+1)),sums:=(s.sums.set (gi s.l s.i).toNat (IntKind.i64.wrap ((s.sums.getD (gi s.l s.i).toNat (Ty.dflt (.int .i64)))+s.more)))}))))))))) (.rl s.sums (.rl s.levels (.ok (.stop (.exit 0) s))))
abbrev arq (s:uw):=(agM s).rd s
def agk (s:uw):Prop:=s.i=0∧(∀k:Nat,0≤s.sums.getD k 0∧s.sums.getD k 0≤2000)∧s.n=(s.l.length:Int)∧s.n≤1000∧(∀r∈s.l,0≤r∧r<(s.sums.length:Int))∧(0≤s.more∧s.more≤10000)
def agf (s:uw):Prop:=(0≤s.i∧s.i≤s.n)∧(∀k:Nat,0≤s.sums.getD k 0∧s.sums.getD k 0≤2000+10000*s.i)∧s.n=(s.l.length:Int)∧s.n≤1000∧(∀r∈s.l,0≤r∧r<(s.sums.length:Int))∧(0≤s.more∧s.more≤10000)
def abU (s:uw):Nat:=(s.n-s.i).toNat
def aAi (x:Ex) (_ s':uw):Prop:=x=.exit 0∧s'.i=s'.n
theorem aGU:∀s,agk s→agf s:=by
 intro s h
 obtain ⟨h0,h1,h2,h3⟩:=h
 exact ⟨by omega,fun k=>by have:=h1 k;omega,h2,h3⟩
theorem aCe (s:uw) (hI:agf s):bP (fun s'=>agf s'∧abU s'<abU s) (fun x s'=>aAi x s s') (arq s):=by
 unfold arq agM
 dsimp only [T.rd,T.rl]
 obtain ⟨⟨h0,h1⟩,h2,h3,h4,h5,h6⟩:=hI
 refine au (fun c1=>?_) (fun c1=>?_)
 ·have c1:s.i<s.n:=by simpa using c1
  have hb:=h2 (gi s.l s.i).toNat
  rw [aN (x:=s.i+1) (by omega) (by omega),aN (x:=s.sums.getD (gi s.l s.i).toNat (Ty.dflt (.int .i64))+s.more) (by show _≤s.sums.getD (gi s.l s.i).toNat 0+s.more;omega) (by show s.sums.getD (gi s.l s.i).toNat 0+s.more≤_;omega)]
  refine ⟨⟨⟨by simp only;omega,by simp only;omega⟩,fun k=>?_,h3,h4,fun r hr=>by simp only [List.length_set];exact h5 r hr,h6⟩,by simp only [abU];omega⟩
  simp only
  have hk:=h2 k
  rw [qM]
  split
  ·show 0≤s.sums.getD (gi s.l s.i).toNat 0+s.more∧s.sums.getD (gi s.l s.i).toNat 0+s.more≤_
   omega
  ·omega
 ·have c1:s.n≤s.i:=by simpa using c1
  exact ⟨rfl,by omega⟩
def Tf:bQ uw:=⟨4,90,[1,2,6,7,66,67,68],[],aHt,aHl,fun v b=>⟨gI (v.getD 0 .junk),gI (v.getD 2 .junk),aQ (.int .i64) (v.getD 4 .junk),gI (v.getD 5 .junk),gI (v.getD 6 .junk),aQ eu (aV (aO b 0) 0),aQ .str (aV (aO b 0) 1),aQ eG (aV (aO b 0) 2),aQ dK (aV (aO b 0) 3),aQ eP (aV (aO b 0) 4),aQ eu (aV (aO b 1) 0),aQ .str (aV (aO b 1) 1),aQ eG (aV (aO b 1) 2),aQ dK (aV (aO b 1) 3),aQ eP (aV (aO b 1) 4),aQ GY (aV (aO b 1) 5),aQ (.int .i64) (aV (aO b 1) 6),aQ (.int .i64) (aV (aO b 1) 7),aQ (.int .i64) (aV (aO b 1) 8),aQ (.int .i64) (aV (aO b 1) 9),aQ (.int .i64) (aV (aO b 1) 10),aQ (.int .i64) (aV (aO b 1) 11),aQ (.int .i64) (aV (aO b 1) 12),aQ (.int .i64) (aV (aO b 1) 13),aQ (.int .i64) (aV (aO b 1) 14),aQ (.int .i64) (aV (aO b 1) 15),aQ (.int .i64) (aV (aO b 1) 16),aQ (.int .i64) (aV (aO b 1) 17),aQ (.int .i64) (aV (aO b 1) 18),aQ (.int .i64) (aV (aO b 1) 19),aQ (.int .i64) (aV (aO b 1) 20),aQ (.int .i64) (aV (aO b 1) 21),aQ (.int .i64) (aV (aO b 1) 23),jd (.int .i64) (aO b 2),jd (.int .i64) (aO b 3),gI (aV (aO b 5) 0)⟩,agM,fun s r=> {r with RY:=s.RY,level:=s.level,l:=s.l,n:=s.n,bU:=s.bU,fB:=s.fB,bZ:=s.bZ,dn:=s.dn,iQ:=s.iQ,zk:=s.zk,zh:=s.zh,zi:=s.zi,fF:=s.fF,zl:=s.zl,bI:=s.bI,jB:=s.jB,jA:=s.jA,jy:=s.jy,jw:=s.jw,jv:=s.jv,jr:=s.jr,jq:=s.jq,jo:=s.jo,jm:=s.jm,jl:=s.jl,dU:=s.dU,dS:=s.dS,dR:=s.dR,dQ:=s.dQ,dP:=s.dP,dO:=s.dO,bg:=s.bg,levels:=s.levels,more:=s.more},fun s=>s,fun _ s=>s,[.exit 0],agk,agf,abU⟩
abbrev kV:=Tf.run
abbrev azz:=Tf.jU
abbrev avz:=Tf.q
noncomputable def akv:Hand:=inl Tryz.prog aS Bc (jX 93 7 2 (y9.lp) (jX 95 1 3 (xM.lp) (jX 93 1 2 (vX.lp) (kH Tryz.prog aS (Bc) 20 2)))) 9
theorem atE:cZ Tryz.prog aS akv:=bM ER (dF Tryz.func93 rfl (by kernel_rfl) GZ (dF Tryz.func95 rfl (by kernel_rfl) zZ (dF Tryz.func93 rfl (by kernel_rfl) xQ (dI ER)))) 9
theorem aCh (s:uw) (hI:agf s):(agM s).all (fun _=>True):=by
 refine ⟨fun c1=>⟨?_,?_,?_,?_,?_,?_,⟨rfl,rfl⟩,trivial⟩,fun c1=>⟨⟨rfl,rfl⟩,⟨rfl,rfl⟩,trivial⟩⟩
 all_goals ((obtain ⟨⟨h0,h1⟩,h2,h3,h4,h5,h6⟩:=hI;(try simp only [decide_eq_true_eq] at c1);first|(have hm:=h5 (gi s.l s.i) (qL (by omega) (by omega));omega) |exact ⟨rfl,by simp⟩ |exact ⟨rfl,rfl⟩))
theorem aiK:Tf.Ok:=⟨fun s=>by kernel_rfl,fun s=>by kernel_rfl,fun s=>rfl,fun s t r=>rfl,fun s=>rfl,fun s=>by kernel_rfl⟩
theorem ahC:Tf.Pf (aAi):=⟨aGU,fun _ _=>rfl,aCe,aCh⟩
theorem XF:bn Tryz.prog aS (AN 4) (.loop adJ) Tf.lp:=bQ.snd aiK ahC (bF (Γ:=Bc) (K:=akv) (L:=(sO Tryz.prog aS Bc akv 20 2)) ER atE adJ (fun b _=>dN ER atE 20 2 b)) (fun s=>by kernel_rfl)
theorem awS (s:uw) (hE:agk s):∃s',agf s'∧aAi (azz s) s' (kV s):=bQ.fin aiK ahC s hE
theorem ao6 (s:uw) (hE:agk s):(fun s:uw=>zM s.sums s.more (s.l.drop s.i.toNat)) (kV s)=(fun s:uw=>zM s.sums s.more (s.l.drop s.i.toNat)) s:=by
 exact bQ.uf aiK ahC (fun s:uw=>zM s.sums s.more (s.l.drop s.i.toNat)) (fun s hI=>by
  show bP _ _ (arq s)
  unfold arq agM
  dsimp only [T.rd,T.rl]
  obtain ⟨⟨h0,h1⟩,h2,h3,h4,h5,h6⟩:=hI
  refine au (fun c1=>?_) (fun c1=>rfl)
  have c1:s.i<s.n:=by simpa using c1
  have hb:=h2 (gi s.l s.i).toNat
  rw [aN (x:=s.i+1) (by omega) (by omega),aN (x:=s.sums.getD (gi s.l s.i).toNat (Ty.dflt (.int .i64))+s.more) (by show _≤s.sums.getD (gi s.l s.i).toNat 0+s.more;omega) (by show s.sums.getD (gi s.l s.i).toNat 0+s.more≤_;omega)]
  show zM _ _ _=zM _ _ _
  rw [(gi_step h0 (show s.i<s.l.length by omega)).1]
  rfl) s hE
theorem aha (s:uw) (hE:agk s):(kV s).sums=zM s.sums s.more s.l:=by
 have q3:=ao6 s hE
 obtain ⟨s',hI,q1,q2⟩:=awS s hE
 obtain ⟨h0,h1,h2,h3⟩:=hE
 simp only at q3
 rw [q2,show (kV s).n=s.n from rfl,show (kV s).l=s.l from rfl,show (kV s).more=s.more from rfl,List.drop_eq_nil_of_le (by omega),h0] at q3
 exact q3
end Go.Proofs.YtlihnbimgclogaaGreatDoor
namespace Go.Proofs.YtlihnbimgclogaaGreatDoor
open Go.Sx
structure gq where
 most:List Int
 order:List Int
 n:Int
 level:Int
 some:Bool
 l:List Int
 m:Int
 k:Int
 af:List Cd
 aA:List ByteArray
 ai:List Ko
 ak:List Ch
 aJ:List Ba
 zk:List Cd
 zh:List ByteArray
 zi:List Ko
 fF:List Ch
 zl:List Ba
 bI:List Rw
 jB:List Int
 jA:List Int
 jy:List Int
 jw:List Int
 jv:List Int
 jr:List Int
 jq:List Int
 jo:List Int
 jm:List Int
 jl:List Int
 dU:List Int
 dS:List Int
 dR:List Int
 dQ:List Int
 dP:List Int
 dO:List Int
 bg:List Int
 sums:List Int
 levels:List Int
def aFP (s:gq):List LV:=[.xl (.int .i64) s.most,.xl (.int .i64) s.order,.own 0 0,.v (.int .i64 s.n),.own 1 0,.v (.int .i64 s.level),.v (.bool s.some),.xl (.int .i64) s.l,.v (.int .i64 s.m),.v (.int .i64 s.k)]
def aEM (s:gq):List aW:=[⟨[.xl eu s.af,.xl .str s.aA,.xl eG s.ai,.xl dK s.ak,.xl eP s.aJ],28,.cl,false⟩,⟨[.xl eu s.zk,.xl .str s.zh,.xl eG s.zi,.xl dK s.fF,.xl eP s.zl,.xl GY s.bI,.xl (.int .i64) s.jB,.xl (.int .i64) s.jA,.xl (.int .i64) s.jy,.xl (.int .i64) s.jw,.xl (.int .i64) s.jv,.xl (.int .i64) s.jr,.xl (.int .i64) s.jq,.xl (.int .i64) s.jo,.xl (.int .i64) s.jm,.xl (.int .i64) s.jl,.xl (.int .i64) s.dU,.xl (.int .i64) s.dS,.xl (.int .i64) s.dR,.xl (.int .i64) s.dQ,.xl (.int .i64) s.dP,.xl (.int .i64) s.dO,.os 2 1 0 (List.length s.sums),.xl (.int .i64) s.bg,.os 3 1 0 (List.length s.levels)],148,.cl,false⟩,⟨[],3,.vec (.int .i64) s.sums,false⟩,⟨[],3,.vec (.int .i64) s.levels,false⟩]
noncomputable def BJ:Code:=((aB (((aB (Tryz.f52.body.getD .skip))[0]?).getD .skip))[0]?).getD .skip
def uJ (s:gq):pF:=(⟨false,(([s.jB,s.jA,s.jy,s.jw,s.jv,s.jr,s.jq,s.jo,s.jm,s.jl,s.dU,s.dS,s.dR,s.dQ,s.dP,s.dO]:List (List Int)).getD (gi s.l s.k).toNat []),(List.length (([s.jB,s.jA,s.jy,s.jw,s.jv,s.jr,s.jq,s.jo,s.jm,s.jl,s.dU,s.dS,s.dR,s.dQ,s.dP,s.dO]:List (List Int)).getD (gi s.l s.k).toNat []):Int),(0:Int),s.af,s.aA,s.ai,s.ak,s.aJ,s.zk,s.zh,s.zi,s.fF,s.zl,s.bI,s.jB,s.jA,s.jy,s.jw,s.jv,s.jr,s.jq,s.jo,s.jm,s.jl,s.dU,s.dS,s.dR,s.dQ,s.dP,s.dO,s.bg,s.sums,s.levels,(bD s.fF (gi s.l s.k)).1,(bD s.fF (gi s.l s.k)).2.1,(bD s.fF (gi s.l s.k)).2.2.1,(bD s.fF (gi s.l s.k)).2.2.2.1,(bD s.fF (gi s.l s.k)).2.2.2.2.1,(bD s.fF (gi s.l s.k)).2.2.2.2.2.1,(bD s.fF (gi s.l s.k)).2.2.2.2.2.2.1,(bD s.fF (gi s.l s.k)).2.2.2.2.2.2.2,(IntKind.i64.wrap ((if (gi s.bg (gi s.l s.k))<(DN (bD s.fF (gi s.l s.k)).2.2.2.1 (bD s.fF (gi s.l s.k)).2.2.2.2.2.1 (IntKind.i64.wrap ((s.levels.getD (gi s.l s.k).toNat (Ty.dflt (.int .i64)))+1))) then DN (bD s.fF (gi s.l s.k)).2.2.2.1 (bD s.fF (gi s.l s.k)).2.2.2.2.2.1 (IntKind.i64.wrap ((s.levels.getD (gi s.l s.k).toNat (Ty.dflt (.int .i64)))+1)) else (gi s.bg (gi s.l s.k)))-(if (gi s.bg (gi s.l s.k))<(DN (bD s.fF (gi s.l s.k)).2.2.2.1 (bD s.fF (gi s.l s.k)).2.2.2.2.2.1 (IntKind.i64.wrap ((IntKind.i64.wrap ((s.levels.getD (gi s.l s.k).toNat (Ty.dflt (.int .i64)))+1))-1))) then DN (bD s.fF (gi s.l s.k)).2.2.2.1 (bD s.fF (gi s.l s.k)).2.2.2.2.2.1 (IntKind.i64.wrap ((IntKind.i64.wrap ((s.levels.getD (gi s.l s.k).toNat (Ty.dflt (.int .i64)))+1))-1)) else (gi s.bg (gi s.l s.k)))))⟩:pF)
def mP (s:gq):uw:=(⟨(gi s.l s.k),(IntKind.i64.wrap ((s.levels.getD (gi s.l s.k).toNat (Ty.dflt (.int .i64)))+1)),(([s.jB,s.jA,s.jy,s.jw,s.jv,s.jr,s.jq,s.jo,s.jm,s.jl,s.dU,s.dS,s.dR,s.dQ,s.dP,s.dO]:List (List Int)).getD (gi s.l s.k).toNat []),(List.length (([s.jB,s.jA,s.jy,s.jw,s.jv,s.jr,s.jq,s.jo,s.jm,s.jl,s.dU,s.dS,s.dR,s.dQ,s.dP,s.dO]:List (List Int)).getD (gi s.l s.k).toNat []):Int),(0:Int),s.af,s.aA,s.ai,s.ak,s.aJ,s.zk,s.zh,s.zi,s.fF,s.zl,s.bI,s.jB,s.jA,s.jy,s.jw,s.jv,s.jr,s.jq,s.jo,s.jm,s.jl,s.dU,s.dS,s.dR,s.dQ,s.dP,s.dO,s.bg,s.sums,s.levels,(IntKind.i64.wrap ((if (gi s.bg (gi s.l s.k))<(DN (bD s.fF (gi s.l s.k)).2.2.2.1 (bD s.fF (gi s.l s.k)).2.2.2.2.2.1 (IntKind.i64.wrap ((s.levels.getD (gi s.l s.k).toNat (Ty.dflt (.int .i64)))+1))) then DN (bD s.fF (gi s.l s.k)).2.2.2.1 (bD s.fF (gi s.l s.k)).2.2.2.2.2.1 (IntKind.i64.wrap ((s.levels.getD (gi s.l s.k).toNat (Ty.dflt (.int .i64)))+1)) else (gi s.bg (gi s.l s.k)))-(if (gi s.bg (gi s.l s.k))<(DN (bD s.fF (gi s.l s.k)).2.2.2.1 (bD s.fF (gi s.l s.k)).2.2.2.2.2.1 (IntKind.i64.wrap ((IntKind.i64.wrap ((s.levels.getD (gi s.l s.k).toNat (Ty.dflt (.int .i64)))+1))-1))) then DN (bD s.fF (gi s.l s.k)).2.2.2.1 (bD s.fF (gi s.l s.k)).2.2.2.2.2.1 (IntKind.i64.wrap ((IntKind.i64.wrap ((s.levels.getD (gi s.l s.k).toNat (Ty.dflt (.int .i64)))+1))-1)) else (gi s.bg (gi s.l s.k)))))⟩:uw)
def TL (s:gq):T (Rd gq):=
 .br (decide (s.k<s.m)) (.req (0≤s.k∧s.k<(List.length s.l:Int)) (.req (0≤(gi s.l s.k)∧(gi s.l s.k)<((List.length s.levels:Nat):Int)) (.req ((gi s.l s.k).toNat<List.length s.levels) (.br ((s.levels.getD (gi s.l s.k).toNat (Ty.dflt (.int .i64))) !=(IntKind.i64.wrap (s.level-1))) (.rl s.sums (.rl s.levels (.ok (.next {s with k:=(IntKind.i64.wrap (s.k+1))})))) (.req (0≤(gi s.l s.k)∧(gi s.l s.k)<(List.length s.ak:Int)) (.req (0≤(gi s.l s.k)∧(gi s.l s.k)<(List.length s.most:Int)) (.req ((gi s.most (gi s.l s.k))≤9223372036854775807) (.br (decide ((U6 (bD s.ak (gi s.l s.k)).2.2.2.1 (bD s.ak (gi s.l s.k)).2.2.2.2.1 (bD s.ak (gi s.l s.k)).2.2.2.2.2.1 (gi s.most (gi s.l s.k)))<s.level)) (.rl s.sums (.rl s.levels (.ok (.next {s with k:=(IntKind.i64.wrap (s.k+1))})))) (.req (0≤(gi s.l s.k)∧(gi s.l s.k)<(List.length s.fF:Int)) (.req (0≤(gi s.l s.k)∧(gi s.l s.k)<((List.length s.levels:Nat):Int)) (.req ((gi s.l s.k).toNat<List.length s.levels) (.req (0≤(gi s.l s.k)∧(gi s.l s.k)<(List.length s.bg:Int)) (.req ((1≤(bD s.fF (gi s.l s.k)).2.2.2.1∧(bD s.fF (gi s.l s.k)).2.2.2.1≤80∧1≤(bD s.fF (gi s.l s.k)).2.2.2.2.2.1∧(bD s.fF (gi s.l s.k)).2.2.2.2.2.1≤80)∧0≤(IntKind.i64.wrap ((s.levels.getD (gi s.l s.k).toNat (Ty.dflt (.int .i64)))+1))∧(IntKind.i64.wrap ((s.levels.getD (gi s.l s.k).toNat (Ty.dflt (.int .i64)))+1))≤1000) (.req (0≤(gi s.l s.k)∧(gi s.l s.k)<(List.length s.bg:Int)) (.req ((1≤(bD s.fF (gi s.l s.k)).2.2.2.1∧(bD s.fF (gi s.l s.k)).2.2.2.1≤80∧1≤(bD s.fF (gi s.l s.k)).2.2.2.2.2.1∧(bD s.fF (gi s.l s.k)).2.2.2.2.2.1≤80)∧0≤(IntKind.i64.wrap ((IntKind.i64.wrap ((s.levels.getD (gi s.l s.k).toNat (Ty.dflt (.int .i64)))+1))-1))∧(IntKind.i64.wrap ((IntKind.i64.wrap ((s.levels.getD (gi s.l s.k).toNat (Ty.dflt (.int .i64)))+1))-1))≤1000) (.req (0≤(gi s.l s.k)∧(gi s.l s.k)<(16:Int)) (.rl s.sums (.rl s.levels (.req (aA7 (uJ s)) (.br (iE (Hq (uJ s)) (.ret)) (.br (!(G7 (uJ s)).r) (.br false (.rl s.sums (.rl s.levels (.ok (.next {s with some:=true,k:=(IntKind.i64.wrap (s.k+1))})))) (.rl s.sums (.rl s.levels (.ok (.next {s with k:=(IntKind.i64.wrap (s.k+1))}))))) (.req (0≤(gi s.l s.k)∧(gi s.l s.k)<(16:Int)) (.rl s.sums (.rl s.levels (.req (avz (mP s)) (.req (0≤(gi s.l s.k)∧(gi s.l s.k)<((List.length s.levels:Nat):Int)) (.req ((gi s.l s.k).toNat<List.length s.levels) (.br true (.rl (kV (mP s)).sums (.req (0=0∧(List.length s.levels)=List.length (s.levels.set (gi s.l s.k).toNat (IntKind.i64.wrap ((s.levels.getD (gi s.l s.k).toNat (Ty.dflt (.int .i64)))+1)))) (.ok (.next {s with some:=true,k:=(IntKind.i64.wrap (s.k+1)),sums:=(kV (mP s)).sums,levels:=(s.levels.set (gi s.l s.k).toNat (IntKind.i64.wrap ((s.levels.getD (gi s.l s.k).toNat (Ty.dflt (.int .i64)))+1)))})))) (.rl (kV (mP s)).sums (.req (0=0∧(List.length s.levels)=List.length (s.levels.set (gi s.l s.k).toNat (IntKind.i64.wrap ((s.levels.getD (gi s.l s.k).toNat (Ty.dflt (.int .i64)))+1)))) (.ok (.next {s with k:=(IntKind.i64.wrap (s.k+1)),sums:=(kV (mP s)).sums,levels:=(s.levels.set (gi s.l s.k).toNat (IntKind.i64.wrap ((s.levels.getD (gi s.l s.k).toNat (Ty.dflt (.int .i64)))+1)))})))))))))))) (.br (!true) (.br false (.rl s.sums (.rl s.levels (.ok (.next {s with some:=true,k:=(IntKind.i64.wrap (s.k+1))})))) (.rl s.sums (.rl s.levels (.ok (.next {s with k:=(IntKind.i64.wrap (s.k+1))}))))) (.req (0≤(gi s.l s.k)∧(gi s.l s.k)<(16:Int)) (.rl s.sums (.rl s.levels (.req (avz (mP s)) (.req (0≤(gi s.l s.k)∧(gi s.l s.k)<((List.length s.levels:Nat):Int)) (.req ((gi s.l s.k).toNat<List.length s.levels) (.br true (.rl (kV (mP s)).sums (.req (0=0∧(List.length s.levels)=List.length (s.levels.set (gi s.l s.k).toNat (IntKind.i64.wrap ((s.levels.getD (gi s.l s.k).toNat (Ty.dflt (.int .i64)))+1)))) (.ok (.next {s with some:=true,k:=(IntKind.i64.wrap (s.k+1)),sums:=(kV (mP s)).sums,levels:=(s.levels.set (gi s.l s.k).toNat (IntKind.i64.wrap ((s.levels.getD (gi s.l s.k).toNat (Ty.dflt (.int .i64)))+1)))})))) (.rl (kV (mP s)).sums (.req (0=0∧(List.length s.levels)=List.length (s.levels.set (gi s.l s.k).toNat (IntKind.i64.wrap ((s.levels.getD (gi s.l s.k).toNat (Ty.dflt (.int .i64)))+1)))) (.ok (.next {s with k:=(IntKind.i64.wrap (s.k+1)),sums:=(kV (mP s)).sums,levels:=(s.levels.set (gi s.l s.k).toNat (IntKind.i64.wrap ((s.levels.getD (gi s.l s.k).toNat (Ty.dflt (.int .i64)))+1)))})))))))))))))))))))))))))))))))) (.rl s.sums (.rl s.levels (.ok (.stop (.exit 2) s))))
abbrev acH (s:gq):=(TL s).rd s
def iy (s:gq):List (List Int):=[s.jB,s.jA,s.jy,s.jw,s.jv,s.jr,s.jq,s.jo,s.jm,s.jl,s.dU,s.dS,s.dR,s.dQ,s.dP,s.dO]
def OX (s:gq):Prop:=s.k=0∧(s.m=(s.l.length:Int)∧s.m≤1000∧1≤s.level∧s.level≤81)∧s.fF=s.ak∧OkT (iy s) s.bI s.fF s.bg s.most s.l∧OkS s.bI s.l s.sums s.levels
def oq (s:gq):Prop:=(0≤s.k∧s.k≤s.m)∧(s.m=(s.l.length:Int)∧s.m≤1000∧1≤s.level∧s.level≤81)∧s.fF=s.ak∧OkT (iy s) s.bI s.fF s.bg s.most s.l∧OkS s.bI s.l s.sums s.levels
def wP (s:gq):Nat:=(s.m-s.k).toNat
def aeS (x:Ex) (_ s':gq):Prop:=x=.exit 2∧s'.k=s'.m
theorem aB6:∀s,OX s→oq s:=by
 intro s h
 obtain ⟨h0,h1⟩:=h
 exact ⟨by have:=h1.1;omega,h1⟩
theorem vP (s:gq) (hI:oq s) (c1:s.k<s.m):gi s.l s.k∈s.l∧(0≤gi s.l s.k∧gi s.l s.k<16)∧gi s.l s.k<(s.fF.length:Int)∧gi s.l s.k<(s.ak.length:Int)∧gi s.l s.k<(s.bg.length:Int)∧gi s.l s.k<(s.most.length:Int)∧gi s.l s.k<(s.levels.length:Int)∧(0≤gi s.most (gi s.l s.k)∧gi s.most (gi s.l s.k)≤80)∧(0≤gi s.bg (gi s.l s.k)∧gi s.bg (gi s.l s.k)≤80):=by
 obtain ⟨⟨h0,h1⟩,⟨h2,h3,h4,h5⟩,h6,hT,hS⟩:=hI
 have hm:gi s.l s.k∈s.l:=qL h0 (by omega)
 obtain ⟨o1,o2,o3,o4⟩:=hT.ord _ hm
 exact ⟨hm,o1,o2,by rw [←h6];exact o2,o3,o4,hS.lV _ hm,hT.mo _ (qL o1.1 o4),hT.al _ (qL o1.1 o3)⟩
theorem tX {s:gq}(hI:oq s) (c2:((s.levels.getD (gi s.l s.k).toNat (Ty.dflt (.int .i64))) !=(IntKind.i64.wrap (s.level-1)))=false):s.levels.getD (gi s.l s.k).toNat 0=s.level-1:=by
 obtain ⟨_,⟨h2,h3,h4,h5⟩,_⟩:=hI
 have c2:((s.levels.getD (gi s.l s.k).toNat 0) !=(IntKind.i64.wrap (s.level-1)))=false:=c2
 rw [aN (x:=s.level-1) (by omega) (by omega)] at c2
 simpa using c2
theorem Uz {s:gq}(hI:oq s) (c2:s.levels.getD (gi s.l s.k).toNat 0=s.level-1):IntKind.i64.wrap ((s.levels.getD (gi s.l s.k).toNat (Ty.dflt (.int .i64)))+1)=s.level∧IntKind.i64.wrap ((IntKind.i64.wrap ((s.levels.getD (gi s.l s.k).toNat (Ty.dflt (.int .i64)))+1))-1)=s.level-1:=by
 obtain ⟨_,⟨h2,h3,h4,h5⟩,_⟩:=hI
 have e:IntKind.i64.wrap ((s.levels.getD (gi s.l s.k).toNat (Ty.dflt (.int .i64)))+1)=s.level:=by
  have:(s.levels.getD (gi s.l s.k).toNat (Ty.dflt (.int .i64)))=s.level-1:=c2
  rw [this,aN (x:=s.level-1+1) (by omega) (by omega)]
  omega
 refine ⟨e,?_⟩
 rw [e,aN (by omega) (by omega)]
theorem kY {s:gq}(hI:oq s) (c1:s.k<s.m) (c2:s.levels.getD (gi s.l s.k).toNat 0=s.level-1):(uJ s).more=MV s.fF s.bg (gi s.l s.k) s.level∧(mP s).more=MV s.fF s.bg (gi s.l s.k) s.level∧0≤MV s.fF s.bg (gi s.l s.k) s.level∧MV s.fF s.bg (gi s.l s.k) s.level≤10000:=by
 have hx:=vP s hI c1
 obtain ⟨w1,w2⟩:=Uz hI c2
 obtain ⟨_,⟨h2,h3,h4,h5⟩,h6,hT,hS⟩:=hI
 have hb:=ajM (gs:=s.fF) (alive:=s.bg) (k:=s.level) (hT.has _ hx.1) hx.2.2.2.2.2.2.2.2 h4 h5
 have e:(uJ s).more=MV s.fF s.bg (gi s.l s.k) s.level:=by
  unfold uJ
  simp only [w2]
  simp only [w1]
  show IntKind.i64.wrap (MV s.fF s.bg (gi s.l s.k) s.level)=_
  rw [aN (by omega) (by omega)]
 exact ⟨e,e,hb⟩
theorem as2 {s:gq}(hI:oq s) (c1:s.k<s.m):((iy s).getD (gi s.l s.k).toNat []).Nodup∧(((iy s).getD (gi s.l s.k).toNat []).length:Int)≤1000∧∀r∈(iy s).getD (gi s.l s.k).toNat [],0≤r∧r<(s.bI.length:Int):=by
 have hx:=vP s hI c1
 obtain ⟨_,_,_,hT,_⟩:=hI
 refine hT.row _ ?_
 have hl:=hT.ol
 rw [List.getD_eq_getElem?_getD,List.getElem?_eq_getElem (by omega),Option.getD_some]
 exact List.getElem_mem _
theorem uK {s:gq}(hI:oq s) (c1:s.k<s.m) (c2:s.levels.getD (gi s.l s.k).toNat 0=s.level-1):Xh (uJ s):=by
 obtain ⟨m1,m2,m3⟩:=kY hI c1 c2
 obtain ⟨o1,o2,o3⟩:=as2 hI c1
 obtain ⟨_,_,_,hT,hS⟩:=hI
 exact ⟨rfl,Int.natCast_nonneg _,o2,rfl,o3,hS.len,hS.bd,by rw [m1];exact m3⟩
theorem Pz {s:gq}(hI:oq s) (c1:s.k<s.m) (c2:s.levels.getD (gi s.l s.k).toNat 0=s.level-1):agk (mP s):=by
 obtain ⟨m1,m2,m3⟩:=kY hI c1 c2
 obtain ⟨o1,o2,o3⟩:=as2 hI c1
 obtain ⟨_,_,_,hT,hS⟩:=hI
 refine ⟨rfl,hS.bd,rfl,o2,fun r hr=>?_,by rw [m2];exact m3⟩
 have:=o3 r hr
 have hl:=hS.len
 show 0≤r∧r<(s.sums.length:Int)
 omega
theorem agX (s s':gq) (hI:oq s) (c1:s.k<s.m) (ht:(s'.sums,s'.levels,s'.some)=DX (iy s) s.bI s.fF s.bg s.most s.level (s.sums,s.levels,s.some) (gi s.l s.k)) (hk:s'.k=IntKind.i64.wrap (s.k+1))
  (h_m:s'.m=s.m) (h_l:s'.l=s.l) (h_v:s'.level=s.level) (h_g:s'.fF=s.fF) (h_c:s'.ak=s.ak) (h_r:s'.bI=s.bI) (h_a:s'.bg=s.bg) (h_w:s'.most=s.most) (h_O:iy s'=iy s):
  (oq s'∧wP s'<wP s)∧(fun s:gq=>swp (iy s) s.bI s.fF s.bg s.most s.level (s.sums,s.levels,s.some) (s.l.drop s.k.toNat)) s'=(fun s:gq=>swp (iy s) s.bI s.fF s.bg s.most s.level (s.sums,s.levels,s.some) (s.l.drop s.k.toNat)) s:=by
 have hx:=vP s hI c1
 obtain ⟨⟨h0,h1⟩,⟨h2,h3,h4,h5⟩,h6,hT,hS⟩:=hI
 rw [aN (x:=s.k+1) (by omega) (by omega)] at hk
 have e1:s'.sums=(DX (iy s) s.bI s.fF s.bg s.most s.level (s.sums,s.levels,s.some) (gi s.l s.k)).1:=congrArg (·.1) ht
 have e2:s'.levels=(DX (iy s) s.bI s.fF s.bg s.most s.level (s.sums,s.levels,s.some) (gi s.l s.k)).2.1:=congrArg (·.2.1) ht
 refine ⟨⟨⟨⟨by omega,by omega⟩,⟨by rw [h_m,h_l];exact h2,by omega,by omega,by omega⟩,by rw [h_g,h_c];exact h6,by rw [h_O,h_r,h_g,h_a,h_w,h_l];exact hT,?_⟩,by simp only [wP];omega⟩,?_⟩
 ·rw [h_r,h_l,e1,e2]
  exact ahb hT hS hx.1 h4 h5
 ·simp only
  rw [h_O,h_r,h_g,h_a,h_w,h_v,h_l,ht,hk,(gi_step h0 (show s.k<s.l.length by omega)).1]
  rfl
theorem G6 (s s':gq) (hI:oq s) (c1:s.k<s.m) (ht:(s'.sums,s'.levels,s'.some)=DX (iy s) s.bI s.fF s.bg s.most s.level (s.sums,s.levels,s.some) (gi s.l s.k)) (hk:s'.k=IntKind.i64.wrap (s.k+1))
  (h_m:s'.m=s.m) (h_l:s'.l=s.l) (h_v:s'.level=s.level) (h_g:s'.fF=s.fF) (h_c:s'.ak=s.ak) (h_r:s'.bI=s.bI) (h_a:s'.bg=s.bg) (h_w:s'.most=s.most) (h_O:iy s'=iy s):bP (fun s'=>oq s'∧wP s'<wP s) (fun x s'=>aeS x s s') (.next s'):=(agX s s' hI c1 ht hk h_m h_l h_v h_g h_c h_r h_a h_w h_O).1
theorem G5 (s s':gq) (hI:oq s) (c1:s.k<s.m) (ht:(s'.sums,s'.levels,s'.some)=DX (iy s) s.bI s.fF s.bg s.most s.level (s.sums,s.levels,s.some) (gi s.l s.k)) (hk:s'.k=IntKind.i64.wrap (s.k+1))
  (h_m:s'.m=s.m) (h_l:s'.l=s.l) (h_v:s'.level=s.level) (h_g:s'.fF=s.fF) (h_c:s'.ak=s.ak) (h_r:s'.bI=s.bI) (h_a:s'.bg=s.bg) (h_w:s'.most=s.most) (h_O:iy s'=iy s):bP (fun s'=>(fun s:gq=>swp (iy s) s.bI s.fF s.bg s.most s.level (s.sums,s.levels,s.some) (s.l.drop s.k.toNat)) s'=(fun s:gq=>swp (iy s) s.bI s.fF s.bg s.most s.level (s.sums,s.levels,s.some) (s.l.drop s.k.toNat)) s) (fun _ s'=>(fun s:gq=>swp (iy s) s.bI s.fF s.bg s.most s.level (s.sums,s.levels,s.some) (s.l.drop s.k.toNat)) s'=(fun s:gq=>swp (iy s) s.bI s.fF s.bg s.most s.level (s.sums,s.levels,s.some) (s.l.drop s.k.toNat)) s) (.next s'):=(agX s s' hI c1 ht hk h_m h_l h_v h_g h_c h_r h_a h_w h_O).2
theorem awK (s:gq) (hI:oq s):bP (fun s'=>oq s'∧wP s'<wP s) (fun x s'=>aeS x s s') (acH s):=by
 unfold acH TL
 dsimp only [T.rd,T.rl]
 refine au (fun c1=>?_) (fun c1=>?_)
 ·refine au (fun c2=>?_) (fun c2=>?_)
  ·have c1:s.k<s.m:=by simpa using c1
   have hn:¬(s.levels.getD (gi s.l s.k).toNat 0=s.level-1∧s.level≤yX s.fF (gi s.l s.k) (gi s.most (gi s.l s.k))):=fun h=>by
    obtain ⟨_,⟨h2,h3,h4,h5⟩,_⟩:=hI
    have c2:((s.levels.getD (gi s.l s.k).toNat 0) !=(IntKind.i64.wrap (s.level-1)))=true:=c2
    rw [aN (x:=s.level-1) (by omega) (by omega)] at c2
    have c2:¬s.levels.getD (gi s.l s.k).toNat 0=s.level-1:=by simpa using c2
    exact c2 h.1
   exact G6 s _ hI (by simpa using c1) (by unfold DX;rw [if_neg hn]) rfl rfl rfl rfl rfl rfl rfl rfl rfl rfl
  ·refine au (fun c3=>?_) (fun c3=>?_)
   ·have c1:s.k<s.m:=by simpa using c1
    have hn:¬(s.levels.getD (gi s.l s.k).toNat 0=s.level-1∧s.level≤yX s.fF (gi s.l s.k) (gi s.most (gi s.l s.k))):=fun h=>by
     obtain ⟨_,_,h6,_⟩:=hI
     simp only [decide_eq_true_eq] at c3
     rw [←h6] at c3
     have:=h.2
     unfold yX at this
     omega
    exact G6 s _ hI (by simpa using c1) (by unfold DX;rw [if_neg hn]) rfl rfl rfl rfl rfl rfl rfl rfl rfl rfl
   ·refine au (fun c4=>?_) (fun c4=>?_)
    ·refine au (fun c5=>?_) (fun c5=>?_)
     ·refine au (fun c6=>?_) (fun c6=>?_)
      ·cases c6
      ·have c1:s.k<s.m:=by simpa using c1
       have c2:=tX hI c2
       have hp:s.levels.getD (gi s.l s.k).toNat 0=s.level-1∧s.level≤yX s.fF (gi s.l s.k) (gi s.most (gi s.l s.k)):=by
        refine ⟨c2,?_⟩
        have h6:=hI.2.2.1
        simp only [decide_eq_false_iff_not] at c3
        rw [←h6] at c3
        unfold yX
        omega
       have hE:=uK hI c1 c2
       obtain ⟨m1,m2,_⟩:=kY hI c1 c2
       rcases sF _ hE with ⟨q1,q2⟩ |⟨q1,q2,q3⟩
       ·rw [q1] at c4
        cases c4
       ·rw [m1] at q3
        have q3:((iy s).getD (gi s.l s.k).toNat []).all (Bg s.bI s.sums (MV s.fF s.bg (gi s.l s.k) s.level))=false:=q3
        exact G6 s _ hI (by simpa using c1) (by unfold DX;rw [if_pos hp,if_neg (by rw [q3];simp)]) rfl rfl rfl rfl rfl rfl rfl rfl rfl rfl
     ·refine au (fun c6=>?_) (fun c6=>?_)
      ·have c1:s.k<s.m:=by simpa using c1
       have c2:=tX hI c2
       have hp:s.levels.getD (gi s.l s.k).toNat 0=s.level-1∧s.level≤yX s.fF (gi s.l s.k) (gi s.most (gi s.l s.k)):=by
        refine ⟨c2,?_⟩
        have h6:=hI.2.2.1
        simp only [decide_eq_false_iff_not] at c3
        rw [←h6] at c3
        unfold yX
        omega
       have hE:=uK hI c1 c2
       obtain ⟨m1,m2,_⟩:=kY hI c1 c2
       rcases sF _ hE with ⟨q1,q2⟩ |⟨q1,q2,q3⟩
       ·rw [q1] at c4
        cases c4
       ·rw [q2] at c5
        cases c5
      ·have c1:s.k<s.m:=by simpa using c1
       have c2:=tX hI c2
       have hp:s.levels.getD (gi s.l s.k).toNat 0=s.level-1∧s.level≤yX s.fF (gi s.l s.k) (gi s.most (gi s.l s.k)):=by
        refine ⟨c2,?_⟩
        have h6:=hI.2.2.1
        simp only [decide_eq_false_iff_not] at c3
        rw [←h6] at c3
        unfold yX
        omega
       have hE:=uK hI c1 c2
       obtain ⟨m1,m2,_⟩:=kY hI c1 c2
       rcases sF _ hE with ⟨q1,q2⟩ |⟨q1,q2,q3⟩
       ·rw [q1] at c4
        cases c4
       ·rw [q2] at c5
        cases c5
    ·refine au (fun c5=>?_) (fun c5=>?_)
     ·refine au (fun c6=>?_) (fun c6=>?_)
      ·cases c5
      ·cases c5
     ·refine au (fun c6=>?_) (fun c6=>?_)
      ·have c1:s.k<s.m:=by simpa using c1
       have c2:=tX hI c2
       have hp:s.levels.getD (gi s.l s.k).toNat 0=s.level-1∧s.level≤yX s.fF (gi s.l s.k) (gi s.most (gi s.l s.k)):=by
        refine ⟨c2,?_⟩
        have h6:=hI.2.2.1
        simp only [decide_eq_false_iff_not] at c3
        rw [←h6] at c3
        unfold yX
        omega
       have hE:=uK hI c1 c2
       obtain ⟨m1,m2,_⟩:=kY hI c1 c2
       have hR:=Pz hI c1 c2
       rcases sF _ hE with ⟨q1,q2⟩ |⟨q1,q2,q3⟩
       ·rw [m1] at q2
        have q2:((iy s).getD (gi s.l s.k).toNat []).all (Bg s.bI s.sums (MV s.fF s.bg (gi s.l s.k) s.level))=true:=q2
        have r1:=aha _ hR
        rw [m2] at r1
        have r1:(kV (mP s)).sums=zM s.sums (MV s.fF s.bg (gi s.l s.k) s.level) ((iy s).getD (gi s.l s.k).toNat []):=r1
        have w1:=(Uz hI c2).1
        exact G6 s _ hI (by simpa using c1) (by unfold DX;rw [if_pos hp,if_pos q2,←r1,←w1]) rfl rfl rfl rfl rfl rfl rfl rfl rfl rfl
       ·rw [q1] at c4
        cases c4
      ·cases c6
 ·have c1:s.m≤s.k:=by simpa using c1
  have h0:=hI.1
  exact ⟨rfl,by omega⟩
def KX:bQ gq:=⟨0,129,[2,3,4,12,14,15,16,66,67,68],[],aFP,aEM,fun v b=>⟨aQ (.int .i64) (v.getD 0 .junk),aQ (.int .i64) (v.getD 1 .junk),gI (v.getD 3 .junk),gI (v.getD 5 .junk),yF (v.getD 6 .junk),aQ (.int .i64) (v.getD 7 .junk),gI (v.getD 8 .junk),gI (v.getD 9 .junk),aQ eu (aV (aO b 0) 0),aQ .str (aV (aO b 0) 1),aQ eG (aV (aO b 0) 2),aQ dK (aV (aO b 0) 3),aQ eP (aV (aO b 0) 4),aQ eu (aV (aO b 1) 0),aQ .str (aV (aO b 1) 1),aQ eG (aV (aO b 1) 2),aQ dK (aV (aO b 1) 3),aQ eP (aV (aO b 1) 4),aQ GY (aV (aO b 1) 5),aQ (.int .i64) (aV (aO b 1) 6),aQ (.int .i64) (aV (aO b 1) 7),aQ (.int .i64) (aV (aO b 1) 8),aQ (.int .i64) (aV (aO b 1) 9),aQ (.int .i64) (aV (aO b 1) 10),aQ (.int .i64) (aV (aO b 1) 11),aQ (.int .i64) (aV (aO b 1) 12),aQ (.int .i64) (aV (aO b 1) 13),aQ (.int .i64) (aV (aO b 1) 14),aQ (.int .i64) (aV (aO b 1) 15),aQ (.int .i64) (aV (aO b 1) 16),aQ (.int .i64) (aV (aO b 1) 17),aQ (.int .i64) (aV (aO b 1) 18),aQ (.int .i64) (aV (aO b 1) 19),aQ (.int .i64) (aV (aO b 1) 20),aQ (.int .i64) (aV (aO b 1) 21),aQ (.int .i64) (aV (aO b 1) 23),jd (.int .i64) (aO b 2),jd (.int .i64) (aO b 3)⟩,TL,fun s r=> {r with most:=s.most,order:=s.order,n:=s.n,level:=s.level,l:=s.l,m:=s.m,af:=s.af,aA:=s.aA,ai:=s.ai,ak:=s.ak,aJ:=s.aJ,zk:=s.zk,zh:=s.zh,zi:=s.zi,fF:=s.fF,zl:=s.zl,bI:=s.bI,jB:=s.jB,jA:=s.jA,jy:=s.jy,jw:=s.jw,jv:=s.jv,jr:=s.jr,jq:=s.jq,jo:=s.jo,jm:=s.jm,jl:=s.jl,dU:=s.dU,dS:=s.dS,dR:=s.dR,dQ:=s.dQ,dP:=s.dP,dO:=s.dO,bg:=s.bg},fun s=>s,fun _ s=>s,[.exit 2],OX,oq,wP⟩
abbrev fC:=KX.run
abbrev arx:=KX.jU
abbrev aAv:=KX.q
set_option maxRecDepth 100000 in
set_option maxHeartbeats 4000000 in
theorem aw2 (s:gq) (hI:oq s):(TL s).all (fun _=>True):=by
 refine ⟨fun c1=>⟨?_,?_,?_,fun c2=>⟨⟨rfl,rfl⟩,⟨rfl,rfl⟩,trivial⟩,fun c2=>⟨?_,?_,?_,fun c3=>⟨⟨rfl,rfl⟩,⟨rfl,rfl⟩,trivial⟩,fun c3=>⟨?_,?_,?_,?_,?_,?_,?_,?_,⟨rfl,rfl⟩,⟨rfl,rfl⟩,?_,fun c4=>⟨fun c5=>⟨fun c6=>⟨⟨rfl,rfl⟩,⟨rfl,rfl⟩,trivial⟩,fun c6=>⟨⟨rfl,rfl⟩,⟨rfl,rfl⟩,trivial⟩⟩,fun c5=>⟨?_,⟨rfl,rfl⟩,⟨rfl,rfl⟩,?_,?_,?_,fun c7=>⟨⟨rfl,rfl⟩,?_,trivial⟩,fun c7=>⟨⟨rfl,rfl⟩,?_,trivial⟩⟩⟩,fun c4=>⟨fun c8=>⟨fun c9=>⟨⟨rfl,rfl⟩,⟨rfl,rfl⟩,trivial⟩,fun c9=>⟨⟨rfl,rfl⟩,⟨rfl,rfl⟩,trivial⟩⟩,fun c8=>⟨?_,⟨rfl,rfl⟩,⟨rfl,rfl⟩,?_,?_,?_,fun c10=>⟨⟨rfl,rfl⟩,?_,trivial⟩,fun c10=>⟨⟨rfl,rfl⟩,?_,trivial⟩⟩⟩⟩⟩⟩,fun c1=>⟨⟨rfl,rfl⟩,⟨rfl,rfl⟩,trivial⟩⟩
 ·(have:=hI.1;have:=hI.2.1.1;simp only [decide_eq_true_eq] at c1;omega)
 iterate 9 · (have hx:=vP s hI (by simpa using c1);omega)
 ·(have hx:=vP s hI (by simpa using c1);obtain ⟨w1,w2⟩:=Uz hI (tX hI c2);have hh:=fZ.1 (hI.2.2.2.1.has _ hx.1);have hb:=hI.2.1;(first|rw [w2] |rw [w1]);omega)
 ·(have hx:=vP s hI (by simpa using c1);omega)
 ·(have hx:=vP s hI (by simpa using c1);obtain ⟨w1,w2⟩:=Uz hI (tX hI c2);have hh:=fZ.1 (hI.2.2.2.1.has _ hx.1);have hb:=hI.2.1;(first|rw [w2] |rw [w1]);omega)
 ·(have hx:=vP s hI (by simpa using c1);omega)
 ·exact ⟨uK hI (by simpa using c1) (tX hI c2),rfl,rfl⟩
 ·(have hx:=vP s hI (by simpa using c1);omega)
 ·exact ⟨Pz hI (by simpa using c1) (tX hI c2),rfl,rfl⟩
 iterate 2 · (have hx:=vP s hI (by simpa using c1);omega)
 iterate 2 · exact ⟨rfl,by simp⟩
 ·(have hx:=vP s hI (by simpa using c1);omega)
 ·exact ⟨Pz hI (by simpa using c1) (tX hI c2),rfl,rfl⟩
 iterate 2 · (have hx:=vP s hI (by simpa using c1);omega)
 iterate 2 · exact ⟨rfl,by simp⟩
noncomputable def acz:Specs:=bf [(24,oI),(61,qX),(94,qW),(96,qV)]
theorem akK:∀g S,acz g=some S→Valid Tryz.prog aS g S:=aT (l:=[(24,oI),(61,qX),(94,qW),(96,qV)]) ⟨DR,Ij,Ii,Ih,trivial⟩
noncomputable def atP:Hand:=inl Tryz.prog aS acz (jX 97 4 8 (Tf.lp) (jX 93 7 2 (y9.lp) (jX 95 1 3 (xM.lp) (jX 93 1 2 (vX.lp) (kH Tryz.prog aS (acz) 20 2))))) 9
theorem aDq:cZ Tryz.prog aS atP:=bM akK (dF Tryz.func97 rfl (by kernel_rfl) XF (dF Tryz.func93 rfl (by kernel_rfl) GZ (dF Tryz.func95 rfl (by kernel_rfl) zZ (dF Tryz.func93 rfl (by kernel_rfl) xQ (dI akK))))) 9
theorem Yc:KX.Ok:=⟨fun s=>by kernel_rfl,fun s=>by kernel_rfl,fun s=>rfl,fun s t r=>rfl,fun s=>rfl,fun s=>by kernel_rfl⟩
theorem XQ:KX.Pf (aeS):=⟨aB6,fun _ _=>rfl,awK,aw2⟩
set_option maxRecDepth 100000 in
set_option maxHeartbeats 4000000 in
theorem an5:bn Tryz.prog aS (AN 0) (.loop BJ) KX.lp:=bQ.snd Yc XQ (aU (Γ:=acz) (K:=atP) (L:=aC) akK aDq BJ (fun b hb=>by rw [show aB BJ=[] by kernel_rfl] at hb;cases hb)) (fun s=>by kernel_rfl)
theorem aoX (s:gq) (hE:OX s):∃s',oq s'∧aeS (arx s) s' (fC s):=bQ.fin Yc XQ s hE
theorem agY (s:gq) (hE:OX s):(fun s:gq=>swp (iy s) s.bI s.fF s.bg s.most s.level (s.sums,s.levels,s.some) (s.l.drop s.k.toNat)) (fC s)=(fun s:gq=>swp (iy s) s.bI s.fF s.bg s.most s.level (s.sums,s.levels,s.some) (s.l.drop s.k.toNat)) s:=by
 exact bQ.uf Yc XQ (fun s:gq=>swp (iy s) s.bI s.fF s.bg s.most s.level (s.sums,s.levels,s.some) (s.l.drop s.k.toNat)) (fun s hI=>by
  show bP _ _ (acH s)
  unfold acH TL
  dsimp only [T.rd,T.rl]
  refine au (fun c1=>?_) (fun c1=>?_)
  ·refine au (fun c2=>?_) (fun c2=>?_)
   ·have c1:s.k<s.m:=by simpa using c1
    have hn:¬(s.levels.getD (gi s.l s.k).toNat 0=s.level-1∧s.level≤yX s.fF (gi s.l s.k) (gi s.most (gi s.l s.k))):=fun h=>by
     obtain ⟨_,⟨h2,h3,h4,h5⟩,_⟩:=hI
     have c2:((s.levels.getD (gi s.l s.k).toNat 0) !=(IntKind.i64.wrap (s.level-1)))=true:=c2
     rw [aN (x:=s.level-1) (by omega) (by omega)] at c2
     have c2:¬s.levels.getD (gi s.l s.k).toNat 0=s.level-1:=by simpa using c2
     exact c2 h.1
    exact G5 s _ hI (by simpa using c1) (by unfold DX;rw [if_neg hn]) rfl rfl rfl rfl rfl rfl rfl rfl rfl rfl
   ·refine au (fun c3=>?_) (fun c3=>?_)
    ·have c1:s.k<s.m:=by simpa using c1
     have hn:¬(s.levels.getD (gi s.l s.k).toNat 0=s.level-1∧s.level≤yX s.fF (gi s.l s.k) (gi s.most (gi s.l s.k))):=fun h=>by
      obtain ⟨_,_,h6,_⟩:=hI
      simp only [decide_eq_true_eq] at c3
      rw [←h6] at c3
      have:=h.2
      unfold yX at this
      omega
     exact G5 s _ hI (by simpa using c1) (by unfold DX;rw [if_neg hn]) rfl rfl rfl rfl rfl rfl rfl rfl rfl rfl
    ·refine au (fun c4=>?_) (fun c4=>?_)
     ·refine au (fun c5=>?_) (fun c5=>?_)
      ·refine au (fun c6=>?_) (fun c6=>?_)
       ·cases c6
       ·have c1:s.k<s.m:=by simpa using c1
        have c2:=tX hI c2
        have hp:s.levels.getD (gi s.l s.k).toNat 0=s.level-1∧s.level≤yX s.fF (gi s.l s.k) (gi s.most (gi s.l s.k)):=by
         refine ⟨c2,?_⟩
         have h6:=hI.2.2.1
         simp only [decide_eq_false_iff_not] at c3
         rw [←h6] at c3
         unfold yX
         omega
        have hE:=uK hI c1 c2
        obtain ⟨m1,m2,_⟩:=kY hI c1 c2
        rcases sF _ hE with ⟨q1,q2⟩ |⟨q1,q2,q3⟩
        ·rw [q1] at c4
         cases c4
        ·rw [m1] at q3
         have q3:((iy s).getD (gi s.l s.k).toNat []).all (Bg s.bI s.sums (MV s.fF s.bg (gi s.l s.k) s.level))=false:=q3
         exact G5 s _ hI (by simpa using c1) (by unfold DX;rw [if_pos hp,if_neg (by rw [q3];simp)]) rfl rfl rfl rfl rfl rfl rfl rfl rfl rfl
      ·refine au (fun c6=>?_) (fun c6=>?_)
       ·have c1:s.k<s.m:=by simpa using c1
        have c2:=tX hI c2
        have hp:s.levels.getD (gi s.l s.k).toNat 0=s.level-1∧s.level≤yX s.fF (gi s.l s.k) (gi s.most (gi s.l s.k)):=by
         refine ⟨c2,?_⟩
         have h6:=hI.2.2.1
         simp only [decide_eq_false_iff_not] at c3
         rw [←h6] at c3
         unfold yX
         omega
        have hE:=uK hI c1 c2
        obtain ⟨m1,m2,_⟩:=kY hI c1 c2
        rcases sF _ hE with ⟨q1,q2⟩ |⟨q1,q2,q3⟩
        ·rw [q1] at c4
         cases c4
        ·rw [q2] at c5
         cases c5
       ·have c1:s.k<s.m:=by simpa using c1
        have c2:=tX hI c2
        have hp:s.levels.getD (gi s.l s.k).toNat 0=s.level-1∧s.level≤yX s.fF (gi s.l s.k) (gi s.most (gi s.l s.k)):=by
         refine ⟨c2,?_⟩
         have h6:=hI.2.2.1
         simp only [decide_eq_false_iff_not] at c3
         rw [←h6] at c3
         unfold yX
         omega
        have hE:=uK hI c1 c2
        obtain ⟨m1,m2,_⟩:=kY hI c1 c2
        rcases sF _ hE with ⟨q1,q2⟩ |⟨q1,q2,q3⟩
        ·rw [q1] at c4
         cases c4
        ·rw [q2] at c5
         cases c5
     ·refine au (fun c5=>?_) (fun c5=>?_)
      ·refine au (fun c6=>?_) (fun c6=>?_)
       ·cases c5
       ·cases c5
      ·refine au (fun c6=>?_) (fun c6=>?_)
       ·have c1:s.k<s.m:=by simpa using c1
        have c2:=tX hI c2
        have hp:s.levels.getD (gi s.l s.k).toNat 0=s.level-1∧s.level≤yX s.fF (gi s.l s.k) (gi s.most (gi s.l s.k)):=by
         refine ⟨c2,?_⟩
         have h6:=hI.2.2.1
         simp only [decide_eq_false_iff_not] at c3
         rw [←h6] at c3
         unfold yX
         omega
        have hE:=uK hI c1 c2
        obtain ⟨m1,m2,_⟩:=kY hI c1 c2
        have hR:=Pz hI c1 c2
        rcases sF _ hE with ⟨q1,q2⟩ |⟨q1,q2,q3⟩
        ·rw [m1] at q2
         have q2:((iy s).getD (gi s.l s.k).toNat []).all (Bg s.bI s.sums (MV s.fF s.bg (gi s.l s.k) s.level))=true:=q2
         have r1:=aha _ hR
         rw [m2] at r1
         have r1:(kV (mP s)).sums=zM s.sums (MV s.fF s.bg (gi s.l s.k) s.level) ((iy s).getD (gi s.l s.k).toNat []):=r1
         have w1:=(Uz hI c2).1
         exact G5 s _ hI (by simpa using c1) (by unfold DX;rw [if_pos hp,if_pos q2,←r1,←w1]) rfl rfl rfl rfl rfl rfl rfl rfl rfl rfl
        ·rw [q1] at c4
         cases c4
       ·cases c6
  ·rfl) s hE
theorem aoW (s:gq) (hE:OX s):((fC s).sums,(fC s).levels,(fC s).some)=swp (iy s) s.bI s.fF s.bg s.most s.level (s.sums,s.levels,s.some) s.l:=by
 have q3:=agY s hE
 obtain ⟨s',hI,q1,q2⟩:=aoX s hE
 obtain ⟨h0,h1,_⟩:=hE
 simp only at q3
 rw [q2,show (fC s).m=s.m from rfl,show (fC s).l=s.l from rfl,List.drop_eq_nil_of_le (by omega),h0] at q3
 exact q3
end Go.Proofs.YtlihnbimgclogaaGreatDoor
namespace Go.Proofs.YtlihnbimgclogaaGreatDoor
open Go.Sx
structure lY where
 most:List Int
 order:List Int
 n:Int
 level:Int
 af:List Cd
 aA:List ByteArray
 ai:List Ko
 ak:List Ch
 aJ:List Ba
 zk:List Cd
 zh:List ByteArray
 zi:List Ko
 fF:List Ch
 zl:List Ba
 bI:List Rw
 jB:List Int
 jA:List Int
 jy:List Int
 jw:List Int
 jv:List Int
 jr:List Int
 jq:List Int
 jo:List Int
 jm:List Int
 jl:List Int
 dU:List Int
 dS:List Int
 dR:List Int
 dQ:List Int
 dP:List Int
 dO:List Int
 bg:List Int
 sums:List Int
 levels:List Int
def aFO (s:lY):List LV:=[.xl (.int .i64) s.most,.xl (.int .i64) s.order,.own 0 0,.v (.int .i64 s.n),.own 1 0,.v (.int .i64 s.level)]
def aEL (s:lY):List aW:=[⟨[.xl eu s.af,.xl .str s.aA,.xl eG s.ai,.xl dK s.ak,.xl eP s.aJ],28,.cl,false⟩,⟨[.xl eu s.zk,.xl .str s.zh,.xl eG s.zi,.xl dK s.fF,.xl eP s.zl,.xl GY s.bI,.xl (.int .i64) s.jB,.xl (.int .i64) s.jA,.xl (.int .i64) s.jy,.xl (.int .i64) s.jw,.xl (.int .i64) s.jv,.xl (.int .i64) s.jr,.xl (.int .i64) s.jq,.xl (.int .i64) s.jo,.xl (.int .i64) s.jm,.xl (.int .i64) s.jl,.xl (.int .i64) s.dU,.xl (.int .i64) s.dS,.xl (.int .i64) s.dR,.xl (.int .i64) s.dQ,.xl (.int .i64) s.dP,.xl (.int .i64) s.dO,.os 2 1 0 (List.length s.sums),.xl (.int .i64) s.bg,.os 3 1 0 (List.length s.levels)],148,.cl,false⟩,⟨[],3,.vec (.int .i64) s.sums,false⟩,⟨[],3,.vec (.int .i64) s.levels,false⟩]
noncomputable def JM:Code:=((aB (Tryz.f52.body.getD .skip))[0]?).getD .skip
def gV (s:lY):gq:=(⟨s.most,s.order,s.n,s.level,false,s.order,(List.length s.order:Int),(0:Int),s.af,s.aA,s.ai,s.ak,s.aJ,s.zk,s.zh,s.zi,s.fF,s.zl,s.bI,s.jB,s.jA,s.jy,s.jw,s.jv,s.jr,s.jq,s.jo,s.jm,s.jl,s.dU,s.dS,s.dR,s.dQ,s.dP,s.dO,s.bg,s.sums,s.levels⟩:gq)
def TK (s:lY):T (Rd lY):=
 .rl s.sums (.rl s.levels (.req (aAv (gV s)) (.br (!(fC (gV s)).some) (.rl (fC (gV s)).sums (.rl (fC (gV s)).levels (.ok (.stop (.exit 0) {s with sums:=(fC (gV s)).sums,levels:=(fC (gV s)).levels})))) (.rl (fC (gV s)).sums (.rl (fC (gV s)).levels (.ok (.next {s with level:=(IntKind.i64.wrap (s.level+1)),sums:=(fC (gV s)).sums,levels:=(fC (gV s)).levels})))))))
abbrev acG (s:lY):=(TK s).rd s
def uq (s:lY):List (List Int):=[s.jB,s.jA,s.jy,s.jw,s.jv,s.jr,s.jq,s.jo,s.jm,s.jl,s.dU,s.dS,s.dR,s.dQ,s.dP,s.dO]
def ae0 (s:lY):Prop:=s.level=1∧(s.order.length:Int)≤1000∧s.fF=s.ak∧OkT (uq s) s.bI s.fF s.bg s.most s.order∧OkS s.bI s.order s.sums s.levels
def Ky (s:lY):Prop:=(1≤s.level∧s.level≤81)∧(s.order.length:Int)≤1000∧s.fF=s.ak∧OkT (uq s) s.bI s.fF s.bg s.most s.order∧OkS s.bI s.order s.sums s.levels
def P7 (s:lY):Nat:=(82-s.level).toNat
def avh (x:Ex) (_ _:lY):Prop:=x=.exit 0
theorem aB5:∀s,ae0 s→Ky s:=by
 intro s h
 obtain ⟨h0,h1⟩:=h
 exact ⟨by omega,h1⟩
theorem agV (s:lY) (hI:Ky s):OX (gV s):=by
 obtain ⟨⟨h0,h1⟩,h2,h3,hT,hS⟩:=hI
 exact ⟨rfl,⟨rfl,h2,h0,h1⟩,h3,hT,hS⟩
theorem as1 (s:lY) (hI:Ky s):((fC (gV s)).sums,(fC (gV s)).levels,(fC (gV s)).some)=swp (uq s) s.bI s.fF s.bg s.most s.level (s.sums,s.levels,false) s.order:=aoW _ (agV s hI)
theorem awJ (s:lY) (hI:Ky s):bP (fun s'=>Ky s'∧P7 s'<P7 s) (fun x s'=>avh x s s') (acG s):=by
 unfold acG TK
 dsimp only [T.rd,T.rl]
 have hr:=as1 s hI
 obtain ⟨⟨h0,h1⟩,h2,h3,hT,hS⟩:=hI
 refine au (fun c1=>rfl) (fun c1=>?_)
 have c1:(fC (gV s)).some=true:=by simpa using c1
 have hk:=XD hT h0 h1 s.order (s.sums,s.levels,false) (fun _ h=>h) hS
 have hs:=zX (O:=uq s) (rows:=s.bI) (gs:=s.fF) (alive:=s.bg) (most:=s.most) (level:=s.level) s.order (s.sums,s.levels,false)
 rw [←hr] at hk hs
 have h80:s.level≤80:=by
  rcases hs c1 with h|h
  ·cases h
  ·exact h
 rw [aN (x:=s.level+1) (by omega) (by omega)]
 exact ⟨⟨⟨by simp only;omega,by simp only;omega⟩,h2,h3,hT,hk⟩,by simp only [P7];omega⟩
def KW:bQ lY:=⟨0,129,[2,3,4,12,14,15],[.ps 14 6 (.int .i64),.ps 14 7 (.int .i64),.ps 14 8 (.int .i64),.ps 14 9 (.int .i64),.ps 14 10 (.int .i64),.ps 14 11 (.int .i64),.ps 14 12 (.int .i64),.ps 14 13 (.int .i64),.ps 14 14 (.int .i64),.ps 14 15 (.int .i64),.ps 14 16 (.int .i64),.ps 14 17 (.int .i64),.ps 14 18 (.int .i64),.ps 14 19 (.int .i64),.ps 14 20 (.int .i64),.ps 14 21 (.int .i64)],aFO,aEL,fun v b=>⟨aQ (.int .i64) (v.getD 0 .junk),aQ (.int .i64) (v.getD 1 .junk),gI (v.getD 3 .junk),gI (v.getD 5 .junk),aQ eu (aV (aO b 0) 0),aQ .str (aV (aO b 0) 1),aQ eG (aV (aO b 0) 2),aQ dK (aV (aO b 0) 3),aQ eP (aV (aO b 0) 4),aQ eu (aV (aO b 1) 0),aQ .str (aV (aO b 1) 1),aQ eG (aV (aO b 1) 2),aQ dK (aV (aO b 1) 3),aQ eP (aV (aO b 1) 4),aQ GY (aV (aO b 1) 5),aQ (.int .i64) (aV (aO b 1) 6),aQ (.int .i64) (aV (aO b 1) 7),aQ (.int .i64) (aV (aO b 1) 8),aQ (.int .i64) (aV (aO b 1) 9),aQ (.int .i64) (aV (aO b 1) 10),aQ (.int .i64) (aV (aO b 1) 11),aQ (.int .i64) (aV (aO b 1) 12),aQ (.int .i64) (aV (aO b 1) 13),aQ (.int .i64) (aV (aO b 1) 14),aQ (.int .i64) (aV (aO b 1) 15),aQ (.int .i64) (aV (aO b 1) 16),aQ (.int .i64) (aV (aO b 1) 17),aQ (.int .i64) (aV (aO b 1) 18),aQ (.int .i64) (aV (aO b 1) 19),aQ (.int .i64) (aV (aO b 1) 20),aQ (.int .i64) (aV (aO b 1) 21),aQ (.int .i64) (aV (aO b 1) 23),jd (.int .i64) (aO b 2),jd (.int .i64) (aO b 3)⟩,TK,fun s r=> {r with most:=s.most,order:=s.order,n:=s.n,af:=s.af,aA:=s.aA,ai:=s.ai,ak:=s.ak,aJ:=s.aJ,zk:=s.zk,zh:=s.zh,zi:=s.zi,fF:=s.fF,zl:=s.zl,bI:=s.bI,jB:=s.jB,jA:=s.jA,jy:=s.jy,jw:=s.jw,jv:=s.jv,jr:=s.jr,jq:=s.jq,jo:=s.jo,jm:=s.jm,jl:=s.jl,dU:=s.dU,dS:=s.dS,dR:=s.dR,dQ:=s.dQ,dP:=s.dP,dO:=s.dO,bg:=s.bg},fun s=>s,fun _ s=>s,[.exit 0],ae0,Ky,P7⟩
abbrev iW:=KW.run
abbrev Tc:=KW.q
theorem aw1 (s:lY) (hI:Ky s):(TK s).all (fun _=>True):=by
 refine ⟨⟨rfl,rfl⟩,⟨rfl,rfl⟩,?_,fun c1=>⟨⟨rfl,rfl⟩,⟨rfl,rfl⟩,trivial⟩,fun c1=>⟨⟨rfl,rfl⟩,⟨rfl,rfl⟩,trivial⟩⟩
 ·exact ⟨agV s hI,rfl,rfl⟩
noncomputable def Vo:Specs:=bf [(24,oI),(61,qX),(94,qW),(96,qV)]
theorem acr:∀g S,Vo g=some S→Valid Tryz.prog aS g S:=aT (l:=[(24,oI),(61,qX),(94,qW),(96,qV)]) ⟨DR,Ij,Ii,Ih,trivial⟩
noncomputable def aku:Hand:=inl Tryz.prog aS Vo (jX 97 4 8 (Tf.lp) (jX 93 7 2 (y9.lp) (jX 95 1 3 (xM.lp) (jX 93 1 2 (vX.lp) (kH Tryz.prog aS (Vo) 20 2))))) 9
theorem atD:cZ Tryz.prog aS aku:=bM acr (dF Tryz.func97 rfl (by kernel_rfl) XF (dF Tryz.func93 rfl (by kernel_rfl) GZ (dF Tryz.func95 rfl (by kernel_rfl) zZ (dF Tryz.func93 rfl (by kernel_rfl) xQ (dI acr))))) 9
theorem aiE:KW.Ok:=⟨fun s=>by kernel_rfl,fun s=>by kernel_rfl,fun s=>rfl,fun s t r=>rfl,fun s=>rfl,fun s=>by kernel_rfl⟩
theorem ahw:KW.Pf (avh):=⟨aB5,fun _ _=>rfl,awJ,aw1⟩
theorem an4:bn Tryz.prog aS (AN 0) (.loop JM) KW.lp:=bQ.snd aiE ahw (aU (Γ:=Vo) (K:=aku) (L:=(fun i=>if i=13 then KX.lp else aC i)) acr atD JM (fun b hb=>by
 rw [show aB _=[BJ] by kernel_rfl] at hb
 simp only [List.mem_cons,List.not_mem_nil,or_false] at hb
 subst hb
 exact an5)) (fun s=>by kernel_rfl)
theorem aoV (s:lY) (hE:ae0 s):(iW s).levels=shl (uq s) s.bI s.fF s.bg s.most s.order 81 1 s.sums s.levels:=by
 have hk:=bQ.ul aiE ahw (V:=fun s:lY=>shl (uq s) s.bI s.fF s.bg s.most s.order (82-s.level).toNat s.level s.sums s.levels) (K:=fun _ s' v=>s'.levels=v) (fun s hI=>by
  have hr:=as1 s hI
  have hs:=zX (O:=uq s) (rows:=s.bI) (gs:=s.fF) (alive:=s.bg) (most:=s.most) (level:=s.level) s.order (s.sums,s.levels,false)
  obtain ⟨⟨h0,h1⟩,h2,h3,hT,hS⟩:=hI
  rw [←hr] at hs
  have hf:(82-s.level).toNat=(81-s.level).toNat+1:=by omega
  show bP _ _ (acG s)
  unfold acG TK
  dsimp only [T.rd,T.rl]
  refine au (fun c1=>?_) (fun c1=>?_)
  ·have c1:(fC (gV s)).some=false:=by simpa using c1
   show (fC (gV s)).levels=shl _ _ _ _ _ _ _ _ _ _
   rw [hf,shl,←hr,if_neg (by simp only [c1];simp)]
  ·have c1:(fC (gV s)).some=true:=by simpa using c1
   have h80:s.level≤80:=by
    rcases hs c1 with h|h
    ·cases h
    ·exact h
   rw [aN (x:=s.level+1) (by omega) (by omega)]
   show shl (uq s) s.bI s.fF s.bg s.most s.order (82-(s.level+1)).toNat (s.level+1) (fC (gV s)).sums (fC (gV s)).levels=shl (uq s) s.bI s.fF s.bg s.most s.order (82-s.level).toNat s.level s.sums s.levels
   rw [hf,show 82-(s.level+1)=81-s.level by omega]
   conv=>rhs;rw [shl,←hr]
   simp only [c1,if_true]) s hE
 rw [hk,hE.1]
 rfl
structure qY where
 l:List Ch
 m:Int
 k:Int
 zk:List Cd
 zh:List ByteArray
 zi:List Ko
 fF:List Ch
 zl:List Ba
 bI:List Rw
 jB:List Int
 jA:List Int
 jy:List Int
 jw:List Int
 jv:List Int
 jr:List Int
 jq:List Int
 jo:List Int
 jm:List Int
 jl:List Int
 dU:List Int
 dS:List Int
 dR:List Int
 dQ:List Int
 dP:List Int
 dO:List Int
 bg:List Int
 out:List Int
 sums:List Int
 levels:List Int
def aFN (s:qY):List LV:=[.own 0 0,.os 1 1 0 (List.length s.out),.xl dK s.l,.v (.int .i64 s.m),.v (.int .i64 s.k)]
def aEK (s:qY):List aW:=[⟨[.xl eu s.zk,.xl .str s.zh,.xl eG s.zi,.xl dK s.fF,.xl eP s.zl,.xl GY s.bI,.xl (.int .i64) s.jB,.xl (.int .i64) s.jA,.xl (.int .i64) s.jy,.xl (.int .i64) s.jw,.xl (.int .i64) s.jv,.xl (.int .i64) s.jr,.xl (.int .i64) s.jq,.xl (.int .i64) s.jo,.xl (.int .i64) s.jm,.xl (.int .i64) s.jl,.xl (.int .i64) s.dU,.xl (.int .i64) s.dS,.xl (.int .i64) s.dR,.xl (.int .i64) s.dQ,.xl (.int .i64) s.dP,.xl (.int .i64) s.dO,.os 2 1 0 (List.length s.sums),.xl (.int .i64) s.bg,.os 3 1 0 (List.length s.levels)],148,.cl,false⟩,⟨[],3,.vec (.int .i64) s.out,false⟩,⟨[],3,.vec (.int .i64) s.sums,false⟩,⟨[],3,.vec (.int .i64) s.levels,false⟩]
noncomputable def BI:Code:=((aB (Tryz.f52.body.getD .skip))[1]?).getD .skip
def aaK (s:qY):T (Rd qY):=
 .br (decide (s.k<s.m)) (.req (0≤s.k∧s.k<(List.length s.l:Int)) (.req (0≤s.k∧s.k<((List.length s.levels:Nat):Int)) (.req (s.k.toNat<List.length s.levels) (.req ((1≤(bD s.l s.k).2.2.2.1∧(bD s.l s.k).2.2.2.1≤80∧1≤(bD s.l s.k).2.2.2.2.2.1∧(bD s.l s.k).2.2.2.2.2.1≤80)∧0≤(s.levels.getD s.k.toNat (Ty.dflt (.int .i64)))∧(s.levels.getD s.k.toNat (Ty.dflt (.int .i64)))≤1000) (.req (0≤s.k∧s.k<((List.length s.out:Nat):Int)) (.req (s.k.toNat<List.length s.out) (.req (0=0∧(List.length s.out)=List.length (s.out.set s.k.toNat (DN (bD s.l s.k).2.2.2.1 (bD s.l s.k).2.2.2.2.2.1 (s.levels.getD s.k.toNat (Ty.dflt (.int .i64)))))) (.rl s.sums (.rl s.levels (.ok (.next {s with k:=(IntKind.i64.wrap (s.k+1)),out:=(s.out.set s.k.toNat (DN (bD s.l s.k).2.2.2.1 (bD s.l s.k).2.2.2.2.2.1 (s.levels.getD s.k.toNat (Ty.dflt (.int .i64)))))}))))))))))) (.rl s.out (.rl s.sums (.rl s.levels (.ok (.stop (.exit 4) s)))))
abbrev auE (s:qY):=(aaK s).rd s
def aeZ (s:qY):Prop:=s.k=0∧s.out=List.replicate s.l.length 0∧(s.m=(s.l.length:Int)∧s.m≤1000∧s.levels.length=s.l.length)∧(∀k:Int,0≤k→k<s.m→nD (bD s.l k).2.2.2.1 (bD s.l k).2.2.2.2.1 (bD s.l k).2.2.2.2.2.1=true)∧(∀k:Nat,0≤s.levels.getD k 0∧s.levels.getD k 0≤80)
def NZ (s:qY):Prop:=(0≤s.k∧s.k≤s.m)∧s.out=Zt s.l s.levels s.k.toNat++List.replicate (s.l.length-s.k.toNat) 0∧(s.m=(s.l.length:Int)∧s.m≤1000∧s.levels.length=s.l.length)∧(∀k:Int,0≤k→k<s.m→nD (bD s.l k).2.2.2.1 (bD s.l k).2.2.2.2.1 (bD s.l k).2.2.2.2.2.1=true)∧(∀k:Nat,0≤s.levels.getD k 0∧s.levels.getD k 0≤80)
def P6 (s:qY):Nat:=(s.m-s.k).toNat
def amo (x:Ex) (_ s':qY):Prop:=x=.exit 4∧s'.out=pO s'.l s'.levels
theorem aB4:∀s,aeZ s→NZ s:=by
 intro s h
 obtain ⟨h0,h1,h2⟩:=h
 exact ⟨by have:=h2.1;omega,by rw [h0,h1];rfl,h2⟩
theorem awI (s:qY) (hI:NZ s):bP (fun s'=>NZ s'∧P6 s'<P6 s) (fun x s'=>amo x s s') (auE s):=by
 unfold auE aaK
 dsimp only [T.rd,T.rl]
 obtain ⟨⟨h0,h1⟩,h2,⟨h3,h4,h5⟩,h6,h7⟩:=hI
 refine au (fun c1=>?_) (fun c1=>?_)
 ·have c1:s.k<s.m:=by simpa using c1
  rw [aN (x:=s.k+1) (by omega) (by omega)]
  refine ⟨⟨⟨by simp only;omega,by simp only;omega⟩,?_,⟨h3,h4,h5⟩,h6,h7⟩,by simp only [P6];omega⟩
  simp only
  have e:s.l.length-s.k.toNat=(s.l.length-(s.k+1).toNat)+1:=by omega
  have hs:=abq (xs:=Zt s.l s.levels s.k.toNat) (r:=s.l.length-(s.k+1).toNat) (v:=yM s.l s.k (s.levels.getD s.k.toNat 0))
  rw [xw] at hs
  rw [h2,e,show (s.k+1).toNat=s.k.toNat+1 by omega,af7,Int.toNat_of_nonneg h0]
  rw [show (s.k+1).toNat=s.k.toNat+1 by omega] at hs
  exact hs
 ·have c1:s.m≤s.k:=by simpa using c1
  refine ⟨rfl,?_⟩
  rw [h2,show s.k.toNat=s.l.length by omega,Nat.sub_self,List.replicate_zero,List.append_nil]
  rfl
def Fv:bQ qY:=⟨0,129,[14,19,108,109,110],[],aFN,aEK,fun v b=>⟨aQ dK (v.getD 2 .junk),gI (v.getD 3 .junk),gI (v.getD 4 .junk),aQ eu (aV (aO b 0) 0),aQ .str (aV (aO b 0) 1),aQ eG (aV (aO b 0) 2),aQ dK (aV (aO b 0) 3),aQ eP (aV (aO b 0) 4),aQ GY (aV (aO b 0) 5),aQ (.int .i64) (aV (aO b 0) 6),aQ (.int .i64) (aV (aO b 0) 7),aQ (.int .i64) (aV (aO b 0) 8),aQ (.int .i64) (aV (aO b 0) 9),aQ (.int .i64) (aV (aO b 0) 10),aQ (.int .i64) (aV (aO b 0) 11),aQ (.int .i64) (aV (aO b 0) 12),aQ (.int .i64) (aV (aO b 0) 13),aQ (.int .i64) (aV (aO b 0) 14),aQ (.int .i64) (aV (aO b 0) 15),aQ (.int .i64) (aV (aO b 0) 16),aQ (.int .i64) (aV (aO b 0) 17),aQ (.int .i64) (aV (aO b 0) 18),aQ (.int .i64) (aV (aO b 0) 19),aQ (.int .i64) (aV (aO b 0) 20),aQ (.int .i64) (aV (aO b 0) 21),aQ (.int .i64) (aV (aO b 0) 23),jd (.int .i64) (aO b 1),jd (.int .i64) (aO b 2),jd (.int .i64) (aO b 3)⟩,aaK,fun s r=> {r with l:=s.l,m:=s.m,zk:=s.zk,zh:=s.zh,zi:=s.zi,fF:=s.fF,zl:=s.zl,bI:=s.bI,jB:=s.jB,jA:=s.jA,jy:=s.jy,jw:=s.jw,jv:=s.jv,jr:=s.jr,jq:=s.jq,jo:=s.jo,jm:=s.jm,jl:=s.jl,dU:=s.dU,dS:=s.dS,dR:=s.dR,dQ:=s.dQ,dP:=s.dP,dO:=s.dO,bg:=s.bg,sums:=s.sums,levels:=s.levels},fun s=>s,fun _ s=>s,[.exit 4],aeZ,NZ,P6⟩
abbrev iG:=Fv.run
abbrev arw:=Fv.jU
abbrev S9:=Fv.q
theorem aw0 (s:qY) (hI:NZ s):(aaK s).all (fun _=>True):=by
 refine ⟨fun c1=>⟨?_,?_,?_,?_,?_,?_,?_,⟨rfl,rfl⟩,⟨rfl,rfl⟩,trivial⟩,fun c1=>⟨⟨rfl,rfl⟩,⟨rfl,rfl⟩,⟨rfl,rfl⟩,trivial⟩⟩
 iterate 3 · (obtain ⟨⟨h0,h1⟩,h2,⟨h3,h4,h5⟩,h6,h7⟩:=hI;(try simp only [decide_eq_true_eq] at c1);have hl:s.out.length=s.l.length:=(by rw [h2,List.length_append,xw,List.length_replicate];omega);first|omega|exact ⟨rfl,by simp⟩ |exact ⟨rfl,rfl⟩)
 ·(have hh:=fZ.1 (hI.2.2.2.1 s.k hI.1.1 (by simpa using c1));have hb:=hI.2.2.2.2 s.k.toNat;refine ⟨by omega,?_⟩;show 0≤s.levels.getD s.k.toNat 0∧s.levels.getD s.k.toNat 0≤1000;omega)
 iterate 3 · (obtain ⟨⟨h0,h1⟩,h2,⟨h3,h4,h5⟩,h6,h7⟩:=hI;(try simp only [decide_eq_true_eq] at c1);have hl:s.out.length=s.l.length:=(by rw [h2,List.length_append,xw,List.length_replicate];omega);first|omega|exact ⟨rfl,by simp⟩ |exact ⟨rfl,rfl⟩)
theorem aiD:Fv.Ok:=⟨fun s=>by kernel_rfl,fun s=>by kernel_rfl,fun s=>rfl,fun s t r=>rfl,fun s=>rfl,fun s=>by kernel_rfl⟩
theorem ahv:Fv.Pf (amo):=⟨aB4,fun _ _=>rfl,awI,aw0⟩
theorem an3:bn Tryz.prog aS (AN 0) (.loop BI) Fv.lp:=bQ.snd aiD ahv (aU (Γ:=Vo) (K:=aku) (L:=aC) acr atD BI (fun b hb=>by rw [show aB BI=[] by kernel_rfl] at hb;cases hb)) (fun s=>by kernel_rfl)
theorem aoU (s:qY) (hE:aeZ s):∃s',NZ s'∧amo (arw s) s' (iG s):=bQ.fin aiD ahv s hE
end Go.Proofs.YtlihnbimgclogaaGreatDoor
namespace Go.Proofs.YtlihnbimgclogaaGreatDoor
open Go.Sx
def adZ:List LV→T LV
 | [.agg [.xl (.pair .str (.pair (.int .i64) (.pair (.int .i64) (.pair (.int .i64) (.pair (.pair (.int .i64) (.int .i64)) (.pair (.int .i64) (.pair (.int .i64) (.pair (.int .i64) (.pair (.int .i64) (.int .i64)))))))))) cs,.xl (.str) os,.xl (.pair .str (.pair (.int .i64) (.pair (.int .i64) (.int .i64)))) ks,.xl (.pair .str (.pair (.int .i64) (.pair (.int .i64) (.pair (.int .i64) (.pair (.int .i64) (.pair (.int .i64) (.pair (.int .i64) (.int .i64)))))))) gs,.xl (.pair .str (.int .i64)) bs],.xl (.int .i64) al,.xl (.int .i64) mo,.xl (.int .i64) od]=> .ok (.gQ [.xl (.int .i64) (yP cs os ks gs bs al mo od),.v (.int .i64 (shE cs os ks gs bs al mo od))])
 |_=> .no
noncomputable def JZ:List LV→T LV:=gZ Tryz.prog Tryz.f52.params.toList adZ
def ay (cs:List Cd) (os:List ByteArray) (ks:List Ko) (gs:List Ch) (bs:List Ba) (al _ _:List Int):iC:=(⟨al,(iL cs os ks gs bs),(List.length (iL cs os ks gs bs):Int),(0:Int),cs,os,ks,gs,bs,cs,os,ks,gs,bs,(iL cs os ks gs bs),al,([]:List Int),([]:List Int),([]:List Int),([]:List Int),([]:List Int),([]:List Int),([]:List Int),([]:List Int),([]:List Int),([]:List Int),([]:List Int),([]:List Int),([]:List Int),([]:List Int),([]:List Int),([]:List Int),(List.replicate (List.length (iL cs os ks gs bs):Int).toNat (0:Int)),(List.replicate (List.length al:Int).toNat (0:Int))⟩:iC)
def fH (cs:List Cd) (os:List ByteArray) (ks:List Ko) (gs:List Ch) (bs:List Ba) (al mo od:List Int):lY:=(⟨mo,od,(List.length gs:Int),(1:Int),cs,os,ks,gs,bs,cs,os,ks,gs,bs,(iL cs os ks gs bs),(((ax (ay cs os ks gs bs al mo od)).jB.drop 0).take (List.length (ax (ay cs os ks gs bs al mo od)).jB)),(((ax (ay cs os ks gs bs al mo od)).jA.drop 0).take (List.length (ax (ay cs os ks gs bs al mo od)).jA)),(((ax (ay cs os ks gs bs al mo od)).jy.drop 0).take (List.length (ax (ay cs os ks gs bs al mo od)).jy)),(((ax (ay cs os ks gs bs al mo od)).jw.drop 0).take (List.length (ax (ay cs os ks gs bs al mo od)).jw)),(((ax (ay cs os ks gs bs al mo od)).jv.drop 0).take (List.length (ax (ay cs os ks gs bs al mo od)).jv)),(((ax (ay cs os ks gs bs al mo od)).jr.drop 0).take (List.length (ax (ay cs os ks gs bs al mo od)).jr)),(((ax (ay cs os ks gs bs al mo od)).jq.drop 0).take (List.length (ax (ay cs os ks gs bs al mo od)).jq)),(((ax (ay cs os ks gs bs al mo od)).jo.drop 0).take (List.length (ax (ay cs os ks gs bs al mo od)).jo)),(((ax (ay cs os ks gs bs al mo od)).jm.drop 0).take (List.length (ax (ay cs os ks gs bs al mo od)).jm)),(((ax (ay cs os ks gs bs al mo od)).jl.drop 0).take (List.length (ax (ay cs os ks gs bs al mo od)).jl)),(((ax (ay cs os ks gs bs al mo od)).dU.drop 0).take (List.length (ax (ay cs os ks gs bs al mo od)).dU)),(((ax (ay cs os ks gs bs al mo od)).dS.drop 0).take (List.length (ax (ay cs os ks gs bs al mo od)).dS)),(((ax (ay cs os ks gs bs al mo od)).dR.drop 0).take (List.length (ax (ay cs os ks gs bs al mo od)).dR)),(((ax (ay cs os ks gs bs al mo od)).dQ.drop 0).take (List.length (ax (ay cs os ks gs bs al mo od)).dQ)),(((ax (ay cs os ks gs bs al mo od)).dP.drop 0).take (List.length (ax (ay cs os ks gs bs al mo od)).dP)),(((ax (ay cs os ks gs bs al mo od)).dO.drop 0).take (List.length (ax (ay cs os ks gs bs al mo od)).dO)),al,(ax (ay cs os ks gs bs al mo od)).sums,(List.replicate (List.length al:Int).toNat (0:Int))⟩:lY)
def gB (cs:List Cd) (os:List ByteArray) (ks:List Ko) (gs:List Ch) (bs:List Ba) (al mo od:List Int):qY:=(⟨gs,(List.length gs:Int),(0:Int),cs,os,ks,gs,bs,(iL cs os ks gs bs),(((ax (ay cs os ks gs bs al mo od)).jB.drop 0).take (List.length (ax (ay cs os ks gs bs al mo od)).jB)),(((ax (ay cs os ks gs bs al mo od)).jA.drop 0).take (List.length (ax (ay cs os ks gs bs al mo od)).jA)),(((ax (ay cs os ks gs bs al mo od)).jy.drop 0).take (List.length (ax (ay cs os ks gs bs al mo od)).jy)),(((ax (ay cs os ks gs bs al mo od)).jw.drop 0).take (List.length (ax (ay cs os ks gs bs al mo od)).jw)),(((ax (ay cs os ks gs bs al mo od)).jv.drop 0).take (List.length (ax (ay cs os ks gs bs al mo od)).jv)),(((ax (ay cs os ks gs bs al mo od)).jr.drop 0).take (List.length (ax (ay cs os ks gs bs al mo od)).jr)),(((ax (ay cs os ks gs bs al mo od)).jq.drop 0).take (List.length (ax (ay cs os ks gs bs al mo od)).jq)),(((ax (ay cs os ks gs bs al mo od)).jo.drop 0).take (List.length (ax (ay cs os ks gs bs al mo od)).jo)),(((ax (ay cs os ks gs bs al mo od)).jm.drop 0).take (List.length (ax (ay cs os ks gs bs al mo od)).jm)),(((ax (ay cs os ks gs bs al mo od)).jl.drop 0).take (List.length (ax (ay cs os ks gs bs al mo od)).jl)),(((ax (ay cs os ks gs bs al mo od)).dU.drop 0).take (List.length (ax (ay cs os ks gs bs al mo od)).dU)),(((ax (ay cs os ks gs bs al mo od)).dS.drop 0).take (List.length (ax (ay cs os ks gs bs al mo od)).dS)),(((ax (ay cs os ks gs bs al mo od)).dR.drop 0).take (List.length (ax (ay cs os ks gs bs al mo od)).dR)),(((ax (ay cs os ks gs bs al mo od)).dQ.drop 0).take (List.length (ax (ay cs os ks gs bs al mo od)).dQ)),(((ax (ay cs os ks gs bs al mo od)).dP.drop 0).take (List.length (ax (ay cs os ks gs bs al mo od)).dP)),(((ax (ay cs os ks gs bs al mo od)).dO.drop 0).take (List.length (ax (ay cs os ks gs bs al mo od)).dO)),al,(List.replicate (List.length gs:Int).toNat (0:Int)),(iW (fH cs os ks gs bs al mo od)).sums,(iW (fH cs os ks gs bs al mo od)).levels⟩:qY)
noncomputable def acy:Specs:=bf [(24,oI),(61,qX),(94,qW),(96,qV)]
theorem akJ:∀g S,acy g=some S→Valid Tryz.prog aS g S:=aT (l:=[(24,oI),(61,qX),(94,qW),(96,qV)]) ⟨DR,Ij,Ii,Ih,trivial⟩
noncomputable def atO:Hand:=inl Tryz.prog aS acy (jX 97 4 8 (Tf.lp) (jX 93 7 2 (y9.lp) (jX 95 1 3 (xM.lp) (jX 93 1 2 (vX.lp) (kH Tryz.prog aS (acy) 20 2))))) 9
theorem aDp:cZ Tryz.prog aS atO:=bM akJ (dF Tryz.func97 rfl (by kernel_rfl) XF (dF Tryz.func93 rfl (by kernel_rfl) GZ (dF Tryz.func95 rfl (by kernel_rfl) zZ (dF Tryz.func93 rfl (by kernel_rfl) xQ (dI akJ))))) 9
end Go.Proofs.YtlihnbimgclogaaGreatDoor
