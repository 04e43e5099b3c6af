/- ControlOrder returns true for all arguments: the order has each index once; no later one has a lesser rank, or the same rank and a lesser slack, or both the same and a lesser index. Conditions: none; the table ramp.happens holds what its text says. -/
import Derived.Test.YtlihnbimgclogaaGreatDoorQj4
namespace Go.Proofs.YtlihnbimgclogaaGreatDoor
open Go.Sx
def ada (x:Ex) (_ s':iH):Prop:=x=.exit 0∧s'.ri=s'.rn
theorem ayb:∀s,Nu s→vS s:=by
 intro s h
 obtain ⟨h0,h1,h2,h3⟩:=h
 refine ⟨by have:=h3.1;omega,fun o ho=>by rw [h1 o ho];simp;omega,fun k _=>?_,h3⟩
 rw [h2]
 simp only [List.getD,List.getElem?_replicate]
 split<;>rfl
theorem ag0 (s:iH) (hI:vS s) (c1:s.ri<s.rn):Va (bZ s):=by
 obtain ⟨⟨h0,h1⟩,h2,h3,h4,h5,h6,h7,h8⟩:=hI
 have hr:=h6 (rY s.rows s.ri) (by rw [DL (by omega)];exact List.getElem_mem _)
 refine ⟨rfl,fun o ho=>?_,?_,rfl,hr.1,hr.2,h7,h0,?_⟩
 ·have:=h2 o ho
  omega
 ·have:=h3 s.ri.toNat (by omega)
  show 0≤s.sums.getD s.ri.toNat 0∧s.sums.getD s.ri.toNat 0≤1000
  omega
 ·show s.ri<(s.sums.length:Int)
  omega
theorem agY (s s':iH) (hI:vS s) (c1:s.ri<s.rn) (hO:lJ s'=fQ (bM (bZ s))) (hs:s'.sums=(bM (bZ s)).sums) (hk:s'.ri=IntKind.i64.wrap (s.ri+1)) (hn:s'.rn=s.rn) (hl:s'.rows=s.rows) (ha:s'.alive=s.alive):
  (vS s'∧wV s'<wV s)∧(fun s:iH=>(QJ (lJ s) s.ri (s.rows.drop s.ri.toNat),QI s.alive s.sums s.ri (s.rows.drop s.ri.toNat))) s'=(fun s:iH=>(QJ (lJ s) s.ri (s.rows.drop s.ri.toNat),QI s.alive s.sums s.ri (s.rows.drop s.ri.toNat))) s:=by
 obtain ⟨r1,r2⟩:=amb _ (ag0 s hI c1)
 obtain ⟨⟨h0,h1⟩,h2,h3,h4,h5,h6,h7,h8⟩:=hI
 have hr:=h6 (rY s.rows s.ri) (by rw [DL (by omega)];exact List.getElem_mem _)
 rw [aF (x:=s.ri+1) (by omega) (by omega)] at hk
 have r1:fQ (bM (bZ s))=vW s.ri (lJ s) (rY s.rows s.ri).2:=r1
 have r2:(bM (bZ s)).sums=s.sums.set s.ri.toNat (s.sums.getD s.ri.toNat 0+smA s.alive (rY s.rows s.ri).2):=r2
 refine ⟨⟨⟨⟨by omega,by omega⟩,fun o ho=>?_,fun k hk2=>?_,by rw [hn,hl];exact h4,by omega,by rw [hl,ha];exact h6,by rw [ha];exact h7,by rw [hs,r2,List.length_set,hl];exact h8⟩,by simp only [wV];omega⟩,?_⟩
 ·rw [hO,r1] at ho
  have:=aaj h2 o ho
  have:=hr.1
  rw [hk]
  omega
 ·rw [hs,r2]
  have:=h3 k (by omega)
  simp only [List.getD] at this⊢
  rw [List.getElem?_set_ne (by omega)]
  exact this
 ·simp only
  rw [hO,hs,hl,ha,r1,r2,hk,(aiw h0 (show s.ri<s.rows.length by omega)).1]
  rfl
theorem al9 (s s':iH) (hI:vS s) (c1:s.ri<s.rn) (hO:lJ s'=fQ (bM (bZ s))) (hs:s'.sums=(bM (bZ s)).sums) (hk:s'.ri=IntKind.i64.wrap (s.ri+1)) (hn:s'.rn=s.rn) (hl:s'.rows=s.rows) (ha:s'.alive=s.alive):bY (fun s'=>vS s'∧wV s'<wV s) (fun x s'=>ada x s s') (.next s'):=(agY s s' hI c1 hO hs hk hn hl ha).1
theorem al8 (s s':iH) (hI:vS s) (c1:s.ri<s.rn) (hO:lJ s'=fQ (bM (bZ s))) (hs:s'.sums=(bM (bZ s)).sums) (hk:s'.ri=IntKind.i64.wrap (s.ri+1)) (hn:s'.rn=s.rn) (hl:s'.rows=s.rows) (ha:s'.alive=s.alive):bY (fun s'=>(fun s:iH=>(QJ (lJ s) s.ri (s.rows.drop s.ri.toNat),QI s.alive s.sums s.ri (s.rows.drop s.ri.toNat))) s'=(fun s:iH=>(QJ (lJ s) s.ri (s.rows.drop s.ri.toNat),QI s.alive s.sums s.ri (s.rows.drop s.ri.toNat))) s) (fun _ s'=>(fun s:iH=>(QJ (lJ s) s.ri (s.rows.drop s.ri.toNat),QI s.alive s.sums s.ri (s.rows.drop s.ri.toNat))) s'=(fun s:iH=>(QJ (lJ s) s.ri (s.rows.drop s.ri.toNat),QI s.alive s.sums s.ri (s.rows.drop s.ri.toNat))) s) (.next s'):=(agY s s' hI c1 hO hs hk hn hl ha).2
theorem atQ (s:iH) (hI:vS s):bY (fun s'=>vS s'∧wV s'<wV s) (fun x s'=>ada x s s') (abg s):=by
 unfold abg QT
 dsimp only [T.rd,T.rl]
 refine ai (fun c1=>?_) (fun c1=>?_)
 ·exact al9 s _ hI (by simpa using c1) rfl rfl rfl rfl rfl rfl
 ·have c1:s.rn≤s.ri:=by simpa using c1
  have h0:=hI.1
  exact ⟨rfl,by omega⟩
def xP:dn iH:=⟨1,67,[2,7,23,24,25],[.ns 7 6 3 (.int .i64),.ns 7 7 3 (.int .i64),.ns 7 8 3 (.int .i64),.ns 7 9 3 (.int .i64),.ns 7 10 3 (.int .i64),.ns 7 11 3 (.int .i64),.ns 7 12 3 (.int .i64),.ns 7 13 3 (.int .i64),.ns 7 14 3 (.int .i64),.ns 7 15 3 (.int .i64),.ns 7 16 3 (.int .i64),.ns 7 17 3 (.int .i64),.ns 7 18 3 (.int .i64),.ns 7 19 3 (.int .i64),.ns 7 20 3 (.int .i64),.ns 7 21 3 (.int .i64)],aAX,aAa,fun v b=>⟨bf (.int .i64) (v.getD 0 .junk),bf FI (v.getD 2 .junk),gI (v.getD 3 .junk),gI (v.getD 4 .junk),bf iJ (bC (aV b 0) 0),bf .str (bC (aV b 0) 1),bf iQ (bC (aV b 0) 2),bf gU (bC (aV b 0) 3),bf iR (bC (aV b 0) 4),bf iJ (bC (aV b 1) 0),bf .str (bC (aV b 1) 1),bf iQ (bC (aV b 1) 2),bf gU (bC (aV b 1) 3),bf iR (bC (aV b 1) 4),bf FI (bC (aV b 1) 5),bf (.int .i64) (bC (aV b 1) 23),jm (.int .i64) (aV b 2),jm (.int .i64) (aV b 3),jm (.int .i64) (aV b 4),jm (.int .i64) (aV b 5),jm (.int .i64) (aV b 6),jm (.int .i64) (aV b 7),jm (.int .i64) (aV b 8),jm (.int .i64) (aV b 9),jm (.int .i64) (aV b 10),jm (.int .i64) (aV b 11),jm (.int .i64) (aV b 12),jm (.int .i64) (aV b 13),jm (.int .i64) (aV b 14),jm (.int .i64) (aV b 15),jm (.int .i64) (aV b 16),jm (.int .i64) (aV b 17),jm (.int .i64) (aV b 18),jm (.int .i64) (aV b 19)⟩,QT,fun s r=> {r with alive:=s.alive,rows:=s.rows,rn:=s.rn,dh:=s.dh,fF:=s.fF,dF:=s.dF,dM:=s.dM,jd:=s.jd,y9:=s.y9,y7:=s.y7,y8:=s.y8,fJ:=s.fJ,zf:=s.zf,bP:=s.bP,bg:=s.bg,levels:=s.levels},fun s=>s,fun _ s=>s,[.exit 0],Nu,vS,wV⟩
abbrev aj:=xP.run
abbrev an0:=xP.lU
abbrev Qw:=xP.q
theorem asY (s:iH) (hI:vS s):(QT s).all (fun _=>True):=by
 refine ⟨fun c1=>⟨?_,⟨rfl,rfl⟩,⟨rfl,rfl⟩,⟨rfl,rfl⟩,⟨rfl,rfl⟩,⟨rfl,rfl⟩,⟨rfl,rfl⟩,⟨rfl,rfl⟩,⟨rfl,rfl⟩,⟨rfl,rfl⟩,⟨rfl,rfl⟩,⟨rfl,rfl⟩,⟨rfl,rfl⟩,⟨rfl,rfl⟩,⟨rfl,rfl⟩,⟨rfl,rfl⟩,⟨rfl,rfl⟩,⟨rfl,rfl⟩,⟨rfl,rfl⟩,?_,⟨rfl,rfl⟩,⟨rfl,rfl⟩,⟨rfl,rfl⟩,⟨rfl,rfl⟩,⟨rfl,rfl⟩,⟨rfl,rfl⟩,⟨rfl,rfl⟩,⟨rfl,rfl⟩,⟨rfl,rfl⟩,⟨rfl,rfl⟩,⟨rfl,rfl⟩,⟨rfl,rfl⟩,⟨rfl,rfl⟩,⟨rfl,rfl⟩,⟨rfl,rfl⟩,⟨rfl,rfl⟩,⟨rfl,rfl⟩,⟨rfl,rfl⟩,trivial⟩,fun c1=>⟨⟨rfl,rfl⟩,⟨rfl,rfl⟩,⟨rfl,rfl⟩,⟨rfl,rfl⟩,⟨rfl,rfl⟩,⟨rfl,rfl⟩,⟨rfl,rfl⟩,⟨rfl,rfl⟩,⟨rfl,rfl⟩,⟨rfl,rfl⟩,⟨rfl,rfl⟩,⟨rfl,rfl⟩,⟨rfl,rfl⟩,⟨rfl,rfl⟩,⟨rfl,rfl⟩,⟨rfl,rfl⟩,⟨rfl,rfl⟩,⟨rfl,rfl⟩,trivial⟩⟩
 ·(obtain ⟨h0,h2,h3,h4,h5,h6,h7,h8⟩:=hI;simp only [decide_eq_true_eq] at c1;omega)
 ·exact ⟨ag0 s hI (by simpa using c1),rfl,rfl⟩
theorem WQ:xP.Ok:=⟨fun s=>by kernel_rfl,fun s=>by kernel_rfl,fun s=>rfl,fun s t r=>rfl,fun s=>rfl,fun s=>by kernel_rfl⟩
theorem Wj:xP.Pf (ada):=⟨ayb,fun _ _=>rfl,atQ,asY⟩
theorem zW:bG Tryz.prog aT (AN 1) (.loop Uk) xP.lp:=dn.snd WQ Wj (aZ (Γ:=yT) (K:=aaR) (L:=(Ud (fun i=>if i=6 then Nw.lp else aB i))) AQ ahH Uk (fun b hb=>by
 rw [show ay _=[Jg] by kernel_rfl] at hb
 simp only [List.mem_cons,List.not_mem_nil,or_false] at hb
 subst hb
 exact alc)) (fun s=>by kernel_rfl)
theorem ama (s:iH) (hE:Nu s):∃s',vS s'∧ada (an0 s) s' (aj s):=dn.fin WQ Wj s hE
theorem agZ (s:iH) (hE:Nu s):(fun s:iH=>(QJ (lJ s) s.ri (s.rows.drop s.ri.toNat),QI s.alive s.sums s.ri (s.rows.drop s.ri.toNat))) (aj s)=(fun s:iH=>(QJ (lJ s) s.ri (s.rows.drop s.ri.toNat),QI s.alive s.sums s.ri (s.rows.drop s.ri.toNat))) s:=by
 exact dn.vP WQ Wj (fun s:iH=>(QJ (lJ s) s.ri (s.rows.drop s.ri.toNat),QI s.alive s.sums s.ri (s.rows.drop s.ri.toNat))) (fun s hI=>by
  show bY _ _ (abg s)
  unfold abg QT
  dsimp only [T.rd,T.rl]
  refine ai (fun c1=>?_) (fun c1=>?_)
  ·exact al8 s _ hI (by simpa using c1) rfl rfl rfl rfl rfl rfl
  ·rfl) s hE
theorem al7 (s:iH) (hE:Nu s):lJ (aj s)=QJ (lJ s) 0 s.rows∧(aj s).sums=QI s.alive s.sums 0 s.rows:=by
 have q3:=agZ s hE
 obtain ⟨s',hI,q1,q2⟩:=ama s hE
 obtain ⟨h0,h1,h2,h3,h4,h5⟩:=hE
 have el:(aj s).rows=s.rows:=rfl
 have en:(aj s).rn=s.rn:=rfl
 have ea:(aj s).alive=s.alive:=rfl
 simp only at q3
 rw [q2,en,el,ea,List.drop_eq_nil_of_le (by omega),h0] at q3
 exact ⟨congrArg Prod.fst q3,congrArg Prod.snd q3⟩
end Go.Proofs.YtlihnbimgclogaaGreatDoor
namespace Go.Proofs.YtlihnbimgclogaaGreatDoor
open Go.Sx
structure o9 where
 r:Bool
 l:List Int
 n:Int
 i:Int
 dh:List Cd
 fF:List ByteArray
 dF:List Ko
 dM:List Ch
 jd:List Ba
 y9:List Cd
 y7:List ByteArray
 y8:List Ko
 fJ:List Ch
 zf:List Ba
 bP:List Rw
 jO:List Int
 jM:List Int
 jL:List Int
 jK:List Int
 jJ:List Int
 jI:List Int
 jH:List Int
 jG:List Int
 jF:List Int
 jE:List Int
 eP:List Int
 eG:List Int
 eu:List Int
 dZ:List Int
 dY:List Int
 dX:List Int
 bg:List Int
 sums:List Int
 levels:List Int
 Ye:ByteArray
 avw:Int
 Ja:Int
 aiS:Int
 aiT:Int
 Yc:Int
 zF:Int
 Qd:Int
 more:Int
def aBg (s:o9):List LV:=[.fn 124 [.own 4 0,.own 6 0],.v (.bool s.r),.xl (.int .i64) s.l,.v (.int .i64 s.n),.v (.int .i64 s.i)]
def aAs (s:o9):List aS:=[⟨[.xl iJ s.dh,.xl .str s.fF,.xl iQ s.dF,.xl gU s.dM,.xl iR s.jd],28,.cl,false⟩,⟨[.xl iJ s.y9,.xl .str s.y7,.xl iQ s.y8,.xl gU s.fJ,.xl iR s.zf,.xl FI s.bP,.xl (.int .i64) s.jO,.xl (.int .i64) s.jM,.xl (.int .i64) s.jL,.xl (.int .i64) s.jK,.xl (.int .i64) s.jJ,.xl (.int .i64) s.jI,.xl (.int .i64) s.jH,.xl (.int .i64) s.jG,.xl (.int .i64) s.jF,.xl (.int .i64) s.jE,.xl (.int .i64) s.eP,.xl (.int .i64) s.eG,.xl (.int .i64) s.eu,.xl (.int .i64) s.dZ,.xl (.int .i64) s.dY,.xl (.int .i64) s.dX,.os 2 1 0 (List.length s.sums),.xl (.int .i64) s.bg,.os 3 1 0 (List.length s.levels)],148,.cl,false⟩,⟨[],3,.vec (.int .i64) s.sums,false⟩,⟨[],3,.vec (.int .i64) s.levels,false⟩,⟨[.own 1 0],144,.cl,false⟩,⟨[.v (.string s.Ye),.v (.int .i64 s.avw),.v (.int .i64 s.Ja),.v (.int .i64 s.aiS),.v (.int .i64 s.aiT),.v (.int .i64 s.Yc),.v (.int .i64 s.zF),.v (.int .i64 s.Qd)],58,.cl,false⟩,⟨[.v (.int .i64 s.more)],3,.cl,false⟩]
noncomputable def Ur:Code:=((ay (Tryz.f93.body.getD .skip))[0]?).getD .skip
def ZC (s:o9):T (Rd o9):=
 .br (decide (s.i<s.n)) (.req (0≤s.i∧s.i<(List.length s.l:Int)) (.req (0≤(gi s.l s.i)∧(gi s.l s.i)<((List.length s.sums:Nat):Int)) (.req ((gi s.l s.i).toNat<List.length s.sums) (.req (0≤(gi s.l s.i)∧(gi s.l s.i)<(List.length s.bP:Int)) (.br (!(decide ((IntKind.i64.wrap ((s.sums.getD (gi s.l s.i).toNat (Ty.dflt (.int .i64)))+s.more))≤(rY s.bP (gi s.l s.i)).1))) (.rl s.sums (.rl s.levels (.ok (.stop (.ret) {s with r:=false})))) (.rl s.sums (.rl s.levels (.ok (.next {s with i:=(IntKind.i64.wrap (s.i+1))}))))))))) (.rl s.sums (.rl s.levels (.ok (.stop (.exit 0) s))))
abbrev aqK (s:o9):=(ZC s).rd s
def JI (s:o9) (j:Int):Bool:=Bc s.bP s.sums s.more (gi s.l j)
def Vj (s:o9):Prop:=s.i=0∧0≤s.n∧s.n≤1000∧s.n=(s.l.length:Int)∧(∀r∈s.l,0≤r∧r<(s.bP.length:Int))∧s.sums.length=s.bP.length∧(∀k:Nat,0≤s.sums.getD k 0∧s.sums.getD k 0≤2000)∧(0≤s.more∧s.more≤10000)
def Nb (s:o9):Prop:=0≤s.i∧s.i≤s.n∧s.n≤1000∧(s.n=(s.l.length:Int)∧(∀r∈s.l,0≤r∧r<(s.bP.length:Int))∧s.sums.length=s.bP.length∧(∀k:Nat,0≤s.sums.getD k 0∧s.sums.getD k 0≤2000)∧(0≤s.more∧s.more≤10000))∧∀j:Nat,(j:Int)<s.i→JI s j=true
def OW (s:o9):Nat:=(s.n-s.i).toNat
def ajS (x:Ex) (_ s':o9):Prop:=(x=.exit 0∧∀j:Nat,(j:Int)<s'.n→JI s' j=true)∨(x=.ret∧s'.r=false∧∃j:Nat,(j:Int)<s'.n∧JI s' j=false)
theorem azf:∀s,Vj s→Nb s:=by
 intro s h
 obtain ⟨h0,h1,h2,h3⟩:=h
 exact ⟨by omega,by omega,h2,h3,fun j hj=>by omega⟩
theorem avc (s:o9) (hI:Nb s):bY (fun s'=>Nb s'∧OW s'<OW s) (fun x s'=>ajS x s s') (aqK s):=by
 unfold aqK ZC
 dsimp only [T.rd,T.rl]
 obtain ⟨h0,h1,h2,h3,h4⟩:=hI
 refine ai (fun c1=>ai (fun c2=>?_) (fun c2=>?_)) (fun c1=>?_)
 ·have c1:s.i<s.n:=by simpa using c1
  refine .inr ⟨rfl,rfl,s.i.toNat,by simp only;omega,?_⟩
  rw [Int.toNat_of_nonneg (by omega)]
  have hg:JI s s.i=false:=by unfold JI;(obtain ⟨e0,e1,e2,e3,e4⟩:=h3;have hb:=e3 (gi s.l s.i).toNat;have c2:=c2;rw [aF (x:=s.sums.getD (gi s.l s.i).toNat (Ty.dflt (.int .i64))+s.more) (by show _≤s.sums.getD (gi s.l s.i).toNat 0+s.more;omega) (by show s.sums.getD (gi s.l s.i).toNat 0+s.more≤_;omega)] at c2;unfold Bc;first|(have c3:(!(decide (s.sums.getD (gi s.l s.i).toNat 0+s.more≤(rY s.bP (gi s.l s.i)).1)))=true:=c2;simpa using c3) |(have c3:(!(decide (s.sums.getD (gi s.l s.i).toNat 0+s.more≤(rY s.bP (gi s.l s.i)).1)))=false:=c2;simpa using c3))
  exact hg
 ·have c1:s.i<s.n:=by simpa using c1
  have hg:JI s s.i=true:=by unfold JI;(obtain ⟨e0,e1,e2,e3,e4⟩:=h3;have hb:=e3 (gi s.l s.i).toNat;have c2:=c2;rw [aF (x:=s.sums.getD (gi s.l s.i).toNat (Ty.dflt (.int .i64))+s.more) (by show _≤s.sums.getD (gi s.l s.i).toNat 0+s.more;omega) (by show s.sums.getD (gi s.l s.i).toNat 0+s.more≤_;omega)] at c2;unfold Bc;first|(have c3:(!(decide (s.sums.getD (gi s.l s.i).toNat 0+s.more≤(rY s.bP (gi s.l s.i)).1)))=true:=c2;simpa using c3) |(have c3:(!(decide (s.sums.getD (gi s.l s.i).toNat 0+s.more≤(rY s.bP (gi s.l s.i)).1)))=false:=c2;simpa using c3))
  rw [aF (x:=s.i+1) (by omega) (by omega)]
  refine ⟨⟨by simp only;omega,by simp only;omega,h2,h3,fun j hj=>?_⟩,by simp only [OW];omega⟩
  by_cases hji:(j:Int)<s.i
  ·exact h4 j hji
  ·have:(j:Int)=s.i:=by simp only at hj;omega
   rw [this];exact hg
 ·have c1:s.n≤s.i:=by simpa using c1
  exact .inl ⟨rfl,fun j hj=>h4 j (by omega)⟩
def yY:dn o9:=⟨7,18,[1,4,7,8,9],[],aBg,aAs,fun v b=>⟨J7 (v.getD 1 .junk),bf (.int .i64) (v.getD 2 .junk),gI (v.getD 3 .junk),gI (v.getD 4 .junk),bf iJ (bC (aV b 0) 0),bf .str (bC (aV b 0) 1),bf iQ (bC (aV b 0) 2),bf gU (bC (aV b 0) 3),bf iR (bC (aV b 0) 4),bf iJ (bC (aV b 1) 0),bf .str (bC (aV b 1) 1),bf iQ (bC (aV b 1) 2),bf gU (bC (aV b 1) 3),bf iR (bC (aV b 1) 4),bf FI (bC (aV b 1) 5),bf (.int .i64) (bC (aV b 1) 6),bf (.int .i64) (bC (aV b 1) 7),bf (.int .i64) (bC (aV b 1) 8),bf (.int .i64) (bC (aV b 1) 9),bf (.int .i64) (bC (aV b 1) 10),bf (.int .i64) (bC (aV b 1) 11),bf (.int .i64) (bC (aV b 1) 12),bf (.int .i64) (bC (aV b 1) 13),bf (.int .i64) (bC (aV b 1) 14),bf (.int .i64) (bC (aV b 1) 15),bf (.int .i64) (bC (aV b 1) 16),bf (.int .i64) (bC (aV b 1) 17),bf (.int .i64) (bC (aV b 1) 18),bf (.int .i64) (bC (aV b 1) 19),bf (.int .i64) (bC (aV b 1) 20),bf (.int .i64) (bC (aV b 1) 21),bf (.int .i64) (bC (aV b 1) 23),jm (.int .i64) (aV b 2),jm (.int .i64) (aV b 3),gSr (bC (aV b 5) 0),gI (bC (aV b 5) 1),gI (bC (aV b 5) 2),gI (bC (aV b 5) 3),gI (bC (aV b 5) 4),gI (bC (aV b 5) 5),gI (bC (aV b 5) 6),gI (bC (aV b 5) 7),gI (bC (aV b 6) 0)⟩,ZC,fun s r=> {r with l:=s.l,n:=s.n,dh:=s.dh,fF:=s.fF,dF:=s.dF,dM:=s.dM,jd:=s.jd,y9:=s.y9,y7:=s.y7,y8:=s.y8,fJ:=s.fJ,zf:=s.zf,bP:=s.bP,jO:=s.jO,jM:=s.jM,jL:=s.jL,jK:=s.jK,jJ:=s.jJ,jI:=s.jI,jH:=s.jH,jG:=s.jG,jF:=s.jF,jE:=s.jE,eP:=s.eP,eG:=s.eG,eu:=s.eu,dZ:=s.dZ,dY:=s.dY,dX:=s.dX,bg:=s.bg,sums:=s.sums,levels:=s.levels,Ye:=s.Ye,avw:=s.avw,Ja:=s.Ja,aiS:=s.aiS,aiT:=s.aiT,Yc:=s.Yc,zF:=s.zF,Qd:=s.Qd,more:=s.more},fun s=>s,fun _ s=>s,[.ret,.exit 0],Vj,Nb,OW⟩
abbrev FU:=yY.run
abbrev Gf:=yY.lU
abbrev awp:=yY.q
noncomputable def AZ:Specs:=bn [(24,oC),(61,qV),(94,qR),(96,qQ)]
theorem Et:∀g S,AZ g=some S→Valid Tryz.prog aT g S:=aX (l:=[(24,oC),(61,qV),(94,qR),(96,qQ)]) ⟨C9,Gx,Gv,Gu,trivial⟩
noncomputable def ahY:Hand:=inl Tryz.prog aT AZ (dG 95 1 3 (xP.lp) (dG 93 1 2 (vU.lp) (jo Tryz.prog aT (AZ) 20 2))) 9
theorem apQ:cO Tryz.prog aT ahY:=bJ Et (aP Tryz.func95 rfl (by kernel_rfl) zW (aP Tryz.func93 rfl (by kernel_rfl) xQ (dw Et))) 9
theorem ath (s:o9) (hI:Nb s):(ZC s).all (fun _=>True):=by
 refine ⟨fun c1=>⟨?_,?_,?_,?_,fun c2=>⟨⟨rfl,rfl⟩,⟨rfl,rfl⟩,trivial⟩,fun c2=>⟨⟨rfl,rfl⟩,⟨rfl,rfl⟩,trivial⟩⟩,fun c1=>⟨⟨rfl,rfl⟩,⟨rfl,rfl⟩,trivial⟩⟩
 all_goals ((obtain ⟨h0,h1,h2,⟨e0,e1,e2,e3,e4⟩,h4⟩:=hI;simp only [decide_eq_true_eq] at c1;have hm:=e1 (gi s.l s.i) (nC (by omega) (by omega));omega))
theorem agK:yY.Ok:=⟨fun s=>by kernel_rfl,fun s=>by kernel_rfl,fun s=>rfl,fun s t r=>rfl,fun s=>rfl,fun s=>by kernel_rfl⟩
theorem afU:yY.Pf (ajS):=⟨azf,fun _ _=>rfl,avc,ath⟩
theorem FN:bG Tryz.prog aT (AN 7) (.loop Ur) yY.lp:=dn.snd agK afU (aZ (Γ:=AZ) (K:=ahY) (L:=(mP Tryz.prog aT AZ ahY 20 2)) Et apQ Ur (fun b _=>cu Et apQ 20 2 b)) (fun s=>by kernel_rfl)
theorem aoj (s:o9) (hE:Vj s):∃s',Nb s'∧ajS (Gf s) s' (FU s):=dn.fin agK afU s hE
theorem su (s:o9) (hE:Vj s):(Gf s=.exit 0∧s.l.all (Bc s.bP s.sums s.more)=true)∨(Gf s=.ret∧(FU s).r=false∧s.l.all (Bc s.bP s.sums s.more)=false):=by
 obtain ⟨s',hI,hq⟩:=aoj s hE
 obtain ⟨h0,h1,h2,h3,_⟩:=hE
 have en:(FU s).n=s.n:=rfl
 rcases hq with ⟨q1,q2⟩ |⟨q1,q2,j,q3,q4⟩
 ·exact .inl ⟨q1,(qE (d:=(0:Int))).1 fun j hj=>q2 j (by rw [en];omega)⟩
 ·refine .inr ⟨q1,q2,?_⟩
  rw [Bool.eq_false_iff]
  intro hx
  have:=(qE (d:=(0:Int))).2 hx j (by rw [en] at q3;omega)
  exact Bool.noConfusion (this.symm.trans q4)
structure uD where
 Qa:Int
 level:Int
 l:List Int
 n:Int
 i:Int
 dh:List Cd
 fF:List ByteArray
 dF:List Ko
 dM:List Ch
 jd:List Ba
 y9:List Cd
 y7:List ByteArray
 y8:List Ko
 fJ:List Ch
 zf:List Ba
 bP:List Rw
 jO:List Int
 jM:List Int
 jL:List Int
 jK:List Int
 jJ:List Int
 jI:List Int
 jH:List Int
 jG:List Int
 jF:List Int
 jE:List Int
 eP:List Int
 eG:List Int
 eu:List Int
 dZ:List Int
 dY:List Int
 dX:List Int
 bg:List Int
 sums:List Int
 levels:List Int
 more:Int
def aCt (s:uD):List LV:=[.v (.int .i64 s.Qa),.own 4 0,.v (.int .i64 s.level),.own 5 0,.xl (.int .i64) s.l,.v (.int .i64 s.n),.v (.int .i64 s.i)]
def aCg (s:uD):List aS:=[⟨[.xl iJ s.dh,.xl .str s.fF,.xl iQ s.dF,.xl gU s.dM,.xl iR s.jd],28,.cl,false⟩,⟨[.xl iJ s.y9,.xl .str s.y7,.xl iQ s.y8,.xl gU s.fJ,.xl iR s.zf,.xl FI s.bP,.xl (.int .i64) s.jO,.xl (.int .i64) s.jM,.xl (.int .i64) s.jL,.xl (.int .i64) s.jK,.xl (.int .i64) s.jJ,.xl (.int .i64) s.jI,.xl (.int .i64) s.jH,.xl (.int .i64) s.jG,.xl (.int .i64) s.jF,.xl (.int .i64) s.jE,.xl (.int .i64) s.eP,.xl (.int .i64) s.eG,.xl (.int .i64) s.eu,.xl (.int .i64) s.dZ,.xl (.int .i64) s.dY,.xl (.int .i64) s.dX,.os 2 1 0 (List.length s.sums),.xl (.int .i64) s.bg,.os 3 1 0 (List.length s.levels)],148,.cl,false⟩,⟨[],3,.vec (.int .i64) s.sums,false⟩,⟨[],3,.vec (.int .i64) s.levels,false⟩,⟨[.own 1 0],144,.cl,false⟩,⟨[.v (.int .i64 s.more)],3,.cl,false⟩]
noncomputable def ab9:Code:=((ay (Tryz.f97.body.getD .skip))[0]?).getD .skip
def aeV (s:uD):T (Rd uD):=
 .br (decide (s.i<s.n)) (.req (0≤s.i∧s.i<(List.length s.l:Int)) (.req (0≤(gi s.l s.i)∧(gi s.l s.i)<((List.length s.sums:Nat):Int)) (.req ((gi s.l s.i).toNat<List.length s.sums) (.req (0≤(gi s.l s.i)∧(gi s.l s.i)<((List.length s.sums:Nat):Int)) (.req ((gi s.l s.i).toNat<List.length s.sums) (.req (0=0∧(List.length s.sums)=List.length (s.sums.set (gi s.l s.i).toNat (IntKind.i64.wrap ((s.sums.getD (gi s.l s.i).toNat (Ty.dflt (.int .i64)))+s.more)))) (.rl s.levels (.ok (.next {s with i:=(IntKind.i64.wrap (s.i+1)),sums:=(s.sums.set (gi s.l s.i).toNat (IntKind.i64.wrap ((s.sums.getD (gi s.l s.i).toNat (Ty.dflt (.int .i64)))+s.more)))}))))))))) (.rl s.sums (.rl s.levels (.ok (.stop (.exit 0) s))))
abbrev anT (s:uD):=(aeV s).rd s
def aen (s:uD):Prop:=s.i=0∧(∀k:Nat,0≤s.sums.getD k 0∧s.sums.getD k 0≤2000)∧s.n=(s.l.length:Int)∧s.n≤1000∧(∀r∈s.l,0≤r∧r<(s.sums.length:Int))∧(0≤s.more∧s.more≤10000)
def aei (s:uD):Prop:=(0≤s.i∧s.i≤s.n)∧(∀k:Nat,0≤s.sums.getD k 0∧s.sums.getD k 0≤2000+10000*s.i)∧s.n=(s.l.length:Int)∧s.n≤1000∧(∀r∈s.l,0≤r∧r<(s.sums.length:Int))∧(0≤s.more∧s.more≤10000)
def aay (s:uD):Nat:=(s.n-s.i).toNat
def avM (x:Ex) (_ s':uD):Prop:=x=.exit 0∧s'.i=s'.n
theorem aBK:∀s,aen s→aei s:=by
 intro s h
 obtain ⟨h0,h1,h2,h3⟩:=h
 exact ⟨by omega,fun k=>by have:=h1 k;omega,h2,h3⟩
theorem axC (s:uD) (hI:aei s):bY (fun s'=>aei s'∧aay s'<aay s) (fun x s'=>avM x s s') (anT s):=by
 unfold anT aeV
 dsimp only [T.rd,T.rl]
 obtain ⟨⟨h0,h1⟩,h2,h3,h4,h5,h6⟩:=hI
 refine ai (fun c1=>?_) (fun c1=>?_)
 ·have c1:s.i<s.n:=by simpa using c1
  have hb:=h2 (gi s.l s.i).toNat
  rw [aF (x:=s.i+1) (by omega) (by omega),aF (x:=s.sums.getD (gi s.l s.i).toNat (Ty.dflt (.int .i64))+s.more) (by show _≤s.sums.getD (gi s.l s.i).toNat 0+s.more;omega) (by show s.sums.getD (gi s.l s.i).toNat 0+s.more≤_;omega)]
  refine ⟨⟨⟨by simp only;omega,by simp only;omega⟩,fun k=>?_,h3,h4,fun r hr=>by simp only [List.length_set];exact h5 r hr,h6⟩,by simp only [aay];omega⟩
  simp only
  have hk:=h2 k
  rw [qM]
  split
  ·show 0≤s.sums.getD (gi s.l s.i).toNat 0+s.more∧s.sums.getD (gi s.l s.i).toNat 0+s.more≤_
   omega
  ·omega
 ·have c1:s.n≤s.i:=by simpa using c1
  exact ⟨rfl,by omega⟩
def Qy:dn uD:=⟨4,90,[1,2,6,7,66,67,68],[],aCt,aCg,fun v b=>⟨gI (v.getD 0 .junk),gI (v.getD 2 .junk),bf (.int .i64) (v.getD 4 .junk),gI (v.getD 5 .junk),gI (v.getD 6 .junk),bf iJ (bC (aV b 0) 0),bf .str (bC (aV b 0) 1),bf iQ (bC (aV b 0) 2),bf gU (bC (aV b 0) 3),bf iR (bC (aV b 0) 4),bf iJ (bC (aV b 1) 0),bf .str (bC (aV b 1) 1),bf iQ (bC (aV b 1) 2),bf gU (bC (aV b 1) 3),bf iR (bC (aV b 1) 4),bf FI (bC (aV b 1) 5),bf (.int .i64) (bC (aV b 1) 6),bf (.int .i64) (bC (aV b 1) 7),bf (.int .i64) (bC (aV b 1) 8),bf (.int .i64) (bC (aV b 1) 9),bf (.int .i64) (bC (aV b 1) 10),bf (.int .i64) (bC (aV b 1) 11),bf (.int .i64) (bC (aV b 1) 12),bf (.int .i64) (bC (aV b 1) 13),bf (.int .i64) (bC (aV b 1) 14),bf (.int .i64) (bC (aV b 1) 15),bf (.int .i64) (bC (aV b 1) 16),bf (.int .i64) (bC (aV b 1) 17),bf (.int .i64) (bC (aV b 1) 18),bf (.int .i64) (bC (aV b 1) 19),bf (.int .i64) (bC (aV b 1) 20),bf (.int .i64) (bC (aV b 1) 21),bf (.int .i64) (bC (aV b 1) 23),jm (.int .i64) (aV b 2),jm (.int .i64) (aV b 3),gI (bC (aV b 5) 0)⟩,aeV,fun s r=> {r with Qa:=s.Qa,level:=s.level,l:=s.l,n:=s.n,dh:=s.dh,fF:=s.fF,dF:=s.dF,dM:=s.dM,jd:=s.jd,y9:=s.y9,y7:=s.y7,y8:=s.y8,fJ:=s.fJ,zf:=s.zf,bP:=s.bP,jO:=s.jO,jM:=s.jM,jL:=s.jL,jK:=s.jK,jJ:=s.jJ,jI:=s.jI,jH:=s.jH,jG:=s.jG,jF:=s.jF,jE:=s.jE,eP:=s.eP,eG:=s.eG,eu:=s.eu,dZ:=s.dZ,dY:=s.dY,dX:=s.dX,bg:=s.bg,levels:=s.levels,more:=s.more},fun s=>s,fun _ s=>s,[.exit 0],aen,aei,aay⟩
abbrev lg:=Qy.run
abbrev au7:=Qy.lU
abbrev ara:=Qy.q
noncomputable def ahX:Hand:=inl Tryz.prog aT AZ (dG 93 7 2 (yY.lp) (dG 95 1 3 (xP.lp) (dG 93 1 2 (vU.lp) (jo Tryz.prog aT (AZ) 20 2)))) 9
theorem apP:cO Tryz.prog aT ahX:=bJ Et (aP Tryz.func93 rfl (by kernel_rfl) FN (aP Tryz.func95 rfl (by kernel_rfl) zW (aP Tryz.func93 rfl (by kernel_rfl) xQ (dw Et)))) 9
theorem axM (s:uD) (hI:aei s):(aeV s).all (fun _=>True):=by
 refine ⟨fun c1=>⟨?_,?_,?_,?_,?_,?_,⟨rfl,rfl⟩,trivial⟩,fun c1=>⟨⟨rfl,rfl⟩,⟨rfl,rfl⟩,trivial⟩⟩
 all_goals ((obtain ⟨⟨h0,h1⟩,h2,h3,h4,h5,h6⟩:=hI;(try simp only [decide_eq_true_eq] at c1);first|(have hm:=h5 (gi s.l s.i) (nC (by omega) (by omega));omega) |exact ⟨rfl,by simp⟩ |exact ⟨rfl,rfl⟩))
theorem agx:Qy.Ok:=⟨fun s=>by kernel_rfl,fun s=>by kernel_rfl,fun s=>rfl,fun s t r=>rfl,fun s=>rfl,fun s=>by kernel_rfl⟩
theorem afH:Qy.Pf (avM):=⟨aBK,fun _ _=>rfl,axC,axM⟩
theorem VL:bG Tryz.prog aT (AN 4) (.loop ab9) Qy.lp:=dn.snd agx afH (aZ (Γ:=AZ) (K:=ahX) (L:=(mP Tryz.prog aT AZ ahX 20 2)) Et apP ab9 (fun b _=>cu Et apP 20 2 b)) (fun s=>by kernel_rfl)
theorem asE (s:uD) (hE:aen s):∃s',aei s'∧avM (au7 s) s' (lg s):=dn.fin agx afH s hE
theorem alM (s:uD) (hE:aen s):(fun s:uD=>zI s.sums s.more (s.l.drop s.i.toNat)) (lg s)=(fun s:uD=>zI s.sums s.more (s.l.drop s.i.toNat)) s:=by
 exact dn.vP agx afH (fun s:uD=>zI s.sums s.more (s.l.drop s.i.toNat)) (fun s hI=>by
  show bY _ _ (anT s)
  unfold anT aeV
  dsimp only [T.rd,T.rl]
  obtain ⟨⟨h0,h1⟩,h2,h3,h4,h5,h6⟩:=hI
  refine ai (fun c1=>?_) (fun c1=>rfl)
  have c1:s.i<s.n:=by simpa using c1
  have hb:=h2 (gi s.l s.i).toNat
  rw [aF (x:=s.i+1) (by omega) (by omega),aF (x:=s.sums.getD (gi s.l s.i).toNat (Ty.dflt (.int .i64))+s.more) (by show _≤s.sums.getD (gi s.l s.i).toNat 0+s.more;omega) (by show s.sums.getD (gi s.l s.i).toNat 0+s.more≤_;omega)]
  show zI _ _ _=zI _ _ _
  rw [(gi_step h0 (show s.i<s.l.length by omega)).1]
  rfl) s hE
theorem afi (s:uD) (hE:aen s):(lg s).sums=zI s.sums s.more s.l:=by
 have q3:=alM s hE
 obtain ⟨s',hI,q1,q2⟩:=asE s hE
 obtain ⟨h0,h1,h2,h3⟩:=hE
 simp only at q3
 rw [q2,show (lg s).n=s.n from rfl,show (lg s).l=s.l from rfl,show (lg s).more=s.more from rfl,List.drop_eq_nil_of_le (by omega),h0] at q3
 exact q3
end Go.Proofs.YtlihnbimgclogaaGreatDoor
namespace Go.Proofs.YtlihnbimgclogaaGreatDoor
open Go.Sx
structure gG where
 most:List Int
 order:List Int
 n:Int
 level:Int
 some:Bool
 l:List Int
 m:Int
 k:Int
 aH:List Cd
 aY:List ByteArray
 aQ:List Ko
 aI:List Ch
 dA:List Ba
 y9:List Cd
 y7:List ByteArray
 y8:List Ko
 fJ:List Ch
 zf:List Ba
 bP:List Rw
 jO:List Int
 jM:List Int
 jL:List Int
 jK:List Int
 jJ:List Int
 jI:List Int
 jH:List Int
 jG:List Int
 jF:List Int
 jE:List Int
 eP:List Int
 eG:List Int
 eu:List Int
 dZ:List Int
 dY:List Int
 dX:List Int
 bg:List Int
 sums:List Int
 levels:List Int
def aAR (s:gG):List LV:=[.xl (.int .i64) s.most,.xl (.int .i64) s.order,.own 0 0,.v (.int .i64 s.n),.own 1 0,.v (.int .i64 s.level),.v (.bool s.some),.xl (.int .i64) s.l,.v (.int .i64 s.m),.v (.int .i64 s.k)]
def az4 (s:gG):List aS:=[⟨[.xl iJ s.aH,.xl .str s.aY,.xl iQ s.aQ,.xl gU s.aI,.xl iR s.dA],28,.cl,false⟩,⟨[.xl iJ s.y9,.xl .str s.y7,.xl iQ s.y8,.xl gU s.fJ,.xl iR s.zf,.xl FI s.bP,.xl (.int .i64) s.jO,.xl (.int .i64) s.jM,.xl (.int .i64) s.jL,.xl (.int .i64) s.jK,.xl (.int .i64) s.jJ,.xl (.int .i64) s.jI,.xl (.int .i64) s.jH,.xl (.int .i64) s.jG,.xl (.int .i64) s.jF,.xl (.int .i64) s.jE,.xl (.int .i64) s.eP,.xl (.int .i64) s.eG,.xl (.int .i64) s.eu,.xl (.int .i64) s.dZ,.xl (.int .i64) s.dY,.xl (.int .i64) s.dX,.os 2 1 0 (List.length s.sums),.xl (.int .i64) s.bg,.os 3 1 0 (List.length s.levels)],148,.cl,false⟩,⟨[],3,.vec (.int .i64) s.sums,false⟩,⟨[],3,.vec (.int .i64) s.levels,false⟩]
noncomputable def BB:Code:=((ay (((ay (Tryz.f52.body.getD .skip))[0]?).getD .skip))[0]?).getD .skip
def uK (s:gG):o9:=(⟨false,(([s.jO,s.jM,s.jL,s.jK,s.jJ,s.jI,s.jH,s.jG,s.jF,s.jE,s.eP,s.eG,s.eu,s.dZ,s.dY,s.dX]:List (List Int)).getD (gi s.l s.k).toNat []),(List.length (([s.jO,s.jM,s.jL,s.jK,s.jJ,s.jI,s.jH,s.jG,s.jF,s.jE,s.eP,s.eG,s.eu,s.dZ,s.dY,s.dX]:List (List Int)).getD (gi s.l s.k).toNat []):Int),(0:Int),s.aH,s.aY,s.aQ,s.aI,s.dA,s.y9,s.y7,s.y8,s.fJ,s.zf,s.bP,s.jO,s.jM,s.jL,s.jK,s.jJ,s.jI,s.jH,s.jG,s.jF,s.jE,s.eP,s.eG,s.eu,s.dZ,s.dY,s.dX,s.bg,s.sums,s.levels,(bU s.fJ (gi s.l s.k)).1,(bU s.fJ (gi s.l s.k)).2.1,(bU s.fJ (gi s.l s.k)).2.2.1,(bU s.fJ (gi s.l s.k)).2.2.2.1,(bU s.fJ (gi s.l s.k)).2.2.2.2.1,(bU s.fJ (gi s.l s.k)).2.2.2.2.2.1,(bU s.fJ (gi s.l s.k)).2.2.2.2.2.2.1,(bU s.fJ (gi s.l s.k)).2.2.2.2.2.2.2,(IntKind.i64.wrap ((if (gi s.bg (gi s.l s.k))<(CZ (bU s.fJ (gi s.l s.k)).2.2.2.1 (bU s.fJ (gi s.l s.k)).2.2.2.2.2.1 (IntKind.i64.wrap ((s.levels.getD (gi s.l s.k).toNat (Ty.dflt (.int .i64)))+1))) then CZ (bU s.fJ (gi s.l s.k)).2.2.2.1 (bU s.fJ (gi s.l s.k)).2.2.2.2.2.1 (IntKind.i64.wrap ((s.levels.getD (gi s.l s.k).toNat (Ty.dflt (.int .i64)))+1)) else (gi s.bg (gi s.l s.k)))-(if (gi s.bg (gi s.l s.k))<(CZ (bU s.fJ (gi s.l s.k)).2.2.2.1 (bU s.fJ (gi s.l s.k)).2.2.2.2.2.1 (IntKind.i64.wrap ((IntKind.i64.wrap ((s.levels.getD (gi s.l s.k).toNat (Ty.dflt (.int .i64)))+1))-1))) then CZ (bU s.fJ (gi s.l s.k)).2.2.2.1 (bU s.fJ (gi s.l s.k)).2.2.2.2.2.1 (IntKind.i64.wrap ((IntKind.i64.wrap ((s.levels.getD (gi s.l s.k).toNat (Ty.dflt (.int .i64)))+1))-1)) else (gi s.bg (gi s.l s.k)))))⟩:o9)
def mQ (s:gG):uD:=(⟨(gi s.l s.k),(IntKind.i64.wrap ((s.levels.getD (gi s.l s.k).toNat (Ty.dflt (.int .i64)))+1)),(([s.jO,s.jM,s.jL,s.jK,s.jJ,s.jI,s.jH,s.jG,s.jF,s.jE,s.eP,s.eG,s.eu,s.dZ,s.dY,s.dX]:List (List Int)).getD (gi s.l s.k).toNat []),(List.length (([s.jO,s.jM,s.jL,s.jK,s.jJ,s.jI,s.jH,s.jG,s.jF,s.jE,s.eP,s.eG,s.eu,s.dZ,s.dY,s.dX]:List (List Int)).getD (gi s.l s.k).toNat []):Int),(0:Int),s.aH,s.aY,s.aQ,s.aI,s.dA,s.y9,s.y7,s.y8,s.fJ,s.zf,s.bP,s.jO,s.jM,s.jL,s.jK,s.jJ,s.jI,s.jH,s.jG,s.jF,s.jE,s.eP,s.eG,s.eu,s.dZ,s.dY,s.dX,s.bg,s.sums,s.levels,(IntKind.i64.wrap ((if (gi s.bg (gi s.l s.k))<(CZ (bU s.fJ (gi s.l s.k)).2.2.2.1 (bU s.fJ (gi s.l s.k)).2.2.2.2.2.1 (IntKind.i64.wrap ((s.levels.getD (gi s.l s.k).toNat (Ty.dflt (.int .i64)))+1))) then CZ (bU s.fJ (gi s.l s.k)).2.2.2.1 (bU s.fJ (gi s.l s.k)).2.2.2.2.2.1 (IntKind.i64.wrap ((s.levels.getD (gi s.l s.k).toNat (Ty.dflt (.int .i64)))+1)) else (gi s.bg (gi s.l s.k)))-(if (gi s.bg (gi s.l s.k))<(CZ (bU s.fJ (gi s.l s.k)).2.2.2.1 (bU s.fJ (gi s.l s.k)).2.2.2.2.2.1 (IntKind.i64.wrap ((IntKind.i64.wrap ((s.levels.getD (gi s.l s.k).toNat (Ty.dflt (.int .i64)))+1))-1))) then CZ (bU s.fJ (gi s.l s.k)).2.2.2.1 (bU s.fJ (gi s.l s.k)).2.2.2.2.2.1 (IntKind.i64.wrap ((IntKind.i64.wrap ((s.levels.getD (gi s.l s.k).toNat (Ty.dflt (.int .i64)))+1))-1)) else (gi s.bg (gi s.l s.k)))))⟩:uD)
def QR (s:gG):T (Rd gG):=
 .br (decide (s.k<s.m)) (.req (0≤s.k∧s.k<(List.length s.l:Int)) (.req (0≤(gi s.l s.k)∧(gi s.l s.k)<((List.length s.levels:Nat):Int)) (.req ((gi s.l s.k).toNat<List.length s.levels) (.br ((s.levels.getD (gi s.l s.k).toNat (Ty.dflt (.int .i64))) !=(IntKind.i64.wrap (s.level-1))) (.rl s.sums (.rl s.levels (.ok (.next {s with k:=(IntKind.i64.wrap (s.k+1))})))) (.req (0≤(gi s.l s.k)∧(gi s.l s.k)<(List.length s.aI:Int)) (.req (0≤(gi s.l s.k)∧(gi s.l s.k)<(List.length s.most:Int)) (.req ((gi s.most (gi s.l s.k))≤9223372036854775807) (.br (decide ((Tm (bU s.aI (gi s.l s.k)).2.2.2.1 (bU s.aI (gi s.l s.k)).2.2.2.2.1 (bU s.aI (gi s.l s.k)).2.2.2.2.2.1 (gi s.most (gi s.l s.k)))<s.level)) (.rl s.sums (.rl s.levels (.ok (.next {s with k:=(IntKind.i64.wrap (s.k+1))})))) (.req (0≤(gi s.l s.k)∧(gi s.l s.k)<(List.length s.fJ:Int)) (.req (0≤(gi s.l s.k)∧(gi s.l s.k)<((List.length s.levels:Nat):Int)) (.req ((gi s.l s.k).toNat<List.length s.levels) (.req (0≤(gi s.l s.k)∧(gi s.l s.k)<(List.length s.bg:Int)) (.req ((1≤(bU s.fJ (gi s.l s.k)).2.2.2.1∧(bU s.fJ (gi s.l s.k)).2.2.2.1≤80∧1≤(bU s.fJ (gi s.l s.k)).2.2.2.2.2.1∧(bU s.fJ (gi s.l s.k)).2.2.2.2.2.1≤80)∧0≤(IntKind.i64.wrap ((s.levels.getD (gi s.l s.k).toNat (Ty.dflt (.int .i64)))+1))∧(IntKind.i64.wrap ((s.levels.getD (gi s.l s.k).toNat (Ty.dflt (.int .i64)))+1))≤1000) (.req (0≤(gi s.l s.k)∧(gi s.l s.k)<(List.length s.bg:Int)) (.req ((1≤(bU s.fJ (gi s.l s.k)).2.2.2.1∧(bU s.fJ (gi s.l s.k)).2.2.2.1≤80∧1≤(bU s.fJ (gi s.l s.k)).2.2.2.2.2.1∧(bU s.fJ (gi s.l s.k)).2.2.2.2.2.1≤80)∧0≤(IntKind.i64.wrap ((IntKind.i64.wrap ((s.levels.getD (gi s.l s.k).toNat (Ty.dflt (.int .i64)))+1))-1))∧(IntKind.i64.wrap ((IntKind.i64.wrap ((s.levels.getD (gi s.l s.k).toNat (Ty.dflt (.int .i64)))+1))-1))≤1000) (.req (0≤(gi s.l s.k)∧(gi s.l s.k)<(16:Int)) (.rl s.sums (.rl s.levels (.req (awp (uK s)) (.br (lH (Gf (uK s)) (.ret)) (.br (!(FU (uK s)).r) (.br false (.rl s.sums (.rl s.levels (.ok (.next {s with some:=true,k:=(IntKind.i64.wrap (s.k+1))})))) (.rl s.sums (.rl s.levels (.ok (.next {s with k:=(IntKind.i64.wrap (s.k+1))}))))) (.req (0≤(gi s.l s.k)∧(gi s.l s.k)<(16:Int)) (.rl s.sums (.rl s.levels (.req (ara (mQ s)) (.req (0≤(gi s.l s.k)∧(gi s.l s.k)<((List.length s.levels:Nat):Int)) (.req ((gi s.l s.k).toNat<List.length s.levels) (.br true (.rl (lg (mQ s)).sums (.req (0=0∧(List.length s.levels)=List.length (s.levels.set (gi s.l s.k).toNat (IntKind.i64.wrap ((s.levels.getD (gi s.l s.k).toNat (Ty.dflt (.int .i64)))+1)))) (.ok (.next {s with some:=true,k:=(IntKind.i64.wrap (s.k+1)),sums:=(lg (mQ s)).sums,levels:=(s.levels.set (gi s.l s.k).toNat (IntKind.i64.wrap ((s.levels.getD (gi s.l s.k).toNat (Ty.dflt (.int .i64)))+1)))})))) (.rl (lg (mQ s)).sums (.req (0=0∧(List.length s.levels)=List.length (s.levels.set (gi s.l s.k).toNat (IntKind.i64.wrap ((s.levels.getD (gi s.l s.k).toNat (Ty.dflt (.int .i64)))+1)))) (.ok (.next {s with k:=(IntKind.i64.wrap (s.k+1)),sums:=(lg (mQ s)).sums,levels:=(s.levels.set (gi s.l s.k).toNat (IntKind.i64.wrap ((s.levels.getD (gi s.l s.k).toNat (Ty.dflt (.int .i64)))+1)))})))))))))))) (.br (!true) (.br false (.rl s.sums (.rl s.levels (.ok (.next {s with some:=true,k:=(IntKind.i64.wrap (s.k+1))})))) (.rl s.sums (.rl s.levels (.ok (.next {s with k:=(IntKind.i64.wrap (s.k+1))}))))) (.req (0≤(gi s.l s.k)∧(gi s.l s.k)<(16:Int)) (.rl s.sums (.rl s.levels (.req (ara (mQ s)) (.req (0≤(gi s.l s.k)∧(gi s.l s.k)<((List.length s.levels:Nat):Int)) (.req ((gi s.l s.k).toNat<List.length s.levels) (.br true (.rl (lg (mQ s)).sums (.req (0=0∧(List.length s.levels)=List.length (s.levels.set (gi s.l s.k).toNat (IntKind.i64.wrap ((s.levels.getD (gi s.l s.k).toNat (Ty.dflt (.int .i64)))+1)))) (.ok (.next {s with some:=true,k:=(IntKind.i64.wrap (s.k+1)),sums:=(lg (mQ s)).sums,levels:=(s.levels.set (gi s.l s.k).toNat (IntKind.i64.wrap ((s.levels.getD (gi s.l s.k).toNat (Ty.dflt (.int .i64)))+1)))})))) (.rl (lg (mQ s)).sums (.req (0=0∧(List.length s.levels)=List.length (s.levels.set (gi s.l s.k).toNat (IntKind.i64.wrap ((s.levels.getD (gi s.l s.k).toNat (Ty.dflt (.int .i64)))+1)))) (.ok (.next {s with k:=(IntKind.i64.wrap (s.k+1)),sums:=(lg (mQ s)).sums,levels:=(s.levels.set (gi s.l s.k).toNat (IntKind.i64.wrap ((s.levels.getD (gi s.l s.k).toNat (Ty.dflt (.int .i64)))+1)))})))))))))))))))))))))))))))))))) (.rl s.sums (.rl s.levels (.ok (.stop (.exit 2) s))))
abbrev abe (s:gG):=(QR s).rd s
def iG (s:gG):List (List Int):=[s.jO,s.jM,s.jL,s.jK,s.jJ,s.jI,s.jH,s.jG,s.jF,s.jE,s.eP,s.eG,s.eu,s.dZ,s.dY,s.dX]
def Ns (s:gG):Prop:=s.k=0∧(s.m=(s.l.length:Int)∧s.m≤1000∧1≤s.level∧s.level≤81)∧s.fJ=s.aI∧OkT (iG s) s.bP s.fJ s.bg s.most s.l∧OkS s.bP s.l s.sums s.levels
def nV (s:gG):Prop:=(0≤s.k∧s.k≤s.m)∧(s.m=(s.l.length:Int)∧s.m≤1000∧1≤s.level∧s.level≤81)∧s.fJ=s.aI∧OkT (iG s) s.bP s.fJ s.bg s.most s.l∧OkS s.bP s.l s.sums s.levels
def wU (s:gG):Nat:=(s.m-s.k).toNat
def ac9 (x:Ex) (_ s':gG):Prop:=x=.exit 2∧s'.k=s'.m
theorem axz:∀s,Ns s→nV s:=by
 intro s h
 obtain ⟨h0,h1⟩:=h
 exact ⟨by have:=h1.1;omega,h1⟩
theorem vM (s:gG) (hI:nV s) (c1:s.k<s.m):gi s.l s.k∈s.l∧(0≤gi s.l s.k∧gi s.l s.k<16)∧gi s.l s.k<(s.fJ.length:Int)∧gi s.l s.k<(s.aI.length:Int)∧gi s.l s.k<(s.bg.length:Int)∧gi s.l s.k<(s.most.length:Int)∧gi s.l s.k<(s.levels.length:Int)∧(0≤gi s.most (gi s.l s.k)∧gi s.most (gi s.l s.k)≤80)∧(0≤gi s.bg (gi s.l s.k)∧gi s.bg (gi s.l s.k)≤80):=by
 obtain ⟨⟨h0,h1⟩,⟨h2,h3,h4,h5⟩,h6,hT,hS⟩:=hI
 have hm:gi s.l s.k∈s.l:=nC h0 (by omega)
 obtain ⟨o1,o2,o3,o4⟩:=hT.ord _ hm
 exact ⟨hm,o1,o2,by rw [←h6];exact o2,o3,o4,hS.yQ _ hm,hT.mo _ (nC o1.1 o4),hT.al _ (nC o1.1 o3)⟩
theorem tJ {s:gG}(hI:nV s) (c2:((s.levels.getD (gi s.l s.k).toNat (Ty.dflt (.int .i64))) !=(IntKind.i64.wrap (s.level-1)))=false):s.levels.getD (gi s.l s.k).toNat 0=s.level-1:=by
 obtain ⟨_,⟨h2,h3,h4,h5⟩,_⟩:=hI
 have c2:((s.levels.getD (gi s.l s.k).toNat 0) !=(IntKind.i64.wrap (s.level-1)))=false:=c2
 rw [aF (x:=s.level-1) (by omega) (by omega)] at c2
 simpa using c2
theorem Sm {s:gG}(hI:nV s) (c2:s.levels.getD (gi s.l s.k).toNat 0=s.level-1):IntKind.i64.wrap ((s.levels.getD (gi s.l s.k).toNat (Ty.dflt (.int .i64)))+1)=s.level∧IntKind.i64.wrap ((IntKind.i64.wrap ((s.levels.getD (gi s.l s.k).toNat (Ty.dflt (.int .i64)))+1))-1)=s.level-1:=by
 obtain ⟨_,⟨h2,h3,h4,h5⟩,_⟩:=hI
 have e:IntKind.i64.wrap ((s.levels.getD (gi s.l s.k).toNat (Ty.dflt (.int .i64)))+1)=s.level:=by
  have:(s.levels.getD (gi s.l s.k).toNat (Ty.dflt (.int .i64)))=s.level-1:=c2
  rw [this,aF (x:=s.level-1+1) (by omega) (by omega)]
  omega
 refine ⟨e,?_⟩
 rw [e,aF (by omega) (by omega)]
theorem lF {s:gG}(hI:nV s) (c1:s.k<s.m) (c2:s.levels.getD (gi s.l s.k).toNat 0=s.level-1):(uK s).more=Ld s.fJ s.bg (gi s.l s.k) s.level∧(mQ s).more=Ld s.fJ s.bg (gi s.l s.k) s.level∧0≤Ld s.fJ s.bg (gi s.l s.k) s.level∧Ld s.fJ s.bg (gi s.l s.k) s.level≤10000:=by
 have hx:=vM s hI c1
 obtain ⟨w1,w2⟩:=Sm hI c2
 obtain ⟨_,⟨h2,h3,h4,h5⟩,h6,hT,hS⟩:=hI
 have hb:=ahj (gs:=s.fJ) (alive:=s.bg) (k:=s.level) (hT.has _ hx.1) hx.2.2.2.2.2.2.2.2 h4 h5
 have e:(uK s).more=Ld s.fJ s.bg (gi s.l s.k) s.level:=by
  unfold uK
  simp only [w2]
  simp only [w1]
  show IntKind.i64.wrap (Ld s.fJ s.bg (gi s.l s.k) s.level)=_
  rw [aF (by omega) (by omega)]
 exact ⟨e,e,hb⟩
theorem ao6 {s:gG}(hI:nV s) (c1:s.k<s.m):((iG s).getD (gi s.l s.k).toNat []).Nodup∧(((iG s).getD (gi s.l s.k).toNat []).length:Int)≤1000∧∀r∈(iG s).getD (gi s.l s.k).toNat [],0≤r∧r<(s.bP.length:Int):=by
 have hx:=vM s hI c1
 obtain ⟨_,_,_,hT,_⟩:=hI
 refine hT.row _ ?_
 have hl:=hT.ol
 rw [List.getD_eq_getElem?_getD,List.getElem?_eq_getElem (by omega),Option.getD_some]
 exact List.getElem_mem _
theorem uP {s:gG}(hI:nV s) (c1:s.k<s.m) (c2:s.levels.getD (gi s.l s.k).toNat 0=s.level-1):Vj (uK s):=by
 obtain ⟨m1,m2,m3⟩:=lF hI c1 c2
 obtain ⟨o1,o2,o3⟩:=ao6 hI c1
 obtain ⟨_,_,_,hT,hS⟩:=hI
 exact ⟨rfl,Int.natCast_nonneg _,o2,rfl,o3,hS.len,hS.bd,by rw [m1];exact m3⟩
theorem NY {s:gG}(hI:nV s) (c1:s.k<s.m) (c2:s.levels.getD (gi s.l s.k).toNat 0=s.level-1):aen (mQ s):=by
 obtain ⟨m1,m2,m3⟩:=lF hI c1 c2
 obtain ⟨o1,o2,o3⟩:=ao6 hI c1
 obtain ⟨_,_,_,hT,hS⟩:=hI
 refine ⟨rfl,hS.bd,rfl,o2,fun r hr=>?_,by rw [m2];exact m3⟩
 have:=o3 r hr
 have hl:=hS.len
 show 0≤r∧r<(s.sums.length:Int)
 omega
theorem afa (s s':gG) (hI:nV s) (c1:s.k<s.m) (ht:(s'.sums,s'.levels,s'.some)=Dn (iG s) s.bP s.fJ s.bg s.most s.level (s.sums,s.levels,s.some) (gi s.l s.k)) (hk:s'.k=IntKind.i64.wrap (s.k+1))
  (h_m:s'.m=s.m) (h_l:s'.l=s.l) (h_v:s'.level=s.level) (h_g:s'.fJ=s.fJ) (h_c:s'.aI=s.aI) (h_r:s'.bP=s.bP) (h_a:s'.bg=s.bg) (h_w:s'.most=s.most) (h_O:iG s'=iG s):
  (nV s'∧wU s'<wU s)∧(fun s:gG=>swp (iG s) s.bP s.fJ s.bg s.most s.level (s.sums,s.levels,s.some) (s.l.drop s.k.toNat)) s'=(fun s:gG=>swp (iG s) s.bP s.fJ s.bg s.most s.level (s.sums,s.levels,s.some) (s.l.drop s.k.toNat)) s:=by
 have hx:=vM s hI c1
 obtain ⟨⟨h0,h1⟩,⟨h2,h3,h4,h5⟩,h6,hT,hS⟩:=hI
 rw [aF (x:=s.k+1) (by omega) (by omega)] at hk
 have e1:s'.sums=(Dn (iG s) s.bP s.fJ s.bg s.most s.level (s.sums,s.levels,s.some) (gi s.l s.k)).1:=congrArg (·.1) ht
 have e2:s'.levels=(Dn (iG s) s.bP s.fJ s.bg s.most s.level (s.sums,s.levels,s.some) (gi s.l s.k)).2.1:=congrArg (·.2.1) ht
 refine ⟨⟨⟨⟨by omega,by omega⟩,⟨by rw [h_m,h_l];exact h2,by omega,by omega,by omega⟩,by rw [h_g,h_c];exact h6,by rw [h_O,h_r,h_g,h_a,h_w,h_l];exact hT,?_⟩,by simp only [wU];omega⟩,?_⟩
 ·rw [h_r,h_l,e1,e2]
  exact afj hT hS hx.1 h4 h5
 ·simp only
  rw [h_O,h_r,h_g,h_a,h_w,h_v,h_l,ht,hk,(gi_step h0 (show s.k<s.l.length by omega)).1]
  rfl
theorem FP (s s':gG) (hI:nV s) (c1:s.k<s.m) (ht:(s'.sums,s'.levels,s'.some)=Dn (iG s) s.bP s.fJ s.bg s.most s.level (s.sums,s.levels,s.some) (gi s.l s.k)) (hk:s'.k=IntKind.i64.wrap (s.k+1))
  (h_m:s'.m=s.m) (h_l:s'.l=s.l) (h_v:s'.level=s.level) (h_g:s'.fJ=s.fJ) (h_c:s'.aI=s.aI) (h_r:s'.bP=s.bP) (h_a:s'.bg=s.bg) (h_w:s'.most=s.most) (h_O:iG s'=iG s):bY (fun s'=>nV s'∧wU s'<wU s) (fun x s'=>ac9 x s s') (.next s'):=(afa s s' hI c1 ht hk h_m h_l h_v h_g h_c h_r h_a h_w h_O).1
theorem FO (s s':gG) (hI:nV s) (c1:s.k<s.m) (ht:(s'.sums,s'.levels,s'.some)=Dn (iG s) s.bP s.fJ s.bg s.most s.level (s.sums,s.levels,s.some) (gi s.l s.k)) (hk:s'.k=IntKind.i64.wrap (s.k+1))
  (h_m:s'.m=s.m) (h_l:s'.l=s.l) (h_v:s'.level=s.level) (h_g:s'.fJ=s.fJ) (h_c:s'.aI=s.aI) (h_r:s'.bP=s.bP) (h_a:s'.bg=s.bg) (h_w:s'.most=s.most) (h_O:iG s'=iG s):bY (fun s'=>(fun s:gG=>swp (iG s) s.bP s.fJ s.bg s.most s.level (s.sums,s.levels,s.some) (s.l.drop s.k.toNat)) s'=(fun s:gG=>swp (iG s) s.bP s.fJ s.bg s.most s.level (s.sums,s.levels,s.some) (s.l.drop s.k.toNat)) s) (fun _ s'=>(fun s:gG=>swp (iG s) s.bP s.fJ s.bg s.most s.level (s.sums,s.levels,s.some) (s.l.drop s.k.toNat)) s'=(fun s:gG=>swp (iG s) s.bP s.fJ s.bg s.most s.level (s.sums,s.levels,s.some) (s.l.drop s.k.toNat)) s) (.next s'):=(afa s s' hI c1 ht hk h_m h_l h_v h_g h_c h_r h_a h_w h_O).2
theorem asz (s:gG) (hI:nV s):bY (fun s'=>nV s'∧wU s'<wU s) (fun x s'=>ac9 x s s') (abe s):=by
 unfold abe QR
 dsimp only [T.rd,T.rl]
 refine ai (fun c1=>?_) (fun c1=>?_)
 ·refine ai (fun c2=>?_) (fun c2=>?_)
  ·have c1:s.k<s.m:=by simpa using c1
   have hn:¬(s.levels.getD (gi s.l s.k).toNat 0=s.level-1∧s.level≤yR s.fJ (gi s.l s.k) (gi s.most (gi s.l s.k))):=fun h=>by
    obtain ⟨_,⟨h2,h3,h4,h5⟩,_⟩:=hI
    have c2:((s.levels.getD (gi s.l s.k).toNat 0) !=(IntKind.i64.wrap (s.level-1)))=true:=c2
    rw [aF (x:=s.level-1) (by omega) (by omega)] at c2
    have c2:¬s.levels.getD (gi s.l s.k).toNat 0=s.level-1:=by simpa using c2
    exact c2 h.1
   exact FP s _ hI (by simpa using c1) (by unfold Dn;rw [if_neg hn]) rfl rfl rfl rfl rfl rfl rfl rfl rfl rfl
  ·refine ai (fun c3=>?_) (fun c3=>?_)
   ·have c1:s.k<s.m:=by simpa using c1
    have hn:¬(s.levels.getD (gi s.l s.k).toNat 0=s.level-1∧s.level≤yR s.fJ (gi s.l s.k) (gi s.most (gi s.l s.k))):=fun h=>by
     obtain ⟨_,_,h6,_⟩:=hI
     simp only [decide_eq_true_eq] at c3
     rw [←h6] at c3
     have:=h.2
     unfold yR at this
     omega
    exact FP s _ hI (by simpa using c1) (by unfold Dn;rw [if_neg hn]) rfl rfl rfl rfl rfl rfl rfl rfl rfl rfl
   ·refine ai (fun c4=>?_) (fun c4=>?_)
    ·refine ai (fun c5=>?_) (fun c5=>?_)
     ·refine ai (fun c6=>?_) (fun c6=>?_)
      ·cases c6
      ·have c1:s.k<s.m:=by simpa using c1
       have c2:=tJ hI c2
       have hp:s.levels.getD (gi s.l s.k).toNat 0=s.level-1∧s.level≤yR s.fJ (gi s.l s.k) (gi s.most (gi s.l s.k)):=by
        refine ⟨c2,?_⟩
        have h6:=hI.2.2.1
        simp only [decide_eq_false_iff_not] at c3
        rw [←h6] at c3
        unfold yR
        omega
       have hE:=uP hI c1 c2
       obtain ⟨m1,m2,_⟩:=lF hI c1 c2
       rcases su _ hE with ⟨q1,q2⟩ |⟨q1,q2,q3⟩
       ·rw [q1] at c4
        cases c4
       ·rw [m1] at q3
        have q3:((iG s).getD (gi s.l s.k).toNat []).all (Bc s.bP s.sums (Ld s.fJ s.bg (gi s.l s.k) s.level))=false:=q3
        exact FP s _ hI (by simpa using c1) (by unfold Dn;rw [if_pos hp,if_neg (by rw [q3];simp)]) rfl rfl rfl rfl rfl rfl rfl rfl rfl rfl
     ·refine ai (fun c6=>?_) (fun c6=>?_)
      ·have c1:s.k<s.m:=by simpa using c1
       have c2:=tJ hI c2
       have hp:s.levels.getD (gi s.l s.k).toNat 0=s.level-1∧s.level≤yR s.fJ (gi s.l s.k) (gi s.most (gi s.l s.k)):=by
        refine ⟨c2,?_⟩
        have h6:=hI.2.2.1
        simp only [decide_eq_false_iff_not] at c3
        rw [←h6] at c3
        unfold yR
        omega
       have hE:=uP hI c1 c2
       obtain ⟨m1,m2,_⟩:=lF hI c1 c2
       rcases su _ hE with ⟨q1,q2⟩ |⟨q1,q2,q3⟩
       ·rw [q1] at c4
        cases c4
       ·rw [q2] at c5
        cases c5
      ·have c1:s.k<s.m:=by simpa using c1
       have c2:=tJ hI c2
       have hp:s.levels.getD (gi s.l s.k).toNat 0=s.level-1∧s.level≤yR s.fJ (gi s.l s.k) (gi s.most (gi s.l s.k)):=by
        refine ⟨c2,?_⟩
        have h6:=hI.2.2.1
        simp only [decide_eq_false_iff_not] at c3
        rw [←h6] at c3
        unfold yR
        omega
       have hE:=uP hI c1 c2
       obtain ⟨m1,m2,_⟩:=lF hI c1 c2
       rcases su _ hE with ⟨q1,q2⟩ |⟨q1,q2,q3⟩
       ·rw [q1] at c4
        cases c4
       ·rw [q2] at c5
        cases c5
    ·refine ai (fun c5=>?_) (fun c5=>?_)
     ·refine ai (fun c6=>?_) (fun c6=>?_)
      ·cases c5
      ·cases c5
     ·refine ai (fun c6=>?_) (fun c6=>?_)
      ·have c1:s.k<s.m:=by simpa using c1
       have c2:=tJ hI c2
       have hp:s.levels.getD (gi s.l s.k).toNat 0=s.level-1∧s.level≤yR s.fJ (gi s.l s.k) (gi s.most (gi s.l s.k)):=by
        refine ⟨c2,?_⟩
        have h6:=hI.2.2.1
        simp only [decide_eq_false_iff_not] at c3
        rw [←h6] at c3
        unfold yR
        omega
       have hE:=uP hI c1 c2
       obtain ⟨m1,m2,_⟩:=lF hI c1 c2
       have hR:=NY hI c1 c2
       rcases su _ hE with ⟨q1,q2⟩ |⟨q1,q2,q3⟩
       ·rw [m1] at q2
        have q2:((iG s).getD (gi s.l s.k).toNat []).all (Bc s.bP s.sums (Ld s.fJ s.bg (gi s.l s.k) s.level))=true:=q2
        have r1:=afi _ hR
        rw [m2] at r1
        have r1:(lg (mQ s)).sums=zI s.sums (Ld s.fJ s.bg (gi s.l s.k) s.level) ((iG s).getD (gi s.l s.k).toNat []):=r1
        have w1:=(Sm hI c2).1
        exact FP s _ hI (by simpa using c1) (by unfold Dn;rw [if_pos hp,if_pos q2,←r1,←w1]) rfl rfl rfl rfl rfl rfl rfl rfl rfl rfl
       ·rw [q1] at c4
        cases c4
      ·cases c6
 ·have c1:s.m≤s.k:=by simpa using c1
  have h0:=hI.1
  exact ⟨rfl,by omega⟩
def JS:dn gG:=⟨0,129,[2,3,4,12,14,15,16,66,67,68],[],aAR,az4,fun v b=>⟨bf (.int .i64) (v.getD 0 .junk),bf (.int .i64) (v.getD 1 .junk),gI (v.getD 3 .junk),gI (v.getD 5 .junk),J7 (v.getD 6 .junk),bf (.int .i64) (v.getD 7 .junk),gI (v.getD 8 .junk),gI (v.getD 9 .junk),bf iJ (bC (aV b 0) 0),bf .str (bC (aV b 0) 1),bf iQ (bC (aV b 0) 2),bf gU (bC (aV b 0) 3),bf iR (bC (aV b 0) 4),bf iJ (bC (aV b 1) 0),bf .str (bC (aV b 1) 1),bf iQ (bC (aV b 1) 2),bf gU (bC (aV b 1) 3),bf iR (bC (aV b 1) 4),bf FI (bC (aV b 1) 5),bf (.int .i64) (bC (aV b 1) 6),bf (.int .i64) (bC (aV b 1) 7),bf (.int .i64) (bC (aV b 1) 8),bf (.int .i64) (bC (aV b 1) 9),bf (.int .i64) (bC (aV b 1) 10),bf (.int .i64) (bC (aV b 1) 11),bf (.int .i64) (bC (aV b 1) 12),bf (.int .i64) (bC (aV b 1) 13),bf (.int .i64) (bC (aV b 1) 14),bf (.int .i64) (bC (aV b 1) 15),bf (.int .i64) (bC (aV b 1) 16),bf (.int .i64) (bC (aV b 1) 17),bf (.int .i64) (bC (aV b 1) 18),bf (.int .i64) (bC (aV b 1) 19),bf (.int .i64) (bC (aV b 1) 20),bf (.int .i64) (bC (aV b 1) 21),bf (.int .i64) (bC (aV b 1) 23),jm (.int .i64) (aV b 2),jm (.int .i64) (aV b 3)⟩,QR,fun s r=> {r with most:=s.most,order:=s.order,n:=s.n,level:=s.level,l:=s.l,m:=s.m,aH:=s.aH,aY:=s.aY,aQ:=s.aQ,aI:=s.aI,dA:=s.dA,y9:=s.y9,y7:=s.y7,y8:=s.y8,fJ:=s.fJ,zf:=s.zf,bP:=s.bP,jO:=s.jO,jM:=s.jM,jL:=s.jL,jK:=s.jK,jJ:=s.jJ,jI:=s.jI,jH:=s.jH,jG:=s.jG,jF:=s.jF,jE:=s.jE,eP:=s.eP,eG:=s.eG,eu:=s.eu,dZ:=s.dZ,dY:=s.dY,dX:=s.dX,bg:=s.bg},fun s=>s,fun _ s=>s,[.exit 2],Ns,nV,wU⟩
abbrev fG:=JS.run
abbrev anW:=JS.lU
abbrev av3:=JS.q
set_option maxRecDepth 100000 in
set_option maxHeartbeats 4000000 in
theorem asR (s:gG) (hI:nV s):(QR s).all (fun _=>True):=by
 refine ⟨fun c1=>⟨?_,?_,?_,fun c2=>⟨⟨rfl,rfl⟩,⟨rfl,rfl⟩,trivial⟩,fun c2=>⟨?_,?_,?_,fun c3=>⟨⟨rfl,rfl⟩,⟨rfl,rfl⟩,trivial⟩,fun c3=>⟨?_,?_,?_,?_,?_,?_,?_,?_,⟨rfl,rfl⟩,⟨rfl,rfl⟩,?_,fun c4=>⟨fun c5=>⟨fun c6=>⟨⟨rfl,rfl⟩,⟨rfl,rfl⟩,trivial⟩,fun c6=>⟨⟨rfl,rfl⟩,⟨rfl,rfl⟩,trivial⟩⟩,fun c5=>⟨?_,⟨rfl,rfl⟩,⟨rfl,rfl⟩,?_,?_,?_,fun c7=>⟨⟨rfl,rfl⟩,?_,trivial⟩,fun c7=>⟨⟨rfl,rfl⟩,?_,trivial⟩⟩⟩,fun c4=>⟨fun c8=>⟨fun c9=>⟨⟨rfl,rfl⟩,⟨rfl,rfl⟩,trivial⟩,fun c9=>⟨⟨rfl,rfl⟩,⟨rfl,rfl⟩,trivial⟩⟩,fun c8=>⟨?_,⟨rfl,rfl⟩,⟨rfl,rfl⟩,?_,?_,?_,fun c10=>⟨⟨rfl,rfl⟩,?_,trivial⟩,fun c10=>⟨⟨rfl,rfl⟩,?_,trivial⟩⟩⟩⟩⟩⟩,fun c1=>⟨⟨rfl,rfl⟩,⟨rfl,rfl⟩,trivial⟩⟩
 ·(have:=hI.1;have:=hI.2.1.1;simp only [decide_eq_true_eq] at c1;omega)
 iterate 9 · (have hx:=vM s hI (by simpa using c1);omega)
 ·(have hx:=vM s hI (by simpa using c1);obtain ⟨w1,w2⟩:=Sm hI (tJ hI c2);have hh:=gm.1 (hI.2.2.2.1.has _ hx.1);have hb:=hI.2.1;(first|rw [w2] |rw [w1]);omega)
 ·(have hx:=vM s hI (by simpa using c1);omega)
 ·(have hx:=vM s hI (by simpa using c1);obtain ⟨w1,w2⟩:=Sm hI (tJ hI c2);have hh:=gm.1 (hI.2.2.2.1.has _ hx.1);have hb:=hI.2.1;(first|rw [w2] |rw [w1]);omega)
 ·(have hx:=vM s hI (by simpa using c1);omega)
 ·exact ⟨uP hI (by simpa using c1) (tJ hI c2),rfl,rfl⟩
 ·(have hx:=vM s hI (by simpa using c1);omega)
 ·exact ⟨NY hI (by simpa using c1) (tJ hI c2),rfl,rfl⟩
 iterate 2 · (have hx:=vM s hI (by simpa using c1);omega)
 iterate 2 · exact ⟨rfl,by simp⟩
 ·(have hx:=vM s hI (by simpa using c1);omega)
 ·exact ⟨NY hI (by simpa using c1) (tJ hI c2),rfl,rfl⟩
 iterate 2 · (have hx:=vM s hI (by simpa using c1);omega)
 iterate 2 · exact ⟨rfl,by simp⟩
noncomputable def aa2:Specs:=bn [(24,oC),(61,qV),(94,qR),(96,qQ)]
theorem aia:∀g S,aa2 g=some S→Valid Tryz.prog aT g S:=aX (l:=[(24,oC),(61,qV),(94,qR),(96,qQ)]) ⟨C9,Gx,Gv,Gu,trivial⟩
noncomputable def ap0:Hand:=inl Tryz.prog aT aa2 (dG 97 4 8 (Qy.lp) (dG 93 7 2 (yY.lp) (dG 95 1 3 (xP.lp) (dG 93 1 2 (vU.lp) (jo Tryz.prog aT (aa2) 20 2))))) 9
theorem ayH:cO Tryz.prog aT ap0:=bJ aia (aP Tryz.func97 rfl (by kernel_rfl) VL (aP Tryz.func93 rfl (by kernel_rfl) FN (aP Tryz.func95 rfl (by kernel_rfl) zW (aP Tryz.func93 rfl (by kernel_rfl) xQ (dw aia))))) 9
theorem WN:JS.Ok:=⟨fun s=>by kernel_rfl,fun s=>by kernel_rfl,fun s=>rfl,fun s t r=>rfl,fun s=>rfl,fun s=>by kernel_rfl⟩
theorem Wh:JS.Pf (ac9):=⟨axz,fun _ _=>rfl,asz,asR⟩
set_option maxRecDepth 100000 in
set_option maxHeartbeats 4000000 in
theorem ak7:bG Tryz.prog aT (AN 0) (.loop BB) JS.lp:=dn.snd WN Wh (bI (Γ:=aa2) (K:=ap0) (L:=aB) aia ayH BB (fun b hb=>by rw [show ay BB=[] by kernel_rfl] at hb;cases hb)) (fun s=>by kernel_rfl)
theorem alJ (s:gG) (hE:Ns s):∃s',nV s'∧ac9 (anW s) s' (fG s):=dn.fin WN Wh s hE
theorem afb (s:gG) (hE:Ns s):(fun s:gG=>swp (iG s) s.bP s.fJ s.bg s.most s.level (s.sums,s.levels,s.some) (s.l.drop s.k.toNat)) (fG s)=(fun s:gG=>swp (iG s) s.bP s.fJ s.bg s.most s.level (s.sums,s.levels,s.some) (s.l.drop s.k.toNat)) s:=by
 exact dn.vP WN Wh (fun s:gG=>swp (iG s) s.bP s.fJ s.bg s.most s.level (s.sums,s.levels,s.some) (s.l.drop s.k.toNat)) (fun s hI=>by
  show bY _ _ (abe s)
  unfold abe QR
  dsimp only [T.rd,T.rl]
  refine ai (fun c1=>?_) (fun c1=>?_)
  ·refine ai (fun c2=>?_) (fun c2=>?_)
   ·have c1:s.k<s.m:=by simpa using c1
    have hn:¬(s.levels.getD (gi s.l s.k).toNat 0=s.level-1∧s.level≤yR s.fJ (gi s.l s.k) (gi s.most (gi s.l s.k))):=fun h=>by
     obtain ⟨_,⟨h2,h3,h4,h5⟩,_⟩:=hI
     have c2:((s.levels.getD (gi s.l s.k).toNat 0) !=(IntKind.i64.wrap (s.level-1)))=true:=c2
     rw [aF (x:=s.level-1) (by omega) (by omega)] at c2
     have c2:¬s.levels.getD (gi s.l s.k).toNat 0=s.level-1:=by simpa using c2
     exact c2 h.1
    exact FO s _ hI (by simpa using c1) (by unfold Dn;rw [if_neg hn]) rfl rfl rfl rfl rfl rfl rfl rfl rfl rfl
   ·refine ai (fun c3=>?_) (fun c3=>?_)
    ·have c1:s.k<s.m:=by simpa using c1
     have hn:¬(s.levels.getD (gi s.l s.k).toNat 0=s.level-1∧s.level≤yR s.fJ (gi s.l s.k) (gi s.most (gi s.l s.k))):=fun h=>by
      obtain ⟨_,_,h6,_⟩:=hI
      simp only [decide_eq_true_eq] at c3
      rw [←h6] at c3
      have:=h.2
      unfold yR at this
      omega
     exact FO s _ hI (by simpa using c1) (by unfold Dn;rw [if_neg hn]) rfl rfl rfl rfl rfl rfl rfl rfl rfl rfl
    ·refine ai (fun c4=>?_) (fun c4=>?_)
     ·refine ai (fun c5=>?_) (fun c5=>?_)
      ·refine ai (fun c6=>?_) (fun c6=>?_)
       ·cases c6
       ·have c1:s.k<s.m:=by simpa using c1
        have c2:=tJ hI c2
        have hp:s.levels.getD (gi s.l s.k).toNat 0=s.level-1∧s.level≤yR s.fJ (gi s.l s.k) (gi s.most (gi s.l s.k)):=by
         refine ⟨c2,?_⟩
         have h6:=hI.2.2.1
         simp only [decide_eq_false_iff_not] at c3
         rw [←h6] at c3
         unfold yR
         omega
        have hE:=uP hI c1 c2
        obtain ⟨m1,m2,_⟩:=lF hI c1 c2
        rcases su _ hE with ⟨q1,q2⟩ |⟨q1,q2,q3⟩
        ·rw [q1] at c4
         cases c4
        ·rw [m1] at q3
         have q3:((iG s).getD (gi s.l s.k).toNat []).all (Bc s.bP s.sums (Ld s.fJ s.bg (gi s.l s.k) s.level))=false:=q3
         exact FO s _ hI (by simpa using c1) (by unfold Dn;rw [if_pos hp,if_neg (by rw [q3];simp)]) rfl rfl rfl rfl rfl rfl rfl rfl rfl rfl
      ·refine ai (fun c6=>?_) (fun c6=>?_)
       ·have c1:s.k<s.m:=by simpa using c1
        have c2:=tJ hI c2
        have hp:s.levels.getD (gi s.l s.k).toNat 0=s.level-1∧s.level≤yR s.fJ (gi s.l s.k) (gi s.most (gi s.l s.k)):=by
         refine ⟨c2,?_⟩
         have h6:=hI.2.2.1
         simp only [decide_eq_false_iff_not] at c3
         rw [←h6] at c3
         unfold yR
         omega
        have hE:=uP hI c1 c2
        obtain ⟨m1,m2,_⟩:=lF hI c1 c2
        rcases su _ hE with ⟨q1,q2⟩ |⟨q1,q2,q3⟩
        ·rw [q1] at c4
         cases c4
        ·rw [q2] at c5
         cases c5
       ·have c1:s.k<s.m:=by simpa using c1
        have c2:=tJ hI c2
        have hp:s.levels.getD (gi s.l s.k).toNat 0=s.level-1∧s.level≤yR s.fJ (gi s.l s.k) (gi s.most (gi s.l s.k)):=by
         refine ⟨c2,?_⟩
         have h6:=hI.2.2.1
         simp only [decide_eq_false_iff_not] at c3
         rw [←h6] at c3
         unfold yR
         omega
        have hE:=uP hI c1 c2
        obtain ⟨m1,m2,_⟩:=lF hI c1 c2
        rcases su _ hE with ⟨q1,q2⟩ |⟨q1,q2,q3⟩
        ·rw [q1] at c4
         cases c4
        ·rw [q2] at c5
         cases c5
     ·refine ai (fun c5=>?_) (fun c5=>?_)
      ·refine ai (fun c6=>?_) (fun c6=>?_)
       ·cases c5
       ·cases c5
      ·refine ai (fun c6=>?_) (fun c6=>?_)
       ·have c1:s.k<s.m:=by simpa using c1
        have c2:=tJ hI c2
        have hp:s.levels.getD (gi s.l s.k).toNat 0=s.level-1∧s.level≤yR s.fJ (gi s.l s.k) (gi s.most (gi s.l s.k)):=by
         refine ⟨c2,?_⟩
         have h6:=hI.2.2.1
         simp only [decide_eq_false_iff_not] at c3
         rw [←h6] at c3
         unfold yR
         omega
        have hE:=uP hI c1 c2
        obtain ⟨m1,m2,_⟩:=lF hI c1 c2
        have hR:=NY hI c1 c2
        rcases su _ hE with ⟨q1,q2⟩ |⟨q1,q2,q3⟩
        ·rw [m1] at q2
         have q2:((iG s).getD (gi s.l s.k).toNat []).all (Bc s.bP s.sums (Ld s.fJ s.bg (gi s.l s.k) s.level))=true:=q2
         have r1:=afi _ hR
         rw [m2] at r1
         have r1:(lg (mQ s)).sums=zI s.sums (Ld s.fJ s.bg (gi s.l s.k) s.level) ((iG s).getD (gi s.l s.k).toNat []):=r1
         have w1:=(Sm hI c2).1
         exact FO s _ hI (by simpa using c1) (by unfold Dn;rw [if_pos hp,if_pos q2,←r1,←w1]) rfl rfl rfl rfl rfl rfl rfl rfl rfl rfl
        ·rw [q1] at c4
         cases c4
       ·cases c6
  ·rfl) s hE
theorem alI (s:gG) (hE:Ns s):((fG s).sums,(fG s).levels,(fG s).some)=swp (iG s) s.bP s.fJ s.bg s.most s.level (s.sums,s.levels,s.some) s.l:=by
 have q3:=afb s hE
 obtain ⟨s',hI,q1,q2⟩:=alJ s hE
 obtain ⟨h0,h1,_⟩:=hE
 simp only at q3
 rw [q2,show (fG s).m=s.m from rfl,show (fG s).l=s.l from rfl,List.drop_eq_nil_of_le (by omega),h0] at q3
 exact q3
end Go.Proofs.YtlihnbimgclogaaGreatDoor
namespace Go.Proofs.YtlihnbimgclogaaGreatDoor
open Go.Sx
structure mr where
 most:List Int
 order:List Int
 n:Int
 level:Int
 aH:List Cd
 aY:List ByteArray
 aQ:List Ko
 aI:List Ch
 dA:List Ba
 y9:List Cd
 y7:List ByteArray
 y8:List Ko
 fJ:List Ch
 zf:List Ba
 bP:List Rw
 jO:List Int
 jM:List Int
 jL:List Int
 jK:List Int
 jJ:List Int
 jI:List Int
 jH:List Int
 jG:List Int
 jF:List Int
 jE:List Int
 eP:List Int
 eG:List Int
 eu:List Int
 dZ:List Int
 dY:List Int
 dX:List Int
 bg:List Int
 sums:List Int
 levels:List Int
def aAQ (s:mr):List LV:=[.xl (.int .i64) s.most,.xl (.int .i64) s.order,.own 0 0,.v (.int .i64 s.n),.own 1 0,.v (.int .i64 s.level)]
def az3 (s:mr):List aS:=[⟨[.xl iJ s.aH,.xl .str s.aY,.xl iQ s.aQ,.xl gU s.aI,.xl iR s.dA],28,.cl,false⟩,⟨[.xl iJ s.y9,.xl .str s.y7,.xl iQ s.y8,.xl gU s.fJ,.xl iR s.zf,.xl FI s.bP,.xl (.int .i64) s.jO,.xl (.int .i64) s.jM,.xl (.int .i64) s.jL,.xl (.int .i64) s.jK,.xl (.int .i64) s.jJ,.xl (.int .i64) s.jI,.xl (.int .i64) s.jH,.xl (.int .i64) s.jG,.xl (.int .i64) s.jF,.xl (.int .i64) s.jE,.xl (.int .i64) s.eP,.xl (.int .i64) s.eG,.xl (.int .i64) s.eu,.xl (.int .i64) s.dZ,.xl (.int .i64) s.dY,.xl (.int .i64) s.dX,.os 2 1 0 (List.length s.sums),.xl (.int .i64) s.bg,.os 3 1 0 (List.length s.levels)],148,.cl,false⟩,⟨[],3,.vec (.int .i64) s.sums,false⟩,⟨[],3,.vec (.int .i64) s.levels,false⟩]
noncomputable def Je:Code:=((ay (Tryz.f52.body.getD .skip))[0]?).getD .skip
def gY (s:mr):gG:=(⟨s.most,s.order,s.n,s.level,false,s.order,(List.length s.order:Int),(0:Int),s.aH,s.aY,s.aQ,s.aI,s.dA,s.y9,s.y7,s.y8,s.fJ,s.zf,s.bP,s.jO,s.jM,s.jL,s.jK,s.jJ,s.jI,s.jH,s.jG,s.jF,s.jE,s.eP,s.eG,s.eu,s.dZ,s.dY,s.dX,s.bg,s.sums,s.levels⟩:gG)
def QO (s:mr):T (Rd mr):=
 .rl s.sums (.rl s.levels (.req (av3 (gY s)) (.br (!(fG (gY s)).some) (.rl (fG (gY s)).sums (.rl (fG (gY s)).levels (.ok (.stop (.exit 0) {s with sums:=(fG (gY s)).sums,levels:=(fG (gY s)).levels})))) (.rl (fG (gY s)).sums (.rl (fG (gY s)).levels (.ok (.next {s with level:=(IntKind.i64.wrap (s.level+1)),sums:=(fG (gY s)).sums,levels:=(fG (gY s)).levels})))))))
abbrev abd (s:mr):=(QO s).rd s
def uy (s:mr):List (List Int):=[s.jO,s.jM,s.jL,s.jK,s.jJ,s.jI,s.jH,s.jG,s.jF,s.jE,s.eP,s.eG,s.eu,s.dZ,s.dY,s.dX]
def adi (s:mr):Prop:=s.level=1∧(s.order.length:Int)≤1000∧s.fJ=s.aI∧OkT (uy s) s.bP s.fJ s.bg s.most s.order∧OkS s.bP s.order s.sums s.levels
def Jz (s:mr):Prop:=(1≤s.level∧s.level≤81)∧(s.order.length:Int)≤1000∧s.fJ=s.aI∧OkT (uy s) s.bP s.fJ s.bg s.most s.order∧OkS s.bP s.order s.sums s.levels
def Ox (s:mr):Nat:=(82-s.level).toNat
def aqZ (x:Ex) (_ _:mr):Prop:=x=.exit 0
theorem axy:∀s,adi s→Jz s:=by
 intro s h
 obtain ⟨h0,h1⟩:=h
 exact ⟨by omega,h1⟩
theorem ae8 (s:mr) (hI:Jz s):Ns (gY s):=by
 obtain ⟨⟨h0,h1⟩,h2,h3,hT,hS⟩:=hI
 exact ⟨rfl,⟨rfl,h2,h0,h1⟩,h3,hT,hS⟩
theorem ao5 (s:mr) (hI:Jz s):((fG (gY s)).sums,(fG (gY s)).levels,(fG (gY s)).some)=swp (uy s) s.bP s.fJ s.bg s.most s.level (s.sums,s.levels,false) s.order:=alI _ (ae8 s hI)
theorem asy (s:mr) (hI:Jz s):bY (fun s'=>Jz s'∧Ox s'<Ox s) (fun x s'=>aqZ x s s') (abd s):=by
 unfold abd QO
 dsimp only [T.rd,T.rl]
 have hr:=ao5 s hI
 obtain ⟨⟨h0,h1⟩,h2,h3,hT,hS⟩:=hI
 refine ai (fun c1=>rfl) (fun c1=>?_)
 have c1:(fG (gY s)).some=true:=by simpa using c1
 have hk:=VI hT h0 h1 s.order (s.sums,s.levels,false) (fun _ h=>h) hS
 have hs:=zU (O:=uy s) (rows:=s.bP) (gs:=s.fJ) (alive:=s.bg) (most:=s.most) (level:=s.level) s.order (s.sums,s.levels,false)
 rw [←hr] at hk hs
 have h80:s.level≤80:=by
  rcases hs c1 with h|h
  ·cases h
  ·exact h
 rw [aF (x:=s.level+1) (by omega) (by omega)]
 exact ⟨⟨⟨by simp only;omega,by simp only;omega⟩,h2,h3,hT,hk⟩,by simp only [Ox];omega⟩
def JR:dn mr:=⟨0,129,[2,3,4,12,14,15],[.ps 14 6 (.int .i64),.ps 14 7 (.int .i64),.ps 14 8 (.int .i64),.ps 14 9 (.int .i64),.ps 14 10 (.int .i64),.ps 14 11 (.int .i64),.ps 14 12 (.int .i64),.ps 14 13 (.int .i64),.ps 14 14 (.int .i64),.ps 14 15 (.int .i64),.ps 14 16 (.int .i64),.ps 14 17 (.int .i64),.ps 14 18 (.int .i64),.ps 14 19 (.int .i64),.ps 14 20 (.int .i64),.ps 14 21 (.int .i64)],aAQ,az3,fun v b=>⟨bf (.int .i64) (v.getD 0 .junk),bf (.int .i64) (v.getD 1 .junk),gI (v.getD 3 .junk),gI (v.getD 5 .junk),bf iJ (bC (aV b 0) 0),bf .str (bC (aV b 0) 1),bf iQ (bC (aV b 0) 2),bf gU (bC (aV b 0) 3),bf iR (bC (aV b 0) 4),bf iJ (bC (aV b 1) 0),bf .str (bC (aV b 1) 1),bf iQ (bC (aV b 1) 2),bf gU (bC (aV b 1) 3),bf iR (bC (aV b 1) 4),bf FI (bC (aV b 1) 5),bf (.int .i64) (bC (aV b 1) 6),bf (.int .i64) (bC (aV b 1) 7),bf (.int .i64) (bC (aV b 1) 8),bf (.int .i64) (bC (aV b 1) 9),bf (.int .i64) (bC (aV b 1) 10),bf (.int .i64) (bC (aV b 1) 11),bf (.int .i64) (bC (aV b 1) 12),bf (.int .i64) (bC (aV b 1) 13),bf (.int .i64) (bC (aV b 1) 14),bf (.int .i64) (bC (aV b 1) 15),bf (.int .i64) (bC (aV b 1) 16),bf (.int .i64) (bC (aV b 1) 17),bf (.int .i64) (bC (aV b 1) 18),bf (.int .i64) (bC (aV b 1) 19),bf (.int .i64) (bC (aV b 1) 20),bf (.int .i64) (bC (aV b 1) 21),bf (.int .i64) (bC (aV b 1) 23),jm (.int .i64) (aV b 2),jm (.int .i64) (aV b 3)⟩,QO,fun s r=> {r with most:=s.most,order:=s.order,n:=s.n,aH:=s.aH,aY:=s.aY,aQ:=s.aQ,aI:=s.aI,dA:=s.dA,y9:=s.y9,y7:=s.y7,y8:=s.y8,fJ:=s.fJ,zf:=s.zf,bP:=s.bP,jO:=s.jO,jM:=s.jM,jL:=s.jL,jK:=s.jK,jJ:=s.jJ,jI:=s.jI,jH:=s.jH,jG:=s.jG,jF:=s.jF,jE:=s.jE,eP:=s.eP,eG:=s.eG,eu:=s.eu,dZ:=s.dZ,dY:=s.dY,dX:=s.dX,bg:=s.bg},fun s=>s,fun _ s=>s,[.exit 0],adi,Jz,Ox⟩
abbrev ji:=JR.run
abbrev Qv:=JR.q
theorem asQ (s:mr) (hI:Jz s):(QO s).all (fun _=>True):=by
 refine ⟨⟨rfl,rfl⟩,⟨rfl,rfl⟩,?_,fun c1=>⟨⟨rfl,rfl⟩,⟨rfl,rfl⟩,trivial⟩,fun c1=>⟨⟨rfl,rfl⟩,⟨rfl,rfl⟩,trivial⟩⟩
 ·exact ⟨ae8 s hI,rfl,rfl⟩
noncomputable def TI:Specs:=bn [(24,oC),(61,qV),(94,qR),(96,qQ)]
theorem aaW:∀g S,TI g=some S→Valid Tryz.prog aT g S:=aX (l:=[(24,oC),(61,qV),(94,qR),(96,qQ)]) ⟨C9,Gx,Gv,Gu,trivial⟩
noncomputable def ahW:Hand:=inl Tryz.prog aT TI (dG 97 4 8 (Qy.lp) (dG 93 7 2 (yY.lp) (dG 95 1 3 (xP.lp) (dG 93 1 2 (vU.lp) (jo Tryz.prog aT (TI) 20 2))))) 9
theorem apO:cO Tryz.prog aT ahW:=bJ aaW (aP Tryz.func97 rfl (by kernel_rfl) VL (aP Tryz.func93 rfl (by kernel_rfl) FN (aP Tryz.func95 rfl (by kernel_rfl) zW (aP Tryz.func93 rfl (by kernel_rfl) xQ (dw aaW))))) 9
theorem agw:JR.Ok:=⟨fun s=>by kernel_rfl,fun s=>by kernel_rfl,fun s=>rfl,fun s t r=>rfl,fun s=>rfl,fun s=>by kernel_rfl⟩
theorem afG:JR.Pf (aqZ):=⟨axy,fun _ _=>rfl,asy,asQ⟩
theorem ak6:bG Tryz.prog aT (AN 0) (.loop Je) JR.lp:=dn.snd agw afG (bI (Γ:=TI) (K:=ahW) (L:=(fun i=>if i=13 then JS.lp else aB i)) aaW apO Je (fun b hb=>by
 rw [show ay _=[BB] by kernel_rfl] at hb
 simp only [List.mem_cons,List.not_mem_nil,or_false] at hb
 subst hb
 exact ak7)) (fun s=>by kernel_rfl)
theorem alH (s:mr) (hE:adi s):(ji s).levels=shl (uy s) s.bP s.fJ s.bg s.most s.order 81 1 s.sums s.levels:=by
 have hk:=dn.rC agw afG (V:=fun s:mr=>shl (uy s) s.bP s.fJ s.bg s.most s.order (82-s.level).toNat s.level s.sums s.levels) (K:=fun _ s' v=>s'.levels=v) (fun s hI=>by
  have hr:=ao5 s hI
  have hs:=zU (O:=uy s) (rows:=s.bP) (gs:=s.fJ) (alive:=s.bg) (most:=s.most) (level:=s.level) s.order (s.sums,s.levels,false)
  obtain ⟨⟨h0,h1⟩,h2,h3,hT,hS⟩:=hI
  rw [←hr] at hs
  have hf:(82-s.level).toNat=(81-s.level).toNat+1:=by omega
  show bY _ _ (abd s)
  unfold abd QO
  dsimp only [T.rd,T.rl]
  refine ai (fun c1=>?_) (fun c1=>?_)
  ·have c1:(fG (gY s)).some=false:=by simpa using c1
   show (fG (gY s)).levels=shl _ _ _ _ _ _ _ _ _ _
   rw [hf,shl,←hr,if_neg (by simp only [c1];simp)]
  ·have c1:(fG (gY s)).some=true:=by simpa using c1
   have h80:s.level≤80:=by
    rcases hs c1 with h|h
    ·cases h
    ·exact h
   rw [aF (x:=s.level+1) (by omega) (by omega)]
   show shl (uy s) s.bP s.fJ s.bg s.most s.order (82-(s.level+1)).toNat (s.level+1) (fG (gY s)).sums (fG (gY s)).levels=shl (uy s) s.bP s.fJ s.bg s.most s.order (82-s.level).toNat s.level s.sums s.levels
   rw [hf,show 82-(s.level+1)=81-s.level by omega]
   conv=>rhs;rw [shl,←hr]
   simp only [c1,if_true]) s hE
 rw [hk,hE.1]
 rfl
structure qW where
 l:List Ch
 m:Int
 k:Int
 y9:List Cd
 y7:List ByteArray
 y8:List Ko
 fJ:List Ch
 zf:List Ba
 bP:List Rw
 jO:List Int
 jM:List Int
 jL:List Int
 jK:List Int
 jJ:List Int
 jI:List Int
 jH:List Int
 jG:List Int
 jF:List Int
 jE:List Int
 eP:List Int
 eG:List Int
 eu:List Int
 dZ:List Int
 dY:List Int
 dX:List Int
 bg:List Int
 out:List Int
 sums:List Int
 levels:List Int
def aAP (s:qW):List LV:=[.own 0 0,.os 1 1 0 (List.length s.out),.xl gU s.l,.v (.int .i64 s.m),.v (.int .i64 s.k)]
def az2 (s:qW):List aS:=[⟨[.xl iJ s.y9,.xl .str s.y7,.xl iQ s.y8,.xl gU s.fJ,.xl iR s.zf,.xl FI s.bP,.xl (.int .i64) s.jO,.xl (.int .i64) s.jM,.xl (.int .i64) s.jL,.xl (.int .i64) s.jK,.xl (.int .i64) s.jJ,.xl (.int .i64) s.jI,.xl (.int .i64) s.jH,.xl (.int .i64) s.jG,.xl (.int .i64) s.jF,.xl (.int .i64) s.jE,.xl (.int .i64) s.eP,.xl (.int .i64) s.eG,.xl (.int .i64) s.eu,.xl (.int .i64) s.dZ,.xl (.int .i64) s.dY,.xl (.int .i64) s.dX,.os 2 1 0 (List.length s.sums),.xl (.int .i64) s.bg,.os 3 1 0 (List.length s.levels)],148,.cl,false⟩,⟨[],3,.vec (.int .i64) s.out,false⟩,⟨[],3,.vec (.int .i64) s.sums,false⟩,⟨[],3,.vec (.int .i64) s.levels,false⟩]
noncomputable def BA:Code:=((ay (Tryz.f52.body.getD .skip))[1]?).getD .skip
def Zr (s:qW):T (Rd qW):=
 .br (decide (s.k<s.m)) (.req (0≤s.k∧s.k<(List.length s.l:Int)) (.req (0≤s.k∧s.k<((List.length s.levels:Nat):Int)) (.req (s.k.toNat<List.length s.levels) (.req ((1≤(bU s.l s.k).2.2.2.1∧(bU s.l s.k).2.2.2.1≤80∧1≤(bU s.l s.k).2.2.2.2.2.1∧(bU s.l s.k).2.2.2.2.2.1≤80)∧0≤(s.levels.getD s.k.toNat (Ty.dflt (.int .i64)))∧(s.levels.getD s.k.toNat (Ty.dflt (.int .i64)))≤1000) (.req (0≤s.k∧s.k<((List.length s.out:Nat):Int)) (.req (s.k.toNat<List.length s.out) (.req (0=0∧(List.length s.out)=List.length (s.out.set s.k.toNat (CZ (bU s.l s.k).2.2.2.1 (bU s.l s.k).2.2.2.2.2.1 (s.levels.getD s.k.toNat (Ty.dflt (.int .i64)))))) (.rl s.sums (.rl s.levels (.ok (.next {s with k:=(IntKind.i64.wrap (s.k+1)),out:=(s.out.set s.k.toNat (CZ (bU s.l s.k).2.2.2.1 (bU s.l s.k).2.2.2.2.2.1 (s.levels.getD s.k.toNat (Ty.dflt (.int .i64)))))}))))))))))) (.rl s.out (.rl s.sums (.rl s.levels (.ok (.stop (.exit 4) s)))))
abbrev aqA (s:qW):=(Zr s).rd s
def adh (s:qW):Prop:=s.k=0∧s.out=List.replicate s.l.length 0∧(s.m=(s.l.length:Int)∧s.m≤1000∧s.levels.length=s.l.length)∧(∀k:Int,0≤k→k<s.m→ni (bU s.l k).2.2.2.1 (bU s.l k).2.2.2.2.1 (bU s.l k).2.2.2.2.2.1=true)∧(∀k:Nat,0≤s.levels.getD k 0∧s.levels.getD k 0≤80)
def MF (s:qW):Prop:=(0≤s.k∧s.k≤s.m)∧s.out=Yl s.l s.levels s.k.toNat++List.replicate (s.l.length-s.k.toNat) 0∧(s.m=(s.l.length:Int)∧s.m≤1000∧s.levels.length=s.l.length)∧(∀k:Int,0≤k→k<s.m→ni (bU s.l k).2.2.2.1 (bU s.l k).2.2.2.2.1 (bU s.l k).2.2.2.2.2.1=true)∧(∀k:Nat,0≤s.levels.getD k 0∧s.levels.getD k 0≤80)
def Ov (s:qW):Nat:=(s.m-s.k).toNat
def ajA (x:Ex) (_ s':qW):Prop:=x=.exit 4∧s'.out=pJ s'.l s'.levels
theorem axx:∀s,adh s→MF s:=by
 intro s h
 obtain ⟨h0,h1,h2⟩:=h
 exact ⟨by have:=h2.1;omega,by rw [h0,h1];rfl,h2⟩
theorem asx (s:qW) (hI:MF s):bY (fun s'=>MF s'∧Ov s'<Ov s) (fun x s'=>ajA x s s') (aqA s):=by
 unfold aqA Zr
 dsimp only [T.rd,T.rl]
 obtain ⟨⟨h0,h1⟩,h2,⟨h3,h4,h5⟩,h6,h7⟩:=hI
 refine ai (fun c1=>?_) (fun c1=>?_)
 ·have c1:s.k<s.m:=by simpa using c1
  rw [aF (x:=s.k+1) (by omega) (by omega)]
  refine ⟨⟨⟨by simp only;omega,by simp only;omega⟩,?_,⟨h3,h4,h5⟩,h6,h7⟩,by simp only [Ov];omega⟩
  simp only
  have e:s.l.length-s.k.toNat=(s.l.length-(s.k+1).toNat)+1:=by omega
  have hs:=ZX (xs:=Yl s.l s.levels s.k.toNat) (r:=s.l.length-(s.k+1).toNat) (v:=yF s.l s.k (s.levels.getD s.k.toNat 0))
  rw [xC] at hs
  rw [h2,e,show (s.k+1).toNat=s.k.toNat+1 by omega,aeb,Int.toNat_of_nonneg h0]
  rw [show (s.k+1).toNat=s.k.toNat+1 by omega] at hs
  exact hs
 ·have c1:s.m≤s.k:=by simpa using c1
  refine ⟨rfl,?_⟩
  rw [h2,show s.k.toNat=s.l.length by omega,Nat.sub_self,List.replicate_zero,List.append_nil]
  rfl
def EO:dn qW:=⟨0,129,[14,19,108,109,110],[],aAP,az2,fun v b=>⟨bf gU (v.getD 2 .junk),gI (v.getD 3 .junk),gI (v.getD 4 .junk),bf iJ (bC (aV b 0) 0),bf .str (bC (aV b 0) 1),bf iQ (bC (aV b 0) 2),bf gU (bC (aV b 0) 3),bf iR (bC (aV b 0) 4),bf FI (bC (aV b 0) 5),bf (.int .i64) (bC (aV b 0) 6),bf (.int .i64) (bC (aV b 0) 7),bf (.int .i64) (bC (aV b 0) 8),bf (.int .i64) (bC (aV b 0) 9),bf (.int .i64) (bC (aV b 0) 10),bf (.int .i64) (bC (aV b 0) 11),bf (.int .i64) (bC (aV b 0) 12),bf (.int .i64) (bC (aV b 0) 13),bf (.int .i64) (bC (aV b 0) 14),bf (.int .i64) (bC (aV b 0) 15),bf (.int .i64) (bC (aV b 0) 16),bf (.int .i64) (bC (aV b 0) 17),bf (.int .i64) (bC (aV b 0) 18),bf (.int .i64) (bC (aV b 0) 19),bf (.int .i64) (bC (aV b 0) 20),bf (.int .i64) (bC (aV b 0) 21),bf (.int .i64) (bC (aV b 0) 23),jm (.int .i64) (aV b 1),jm (.int .i64) (aV b 2),jm (.int .i64) (aV b 3)⟩,Zr,fun s r=> {r with l:=s.l,m:=s.m,y9:=s.y9,y7:=s.y7,y8:=s.y8,fJ:=s.fJ,zf:=s.zf,bP:=s.bP,jO:=s.jO,jM:=s.jM,jL:=s.jL,jK:=s.jK,jJ:=s.jJ,jI:=s.jI,jH:=s.jH,jG:=s.jG,jF:=s.jF,jE:=s.jE,eP:=s.eP,eG:=s.eG,eu:=s.eu,dZ:=s.dZ,dY:=s.dY,dX:=s.dX,bg:=s.bg,sums:=s.sums,levels:=s.levels},fun s=>s,fun _ s=>s,[.exit 4],adh,MF,Ov⟩
abbrev iM:=EO.run
abbrev anV:=EO.lU
abbrev Qu:=EO.q
theorem asP (s:qW) (hI:MF s):(Zr s).all (fun _=>True):=by
 refine ⟨fun c1=>⟨?_,?_,?_,?_,?_,?_,?_,⟨rfl,rfl⟩,⟨rfl,rfl⟩,trivial⟩,fun c1=>⟨⟨rfl,rfl⟩,⟨rfl,rfl⟩,⟨rfl,rfl⟩,trivial⟩⟩
 iterate 3 · (obtain ⟨⟨h0,h1⟩,h2,⟨h3,h4,h5⟩,h6,h7⟩:=hI;(try simp only [decide_eq_true_eq] at c1);have hl:s.out.length=s.l.length:=(by rw [h2,List.length_append,xC,List.length_replicate];omega);first|omega|exact ⟨rfl,by simp⟩ |exact ⟨rfl,rfl⟩)
 ·(have hh:=gm.1 (hI.2.2.2.1 s.k hI.1.1 (by simpa using c1));have hb:=hI.2.2.2.2 s.k.toNat;refine ⟨by omega,?_⟩;show 0≤s.levels.getD s.k.toNat 0∧s.levels.getD s.k.toNat 0≤1000;omega)
 iterate 3 · (obtain ⟨⟨h0,h1⟩,h2,⟨h3,h4,h5⟩,h6,h7⟩:=hI;(try simp only [decide_eq_true_eq] at c1);have hl:s.out.length=s.l.length:=(by rw [h2,List.length_append,xC,List.length_replicate];omega);first|omega|exact ⟨rfl,by simp⟩ |exact ⟨rfl,rfl⟩)
theorem agv:EO.Ok:=⟨fun s=>by kernel_rfl,fun s=>by kernel_rfl,fun s=>rfl,fun s t r=>rfl,fun s=>rfl,fun s=>by kernel_rfl⟩
theorem afF:EO.Pf (ajA):=⟨axx,fun _ _=>rfl,asx,asP⟩
theorem ak5:bG Tryz.prog aT (AN 0) (.loop BA) EO.lp:=dn.snd agv afF (bI (Γ:=TI) (K:=ahW) (L:=aB) aaW apO BA (fun b hb=>by rw [show ay BA=[] by kernel_rfl] at hb;cases hb)) (fun s=>by kernel_rfl)
theorem alG (s:qW) (hE:adh s):∃s',MF s'∧ajA (anV s) s' (iM s):=dn.fin agv afF s hE
end Go.Proofs.YtlihnbimgclogaaGreatDoor
namespace Go.Proofs.YtlihnbimgclogaaGreatDoor
open Go.Sx
def acu:List LV→T LV
 | [.agg [.xl (.pair .str (.pair (.int .i64) (.pair (.int .i64) (.pair (.int .i64) (.pair (.pair (.int .i64) (.int .i64)) (.pair (.int .i64) (.pair (.int .i64) (.pair (.int .i64) (.pair (.int .i64) (.int .i64)))))))))) cs,.xl (.str) os,.xl (.pair .str (.pair (.int .i64) (.pair (.int .i64) (.int .i64)))) ks,.xl (.pair .str (.pair (.int .i64) (.pair (.int .i64) (.pair (.int .i64) (.pair (.int .i64) (.pair (.int .i64) (.pair (.int .i64) (.int .i64)))))))) gs,.xl (.pair .str (.int .i64)) bs],.xl (.int .i64) al,.xl (.int .i64) mo,.xl (.int .i64) od]=> .ok (.jg [.xl (.int .i64) (yO cs os ks gs bs al mo od),.v (.int .i64 (shE cs os ks gs bs al mo od))])
 |_=> .no
noncomputable def Jt:List LV→T LV:=jR Tryz.prog Tryz.f52.params.toList acu
def ak (cs:List Cd) (os:List ByteArray) (ks:List Ko) (gs:List Ch) (bs:List Ba) (al _ _:List Int):iH:=(⟨al,(iY cs os ks gs bs),(List.length (iY cs os ks gs bs):Int),(0:Int),cs,os,ks,gs,bs,cs,os,ks,gs,bs,(iY cs os ks gs bs),al,([]:List Int),([]:List Int),([]:List Int),([]:List Int),([]:List Int),([]:List Int),([]:List Int),([]:List Int),([]:List Int),([]:List Int),([]:List Int),([]:List Int),([]:List Int),([]:List Int),([]:List Int),([]:List Int),(List.replicate (List.length (iY cs os ks gs bs):Int).toNat (0:Int)),(List.replicate (List.length al:Int).toNat (0:Int))⟩:iH)
def fM (cs:List Cd) (os:List ByteArray) (ks:List Ko) (gs:List Ch) (bs:List Ba) (al mo od:List Int):mr:=(⟨mo,od,(List.length gs:Int),(1:Int),cs,os,ks,gs,bs,cs,os,ks,gs,bs,(iY cs os ks gs bs),(((aj (ak cs os ks gs bs al mo od)).jO.drop 0).take (List.length (aj (ak cs os ks gs bs al mo od)).jO)),(((aj (ak cs os ks gs bs al mo od)).jM.drop 0).take (List.length (aj (ak cs os ks gs bs al mo od)).jM)),(((aj (ak cs os ks gs bs al mo od)).jL.drop 0).take (List.length (aj (ak cs os ks gs bs al mo od)).jL)),(((aj (ak cs os ks gs bs al mo od)).jK.drop 0).take (List.length (aj (ak cs os ks gs bs al mo od)).jK)),(((aj (ak cs os ks gs bs al mo od)).jJ.drop 0).take (List.length (aj (ak cs os ks gs bs al mo od)).jJ)),(((aj (ak cs os ks gs bs al mo od)).jI.drop 0).take (List.length (aj (ak cs os ks gs bs al mo od)).jI)),(((aj (ak cs os ks gs bs al mo od)).jH.drop 0).take (List.length (aj (ak cs os ks gs bs al mo od)).jH)),(((aj (ak cs os ks gs bs al mo od)).jG.drop 0).take (List.length (aj (ak cs os ks gs bs al mo od)).jG)),(((aj (ak cs os ks gs bs al mo od)).jF.drop 0).take (List.length (aj (ak cs os ks gs bs al mo od)).jF)),(((aj (ak cs os ks gs bs al mo od)).jE.drop 0).take (List.length (aj (ak cs os ks gs bs al mo od)).jE)),(((aj (ak cs os ks gs bs al mo od)).eP.drop 0).take (List.length (aj (ak cs os ks gs bs al mo od)).eP)),(((aj (ak cs os ks gs bs al mo od)).eG.drop 0).take (List.length (aj (ak cs os ks gs bs al mo od)).eG)),(((aj (ak cs os ks gs bs al mo od)).eu.drop 0).take (List.length (aj (ak cs os ks gs bs al mo od)).eu)),(((aj (ak cs os ks gs bs al mo od)).dZ.drop 0).take (List.length (aj (ak cs os ks gs bs al mo od)).dZ)),(((aj (ak cs os ks gs bs al mo od)).dY.drop 0).take (List.length (aj (ak cs os ks gs bs al mo od)).dY)),(((aj (ak cs os ks gs bs al mo od)).dX.drop 0).take (List.length (aj (ak cs os ks gs bs al mo od)).dX)),al,(aj (ak cs os ks gs bs al mo od)).sums,(List.replicate (List.length al:Int).toNat (0:Int))⟩:mr)
def gQ (cs:List Cd) (os:List ByteArray) (ks:List Ko) (gs:List Ch) (bs:List Ba) (al mo od:List Int):qW:=(⟨gs,(List.length gs:Int),(0:Int),cs,os,ks,gs,bs,(iY cs os ks gs bs),(((aj (ak cs os ks gs bs al mo od)).jO.drop 0).take (List.length (aj (ak cs os ks gs bs al mo od)).jO)),(((aj (ak cs os ks gs bs al mo od)).jM.drop 0).take (List.length (aj (ak cs os ks gs bs al mo od)).jM)),(((aj (ak cs os ks gs bs al mo od)).jL.drop 0).take (List.length (aj (ak cs os ks gs bs al mo od)).jL)),(((aj (ak cs os ks gs bs al mo od)).jK.drop 0).take (List.length (aj (ak cs os ks gs bs al mo od)).jK)),(((aj (ak cs os ks gs bs al mo od)).jJ.drop 0).take (List.length (aj (ak cs os ks gs bs al mo od)).jJ)),(((aj (ak cs os ks gs bs al mo od)).jI.drop 0).take (List.length (aj (ak cs os ks gs bs al mo od)).jI)),(((aj (ak cs os ks gs bs al mo od)).jH.drop 0).take (List.length (aj (ak cs os ks gs bs al mo od)).jH)),(((aj (ak cs os ks gs bs al mo od)).jG.drop 0).take (List.length (aj (ak cs os ks gs bs al mo od)).jG)),(((aj (ak cs os ks gs bs al mo od)).jF.drop 0).take (List.length (aj (ak cs os ks gs bs al mo od)).jF)),(((aj (ak cs os ks gs bs al mo od)).jE.drop 0).take (List.length (aj (ak cs os ks gs bs al mo od)).jE)),(((aj (ak cs os ks gs bs al mo od)).eP.drop 0).take (List.length (aj (ak cs os ks gs bs al mo od)).eP)),(((aj (ak cs os ks gs bs al mo od)).eG.drop 0).take (List.length (aj (ak cs os ks gs bs al mo od)).eG)),(((aj (ak cs os ks gs bs al mo od)).eu.drop 0).take (List.length (aj (ak cs os ks gs bs al mo od)).eu)),(((aj (ak cs os ks gs bs al mo od)).dZ.drop 0).take (List.length (aj (ak cs os ks gs bs al mo od)).dZ)),(((aj (ak cs os ks gs bs al mo od)).dY.drop 0).take (List.length (aj (ak cs os ks gs bs al mo od)).dY)),(((aj (ak cs os ks gs bs al mo od)).dX.drop 0).take (List.length (aj (ak cs os ks gs bs al mo od)).dX)),al,(List.replicate (List.length gs:Int).toNat (0:Int)),(ji (fM cs os ks gs bs al mo od)).sums,(ji (fM cs os ks gs bs al mo od)).levels⟩:qW)
noncomputable def aa1:Specs:=bn [(24,oC),(61,qV),(94,qR),(96,qQ)]
theorem ah9:∀g S,aa1 g=some S→Valid Tryz.prog aT g S:=aX (l:=[(24,oC),(61,qV),(94,qR),(96,qQ)]) ⟨C9,Gx,Gv,Gu,trivial⟩
noncomputable def apZ:Hand:=inl Tryz.prog aT aa1 (dG 97 4 8 (Qy.lp) (dG 93 7 2 (yY.lp) (dG 95 1 3 (xP.lp) (dG 93 1 2 (vU.lp) (jo Tryz.prog aT (aa1) 20 2))))) 9
theorem ayG:cO Tryz.prog aT apZ:=bJ ah9 (aP Tryz.func97 rfl (by kernel_rfl) VL (aP Tryz.func93 rfl (by kernel_rfl) FN (aP Tryz.func95 rfl (by kernel_rfl) zW (aP Tryz.func93 rfl (by kernel_rfl) xQ (dw ah9))))) 9
theorem amw (cs:List Cd) (os:List ByteArray) (ks:List Ko) (gs:List Ch) (bs:List Ba) (al mo od:List Int):eX Tryz.prog aT (aa1) apZ (fun i=>if i=11 then JR.lp else if i=21 then EO.lp else aB i) Tryz.f52 [.agg [.xl iJ cs,.xl .str os,.xl iQ ks,.xl gU gs,.xl iR bs],.xl (.int .i64) al,.xl (.int .i64) mo,.xl (.int .i64) od]=.br ((N8 cs os ks gs bs) !=0) (.ok (.jg [.xl (.int .i64) ([]:List Int),.v (.int .i64 1)])) (.br ((List.length al:Int) !=(List.length gs:Int)) (.ok (.jg [.xl (.int .i64) ([]:List Int),.v (.int .i64 1)])) (.br ((List.length mo:Int) !=(List.length gs:Int)) (.ok (.jg [.xl (.int .i64) ([]:List Int),.v (.int .i64 1)])) (.req (Y8 (⟨false,al,(List.length al:Int),(0:Int),cs,os,ks,gs,bs⟩:jZ)) (.br (lH (yB (⟨false,al,(List.length al:Int),(0:Int),cs,os,ks,gs,bs⟩:jZ)) (.ret)) (.br (!(uS (⟨false,al,(List.length al:Int),(0:Int),cs,os,ks,gs,bs⟩:jZ)).r) (.ok (.jg [.xl (.int .i64) ([]:List Int),.v (.int .i64 1)])) (.req (Y8 (⟨false,mo,(List.length mo:Int),(0:Int),cs,os,ks,gs,bs⟩:jZ)) (.br (lH (yB (⟨false,mo,(List.length mo:Int),(0:Int),cs,os,ks,gs,bs⟩:jZ)) (.ret)) (.br (!(uS (⟨false,mo,(List.length mo:Int),(0:Int),cs,os,ks,gs,bs⟩:jZ)).r) (.ok (.jg [.xl (.int .i64) ([]:List Int),.v (.int .i64 1)])) (.req ((List.length gs:Int)≤1000) (.br (!(l9 od (List.length gs:Int))) (.ok (.jg [.xl (.int .i64) ([]:List Int),.v (.int .i64 1)])) (.req (0≤(List.length (iY cs os ks gs bs):Int)∧(List.length (iY cs os ks gs bs):Int)≤(List.length (iY cs os ks gs bs):Int)∧8*(List.length (iY cs os ks gs bs):Int)≤2^48∧(List.length (iY cs os ks gs bs):Int)<2^63) (.req (0≤(List.length al:Int)∧(List.length al:Int)≤(List.length al:Int)∧8*(List.length al:Int)≤2^48∧(List.length al:Int)<2^63) (.req (0=0∧0=List.length ([]:List Int)) (.req (0=0∧0=List.length ([]:List Int)) (.req (0=0∧0=List.length ([]:List Int)) (.req (0=0∧0=List.length ([]:List Int)) (.req (0=0∧0=List.length ([]:List Int)) (.req (0=0∧0=List.length ([]:List Int)) (.req (0=0∧0=List.length ([]:List Int)) (.req (0=0∧0=List.length ([]:List Int)) (.req (0=0∧0=List.length ([]:List Int)) (.req (0=0∧0=List.length ([]:List Int)) (.req (0=0∧0=List.length ([]:List Int)) (.req (0=0∧0=List.length ([]:List Int)) (.req (0=0∧0=List.length ([]:List Int)) (.req (0=0∧0=List.length ([]:List Int)) (.req (0=0∧0=List.length ([]:List Int)) (.req (0=0∧0=List.length ([]:List Int)) (.req (0=0∧(List.length (iY cs os ks gs bs):Int).toNat=List.length (List.replicate (List.length (iY cs os ks gs bs):Int).toNat (0:Int))) (.req (0=0∧(List.length al:Int).toNat=List.length (List.replicate (List.length al:Int).toNat (0:Int))) (.req (Qw (ak cs os ks gs bs al mo od)) (.req (0+(List.length (aj (ak cs os ks gs bs al mo od)).jO)≤List.length (aj (ak cs os ks gs bs al mo od)).jO) (.req (0+(List.length (aj (ak cs os ks gs bs al mo od)).jM)≤List.length (aj (ak cs os ks gs bs al mo od)).jM) (.req (0+(List.length (aj (ak cs os ks gs bs al mo od)).jL)≤List.length (aj (ak cs os ks gs bs al mo od)).jL) (.req (0+(List.length (aj (ak cs os ks gs bs al mo od)).jK)≤List.length (aj (ak cs os ks gs bs al mo od)).jK) (.req (0+(List.length (aj (ak cs os ks gs bs al mo od)).jJ)≤List.length (aj (ak cs os ks gs bs al mo od)).jJ) (.req (0+(List.length (aj (ak cs os ks gs bs al mo od)).jI)≤List.length (aj (ak cs os ks gs bs al mo od)).jI) (.req (0+(List.length (aj (ak cs os ks gs bs al mo od)).jH)≤List.length (aj (ak cs os ks gs bs al mo od)).jH) (.req (0+(List.length (aj (ak cs os ks gs bs al mo od)).jG)≤List.length (aj (ak cs os ks gs bs al mo od)).jG) (.req (0+(List.length (aj (ak cs os ks gs bs al mo od)).jF)≤List.length (aj (ak cs os ks gs bs al mo od)).jF) (.req (0+(List.length (aj (ak cs os ks gs bs al mo od)).jE)≤List.length (aj (ak cs os ks gs bs al mo od)).jE) (.req (0+(List.length (aj (ak cs os ks gs bs al mo od)).eP)≤List.length (aj (ak cs os ks gs bs al mo od)).eP) (.req (0+(List.length (aj (ak cs os ks gs bs al mo od)).eG)≤List.length (aj (ak cs os ks gs bs al mo od)).eG) (.req (0+(List.length (aj (ak cs os ks gs bs al mo od)).eu)≤List.length (aj (ak cs os ks gs bs al mo od)).eu) (.req (0+(List.length (aj (ak cs os ks gs bs al mo od)).dZ)≤List.length (aj (ak cs os ks gs bs al mo od)).dZ) (.req (0+(List.length (aj (ak cs os ks gs bs al mo od)).dY)≤List.length (aj (ak cs os ks gs bs al mo od)).dY) (.req (0+(List.length (aj (ak cs os ks gs bs al mo od)).dX)≤List.length (aj (ak cs os ks gs bs al mo od)).dX) (.rl (aj (ak cs os ks gs bs al mo od)).sums (.rl (List.replicate (List.length al:Int).toNat (0:Int)) (.req (Qv (fM cs os ks gs bs al mo od)) (.req (0≤(List.length gs:Int)∧(List.length gs:Int)≤(List.length gs:Int)∧8*(List.length gs:Int)≤2^48∧(List.length gs:Int)<2^63) (.req (0=0∧(List.length gs:Int).toNat=List.length (List.replicate (List.length gs:Int).toNat (0:Int))) (.rl (ji (fM cs os ks gs bs al mo od)).sums (.rl (ji (fM cs os ks gs bs al mo od)).levels (.req (Qu (gQ cs os ks gs bs al mo od)) (.req (0+(List.length (iM (gQ cs os ks gs bs al mo od)).out)≤List.length (iM (gQ cs os ks gs bs al mo od)).out) (.ok (.jg [.xl (.int .i64) (((iM (gQ cs os ks gs bs al mo od)).out.drop 0).take (List.length (iM (gQ cs os ks gs bs al mo od)).out)),.v (.int .i64 0)]))))))))))))))))))))))))))))))))))))))))))))))))))) (.br (!true) (.ok (.jg [.xl (.int .i64) ([]:List Int),.v (.int .i64 1)])) (.req ((List.length gs:Int)≤1000) (.br (!(l9 od (List.length gs:Int))) (.ok (.jg [.xl (.int .i64) ([]:List Int),.v (.int .i64 1)])) (.req (0≤(List.length (iY cs os ks gs bs):Int)∧(List.length (iY cs os ks gs bs):Int)≤(List.length (iY cs os ks gs bs):Int)∧8*(List.length (iY cs os ks gs bs):Int)≤2^48∧(List.length (iY cs os ks gs bs):Int)<2^63) (.req (0≤(List.length al:Int)∧(List.length al:Int)≤(List.length al:Int)∧8*(List.length al:Int)≤2^48∧(List.length al:Int)<2^63) (.req (0=0∧0=List.length ([]:List Int)) (.req (0=0∧0=List.length ([]:List Int)) (.req (0=0∧0=List.length ([]:List Int)) (.req (0=0∧0=List.length ([]:List Int)) (.req (0=0∧0=List.length ([]:List Int)) (.req (0=0∧0=List.length ([]:List Int)) (.req (0=0∧0=List.length ([]:List Int)) (.req (0=0∧0=List.length ([]:List Int)) (.req (0=0∧0=List.length ([]:List Int)) (.req (0=0∧0=List.length ([]:List Int)) (.req (0=0∧0=List.length ([]:List Int)) (.req (0=0∧0=List.length ([]:List Int)) (.req (0=0∧0=List.length ([]:List Int)) (.req (0=0∧0=List.length ([]:List Int)) (.req (0=0∧0=List.length ([]:List Int)) (.req (0=0∧0=List.length ([]:List Int)) (.req (0=0∧(List.length (iY cs os ks gs bs):Int).toNat=List.length (List.replicate (List.length (iY cs os ks gs bs):Int).toNat (0:Int))) (.req (0=0∧(List.length al:Int).toNat=List.length (List.replicate (List.length al:Int).toNat (0:Int))) (.req (Qw (ak cs os ks gs bs al mo od)) (.req (0+(List.length (aj (ak cs os ks gs bs al mo od)).jO)≤List.length (aj (ak cs os ks gs bs al mo od)).jO) (.req (0+(List.length (aj (ak cs os ks gs bs al mo od)).jM)≤List.length (aj (ak cs os ks gs bs al mo od)).jM) (.req (0+(List.length (aj (ak cs os ks gs bs al mo od)).jL)≤List.length (aj (ak cs os ks gs bs al mo od)).jL) (.req (0+(List.length (aj (ak cs os ks gs bs al mo od)).jK)≤List.length (aj (ak cs os ks gs bs al mo od)).jK) (.req (0+(List.length (aj (ak cs os ks gs bs al mo od)).jJ)≤List.length (aj (ak cs os ks gs bs al mo od)).jJ) (.req (0+(List.length (aj (ak cs os ks gs bs al mo od)).jI)≤List.length (aj (ak cs os ks gs bs al mo od)).jI) (.req (0+(List.length (aj (ak cs os ks gs bs al mo od)).jH)≤List.length (aj (ak cs os ks gs bs al mo od)).jH) (.req (0+(List.length (aj (ak cs os ks gs bs al mo od)).jG)≤List.length (aj (ak cs os ks gs bs al mo od)).jG) (.req (0+(List.length (aj (ak cs os ks gs bs al mo od)).jF)≤List.length (aj (ak cs os ks gs bs al mo od)).jF) (.req (0+(List.length (aj (ak cs os ks gs bs al mo od)).jE)≤List.length (aj (ak cs os ks gs bs al mo od)).jE) (.req (0+(List.length (aj (ak cs os ks gs bs al mo od)).eP)≤List.length (aj (ak cs os ks gs bs al mo od)).eP) (.req (0+(List.length (aj (ak cs os ks gs bs al mo od)).eG)≤List.length (aj (ak cs os ks gs bs al mo od)).eG) (.req (0+(List.length (aj (ak cs os ks gs bs al mo od)).eu)≤List.length (aj (ak cs os ks gs bs al mo od)).eu) (.req (0+(List.length (aj (ak cs os ks gs bs al mo od)).dZ)≤List.length (aj (ak cs os ks gs bs al mo od)).dZ) (.req (0+(List.length (aj (ak cs os ks gs bs al mo od)).dY)≤List.length (aj (ak cs os ks gs bs al mo od)).dY) (.req (0+(List.length (aj (ak cs os ks gs bs al mo od)).dX)≤List.length (aj (ak cs os ks gs bs al mo od)).dX) (.rl (aj (ak cs os ks gs bs al mo od)).sums (.rl (List.replicate (List.length al:Int).toNat (0:Int)) (.req (Qv (fM cs os ks gs bs al mo od)) (.req (0≤(List.length gs:Int)∧(List.length gs:Int)≤(List.length gs:Int)∧8*(List.length gs:Int)≤2^48∧(List.length gs:Int)<2^63) (.req (0=0∧(List.length gs:Int).toNat=List.length (List.replicate (List.length gs:Int).toNat (0:Int))) (.rl (ji (fM cs os ks gs bs al mo od)).sums (.rl (ji (fM cs os ks gs bs al mo od)).levels (.req (Qu (gQ cs os ks gs bs al mo od)) (.req (0+(List.length (iM (gQ cs os ks gs bs al mo od)).out)≤List.length (iM (gQ cs os ks gs bs al mo od)).out) (.ok (.jg [.xl (.int .i64) (((iM (gQ cs os ks gs bs al mo od)).out.drop 0).take (List.length (iM (gQ cs os ks gs bs al mo od)).out)),.v (.int .i64 0)])))))))))))))))))))))))))))))))))))))))))))))))))))))) (.br (!true) (.ok (.jg [.xl (.int .i64) ([]:List Int),.v (.int .i64 1)])) (.req (Y8 (⟨false,mo,(List.length mo:Int),(0:Int),cs,os,ks,gs,bs⟩:jZ)) (.br (lH (yB (⟨false,mo,(List.length mo:Int),(0:Int),cs,os,ks,gs,bs⟩:jZ)) (.ret)) (.br (!(uS (⟨false,mo,(List.length mo:Int),(0:Int),cs,os,ks,gs,bs⟩:jZ)).r) (.ok (.jg [.xl (.int .i64) ([]:List Int),.v (.int .i64 1)])) (.req ((List.length gs:Int)≤1000) (.br (!(l9 od (List.length gs:Int))) (.ok (.jg [.xl (.int .i64) ([]:List Int),.v (.int .i64 1)])) (.req (0≤(List.length (iY cs os ks gs bs):Int)∧(List.length (iY cs os ks gs bs):Int)≤(List.length (iY cs os ks gs bs):Int)∧8*(List.length (iY cs os ks gs bs):Int)≤2^48∧(List.length (iY cs os ks gs bs):Int)<2^63) (.req (0≤(List.length al:Int)∧(List.length al:Int)≤(List.length al:Int)∧8*(List.length al:Int)≤2^48∧(List.length al:Int)<2^63) (.req (0=0∧0=List.length ([]:List Int)) (.req (0=0∧0=List.length ([]:List Int)) (.req (0=0∧0=List.length ([]:List Int)) (.req (0=0∧0=List.length ([]:List Int)) (.req (0=0∧0=List.length ([]:List Int)) (.req (0=0∧0=List.length ([]:List Int)) (.req (0=0∧0=List.length ([]:List Int)) (.req (0=0∧0=List.length ([]:List Int)) (.req (0=0∧0=List.length ([]:List Int)) (.req (0=0∧0=List.length ([]:List Int)) (.req (0=0∧0=List.length ([]:List Int)) (.req (0=0∧0=List.length ([]:List Int)) (.req (0=0∧0=List.length ([]:List Int)) (.req (0=0∧0=List.length ([]:List Int)) (.req (0=0∧0=List.length ([]:List Int)) (.req (0=0∧0=List.length ([]:List Int)) (.req (0=0∧(List.length (iY cs os ks gs bs):Int).toNat=List.length (List.replicate (List.length (iY cs os ks gs bs):Int).toNat (0:Int))) (.req (0=0∧(List.length al:Int).toNat=List.length (List.replicate (List.length al:Int).toNat (0:Int))) (.req (Qw (ak cs os ks gs bs al mo od)) (.req (0+(List.length (aj (ak cs os ks gs bs al mo od)).jO)≤List.length (aj (ak cs os ks gs bs al mo od)).jO) (.req (0+(List.length (aj (ak cs os ks gs bs al mo od)).jM)≤List.length (aj (ak cs os ks gs bs al mo od)).jM) (.req (0+(List.length (aj (ak cs os ks gs bs al mo od)).jL)≤List.length (aj (ak cs os ks gs bs al mo od)).jL) (.req (0+(List.length (aj (ak cs os ks gs bs al mo od)).jK)≤List.length (aj (ak cs os ks gs bs al mo od)).jK) (.req (0+(List.length (aj (ak cs os ks gs bs al mo od)).jJ)≤List.length (aj (ak cs os ks gs bs al mo od)).jJ) (.req (0+(List.length (aj (ak cs os ks gs bs al mo od)).jI)≤List.length (aj (ak cs os ks gs bs al mo od)).jI) (.req (0+(List.length (aj (ak cs os ks gs bs al mo od)).jH)≤List.length (aj (ak cs os ks gs bs al mo od)).jH) (.req (0+(List.length (aj (ak cs os ks gs bs al mo od)).jG)≤List.length (aj (ak cs os ks gs bs al mo od)).jG) (.req (0+(List.length (aj (ak cs os ks gs bs al mo od)).jF)≤List.length (aj (ak cs os ks gs bs al mo od)).jF) (.req (0+(List.length (aj (ak cs os ks gs bs al mo od)).jE)≤List.length (aj (ak cs os ks gs bs al mo od)).jE) (.req (0+(List.length (aj (ak cs os ks gs bs al mo od)).eP)≤List.length (aj (ak cs os ks gs bs al mo od)).eP) (.req (0+(List.length (aj (ak cs os ks gs bs al mo od)).eG)≤List.length (aj (ak cs os ks gs bs al mo od)).eG) (.req (0+(List.length (aj (ak cs os ks gs bs al mo od)).eu)≤List.length (aj (ak cs os ks gs bs al mo od)).eu) (.req (0+(List.length (aj (ak cs os ks gs bs al mo od)).dZ)≤List.length (aj (ak cs os ks gs bs al mo od)).dZ) (.req (0+(List.length (aj (ak cs os ks gs bs al mo od)).dY)≤List.length (aj (ak cs os ks gs bs al mo od)).dY) (.req (0+(List.length (aj (ak cs os ks gs bs al mo od)).dX)≤List.length (aj (ak cs os ks gs bs al mo od)).dX) (.rl (aj (ak cs os ks gs bs al mo od)).sums (.rl (List.replicate (List.length al:Int).toNat (0:Int)) (.req (Qv (fM cs os ks gs bs al mo od)) (.req (0≤(List.length gs:Int)∧(List.length gs:Int)≤(List.length gs:Int)∧8*(List.length gs:Int)≤2^48∧(List.length gs:Int)<2^63) (.req (0=0∧(List.length gs:Int).toNat=List.length (List.replicate (List.length gs:Int).toNat (0:Int))) (.rl (ji (fM cs os ks gs bs al mo od)).sums (.rl (ji (fM cs os ks gs bs al mo od)).levels (.req (Qu (gQ cs os ks gs bs al mo od)) (.req (0+(List.length (iM (gQ cs os ks gs bs al mo od)).out)≤List.length (iM (gQ cs os ks gs bs al mo od)).out) (.ok (.jg [.xl (.int .i64) (((iM (gQ cs os ks gs bs al mo od)).out.drop 0).take (List.length (iM (gQ cs os ks gs bs al mo od)).out)),.v (.int .i64 0)]))))))))))))))))))))))))))))))))))))))))))))))))))) (.br (!true) (.ok (.jg [.xl (.int .i64) ([]:List Int),.v (.int .i64 1)])) (.req ((List.length gs:Int)≤1000) (.br (!(l9 od (List.length gs:Int))) (.ok (.jg [.xl (.int .i64) ([]:List Int),.v (.int .i64 1)])) (.req (0≤(List.length (iY cs os ks gs bs):Int)∧(List.length (iY cs os ks gs bs):Int)≤(List.length (iY cs os ks gs bs):Int)∧8*(List.length (iY cs os ks gs bs):Int)≤2^48∧(List.length (iY cs os ks gs bs):Int)<2^63) (.req (0≤(List.length al:Int)∧(List.length al:Int)≤(List.length al:Int)∧8*(List.length al:Int)≤2^48∧(List.length al:Int)<2^63) (.req (0=0∧0=List.length ([]:List Int)) (.req (0=0∧0=List.length ([]:List Int)) (.req (0=0∧0=List.length ([]:List Int)) (.req (0=0∧0=List.length ([]:List Int)) (.req (0=0∧0=List.length ([]:List Int)) (.req (0=0∧0=List.length ([]:List Int)) (.req (0=0∧0=List.length ([]:List Int)) (.req (0=0∧0=List.length ([]:List Int)) (.req (0=0∧0=List.length ([]:List Int)) (.req (0=0∧0=List.length ([]:List Int)) (.req (0=0∧0=List.length ([]:List Int)) (.req (0=0∧0=List.length ([]:List Int)) (.req (0=0∧0=List.length ([]:List Int)) (.req (0=0∧0=List.length ([]:List Int)) (.req (0=0∧0=List.length ([]:List Int)) (.req (0=0∧0=List.length ([]:List Int)) (.req (0=0∧(List.length (iY cs os ks gs bs):Int).toNat=List.length (List.replicate (List.length (iY cs os ks gs bs):Int).toNat (0:Int))) (.req (0=0∧(List.length al:Int).toNat=List.length (List.replicate (List.length al:Int).toNat (0:Int))) (.req (Qw (ak cs os ks gs bs al mo od)) (.req (0+(List.length (aj (ak cs os ks gs bs al mo od)).jO)≤List.length (aj (ak cs os ks gs bs al mo od)).jO) (.req (0+(List.length (aj (ak cs os ks gs bs al mo od)).jM)≤List.length (aj (ak cs os ks gs bs al mo od)).jM) (.req (0+(List.length (aj (ak cs os ks gs bs al mo od)).jL)≤List.length (aj (ak cs os ks gs bs al mo od)).jL) (.req (0+(List.length (aj (ak cs os ks gs bs al mo od)).jK)≤List.length (aj (ak cs os ks gs bs al mo od)).jK) (.req (0+(List.length (aj (ak cs os ks gs bs al mo od)).jJ)≤List.length (aj (ak cs os ks gs bs al mo od)).jJ) (.req (0+(List.length (aj (ak cs os ks gs bs al mo od)).jI)≤List.length (aj (ak cs os ks gs bs al mo od)).jI) (.req (0+(List.length (aj (ak cs os ks gs bs al mo od)).jH)≤List.length (aj (ak cs os ks gs bs al mo od)).jH) (.req (0+(List.length (aj (ak cs os ks gs bs al mo od)).jG)≤List.length (aj (ak cs os ks gs bs al mo od)).jG) (.req (0+(List.length (aj (ak cs os ks gs bs al mo od)).jF)≤List.length (aj (ak cs os ks gs bs al mo od)).jF) (.req (0+(List.length (aj (ak cs os ks gs bs al mo od)).jE)≤List.length (aj (ak cs os ks gs bs al mo od)).jE) (.req (0+(List.length (aj (ak cs os ks gs bs al mo od)).eP)≤List.length (aj (ak cs os ks gs bs al mo od)).eP) (.req (0+(List.length (aj (ak cs os ks gs bs al mo od)).eG)≤List.length (aj (ak cs os ks gs bs al mo od)).eG) (.req (0+(List.length (aj (ak cs os ks gs bs al mo od)).eu)≤List.length (aj (ak cs os ks gs bs al mo od)).eu) (.req (0+(List.length (aj (ak cs os ks gs bs al mo od)).dZ)≤List.length (aj (ak cs os ks gs bs al mo od)).dZ) (.req (0+(List.length (aj (ak cs os ks gs bs al mo od)).dY)≤List.length (aj (ak cs os ks gs bs al mo od)).dY) (.req (0+(List.length (aj (ak cs os ks gs bs al mo od)).dX)≤List.length (aj (ak cs os ks gs bs al mo od)).dX) (.rl (aj (ak cs os ks gs bs al mo od)).sums (.rl (List.replicate (List.length al:Int).toNat (0:Int)) (.req (Qv (fM cs os ks gs bs al mo od)) (.req (0≤(List.length gs:Int)∧(List.length gs:Int)≤(List.length gs:Int)∧8*(List.length gs:Int)≤2^48∧(List.length gs:Int)<2^63) (.req (0=0∧(List.length gs:Int).toNat=List.length (List.replicate (List.length gs:Int).toNat (0:Int))) (.rl (ji (fM cs os ks gs bs al mo od)).sums (.rl (ji (fM cs os ks gs bs al mo od)).levels (.req (Qu (gQ cs os ks gs bs al mo od)) (.req (0+(List.length (iM (gQ cs os ks gs bs al mo od)).out)≤List.length (iM (gQ cs os ks gs bs al mo od)).out) (.ok (.jg [.xl (.int .i64) (((iM (gQ cs os ks gs bs al mo od)).out.drop 0).take (List.length (iM (gQ cs os ks gs bs al mo od)).out)),.v (.int .i64 0)])))))))))))))))))))))))))))))))))))))))))))))))))))))))))):=by kernel_rfl
theorem aeI:Valid Tryz.prog aT 52 Jt:=aJ Tryz.func52 rfl ah9 ayG (L:=(fun i=>if i=11 then JR.lp else if i=21 then EO.lp else aB i)) (fun b hb=>by
 rw [show ay _=[Je,BA] by kernel_rfl] at hb
 simp only [List.mem_cons,List.not_mem_nil,or_false] at hb
 rcases hb with rfl|rfl
 ·exact ak6
 ·exact ak5) (fun args lv h=>by
 unfold acu at h
 split at h
 ·simp only [canL,canX]
  rw [amw]
  rename_i cs os ks gs bs al mo od
  obtain rfl:=h
  have err:tK cs os ks gs bs al mo od=false→LV.jg [.xl (.int .i64) ([]:List Int),.v (.int .i64 1)]=LV.jg [.xl (.int .i64) (yO cs os ks gs bs al mo od),.v (.int .i64 (shE cs os ks gs bs al mo od))]:=fun h=>by
   unfold yO shE
   rw [h]
   rfl
  have no_:∀ {p:Prop},¬p→(tK cs os ks gs bs al mo od=true→p)→tK cs os ks gs bs al mo od=false:=fun h1 h2=>by
   rw [Bool.eq_false_iff];exact fun h=>h1 (h2 h)
  refine ⟨fun c=>err (no_ (p:=iF cs os ks gs bs=true) (fun h=>?_) (fun h=>(jS.1 h).1)),fun c=>?_⟩
  ·unfold N8 at c
   rw [h] at c
   simp at c
  have hv:iF cs os ks gs bs=true:=by
   cases e:iF cs os ks gs bs with
   |true=>rfl
   |false=>unfold N8 at c;rw [e] at c;simp at c
  have hl:=(jq.1 hv).1
  refine ⟨fun c2=>err (no_ (p:=al.length=gs.length) (by simp at c2;omega) (fun h=>(jS.1 h).2.1)),fun c2=>?_⟩
  refine ⟨fun c3=>err (no_ (p:=mo.length=gs.length) (by simp at c3;omega) (fun h=>(jS.1 h).2.2.1)),fun c3=>?_⟩
  have c2:al.length=gs.length:=by simp at c2;omega
  have c3:mo.length=gs.length:=by simp at c3;omega
  refine CB ⟨⟨rfl,by simp only;omega,by simp only;omega,rfl⟩,rfl,rfl⟩ (fun hE1=>?_)
  rcases abR _ hE1.1 with ⟨q1,q2⟩ |⟨q1,q2,q3⟩
  rotate_left
  ·rw [q1,q2]
   refine ⟨fun _=>⟨fun _=>err (no_ (p:=al.all vH=true) (by have q3:al.all vH=false:=q3;rw [q3];simp) (fun h=>(jS.1 h).2.2.2.1)),fun h=>by cases h⟩,fun h=>by cases h⟩
  rw [q1]
  refine ⟨fun h=>(by cases h),fun _=>⟨fun h=>(by cases h),fun _=>?_⟩⟩
  have q2:al.all vH=true:=q2
  refine CB ⟨⟨rfl,by simp only;omega,by simp only;omega,rfl⟩,rfl,rfl⟩ (fun hE2=>?_)
  rcases abR _ hE2.1 with ⟨p1,p2⟩ |⟨p1,p2,p3⟩
  rotate_left
  ·rw [p1,p2]
   refine ⟨fun _=>⟨fun _=>err (no_ (p:=mo.all vH=true) (by have p3:mo.all vH=false:=p3;rw [p3];simp) (fun h=>(jS.1 h).2.2.2.2.1)),fun h=>by cases h⟩,fun h=>by cases h⟩
  rw [p1]
  refine ⟨fun h=>(by cases h),fun _=>⟨fun h=>(by cases h),fun _=>?_⟩⟩
  have p2:mo.all vH=true:=p2
  refine ⟨by omega,fun c4=>err (no_ (p:=l9 od (gs.length:Int)=true) (by simp at c4;rw [c4];simp) (fun h=>(jS.1 h).2.2.2.2.2)),fun c4=>?_⟩
  have c4:l9 od (gs.length:Int)=true:=by simpa using c4
  have hok:tK cs os ks gs bs al mo od=true:=jS.2 ⟨hv,c2,c3,q2,p2,c4⟩
  obtain ⟨hT,hS⟩:=ax8 hok
  have er:iY cs os ks gs bs=lm cs gs cs.length:=by unfold iY;rw [if_pos hv]
  have hrl:=Af (cs:=cs) (gs:=gs) (k:=cs.length)
  have hod:od.length=gs.length:=by
   unfold l9 at c4
   simp only [Bool.and_eq_true,decide_eq_true_eq] at c4
   omega
  have hrn:(List.length (iY cs os ks gs bs):Int)≤1000:=by rw [er];omega
  refine ⟨by omega,by omega,⟨rfl,rfl⟩,⟨rfl,rfl⟩,⟨rfl,rfl⟩,⟨rfl,rfl⟩,⟨rfl,rfl⟩,⟨rfl,rfl⟩,⟨rfl,rfl⟩,⟨rfl,rfl⟩,⟨rfl,rfl⟩,⟨rfl,rfl⟩,⟨rfl,rfl⟩,⟨rfl,rfl⟩,⟨rfl,rfl⟩,⟨rfl,rfl⟩,⟨rfl,rfl⟩,⟨rfl,rfl⟩,⟨rfl,by simp⟩,⟨rfl,by simp⟩,?_⟩
  have hN:Nu (ak cs os ks gs bs al mo od):=by
   refine ⟨rfl,fun o ho=>?_,rfl,rfl,hrn,fun r hr=>?_,hT.al,by show List.length (List.replicate _ _)=List.length (iY cs os ks gs bs);simp⟩
   ·simpa [lJ,ak] using ho
   ·have hr:r∈lm cs gs cs.length:=by rw [←er];exact hr
    obtain ⟨m1,m2,m3,m4⟩:=row_mem hr
    refine ⟨by omega,fun m hm=>?_⟩
    have:=m2 m hm
    show 0≤m∧m<16∧m<(al.length:Int)
    omega
  obtain ⟨nr1,nr2⟩:=al7 _ hN
  have nr1:lJ (aj (ak cs os ks gs bs al mo od))=OL (lm cs gs cs.length):=by rw [nr1,←er];rfl
  have nr2:(aj (ak cs os ks gs bs al mo od)).sums=SM al (lm cs gs cs.length):=by rw [nr2,←er];rfl
  refine ⟨⟨hN,rfl,rfl⟩,by omega,by omega,by omega,by omega,by omega,by omega,by omega,by omega,by omega,by omega,by omega,by omega,by omega,by omega,by omega,by omega,⟨rfl,rfl⟩,⟨rfl,rfl⟩,?_⟩
  have eO:uy (fM cs os ks gs bs al mo od)=lJ (aj (ak cs os ks gs bs al mo od)):=by
   unfold uy lJ fM
   simp only [List.drop_zero,List.take_length]
  have hSh:adi (fM cs os ks gs bs al mo od):=by
   refine ⟨rfl,by show (od.length:Int)≤1000;omega,rfl,?_,?_⟩
   ·show OkT (uy (fM cs os ks gs bs al mo od)) (iY cs os ks gs bs) gs al mo od
    rw [eO,nr1,er]
    exact hT
   ·show OkS (iY cs os ks gs bs) od (aj (ak cs os ks gs bs al mo od)).sums _
    rw [nr2,er]
    exact hS
  have sr:=alH _ hSh
  have sr:(ji (fM cs os ks gs bs al mo od)).levels=shV (lm cs gs cs.length) gs al mo od:=by
   rw [sr]
   show shl (uy (fM cs os ks gs bs al mo od)) (iY cs os ks gs bs) gs al mo od 81 1 (aj (ak cs os ks gs bs al mo od)).sums _=_
   rw [eO,nr1,nr2,er]
   rfl
  obtain ⟨sl,sb⟩:=ae9 hT 81 1 _ _ (by omega) (by omega) hS
  refine ⟨⟨hSh,rfl,rfl⟩,by omega,⟨rfl,by simp⟩,⟨rfl,rfl⟩,⟨rfl,rfl⟩,?_⟩
  have hX:adh (gQ cs os ks gs bs al mo od):=by
   refine ⟨rfl,rfl,⟨rfl,by show (gs.length:Int)≤1000;omega,?_⟩,fun k h0 h1=>?_,?_⟩
   ·show (ji (fM cs os ks gs bs al mo od)).levels.length=gs.length
    rw [sr]
    exact sl.trans (by rw [List.length_replicate];exact c2)
   ·have:=tH hv h0 h1
    unfold Qb chW at this
    simp only [Bool.and_eq_true,iP] at this
    show ni (bU gs k).2.2.2.1 (bU gs k).2.2.2.2.1 (bU gs k).2.2.2.2.2.1=true
    exact gm.2 (by omega)
   ·show ∀k:Nat,0≤(ji (fM cs os ks gs bs al mo od)).levels.getD k 0∧(ji (fM cs os ks gs bs al mo od)).levels.getD k 0≤80
    rw [sr]
    exact sb
  refine ⟨⟨hX,rfl,rfl⟩,by omega,?_⟩
  obtain ⟨s',_,_,x2⟩:=alG _ hX
  have x2:(iM (gQ cs os ks gs bs al mo od)).out=pJ gs (ji (fM cs os ks gs bs al mo od)).levels:=x2
  show LV.jg [LV.xl _ _,_]=_
  rw [List.drop_zero,List.take_length,x2,sr]
  unfold yO shE
  rw [if_pos hok,if_pos hok]
 ·cases h)
end Go.Proofs.YtlihnbimgclogaaGreatDoor
namespace Go.Proofs.YtlihnbimgclogaaGreatDoor
open Go.Sx
structure nU where
 m:List Ch
 k:Int
 i:Int
 out:List Int
def aBo (s:nU):List LV:=[.os 0 1 0 (List.length s.out),.xl gU s.m,.v (.int .i64 s.k),.v (.int .i64 s.i)]
def aAA (s:nU):List aS:=[⟨[],3,.vec (.int .i64) s.out,false⟩]
noncomputable def Cb:Code:=((ay (Tryz.f72.body.getD .skip))[0]?).getD .skip
def ZK (s:nU):T (Rd nU):=
 .br (decide (s.i<s.k)) (.req (0≤s.i∧s.i<(List.length s.m:Int)) (.req (0≤s.i∧s.i<((List.length s.out:Nat):Int)) (.req (s.i.toNat<List.length s.out) (.req (0=0∧(List.length s.out)=List.length (s.out.set s.i.toNat (bU s.m s.i).2.2.2.2.2.2.1)) (.ok (.next {s with i:=(IntKind.i64.wrap (s.i+1)),out:=(s.out.set s.i.toNat (bU s.m s.i).2.2.2.2.2.2.1)})))))) (.rl s.out (.ok (.stop (.exit 0) s)))
abbrev aqQ (s:nU):=(ZK s).rd s
def adz (s:nU):Prop:=s.i=0∧s.k=(List.length s.m:Int)∧s.k≤1000∧s.out.length=s.m.length∧(∀j,0≤j→j<s.k→gi s.out j=0)∧True
def Np (s:nU):Prop:=(0≤s.i∧s.i≤s.k)∧s.k=(List.length s.m:Int)∧s.k≤1000∧s.out.length=s.m.length∧(∀j,0≤j→j<s.k→gi s.out j=if j<s.i then F9 (bU s.m j) else 0)∧True
def O3 (s:nU):Nat:=(s.k-s.i).toNat
def ajY (x:Ex) (_ s':nU):Prop:=x=.exit 0∧s'.out=Au s'.m.length (fun j=>F9 (bU s'.m j))
theorem azp:∀s,adz s→Np s:=by
 intro s h
 obtain ⟨h0,h2,h3,h4,h5,h6⟩:=h
 exact ⟨by omega,h2,h3,h4,fun j j0 j1=>by rw [h5 j j0 j1,if_neg (by omega)],h6⟩
theorem avp (s:nU) (hI:Np s):bY (fun s'=>Np s'∧O3 s'<O3 s) (fun x s'=>ajY x s s') (aqQ s):=by
 unfold aqQ ZK
 dsimp only [T.rd,T.rl]
 obtain ⟨⟨h0,h1⟩,h2,h3,h4,h5,h6⟩:=hI
 refine ai (fun c1=>?_) (fun c1=>?_)
 ·have c1:s.i<s.k:=by simpa using c1
  rw [aF (x:=s.i+1) (by omega) (by omega)]
  refine ⟨⟨⟨by simp only;omega,by simp only;omega⟩,h2,h3,by simp only [List.length_set];exact h4,fun j j0 j1=>?_,h6⟩,by simp only [O3];omega⟩
  simp only
  have hi:=h5 s.i h0 c1
  rw [if_neg (show ¬s.i<s.i by omega)] at hi
  rw [oz h0 (by rw [h4];omega) j0]
  by_cases e:j=s.i
  ·subst e
   rw [if_pos rfl,if_pos (show s.i<s.i+1 by omega)]
   rfl
  ·rw [if_neg e,h5 j j0 j1]
   by_cases q:j<s.i
   ·rw [if_pos q,if_pos (show j<s.i+1 by omega)]
   ·rw [if_neg q,if_neg (show ¬j<s.i+1 by omega)]
 ·have c1:s.k≤s.i:=by simpa using c1
  refine ⟨rfl,?_⟩
  refine lq (by rw [iL];exact h4) fun j j0 j1=>?_
  rw [iL] at j1
  rw [rW j0 j1,h5 j j0 (by omega),if_pos (show j<s.i by omega)]
def Fh:dn nU:=⟨0,31,[3,17,18,19],[],aBo,aAA,fun v b=>⟨bf gU (v.getD 1 .junk),gI (v.getD 2 .junk),gI (v.getD 3 .junk),jm (.int .i64) (aV b 0)⟩,ZK,fun s r=> {r with m:=s.m,k:=s.k},fun s=>s,fun _ s=>s,[.exit 0],adz,Np,O3⟩
abbrev xZ:=Fh.run
abbrev aod:=Fh.lU
abbrev awx:=Fh.q
theorem atr (s:nU) (hI:Np s):(ZK s).all (fun _=>True):=by
 refine ⟨fun c1=>⟨?_,?_,?_,?_,trivial⟩,fun c1=>⟨⟨rfl,rfl⟩,trivial⟩⟩
 all_goals ((obtain ⟨⟨h0,h1⟩,h2,h3,h4,h5,h6⟩:=hI;(try simp only [decide_eq_true_eq] at c1);first|omega|exact ⟨rfl,by simp⟩ |(omega)))
noncomputable def ain:Specs:=bn []
theorem ap7:∀g S,ain g=some S→Valid Tryz.prog aT g S:=aX (l:=[]) trivial
theorem agR:Fh.Ok:=⟨fun s=>by kernel_rfl,fun s=>by kernel_rfl,fun s=>rfl,fun s t r=>rfl,fun s=>rfl,fun s=>by kernel_rfl⟩
theorem af2:Fh.Pf (ajY):=⟨azp,fun _ _=>rfl,avp,atr⟩
theorem alB:bG Tryz.prog aT (AN 0) (.loop Cb) Fh.lp:=dn.snd agR af2 (bI (Γ:=ain) (K:=iU) (L:=aB) ap7 aC Cb (fun b hb=>by rw [show ay Cb=[] by kernel_rfl] at hb;cases hb)) (fun s=>by kernel_rfl)
theorem aov (s:nU) (hE:adz s):∃s',Np s'∧ajY (aod s) s' (xZ s):=dn.fin agR af2 s hE
def ac1:List LV→T LV
 | [.xq 9 q0]=>(match ([q0 0,q0 1,q0 2,q0 3,q0 4,q0 5,q0 6,q0 7,q0 8]:List LV) with
  | [.xl (.pair .str (.pair (.int .i64) (.pair (.int .i64) (.pair (.int .i64) (.pair (.pair (.int .i64) (.int .i64)) (.pair (.int .i64) (.pair (.int .i64) (.pair (.int .i64) (.pair (.int .i64) (.int .i64)))))))))) _,.xl (.str) _,.xl (.pair .str (.pair (.int .i64) (.pair (.int .i64) (.int .i64)))) _,.xl (.pair .str (.pair (.int .i64) (.pair (.int .i64) (.pair (.int .i64) (.pair (.int .i64) (.pair (.int .i64) (.pair (.int .i64) (.int .i64)))))))) gs,.xl (.pair .str (.int .i64)) _,.xl (.pair (.int .i64) (.pair (.int .i64) (.pair (.int .i64) (.pair (.int .i64) (.int .i64))))) _,.xl (.pair .bool (.pair (.int .i64) (.pair (.int .i64) (.int .i64)))) _,.v (.int .i64 _),.xl (.int .i64) _]=> .req ((List.length gs:Int)≤1000) (.ok (.xl (.int .i64) (nO gs)))
  |_=> .no)
 |_=> .no
noncomputable def YW:List LV→T LV:=jR Tryz.prog Tryz.f72.params.toList ac1
theorem am7 (cs:List Cd) (os:List ByteArray) (ks:List Ko) (gs:List Ch) (bs:List Ba) (l:List Le) (d:List Dm) (t:Int) (od:List Int):eX Tryz.prog aT (ain) iU (fun i=>if i=3 then Fh.lp else aB i) Tryz.f72 [.xq 9 (fun j=>([.xl iJ cs,.xl .str os,.xl iQ ks,.xl gU gs,.xl iR bs,.xl rG l,.xl jc d,.v (.int .i64 t),.xl (.int .i64) od]:List LV).getD j .junk)]=.req (0≤(List.length gs:Int)∧(List.length gs:Int)≤(List.length gs:Int)∧8*(List.length gs:Int)≤2^48∧(List.length gs:Int)<2^63) (.req (0=0∧(List.length gs:Int).toNat=List.length (List.replicate (List.length gs:Int).toNat (0:Int))) (.req (awx (⟨gs,(List.length gs:Int),(0:Int),(List.replicate (List.length gs:Int).toNat (0:Int))⟩:nU)) (.req (0+(List.length (xZ (⟨gs,(List.length gs:Int),(0:Int),(List.replicate (List.length gs:Int).toNat (0:Int))⟩:nU)).out)≤List.length (xZ (⟨gs,(List.length gs:Int),(0:Int),(List.replicate (List.length gs:Int).toNat (0:Int))⟩:nU)).out) (.ok (.xl (.int .i64) (((xZ (⟨gs,(List.length gs:Int),(0:Int),(List.replicate (List.length gs:Int).toNat (0:Int))⟩:nU)).out.drop 0).take (List.length (xZ (⟨gs,(List.length gs:Int),(0:Int),(List.replicate (List.length gs:Int).toNat (0:Int))⟩:nU)).out))))))):=by kernel_rfl
theorem arZ:Valid Tryz.prog aT 72 YW:=aJ Tryz.func72 rfl ap7 aC (L:=(fun i=>if i=3 then Fh.lp else aB i)) (fun b hb=>by
 rw [show ay _=[Cb] by kernel_rfl] at hb
 simp only [List.mem_cons,List.not_mem_nil,or_false] at hb
 subst hb
 exact alB) (fun args lv h=>by
 unfold ac1 at h
 split at h
 ·split at h
  case h_2=>cases h
  rename_i heq0
  simp only [canL,canX]
  rw [pI (n:=9) heq0]
  simp only [canL,canX]
  rw [am7]
  rename_i cs os ks gs bs l d t od
  obtain ⟨hn,rfl⟩:=h
  have hE:adz ⟨gs,(List.length gs:Int),0,List.replicate (List.length gs:Int).toNat 0⟩:=⟨rfl,rfl,hn,by simp,fun j _ _=>wZ,trivial⟩
  obtain ⟨_,_,q1,q2⟩:=aov _ hE
  have q2:(xZ ⟨gs,(List.length gs:Int),0,List.replicate (List.length gs:Int).toNat 0⟩).out=nO gs:=q2
  refine ⟨by omega,⟨rfl,by simp⟩,⟨hE,rfl,rfl⟩,by omega,?_⟩
  show LV.xl _ _=_
  rw [List.drop_zero,List.take_length,q2]
 ·cases h)
structure mF where
 cs:List Cd
 os:List ByteArray
 ks:List Ko
 gs:List Ch
 bs:List Ba
 l:List Le
 d:List Dm
 t:Int
 od:List Int
 m:List Ch
 k:Int
 i:Int
 wanted:List Int
def aBj (s:mF):List LV:=[.xq 9 (fun j=>([.xl iJ s.cs,.xl .str s.os,.xl iQ s.ks,.xl gU s.gs,.xl iR s.bs,.xl rG s.l,.xl jc s.d,.v (.int .i64 s.t),.xl (.int .i64) s.od]:List LV).getD j .junk),.os 0 1 0 (List.length s.wanted),.xl gU s.m,.v (.int .i64 s.k),.v (.int .i64 s.i)]
def aAv (s:mF):List aS:=[⟨[],3,.vec (.int .i64) s.wanted,false⟩]
noncomputable def BV:Code:=((ay (Tryz.f71.body.getD .skip))[0]?).getD .skip
def ZG (s:mF):T (Rd mF):=
 .br (decide (s.i<s.k)) (.req (0≤s.i∧s.i<(List.length s.m:Int)) (.req (0≤s.i∧s.i<(List.length s.d:Int)) (.br (jw s.d s.i).1 (.req (0≤s.i∧s.i<((List.length s.wanted:Nat):Int)) (.req (s.i.toNat<List.length s.wanted) (.req (0=0∧(List.length s.wanted)=List.length (s.wanted.set s.i.toNat (bU s.m s.i).2.2.2.2.1)) (.ok (.next {s with i:=(IntKind.i64.wrap (s.i+1)),wanted:=(s.wanted.set s.i.toNat (bU s.m s.i).2.2.2.2.1)}))))) (.rl s.wanted (.ok (.next {s with i:=(IntKind.i64.wrap (s.i+1))})))))) (.rl s.wanted (.ok (.stop (.exit 0) s)))
abbrev aqN (s:mF):=(ZG s).rd s
def adv (s:mF):Prop:=s.i=0∧s.k=(List.length s.m:Int)∧s.k≤1000∧s.wanted.length=s.m.length∧(∀j,0≤j→j<s.k→gi s.wanted j=0)∧s.d.length=s.m.length
def Nj (s:mF):Prop:=(0≤s.i∧s.i≤s.k)∧s.k=(List.length s.m:Int)∧s.k≤1000∧s.wanted.length=s.m.length∧(∀j,0≤j→j<s.k→gi s.wanted j=if j<s.i then if (jw s.d j).1=true then (bU s.m j).2.2.2.2.1 else 0 else 0)∧s.d.length=s.m.length
def Ih (s:mF):Nat:=(s.k-s.i).toNat
def ajV (x:Ex) (_ s':mF):Prop:=x=.exit 0∧s'.wanted=Au s'.m.length (fun j=>if (jw s'.d j).1=true then (bU s'.m j).2.2.2.2.1 else 0)
theorem azi:∀s,adv s→Nj s:=by
 intro s h
 obtain ⟨h0,h2,h3,h4,h5,h6⟩:=h
 exact ⟨by omega,h2,h3,h4,fun j j0 j1=>by rw [h5 j j0 j1,if_neg (by omega)],h6⟩
theorem avf (s:mF) (hI:Nj s):bY (fun s'=>Nj s'∧Ih s'<Ih s) (fun x s'=>ajV x s s') (aqN s):=by
 unfold aqN ZG
 dsimp only [T.rd,T.rl]
 obtain ⟨⟨h0,h1⟩,h2,h3,h4,h5,h6⟩:=hI
 refine ai (fun c1=>?_) (fun c1=>?_)
 ·refine ai (fun c2=>?_) (fun c2=>?_)
  ·have c1:s.i<s.k:=by simpa using c1
   rw [aF (x:=s.i+1) (by omega) (by omega)]
   refine ⟨⟨⟨by simp only;omega,by simp only;omega⟩,h2,h3,by simp only [List.length_set];exact h4,fun j j0 j1=>?_,h6⟩,by simp only [Ih];omega⟩
   simp only
   have hi:=h5 s.i h0 c1
   rw [if_neg (show ¬s.i<s.i by omega)] at hi
   rw [oz h0 (by rw [h4];omega) j0]
   by_cases e:j=s.i
   ·subst e
    rw [if_pos rfl,if_pos (show s.i<s.i+1 by omega)]
    first|(rw [if_pos (by simpa using c2)]) |(rw [if_neg (by simpa using c2)])
   ·rw [if_neg e,h5 j j0 j1]
    by_cases q:j<s.i
    ·rw [if_pos q,if_pos (show j<s.i+1 by omega)]
    ·rw [if_neg q,if_neg (show ¬j<s.i+1 by omega)]
  ·have c1:s.i<s.k:=by simpa using c1
   rw [aF (x:=s.i+1) (by omega) (by omega)]
   refine ⟨⟨⟨by simp only;omega,by simp only;omega⟩,h2,h3,h4,fun j j0 j1=>?_,h6⟩,by simp only [Ih];omega⟩
   simp only
   have hi:=h5 s.i h0 c1
   rw [if_neg (show ¬s.i<s.i by omega)] at hi
   rw [h5 j j0 j1]
   by_cases e:j=s.i
   ·subst e
    rw [if_neg (show ¬s.i<s.i by omega),if_pos (show s.i<s.i+1 by omega)]
    first|(rw [if_pos (by simpa using c2)]) |(rw [if_neg (by simpa using c2)])
   ·by_cases q:j<s.i
    ·rw [if_pos q,if_pos (show j<s.i+1 by omega)]
    ·rw [if_neg q,if_neg (show ¬j<s.i+1 by omega)]
 ·have c1:s.k≤s.i:=by simpa using c1
  refine ⟨rfl,?_⟩
  refine lq (by rw [iL];exact h4) fun j j0 j1=>?_
  rw [iL] at j1
  rw [rW j0 j1,h5 j j0 (by omega),if_pos (show j<s.i by omega)]
def Fe:dn mF:=⟨0,53,[0,4,18,19,20],[],aBj,aAv,fun v b=>⟨bf iJ (nN (v.getD 0 .junk) 0),bf .str (nN (v.getD 0 .junk) 1),bf iQ (nN (v.getD 0 .junk) 2),bf gU (nN (v.getD 0 .junk) 3),bf iR (nN (v.getD 0 .junk) 4),bf rG (nN (v.getD 0 .junk) 5),bf jc (nN (v.getD 0 .junk) 6),gI (nN (v.getD 0 .junk) 7),bf (.int .i64) (nN (v.getD 0 .junk) 8),bf gU (v.getD 2 .junk),gI (v.getD 3 .junk),gI (v.getD 4 .junk),jm (.int .i64) (aV b 0)⟩,ZG,fun s r=> {r with cs:=s.cs,os:=s.os,ks:=s.ks,gs:=s.gs,bs:=s.bs,l:=s.l,d:=s.d,t:=s.t,od:=s.od,m:=s.m,k:=s.k},fun s=>s,fun _ s=>s,[.exit 0],adv,Nj,Ih⟩
abbrev rJ:=Fe.run
abbrev aoa:=Fe.lU
abbrev aws:=Fe.q
theorem atm (s:mF) (hI:Nj s):(ZG s).all (fun _=>True):=by
 refine ⟨fun c1=>⟨?_,?_,fun c2=>⟨?_,?_,?_,trivial⟩,fun c2=>⟨⟨rfl,rfl⟩,trivial⟩⟩,fun c1=>⟨⟨rfl,rfl⟩,trivial⟩⟩
 all_goals ((obtain ⟨⟨h0,h1⟩,h2,h3,h4,h5,h6⟩:=hI;(try simp only [decide_eq_true_eq] at c1);first|omega|exact ⟨rfl,by simp⟩ |(omega)))
noncomputable def aim:Specs:=bn [(52,Jt),(72,YW)]
theorem ap6:∀g S,aim g=some S→Valid Tryz.prog aT g S:=aX (l:=[(52,Jt),(72,YW)]) ⟨aeI,arZ,trivial⟩
theorem agN:Fe.Ok:=⟨fun s=>by kernel_rfl,fun s=>by kernel_rfl,fun s=>rfl,fun s t r=>rfl,fun s=>rfl,fun s=>by kernel_rfl⟩
theorem afX:Fe.Pf (ajV):=⟨azi,fun _ _=>rfl,avf,atm⟩
theorem alu:bG Tryz.prog aT (AN 0) (.loop BV) Fe.lp:=dn.snd agN afX (bI (Γ:=aim) (K:=iU) (L:=aB) ap6 aC BV (fun b hb=>by rw [show ay BV=[] by kernel_rfl] at hb;cases hb)) (fun s=>by kernel_rfl)
theorem aon (s:mF) (hE:adv s):∃s',Nj s'∧ajV (aoa s) s' (rJ s):=dn.fin agN afX s hE
def acX:List LV→T LV
 | [.xq 9 q0]=>(match ([q0 0,q0 1,q0 2,q0 3,q0 4,q0 5,q0 6,q0 7,q0 8]:List LV) with
  | [.xl (.pair .str (.pair (.int .i64) (.pair (.int .i64) (.pair (.int .i64) (.pair (.pair (.int .i64) (.int .i64)) (.pair (.int .i64) (.pair (.int .i64) (.pair (.int .i64) (.pair (.int .i64) (.int .i64)))))))))) cs,.xl (.str) os,.xl (.pair .str (.pair (.int .i64) (.pair (.int .i64) (.int .i64)))) ks,.xl (.pair .str (.pair (.int .i64) (.pair (.int .i64) (.pair (.int .i64) (.pair (.int .i64) (.pair (.int .i64) (.pair (.int .i64) (.int .i64)))))))) gs,.xl (.pair .str (.int .i64)) bs,.xl (.pair (.int .i64) (.pair (.int .i64) (.pair (.int .i64) (.pair (.int .i64) (.int .i64))))) _,.xl (.pair .bool (.pair (.int .i64) (.pair (.int .i64) (.int .i64)))) d,.v (.int .i64 _),.xl (.int .i64) od]=> .req ((List.length gs:Int)≤1000∧d.length=gs.length) (.ok (.jg [.xl (.int .i64) (yO cs os ks gs bs (nO gs) (qi gs d) od),.v (.int .i64 (shE cs os ks gs bs (nO gs) (qi gs d) od))]))
  |_=> .no)
 |_=> .no
noncomputable def YS:List LV→T LV:=jR Tryz.prog Tryz.f71.params.toList acX
theorem am3 (cs:List Cd) (os:List ByteArray) (ks:List Ko) (gs:List Ch) (bs:List Ba) (l:List Le) (d:List Dm) (t:Int) (od:List Int):eX Tryz.prog aT (aim) iU (fun i=>if i=3 then Fe.lp else aB i) Tryz.f71 [.xq 9 (fun j=>([.xl iJ cs,.xl .str os,.xl iQ ks,.xl gU gs,.xl iR bs,.xl rG l,.xl jc d,.v (.int .i64 t),.xl (.int .i64) od]:List LV).getD j .junk)]=.req (0≤(List.length gs:Int)∧(List.length gs:Int)≤(List.length gs:Int)∧8*(List.length gs:Int)≤2^48∧(List.length gs:Int)<2^63) (.req (0=0∧(List.length gs:Int).toNat=List.length (List.replicate (List.length gs:Int).toNat (0:Int))) (.req (aws (⟨cs,os,ks,gs,bs,l,d,t,od,gs,(List.length gs:Int),(0:Int),(List.replicate (List.length gs:Int).toNat (0:Int))⟩:mF)) (.req ((List.length gs:Int)≤1000) (.req (0+(List.length (rJ (⟨cs,os,ks,gs,bs,l,d,t,od,gs,(List.length gs:Int),(0:Int),(List.replicate (List.length gs:Int).toNat (0:Int))⟩:mF)).wanted)≤List.length (rJ (⟨cs,os,ks,gs,bs,l,d,t,od,gs,(List.length gs:Int),(0:Int),(List.replicate (List.length gs:Int).toNat (0:Int))⟩:mF)).wanted) (.ok (.jg [.xl (.int .i64) (yO cs os ks gs bs (nO gs) (((rJ (⟨cs,os,ks,gs,bs,l,d,t,od,gs,(List.length gs:Int),(0:Int),(List.replicate (List.length gs:Int).toNat (0:Int))⟩:mF)).wanted.drop 0).take (List.length (rJ (⟨cs,os,ks,gs,bs,l,d,t,od,gs,(List.length gs:Int),(0:Int),(List.replicate (List.length gs:Int).toNat (0:Int))⟩:mF)).wanted)) od),.v (.int .i64 (shE cs os ks gs bs (nO gs) (((rJ (⟨cs,os,ks,gs,bs,l,d,t,od,gs,(List.length gs:Int),(0:Int),(List.replicate (List.length gs:Int).toNat (0:Int))⟩:mF)).wanted.drop 0).take (List.length (rJ (⟨cs,os,ks,gs,bs,l,d,t,od,gs,(List.length gs:Int),(0:Int),(List.replicate (List.length gs:Int).toNat (0:Int))⟩:mF)).wanted)) od))])))))):=by kernel_rfl
theorem arV:Valid Tryz.prog aT 71 YS:=aJ Tryz.func71 rfl ap6 aC (L:=(fun i=>if i=3 then Fe.lp else aB i)) (fun b hb=>by
 rw [show ay _=[BV] by kernel_rfl] at hb
 simp only [List.mem_cons,List.not_mem_nil,or_false] at hb
 subst hb
 exact alu) (fun args lv h=>by
 unfold acX at h
 split at h
 ·split at h
  case h_2=>cases h
  rename_i heq0
  simp only [canL,canX]
  rw [pI (n:=9) heq0]
  simp only [canL,canX]
  rw [am3]
  rename_i cs os ks gs bs l d t od
  obtain ⟨⟨hn,hd⟩,rfl⟩:=h
  have hE:adv ⟨cs,os,ks,gs,bs,l,d,t,od,gs,(List.length gs:Int),0,List.replicate (List.length gs:Int).toNat 0⟩:=⟨rfl,rfl,hn,by simp,fun j _ _=>wZ,hd⟩
  obtain ⟨_,_,q1,q2⟩:=aon _ hE
  have q2:(rJ ⟨cs,os,ks,gs,bs,l,d,t,od,gs,(List.length gs:Int),0,List.replicate (List.length gs:Int).toNat 0⟩).wanted=qi gs d:=q2
  refine ⟨by omega,⟨rfl,by simp⟩,⟨hE,rfl,rfl⟩,hn,by omega,?_⟩
  show LV.jg [LV.xl _ _,_]=_
  rw [List.drop_zero,List.take_length,q2]
 ·cases h)
structure kZ where
 m:List Ch
 k:Int
 i:Int
 out:List Int
def aBm (s:kZ):List LV:=[.os 0 1 0 (List.length s.out),.xl gU s.m,.v (.int .i64 s.k),.v (.int .i64 s.i)]
def aAy (s:kZ):List aS:=[⟨[],3,.vec (.int .i64) s.out,false⟩]
noncomputable def Ut:Code:=((ay (Tryz.f72.body.getD .skip))[0]?).getD .skip
def ZI (s:kZ):T (Rd kZ):=
 .br (decide (s.i<s.k)) (.req (0≤s.i∧s.i<(List.length s.m:Int)) (.req (0≤s.i∧s.i<((List.length s.out:Nat):Int)) (.req (s.i.toNat<List.length s.out) (.req (0=0∧(List.length s.out)=List.length (s.out.set s.i.toNat (bU s.m s.i).2.2.2.2.2.2.1)) (.ok (.next {s with i:=(IntKind.i64.wrap (s.i+1)),out:=(s.out.set s.i.toNat (bU s.m s.i).2.2.2.2.2.2.1)})))))) (.rl s.out (.ok (.stop (.exit 0) s)))
abbrev aqP (s:kZ):=(ZI s).rd s
def ady (s:kZ):Prop:=s.i=0∧s.k=(List.length s.m:Int)∧s.k≤1000∧s.out.length=s.m.length∧(∀j,0≤j→j<s.k→gi s.out j=0)∧True
def Nl (s:kZ):Prop:=(0≤s.i∧s.i≤s.k)∧s.k=(List.length s.m:Int)∧s.k≤1000∧s.out.length=s.m.length∧(∀j,0≤j→j<s.k→gi s.out j=if j<s.i then F9 (bU s.m j) else 0)∧True
def O1 (s:kZ):Nat:=(s.k-s.i).toNat
def ajX (x:Ex) (_ s':kZ):Prop:=x=.exit 0∧s'.out=Au s'.m.length (fun j=>F9 (bU s'.m j))
theorem azl:∀s,ady s→Nl s:=by
 intro s h
 obtain ⟨h0,h2,h3,h4,h5,h6⟩:=h
 exact ⟨by omega,h2,h3,h4,fun j j0 j1=>by rw [h5 j j0 j1,if_neg (by omega)],h6⟩
theorem avi (s:kZ) (hI:Nl s):bY (fun s'=>Nl s'∧O1 s'<O1 s) (fun x s'=>ajX x s s') (aqP s):=by
 unfold aqP ZI
 dsimp only [T.rd,T.rl]
 obtain ⟨⟨h0,h1⟩,h2,h3,h4,h5,h6⟩:=hI
 refine ai (fun c1=>?_) (fun c1=>?_)
 ·have c1:s.i<s.k:=by simpa using c1
  rw [aF (x:=s.i+1) (by omega) (by omega)]
  refine ⟨⟨⟨by simp only;omega,by simp only;omega⟩,h2,h3,by simp only [List.length_set];exact h4,fun j j0 j1=>?_,h6⟩,by simp only [O1];omega⟩
  simp only
  have hi:=h5 s.i h0 c1
  rw [if_neg (show ¬s.i<s.i by omega)] at hi
  rw [oz h0 (by rw [h4];omega) j0]
  by_cases e:j=s.i
  ·subst e
   rw [if_pos rfl,if_pos (show s.i<s.i+1 by omega)]
   rfl
  ·rw [if_neg e,h5 j j0 j1]
   by_cases q:j<s.i
   ·rw [if_pos q,if_pos (show j<s.i+1 by omega)]
   ·rw [if_neg q,if_neg (show ¬j<s.i+1 by omega)]
 ·have c1:s.k≤s.i:=by simpa using c1
  refine ⟨rfl,?_⟩
  refine lq (by rw [iL];exact h4) fun j j0 j1=>?_
  rw [iL] at j1
  rw [rW j0 j1,h5 j j0 (by omega),if_pos (show j<s.i by omega)]
def J3:dn kZ:=⟨0,31,[3,17,18,19],[],aBm,aAy,fun v b=>⟨bf gU (v.getD 1 .junk),gI (v.getD 2 .junk),gI (v.getD 3 .junk),jm (.int .i64) (aV b 0)⟩,ZI,fun s r=> {r with m:=s.m,k:=s.k},fun s=>s,fun _ s=>s,[.exit 0],ady,Nl,O1⟩
abbrev lQ:=J3.run
abbrev aoc:=J3.lU
abbrev awv:=J3.q
noncomputable def AU:Specs:=bn [(52,Jt),(66,Y2),(71,YS)]
theorem En:∀g S,AU g=some S→Valid Tryz.prog aT g S:=aX (l:=[(52,Jt),(66,Y2),(71,YS)]) ⟨aeI,ar5,arV,trivial⟩
noncomputable def ahT:Hand:=inl Tryz.prog aT AU (jo Tryz.prog aT (AU) 20 2) 9
theorem apL:cO Tryz.prog aT ahT:=bJ En (dw En) 9
theorem atp (s:kZ) (hI:Nl s):(ZI s).all (fun _=>True):=by
 refine ⟨fun c1=>⟨?_,?_,?_,?_,trivial⟩,fun c1=>⟨⟨rfl,rfl⟩,trivial⟩⟩
 all_goals ((obtain ⟨⟨h0,h1⟩,h2,h3,h4,h5,h6⟩:=hI;(try simp only [decide_eq_true_eq] at c1);first|omega|exact ⟨rfl,by simp⟩ |(omega)))
theorem agQ:J3.Ok:=⟨fun s=>by kernel_rfl,fun s=>by kernel_rfl,fun s=>rfl,fun s t r=>rfl,fun s=>rfl,fun s=>by kernel_rfl⟩
theorem af0:J3.Pf (ajX):=⟨azl,fun _ _=>rfl,avi,atp⟩
theorem alz:bG Tryz.prog aT (AN 0) (.loop Ut) J3.lp:=dn.snd agQ af0 (aZ (Γ:=AU) (K:=ahT) (L:=(mP Tryz.prog aT AU ahT 20 2)) En apL Ut (fun b _=>cu En apL 20 2 b)) (fun s=>by kernel_rfl)
theorem aor (s:kZ) (hE:ady s):∃s',Nl s'∧ajX (aoc s) s' (lQ s):=dn.fin agQ af0 s hE
structure mG where
 cs:List Cd
 os:List ByteArray
 ks:List Ko
 gs:List Ch
 bs:List Ba
 l:List Le
 d:List Dm
 t:Int
 od:List Int
 targets:List Int
 m:List Int
 k:Int
 i:Int
 alive:List Int
def aBk (s:mG):List LV:=[.xq 9 (fun j=>([.xl iJ s.cs,.xl .str s.os,.xl iQ s.ks,.xl gU s.gs,.xl iR s.bs,.xl rG s.l,.xl jc s.d,.v (.int .i64 s.t),.xl (.int .i64) s.od]:List LV).getD j .junk),.xl (.int .i64) s.targets,.os 0 1 0 (List.length s.alive),.xl (.int .i64) s.m,.v (.int .i64 s.k),.v (.int .i64 s.i)]
def aAw (s:mG):List aS:=[⟨[],3,.vec (.int .i64) s.alive,false⟩]
noncomputable def BX:Code:=((ay (Tryz.f36.body.getD .skip))[0]?).getD .skip
def ZH (s:mG):T (Rd mG):=
 .br (decide (s.i<s.k)) (.req (0≤s.i∧s.i<(List.length s.m:Int)) (.req (0≤s.i∧s.i<((List.length s.alive:Nat):Int)) (.req (s.i.toNat<List.length s.alive) (.req (0≤s.i∧s.i<((List.length s.alive:Nat):Int)) (.req (s.i.toNat<List.length s.alive) (.req (0=0∧(List.length s.alive)=List.length (s.alive.set s.i.toNat (if (s.alive.getD s.i.toNat (Ty.dflt (.int .i64)))<(gi s.m s.i) then (gi s.m s.i) else (s.alive.getD s.i.toNat (Ty.dflt (.int .i64)))))) (.ok (.next {s with i:=(IntKind.i64.wrap (s.i+1)),alive:=(s.alive.set s.i.toNat (if (s.alive.getD s.i.toNat (Ty.dflt (.int .i64)))<(gi s.m s.i) then (gi s.m s.i) else (s.alive.getD s.i.toNat (Ty.dflt (.int .i64)))))})))))))) (.rl s.alive (.ok (.stop (.exit 0) s)))
abbrev aqO (s:mG):=(ZH s).rd s
def adw (s:mG):Prop:=s.i=0∧s.k=(List.length s.m:Int)∧s.k≤1000∧s.alive.length=s.m.length∧(∀j,0≤j→j<s.k→gi s.alive j=F9 (bU s.gs j))∧True
def Nk (s:mG):Prop:=(0≤s.i∧s.i≤s.k)∧s.k=(List.length s.m:Int)∧s.k≤1000∧s.alive.length=s.m.length∧(∀j,0≤j→j<s.k→gi s.alive j=if j<s.i then mx (F9 (bU s.gs j)) (gi s.m j) else F9 (bU s.gs j))∧True
def OZ (s:mG):Nat:=(s.k-s.i).toNat
def ajW (x:Ex) (_ s':mG):Prop:=x=.exit 0∧s'.alive=Au s'.m.length (fun j=>mx (F9 (bU s'.gs j)) (gi s'.m j))
theorem azj:∀s,adw s→Nk s:=by
 intro s h
 obtain ⟨h0,h2,h3,h4,h5,h6⟩:=h
 exact ⟨by omega,h2,h3,h4,fun j j0 j1=>by rw [h5 j j0 j1,if_neg (by omega)],h6⟩
theorem avg (s:mG) (hI:Nk s):bY (fun s'=>Nk s'∧OZ s'<OZ s) (fun x s'=>ajW x s s') (aqO s):=by
 unfold aqO ZH
 dsimp only [T.rd,T.rl]
 obtain ⟨⟨h0,h1⟩,h2,h3,h4,h5,h6⟩:=hI
 refine ai (fun c1=>?_) (fun c1=>?_)
 ·have c1:s.i<s.k:=by simpa using c1
  rw [aF (x:=s.i+1) (by omega) (by omega)]
  refine ⟨⟨⟨by simp only;omega,by simp only;omega⟩,h2,h3,by simp only [List.length_set];exact h4,fun j j0 j1=>?_,h6⟩,by simp only [OZ];omega⟩
  simp only
  have hi:=h5 s.i h0 c1
  rw [if_neg (show ¬s.i<s.i by omega)] at hi
  rw [oz h0 (by rw [h4];omega) j0]
  by_cases e:j=s.i
  ·subst e
   rw [if_pos rfl,if_pos (show s.i<s.i+1 by omega)]
   show mx (gi s.alive s.i) (gi s.m s.i)=_
   rw [hi]
  ·rw [if_neg e,h5 j j0 j1]
   by_cases q:j<s.i
   ·rw [if_pos q,if_pos (show j<s.i+1 by omega)]
   ·rw [if_neg q,if_neg (show ¬j<s.i+1 by omega)]
 ·have c1:s.k≤s.i:=by simpa using c1
  refine ⟨rfl,?_⟩
  refine lq (by rw [iL];exact h4) fun j j0 j1=>?_
  rw [iL] at j1
  rw [rW j0 j1,h5 j j0 (by omega),if_pos (show j<s.i by omega)]
def Ff:dn mG:=⟨0,71,[0,4,7,41,42,43],[],aBk,aAw,fun v b=>⟨bf iJ (nN (v.getD 0 .junk) 0),bf .str (nN (v.getD 0 .junk) 1),bf iQ (nN (v.getD 0 .junk) 2),bf gU (nN (v.getD 0 .junk) 3),bf iR (nN (v.getD 0 .junk) 4),bf rG (nN (v.getD 0 .junk) 5),bf jc (nN (v.getD 0 .junk) 6),gI (nN (v.getD 0 .junk) 7),bf (.int .i64) (nN (v.getD 0 .junk) 8),bf (.int .i64) (v.getD 1 .junk),bf (.int .i64) (v.getD 3 .junk),gI (v.getD 4 .junk),gI (v.getD 5 .junk),jm (.int .i64) (aV b 0)⟩,ZH,fun s r=> {r with cs:=s.cs,os:=s.os,ks:=s.ks,gs:=s.gs,bs:=s.bs,l:=s.l,d:=s.d,t:=s.t,od:=s.od,targets:=s.targets,m:=s.m,k:=s.k},fun s=>s,fun _ s=>s,[.exit 0],adw,Nk,OZ⟩
abbrev rM:=Ff.run
abbrev aob:=Ff.lU
abbrev awt:=Ff.q
theorem atn (s:mG) (hI:Nk s):(ZH s).all (fun _=>True):=by
 refine ⟨fun c1=>⟨?_,?_,?_,?_,?_,?_,trivial⟩,fun c1=>⟨⟨rfl,rfl⟩,trivial⟩⟩
 all_goals ((obtain ⟨⟨h0,h1⟩,h2,h3,h4,h5,h6⟩:=hI;(try simp only [decide_eq_true_eq] at c1);first|omega|exact ⟨rfl,by simp⟩ |(omega)))
noncomputable def ahS:Hand:=inl Tryz.prog aT AU (dG 72 0 3 (J3.lp) (jo Tryz.prog aT (AU) 20 2)) 9
theorem apK:cO Tryz.prog aT ahS:=bJ En (aP Tryz.func72 rfl (by kernel_rfl) alz (dw En)) 9
theorem agO:Ff.Ok:=⟨fun s=>by kernel_rfl,fun s=>by kernel_rfl,fun s=>rfl,fun s t r=>rfl,fun s=>rfl,fun s=>by kernel_rfl⟩
theorem afY:Ff.Pf (ajW):=⟨azj,fun _ _=>rfl,avg,atn⟩
theorem alv:bG Tryz.prog aT (AN 0) (.loop BX) Ff.lp:=dn.snd agO afY (bI (Γ:=AU) (K:=ahS) (L:=aB) En apK BX (fun b hb=>by rw [show ay BX=[] by kernel_rfl] at hb;cases hb)) (fun s=>by kernel_rfl)
theorem aoo (s:mG) (hE:adw s):∃s',Nk s'∧ajW (aob s) s' (rM s):=dn.fin agO afY s hE
def acY:List LV→T LV
 | [.xq 9 q0]=>(match ([q0 0,q0 1,q0 2,q0 3,q0 4,q0 5,q0 6,q0 7,q0 8]:List LV) with
  | [.xl (.pair .str (.pair (.int .i64) (.pair (.int .i64) (.pair (.int .i64) (.pair (.pair (.int .i64) (.int .i64)) (.pair (.int .i64) (.pair (.int .i64) (.pair (.int .i64) (.pair (.int .i64) (.int .i64)))))))))) cs,.xl (.str) os,.xl (.pair .str (.pair (.int .i64) (.pair (.int .i64) (.int .i64)))) ks,.xl (.pair .str (.pair (.int .i64) (.pair (.int .i64) (.pair (.int .i64) (.pair (.int .i64) (.pair (.int .i64) (.pair (.int .i64) (.int .i64)))))))) gs,.xl (.pair .str (.int .i64)) bs,.xl (.pair (.int .i64) (.pair (.int .i64) (.pair (.int .i64) (.pair (.int .i64) (.int .i64))))) l,.xl (.pair .bool (.pair (.int .i64) (.pair (.int .i64) (.int .i64)))) d,.v (.int .i64 t),.xl (.int .i64) od]=> .req (d.length=gs.length∧tK cs os ks gs bs (nO gs) (qi gs d) od=true∧Kz l (List.length gs:Int) t=true∧tK cs os ks gs bs (Ym gs l t) (yO cs os ks gs bs (nO gs) (qi gs d) od) od=true) (.ok (.jg [.xl (.int .i64) (Oi cs os ks gs bs l d t od),.v (.int .i64 0)]))
  |_=> .no)
 |_=> .no
noncomputable def YT:List LV→T LV:=jR Tryz.prog Tryz.f36.params.toList acY
theorem am4 (cs:List Cd) (os:List ByteArray) (ks:List Ko) (gs:List Ch) (bs:List Ba) (l:List Le) (d:List Dm) (t:Int) (od:List Int):eX Tryz.prog aT (AU) ahS (fun i=>if i=9 then Ff.lp else aB i) Tryz.f36 [.xq 9 (fun j=>([.xl iJ cs,.xl .str os,.xl iQ ks,.xl gU gs,.xl iR bs,.xl rG l,.xl jc d,.v (.int .i64 t),.xl (.int .i64) od]:List LV).getD j .junk)]=.req ((List.length gs:Int)≤1000∧d.length=gs.length) (.br ((shE cs os ks gs bs (nO gs) (qi gs d) od) !=0) (.ok (.jg [.xl (.int .i64) ([]:List Int),.v (.int .i64 (shE cs os ks gs bs (nO gs) (qi gs d) od))])) (.br ((UC l (List.length gs:Int) t) !=0) (.ok (.jg [.xl (.int .i64) ([]:List Int),.v (.int .i64 (UC l (List.length gs:Int) t))])) (.req (0≤(List.length gs:Int)∧(List.length gs:Int)≤(List.length gs:Int)∧8*(List.length gs:Int)≤2^48∧(List.length gs:Int)<2^63) (.req (0=0∧(List.length gs:Int).toNat=List.length (List.replicate (List.length gs:Int).toNat (0:Int))) (.req (awv (⟨gs,(List.length gs:Int),(0:Int),(List.replicate (List.length gs:Int).toNat (0:Int))⟩:kZ)) (.rl (lQ (⟨gs,(List.length gs:Int),(0:Int),(List.replicate (List.length gs:Int).toNat (0:Int))⟩:kZ)).out (.req (awt (⟨cs,os,ks,gs,bs,l,d,t,od,(yO cs os ks gs bs (nO gs) (qi gs d) od),(oZ l (List.length gs:Int) t),(List.length (oZ l (List.length gs:Int) t):Int),(0:Int),(lQ (⟨gs,(List.length gs:Int),(0:Int),(List.replicate (List.length gs:Int).toNat (0:Int))⟩:kZ)).out⟩:mG)) (.req (0+(List.length (rM (⟨cs,os,ks,gs,bs,l,d,t,od,(yO cs os ks gs bs (nO gs) (qi gs d) od),(oZ l (List.length gs:Int) t),(List.length (oZ l (List.length gs:Int) t):Int),(0:Int),(lQ (⟨gs,(List.length gs:Int),(0:Int),(List.replicate (List.length gs:Int).toNat (0:Int))⟩:kZ)).out⟩:mG)).alive)≤List.length (rM (⟨cs,os,ks,gs,bs,l,d,t,od,(yO cs os ks gs bs (nO gs) (qi gs d) od),(oZ l (List.length gs:Int) t),(List.length (oZ l (List.length gs:Int) t):Int),(0:Int),(lQ (⟨gs,(List.length gs:Int),(0:Int),(List.replicate (List.length gs:Int).toNat (0:Int))⟩:kZ)).out⟩:mG)).alive) (.ok (.jg [.xl (.int .i64) (yO cs os ks gs bs (((rM (⟨cs,os,ks,gs,bs,l,d,t,od,(yO cs os ks gs bs (nO gs) (qi gs d) od),(oZ l (List.length gs:Int) t),(List.length (oZ l (List.length gs:Int) t):Int),(0:Int),(lQ (⟨gs,(List.length gs:Int),(0:Int),(List.replicate (List.length gs:Int).toNat (0:Int))⟩:kZ)).out⟩:mG)).alive.drop 0).take (List.length (rM (⟨cs,os,ks,gs,bs,l,d,t,od,(yO cs os ks gs bs (nO gs) (qi gs d) od),(oZ l (List.length gs:Int) t),(List.length (oZ l (List.length gs:Int) t):Int),(0:Int),(lQ (⟨gs,(List.length gs:Int),(0:Int),(List.replicate (List.length gs:Int).toNat (0:Int))⟩:kZ)).out⟩:mG)).alive)) (yO cs os ks gs bs (nO gs) (qi gs d) od) od),.v (.int .i64 (shE cs os ks gs bs (((rM (⟨cs,os,ks,gs,bs,l,d,t,od,(yO cs os ks gs bs (nO gs) (qi gs d) od),(oZ l (List.length gs:Int) t),(List.length (oZ l (List.length gs:Int) t):Int),(0:Int),(lQ (⟨gs,(List.length gs:Int),(0:Int),(List.replicate (List.length gs:Int).toNat (0:Int))⟩:kZ)).out⟩:mG)).alive.drop 0).take (List.length (rM (⟨cs,os,ks,gs,bs,l,d,t,od,(yO cs os ks gs bs (nO gs) (qi gs d) od),(oZ l (List.length gs:Int) t),(List.length (oZ l (List.length gs:Int) t):Int),(0:Int),(lQ (⟨gs,(List.length gs:Int),(0:Int),(List.replicate (List.length gs:Int).toNat (0:Int))⟩:kZ)).out⟩:mG)).alive)) (yO cs os ks gs bs (nO gs) (qi gs d) od) od))])))))))))):=by kernel_rfl
theorem arW:Valid Tryz.prog aT 36 YT:=aJ Tryz.func36 rfl En apK (L:=(fun i=>if i=9 then Ff.lp else aB i)) (fun b hb=>by
 rw [show ay _=[BX] by kernel_rfl] at hb
 simp only [List.mem_cons,List.not_mem_nil,or_false] at hb
 subst hb
 exact alv) (fun args lv h=>by
 unfold acY at h
 split at h
 ·split at h
  case h_2=>cases h
  rename_i heq0
  simp only [canL,canX]
  rw [pI (n:=9) heq0]
  simp only [canL,canX]
  rw [am4]
  rename_i cs os ks gs bs l d t od
  obtain ⟨⟨hd,hk,hv,hk2⟩,rfl⟩:=h
  have gl:=(jq.1 (jS.1 hk).1).1.2.2.2.2.1
  have ea:oZ l (List.length gs:Int) t=Yn gs.length l t:=by unfold oZ;rw [if_pos hv,Int.toNat_natCast]
  rw [ao8 hk,show UC l (List.length gs:Int) t=0 by unfold UC;rw [if_pos hv]]
  refine ⟨⟨by omega,hd⟩,fun c=>absurd c (by decide),fun _=>⟨fun c=>absurd c (by decide),fun _=>?_⟩⟩
  have hE:ady ⟨gs,(List.length gs:Int),0,List.replicate (List.length gs:Int).toNat 0⟩:=⟨rfl,rfl,by simp only;omega,by simp,fun j _ _=>wZ,trivial⟩
  obtain ⟨_,_,q1,q2⟩:=aor _ hE
  have q2:(lQ ⟨gs,(List.length gs:Int),0,List.replicate (List.length gs:Int).toNat 0⟩).out=nO gs:=q2
  have hE2:adw ⟨cs,os,ks,gs,bs,l,d,t,od,yO cs os ks gs bs (nO gs) (qi gs d) od,oZ l (List.length gs:Int) t,(List.length (oZ l (List.length gs:Int) t):Int),0,(lQ ⟨gs,(List.length gs:Int),0,List.replicate (List.length gs:Int).toNat 0⟩).out⟩:=⟨rfl,rfl,by simp only;rw [ea,CG];omega,by simp only;rw [q2,ea,CG];exact iL,fun j j0 j1=>by
   simp only at j1⊢
   rw [ea,CG] at j1
   rw [q2]
   exact rW j0 j1,trivial⟩
  obtain ⟨_,_,q3,q4⟩:=aoo _ hE2
  have q4:(rM ⟨cs,os,ks,gs,bs,l,d,t,od,yO cs os ks gs bs (nO gs) (qi gs d) od,oZ l (List.length gs:Int) t,(List.length (oZ l (List.length gs:Int) t):Int),0,(lQ ⟨gs,(List.length gs:Int),0,List.replicate (List.length gs:Int).toNat 0⟩).out⟩).alive=Ym gs l t:=q4.trans (by
   show Au (oZ l (List.length gs:Int) t).length (fun j=>mx (F9 (bU gs j)) (gi (oZ l (List.length gs:Int) t) j))=_
   rw [ea,CG]
   rfl)
  refine ⟨by omega,⟨rfl,by simp⟩,⟨hE,rfl,rfl⟩,⟨rfl,rfl⟩,⟨hE2,rfl,rfl⟩,by omega,?_⟩
  show LV.jg [LV.xl _ _,_]=_
  rw [List.drop_zero,List.take_length,q4,ao8 hk2]
  rfl
 ·cases h)
end Go.Proofs.YtlihnbimgclogaaGreatDoor
namespace Go.Proofs.YtlihnbimgclogaaGreatDoor
open Go.Sx
noncomputable def afk:Array Tmp×Code×Code:=((kz (Tryz.f38.body.getD .skip))[0]?).getD (#[],.skip,.skip)
noncomputable def axQ:Array Tmp:=afk.1
noncomputable def ax2:Code:=afk.2.1
noncomputable def axX:Code:=afk.2.2
structure nJ where
 i:Int
 cs:List Cd
 os:List ByteArray
 ks:List Ko
 gs:List Ch
 bs:List Ba
 l:List Le
 d:List Dm
 t:Int
 od:List Int
 c:Int
 a:Int
 r:Bool
 m:List Le
 st:LS
def aBl (s:nJ):List LV:=[.vK 5,.own 4 0,.v (.int .i64 s.i)]
noncomputable def aAx (s:nJ):List aS:=[⟨[.xq 9 (fun j=>([.xl iJ s.cs,.xl .str s.os,.xl iQ s.ks,.xl gU s.gs,.xl iR s.bs,.xl rG s.l,.xl jc s.d,.v (.int .i64 s.t),.xl (.int .i64) s.od]:List LV).getD j .junk)],73,.cl,false⟩,⟨[.v (.int .i64 s.c)],3,.cl,false⟩,⟨[.v (.int .i64 s.a)],3,.cl,false⟩,⟨[.v (.bool s.r)],4,.cl,false⟩,⟨[.xl rG s.m],29,.cl,false⟩,⟨[.junk,.junk,.junk,.own 0 0,.own 1 0,.own 2 0,.own 3 0,.junk,.v (.tuple #[]),.junk,.junk,.junk,.junk,.junk,.junk,.junk,.junk,.junk,.junk,.junk,.junk,.junk,.junk,.junk,.junk,.junk,.v (.tuple #[]),.v (.tuple #[]),.v (.tuple #[]),.v (.tuple #[]),.v (.tuple #[]),.v (.tuple #[]),.v (.tuple #[]),.v (.tuple #[]),.v (.tuple #[]),.v (.tuple #[]),.v (.tuple #[]),.v (.tuple #[]),.v (.tuple #[]),.v (.tuple #[]),.v (.tuple #[]),.v (.tuple #[]),.v (.tuple #[]),.v (.tuple #[]),.v (.tuple #[])],0,.lG axQ ax2 axX s.st,false⟩]
noncomputable def Us:Code:=((ay (Tryz.f115.body.getD .skip))[0]?).getD .skip
def Rh (s:nJ):T (Rd nJ):=
 .br (decide (s.i≥0)) (.req (0≤s.i∧s.i<(List.length s.m:Int)) (.br ((qB s.m s.i).2.1==s.c) (.ok (.stop (.ret) {s with r:=(((qB s.m s.i).2.2.1 !=s.a) ||(decide ((qB s.m s.i).2.2.2.1≤(IntKind.i64.wrap (s.t-6))))),st:=(.done (.ret))})) (.ok (.next {s with i:=(IntKind.i64.wrap (s.i-1))})))) (.ok (.stop (.exit 0) s))
abbrev abu (s:nJ):=(Rh s).rd s
def adx (s:nJ):Prop:=s.st=.ready∧s.i=(List.length s.m:Int)-1∧(List.length s.m:Int)≤1000∧0≤s.t∧s.t≤1000000
def U1 (s:nJ):Prop:=s.st=.ready∧(-1≤s.i∧s.i<(List.length s.m:Int))∧(List.length s.m:Int)≤1000∧0≤s.t∧s.t≤1000000
def O0 (s:nJ):Nat:=(s.i+1).toNat
def aq4 (_:Ex) (_ _:nJ):Prop:=True
theorem azk:∀s,adx s→U1 s:=by
 intro s h
 obtain ⟨h0,h1,h2⟩:=h
 exact ⟨h0,by omega,h2⟩
theorem avh (s:nJ) (hI:U1 s):bY (fun s'=>U1 s'∧O0 s'<O0 s) (fun x s'=>aq4 x s s') (abu s):=by
 unfold abu Rh
 dsimp only [T.rd,T.rl]
 obtain ⟨hs,⟨h0,h1⟩,h2⟩:=hI
 refine ai (fun c1=>ai (fun c2=>trivial) (fun c2=>?_)) (fun c1=>trivial)
 have c1:0≤s.i:=by simpa using c1
 rw [aF (x:=s.i-1) (by omega) (by omega)]
 exact ⟨⟨hs,⟨by simp only;omega,by simp only;omega⟩,h2⟩,by simp only [O0];omega⟩
noncomputable def JZ:dn nJ:=⟨6,19,[0,1,3],[],aBl,aAx,fun v b=>⟨gI (v.getD 2 .junk),bf iJ (nN (bC (aV b 0) 0) 0),bf .str (nN (bC (aV b 0) 0) 1),bf iQ (nN (bC (aV b 0) 0) 2),bf gU (nN (bC (aV b 0) 0) 3),bf iR (nN (bC (aV b 0) 0) 4),bf rG (nN (bC (aV b 0) 0) 5),bf jc (nN (bC (aV b 0) 0) 6),gI (nN (bC (aV b 0) 0) 7),bf (.int .i64) (nN (bC (aV b 0) 0) 8),gI (bC (aV b 1) 0),gI (bC (aV b 2) 0),J7 (bC (aV b 3) 0),bf rG (bC (aV b 4) 0),.ready⟩,Rh,fun s r=> {r with cs:=s.cs,os:=s.os,ks:=s.ks,gs:=s.gs,bs:=s.bs,l:=s.l,d:=s.d,t:=s.t,od:=s.od,c:=s.c,a:=s.a,m:=s.m},fun s=> {s with st:=.ready},fun x s=> {s with st:=(match x with| .ret=>(.done (.ret)) | .exit 0=> .ready|_=> .ready)},[.ret,.exit 0],adx,U1,O0⟩
noncomputable abbrev aae:=JZ.run
noncomputable abbrev abO:=JZ.lU
abbrev awu:=JZ.q
noncomputable def Ew:Specs:=bn []
theorem IG:∀g S,Ew g=some S→Valid Tryz.prog aT g S:=aX (l:=[]) trivial
noncomputable def ahR:Hand:=inl Tryz.prog aT Ew (jo Tryz.prog aT (Ew) 20 2) 9
theorem apJ:cO Tryz.prog aT ahR:=bJ IG (dw IG) 9
theorem ato (s:nJ) (hI:U1 s):(Rh s).all (fun _=>True):=by
 refine ⟨fun c1=>⟨?_,fun _=>trivial,fun _=>trivial⟩,fun _=>trivial⟩
 ·(obtain ⟨hs,⟨h0,h1⟩,h2⟩:=hI;simp only [decide_eq_true_eq] at c1;omega)
theorem agP:JZ.Ok:=⟨fun s=>by kernel_rfl,fun s=>by kernel_rfl,fun s=>rfl,fun s t r=>rfl,fun s=>rfl,fun s=>by kernel_rfl⟩
theorem afZ:JZ.Pf (aq4):=⟨azk,fun s h=>by
 obtain ⟨i,cs,os,ks,gs,bs,l,d,t,od,c,a,r,m,st⟩:=s
 have e:st=.ready:=h.1
 subst e
 rfl,avh,ato⟩
theorem aly:bG Tryz.prog aT (AN 6) (.loop Us) JZ.lp:=dn.snd agP afZ (aZ (Γ:=Ew) (K:=ahR) (L:=(mP Tryz.prog aT Ew ahR 20 2)) IG apJ Us (fun b _=>cu IG apJ 20 2 b)) (fun s=>by kernel_rfl)
theorem aop (s:nJ) (hE:adx s):(fun (x:Ex) (s':nJ) (v:Bool)=>(x=.ret∧s'.r=v)∨(x=.exit 0∧v=true)) (abO s) (aae s) ((fun s:nJ=>nwO s.a s.t ((s.m.take (s.i+1).toNat).reverse.find? (fun x=>x.2.1==s.c))) s):=by
 exact dn.rC agP afZ (fun s:nJ=>nwO s.a s.t ((s.m.take (s.i+1).toNat).reverse.find? (fun x=>x.2.1==s.c))) (fun x s' v=>(x=.ret∧s'.r=v)∨(x=.exit 0∧v=true)) (fun s hI=>by
  show bY _ _ (abu s)
  unfold abu Rh
  dsimp only [T.rd,T.rl]
  obtain ⟨hs,⟨h0,h1⟩,h2⟩:=hI
  refine ai (fun c1=>?_) (fun c1=>?_)
  ·have c1:0≤s.i:=by simpa using c1
   have e:=(IU c1 (show s.i<(List.length s.m:Int) by omega)).2
   refine ai (fun c2=> .inl ⟨rfl,?_⟩) (fun c2=>?_)
   ·rw [e,List.reverse_append]
    show _=nwO s.a s.t (List.find? _ (qB s.m s.i::_))
    rw [List.find?_cons_of_pos (by exact c2)]
    simp only [nwO]
    rw [aF (x:=s.t-6) (by omega) (by omega)]
   ·show nwO _ _ _=nwO _ _ _
    simp only
    rw [aF (x:=s.i-1) (by omega) (by omega),e,List.reverse_append]
    show _=nwO s.a s.t (List.find? _ (qB s.m s.i::_))
    rw [List.find?_cons_of_neg (by rw [c2];decide),show (s.i-1+1).toNat=s.i.toNat by omega]
    rfl
  ·have c1:s.i<0:=by simpa using c1
   refine .inr ⟨rfl,?_⟩
   rw [show (s.i+1).toNat=0 by omega]
   rfl) s hE
def acZ:List LV→T LV
 | [.xq 9 q0,.v (.int .i64 i),.v (.int .i64 a)]=>(match ([q0 0,q0 1,q0 2,q0 3,q0 4,q0 5,q0 6,q0 7,q0 8]:List LV) with
  | [.xl (.pair .str (.pair (.int .i64) (.pair (.int .i64) (.pair (.int .i64) (.pair (.pair (.int .i64) (.int .i64)) (.pair (.int .i64) (.pair (.int .i64) (.pair (.int .i64) (.pair (.int .i64) (.int .i64)))))))))) _,.xl (.str) _,.xl (.pair .str (.pair (.int .i64) (.pair (.int .i64) (.int .i64)))) _,.xl (.pair .str (.pair (.int .i64) (.pair (.int .i64) (.pair (.int .i64) (.pair (.int .i64) (.pair (.int .i64) (.pair (.int .i64) (.int .i64)))))))) gs,.xl (.pair .str (.int .i64)) _,.xl (.pair (.int .i64) (.pair (.int .i64) (.pair (.int .i64) (.pair (.int .i64) (.int .i64))))) l,.xl (.pair .bool (.pair (.int .i64) (.pair (.int .i64) (.int .i64)))) _,.v (.int .i64 t),.xl (.int .i64) _]=> .req ((0≤i∧i<(List.length gs:Int))∧(List.length l:Int)≤1000∧0≤t∧t≤1000000) (.ok (.v (.bool (nwB gs l t i a))))
  |_=> .no)
 |_=> .no
noncomputable def YU:List LV→T LV:=jR Tryz.prog Tryz.f38.params.toList acZ
noncomputable def apV:Hand:=inl Tryz.prog aT Ew (dG 115 6 1 (JZ.lp) (jo Tryz.prog aT (Ew) 20 2)) 9
theorem ayC:cO Tryz.prog aT apV:=bJ IG (aP Tryz.func115 rfl (by kernel_rfl) aly (dw IG)) 9
theorem am5 (cs:List Cd) (os:List ByteArray) (ks:List Ko) (gs:List Ch) (bs:List Ba) (l:List Le) (d:List Dm) (t:Int) (od:List Int) (i a:Int):eX Tryz.prog aT (Ew) apV aB Tryz.f38 [.xq 9 (fun j=>([.xl iJ cs,.xl .str os,.xl iQ ks,.xl gU gs,.xl iR bs,.xl rG l,.xl jc d,.v (.int .i64 t),.xl (.int .i64) od]:List LV).getD j .junk),.v (.int .i64 i),.v (.int .i64 a)]=.req (0≤i∧i<(List.length gs:Int)) (.br (decide (a≤(bU gs i).2.2.2.2.2.2.1)) (.ok (.v (.bool false))) (.req (awu (⟨(IntKind.i64.wrap ((List.length l:Int)-1)),cs,os,ks,gs,bs,l,d,t,od,i,a,false,l,.ready⟩:nJ)) (.br (lH (abO (⟨(IntKind.i64.wrap ((List.length l:Int)-1)),cs,os,ks,gs,bs,l,d,t,od,i,a,false,l,.ready⟩:nJ)) (.ret)) (.ok (.v (.bool (aae (⟨(IntKind.i64.wrap ((List.length l:Int)-1)),cs,os,ks,gs,bs,l,d,t,od,i,a,false,l,.ready⟩:nJ)).r))) (.ok (.v (.bool true)))))):=by kernel_rfl
theorem arX:Valid Tryz.prog aT 38 YU:=aJ Tryz.func38 rfl IG ayC (bF (by kernel_rfl)) (fun args lv h=>by
 unfold acZ at h
 split at h
 ·split at h
  case h_2=>cases h
  rename_i heq0
  simp only [canL,canX]
  rw [pI (n:=9) heq0]
  simp only [canL,canX]
  rw [am5]
  rename_i i a _ cs os ks gs bs l d t od
  obtain ⟨⟨hi,hl,ht⟩,rfl⟩:=h
  refine ⟨hi,fun c=>congrArg (fun z=>LV.v (.bool z)) ?_,fun c=>?_⟩
  ·have c:a≤F9 (bU gs i):=of_decide_eq_true c
   unfold nwB
   rw [decide_eq_true c]
   rfl
  have c:¬a≤F9 (bU gs i):=of_decide_eq_false c
  have hE:adx ⟨IntKind.i64.wrap ((List.length l:Int)-1),cs,os,ks,gs,bs,l,d,t,od,i,a,false,l,.ready⟩:=⟨rfl,by show IntKind.i64.wrap ((List.length l:Int)-1)=_;rw [aF (by omega) (by omega)],hl,ht⟩
  have ev:nwB gs l t i a=nwO a t ((l.take (IntKind.i64.wrap ((List.length l:Int)-1)+1).toNat).reverse.find? (fun x=>x.2.1==i)):=by
   unfold nwB
   rw [decide_eq_false c,aF (x:=(List.length l:Int)-1) (by omega) (by omega),show ((List.length l:Int)-1+1).toNat=l.length by omega,List.take_length]
   rfl
  refine ⟨⟨hE,rfl,rfl⟩,?_⟩
  rcases aop _ hE with ⟨q1,q2⟩ |⟨q1,q2⟩<;>rw [q1]
  ·exact ⟨fun _=>congrArg (fun z=>LV.v (.bool z)) (q2.trans ev.symm),fun h=>by cases h⟩
  ·exact ⟨fun h=>(by cases h),fun _=>congrArg (fun z=>LV.v (.bool z)) (q2.symm.trans ev.symm)⟩
 ·cases h)
end Go.Proofs.YtlihnbimgclogaaGreatDoor
namespace Go.Proofs.YtlihnbimgclogaaGreatDoor
theorem ayj {ph mn mx st fb a s want:Int}(h:okB ph mn mx st fb a s want=true):nE ph mn mx st fb a s want=0:=by rw [nE,if_pos h]
end Go.Proofs.YtlihnbimgclogaaGreatDoor
namespace Go.Proofs.YtlihnbimgclogaaGreatDoor
open Go.Sx
structure lM where
 rs:List Ra
 tick:Int
 n:Int
 t15:Int
 offers:List Int
 m:List Ch
 k:Int
 i:Int
 Yd:List Cd
 c1:List ByteArray
 c2:List Ko
 c3:List Ch
 c4:List Ba
 jT:List Le
 DW:List Dm
 vI:Int
 Qc:List Int
 eY:List Int
 next:List Ra
 dO:List Le
def aBn (s:lM):List LV:=[.xl VH s.rs,.v (.int .i64 s.tick),.v (.int .i64 s.n),.v (.slice none 0 0),.v (.slice none 0 0),.v (.slice none 0 0),.v (.int .i64 s.t15),.own 0 0,.xl (.int .i64) s.offers,.os 1 1 0 (List.length s.eY),.os 2 2 0 (List.length s.next),.os 3 5 0 (List.length s.dO),.xl gU s.m,.v (.int .i64 s.k),.v (.int .i64 s.i)]
def aAz (s:lM):List aS:=[⟨[.xl iJ s.Yd,.xl .str s.c1,.xl iQ s.c2,.xl gU s.c3,.xl iR s.c4,.xl rG s.jT,.xl jc s.DW,.v (.int .i64 s.vI),.xl (.int .i64) s.Qc],75,.cl,true⟩,⟨[],3,.vec (.int .i64) s.eY,false⟩,⟨[],53,.vec VH s.next,false⟩,⟨[],63,.vec rG s.dO,false⟩]
noncomputable def BZ:Code:=((ay (Tryz.f14.body.getD .skip))[0]?).getD .skip
def NJ (s:lM) (e:Int) (w:Bool) (x:Int) (y:Int):T (Rd lM):=
 .br (decide (s.i<s.k)) (.req (0≤s.i∧s.i<(List.length s.m:Int)) (.req (0≤s.i∧s.i<(List.length s.rs:Int)) (.req (0≤s.i∧s.i<(List.length s.offers:Int)) (.br (e !=0) (.rl s.eY (.rl s.next (.rl s.dO (.ok (.stop (.ret) {s with t15:=(1:Int)}))))) (.req (0≤s.i∧s.i<((List.length s.eY:Nat):Int)) (.req (s.i.toNat<List.length s.eY) (.req (0≤s.i∧s.i<((List.length s.next:Nat):Int)) (.req (s.i.toNat<List.length s.next) (.req ((0≤s.i∧s.i<(List.length s.c3:Int))∧(List.length s.jT:Int)≤1000∧0≤s.vI∧s.vI≤1000000) (.br w (.req (0+(List.length s.dO)=List.length s.dO∧((List.length s.dO+List.length ([(s.n,(s.i,(x,(s.tick,(12:Int)))))]):Nat):Int)*40≤2^47∧((List.length s.dO+List.length ([(s.n,(s.i,(x,(s.tick,(12:Int)))))]):Nat):Int)<2^62) (.req (0=0∧(List.length s.eY)=List.length (s.eY.set s.i.toNat x)) (.req (0=0∧(List.length s.next)=List.length (s.next.set s.i.toNat (x,y))) (.req (0=0∧(List.length s.dO+List.length ([(s.n,(s.i,(x,(s.tick,(12:Int)))))]))=List.length (s.dO++([(s.n,(s.i,(x,(s.tick,(12:Int)))))]))) (.ok (.next {s with n:=(IntKind.i64.wrap (s.n+1)),i:=(IntKind.i64.wrap (s.i+1)),eY:=(s.eY.set s.i.toNat x),next:=(s.next.set s.i.toNat (x,y)),dO:=(s.dO++([(s.n,(s.i,(x,(s.tick,(12:Int)))))]))})))))) (.req (0=0∧(List.length s.eY)=List.length (s.eY.set s.i.toNat x)) (.req (0=0∧(List.length s.next)=List.length (s.next.set s.i.toNat (x,y))) (.rl s.dO (.ok (.next {s with i:=(IntKind.i64.wrap (s.i+1)),eY:=(s.eY.set s.i.toNat x),next:=(s.next.set s.i.toNat (x,y))}))))))))))))))) (.rl s.eY (.rl s.next (.rl s.dO (.ok (.stop (.exit 0) s)))))
abbrev ZJ (s:lM):=NJ s (nE (bU s.m s.i).2.2.1 (bU s.m s.i).2.2.2.1 (bU s.m s.i).2.2.2.2.1 (bU s.m s.i).2.2.2.2.2.1 (bU s.m s.i).2.2.2.2.2.2.1 (oJ s.rs s.i).1 (oJ s.rs s.i).2 (gi s.offers s.i)) (nwB s.c3 s.jT s.vI s.i (nA (bU s.m s.i).2.2.1 (bU s.m s.i).2.2.2.1 (bU s.m s.i).2.2.2.2.1 (bU s.m s.i).2.2.2.2.2.1 (bU s.m s.i).2.2.2.2.2.2.1 (oJ s.rs s.i).1 (oJ s.rs s.i).2 (gi s.offers s.i))) (nA (bU s.m s.i).2.2.1 (bU s.m s.i).2.2.2.1 (bU s.m s.i).2.2.2.2.1 (bU s.m s.i).2.2.2.2.2.1 (bU s.m s.i).2.2.2.2.2.2.1 (oJ s.rs s.i).1 (oJ s.rs s.i).2 (gi s.offers s.i)) (nS (bU s.m s.i).2.2.1 (bU s.m s.i).2.2.2.1 (bU s.m s.i).2.2.2.2.1 (bU s.m s.i).2.2.2.2.2.1 (bU s.m s.i).2.2.2.2.2.2.1 (oJ s.rs s.i).1 (oJ s.rs s.i).2 (gi s.offers s.i))
abbrev aiD (s:lM):=(ZJ s).rd s
def Vk (s:lM):Prop:=s.i=0∧s.dO=[]∧(s.k=(List.length s.m:Int)∧s.k≤16)∧(s.c3=s.m∧s.vI=s.tick)∧((List.length s.jT:Int)≤1000∧0≤s.tick∧s.tick≤1000000)∧(s.rs.length=s.m.length∧s.offers.length=s.m.length∧s.eY.length=s.m.length∧s.next.length=s.m.length)∧dcK s.m s.rs s.offers∧1≤s.n-(List.length s.dO:Int)∧s.n-(List.length s.dO:Int)≤999900
def EI (s:lM):Prop:=(0≤s.i∧s.i≤s.k)∧(∀j,0≤j→j<s.i→gi s.eY j=nxA (bU s.m j) (oJ s.rs j) (gi s.offers j)∧oJ s.next j=(nxA (bU s.m j) (oJ s.rs j) (gi s.offers j),nxS (bU s.m j) (oJ s.rs j) (gi s.offers j)))∧s.dO=dcL s.m s.jT s.tick (s.n-(List.length s.dO:Int)) (dcA s.m s.rs s.offers s.m.length) s.i.toNat∧(s.k=(List.length s.m:Int)∧s.k≤16)∧(s.c3=s.m∧s.vI=s.tick)∧((List.length s.jT:Int)≤1000∧0≤s.tick∧s.tick≤1000000)∧(s.rs.length=s.m.length∧s.offers.length=s.m.length∧s.eY.length=s.m.length∧s.next.length=s.m.length)∧dcK s.m s.rs s.offers∧1≤s.n-(List.length s.dO:Int)∧s.n-(List.length s.dO:Int)≤999900
def zo (s:lM):Nat:=(s.k-s.i).toNat
def ade (x:Ex) (_ s':lM):Prop:=x=.exit 0∧s'.eY=dcA s'.m s'.rs s'.offers s'.m.length∧s'.next=dcR s'.m s'.rs s'.offers s'.m.length∧s'.dO=dcL s'.m s'.jT s'.tick (s'.n-(List.length s'.dO:Int)) (dcA s'.m s'.rs s'.offers s'.m.length) s'.m.length
theorem azo:∀s,Vk s→EI s:=by
 intro s h
 obtain ⟨h0,h1,h2⟩:=h
 exact ⟨by omega,fun j j0 j1=>by omega,by rw [h0,h1];rfl,h2⟩
theorem aou (s:lM) (hI:EI s) (e:Int) (w:Bool) (x:Int) (y:Int) (he:nE (bU s.m s.i).2.2.1 (bU s.m s.i).2.2.2.1 (bU s.m s.i).2.2.2.2.1 (bU s.m s.i).2.2.2.2.2.1 (bU s.m s.i).2.2.2.2.2.2.1 (oJ s.rs s.i).1 (oJ s.rs s.i).2 (gi s.offers s.i)=e) (hw:nwB s.c3 s.jT s.vI s.i (nA (bU s.m s.i).2.2.1 (bU s.m s.i).2.2.2.1 (bU s.m s.i).2.2.2.2.1 (bU s.m s.i).2.2.2.2.2.1 (bU s.m s.i).2.2.2.2.2.2.1 (oJ s.rs s.i).1 (oJ s.rs s.i).2 (gi s.offers s.i))=w) (hx:nA (bU s.m s.i).2.2.1 (bU s.m s.i).2.2.2.1 (bU s.m s.i).2.2.2.2.1 (bU s.m s.i).2.2.2.2.2.1 (bU s.m s.i).2.2.2.2.2.2.1 (oJ s.rs s.i).1 (oJ s.rs s.i).2 (gi s.offers s.i)=x) (hy:nS (bU s.m s.i).2.2.1 (bU s.m s.i).2.2.2.1 (bU s.m s.i).2.2.2.2.1 (bU s.m s.i).2.2.2.2.2.1 (bU s.m s.i).2.2.2.2.2.2.1 (oJ s.rs s.i).1 (oJ s.rs s.i).2 (gi s.offers s.i)=y):bY (fun s'=>EI s'∧zo s'<zo s) (fun x s'=>ade x s s') ((NJ s e w x y).rd s):=by
 unfold NJ
 dsimp only [T.rd,T.rl]
 obtain ⟨⟨h0,h1⟩,hA,hL,⟨h2,h3⟩,⟨h4,h5⟩,h6,⟨h7,h8,h9,h10⟩,hk,h11⟩:=hI
 have hll:s.dO.length≤s.i.toNat:=(by rw [hL];exact Gi)
 refine ai (fun c1=>?_) (fun c1=>?_)
 ·refine ai (fun c2=>?_) (fun c2=>?_)
  ·have c1:s.i<s.k:=by simpa using c1
   have hm:s.i<(s.m.length:Int):=by omega
   exact absurd (he.symm.trans (ayj (hk s.i h0 hm))) (by simpa using c2)
  ·refine ai (fun c3=>?_) (fun c3=>?_)
   ·have c1:s.i<s.k:=by simpa using c1
    have hm:s.i<(s.m.length:Int):=by omega
    have hx':nxA (bU s.m s.i) (oJ s.rs s.i) (gi s.offers s.i)=x:=hx
    have hy':nxS (bU s.m s.i) (oJ s.rs s.i) (gi s.offers s.i)=y:=hy
    have hA':∀j,0≤j→j<s.i+1→gi (s.eY.set s.i.toNat x) j=nxA (bU s.m j) (oJ s.rs j) (gi s.offers j)∧oJ (s.next.set s.i.toNat (x,y)) j=(nxA (bU s.m j) (oJ s.rs j) (gi s.offers j),nxS (bU s.m j) (oJ s.rs j) (gi s.offers j)):=fun j j0 j1=>by
     rw [oz h0 (by omega) j0,aa5 h0 (by omega) j0]
     by_cases e:j=s.i
     ·subst e
      rw [if_pos rfl,if_pos rfl,hx',hy']
      exact ⟨rfl,rfl⟩
     ·rw [if_neg e,if_neg e]
      exact hA j j0 (by omega)
    have hs:s.i.toNat+1=(s.i+1).toNat:=by omega
    have hg:gi (dcA s.m s.rs s.offers s.m.length) (s.i.toNat:Nat)=x:=by rw [Int.toNat_of_nonneg h0,dcA,rW h0 hm,hx']
    have hw':nwB s.m s.jT s.tick (s.i.toNat:Nat) x=w:=by rw [Int.toNat_of_nonneg h0,←hw,h4,h5];rw [←hx]
    rw [aF (x:=s.i+1) (by omega) (by omega),aF (x:=s.n+1) (by omega) (by omega)]
    have hn:s.n+1-((List.length (s.dO++[(s.n,s.i,x,s.tick,12)]):Nat):Int)=s.n-(List.length s.dO:Int):=by
     rw [List.length_append]
     show s.n+1-((s.dO.length+1:Nat):Int)=_
     omega
    refine ⟨⟨⟨by simp only;omega,by simp only;omega⟩,hA',?_,⟨h2,h3⟩,⟨h4,h5⟩,h6,⟨h7,h8,by simp only [List.length_set];exact h9,by simp only [List.length_set];exact h10⟩,hk,by simp only;rw [hn];exact h11⟩,by simp only [zo];omega⟩
    simp only
    rw [hn,←hs,dcL,←hL,hg,hw',c3,if_pos rfl,Int.toNat_of_nonneg h0,show s.n-(List.length s.dO:Int)+(List.length s.dO:Int)=s.n by omega]
   ·have c1:s.i<s.k:=by simpa using c1
    have hm:s.i<(s.m.length:Int):=by omega
    have hx':nxA (bU s.m s.i) (oJ s.rs s.i) (gi s.offers s.i)=x:=hx
    have hy':nxS (bU s.m s.i) (oJ s.rs s.i) (gi s.offers s.i)=y:=hy
    have hA':∀j,0≤j→j<s.i+1→gi (s.eY.set s.i.toNat x) j=nxA (bU s.m j) (oJ s.rs j) (gi s.offers j)∧oJ (s.next.set s.i.toNat (x,y)) j=(nxA (bU s.m j) (oJ s.rs j) (gi s.offers j),nxS (bU s.m j) (oJ s.rs j) (gi s.offers j)):=fun j j0 j1=>by
     rw [oz h0 (by omega) j0,aa5 h0 (by omega) j0]
     by_cases e:j=s.i
     ·subst e
      rw [if_pos rfl,if_pos rfl,hx',hy']
      exact ⟨rfl,rfl⟩
     ·rw [if_neg e,if_neg e]
      exact hA j j0 (by omega)
    have hs:s.i.toNat+1=(s.i+1).toNat:=by omega
    have hg:gi (dcA s.m s.rs s.offers s.m.length) (s.i.toNat:Nat)=x:=by rw [Int.toNat_of_nonneg h0,dcA,rW h0 hm,hx']
    have hw':nwB s.m s.jT s.tick (s.i.toNat:Nat) x=w:=by rw [Int.toNat_of_nonneg h0,←hw,h4,h5];rw [←hx]
    rw [aF (x:=s.i+1) (by omega) (by omega)]
    refine ⟨⟨⟨by simp only;omega,by simp only;omega⟩,hA',?_,⟨h2,h3⟩,⟨h4,h5⟩,h6,⟨h7,h8,by simp only [List.length_set];exact h9,by simp only [List.length_set];exact h10⟩,hk,h11⟩,by simp only [zo];omega⟩
    simp only
    rw [←hs,dcL,←hL,hg,hw',c3,if_neg (by decide),List.append_nil]
 ·have c1:s.k≤s.i:=by simpa using c1
  have hi:s.i.toNat=s.m.length:=by omega
  refine ⟨rfl,lq (by rw [h9];exact iL.symm) fun j j0 j1=>?_,anF (by rw [h10,P9]) fun j j0 j1=>?_,by have hL':=hL;rw [hi] at hL';exact hL'⟩
  ·rw [dcA,iL] at j1
   rw [dcA,rW j0 j1]
   exact (hA j j0 (by omega)).1
  ·rw [P9] at j1
   rw [avo j0 j1]
   exact (hA j j0 (by omega)).2
theorem avn (s:lM) (hI:EI s):bY (fun s'=>EI s'∧zo s'<zo s) (fun x s'=>ade x s s') (aiD s):=aou s hI _ _ _ _ rfl rfl rfl rfl
def Fg:dn lM:=⟨0,108,[2,4,5,12,13,14,15,16,17,19,20,21,57,58,59],[.nl 21 63 rG],aBn,aAz,fun v b=>⟨bf VH (v.getD 0 .junk),gI (v.getD 1 .junk),gI (v.getD 2 .junk),gI (v.getD 6 .junk),bf (.int .i64) (v.getD 8 .junk),bf gU (v.getD 12 .junk),gI (v.getD 13 .junk),gI (v.getD 14 .junk),bf iJ (bC (aV b 0) 0),bf .str (bC (aV b 0) 1),bf iQ (bC (aV b 0) 2),bf gU (bC (aV b 0) 3),bf iR (bC (aV b 0) 4),bf rG (bC (aV b 0) 5),bf jc (bC (aV b 0) 6),gI (bC (aV b 0) 7),bf (.int .i64) (bC (aV b 0) 8),jm (.int .i64) (aV b 1),jm VH (aV b 2),jm rG (aV b 3)⟩,ZJ,fun s r=> {r with rs:=s.rs,tick:=s.tick,offers:=s.offers,m:=s.m,k:=s.k,Yd:=s.Yd,c1:=s.c1,c2:=s.c2,c3:=s.c3,c4:=s.c4,jT:=s.jT,DW:=s.DW,vI:=s.vI,Qc:=s.Qc},fun s=>s,fun _ s=>s,[.ret,.exit 0],Vk,EI,zo⟩
abbrev gZ:=Fg.run
abbrev P6:=Fg.lU
abbrev aww:=Fg.q
theorem atq (s:lM) (hI:EI s):(ZJ s).all (fun _=>True):=by
 refine ⟨fun c1=>⟨?_,?_,?_,fun c2=>⟨⟨rfl,rfl⟩,⟨rfl,rfl⟩,⟨rfl,rfl⟩,trivial⟩,fun c2=>⟨?_,?_,?_,?_,?_,fun c3=>⟨?_,?_,?_,?_,trivial⟩,fun c3=>⟨?_,?_,⟨rfl,rfl⟩,trivial⟩⟩⟩,fun c1=>⟨⟨rfl,rfl⟩,⟨rfl,rfl⟩,⟨rfl,rfl⟩,trivial⟩⟩
 all_goals ((obtain ⟨⟨h0,h1⟩,hA,hL,⟨h2,h3⟩,⟨h4,h5⟩,h6,⟨h7,h8,h9,h10⟩,hk,h11⟩:=hI;have hll:s.dO.length≤s.i.toNat:=(by rw [hL];exact Gi);(try simp only [decide_eq_true_eq] at c1);have hl3:s.c3.length=s.m.length:=congrArg List.length h4;first|omega|exact ⟨rfl,by simp⟩ |(refine ⟨by omega,?_,?_⟩<;>simp only [List.length_cons,List.length_nil]<;>omega)))
noncomputable def ail:Specs:=bn [(19,Jw),(35,YR),(36,YT),(37,YE),(38,YU)]
theorem ap5:∀g S,ail g=some S→Valid Tryz.prog aT g S:=aX (l:=[(19,Jw),(35,YR),(36,YT),(37,YE),(38,YU)]) ⟨aeL,arU,arW,arH,arX,trivial⟩
theorem W9:Fg.Ok:=⟨fun s=>by kernel_rfl,fun s=>by kernel_rfl,fun s=>rfl,fun s t r=>rfl,fun s=>rfl,fun s=>by kernel_rfl⟩
theorem WA:Fg.Pf (ade):=⟨azo,fun _ _=>rfl,avn,atq⟩
theorem alA:bG Tryz.prog aT (AN 0) (.loop BZ) Fg.lp:=dn.snd W9 WA (bI (Γ:=ail) (K:=iU) (L:=aB) ap5 aC BZ (fun b hb=>by rw [show ay BZ=[] by kernel_rfl] at hb;cases hb)) (fun s=>by kernel_rfl)
theorem aot (s:lM) (hE:Vk s):∃s',EI s'∧ade (P6 s) s' (gZ s):=dn.fin W9 WA s hE
theorem aos (s:lM) (hE:Vk s):(fun (_:Ex) (s':lM) (v:Int)=>s'.n-(List.length s'.dO:Int)=v) (P6 s) (gZ s) ((fun s:lM=>s.n-(List.length s.dO:Int)) s):=by
 exact dn.rC W9 WA (fun s:lM=>s.n-(List.length s.dO:Int)) (fun x s' v=>s'.n-(List.length s'.dO:Int)=v) (fun s hI=>by
  show bY _ _ (aiD s)
  unfold aiD ZJ NJ
  dsimp only [T.rd,T.rl]
  obtain ⟨⟨h0,h1⟩,hA,hL,⟨h2,h3⟩,⟨h4,h5⟩,h6,⟨h7,h8,h9,h10⟩,hk,h11⟩:=hI
  have hll:s.dO.length≤s.i.toNat:=(by rw [hL];exact Gi)
  refine ai (fun c1=>?_) (fun c1=>?_)
  ·refine ai (fun c2=>?_) (fun c2=>?_)
   ·rfl
   ·refine ai (fun c3=>?_) (fun c3=>?_)
    ·have c1:s.i<s.k:=by simpa using c1
     rw [aF (x:=s.n+1) (by omega) (by omega)]
     show s.n+1-((List.length (s.dO++[_]):Nat):Int)=s.n-(List.length s.dO:Int)
     rw [List.length_append]
     show s.n+1-((s.dO.length+1:Nat):Int)=_
     omega
    ·rfl
  ·rfl) s hE
def ac0:List LV→T LV
 | [.agg [.xl (.pair .str (.pair (.int .i64) (.pair (.int .i64) (.pair (.int .i64) (.pair (.pair (.int .i64) (.int .i64)) (.pair (.int .i64) (.pair (.int .i64) (.pair (.int .i64) (.pair (.int .i64) (.int .i64)))))))))) cs,.xl (.str) os,.xl (.pair .str (.pair (.int .i64) (.pair (.int .i64) (.int .i64)))) ks,.xl (.pair .str (.pair (.int .i64) (.pair (.int .i64) (.pair (.int .i64) (.pair (.int .i64) (.pair (.int .i64) (.pair (.int .i64) (.int .i64)))))))) gs,.xl (.pair .str (.int .i64)) bs],.xl (.pair (.int .i64) (.pair (.int .i64) (.pair (.int .i64) (.pair (.int .i64) (.int .i64))))) l,.xl (.pair (.int .i64) (.int .i64)) rs,.xl (.pair .bool (.pair (.int .i64) (.pair (.int .i64) (.int .i64)))) d,.v (.int .i64 t),.v (.int .i64 n)]=> .req (kL d t∧d.length≤19) (.ok (.jg [.xl (.int .i64) (deA cs os ks gs bs l rs d t n),.xl VH (deR cs os ks gs bs l rs d t n),.xl rG (deL cs os ks gs bs l rs d t n),.v (.int .i64 (deE cs os ks gs bs l rs d t n))]))
 |_=> .no
noncomputable def YV:List LV→T LV:=jR Tryz.prog Tryz.f14.params.toList ac0
def fE (cs:List Cd) (os:List ByteArray) (ks:List Ko) (gs:List Ch) (bs:List Ba) (l:List Le) (rs:List Ra) (d:List Dm) (t n:Int):lM:=(⟨rs,t,n,(0:Int),(Oi cs os ks gs bs l d t (iK d t)),gs,(List.length gs:Int),(0:Int),cs,os,ks,gs,bs,l,d,t,(iK d t),(List.replicate (List.length (Oi cs os ks gs bs l d t (iK d t)):Int).toNat (0:Int)),(List.replicate (List.length (Oi cs os ks gs bs l d t (iK d t)):Int).toNat ((0:Int),(0:Int))),([]:List Le)⟩:lM)
theorem am6 (cs:List Cd) (os:List ByteArray) (ks:List Ko) (gs:List Ch) (bs:List Ba) (l:List Le) (rs:List Ra) (d:List Dm) (t n:Int):eX Tryz.prog aT (ail) iU (fun i=>if i=11 then Fg.lp else aB i) Tryz.f14 [.agg [.xl iJ cs,.xl .str os,.xl iQ ks,.xl gU gs,.xl iR bs],.xl rG l,.xl VH rs,.xl jc d,.v (.int .i64 t),.v (.int .i64 n)]=.req (kL d t∧d.length≤19) (.br (!(Zc cs os ks gs bs l rs d t n)) (.ok (.jg [.xl (.int .i64) ([]:List Int),.xl VH ([]:List Ra),.xl rG ([]:List Le),.v (.int .i64 1)])) (.req (d.length=gs.length∧tK cs os ks gs bs (nO gs) (qi gs d) (iK d t)=true∧Kz l (List.length gs:Int) t=true∧tK cs os ks gs bs (Ym gs l t) (yO cs os ks gs bs (nO gs) (qi gs d) (iK d t)) (iK d t)=true) (.br ((0:Int) !=0) (.ok (.jg [.xl (.int .i64) ([]:List Int),.xl VH ([]:List Ra),.xl rG ([]:List Le),.v (.int .i64 1)])) (.req (0≤(List.length (Oi cs os ks gs bs l d t (iK d t)):Int)∧(List.length (Oi cs os ks gs bs l d t (iK d t)):Int)≤(List.length (Oi cs os ks gs bs l d t (iK d t)):Int)∧8*(List.length (Oi cs os ks gs bs l d t (iK d t)):Int)≤2^48∧(List.length (Oi cs os ks gs bs l d t (iK d t)):Int)<2^63) (.req (0≤(List.length (Oi cs os ks gs bs l d t (iK d t)):Int)∧(List.length (Oi cs os ks gs bs l d t (iK d t)):Int)≤(List.length (Oi cs os ks gs bs l d t (iK d t)):Int)∧16*(List.length (Oi cs os ks gs bs l d t (iK d t)):Int)≤2^48∧(List.length (Oi cs os ks gs bs l d t (iK d t)):Int)<2^63) (.req (0=0∧(List.length (Oi cs os ks gs bs l d t (iK d t)):Int).toNat=List.length (List.replicate (List.length (Oi cs os ks gs bs l d t (iK d t)):Int).toNat (0:Int))) (.req (0=0∧(List.length (Oi cs os ks gs bs l d t (iK d t)):Int).toNat=List.length (List.replicate (List.length (Oi cs os ks gs bs l d t (iK d t)):Int).toNat ((0:Int),(0:Int)))) (.req (0=0∧0=List.length ([]:List Le)) (.req (aww (fE cs os ks gs bs l rs d t n)) (.br (lH (P6 (fE cs os ks gs bs l rs d t n)) (.ret)) (.ok (.jg [.xl (.int .i64) ([]:List Int),.xl VH ([]:List Ra),.xl rG ([]:List Le),.v (.int .i64 (gZ (fE cs os ks gs bs l rs d t n)).t15)])) (.req (0+(List.length (gZ (fE cs os ks gs bs l rs d t n)).eY)≤List.length (gZ (fE cs os ks gs bs l rs d t n)).eY) (.req (0+(List.length (gZ (fE cs os ks gs bs l rs d t n)).next)≤List.length (gZ (fE cs os ks gs bs l rs d t n)).next) (.req (0+(List.length (gZ (fE cs os ks gs bs l rs d t n)).dO)≤List.length (gZ (fE cs os ks gs bs l rs d t n)).dO) (.ok (.jg [.xl (.int .i64) (((gZ (fE cs os ks gs bs l rs d t n)).eY.drop 0).take (List.length (gZ (fE cs os ks gs bs l rs d t n)).eY)),.xl VH (((gZ (fE cs os ks gs bs l rs d t n)).next.drop 0).take (List.length (gZ (fE cs os ks gs bs l rs d t n)).next)),.xl rG (((gZ (fE cs os ks gs bs l rs d t n)).dO.drop 0).take (List.length (gZ (fE cs os ks gs bs l rs d t n)).dO)),.v (.int .i64 0)]))))))))))))))):=by kernel_rfl
theorem arY:Valid Tryz.prog aT 14 YV:=aJ Tryz.func14 rfl ap5 aC (L:=(fun i=>if i=11 then Fg.lp else aB i)) (fun b hb=>by
 rw [show ay _=[BZ] by kernel_rfl] at hb
 simp only [List.mem_cons,List.not_mem_nil,or_false] at hb
 subst hb
 exact alA) (fun args lv h=>by
 unfold ac0 at h
 split at h
 ·simp only [canL,canX]
  rw [am6]
  rename_i cs os ks gs bs l rs d t n
  obtain ⟨hw,rfl⟩:=h
  refine ⟨hw,fun c=>?_,fun c=>?_⟩
  ·unfold deA deR deL deE
   rw [ntW c]
   rfl
  have c:=nfW c
  have V:=aw7 c
  have ol:(Oi cs os ks gs bs l d t (iK d t)).length=gs.length:=(apB V).1
  have hE:Vk (fE cs os ks gs bs l rs d t n):=⟨rfl,rfl,⟨rfl,by have:=V.gl;show (gs.length:Int)≤16;omega⟩,⟨rfl,rfl⟩,⟨by have:=(Az V.les).1;show (l.length:Int)≤1000;omega,V.tb⟩,⟨V.rl,ol,by show (List.replicate _ (0:Int)).length=gs.length;rw [List.length_replicate];omega,by show (List.replicate _ ((0:Int),(0:Int))).length=gs.length;rw [List.length_replicate];omega⟩,avm V,by have:=V.nb;show 1≤n-(0:Int);omega,by have:=V.nb;show n-(0:Int)≤999900;omega⟩
  obtain ⟨_,_,q1,q2,q3,q4⟩:=aot _ hE
  have hn:=aos _ hE
  have hn:(gZ (fE cs os ks gs bs l rs d t n)).n-((gZ (fE cs os ks gs bs l rs d t n)).dO.length:Int)=n:=hn.trans (Int.sub_zero n)
  have q2:(gZ (fE cs os ks gs bs l rs d t n)).eY=deA cs os ks gs bs l rs d t n:=q2.trans (by unfold deA;rw [if_pos c];rfl)
  have q3:(gZ (fE cs os ks gs bs l rs d t n)).next=deR cs os ks gs bs l rs d t n:=q3.trans (by unfold deR;rw [if_pos c];rfl)
  rw [hn] at q4
  have q4:(gZ (fE cs os ks gs bs l rs d t n)).dO=deL cs os ks gs bs l rs d t n:=q4.trans (by unfold deL;rw [if_pos c];rfl)
  have gl:=V.gl
  refine ⟨⟨V.dl,ao2 V.si,aoI V,apA V⟩,fun c2=>absurd c2 (by decide),fun _=>?_⟩
  refine ⟨by rw [ol];omega,by rw [ol];omega,⟨rfl,by simp⟩,⟨rfl,by simp⟩,⟨rfl,rfl⟩,⟨hE,rfl,rfl⟩,?_⟩
  rw [q1]
  refine ⟨fun h=>(by cases h),fun _=>⟨by omega,by omega,by omega,?_⟩⟩
  show LV.jg [LV.xl _ _,LV.xl _ _,LV.xl _ _,_]=_
  rw [List.drop_zero,List.take_length,List.drop_zero,List.take_length,List.drop_zero,List.take_length,q2,q3,q4]
  unfold deE
  rw [if_pos c]
 ·cases h)
end Go.Proofs.YtlihnbimgclogaaGreatDoor
namespace Go.Proofs.YtlihnbimgclogaaGreatDoor
open Go.Sx
noncomputable def air:Specs:=bn []
theorem aqb:∀g S,air g=some S→Valid Tryz.prog aT g S:=aX (l:=[]) trivial
structure kG where
 a:List Int
 b:List Int
 r:Bool
 i:Int
def awH (s:kG):List LV:=[.xl (.int .i64) s.a,.xl (.int .i64) s.b,.v (.bool s.r),.v (.int .i64 s.i)]
def awF (_:kG):List aS:=[]
noncomputable def yE:Code:=((ay (Tryz.f16.body.getD .skip))[0]?).getD .skip
def NK (s:kG):T (Rd kG):=
 .br (decide (s.i<(List.length s.a:Int))) (.req (0≤s.i∧s.i<(List.length s.a:Int)) (.req (0≤s.i∧s.i<(List.length s.b:Int)) (.br ((gi s.a s.i) !=(gi s.b s.i)) (.ok (.stop (.ret) {s with r:=false})) (.ok (.next {s with i:=(IntKind.i64.wrap (s.i+1))}))))) (.ok (.stop (.exit 0) s))
abbrev aiC (s:kG):=(NK s).rd s
def zM (s:kG) (j:Int):Bool:=gi s.a j==gi s.b j
def Y7 (s:kG):Prop:=s.i=0∧0≤(List.length s.a:Int)∧(List.length s.a:Int)≤1000∧s.a.length=s.b.length
def D9 (s:kG):Prop:=0≤s.i∧s.i≤(List.length s.a:Int)∧(List.length s.a:Int)≤1000∧(s.a.length=s.b.length)∧∀j:Nat,(j:Int)<s.i→zM s j=true
def FX (s:kG):Nat:=((List.length s.a:Int)-s.i).toNat
def Y3 (x:Ex) (_ s':kG):Prop:=(x=.exit 0∧∀j:Nat,(j:Int)<(List.length s'.a:Int)→zM s' j=true)∨(x=.ret∧s'.r=false∧∃j:Nat,(j:Int)<(List.length s'.a:Int)∧zM s' j=false)
theorem atC:∀s,Y7 s→D9 s:=by
 intro s h
 obtain ⟨h0,h1,h2,h3⟩:=h
 exact ⟨by omega,by omega,h2,h3,fun j hj=>by omega⟩
theorem alS (s:kG) (hI:D9 s):bY (fun s'=>D9 s'∧FX s'<FX s) (fun x s'=>Y3 x s s') (aiC s):=by
 unfold aiC NK
 dsimp only [T.rd,T.rl]
 obtain ⟨h0,h1,h2,h3,h4⟩:=hI
 refine ai (fun c1=>ai (fun c2=>?_) (fun c2=>?_)) (fun c1=>?_)
 ·have c1:s.i<(List.length s.a:Int):=by simpa using c1
  refine .inr ⟨rfl,rfl,s.i.toNat,by simp only;omega,?_⟩
  rw [Int.toNat_of_nonneg (by omega)]
  have hg:zM s s.i=false:=by unfold zM;(simpa using c2)
  exact hg
 ·have c1:s.i<(List.length s.a:Int):=by simpa using c1
  have hg:zM s s.i=true:=by unfold zM;(simpa using c2)
  rw [aF (x:=s.i+1) (by omega) (by omega)]
  refine ⟨⟨by simp only;omega,by simp only;omega,h2,h3,fun j hj=>?_⟩,by simp only [FX];omega⟩
  by_cases hji:(j:Int)<s.i
  ·exact h4 j hji
  ·have:(j:Int)=s.i:=by simp only at hj;omega
   rw [this];exact hg
 ·have c1:(List.length s.a:Int)≤s.i:=by simpa using c1
  exact .inl ⟨rfl,fun j hj=>h4 j (by omega)⟩
def xO:dn kG:=⟨0,26,[0,1,4,5],[],awH,awF,fun v _=>⟨bf (.int .i64) (v.getD 0 .junk),bf (.int .i64) (v.getD 1 .junk),J7 (v.getD 2 .junk),gI (v.getD 3 .junk)⟩,NK,fun s r=> {r with a:=s.a,b:=s.b},fun s=>s,fun _ s=>s,[.ret,.exit 0],Y7,D9,FX⟩
abbrev Sz:=xO.run
abbrev TS:=xO.lU
abbrev aoT:=xO.q
theorem alO (s:kG) (hI:D9 s):(NK s).all (fun _=>True):=by
 refine ⟨fun c1=>⟨?_,?_,fun _=>trivial,fun _=>trivial⟩,fun _=>trivial⟩
 all_goals ((obtain ⟨h0,h1,h2,h3,h4⟩:=hI;simp at c1;omega))
theorem aap:xO.Ok:=⟨fun s=>by kernel_rfl,fun s=>by kernel_rfl,fun s=>rfl,fun s t r=>rfl,fun s=>rfl,fun s=>by kernel_rfl⟩
theorem aam:xO.Pf (Y3):=⟨atC,fun _ _=>rfl,alS,alO⟩
theorem ae1:bG Tryz.prog aT (AN 0) (.loop yE) xO.lp:=dn.snd aap aam (bI (Γ:=air) (K:=iU) (L:=aB) aqb aC yE (fun b hb=>by rw [show ay yE=[] by kernel_rfl] at hb;cases hb)) (fun s=>by kernel_rfl)
theorem afs (s:kG) (hE:Y7 s):∃s',D9 s'∧Y3 (TS s) s' (Sz s):=dn.fin aap aam s hE
def UJ:List LV→T LV
 | [.xl (.int .i64) a,.xl (.int .i64) b]=> .req ((List.length a:Int)≤1000) (.ok (.v (.bool (a==b))))
 |_=> .no
noncomputable def Qk:List LV→T LV:=jR Tryz.prog Tryz.f16.params.toList UJ
theorem ag6 (a b:List Int):eX Tryz.prog aT (air) iU (fun i=>if i=4 then xO.lp else aB i) Tryz.f16 [.xl (.int .i64) a,.xl (.int .i64) b]=.br ((List.length a:Int) !=(List.length b:Int)) (.ok (.v (.bool false))) (.req (aoT (⟨a,b,false,(0:Int)⟩:kG)) (.br (lH (TS (⟨a,b,false,(0:Int)⟩:kG)) (.ret)) (.ok (.v (.bool (Sz (⟨a,b,false,(0:Int)⟩:kG)).r))) (.ok (.v (.bool true))))):=by kernel_rfl
theorem akB:Valid Tryz.prog aT 16 Qk:=aJ Tryz.func16 rfl aqb aC (L:=(fun i=>if i=4 then xO.lp else aB i)) (fun b hb=>by
 rw [show ay _=[yE] by kernel_rfl] at hb
 simp only [List.mem_cons,List.not_mem_nil,or_false] at hb
 subst hb
 exact ae1) (fun args lv h=>by
 unfold UJ at h
 split at h
 ·simp only [canL,canX]
  rw [ag6]
  rename_i a b
  obtain ⟨hl,rfl⟩:=h
  refine ⟨fun c=>congrArg (fun z=>LV.v (.bool z)) ?_,fun c=>?_⟩
  ·have c:¬a.length=b.length:=by simp at c;omega
   rw [eq_comm,beq_eq_false_iff_ne]
   exact fun e=>c (by rw [e])
  ·have c:a.length=b.length:=by simp at c;omega
   refine CB ⟨⟨rfl,Int.natCast_nonneg _,hl,c⟩,rfl,rfl⟩ (fun hE=>?_)
   obtain ⟨s',_,hq⟩:=afs _ hE.1
   rcases hq with ⟨q1,q2⟩ |⟨q1,q2,j,q3,q4⟩
   ·have e:(a==b)=true:=by
     rw [beq_iff_eq]
     refine List.ext_getElem c fun j h1 h2=>?_
     have:(gi a j==gi b j)=true:=q2 j (by show (j:Int)<(a.length:Int);omega)
     rw [jy (by simpa using h1),jy (by simpa using h2)] at this
     simpa using this
    rw [q1,e]
    exact ⟨fun h=>(by cases h),fun _=>rfl⟩
   ·have e:(a==b)=false:=by
     rw [beq_eq_false_iff_ne]
     rintro rfl
     have q4:(gi a j==gi a j)=false:=q4
     simp at q4
    rw [q1,q2,e]
    exact ⟨fun _=>rfl,fun h=>by cases h⟩
 ·cases h)
end Go.Proofs.YtlihnbimgclogaaGreatDoor
namespace Go.Proofs.YtlihnbimgclogaaGreatDoor
open Go.Sx
structure nT where
 l:List ByteArray
 k:Int
 i:Int
 bV:Value
 jr:Value
 gu:Value
 gX:Value
 nD:Value
 aH:List Cd
 aY:List ByteArray
 aQ:Value
 dA:Value
 gs:List Ch
def aAV (s:nT):List LV:=[.own 0 0,.own 1 0,.xl .str s.l,.v (.int .i64 s.k),.v (.int .i64 s.i)]
def az8 (s:nT):List aS:=[⟨[.v (s.bV),.v (s.jr),.v (s.gu),.v (s.gX),.v (s.nD)],28,.cl,false⟩,⟨[.xl iJ s.aH,.xl .str s.aY,.v (s.aQ),.os 2 8 0 (List.length s.gs),.v (s.dA)],28,.cl,false⟩,⟨[],58,.vec gU s.gs,false⟩]
noncomputable def BF:Code:=((ay (Tryz.f33.body.getD .skip))[0]?).getD .skip
def Zu (s:nT):T (Rd nT):=
 .br (decide (s.i<s.k)) (.req (0≤s.i∧s.i<(List.length s.l:Int)) (.req (0+(List.length s.gs)=List.length s.gs∧((List.length s.gs+List.length ([((gS s.l s.i),((0:Int),((1:Int),((6:Int),((10:Int),((1:Int),((0:Int),(0:Int))))))))]):Nat):Int)*72≤2^47∧((List.length s.gs+List.length ([((gS s.l s.i),((0:Int),((1:Int),((6:Int),((10:Int),((1:Int),((0:Int),(0:Int))))))))]):Nat):Int)<2^62) (.req (0=0∧(List.length s.gs+List.length ([((gS s.l s.i),((0:Int),((1:Int),((6:Int),((10:Int),((1:Int),((0:Int),(0:Int))))))))]))=List.length (s.gs++([((gS s.l s.i),((0:Int),((1:Int),((6:Int),((10:Int),((1:Int),((0:Int),(0:Int))))))))]))) (.ok (.next {s with i:=(IntKind.i64.wrap (s.i+1)),gs:=(s.gs++([((gS s.l s.i),((0:Int),((1:Int),((6:Int),((10:Int),((1:Int),((0:Int),(0:Int))))))))]))}))))) (.rl s.gs (.ok (.stop (.exit 0) s)))
abbrev aqC (s:nT):=(Zu s).rd s
def pkG:List Ch:=[(ByteArray.mk #[120],0,1,6,10,1,0,0),(ByteArray.mk #[121],0,1,6,10,1,0,0)]
def pkC (n:Int):List Cd:=[(ByteArray.mk #[102],-1,n,100,(0,0),0,0,0,0,0)]
def pkS:List ByteArray:=[ByteArray.mk #[120],ByteArray.mk #[121]]
def adk (s:nT):Prop:=s.i=0∧s.gs=[]∧s.l=pkS∧s.k=2
def MH (s:nT):Prop:=(0≤s.i∧s.i≤2)∧s.gs=pkG.take s.i.toNat∧s.l=pkS∧s.k=2
def OA (s:nT):Nat:=(2-s.i).toNat
def ajC (x:Ex) (_ s':nT):Prop:=x=.exit 0∧s'.gs=pkG
theorem ax7:∀s,adk s→MH s:=by
 intro s h
 obtain ⟨h0,h1,h2⟩:=h
 exact ⟨by omega,by rw [h0,h1];rfl,h2⟩
theorem atF (s:nT) (hI:MH s):bY (fun s'=>MH s'∧OA s'<OA s) (fun x s'=>ajC x s s') (aqC s):=by
 unfold aqC Zu
 dsimp only [T.rd,T.rl]
 obtain ⟨⟨h0,h1⟩,h2,h3,h4⟩:=hI
 refine ai (fun c1=>?_) (fun c1=>?_)
 ·have c1:s.i<2:=by simpa [h4] using c1
  rw [aF (x:=s.i+1) (by omega) (by omega)]
  refine ⟨⟨⟨by simp only;omega,by simp only;omega⟩,?_,h3,h4⟩,by simp only [OA];omega⟩
  simp only
  rw [h2,h3]
  rcases (by omega:s.i=0∨s.i=1) with e|e<;>rw [e]<;>rfl
 ·have c1:2≤s.i:=by simpa [h4] using c1
  refine ⟨rfl,?_⟩
  rw [h2,show s.i.toNat=2 by omega]
  rfl
def EQ:dn nT:=⟨0,27,[2,3,12,13,14],[.nc 1 3 58 gU],aAV,az8,fun v b=>⟨bf .str (v.getD 2 .junk),gI (v.getD 3 .junk),gI (v.getD 4 .junk),gAn (bC (aV b 0) 0),gAn (bC (aV b 0) 1),gAn (bC (aV b 0) 2),gAn (bC (aV b 0) 3),gAn (bC (aV b 0) 4),bf iJ (bC (aV b 1) 0),bf .str (bC (aV b 1) 1),gAn (bC (aV b 1) 2),gAn (bC (aV b 1) 4),jm gU (aV b 2)⟩,Zu,fun s r=> {r with l:=s.l,k:=s.k,bV:=s.bV,jr:=s.jr,gu:=s.gu,gX:=s.gX,nD:=s.nD,aH:=s.aH,aY:=s.aY,aQ:=s.aQ,dA:=s.dA},fun s=>s,fun _ s=>s,[.exit 0],adk,MH,OA⟩
abbrev xW:=EQ.run
abbrev anY:=EQ.lU
abbrev av7:=EQ.q
theorem asW (s:nT) (hI:MH s):(Zu s).all (fun _=>True):=by
 refine ⟨fun c1=>⟨?_,?_,?_,trivial⟩,fun c1=>⟨⟨rfl,rfl⟩,trivial⟩⟩
 all_goals ((obtain ⟨⟨h0,h1⟩,h2,h3,h4⟩:=hI;simp only [decide_eq_true_eq] at c1;have hl:s.l.length=2:=(by rw [h3];rfl);have hg:s.gs.length≤2:=(by rw [h2,List.length_take];show min _ 2≤2;omega);first|omega|(refine ⟨by omega,?_,?_⟩<;>simp only [List.length_cons,List.length_nil]<;>omega) |exact ⟨rfl,by simp⟩))
noncomputable def XY:Specs:=bn []
theorem aif:∀g S,XY g=some S→Valid Tryz.prog aT g S:=aX (l:=[]) trivial
theorem agA:EQ.Ok:=⟨fun s=>by kernel_rfl,fun s=>by kernel_rfl,fun s=>rfl,fun s t r=>rfl,fun s=>rfl,fun s=>by kernel_rfl⟩
theorem afK:EQ.Pf (ajC):=⟨ax7,fun _ _=>rfl,atF,asW⟩
theorem alb:bG Tryz.prog aT (AN 0) (.loop BF) EQ.lp:=dn.snd agA afK (bI (Γ:=XY) (K:=iU) (L:=aB) aif aC BF (fun b hb=>by rw [show ay BF=[] by kernel_rfl] at hb;cases hb)) (fun s=>by kernel_rfl)
theorem alU (s:nT) (hE:adk s):∃s',MH s'∧ajC (anY s) s' (xW s):=dn.fin agA afK s hE
def acC:List LV→T LV
 | [.v (.int .i64 n)]=> .ok (.agg [.xl iJ (pkC n),.xl .str ([(ByteArray.mk #[111])]),.xl iQ ([]:List Ko),.xl gU pkG,.xl iR ([]:List Ba)])
 |_=> .no
noncomputable def YB:List LV→T LV:=jR Tryz.prog Tryz.f33.params.toList acC
theorem amG (n:Int):eX Tryz.prog aT (XY) iU (fun i=>if i=3 then EQ.lp else aB i) Tryz.f33 [.v (.int .i64 n)]=.req (0=0∧0=List.length ([]:List Ch)) (.req (av7 (⟨([(ByteArray.mk #[120]),(ByteArray.mk #[121])]),(List.length ([(ByteArray.mk #[120]),(ByteArray.mk #[121])]):Int),(0:Int),(.slice none 0 0),(.slice none 0 0),(.slice none 0 0),(.slice none 0 0),(.slice none 0 0),([((ByteArray.mk #[102]),((-1:Int),(n,((100:Int),(((0:Int),(0:Int)),((0:Int),((0:Int),((0:Int),((0:Int),(0:Int))))))))))]),([(ByteArray.mk #[111])]),(.slice none 0 0),(.slice none 0 0),([]:List Ch)⟩:nT)) (.req (0+(List.length (xW (⟨([(ByteArray.mk #[120]),(ByteArray.mk #[121])]),(List.length ([(ByteArray.mk #[120]),(ByteArray.mk #[121])]):Int),(0:Int),(.slice none 0 0),(.slice none 0 0),(.slice none 0 0),(.slice none 0 0),(.slice none 0 0),([((ByteArray.mk #[102]),((-1:Int),(n,((100:Int),(((0:Int),(0:Int)),((0:Int),((0:Int),((0:Int),((0:Int),(0:Int))))))))))]),([(ByteArray.mk #[111])]),(.slice none 0 0),(.slice none 0 0),([]:List Ch)⟩:nT)).gs)≤List.length (xW (⟨([(ByteArray.mk #[120]),(ByteArray.mk #[121])]),(List.length ([(ByteArray.mk #[120]),(ByteArray.mk #[121])]):Int),(0:Int),(.slice none 0 0),(.slice none 0 0),(.slice none 0 0),(.slice none 0 0),(.slice none 0 0),([((ByteArray.mk #[102]),((-1:Int),(n,((100:Int),(((0:Int),(0:Int)),((0:Int),((0:Int),((0:Int),((0:Int),(0:Int))))))))))]),([(ByteArray.mk #[111])]),(.slice none 0 0),(.slice none 0 0),([]:List Ch)⟩:nT)).gs) (.ok (.agg [.xl iJ ([((ByteArray.mk #[102]),((-1:Int),(n,((100:Int),(((0:Int),(0:Int)),((0:Int),((0:Int),((0:Int),((0:Int),(0:Int))))))))))]),.xl .str ([(ByteArray.mk #[111])]),.xl iQ ([]:List Ko),.xl gU (((xW (⟨([(ByteArray.mk #[120]),(ByteArray.mk #[121])]),(List.length ([(ByteArray.mk #[120]),(ByteArray.mk #[121])]):Int),(0:Int),(.slice none 0 0),(.slice none 0 0),(.slice none 0 0),(.slice none 0 0),(.slice none 0 0),([((ByteArray.mk #[102]),((-1:Int),(n,((100:Int),(((0:Int),(0:Int)),((0:Int),((0:Int),((0:Int),((0:Int),(0:Int))))))))))]),([(ByteArray.mk #[111])]),(.slice none 0 0),(.slice none 0 0),([]:List Ch)⟩:nT)).gs.drop 0).take (List.length (xW (⟨([(ByteArray.mk #[120]),(ByteArray.mk #[121])]),(List.length ([(ByteArray.mk #[120]),(ByteArray.mk #[121])]):Int),(0:Int),(.slice none 0 0),(.slice none 0 0),(.slice none 0 0),(.slice none 0 0),(.slice none 0 0),([((ByteArray.mk #[102]),((-1:Int),(n,((100:Int),(((0:Int),(0:Int)),((0:Int),((0:Int),((0:Int),((0:Int),(0:Int))))))))))]),([(ByteArray.mk #[111])]),(.slice none 0 0),(.slice none 0 0),([]:List Ch)⟩:nT)).gs)),.xl iR ([]:List Ba)])))):=by kernel_rfl
theorem arE:Valid Tryz.prog aT 33 YB:=aJ Tryz.func33 rfl aif aC (L:=(fun i=>if i=3 then EQ.lp else aB i)) (fun b hb=>by
 rw [show ay _=[BF] by kernel_rfl] at hb
 simp only [List.mem_cons,List.not_mem_nil,or_false] at hb
 subst hb
 exact alb) (fun args lv h=>by
 unfold acC at h
 split at h
 ·simp only [canL,canX]
  rw [amG]
  rename_i n
  obtain rfl:=h
  have hE:adk ⟨([(ByteArray.mk #[120]),(ByteArray.mk #[121])]),(List.length ([(ByteArray.mk #[120]),(ByteArray.mk #[121])]):Int),0,.slice none 0 0,.slice none 0 0,.slice none 0 0,.slice none 0 0,.slice none 0 0,[((ByteArray.mk #[102]),-1,n,100,(0,0),0,0,0,0,0)],[(ByteArray.mk #[111])],.slice none 0 0,.slice none 0 0,[]⟩:=⟨rfl,rfl,rfl,rfl⟩
  obtain ⟨_,_,q1,q2⟩:=alU _ hE
  have q2:(xW ⟨([(ByteArray.mk #[120]),(ByteArray.mk #[121])]),(List.length ([(ByteArray.mk #[120]),(ByteArray.mk #[121])]):Int),0,.slice none 0 0,.slice none 0 0,.slice none 0 0,.slice none 0 0,.slice none 0 0,[((ByteArray.mk #[102]),-1,n,100,(0,0),0,0,0,0,0)],[(ByteArray.mk #[111])],.slice none 0 0,.slice none 0 0,[]⟩).gs=pkG:=q2
  refine ⟨⟨rfl,rfl⟩,⟨hE,rfl,rfl⟩,by omega,?_⟩
  rw [List.drop_zero,List.take_length,q2]
  rfl
 ·cases h)
def acS:List LV→T LV
 | []=> .ok (.v (.bool true))
 |_=> .no
noncomputable def YN:List LV→T LV:=jR Tryz.prog Tryz.f11.params.toList acS
noncomputable def aiv:Specs:=bn [(14,YV),(16,Qk),(19,Jw),(33,YB)]
theorem auU:∀g S,aiv g=some S→Valid Tryz.prog aT g S:=aX (l:=[(14,YV),(16,Qk),(19,Jw),(33,YB)]) ⟨arY,akB,aeL,arE,trivial⟩
theorem amX:(eX Tryz.prog aT (aiv) iU aB Tryz.f11 []).red=.req (kL ([(true,((0:Int),((0:Int),(2:Int)))),(true,((0:Int),((50:Int),(1:Int))))]) (40:Int)∧([(true,((0:Int),((0:Int),(2:Int)))),(true,((0:Int),((50:Int),(1:Int))))]).length≤19) (.req (kL ([(true,((0:Int),((0:Int),(2:Int)))),(true,((0:Int),((50:Int),(1:Int))))]) (40:Int)∧([(true,((0:Int),((0:Int),(2:Int)))),(true,((0:Int),((50:Int),(1:Int))))]).length≤19) (.req (0≤(0:Int)∧(0:Int)≤(1:Int)∧(1:Int)≤(List.length ([((0:Int),(9:Int)),((0:Int),(9:Int))]):Int)) (.req (kL ([(true,((0:Int),((0:Int),(2:Int)))),(true,((0:Int),((50:Int),(1:Int))))]) (40:Int)∧([(true,((0:Int),((0:Int),(2:Int)))),(true,((0:Int),((50:Int),(1:Int))))]).length≤19) (.req ((List.length (deA (pkC (10:Int)) ([(ByteArray.mk #[111])]) ([]:List Ko) pkG ([]:List Ba) ([]:List Le) ([((0:Int),(9:Int)),((0:Int),(9:Int))]) ([(true,((0:Int),((0:Int),(2:Int)))),(true,((0:Int),((50:Int),(1:Int))))]) (40:Int) (7:Int)):Int)≤1000) (.req (0≤(1:Int)∧1<(List.length (deR (pkC (10:Int)) ([(ByteArray.mk #[111])]) ([]:List Ko) pkG ([]:List Ba) ([]:List Le) ([((0:Int),(9:Int)),((0:Int),(9:Int))]) ([(true,((0:Int),((0:Int),(2:Int)))),(true,((0:Int),((50:Int),(1:Int))))]) (40:Int) (7:Int)):Int)) (.req (0≤(0:Int)∧0<(List.length (deR (pkC (10:Int)) ([(ByteArray.mk #[111])]) ([]:List Ko) pkG ([]:List Ba) ([]:List Le) ([((0:Int),(9:Int)),((0:Int),(9:Int))]) ([(true,((0:Int),((0:Int),(2:Int)))),(true,((0:Int),((50:Int),(1:Int))))]) (40:Int) (7:Int)):Int)) (.req (0≤(0:Int)∧0<(List.length (deL (pkC (10:Int)) ([(ByteArray.mk #[111])]) ([]:List Ko) pkG ([]:List Ba) ([]:List Le) ([((0:Int),(9:Int)),((0:Int),(9:Int))]) ([(true,((0:Int),((0:Int),(2:Int)))),(true,((0:Int),((50:Int),(1:Int))))]) (40:Int) (7:Int)):Int)) (.req ((List.length (deA (pkC (20:Int)) ([(ByteArray.mk #[111])]) ([]:List Ko) pkG ([]:List Ba) ([((3:Int),((1:Int),((20:Int),((30:Int),(12:Int)))))]) ([((0:Int),(9:Int)),((0:Int),(9:Int))]) ([(true,((0:Int),((0:Int),(2:Int)))),(true,((0:Int),((50:Int),(1:Int))))]) (40:Int) (7:Int)):Int)≤1000) (.req (kL ([(true,((0:Int),((0:Int),(2:Int)))),(true,((0:Int),((50:Int),(1:Int))))]) (40:Int)∧([(true,((0:Int),((0:Int),(2:Int)))),(true,((0:Int),((50:Int),(1:Int))))]).length≤19) (.req ((List.length (iK ([(true,((0:Int),((0:Int),(2:Int)))),(true,((0:Int),((50:Int),(1:Int))))]) (40:Int)):Int)≤1000) (.ok (.v (.bool true))))))))))))):=by kernel_rfl
theorem arQ:Valid Tryz.prog aT 11 YN:=aJ Tryz.func11 rfl auU aC (bF (by kernel_rfl)) (fun args lv h=>by
 unfold acS at h
 split at h
 ·simp only [canL]
  refine @T.Gp _ _ _ ?_
  rw [amX]
  exact ⟨(by first|decide+kernel|(unfold kL;decide+kernel)),(by first|decide+kernel|(unfold kL;decide+kernel)),(by first|decide+kernel|(unfold kL;decide+kernel)),(by first|decide+kernel|(unfold kL;decide+kernel)),(by first|decide+kernel|(unfold kL;decide+kernel)),(by first|decide+kernel|(unfold kL;decide+kernel)),(by first|decide+kernel|(unfold kL;decide+kernel)),(by first|decide+kernel|(unfold kL;decide+kernel)),(by first|decide+kernel|(unfold kL;decide+kernel)),(by first|decide+kernel|(unfold kL;decide+kernel)),(by first|decide+kernel|(unfold kL;decide+kernel)),h⟩
 ·cases h)
end Go.Proofs.YtlihnbimgclogaaGreatDoor
namespace Go.Proofs.YtlihnbimgclogaaGreatDoor
open Go.Sx
structure nR where
 l:List Int
 n:Int
 r:Bool
 i:Int
 found:Bool
 k:Int
def aAS (s:nR):List LV:=[.xl (.int .i64) s.l,.v (.int .i64 s.n),.v (.bool s.r),.v (.int .i64 s.i),.v (.bool s.found),.v (.int .i64 s.k)]
def az5 (_:nR):List aS:=[]
noncomputable def BD:Code:=((ay (((ay (Tryz.f21.body.getD .skip))[0]?).getD .skip))[0]?).getD .skip
def QS (s:nR):T (Rd nR):=
 .br (decide (s.k<s.n)) (.br s.found (.ok (.next {s with found:=true,k:=(IntKind.i64.wrap (s.k+1))})) (.req (0≤s.k∧s.k<(List.length s.l:Int)) (.ok (.next {s with found:=((gi s.l s.k)==s.i),k:=(IntKind.i64.wrap (s.k+1))})))) (.ok (.stop (.exit 2) s))
abbrev abf (s:nR):=(QS s).rd s
def U8 (s:nR):Prop:=s.k=0∧s.n≤1000∧s.n=(List.length s.l:Int)
def UY (s:nR):Prop:=0≤s.k∧s.k≤s.n∧s.n≤1000∧s.n=(List.length s.l:Int)
def Ic (s:nR):Nat:=(s.n-s.k).toNat
def aq0 (_:Ex) (_ _:nR):Prop:=True
theorem axU:∀s,U8 s→UY s:=by
 intro s h
 obtain ⟨h0,h1,h2⟩:=h
 exact ⟨by omega,by omega,h1,h2⟩
theorem atz (s:nR) (hI:UY s):bY (fun s'=>UY s'∧Ic s'<Ic s) (fun x s'=>aq0 x s s') (abf s):=by
 unfold abf QS
 dsimp only [T.rd,T.rl]
 obtain ⟨h0,h1,h2,h3⟩:=hI
 refine ai (fun c1=>?_) (fun c1=>?_)
 ·refine ai (fun c2=>?_) (fun c2=>?_)
  ·have c1:s.k<s.n:=by simpa using c1
   rw [aF (x:=s.k+1) (by omega) (by omega)]
   exact ⟨⟨by simp only;omega,by simp only;omega,h2,h3⟩,by simp only [Ic];omega⟩
  ·have c1:s.k<s.n:=by simpa using c1
   rw [aF (x:=s.k+1) (by omega) (by omega)]
   exact ⟨⟨by simp only;omega,by simp only;omega,h2,h3⟩,by simp only [Ic];omega⟩
 ·trivial
def JU:dn nR:=⟨0,33,[0,1,4,5,6,7],[],aAS,az5,fun v _=>⟨bf (.int .i64) (v.getD 0 .junk),gI (v.getD 1 .junk),J7 (v.getD 2 .junk),gI (v.getD 3 .junk),J7 (v.getD 4 .junk),gI (v.getD 5 .junk)⟩,QS,fun s r=> {r with l:=s.l,n:=s.n,r:=s.r,i:=s.i},fun s=>s,fun _ s=>s,[.exit 2],U8,UY,Ic⟩
abbrev FT:=JU.run
abbrev anX:=JU.lU
abbrev av4:=JU.q
theorem asT (s:nR) (hI:UY s):(QS s).all (fun _=>True):=by
 refine ⟨fun c1=>⟨fun _=>trivial,fun c2=>⟨?_,trivial⟩⟩,fun _=>trivial⟩
 ·(obtain ⟨h0,h1,h2,h3⟩:=hI;simp only [decide_eq_true_eq] at c1;omega)
noncomputable def aa0:Specs:=bn []
theorem ah8:∀g S,aa0 g=some S→Valid Tryz.prog aT g S:=aX (l:=[]) trivial
theorem agy:JU.Ok:=⟨fun s=>by kernel_rfl,fun s=>by kernel_rfl,fun s=>rfl,fun s t r=>rfl,fun s=>rfl,fun s=>by kernel_rfl⟩
theorem afI:JU.Pf (aq0):=⟨axU,fun _ _=>rfl,atz,asT⟩
theorem ak8:bG Tryz.prog aT (AN 0) (.loop BD) JU.lp:=dn.snd agy afI (bI (Γ:=aa0) (K:=iU) (L:=aB) ah8 aC BD (fun b hb=>by rw [show ay BD=[] by kernel_rfl] at hb;cases hb)) (fun s=>by kernel_rfl)
theorem aai (s:nR) (hE:U8 s):(fun (x:Ex) (s':nR) (v:Bool)=>x=.exit 2∧s'.found=v) (anX s) (FT s) ((fun s:nR=>s.found ||(s.l.drop s.k.toNat).contains s.i) s):=by
 exact dn.rC agy afI (fun s:nR=>s.found ||(s.l.drop s.k.toNat).contains s.i) (fun x s' v=>x=.exit 2∧s'.found=v) (fun s hI=>by
  show bY _ _ (abf s)
  unfold abf QS
  dsimp only [T.rd,T.rl]
  obtain ⟨h0,h1,h2,h3⟩:=hI
  refine ai (fun c1=>?_) (fun c1=>?_)
  ·have c1:s.k<s.n:=by simpa using c1
   rw [aF (x:=s.k+1) (by omega) (by omega)]
   refine ai (fun c2=>?_) (fun c2=>?_)
   ·show (true ||_)=(s.found ||_)
    rw [c2]
    rfl
   ·show ((gi s.l s.k==s.i) ||_)=(s.found ||_)
    rw [c2,Bool.false_or,(gi_step h0 (show s.k<s.l.length by omega)).1,List.contains_cons,Bool.beq_comm]
  ·have c1:s.n≤s.k:=by simpa using c1
   refine ⟨rfl,?_⟩
   rw [List.drop_eq_nil_of_le (by omega)]
   simp) s hE
structure o6 where
 l:List Int
 n:Int
 r:Bool
 i:Int
def aAT (s:o6):List LV:=[.xl (.int .i64) s.l,.v (.int .i64 s.n),.v (.bool s.r),.v (.int .i64 s.i)]
def az6 (_:o6):List aS:=[]
noncomputable def Jf:Code:=((ay (Tryz.f21.body.getD .skip))[0]?).getD .skip
def Zt (s:o6):T (Rd o6):=
 .br (decide (s.i<s.n)) (.req (av4 (⟨s.l,s.n,s.r,s.i,false,(0:Int)⟩:nR)) (.br (!(FT (⟨s.l,s.n,s.r,s.i,false,(0:Int)⟩:nR)).found) (.ok (.stop (.ret) {s with r:=false})) (.ok (.next {s with i:=(IntKind.i64.wrap (s.i+1))})))) (.ok (.stop (.exit 0) s))
abbrev aqB (s:o6):=(Zt s).rd s
def JF (s:o6) (j:Int):Bool:=s.l.contains j
def akj (s:o6):Prop:=s.i=0∧0≤s.n∧s.n≤1000∧s.n=(List.length s.l:Int)
def MG (s:o6):Prop:=0≤s.i∧s.i≤s.n∧s.n≤1000∧(s.n=(List.length s.l:Int))∧∀j:Nat,(j:Int)<s.i→JF s j=true
def Oy (s:o6):Nat:=(s.n-s.i).toNat
def ajB (x:Ex) (_ s':o6):Prop:=(x=.exit 0∧∀j:Nat,(j:Int)<s'.n→JF s' j=true)∨(x=.ret∧s'.r=false∧∃j:Nat,(j:Int)<s'.n∧JF s' j=false)
theorem axV:∀s,akj s→MG s:=by
 intro s h
 obtain ⟨h0,h1,h2,h3⟩:=h
 exact ⟨by omega,by omega,h2,h3,fun j hj=>by omega⟩
theorem atA (s:o6) (hI:MG s):bY (fun s'=>MG s'∧Oy s'<Oy s) (fun x s'=>ajB x s s') (aqB s):=by
 unfold aqB Zt
 dsimp only [T.rd,T.rl]
 obtain ⟨h0,h1,h2,h3,h4⟩:=hI
 refine ai (fun c1=>ai (fun c2=>?_) (fun c2=>?_)) (fun c1=>?_)
 ·have c1:s.i<s.n:=by simpa using c1
  refine .inr ⟨rfl,rfl,s.i.toNat,by simp only;omega,?_⟩
  rw [Int.toNat_of_nonneg (by omega)]
  have hg:JF s s.i=false:=by unfold JF;(have hin:U8 (⟨s.l,s.n,s.r,s.i,false,(0:Int)⟩):=⟨rfl,h2,h3⟩;have hr:=(aai _ hin).2;have hr:(FT (⟨s.l,s.n,s.r,s.i,false,(0:Int)⟩)).found=(false ||s.l.contains s.i):=hr;rw [Bool.false_or] at hr;rw [hr] at c2;simpa using c2)
  exact hg
 ·have c1:s.i<s.n:=by simpa using c1
  have hg:JF s s.i=true:=by unfold JF;(have hin:U8 (⟨s.l,s.n,s.r,s.i,false,(0:Int)⟩):=⟨rfl,h2,h3⟩;have hr:=(aai _ hin).2;have hr:(FT (⟨s.l,s.n,s.r,s.i,false,(0:Int)⟩)).found=(false ||s.l.contains s.i):=hr;rw [Bool.false_or] at hr;rw [hr] at c2;simpa using c2)
  rw [aF (x:=s.i+1) (by omega) (by omega)]
  refine ⟨⟨by simp only;omega,by simp only;omega,h2,h3,fun j hj=>?_⟩,by simp only [Oy];omega⟩
  by_cases hji:(j:Int)<s.i
  ·exact h4 j hji
  ·have:(j:Int)=s.i:=by simp only at hj;omega
   rw [this];exact hg
 ·have c1:s.n≤s.i:=by simpa using c1
  exact .inl ⟨rfl,fun j hj=>h4 j (by omega)⟩
def EP:dn o6:=⟨0,33,[0,1,4,5],[],aAT,az6,fun v _=>⟨bf (.int .i64) (v.getD 0 .junk),gI (v.getD 1 .junk),J7 (v.getD 2 .junk),gI (v.getD 3 .junk)⟩,Zt,fun s r=> {r with l:=s.l,n:=s.n},fun s=>s,fun _ s=>s,[.ret,.exit 0],akj,MG,Oy⟩
abbrev Z4:=EP.run
abbrev abG:=EP.lU
abbrev av5:=EP.q
theorem asU (s:o6) (hI:MG s):(Zt s).all (fun _=>True):=by
 refine ⟨fun c1=>⟨?_,fun _=>trivial,fun _=>trivial⟩,fun _=>trivial⟩
 ·(obtain ⟨h0,h1,h2,h3,h4⟩:=hI;exact ⟨⟨rfl,h2,h3⟩,rfl,rfl⟩)
theorem agz:EP.Ok:=⟨fun s=>by kernel_rfl,fun s=>by kernel_rfl,fun s=>rfl,fun s t r=>rfl,fun s=>rfl,fun s=>by kernel_rfl⟩
theorem afJ:EP.Pf (ajB):=⟨axV,fun _ _=>rfl,atA,asU⟩
theorem ak9:bG Tryz.prog aT (AN 0) (.loop Jf) EP.lp:=dn.snd agz afJ (bI (Γ:=aa0) (K:=iU) (L:=(fun i=>if i=8 then JU.lp else aB i)) ah8 aC Jf (fun b hb=>by
 rw [show ay _=[BD] by kernel_rfl] at hb
 simp only [List.mem_cons,List.not_mem_nil,or_false] at hb
 subst hb
 exact ak8)) (fun s=>by kernel_rfl)
theorem alR (s:o6) (hE:akj s):∃s',MG s'∧ajB (abG s) s' (Z4 s):=dn.fin agz afJ s hE
def acy:List LV→T LV
 | [.xl (.int .i64) l,.v (.int .i64 n)]=> .req (n≤1000) (.ok (.v (.bool (WG l n))))
 |_=> .no
noncomputable def Yy:List LV→T LV:=jR Tryz.prog Tryz.f21.params.toList acy
theorem amz (l:List Int) (n:Int):eX Tryz.prog aT (aa0) iU (fun i=>if i=4 then EP.lp else aB i) Tryz.f21 [.xl (.int .i64) l,.v (.int .i64 n)]=.br ((List.length l:Int) !=n) (.ok (.v (.bool false))) (.req (av5 (⟨l,n,false,(0:Int)⟩:o6)) (.br (lH (abG (⟨l,n,false,(0:Int)⟩:o6)) (.ret)) (.ok (.v (.bool (Z4 (⟨l,n,false,(0:Int)⟩:o6)).r))) (.ok (.v (.bool true))))):=by kernel_rfl
theorem arB:Valid Tryz.prog aT 21 Yy:=aJ Tryz.func21 rfl ah8 aC (L:=(fun i=>if i=4 then EP.lp else aB i)) (fun b hb=>by
 rw [show ay _=[Jf] by kernel_rfl] at hb
 simp only [List.mem_cons,List.not_mem_nil,or_false] at hb
 subst hb
 exact ak9) (fun args lv h=>by
 unfold acy at h
 split at h
 ·simp only [canL,canX]
  rw [amz]
  rename_i l n
  obtain ⟨hn,rfl⟩:=h
  refine ⟨fun c=>congrArg (fun z=>LV.v (.bool z)) ?_,fun c=>?_⟩
  ·have c:¬(List.length l:Int)=n:=by simpa using c
   unfold WG
   rw [decide_eq_false c]
   rfl
  ·have c:(List.length l:Int)=n:=by simpa using c
   unfold WG
   rw [decide_eq_true c,Bool.true_and]
   refine CB ⟨⟨rfl,by simp only;omega,hn,c.symm⟩,rfl,rfl⟩ (fun hE=>?_)
   obtain ⟨s',_,hq⟩:=alR _ hE.1
   rcases hq with ⟨q1,q2⟩ |⟨q1,q2,j,q3,q4⟩
   ·have e:Kq n.toNat (fun i=>l.contains i)=true:=iD.2 (fun j hj=>q2 j (by show (j:Int)<n;omega))
    rw [q1,e]
    exact ⟨fun h=>(by cases h),fun _=>rfl⟩
   ·have e:Kq n.toNat (fun i=>l.contains i)=false:=Hf j (by have q3:(j:Int)<n:=q3;omega) q4
    rw [q1,q2,e]
    exact ⟨fun _=>rfl,fun h=>by cases h⟩
 ·cases h)
end Go.Proofs.YtlihnbimgclogaaGreatDoor
namespace Go.Proofs.YtlihnbimgclogaaGreatDoor
open Go.Sx
def wxB (x:Dm):Bool:=!((decide (x.2.1<(-2000000000))) ||((decide (x.2.1>2000000000)) ||((decide (x.2.2.1<(-2000000000))) ||(decide (x.2.2.1>2000000000)))))
def wdB (d:List Dm) (t:Int):Bool:=Kq d.length (fun j=>wxB (jw d j))&&((decide (t≥(-2000000000)))&&((decide (t≤2000000000))&&(decide ((List.length d:Int)≤100))))
theorem arl {d:List Dm}{t:Int}(h:wdB d t=true):kL d t∧d.length≤100:=by
 unfold wdB at h
 rw [Bool.and_eq_true,Bool.and_eq_true,Bool.and_eq_true,decide_eq_true_eq,decide_eq_true_eq,decide_eq_true_eq] at h
 obtain ⟨h1,h2,h3,h4⟩:=h
 refine ⟨⟨fun x hx=>?_,by omega,by omega⟩,by omega⟩
 obtain ⟨k,hk,rfl⟩:=List.mem_iff_getElem.1 hx
 have:=iD.1 h1 k (by omega)
 unfold wxB jw at this
 rw [AO (by simpa using hk)] at this
 simp only [Bool.not_eq_true',Bool.or_eq_false_iff,decide_eq_false_iff_not,Int.toNat_natCast] at this
 omega
def nbD (d:List Dm) (a b:Int):Prop:=(jw d a).2.2.2≤(jw d b).2.2.2∧((jw d a).2.2.2=(jw d b).2.2.2→(jw d a).2.2.1-(jw d a).2.1≤(jw d b).2.2.1-(jw d b).2.1∧((jw d a).2.2.1-(jw d a).2.1=(jw d b).2.2.1-(jw d b).2.1→a≤b))
theorem aul {d:List Dm}{t a b:Int}(h:ltD d t b a=false):nbD d a b:=by
 rw [Po] at h
 unfold NW at h
 unfold nbD
 omega
theorem al0 {d:List Dm}{t:Int}{k:Int}(h0:1≤k) (h1:k<((iK d t).length:Int)):nbD d (gi (iK d t) (k-1)) (gi (iK d t) k):=by
 have:=List.pairwise_iff_getElem.1 (SK (d:=d) (t:=t)) (k-1).toNat k.toNat (by omega) (by omega) (by omega)
 rw [←jy,←jy] at this
 exact aul this
structure o7 where
 d:List Dm
 tick:Int
 t4:Bool
 t7:List Dm
 t8:Int
 t9:Int
def aA4 (s:o7):List LV:=[.xl jc s.d,.v (.int .i64 s.tick),.v (.bool s.t4),.xl jc s.t7,.v (.int .i64 s.t8),.v (.int .i64 s.t9)]
def aAh (_:o7):List aS:=[]
noncomputable def BM:Code:=((ay (Tryz.f13.body.getD .skip))[0]?).getD .skip
def Zw (s:o7):T (Rd o7):=
 .br (decide (s.t9<s.t8)) (.req (0≤s.t9∧s.t9<(List.length s.t7:Int)) (.br ((decide ((jw s.t7 s.t9).2.1<(-2000000000))) ||((decide ((jw s.t7 s.t9).2.1>2000000000)) ||((decide ((jw s.t7 s.t9).2.2.1<(-2000000000))) ||(decide ((jw s.t7 s.t9).2.2.1>2000000000))))) (.ok (.stop (.ret) {s with t4:=false})) (.ok (.next {s with t9:=(IntKind.i64.wrap (s.t9+1))})))) (.ok (.stop (.exit 0) s))
abbrev aqE (s:o7):=(Zw s).rd s
def JG (s:o7) (j:Int):Bool:=wxB (jw s.t7 j)
def adl (s:o7):Prop:=s.t9=0∧0≤s.t8∧s.t8≤9223372036854775807∧s.t8=(List.length s.t7:Int)
def MP (s:o7):Prop:=0≤s.t9∧s.t9≤s.t8∧s.t8≤9223372036854775807∧(s.t8=(List.length s.t7:Int))∧∀j:Nat,(j:Int)<s.t9→JG s j=true
def OI (s:o7):Nat:=(s.t8-s.t9).toNat
def ajK (x:Ex) (_ s':o7):Prop:=(x=.exit 0∧∀j:Nat,(j:Int)<s'.t8→JG s' j=true)∨(x=.ret∧s'.t4=false∧∃j:Nat,(j:Int)<s'.t8∧JG s' j=false)
theorem ayl:∀s,adl s→MP s:=by
 intro s h
 obtain ⟨h0,h1,h2,h3⟩:=h
 exact ⟨by omega,by omega,h2,h3,fun j hj=>by omega⟩
theorem auo (s:o7) (hI:MP s):bY (fun s'=>MP s'∧OI s'<OI s) (fun x s'=>ajK x s s') (aqE s):=by
 unfold aqE Zw
 dsimp only [T.rd,T.rl]
 obtain ⟨h0,h1,h2,h3,h4⟩:=hI
 refine ai (fun c1=>ai (fun c2=>?_) (fun c2=>?_)) (fun c1=>?_)
 ·have c1:s.t9<s.t8:=by simpa using c1
  refine .inr ⟨rfl,rfl,s.t9.toNat,by simp only;omega,?_⟩
  rw [Int.toNat_of_nonneg (by omega)]
  have hg:JG s s.t9=false:=by unfold JG;unfold wxB;rw [c2];rfl
  exact hg
 ·have c1:s.t9<s.t8:=by simpa using c1
  have hg:JG s s.t9=true:=by unfold JG;unfold wxB;rw [c2];rfl
  rw [aF (x:=s.t9+1) (by omega) (by omega)]
  refine ⟨⟨by simp only;omega,by simp only;omega,h2,h3,fun j hj=>?_⟩,by simp only [OI];omega⟩
  by_cases hji:(j:Int)<s.t9
  ·exact h4 j hji
  ·have:(j:Int)=s.t9:=by simp only at hj;omega
   rw [this];exact hg
 ·have c1:s.t8≤s.t9:=by simpa using c1
  exact .inl ⟨rfl,fun j hj=>h4 j (by omega)⟩
def EX:dn o7:=⟨0,43,[0,1,4,7,8,9],[],aA4,aAh,fun v _=>⟨bf jc (v.getD 0 .junk),gI (v.getD 1 .junk),J7 (v.getD 2 .junk),bf jc (v.getD 3 .junk),gI (v.getD 4 .junk),gI (v.getD 5 .junk)⟩,Zw,fun s r=> {r with d:=s.d,tick:=s.tick,t7:=s.t7,t8:=s.t8},fun s=>s,fun _ s=>s,[.ret,.exit 0],adl,MP,OI⟩
abbrev Z5:=EX.run
abbrev abH:=EX.lU
abbrev awg:=EX.q
theorem as6 (s:o7) (hI:MP s):(Zw s).all (fun _=>True):=by
 refine ⟨fun c1=>⟨?_,fun _=>trivial,fun _=>trivial⟩,fun _=>trivial⟩
 ·(obtain ⟨h0,h1,h2,h3,h4⟩:=hI;simp at c1;omega)
noncomputable def XW:Specs:=bn []
theorem aid:∀g S,XW g=some S→Valid Tryz.prog aT g S:=aX (l:=[]) trivial
theorem agC:EX.Ok:=⟨fun s=>by kernel_rfl,fun s=>by kernel_rfl,fun s=>rfl,fun s t r=>rfl,fun s=>rfl,fun s=>by kernel_rfl⟩
theorem afM:EX.Pf (ajK):=⟨ayl,fun _ _=>rfl,auo,as6⟩
theorem ali:bG Tryz.prog aT (AN 0) (.loop BM) EX.lp:=dn.snd agC afM (bI (Γ:=XW) (K:=iU) (L:=aB) aid aC BM (fun b hb=>by rw [show ay BM=[] by kernel_rfl] at hb;cases hb)) (fun s=>by kernel_rfl)
theorem anj (s:o7) (hE:adl s):∃s',MP s'∧ajK (abH s) s' (Z5 s):=dn.fin agC afM s hE
def acH:List LV→T LV
 | [.xl (.pair .bool (.pair (.int .i64) (.pair (.int .i64) (.int .i64)))) d,.v (.int .i64 t)]=> .req ((List.length d:Int)≤9223372036854775807) (.ok (.v (.bool (wdB d t))))
 |_=> .no
noncomputable def YF:List LV→T LV:=jR Tryz.prog Tryz.f13.params.toList acH
theorem amM (d:List Dm) (t:Int):eX Tryz.prog aT (XW) iU (fun i=>if i=2 then EX.lp else aB i) Tryz.f13 [.xl jc d,.v (.int .i64 t)]=.req (awg (⟨d,t,false,d,(List.length d:Int),(0:Int)⟩:o7)) (.br (lH (abH (⟨d,t,false,d,(List.length d:Int),(0:Int)⟩:o7)) (.ret)) (.ok (.v (.bool (Z5 (⟨d,t,false,d,(List.length d:Int),(0:Int)⟩:o7)).t4))) (.ok (.v (.bool ((decide (t≥(-2000000000)))&&((decide (t≤2000000000))&&(decide ((List.length d:Int)≤100)))))))):=by kernel_rfl
theorem arI:Valid Tryz.prog aT 13 YF:=aJ Tryz.func13 rfl aid aC (L:=(fun i=>if i=2 then EX.lp else aB i)) (fun b hb=>by
 rw [show ay _=[BM] by kernel_rfl] at hb
 simp only [List.mem_cons,List.not_mem_nil,or_false] at hb
 subst hb
 exact ali) (fun args lv h=>by
 unfold acH at h
 split at h
 ·simp only [canL,canX]
  rw [amM]
  rename_i d t
  obtain ⟨hl,rfl⟩:=h
  have hE:adl ⟨d,t,false,d,(List.length d:Int),0⟩:=⟨rfl,Int.natCast_nonneg _,hl,rfl⟩
  refine ⟨⟨hE,rfl,rfl⟩,?_⟩
  obtain ⟨_,_,q⟩:=anj _ hE
  rcases q with ⟨q1,q2⟩ |⟨q1,q2,j,j1,j2⟩
  ·rw [q1]
   refine ⟨fun h=>(by cases h),fun _=>congrArg (fun z=>LV.v (.bool z)) ?_⟩
   have hr:Kq d.length (fun j=>wxB (jw d j))=true:=iD.2 (fun j hj=>q2 j hj)
   unfold wdB
   rw [hr]
   rfl
  ·rw [q1]
   refine ⟨fun _=>congrArg (fun z=>LV.v (.bool z)) ?_,fun h=>by cases h⟩
   refine q2.trans ?_
   unfold wdB
   have e:Kq d.length (fun j=>wxB (jw d j))=false:=by
    cases hq:Kq d.length (fun j=>wxB (jw d j)) with
    |false=>rfl
    |true=>
     have h:=iD.1 hq j j1
     exact (show true=wxB (jw d j) from h.symm).trans j2
   rw [e]
   rfl
 ·cases h)
structure qf where
 d:List Dm
 t4:Bool
 QH:Bool
 l:List Int
 k:Int
def aA8 (s:qf):List LV:=[.xl jc s.d,.v (.bool s.t4),.v (.bool s.QH),.xl (.int .i64) s.l,.v (.int .i64 s.k)]
def aAl (_:qf):List aS:=[]
noncomputable def BP:Code:=((ay (Tryz.f4.body.getD .skip))[0]?).getD .skip
def Zz (s:qf):T (Rd qf):=
 .br (decide (s.k<(List.length s.l:Int))) (.req (0≤(IntKind.i64.wrap (s.k-1))∧(IntKind.i64.wrap (s.k-1))<(List.length s.l:Int)) (.req (0≤(gi s.l (IntKind.i64.wrap (s.k-1)))∧(gi s.l (IntKind.i64.wrap (s.k-1)))<(List.length s.d:Int)) (.req (0≤s.k∧s.k<(List.length s.l:Int)) (.req (0≤(gi s.l s.k)∧(gi s.l s.k)<(List.length s.d:Int)) (.br (decide ((jw s.d (gi s.l (IntKind.i64.wrap (s.k-1)))).2.2.2>(jw s.d (gi s.l s.k)).2.2.2)) (.ok (.stop (.ret) {s with t4:=false})) (.br ((jw s.d (gi s.l (IntKind.i64.wrap (s.k-1)))).2.2.2==(jw s.d (gi s.l s.k)).2.2.2) (.br (decide ((IntKind.i64.wrap ((jw s.d (gi s.l (IntKind.i64.wrap (s.k-1)))).2.2.1-(jw s.d (gi s.l (IntKind.i64.wrap (s.k-1)))).2.1))>(IntKind.i64.wrap ((jw s.d (gi s.l s.k)).2.2.1-(jw s.d (gi s.l s.k)).2.1)))) (.ok (.stop (.ret) {s with t4:=false})) (.br ((IntKind.i64.wrap ((jw s.d (gi s.l (IntKind.i64.wrap (s.k-1)))).2.2.1-(jw s.d (gi s.l (IntKind.i64.wrap (s.k-1)))).2.1))==(IntKind.i64.wrap ((jw s.d (gi s.l s.k)).2.2.1-(jw s.d (gi s.l s.k)).2.1))) (.req (0≤(IntKind.i64.wrap (s.k-1))∧(IntKind.i64.wrap (s.k-1))<(List.length s.l:Int)) (.req (0≤s.k∧s.k<(List.length s.l:Int)) (.br (decide ((gi s.l (IntKind.i64.wrap (s.k-1)))>(gi s.l s.k))) (.ok (.stop (.ret) {s with t4:=false})) (.ok (.next {s with k:=(IntKind.i64.wrap (s.k+1))}))))) (.ok (.next {s with k:=(IntKind.i64.wrap (s.k+1))})))) (.ok (.next {s with k:=(IntKind.i64.wrap (s.k+1))})))))))) (.ok (.stop (.exit 0) s))
abbrev aqH (s:qf):=(Zz s).rd s
def adp (s:qf):Prop:=1≤s.k∧(List.length s.l:Int)≤1000∧(∀j,0≤j→j<(List.length s.l:Int)→0≤gi s.l j∧gi s.l j<(List.length s.d:Int))∧(∀j,1≤j→j<(List.length s.l:Int)→nbD s.d (gi s.l (j-1)) (gi s.l j))∧kL s.d 0
def MV (s:qf):Prop:=1≤s.k∧(List.length s.l:Int)≤1000∧(∀j,0≤j→j<(List.length s.l:Int)→0≤gi s.l j∧gi s.l j<(List.length s.d:Int))∧(∀j,1≤j→j<(List.length s.l:Int)→nbD s.d (gi s.l (j-1)) (gi s.l j))∧kL s.d 0
def Dx (s:qf):Nat:=((List.length s.l:Int)-s.k).toNat
def ajO (x:Ex) (_ _:qf):Prop:=x=.exit 0
theorem ayp:∀s,adp s→MV s:=by
 exact fun s h=>h
theorem aut (s:qf) (hI:MV s):bY (fun s'=>MV s'∧Dx s'<Dx s) (fun x s'=>ajO x s s') (aqH s):=by
 unfold aqH Zz
 dsimp only [T.rd,T.rl]
 obtain ⟨h0,h1,h2,h3,h4⟩:=hI
 refine ai (fun c1=>?_) (fun c1=>?_)
 ·refine ai (fun c2=>?_) (fun c2=>?_)
  ·have c1:s.k<(List.length s.l:Int):=by simpa using c1
   have wk:IntKind.i64.wrap (s.k-1)=s.k-1:=aF (by omega) (by omega)
   have ha:=h2 (s.k-1) (by omega) (by omega)
   have hb:=h2 s.k (by omega) (by omega)
   have da:=y5 h4 ha.1 ha.2
   have db:=y5 h4 hb.1 hb.2
   have hn:=h3 s.k h0 c1
   unfold nbD at hn
   exfalso
   simp only [wk,decide_eq_true_eq,gt_iff_lt] at c2
   omega
  ·refine ai (fun c3=>?_) (fun c3=>?_)
   ·refine ai (fun c4=>?_) (fun c4=>?_)
    ·have c1:s.k<(List.length s.l:Int):=by simpa using c1
     have wk:IntKind.i64.wrap (s.k-1)=s.k-1:=aF (by omega) (by omega)
     have ha:=h2 (s.k-1) (by omega) (by omega)
     have hb:=h2 s.k (by omega) (by omega)
     have da:=y5 h4 ha.1 ha.2
     have db:=y5 h4 hb.1 hb.2
     have hn:=h3 s.k h0 c1
     unfold nbD at hn
     exfalso
     simp only [wk,aF (x:=(jw s.d (gi s.l (s.k-1))).2.2.1-(jw s.d (gi s.l (s.k-1))).2.1) (by omega) (by omega),aF (x:=(jw s.d (gi s.l s.k)).2.2.1-(jw s.d (gi s.l s.k)).2.1) (by omega) (by omega),decide_eq_true_eq,decide_eq_false_iff_not,beq_iff_eq,gt_iff_lt,Int.not_lt] at c2 c3 c4
     omega
    ·refine ai (fun c5=>?_) (fun c5=>?_)
     ·refine ai (fun c6=>?_) (fun c6=>?_)
      ·have c1:s.k<(List.length s.l:Int):=by simpa using c1
       have wk:IntKind.i64.wrap (s.k-1)=s.k-1:=aF (by omega) (by omega)
       have ha:=h2 (s.k-1) (by omega) (by omega)
       have hb:=h2 s.k (by omega) (by omega)
       have da:=y5 h4 ha.1 ha.2
       have db:=y5 h4 hb.1 hb.2
       have hn:=h3 s.k h0 c1
       unfold nbD at hn
       exfalso
       simp only [wk,aF (x:=(jw s.d (gi s.l (s.k-1))).2.2.1-(jw s.d (gi s.l (s.k-1))).2.1) (by omega) (by omega),aF (x:=(jw s.d (gi s.l s.k)).2.2.1-(jw s.d (gi s.l s.k)).2.1) (by omega) (by omega),decide_eq_true_eq,decide_eq_false_iff_not,beq_iff_eq,gt_iff_lt,Int.not_lt] at c2 c3 c4 c5 c6
       omega
      ·have c1:s.k<(List.length s.l:Int):=by simpa using c1
       rw [aF (x:=s.k+1) (by omega) (by omega)]
       exact ⟨⟨by simp only;omega,h1,h2,h3,h4⟩,by simp only [Dx];omega⟩
     ·have c1:s.k<(List.length s.l:Int):=by simpa using c1
      rw [aF (x:=s.k+1) (by omega) (by omega)]
      exact ⟨⟨by simp only;omega,h1,h2,h3,h4⟩,by simp only [Dx];omega⟩
   ·have c1:s.k<(List.length s.l:Int):=by simpa using c1
    rw [aF (x:=s.k+1) (by omega) (by omega)]
    exact ⟨⟨by simp only;omega,h1,h2,h3,h4⟩,by simp only [Dx];omega⟩
 ·exact rfl
def E5:dn qf:=⟨0,92,[0,4,5,6,7],[],aA8,aAl,fun v _=>⟨bf jc (v.getD 0 .junk),J7 (v.getD 1 .junk),J7 (v.getD 2 .junk),bf (.int .i64) (v.getD 3 .junk),gI (v.getD 4 .junk)⟩,Zz,fun s r=> {r with d:=s.d,QH:=s.QH,l:=s.l},fun s=>s,fun _ s=>s,[.ret,.exit 0],adp,MV,Dx⟩
abbrev Z9:=E5.run
abbrev abJ:=E5.lU
abbrev awk:=E5.q
theorem ata (s:qf) (hI:MV s):(Zz s).all (fun _=>True):=by
 refine ⟨fun c1=>⟨?_,?_,?_,?_,fun _=>trivial,fun c2=>⟨fun c3=>⟨fun _=>trivial,fun c4=>⟨fun c5=>⟨?_,?_,fun _=>trivial,fun _=>trivial⟩,fun _=>trivial⟩⟩,fun _=>trivial⟩⟩,fun _=>trivial⟩
 all_goals ((obtain ⟨h0,h1,h2,h3,h4⟩:=hI;simp only [decide_eq_true_eq] at c1;(try rw [aF (x:=s.k-1) (by omega) (by omega)]);have hb:=h2 s.k (by omega) (by omega);have ha:=h2 (s.k-1) (by omega) (by omega);omega))
noncomputable def XV:Specs:=bn [(11,YN),(13,YF),(19,YC),(21,Yy)]
theorem aic:∀g S,XV g=some S→Valid Tryz.prog aT g S:=aX (l:=[(11,YN),(13,YF),(19,YC),(21,Yy)]) ⟨arQ,arI,arF,arB,trivial⟩
theorem agF:E5.Ok:=⟨fun s=>by kernel_rfl,fun s=>by kernel_rfl,fun s=>rfl,fun s t r=>rfl,fun s=>rfl,fun s=>by kernel_rfl⟩
theorem afP:E5.Pf (ajO):=⟨ayp,fun _ _=>rfl,aut,ata⟩
theorem aln:bG Tryz.prog aT (AN 0) (.loop BP) E5.lp:=dn.snd agF afP (bI (Γ:=XV) (K:=iU) (L:=aB) aic aC BP (fun b hb=>by rw [show ay BP=[] by kernel_rfl] at hb;cases hb)) (fun s=>by kernel_rfl)
theorem anp (s:qf) (hE:adp s):∃s',MV s'∧ajO (abJ s) s' (Z9 s):=dn.fin agF afP s hE
def aqV:List LV→T LV
 | [.xl (.pair .bool (.pair (.int .i64) (.pair (.int .i64) (.int .i64)))) d,.v (.int .i64 _)]=> .req ((List.length d:Int)≤9223372036854775807) (.ok (.v (.bool true)))
 |_=> .no
noncomputable def azB:List LV→T LV:=jR Tryz.prog Tryz.f4.params.toList aqV
theorem ayi (d:List Dm) (t:Int):eX Tryz.prog aT (XV) iU (fun i=>if i=8 then E5.lp else aB i) Tryz.f4 [.xl jc d,.v (.int .i64 t)]=.req ((List.length d:Int)≤9223372036854775807) (.br (!(wdB d t)) (.ok (.v (.bool true))) (.req (kL d t∧d.length≤100) (.req ((List.length d:Int)≤1000) (.br (!(WG (iK d t) (List.length d:Int))) (.ok (.v (.bool false))) (.req (awk (⟨d,false,true,(iK d t),(1:Int)⟩:qf)) (.br (lH (abJ (⟨d,false,true,(iK d t),(1:Int)⟩:qf)) (.ret)) (.ok (.v (.bool (Z9 (⟨d,false,true,(iK d t),(1:Int)⟩:qf)).t4))) (.ok (.v (.bool true))))))))):=by kernel_rfl
theorem aBH:Valid Tryz.prog aT 4 azB:=aJ Tryz.func4 rfl aic aC (L:=(fun i=>if i=8 then E5.lp else aB i)) (fun b hb=>by
 rw [show ay _=[BP] by kernel_rfl] at hb
 simp only [List.mem_cons,List.not_mem_nil,or_false] at hb
 subst hb
 exact aln) (fun args lv h=>by
 unfold aqV at h
 split at h
 ·simp only [canL,canX]
  rw [ayi]
  rename_i d t
  obtain ⟨hl,rfl⟩:=h
  refine ⟨hl,fun c=>rfl,fun c=>?_⟩
  obtain ⟨hw,hd⟩:=arl (nfW c)
  have ho:WG (iK d t) (List.length d:Int)=true:=by
   rw [alZ,uf]
   exact ⟨Ak,Hu,fun i hi=>Hw.1 hi⟩
  refine ⟨⟨hw,hd⟩,by omega,fun c2=>absurd c2 (by rw [ho];decide),fun _=>?_⟩
  have hE:adp ⟨d,false,true,iK d t,1⟩:=⟨Int.le_refl 1,by show ((iK d t).length:Int)≤1000;rw [Ak];omega,fun j j0 j1=>Hw.1 (nC (by omega) j1),fun j j0 j1=>al0 j0 j1,hw.1,by decide,by decide⟩
  obtain ⟨_,_,q1⟩:=anp _ hE
  refine ⟨⟨hE,rfl,rfl⟩,?_⟩
  rw [q1]
  exact ⟨fun h=>(by cases h),fun _=>rfl⟩
 ·cases h)
end Go.Proofs.YtlihnbimgclogaaGreatDoor
namespace Go.Sx
open Go Go.RowKit Go.Proofs.YtlihnbimgclogaaGreatDoor
def mb:Ty→Nat
 | .int k=>k.bits / 8
 | .bool=>1
 | .str=>16
 | .sl _=>24
 | .pair a b=>mb a+mb b
def wfD:(t:Ty)→t.D→Prop
 | .int k,n=>(Lit.int k n).wf=true
 | .bool,_=>True
 | .str,s=>s.size≤maxLen
 | .sl e,l=>(List.length l≤maxLen∧List.length l*mb e≤reachBytes)∧∀d,d∈l→wfD e d
 | .pair a b,d=>wfD a d.1∧wfD b d.2
def Dv (P:Program):Nat→List Field→Bool
 |_,[]=>true
 |o,f::fs=>decide (f.offset=o)&&Dv P (o+P.cellsOf f.type) fs
def GN (P:Program):Nat→TypeId→Bool
 |0,_=>false
 |m+1,t=>match P.underlying t with
  |some (.int _) |some .bool|some .string=>decide (P.cellsOf t=1)
  |some (.struct fs)=>Dv P 0 fs.toList&&decide (P.cellsOf t=((fs.toList.map (·.type)).map P.cellsOf).sum)&&fs.toList.all (fun f=>GN P m f.type)
  |some (.array n e)=>decide (P.cellsOf t=((List.replicate n e).map P.cellsOf).sum)&&GN P m e
  |some (.slice e)=>decide (P.cellsOf t=1)&&decide (1≤P.cellsOf e)&&(yH P m e).any (fun ty=>ty.n==P.cellsOf e&&decide (mb ty≤P.bytesOf e))&&GN P m e
  |_=>false
variable {H : Type} {enc : TypeId × Value → H} {P : Program} {w : World} {base : Nat} {spare : Nat → Bool} {held : Bool} {β : Nat → Loc}
def Good (enc:TypeId×Value→H) (P:Program) (w:World) (base:Nat) (spare:Nat→Bool) (held:Bool) (t:TypeId) (cs:List Value):Prop:=∃n x,DataW.trod enc P w base spare held n t cs=some x∧∀k,k∈x.1.weights P t→k≤reachBytes
theorem Gt {e:TypeId}{d:DataW H}{k:Nat}(hk:k∈d.weights P e):∀ {l:List (DataW H)}{i:Nat},l[i]? =some d→k∈DataW.weightsAll P e l
 | [],_,h=>by cases h
 |x::l,0,h=>by
  simp only [List.getElem?_cons_zero,Option.some.injEq] at h
  subst h
  simp only [DataW.weightsAll,List.mem_append]
  exact .inl hk
 |x::l,i+1,h=>by
  simp only [List.getElem?_cons_succ] at h
  simp only [DataW.weightsAll,List.mem_append]
  exact .inr (Gt hk h)
theorem KF {t:TypeId}{d:DataW H}{k:Nat}(hk:k∈d.weights P t):∀ {ts:List TypeId}{l:List (DataW H)}{i:Nat},ts[i]? =some t→l[i]? =some d→k∈DataW.weightsEach P ts l
 | [],_,_,h,_=>by cases h
 |_::_,[],_,_,h=>by cases h
 |u::ts,x::l,0,h1,h2=>by
  simp only [List.getElem?_cons_zero,Option.some.injEq] at h1 h2
  subst h1
  subst h2
  simp only [DataW.weightsEach,List.mem_append]
  exact .inl hk
 |u::ts,x::l,i+1,h1,h2=>by
  simp only [List.getElem?_cons_succ] at h1 h2
  simp only [DataW.weightsEach,List.mem_append]
  exact .inr (KF hk h1 h2)
theorem KG:∀ {ts us:List TypeId}{ds gs:List (DataW H)},ds.length=ts.length→∀k,k∈DataW.weightsEach P ts ds→k∈DataW.weightsEach P (ts++us) (ds++gs)
 | [],_,[],_,_,_,h=>by simp [DataW.weightsEach] at h
 | [],_,_::_,_,h,_,_=>by cases h
 |_::_,_,[],_,h,_,_=>by cases h
 |t::ts,us,d::ds,gs,h,k,hk=>by
  simp only [DataW.weightsEach,List.mem_append,List.cons_append] at hk⊢
  rcases hk with hk|hk
  ·exact .inl hk
  ·exact .inr (KG (by simpa using h) k hk)
theorem Eb:∀ {ts:List TypeId}{vs:List Value}{ds:List (DataW H)}{ps:List MemPlace},DataW.TrodAll enc P w base spare held ts vs ds ps→ds.length=ts.length
 | [],[],[],_,_=>rfl
 | [],_::_,_,_,h=>by cases h
 | [],[],_::_,_,h=>by cases h
 |_::_,[],_,_,h=>by cases h
 |_::_,_::_,[],_,h=>by cases h
 |_::_,_::_,_::_,_,h=>by
  obtain ⟨_,_,_,h2,_⟩:=h
  simp [Eb h2]
theorem RL.append' {Z:Nat→Prop}:∀ {l1 l2:List LV}{y1 y2:List Value},RL β Z w l1 y1→RL β Z w l2 y2→RL β Z w (l1++l2) (y1++y2)
 | [],l2,y1,y2,h1,h2=>by simp only [RL] at h1;subst h1;exact h2
 |x::xs,l2,y1,y2,h1,h2=>by
  simp only [RL,List.cons_append] at h1⊢
  obtain ⟨y,zs,rfl,h3,h4⟩:=h1
  exact ⟨y,zs++y2,rfl,h3,RL.append' h4 h2⟩
theorem X6 {Z:Nat→Prop}:∀(t:Ty) (d:t.D) (cs:List Value) (b o:Nat),RL β Z w (fU t d) cs→(∀(j:Nat) v,cs[j]? =some v→w.cell? ⟨b,o+j,none⟩=some v)→RD Z w t d b o
 | .int k,d,cs,b,o,h,hc=>by
  simp only [fU,RL,R] at h
  obtain ⟨y,zs,rfl,rfl,_⟩:=h
  simp only [RD];exact hc 0 _ rfl
 | .bool,d,cs,b,o,h,hc=>by
  simp only [fU,RL,R] at h
  obtain ⟨y,zs,rfl,rfl,_⟩:=h
  simp only [RD];exact hc 0 _ rfl
 | .str,d,cs,b,o,h,hc=>by
  simp only [fU,RL,R] at h
  obtain ⟨y,zs,rfl,rfl,_⟩:=h
  simp only [RD];exact hc 0 _ rfl
 | .sl e,d,cs,b,o,h,hc=>by
  simp only [fU,RL,R] at h
  obtain ⟨y,zs,rfl,⟨a,cap,rfl,h2,h3⟩,_⟩:=h
  simp only [RD];exact ⟨a,cap,hc 0 _ rfl,h2,h3⟩
 | .pair p q,d,cs,b,o,h,hc=>by
  simp only [fU] at h
  have hl:=RL.length h
  simp only [List.length_append,dK] at hl
  have h1:=h.take_drop 0 p.n
  have h2:RL β Z w ((fU p d.1++fU q d.2).drop p.n) (cs.drop p.n):=by
   refine RL.dN (by simp [hl,dK]) fun i z hz=>?_
   rw [List.getElem?_drop] at hz⊢
   exact RL.get _ _ h hz
  have t1:((fU p d.1++fU q d.2).drop 0).take p.n=fU p d.1:=by
   rw [List.drop_zero,List.take_append_of_le_length (by rw [dK];exact Nat.le_refl _),List.take_of_length_le (by rw [dK];exact Nat.le_refl _)]
  have t2:(fU p d.1++fU q d.2).drop p.n=fU q d.2:=by
   rw [List.drop_append_of_le_length (by rw [dK];exact Nat.le_refl _),List.drop_eq_nil_of_le (by rw [dK];exact Nat.le_refl _),List.nil_append]
  rw [t1,List.drop_zero] at h1
  rw [t2] at h2
  simp only [RD]
  refine ⟨X6 p d.1 _ b o h1 (fun j v hv=>?_),X6 q d.2 _ b (o+p.n) h2 (fun j v hv=>?_)⟩
  ·rw [List.getElem?_take] at hv
   split at hv
   ·exact hc j v hv
   ·cases hv
  ·rw [List.getElem?_drop] at hv
   have:=hc (p.n+j) v hv
   rwa [←Nat.add_assoc] at this
theorem Hz {Z:Nat→Prop}{r:TypeId→Option Ty}{sz:TypeId→Nat}{Gd:TypeId→List Value→Prop}:∀(ts:List TypeId) (ty:Ty) (cs:List Value),VF r ts=some ty→
  (∀t∈ts,∀ty c,r t=some ty→Gd t c→∃d:ty.D,RL β Z w (fU ty d) c∧wfD ty d)→cs.length=(ts.map sz).sum→(∀pre t post,ts=pre++t::post→Gd t ((cs.drop (pre.map sz).sum).take (sz t)))→∃d:ty.D,RL β Z w (fU ty d) cs∧wfD ty d
 | [],ty,cs,h,_,_,_=>by simp [VF] at h
 | [t],ty,cs,h,ih,hl,hg=>by
  simp only [VF] at h
  have:=ih t (by simp) ty _ h (hg [] t [] rfl)
  have e:(cs.drop (List.map sz []).sum).take (sz t)=cs:=by
   simp at hl⊢
   exact List.take_of_length_le (by omega)
  rw [e] at this
  exact this
 | t::u::ts,ty,cs,h,ih,hl,hg=>by
  simp only [VF] at h
  split at h
  ·rename_i a b ha hb
   simp only [Option.some.injEq] at h
   subst h
   obtain ⟨d1,a1,a2⟩:=ih t (by simp) a _ ha (hg [] t (u::ts) rfl)
   obtain ⟨d2,b1,b2⟩:=Hz (sz:=sz) (Gd:=Gd) (u::ts) b (cs.drop (sz t)) hb (fun t' ht=>ih t' (by simp at ht⊢;exact .inr ht)) (by simp at hl⊢;omega) (fun pre t' post e=>by
    have:=hg (t::pre) t' post (by rw [e];rfl)
    rw [List.drop_drop]
    simpa using this)
   refine ⟨(d1,d2),?_,by simp only [wfD];exact ⟨a2,b2⟩⟩
   have:=RL.append' a1 b1
   simp only [fU]
   simpa using this
  ·cases h
theorem Oh:∀(fs:List Field) (o:Nat),Dv P o fs=true→∀pre f post,fs=pre++f::post→f.offset=o+((pre.map (·.type)).map P.cellsOf).sum
 | [],o,_,pre,f,post,e=>by cases pre<;>cases e
 |g::fs,o,h,[],f,post,e=>by
  simp only [Dv,Bool.and_eq_true,decide_eq_true_eq] at h
  simp only [List.nil_append,List.cons.injEq] at e
  rw [←e.1];simpa using h.1
 |g::fs,o,h,p::pre,f,post,e=>by
  simp only [Dv,Bool.and_eq_true,decide_eq_true_eq] at h
  simp only [List.cons_append,List.cons.injEq] at e
  have:=Oh fs _ h.2 pre f post e.2
  rw [this,←e.1];simp;omega
theorem FV {Z:Nat→Prop}(hZ:∀b,b<w.heap.size→Z b):∀(m:Nat) (t:TypeId) (ty:Ty),GN P m t=true→yH P m t=some ty→∀cs,Good enc P w base spare held t cs→∃d:ty.D,RL β Z w (fU ty d) cs∧wfD ty d
 |0,t,_,h,_,_,_=>by cases h
 | m + 1,t,ty,h,hty,cs,⟨n,x,hx,hwt⟩=>by
  simp only [GN] at h
  simp only [yH] at hty
  split at h
  ·rename_i k hu
   obtain ⟨z,rfl,_,hw⟩:=DataW.trod_int hu hx
   simp only [hu,Option.some.injEq] at hty
   subst hty
   exact ⟨z,by simp [fU,RL,R],hw⟩
  ·rename_i hu
   obtain ⟨z,rfl,_⟩:=DataW.trod_bool hu hx
   simp only [hu,Option.some.injEq] at hty
   subst hty
   exact ⟨z,by simp [fU,RL,R],trivial⟩
  ·rename_i hu
   obtain ⟨z,rfl,_,hs⟩:=DataW.trod_string hu hx
   simp only [hu,Option.some.injEq] at hty
   subst hty
   exact ⟨z,by simp [fU,RL,R],hs⟩
  ·rename_i fs hu
   simp only [Bool.and_eq_true,decide_eq_true_eq,List.all_eq_true] at h
   obtain ⟨⟨h1,h2⟩,h3⟩:=h
   obtain ⟨xs,n',_,rfl,hl,hxl,hf⟩:=DataW.trod_struct hu hx
   simp only [DataW.weights,hu] at hwt
   simp only [hu] at hty
   refine Hz (Gd:=Good enc P w base spare held) (sz:=P.cellsOf) (fs.toList.map (·.type)) ty cs hty (fun t' ht ty' c hty' hc=>?_) (by rw [hl,h2]) (fun pre t' post e=>?_)
   ·obtain ⟨f,hf1,rfl⟩:=List.mem_map.1 ht
    exact FV hZ m f.type ty' (h3 f hf1) hty' c hc
   ·obtain ⟨fpre,frest,e1,e2,e3⟩:=List.map_eq_append_iff.1 e
    obtain ⟨f,fpost,rfl,e4,e5⟩:=List.map_eq_cons_iff.1 e3
    have ho:=Oh fs.toList 0 h1 fpre f fpost e1
    have hi:fs[fpre.length]? =some f:=by
     have:fs.toList[fpre.length]? =some f:=by rw [e1];simp
     simpa using this
    have hg:=hf _ f hi
    have hlt:fpre.length<fs.size:=(Array.getElem?_eq_some_iff.1 hi).1
    rw [ho,Nat.zero_add] at hg
    refine ⟨n',xs[fpre.length]'(by omega),?_,fun k hk=>?_⟩
    ·rw [←e2,←e4,hg,List.getElem?_eq_getElem]
    ·rw [←e4] at hk
     exact hwt k (KF hk (i:=fpre.length) (by rw [e1];simp) (by rw [List.getElem?_map,List.getElem?_eq_getElem (by omega)];rfl))
  ·rename_i n0 e hu
   simp only [Bool.and_eq_true,decide_eq_true_eq] at h
   obtain ⟨h2,h3⟩:=h
   obtain ⟨xs,n',_,rfl,hl,hxl,hf⟩:=DataW.trod_array hu hx
   simp only [DataW.weights,hu] at hwt
   simp only [hu] at hty
   refine Hz (Gd:=Good enc P w base spare held) (sz:=P.cellsOf) (List.replicate n0 e) ty cs hty (fun t' ht ty' c hty' hc=>?_) (by rw [hl,h2]) (fun pre t' post e'=>?_)
   ·rw [(List.mem_replicate.1 ht).2] at hc hty'
    exact FV hZ m e ty' h3 hty' c hc
   ·obtain ⟨c1,c2,c3⟩:=List.replicate_eq_append_iff.1 e'
    have ht':t'=e:=by
     have:t'∈List.replicate n0 e:=by rw [e'];simp
     exact (List.mem_replicate.1 this).2
    have hlen:pre.length<n0:=by
     have:=congrArg List.length e'
     simp at this;omega
    have hg:=hf pre.length hlen
    refine ⟨n',xs[pre.length]'(by omega),?_,fun k hk=>?_⟩
    ·have hs:(pre.map P.cellsOf).sum=pre.length*P.cellsOf e:=by rw [c2];simp
     rw [hs,ht',hg,List.getElem?_eq_getElem]
    ·rw [ht'] at hk
     exact hwt k (Gt hk (i:=pre.length) (by rw [List.getElem?_map,List.getElem?_eq_getElem (by omega)];rfl))
  ·rename_i e hu
   simp only [Bool.and_eq_true,decide_eq_true_eq] at h
   obtain ⟨⟨⟨h1,h2⟩,h4⟩,h3⟩:=h
   simp only [hu,Option.map_eq_some_iff] at hty
   obtain ⟨te,hte,rfl⟩:=hty
   rw [hte] at h4
   simp only [Option.any_some,Bool.and_eq_true,decide_eq_true_eq,beq_iff_eq] at h4
   obtain ⟨h4,h5⟩:=h4
   rcases DataW.trod_slice hu hx with ⟨rfl,_⟩ |⟨a,len,cap,elems,rest,n',_,rfl,rfl,hb,hlc,hm,hlen,hel,_,_⟩
   ·refine ⟨([]:List te.D),?_,⟨Nat.zero_le _,by simp⟩,fun d hd=>by cases hd⟩
    simp only [fU,RL,R]
    exact ⟨_,[],rfl,⟨none,0,rfl,Nat.le_refl _,fun h=>absurd h (Nat.lt_irrefl 0)⟩,rfl⟩
   ·simp only [DataW.weights,hu] at hwt
    have hroom:=hwt _ (List.mem_cons_self ..)
    have each:∀i,∃d:te.D,i<len→∃c,w.cells? base (a.add (i*P.cellsOf e)) (P.cellsOf e)=some c∧RL β Z w (fU te d) c∧wfD te d:=fun i=>by
     by_cases hi:i<len
     ·have he:=hel i hi
      rw [List.getElem?_eq_getElem (by omega)] at he
      obtain ⟨c,hc,ht⟩:=Option.bind_eq_some_iff.1 he
      obtain ⟨d,l1,l2⟩:=FV hZ m e te h3 hte c ⟨n',_,ht,fun k hk=>hwt k (by
       simp only [List.mem_cons,List.mem_append]
       exact .inr (.inl (Gt hk (i:=i) (by rw [List.getElem?_map,List.getElem?_eq_getElem (by omega)];rfl))))⟩
      exact ⟨d,fun _=>⟨c,hc,l1,l2⟩⟩
     ·exact ⟨te.dflt,fun h=>absurd h hi⟩
    have ⟨g,hg⟩:=Classical.axiomOfChoice each
    have hlg:List.length ((List.range len).map g)=len:=by simp
    refine ⟨(List.range len).map g,?_,⟨by rw [hlg];omega,by rw [hlg];exact Nat.le_trans (Nat.mul_le_mul (by simp;omega) h5) hroom⟩,fun d hd=>?_⟩
    ·simp only [fU,RL,R]
     refine ⟨_,[],rfl,⟨some a,cap,by rw [hlg],by rw [hlg];omega,fun hn=>?_⟩,rfl⟩
     rw [hlg] at hn
     obtain ⟨c0,hc0,hr0,_⟩:=hg 0 hn
     obtain ⟨_,hcl0,hat0⟩:=World.cells?_some hc0
     have hcell0:∃z,w.cell? ((a.add (0*P.cellsOf e)).add 0)=some z:=by
      rw [hat0 0 (by omega)];exact ⟨_,List.getElem?_eq_getElem (by omega)⟩
     obtain ⟨z0,hz0⟩:=hcell0
     obtain ⟨b,off,spot⟩:=a
     have hsp:spot=none:=by
      cases spot with
      |none=>rfl
      |some q=>
       unfold World.cell? at hz0
       split at hz0
       ·simp [Addr.add] at hz0
       ·cases hz0
     subst hsp
     have hbl:b<w.heap.size:=by
      simp only [addr_add] at hz0
      unfold World.cell? at hz0
      split at hz0
      ·rename_i hh;exact (Array.getElem?_eq_some_iff.1 hh).1
      ·cases hz0
     refine ⟨b,off,rfl,hZ b hbl,fun i d hd=>?_⟩
     have hi:i<len:=by
      have:=(List.getElem?_eq_some_iff.1 hd).1
      rwa [hlg] at this
     have hdd:d=g i:=by
      rw [List.getElem?_map,List.getElem?_range hi] at hd
      simpa using hd.symm
     subst hdd
     obtain ⟨c,hc,hr,_⟩:=hg i hi
     obtain ⟨_,hcl,hat⟩:=World.cells?_some hc
     refine X6 te (g i) c b _ hr (fun j v hv=>?_)
     have hj:j<P.cellsOf e:=by
      have:=(List.getElem?_eq_some_iff.1 hv).1
      omega
     have:=hat j hj
     rw [hv] at this
     rw [h4]
     simpa [addr_add,Nat.add_assoc] using this
    ·obtain ⟨i,hi,rfl⟩:=List.mem_map.1 hd
     obtain ⟨_,_,_,hw⟩:=hg i (by simpa using hi)
     exact hw
  ·cases h
def QA (P:Program) (m:Nat) (t:TypeId) (l:List LV):Prop:=∃(ty:Ty) (d:ty.D),yH P m t=some ty∧l=fU ty d∧wfD ty d
theorem ae7 {P:Program}{m:Nat}{t:TypeId}{l:List LV}{ty:Ty}(ht:yH P m t=some ty) (h:QA P m t l):∃d:ty.D,l=fU ty d∧wfD ty d:=by
 obtain ⟨ty',d,h1,h2,h3⟩:=h
 obtain rfl:=Option.some.inj (ht.symm.trans h1)
 exact ⟨d,h2,h3⟩
theorem agk {Z:Nat→Prop}(hZ:∀b,b<w.heap.size→Z b) (m:Nat) (t:TypeId) (hs:GN P m t=true) (ht:(yH P m t).isSome=true) (cs:List Value) (hg:Good enc P w base spare held t cs):∃l,RL β Z w l cs∧dP 0 l∧QA P m t l:=by
 obtain ⟨ty,hty⟩:=Option.isSome_iff_exists.1 ht
 obtain ⟨d,h1,h2⟩:=FV (β:=β) hZ m t ty hs hty cs hg
 exact ⟨fU ty d,h1,oK 0 ty d,ty,d,hty,rfl,h2⟩
end Go.Sx
namespace Go.Sx
open Go Go.RowKit Go.Proofs.YtlihnbimgclogaaGreatDoor Go.ChangeShapes Go.WideShapes
variable {H : Type} {enc : TypeId × Value → H} {P : Program} {β : Nat → Loc} {Z : Nat → Prop}
theorem yL (hl:laidOutB P=true) {W W':World}(hb:Below W.heap.size W W'):∀(ts:List TypeId) (vs:List Value) (ds:List (DataW H)) (ps:List MemPlace),ts.all (fun t=>P.readableRec t&&decide (t<P.types.size))=true→
  DataW.TrodAll enc P W 0 (fun _=>true) true ts vs ds ps→(∀x∈ps,x.block<W.heap.size)→DataW.TrodAll enc P W' 0 (fun b=>decide (b<W.heap.size)) true ts vs ds ps
 | [],vs,ds,ps,_,h,_=>by
  cases vs<;>cases ds<;>first|exact h|exact h.elim
 | t::ts,vs,ds,ps,hr,h,hlt=>by
  cases vs with
  |nil=>cases ds<;>exact h.elim
  | cons v vs=>
   cases ds with
   |nil=>exact h.elim
   |cons d ds=>
    obtain ⟨p,q,h1,h2,rfl⟩:=h
    simp only [List.all_cons,Bool.and_eq_true,decide_eq_true_eq] at hr
    refine ⟨p,q,Below.trod hl hr.1.1 hr.1.2 h1 hb (fun x hx=>hlt x (by simp [hx])),?_,rfl⟩
    exact yL hl hb ts vs ds q (by simpa using hr.2) h2 (fun x hx=>hlt x (by simp [hx]))
theorem ahw {fn:Func}{s:ChangeSpec}{tb:TypeId}{apart:Bool}{W W':World}{args:Array Value}{ds gs:List (DataW H)}{before:List MemPlace}
  (hl:laidOutB P=true) (hr:fn.params.toList.all (fun t=>P.readableRec t&&decide (t<P.types.size))=true) (hres:fn.resultTypes=#[tb]) (hb:P.underlying tb=some .bool) (hvars:s.vars=[])
  (hfn:(s.fn H ds).results=[.lit (.bool true)]∧(s.fn H ds).args=ds∧(s.fn H ds).vars=[])
  (hW:DataW.Whole enc P fn.params.toList s.vars apart W args.toList ds gs before) (hB:Below W.heap.size W W'):s.post enc P fn apart true false false W args (.bool true) W':=by
 have hW':=hW
 obtain ⟨p,q,hA,hV,rfl,hfz,hnd⟩:=hW
 have hg:gs=[]∧q=[]:=by
  rw [hvars] at hV
  cases gs with
  |nil=>exact ⟨rfl,hV⟩
  |cons g r=>exact hV.elim
 obtain ⟨rfl,rfl⟩:=hg
 have hlt:∀x∈p,x.block<W.heap.size:=fun x hx=>hW'.lt x (by simp [hx])
 refine ⟨ds,[],p++[],[],p,[],hW',?_,?_,?_,hB.frame _,fun h=>by cases h⟩
 ·rw [List.append_nil,hfn.1,hres]
  exact trodAll_mk1 (shut_bool hb true)
 ·rw [List.append_nil,hfn.2.1]
  exact yL hl hB _ _ _ _ hr hA hlt
 ·rw [List.append_nil,hfn.2.2,hvars]
  rfl
def pLV (P:Program) (t:TypeId) (l:List LV):LV:=
 match P.underlying t with
 |some (.struct _)=>rV l
 |some (.array _ _)=> .junk
 |_=>match l with
  | [x]=>x
  |_=> .junk
theorem cell_of {w:World}{b0:Nat}{r:Reach}{m:Nat}{t:TypeId}(hs:GN P m t=true) {v:Value}(hv:Value.okWide P w r b0 t v) (h1:∀fs,P.underlying t=some (.struct fs)→False) (h2:∀n e,P.underlying t=some (.array n e)→False):v.cells.toList=[v]:=by
 cases m with
 |zero=>cases hs
 | succ m=>
  simp only [GN] at hs
  split at hs
  ·rename_i k hu
   obtain ⟨n,rfl⟩:=okWide_int hu hv
   rfl
  ·rename_i hu
   obtain ⟨n,rfl⟩:=okWide_bool hu hv
   rfl
  ·rename_i hu
   obtain ⟨n,rfl⟩:=okWide_string hu hv
   rfl
  ·rename_i fs hu
   exact (h1 fs hu).elim
  ·rename_i n e hu
   exact (h2 n e hu).elim
  ·rename_i e hu
   obtain ⟨a,l,c,rfl⟩:=okWide_slice hu hv
   rfl
  ·cases hs
theorem WH {w:World}{base b0:Nat}{spare:Nat→Bool}{held:Bool}{r:Reach}(hZ:∀b,b<w.heap.size→Z b) {m:Nat}{t:TypeId}(hs:GN P m t=true) (ht:(yH P m t).isSome=true) {v:Value}{d:DataW H}{p:List MemPlace}(hv:Value.okWide P w r b0 t v) (h:DataW.Trod enc P w base spare held t v d p) (hwt:∀k,k∈d.weights P t→k≤reachBytes):
  ∃l,okV 0 (pLV P t l)∧R β Z w (pLV P t l) v∧QA P m t l:=by
 obtain ⟨fuel,hf⟩:=h
 obtain ⟨l,h1,h2,h3⟩:=agk (β:=β) hZ m t hs ht v.cells.toList ⟨fuel,_,hf,hwt⟩
 refine ⟨l,?_,?_,h3⟩
 ·unfold pLV
  split
  ·exact oU h2
  ·trivial
  ·split
   ·exact h2.1
   ·trivial
 ·unfold pLV
  split
  ·rename_i fs hu
   obtain ⟨cs,rfl,_⟩:=okWide_struct hu hv
   exact rU h1
  ·simp only [R]
  ·split
   ·rename_i x
    simp only [RL] at h1
    obtain ⟨y,zs,e1,e2,rfl⟩:=h1
    have hc:=cell_of hs hv (by assumption) (by assumption)
    have:v=y:=by rw [hc] at e1;simpa using e1
    rw [this];exact e2
   ·simp only [R]
def WC (P:Program):List TypeId→List (List LV)→List LV
 |t::ts,l::ls=>pLV P t l::WC P ts ls
 |_,_=>[]
def GZ (P:Program) (m:Nat):List TypeId→List (List LV)→Prop
 | [],ls=>ls=[]
 |t::ts,ls=>∃l r,ls=l::r∧QA P m t l∧GZ P m ts r
theorem Ef {w:World}{base b0:Nat}{spare:Nat→Bool}{held:Bool}{r:Reach}(hZ:∀b,b<w.heap.size→Z b) {m:Nat}:∀(ts:List TypeId) (vs:List Value) (ds:List (DataW H)) (ps:List MemPlace),ts.all (fun t=>GN P m t&&(yH P m t).isSome)=true→
  (∀(j:Nat) t v,ts[j]? =some t→vs[j]? =some v→Value.okWide P w r b0 t v)→DataW.TrodAll enc P w base spare held ts vs ds ps→(∀k,k∈DataW.weightsEach P ts ds→k≤reachBytes)→∃ls,dP 0 (WC P ts ls)∧RL β Z w (WC P ts ls) vs∧GZ P m ts ls
 | [],vs,ds,ps,_,_,h,_=>by
  cases vs with
  |nil=>exact ⟨[],trivial,by simp [WC,RL],rfl⟩
  |cons _ _=>cases ds<;>exact h.elim
 | t::ts,vs,ds,ps,hs,hv,h,hwt=>by
  cases vs with
  |nil=>cases ds<;>exact h.elim
  | cons v vs=>
   cases ds with
   |nil=>exact h.elim
   |cons d ds=>
    obtain ⟨p,q,h1,h2,rfl⟩:=h
    simp only [List.all_cons,Bool.and_eq_true] at hs
    simp only [DataW.weightsEach,List.mem_append] at hwt
    obtain ⟨l,a1,a2,a3⟩:=WH (β:=β) hZ hs.1.1 hs.1.2 (hv 0 t v rfl rfl) h1 (fun k hk=>hwt k (.inl hk))
    obtain ⟨ls,b1,b2,b3⟩:=Ef hZ ts vs ds q hs.2 (fun j t' v' e1 e2=>hv (j+1) t' v' (by simpa using e1) (by simpa using e2)) h2 (fun k hk=>hwt k (.inr hk))
    exact ⟨l::ls,⟨a1,b1⟩,⟨v,vs,rfl,a2,b2⟩,l,ls,rfl,a3,b3⟩
theorem Py {G:dB}{f:FuncId}{fn:Func}{S:List LV→T LV}{s:ChangeSpec}{tb:TypeId}{apart:Bool}{m:Nat}{W:World}{base:Nat}{args:Array Value}{ds gs:List (DataW H)}{before:List MemPlace}
  (hv:Valid P G f S) (hl:laidOutB P=true) (hr:fn.params.toList.all (fun t=>P.readableRec t&&decide (t<P.types.size))=true) (hres:fn.resultTypes=#[tb]) (hb:P.underlying tb=some .bool) (hvars:s.vars=[])
  (hfn:(s.fn H ds).results=[.lit (.bool true)]∧(s.fn H ds).args=ds∧(s.fn H ds).vars=[]) (hs:fn.params.toList.all (fun t=>GN P m t&&(yH P m t).isSome)=true)
  (hS:∀ls,GZ P m fn.params.toList ls→(S (WC P fn.params.toList ls)).all (fun x=>x=.v (.bool true)))
  (hg:U4 G (fun b=>b<W.heap.size) W)
  (hval:∀(j:Nat) t v,fn.params[j]? =some t→args[j]? =some v→Value.okWide P W .any base t v)
  (hW:DataW.Whole enc P fn.params.toList s.vars apart W args.toList ds gs before) {us:List TypeId} (hz:(DataW.weightsEach P (fn.params.toList++us) (ds++gs)).all (·≤reachBytes)=true):
  Calls P f args W fun e W'=>∃v,e=.returned v∧s.post enc P fn apart true false false W args v W':=by
 have hA:∃p,DataW.TrodAll enc P W 0 (fun _=>true) true fn.params.toList args.toList ds p:=by
  obtain ⟨p,q,hA,_⟩:=hW
  exact ⟨p,hA⟩
 obtain ⟨p,hA⟩:=hA
 obtain ⟨ls,h1,h2,h3⟩:=Ef (β:=β0) (Z:=fun b=>b<W.heap.size) (fun _ h=>h) fn.params.toList args.toList ds p hs (fun j t v e1 e2=>hval j t v (by simpa using e1) (by simpa using e2)) hA (fun k hk=>of_decide_eq_true (List.all_eq_true.1 hz k (KG (Eb hA) k hk)))
 refine (hv _ args W _ _ (fun _ h=>h) hg h1 h2 (hS ls h3)).mono fun e W' ⟨hB,v,he,_,hR⟩=>⟨v,he,?_⟩
 simp only [R] at hR
 rw [hR]
 exact ahw hl hr hres hb hvars hfn hW hB
end Go.Sx
namespace Go.Sx
open Go Go.RowKit Go.Proofs.YtlihnbimgclogaaGreatDoor
variable {H : Type} {enc : TypeId × Value → H} {P : Program} {w : World} {base : Nat} {spare : Nat → Bool} {held : Bool}
def EG {H:Type}:Nat→DataW H→List Value
 |0,_=>[]
 |_+1,.lit (.int k n)=>[.int k n]
 |_+1,.lit (.bool b)=>[.bool b]
 |m+1,.agg l=>l.flatMap (EG m)
 |_,_=>[]
def Ho (P:Program):Nat→TypeId→Bool
 |0,_=>false
 |m+1,t=>match P.underlying t with
  |some (.int _) |some .bool=>true
  |some (.struct fs)=>Dv P 0 fs.toList&&decide (P.cellsOf t=((fs.toList.map (·.type)).map P.cellsOf).sum)&&fs.toList.all (fun f=>Ho P m f.type)
  |some (.array n e)=>decide (P.cellsOf t=((List.replicate n e).map P.cellsOf).sum)&&Ho P m e
  |_=>false
theorem IY {sz:TypeId→Nat}{g:DataW H→List Value}{Tr:TypeId→List Value→DataW H→Prop}:∀(ts:List TypeId) (cs:List Value) (ds:List (DataW H)),
  (∀t∈ts,∀c d,Tr t c d→g d=c)→ds.length=ts.length→cs.length=(ts.map sz).sum→(∀pre t post,ts=pre++t::post→∃d,ds[pre.length]? =some d∧Tr t ((cs.drop (pre.map sz).sum).take (sz t)) d)→ds.flatMap g=cs
 | [],cs,ds,_,h0,hl,_=>by
  have:cs=[]:=by simpa using hl
  have h2:ds=[]:=by simpa using h0
  rw [this,h2];rfl
 |t::ts,cs,[],_,h0,_,_=>by simp at h0
 | t::ts,cs,d::ds,ih,h0,hl,hg=>by
  obtain ⟨d',e1,e2⟩:=hg [] t ts rfl
  simp at e1
  subst e1
  have r:=IY (sz:=sz) (g:=g) (Tr:=Tr) ts (cs.drop (sz t)) ds (fun t' ht=>ih t' (by simp [ht])) (by simpa using h0) (by simp at hl⊢;omega) (fun pre t' post e=>by
   obtain ⟨q,q1,q2⟩:=hg (t::pre) t' post (by rw [e];rfl)
   refine ⟨q,by simpa using q1,?_⟩
   rw [List.drop_drop]
   simpa using q2)
  rw [List.flatMap_cons,r,ih t (by simp) _ _ e2]
  simp
theorem PW:∀(m:Nat) (t:TypeId),Ho P m t=true→∀(n:Nat) (cs:List Value) (x:DataW H×List MemPlace),DataW.trod enc P w base spare held n t cs=some x→EG m x.1=cs
 |0,t,h,_,_,_,_=>by cases h
 | m +1,t,h,n,cs,x,hx=>by
  simp only [Ho] at h
  split at h
  ·rename_i k hu
   obtain ⟨z,rfl,rfl,hw⟩:=DataW.trod_int hu hx
   rfl
  ·rename_i hu
   obtain ⟨z,rfl,rfl⟩:=DataW.trod_bool hu hx
   rfl
  ·rename_i fs hu
   simp only [Bool.and_eq_true,decide_eq_true_eq,List.all_eq_true] at h
   obtain ⟨⟨h1,h2⟩,h3⟩:=h
   obtain ⟨xs,n',_,rfl,hl,hxl,hf⟩:=DataW.trod_struct hu hx
   simp only [EG]
   refine IY (sz:=P.cellsOf) (Tr:=fun t c d=>∃y,DataW.trod enc P w base spare held n' t c=some y∧y.1=d) (fs.toList.map (·.type)) cs _ (fun t' ht c d hc=>?_) (by simp [hxl]) (by rw [hl,h2]) (fun pre t' post e=>?_)
   ·obtain ⟨f,hf1,rfl⟩:=List.mem_map.1 ht
    obtain ⟨y,hy,rfl⟩:=hc
    exact PW m f.type (h3 f hf1) n' c y hy
   ·obtain ⟨fpre,frest,e1,e2,e3⟩:=List.map_eq_append_iff.1 e
    obtain ⟨f,fpost,rfl,e4,e5⟩:=List.map_eq_cons_iff.1 e3
    have ho:=Oh fs.toList 0 h1 fpre f fpost e1
    have hi:fs[fpre.length]? =some f:=by
     have:fs.toList[fpre.length]? =some f:=by rw [e1];simp
     simpa using this
    have hg:=hf _ f hi
    have hlt:fpre.length<fs.size:=(Array.getElem?_eq_some_iff.1 hi).1
    rw [ho,Nat.zero_add] at hg
    refine ⟨(xs[fpre.length]'(by omega)).1,?_,xs[fpre.length]'(by omega),?_,rfl⟩
    ·rw [←e2,List.length_map,List.getElem?_map,List.getElem?_eq_getElem (by omega)];rfl
    ·rw [←e2,←e4,hg,List.getElem?_eq_getElem]
  ·rename_i n0 e hu
   simp only [Bool.and_eq_true,decide_eq_true_eq] at h
   obtain ⟨h2,h3⟩:=h
   obtain ⟨xs,n',_,rfl,hl,hxl,hf⟩:=DataW.trod_array hu hx
   simp only [EG]
   refine IY (sz:=P.cellsOf) (Tr:=fun t c d=>∃y,DataW.trod enc P w base spare held n' t c=some y∧y.1=d) (List.replicate n0 e) cs _ (fun t' ht c d hc=>?_) (by simp [hxl]) (by rw [hl,h2]) (fun pre t' post e'=>?_)
   ·rw [(List.mem_replicate.1 ht).2] at hc
    obtain ⟨y,hy,rfl⟩:=hc
    exact PW m e h3 n' c y hy
   ·obtain ⟨c1,c2,c3⟩:=List.replicate_eq_append_iff.1 e'
    have ht':t'=e:=by
     have:t'∈List.replicate n0 e:=by rw [e'];simp
     exact (List.mem_replicate.1 this).2
    have hlen:pre.length<n0:=by
     have:=congrArg List.length e'
     simp at this;omega
    have hg:=hf pre.length hlen
    have hs:(pre.map P.cellsOf).sum=pre.length*P.cellsOf e:=by rw [c2];simp
    refine ⟨(xs[pre.length]'(by omega)).1,?_,xs[pre.length]'(by omega),?_,rfl⟩
    ·rw [List.getElem?_map,List.getElem?_eq_getElem (by omega)];rfl
    ·rw [hs,ht',hg,List.getElem?_eq_getElem]
  ·cases h
theorem Kw {W:World}{name:String}{d:DataW Unit}{rest:List (String×DataW Unit)}{g:Nat}{t:TypeId}{m:Nat}(hg:P.globalNamed name=some g) (hty:(P.globals[g]?).map (·.type)=some t) (hp:Ho P m t=true)
  (h:laidMet P ((name,d)::rest) W):(∀i,W.cell? ⟨g,i,none⟩=(EG m d)[i]?)∧((EG m d)≠ []→g<W.heap.size):=by
 obtain ⟨ps,⟨g',t',cs,fuel,p,q,hg',ht',hvar,hd,_,_⟩,_⟩:=h
 obtain rfl:=Option.some.inj (hg.symm.trans hg')
 obtain rfl:=Option.some.inj (hty.symm.trans ht')
 have hf:=PW m t hp fuel _ _ hd
 simp only at hf
 have hcell:∀i,W.cell? ⟨g,i,none⟩=(EG m d)[i]? :=fun i=>by
  rw [World.var?_cell hg hvar i,hf];simp
 refine ⟨hcell,fun hne=>?_⟩
 have h0:=hcell 0
 cases hh:(EG m d)[0]? with
 |none=>exact absurd (List.getElem?_eq_none_iff.1 hh) (by have:=List.length_pos_iff.2 hne;omega)
 |some z=>
  rw [hh] at h0
  unfold World.cell? at h0
  split at h0
  ·rename_i hb;exact (Array.getElem?_eq_some_iff.1 hb).1
  ·cases h0
end Go.Sx
namespace Go.Proofs.YtlihnbimgclogaaGreatDoor
open Go.Sx Go.ChangeShapes Go.WideShapes Go.ChangeAt Go.RowKit
theorem own:ownKnob Tryz.prog.godebug=none:=by kernel_rfl
theorem laidOut:laidOutB Tryz.prog=true:=by kernel_rfl
theorem aBZ:Tryz.prog.globalNamed "chargepark/ramp.happens"=some 0:=by kernel_rfl
theorem ay7:(Tryz.prog.globals[0]?).map (·.type)=some 130:=by kernel_rfl
theorem aii {W:World}(h:laidMetH Tryz.prog [("chargepark/ramp.happens",Rows.laid_chargepark_ramp_happens)] W):U4 aT (fun b=>b<W.heap.size) W:=by
 obtain ⟨h1,h2⟩:=Kw (m:=4) aBZ ay7 (by kernel_rfl) (show laidMet Tryz.prog [("chargepark/ramp.happens",Rows.laid_chargepark_ramp_happens)] W from h)
 intro g n f hg
 unfold aT at hg
 split at hg
 ·simp only [Option.some.injEq,Prod.mk.injEq] at hg
  obtain ⟨rfl,rfl⟩:=hg
  refine ⟨h2 (by decide),fun j hj=>?_⟩
  rw [h1 j]
  match j,hj with
  |0,_=>rfl
  |1,_=>rfl
  |2,_=>rfl
  |3,_=>rfl
  |4,_=>rfl
  |5,_=>rfl
  |6,_=>rfl
  |7,_=>rfl
 ·cases hg
theorem LP {H:Type}{enc:TypeId×Value→H}{P:Program}{w:World}{base:Nat}{spare:Nat→Bool}{held:Bool}:∀ {ts:List TypeId}{vs:List Value}{ds:List (DataW H)}{ps:List MemPlace},DataW.TrodAll enc P w base spare held ts vs ds ps→ds.length=ts.length
 | [],[],[],_,_=>rfl
 | [],_::_,_,_,h=>by cases h
 | [],[],_::_,_,h=>by cases h
 |_::_,[],_,_,h=>by cases h
 |_::_,_::_,[],_,h=>by cases h
 |_::_,_::_,_::_,_,h=>by
  obtain ⟨_,_,_,h2,_⟩:=h
  simp [LP h2]
noncomputable def laidWorld (os:Os):World:=
 { World.holding Tryz.prog os ⟨#[],#[],[]⟩ with heap:=(World.holding Tryz.prog os ⟨#[],#[],[]⟩).heap.modify 0 fun
   | .cells _ t frozen=> .cells #[.int .i64 1,.int .i64 1,.int .i64 1,.int .i64 0,.int .i64 2,.int .i64 2,.int .i64 3,.int .i64 3] t frozen
   |o=>o}
theorem ark {e:Ty}{l:List e.D}(h:wfD (.sl e) l):(List.length l:Int)≤9223372036854775807:=by
 have h2:List.length l≤maxLen:=h.1.1
 unfold maxLen at h2
 omega
end Go.Proofs.YtlihnbimgclogaaGreatDoor
namespace Go.Proofs.YtlihnbimgclogaaGreatDoor
open Go.Sx Go.ChangeShapes Go.WideShapes Go.ChangeAt Go.RowKit
namespace ControlOrder
set_option maxRecDepth 100000 in
theorem opened (ls:List (List LV)) (h:GZ Tryz.prog 8 Tryz.f4.params.toList ls):(azB (WC Tryz.prog Tryz.f4.params.toList ls)).all (fun x=>x=.v (.bool true)):=by
 rw [Tryz.params4] at h⊢
 simp only [GZ] at h
 obtain ⟨l0,_,rfl,h0,l1,_,rfl,h1,rfl⟩:=h
 obtain ⟨d0,rfl,w0⟩:=ae7 (ty:=(.sl jc)) (by kernel_rfl) h0
 obtain ⟨d1,rfl,w1⟩:=ae7 (ty:=(.int .i64)) (by kernel_rfl) h1
 simp only [WC,pLV,Tryz.underlying31,Tryz.underlying3]
 refine aec (t':=T.req ((List.length d0:Int)≤9223372036854775807) (T.ok (LV.v (Value.bool true)))) (by kernel_rfl) ?_
 exact ⟨ark w0,rfl⟩
set_option maxRecDepth 100000 in
theorem contract (H:Type) (enc:TypeId×Value→H) (W:World) (base:Nat) (args:Array Value) (ds gs:List (DataW H)) (before:List MemPlace)
  (hval:∀(j:Nat) t v,Tryz.f4.params[j]? =some t→args[j]? =some v→Value.okWide Tryz.prog W .any base t v)
  (hW:DataW.Whole enc Tryz.prog Tryz.f4.params.toList Rows.controlOrderSpec.vars false W args.toList ds gs before) (hL:laidMetH Tryz.prog Rows.controlOrderRow.laid W) {us:List TypeId} (hz:(DataW.weightsEach Tryz.prog (Tryz.f4.params.toList++us) (ds++gs)).all (·≤reachBytes)=true):
  Calls Tryz.prog 4 args W fun e W'=>∃v,e=.returned v∧Rows.controlOrderSpec.post enc Tryz.prog Tryz.f4 false true false false W args v W':=by
 refine Py (m:=8) (tb:=4) aBH laidOut (by kernel_rfl) (by kernel_rfl) Tryz.underlying4 rfl ?_ (by kernel_rfl) opened (aii hL) hval hW hz
 obtain ⟨p,q,hA,_⟩:=hW
 have hl:=LP hA
 rw [Tryz.params4] at hl
 match ds,hl with
 | [_,_],_=>exact ⟨rfl,rfl,rfl⟩
theorem laid_met (os:Os):laidMet Tryz.prog Rows.controlOrderRow.laid ((laidWorld os).forCall (fun _ _=>0) ⟨#[],#[.slice none 0 0,.int .i64 0],[]⟩).memory:=
 laidMet_of_run' 8 (by kernel_rfl) (by kernel_rfl)
theorem reads (os:Os) {H:Type}(enc:TypeId×Value→H):∃places,DataW.whole enc Tryz.prog ((laidWorld os).forCall (fun _ _=>0) ⟨#[],#[.slice none 0 0,.int .i64 0],[]⟩).memory Tryz.f4.params.toList Rows.controlOrderSpec.vars false #[.slice none 0 0,.int .i64 0].toList 8=some ([.nil,.lit (.int .i64 0)],[],places):=
 ⟨[],by kernel_rfl⟩
set_option maxRecDepth 100000 in
theorem lifted (os:Os) (started:os.Started) (H:Type) (enc:TypeId×Value→H) (F:Stop.Interp):
  ReturnsInHanded {} Tryz.checked os 4 .any ((OpenSpec.ofChange Rows.controlOrderSpec).preRow enc Tryz.prog Tryz.f4 Rows.controlOrderRow.domain false Rows.controlOrderRow.laid) (((OpenSpec.ofChange Rows.controlOrderSpec).at F).post enc Tryz.prog Tryz.f4 false true false false):=by
 obtain ⟨places,hx⟩:=reads os enc
 refine returnsInHanded_of_row (C:=Tryz.checked) (s:=OpenSpec.ofChange Rows.controlOrderSpec) own started (by kernel_rfl) Tryz.func4
  (witness_row_at (enc:=enc) (C:=Tryz.checked) false (laidWorld os) #[.slice none 0 0,.int .i64 0] rfl (by kernel_rfl) (by kernel_rfl) (by kernel_rfl)
   (OpenSpec.preRow_of_cond 8 hx (by kernel_rfl) (fun k hk=>by cases hk) (by kernel_rfl) (laid_met os))) ?_
 intro W base args ds gs before hval hW _ _ hz hL _ _
 exact contract H enc W base args ds gs before hval hW hL hz
theorem said:Rows.ControlOrderSaid:=
 OpenClaim.holds_of_cond 4 Tryz.f4 rfl rfl rfl rfl rfl rfl rfl ⟨rfl,rfl,rfl,rfl,rfl⟩ rfl rfl rfl rfl rfl (by kernel_rfl) Tryz.func4 (by kernel_rfl)
  (of_decide_eq_true (by kernel_rfl)) (by unfold Func.isWrapper;first|(rw [if_pos (by decide+kernel)];kernel_rfl) |(rw [if_neg (by decide+kernel)];exact ⟨rfl,rfl⟩))
  (fun os started H enc _ F=>by rw [OpenClaim.pre_eq_preRow];exact lifted os started H enc F)
theorem plain (f:FuncId) (fn:Func) (hf:Tryz.pinned.checked.prog.funcNamed "chargepark/chargeparklaw25.ControlOrder"=some f) (hfn:Tryz.pinned.checked.prog.funcs[f]? =some fn):
  false=Tryz.pinned.checked.prog.looks []∧∀(j:Nat) t,fn.params[j]? =some t→Tryz.pinned.checked.prog.wantsStandIn t=false:=by
 obtain rfl:f=4:=Option.some.inj ((show Tryz.prog.funcNamed "chargepark/chargeparklaw25.ControlOrder"=some 4 by kernel_rfl).symm.trans hf) |>.symm
 obtain rfl:fn=Tryz.f4:=(Option.some.inj (Tryz.func4.symm.trans hfn)).symm
 refine ⟨by kernel_rfl,fun j t ht=>?_⟩
 have h:Tryz.f4.params.toList.all (fun t=>!Tryz.prog.wantsStandIn t)=true:=by kernel_rfl
 have:=List.all_eq_true.1 h t (by simpa using Array.mem_of_getElem? ht)
 show Tryz.prog.wantsStandIn t=false
 simpa using this
theorem card:Rows.ControlOrderCardSaid:=
 Claim7.holds_tied_plain_at .later [] _ _ _ _ said (fun _ h=>by cases h) (by kernel_rfl) (fun _ h=>by cases h) controlOrder_row_tie rfl ⟨rfl,rfl⟩ (by kernel_rfl) rfl plain (by kernel_rfl)
end ControlOrder
theorem controlOrder_card:Rows.ControlOrderCardSaid:=ControlOrder.card
end Go.Proofs.YtlihnbimgclogaaGreatDoor
