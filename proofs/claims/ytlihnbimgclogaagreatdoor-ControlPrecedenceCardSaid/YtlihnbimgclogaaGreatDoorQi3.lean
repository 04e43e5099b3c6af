/- ControlPrecedence returns true for all arguments: if one demand gets a lesser rank or a lesser slack, the target of its charger does not get less. Conditions: none; the table ramp.happens holds what its text says. -/
import Derived.Test.YtlihnbimgclogaaGreatDoorQi2
namespace Go.Proofs.YtlihnbimgclogaaGreatDoor
open Go.Sx
def TB (gs:List Ch) (p:Int) (l:List Int):Prop:=0≤p∧l.length≤1000∧∀k∈l,0≤k∧k<(gs.length:Int)
theorem aoT {gs:List Ch}{p:Int}{l:List Int}:(gY gs p l).length≤l.length:=List.length_filter_le _ _
theorem TV {cs:List Cd}{gs:List Ch}{o:Int}{k:Nat}{x:Int}(h:x∈sS cs gs o k):0≤x∧x<(k:Int):=by
 unfold sS at h
 have:=(List.mem_filter.1 h).1
 obtain ⟨j,h1,rfl⟩:=List.mem_map.1 this
 have:=List.mem_range.1 h1
 omega
def rowP (cs:List Cd) (gs:List Ch) (c p:Int):List Rw:=if (gY gs p (sS cs gs c gs.length)).length>0 then [(dP (fZ cs c),gY gs p (sS cs gs c gs.length))] else []
def alW (cs:List Cd) (gs:List Ch) (c:Int):List Rw:=rowP cs gs c 0++rowP cs gs c 1++rowP cs gs c 2
def jV (cs:List Cd) (gs:List Ch):Nat→List Rw
 |0=>[]
 |k+1=>jV cs gs k++alW cs gs k
theorem Gt {cs:List Cd}{gs:List Ch}{c p:Int}:(rowP cs gs c p).length≤1:=by
 unfold rowP
 split<;>simp
theorem aeS {cs:List Cd}{gs:List Ch}{c:Int}:(alW cs gs c).length≤3:=by
 unfold alW
 have h0:=Gt (cs:=cs) (gs:=gs) (c:=c) (p:=0)
 have h1:=Gt (cs:=cs) (gs:=gs) (c:=c) (p:=1)
 have h2:=Gt (cs:=cs) (gs:=gs) (c:=c) (p:=2)
 simp only [List.length_append]
 omega
theorem zx {cs:List Cd}{gs:List Ch}:∀ {k:Nat},(jV cs gs k).length≤3*k
 |0=>by simp [jV]
 |k+1=>by
  have:=zx (cs:=cs) (gs:=gs) (k:=k)
  have h2:=aeS (cs:=cs) (gs:=gs) (c:=k)
  simp only [jV,List.length_append]
  omega
def NP (cs:List Cd) (os:List ByteArray) (ks:List Ko) (gs:List Ch) (bs:List Ba):Int:=if fV cs os ks gs bs=true then 0 else 1
def iD (cs:List Cd) (os:List ByteArray) (ks:List Ko) (gs:List Ch) (bs:List Ba):List Rw:=if fV cs os ks gs bs=true then jV cs gs cs.length else []
end Go.Proofs.YtlihnbimgclogaaGreatDoor
namespace Go.Proofs.YtlihnbimgclogaaGreatDoor
open Go.Sx
def uD (a:Int):Bool:=decide (a≥0)&&decide (a≤80)
theorem ou {a:Int}:uD a=true↔0≤a∧a≤80:=by simp [uD]
def RG (n i:Int):Bool:=decide (0≤i)&&decide (i<n)
theorem zy {n i:Int}:RG n i=true↔0≤i∧i<n:=by simp [RG]
def mF (l:List Int) (n:Int):Bool:=decide ((l.length:Int)=n)&&(l.all (RG n)&&once l)
def smA (alive l:List Int):Int:=(l.map (fun m=>gi alive m)).sum
def uT (i:Int) (o:List (List Int)) (l:List Int):List (List Int):=l.foldl (fun o m=>o.modify m.toNat (·++[i])) o
def Qy (o:List (List Int)) (i:Int):List Rw→List (List Int)
 | []=>o
 |r::rs=>Qy (uT i o r.2) (i+1) rs
def Qx (alive sm:List Int) (i:Int):List Rw→List Int
 | []=>sm
 |r::rs=>Qx alive (sm.set i.toNat (sm.getD i.toNat 0+smA alive r.2)) (i+1) rs
theorem Rh {alive l:List Int}{m:Int}:smA alive (m::l)=gi alive m+smA alive l:=by simp [smA]
theorem wU {i m:Int}{o:List (List Int)}{l:List Int}:uT i o (m::l)=uT i (o.modify m.toNat (·++[i])) l:=rfl
theorem vF {i:Int}:∀ {l:List Int}{o:List (List Int)},(uT i o l).length=o.length
 | [],o=>rfl
 |m::l,o=>by rw [wU,vF,List.length_modify]
theorem ZJ {i:Int}:∀ {l:List Int}{o:List (List Int)}{b:Int},(∀x∈o,(x.length:Int)≤b)→∀x∈uT i o l,(x.length:Int)≤b+l.length
 | [],o,b,h,x,hx=>by have:=h x hx;simp only [List.length_nil];omega
 | m::l,o,b,h,x,hx=>by
  rw [wU] at hx
  have:=ZJ (b:=b+1) (fun y hy=>by
   obtain ⟨k,hk,rfl⟩:=List.mem_iff_getElem.1 hy
   rw [List.length_modify] at hk
   have:=h o[k] (List.getElem_mem _)
   rw [List.getElem_modify]
   split
   ·simp only [List.length_append,List.length_cons,List.length_nil];omega
   ·omega) x hx
  simp only [List.length_cons]
  omega
theorem aeG {l:List Int}{i:Nat}(h:i<l.length):l.set i (l.getD i 0+0)=l:=by
 rw [Int.add_zero,List.getD_eq_getElem?_getD,List.getElem?_eq_getElem h,Option.getD_some,List.set_getElem_self]
theorem Rk {l:List Int}{i:Nat}{a b:Int}(h:i<l.length):(l.set i (l.getD i 0+a)).set i ((l.set i (l.getD i 0+a)).getD i 0+b)=l.set i (l.getD i 0+(a+b)):=by
 have e:(l.set i (l.getD i 0+a)).getD i 0=l.getD i 0+a:=by simp [List.getD,h]
 rw [e,List.set_set]
 congr 1
 omega
def mx (a b:Int):Int:=if a<b then b else a
def xH (gs:List Ch) (i k:Int):Int:=Ce (bF gs i).2.2.2.1 (bF gs i).2.2.2.2.2.1 k
def xU (gs:List Ch) (i a:Int):Int:=SA (bF gs i).2.2.2.1 (bF gs i).2.2.2.2.1 (bF gs i).2.2.2.2.2.1 a
def KC (gs:List Ch) (alive:List Int) (i k:Int):Int:=mx (gi alive i) (xH gs i k)-mx (gi alive i) (xH gs i (k-1))
def zZ (rows:List Rw) (sm:List Int) (mo r:Int):Bool:=decide (sm.getD r.toNat 0+mo≤(qW rows r).1)
def yQ (sm:List Int) (mo:Int) (l:List Int):List Int:=l.foldl (fun sm r=>sm.set r.toNat (sm.getD r.toNat 0+mo)) sm
abbrev Tr:=List Int×List Int×Bool
def CJ (O:List (List Int)) (rows:List Rw) (gs:List Ch) (alive most:List Int) (level:Int) (t:Tr) (i:Int):Tr:=
 if t.2.1.getD i.toNat 0=level-1∧level≤xU gs i (gi most i) then
  (if ((O.getD i.toNat []).all (zZ rows t.1 (KC gs alive i level)))=true then (yQ t.1 (KC gs alive i level) (O.getD i.toNat []),t.2.1.set i.toNat level,true) else t)
 else t
def swp (O:List (List Int)) (rows:List Rw) (gs:List Ch) (alive most:List Int) (level:Int) (t:Tr) (l:List Int):Tr:=l.foldl (CJ O rows gs alive most level) t
def shl (O:List (List Int)) (rows:List Rw) (gs:List Ch) (alive most order:List Int):Nat→Int→List Int→List Int→List Int
 |0,_,_,lv=>lv
 |f+1,level,sm,lv=>if (swp O rows gs alive most level (sm,lv,false) order).2.2=true then shl O rows gs alive most order f (level+1) (swp O rows gs alive most level (sm,lv,false) order).1 (swp O rows gs alive most level (sm,lv,false) order).2.1 else (swp O rows gs alive most level (sm,lv,false) order).2.1
theorem Dt {sm l:List Int}{mo r:Int}:yQ sm mo (r::l)=yQ (sm.set r.toNat (sm.getD r.toNat 0+mo)) mo l:=rfl
theorem ru {mo:Int}:∀ {l sm:List Int},(yQ sm mo l).length=sm.length
 | [],_=>rfl
 |r::l,sm=>by rw [Dt,ru,List.length_set]
theorem qh {sm:List Int}{i k:Nat}{v:Int}:(sm.set i v).getD k 0=if i=k∧k<sm.length then v else sm.getD k 0:=by
 simp only [List.getD,List.getElem?_set]
 by_cases h:i=k
 ·subst h
  by_cases h2:i<sm.length
  ·simp [h2]
  ·simp [h2]
 ·simp [h]
theorem IW {mo:Int}:∀ {l sm:List Int}{k:Nat},(∀r∈l,r.toNat≠k)→(yQ sm mo l).getD k 0=sm.getD k 0
 | [],_,_,_=>rfl
 |r::l,sm,k,h=>by
  rw [Dt,IW (fun x hx=>h x (by simp [hx])),qh,if_neg (fun e=>h r (by simp) e.1)]
theorem IX {mo:Int}:∀ {l sm:List Int}{k:Nat},l.Nodup→(∀r∈l,0≤r)→k<sm.length→(yQ sm mo l).getD k 0=sm.getD k 0+(if (k:Int)∈l then mo else 0)
 | [],sm,k,_,_,_=>by simp [yQ]
 | r::l,sm,k,hn,h0,hk=>by
  rw [Dt]
  obtain ⟨n1,n2⟩:=List.nodup_cons.1 hn
  have hr:=h0 r (by simp)
  by_cases e:r.toNat=k
  ·rw [IW (fun x hx e2=>n1 (by
    have:=h0 x (by simp [hx])
    have:r=x:=by omega
    rw [this];exact hx)),qh,if_pos ⟨e,hk⟩,if_pos (by simp;left;omega),e]
  ·rw [IX n2 (fun x hx=>h0 x (by simp [hx])) (by rw [List.length_set];exact hk),qh,if_neg (fun c=>e c.1)]
   have:¬(k:Int)=r:=by omega
   simp [this]
theorem WG {mi ma st a:Int}:SA mi ma st a≤80:=by
 have:=ahf (mi:=mi) (ma:=ma) (st:=st)
 unfold SA
 split
 ·omega
 ·split
  ·omega
  ·omega
structure OkT (O:List (List Int)) (rows:List Rw) (gs:List Ch) (alive most order:List Int):Prop where
 ol:O.length=16
 ord:∀i∈order,(0≤i∧i<16)∧i<(gs.length:Int)∧i<(alive.length:Int)∧i<(most.length:Int)
 al:∀a∈alive,0≤a∧a≤80
 mo:∀a∈most,0≤a∧a≤80
 has:∀i∈order,mG (bF gs i).2.2.2.1 (bF gs i).2.2.2.2.1 (bF gs i).2.2.2.2.2.1=true
 row:∀o∈O,o.Nodup∧(o.length:Int)≤1000∧∀r∈o,0≤r∧r<(rows.length:Int)
 cap:∀r∈rows,r.1≤1000
structure OkS (rows:List Rw) (order sm lv:List Int):Prop where
 len:sm.length=rows.length
 bd:∀k:Nat,0≤sm.getD k 0∧sm.getD k 0≤2000
 uU:∀i∈order,i<(lv.length:Int)
 lvb:∀k:Nat,0≤lv.getD k 0∧lv.getD k 0≤80
theorem aiG {mi st k:Int}(h:1≤mi∧mi≤80∧1≤st∧st≤80) (h0:0≤k) (h1:k≤81):0≤Ce mi st k∧Ce mi st k≤6480:=by
 unfold Ce
 split
 ·omega
 ·have a1:0≤(k-1)*st:=Int.mul_nonneg (by omega) (by omega)
  have a2:(k-1)*st≤(k-1)*80:=Int.mul_le_mul_of_nonneg_left (by omega) (by omega)
  omega
theorem Ub {mi st j k:Int}(h:1≤mi∧1≤st) (h0:0≤j) (h1:j≤k):Ce mi st j≤Ce mi st k:=by
 unfold Ce
 split
 ·split
  ·omega
  ·have a1:0≤(k-1)*st:=Int.mul_nonneg (by omega) (by omega)
   omega
 ·rw [if_neg (by omega)]
  have:(j-1)*st≤(k-1)*st:=Int.mul_le_mul_of_nonneg_right (by omega) (by omega)
  omega
theorem ahb {gs:List Ch}{alive:List Int}{i k:Int}(hh:mG (bF gs i).2.2.2.1 (bF gs i).2.2.2.2.1 (bF gs i).2.2.2.2.2.1=true) (ha:0≤gi alive i∧gi alive i≤80) (h0:1≤k) (h1:k≤81):0≤KC gs alive i k∧KC gs alive i k≤10000:=by
 obtain ⟨g1,g2,g3,g4,g5⟩:=fK.1 hh
 have b1:=aiG (mi:=(bF gs i).2.2.2.1) (st:=(bF gs i).2.2.2.2.2.1) (k:=k) ⟨g1,by omega,g4,g5⟩ (by omega) h1
 have b2:=aiG (mi:=(bF gs i).2.2.2.1) (st:=(bF gs i).2.2.2.2.2.1) (k:=k-1) ⟨g1,by omega,g4,g5⟩ (by omega) (by omega)
 have b3:=Ub (mi:=(bF gs i).2.2.2.1) (st:=(bF gs i).2.2.2.2.2.1) (j:=k-1) (k:=k) ⟨g1,g4⟩ (by omega) (by omega)
 unfold KC mx xH
 split<;>split<;>omega
theorem qg {l:List Int}{i:Int}(h0:0≤i) (h:i<(l.length:Int)):gi l i∈l:=by
 rw [o6 (by omega)];exact List.getElem_mem _
theorem aeN {O:List (List Int)}{rows:List Rw}{gs:List Ch}{alive most order:List Int}{level:Int}{t:Tr}{i:Int}(hT:OkT O rows gs alive most order) (hS:OkS rows order t.1 t.2.1) (hi:i∈order) (h0:1≤level) (h1:level≤81):OkS rows order (CJ O rows gs alive most level t i).1 (CJ O rows gs alive most level t i).2.1:=by
 unfold CJ
 split
 ·split
  ·rename_i hc hf
   obtain ⟨⟨o0,o1⟩,o2,o3,o4⟩:=hT.ord i hi
   have hl80:=WG (mi:=(bF gs i).2.2.2.1) (ma:=(bF gs i).2.2.2.2.1) (st:=(bF gs i).2.2.2.2.2.1) (a:=gi most i)
   have hl81:=hc.2
   unfold xU at hl81
   have hm:=ahb (gs:=gs) (alive:=alive) (k:=level) (hT.has i hi) (hT.al _ (qg o0 o3)) h0 h1
   have ho:O.getD i.toNat []∈O:=by
    have hl:=hT.ol
    rw [List.getD_eq_getElem?_getD,List.getElem?_eq_getElem (by omega),Option.getD_some]
    exact List.getElem_mem _
   obtain ⟨r1,r2,r3⟩:=hT.row _ ho
   refine ⟨by simp only;rw [ru];exact hS.len,fun k=>?_,fun j hj=>by simp only [List.length_set];exact hS.uU j hj,fun k=>by
    have:=hS.lvb k
    simp only
    rw [qh]
    split<;>omega⟩
   simp only
   by_cases hk:k<t.1.length
   ·rw [IX r1 (fun r hr=>(r3 r hr).1) hk]
    have hb:=hS.bd k
    split
    ·rename_i hkm
     have hfit:=List.all_eq_true.1 hf _ hkm
     unfold zZ at hfit
     rw [decide_eq_true_eq,Int.toNat_natCast] at hfit
     have hk2:=hS.len
     have:=hT.cap (qW rows (k:Int)) (by rw [C9 (by omega)];exact List.getElem_mem _)
     omega
    ·omega
   ·rw [List.getD_eq_getElem?_getD,List.getElem?_eq_none (by rw [ru];omega)]
    simp
  ·exact hS
 ·exact hS
theorem Vj {O:List (List Int)}{rows:List Rw}{gs:List Ch}{alive most order:List Int}{level:Int}(hT:OkT O rows gs alive most order) (h0:1≤level) (h1:level≤81):∀(l:List Int) (t:Tr),(∀i∈l,i∈order)→OkS rows order t.1 t.2.1→OkS rows order (swp O rows gs alive most level t l).1 (swp O rows gs alive most level t l).2.1
 | [],t,_,h=>h
 |i::l,t,hl,h=>Vj hT h0 h1 l _ (fun j hj=>hl j (by simp [hj])) (aeN hT h (hl i (by simp)) h0 h1)
theorem y9 {O:List (List Int)}{rows:List Rw}{gs:List Ch}{alive most:List Int}{level:Int}:∀(l:List Int) (t:Tr),(swp O rows gs alive most level t l).2.2=true→t.2.2=true∨level≤80
 | [],t,h=> .inl h
 | i::l,t,h=>by
  rcases y9 l _ h with h2|h2
  ·unfold CJ at h2
   split at h2
   ·rename_i hc
    have:=WG (mi:=(bF gs i).2.2.2.1) (ma:=(bF gs i).2.2.2.2.1) (st:=(bF gs i).2.2.2.2.2.1) (a:=gi most i)
    have h3:=hc.2
    unfold xU at h3
    exact .inr (by omega)
   ·exact .inl h2
  ·exact .inr h2
end Go.Proofs.YtlihnbimgclogaaGreatDoor
namespace Go.Proofs.YtlihnbimgclogaaGreatDoor
open Go.Sx
theorem Vp {O:List (List Int)}{rows:List Rw}{gs:List Ch}{alive most:List Int}{level:Int}{t:Tr}{i:Int}:(CJ O rows gs alive most level t i).2.1.length=t.2.1.length:=by
 unfold CJ
 split
 ·split
  ·simp only [List.length_set]
  ·rfl
 ·rfl
theorem Gm {O:List (List Int)}{rows:List Rw}{gs:List Ch}{alive most:List Int}{level:Int}:∀(l:List Int) (t:Tr),(swp O rows gs alive most level t l).2.1.length=t.2.1.length
 | [],_=>rfl
 |_::l,_=>(Gm l _).trans Vp
theorem aeC {O:List (List Int)}{rows:List Rw}{gs:List Ch}{alive most order:List Int}(hT:OkT O rows gs alive most order):∀(f:Nat) (level:Int) (sm lv:List Int),1≤level→level≤81→OkS rows order sm lv→(shl O rows gs alive most order f level sm lv).length=lv.length∧∀k:Nat,0≤(shl O rows gs alive most order f level sm lv).getD k 0∧(shl O rows gs alive most order f level sm lv).getD k 0≤80
 |0,_,_,lv,_,_,h=>⟨rfl,h.lvb⟩
 | f+1,level,sm,lv,h0,h1,h=>by
  have hk:=Vj hT h0 h1 order (sm,lv,false) (fun _ h=>h) h
  have hl:=Gm (O:=O) (rows:=rows) (gs:=gs) (alive:=alive) (most:=most) (level:=level) order (sm,lv,false)
  have hs:=y9 (O:=O) (rows:=rows) (gs:=gs) (alive:=alive) (most:=most) (level:=level) order (sm,lv,false)
  rw [shl]
  split
  ·rename_i hc
   have h80:level≤80:=by
    rcases hs hc with h|h
    ·cases h
    ·exact h
   obtain ⟨g1,g2⟩:=aeC hT f (level+1) _ _ (by omega) (by omega) hk
   exact ⟨g1.trans hl,g2⟩
  ·exact ⟨hl,hk.lvb⟩
def ofF (i:Int):List Rw→Int→List Int
 | [],_=>[]
 |r::rs,j=>(if r.2.contains j then [i] else [])++ofF (i+1) rs j
theorem Sj {o:List (List Int)}{f:List Int→List Int}{j k:Nat}(h:k<o.length):(o.modify j f).getD k []=if j=k then f (o.getD k []) else o.getD k []:=by
 simp only [List.getD,List.getElem?_modify,List.getElem?_eq_getElem h]
 split<;>simp_all
theorem RJ {i:Int}:∀ {l:List Int}{o:List (List Int)}{k:Nat},l.Nodup→(∀m∈l,0≤m)→k<o.length→(uT i o l).getD k []=o.getD k []++(if l.contains (k:Int) then [i] else [])
 | [],o,k,_,_,_=>by simp [uT]
 | m::l,o,k,hn,h0,hk=>by
  obtain ⟨n1,n2⟩:=List.nodup_cons.1 hn
  have hm:=h0 m (by simp)
  rw [wU,RJ n2 (fun x hx=>h0 x (by simp [hx])) (by rw [List.length_modify];exact hk),Sj hk]
  by_cases e:m.toNat=k
  ·have e2:(k:Int)=m:=by omega
   have:¬(k:Int)∈l:=by rw [e2];exact n1
   rw [if_pos e]
   simp [e2,n1]
  ·rw [if_neg e]
   have:¬(k:Int)=m:=by omega
   simp [this]
def ahc (r:Rw):Prop:=r.2.Nodup∧∀m∈r.2,0≤m
theorem Gl:∀ {rs:List Rw}{o:List (List Int)}{i:Int},(Qy o i rs).length=o.length
 | [],_,_=>rfl
 |r::rs,o,i=>by rw [Qy,Gl,vF]
theorem YD:∀ {rs:List Rw}{o:List (List Int)}{i:Int}{k:Nat},(∀r∈rs,ahc r)→k<o.length→(Qy o i rs).getD k []=o.getD k []++ofF i rs k
 | [],o,i,k,_,_=>by simp [Qy,ofF]
 |r::rs,o,i,k,h,hk=>by
  obtain ⟨h1,h2⟩:=h r (by simp)
  rw [Qy,YD (fun x hx=>h x (by simp [hx])) (by rw [vF];exact hk),RJ h1 h2 hk,ofF,List.append_assoc]
theorem uf:∀ {rs:List Rw}{i j x:Int},x∈ofF i rs j↔i≤x∧x<i+rs.length∧(qW rs (x-i)).2.contains j=true
 | [],i,j,x=>by simp [ofF];omega
 | r ::rs,i,j,x=>by
  rw [ofF,List.mem_append,uf]
  by_cases e:x=i
  ·subst e
   have g0:qW (r::rs) (x-x)=r:=by simp [qW]
   rw [g0]
   simp only [List.length_cons]
   constructor
   ·rintro (h|h)
    ·split at h
     ·rename_i hc
      exact ⟨by omega,by omega,hc⟩
     ·cases h
    ·omega
   ·rintro ⟨_,_,h⟩
    rw [if_pos h]
    simp
  ·have hn:¬x∈(if r.2.contains j then [i] else []):=by
    split
    ·simpa using e
    ·simp
   simp only [List.length_cons]
   constructor
   ·rintro (h|⟨h1,h2,h3⟩)
    ·exact absurd h hn
    ·refine ⟨by omega,by omega,?_⟩
     have:qW (r::rs) (x-i)=qW rs (x-(i+1)):=by
      unfold qW
      rw [show (x-i).toNat=(x-(i+1)).toNat+1 by omega]
      simp
     rw [this];exact h3
   ·rintro ⟨h1,h2,h3⟩
    refine .inr ⟨by omega,by omega,?_⟩
    have:qW (r::rs) (x-i)=qW rs (x-(i+1)):=by
     unfold qW
     rw [show (x-i).toNat=(x-(i+1)).toNat+1 by omega]
     simp
    rw [←this];exact h3
theorem wY:∀ {rs:List Rw}{i j:Int},(ofF i rs j).Nodup
 | [],_,_=>List.nodup_nil
 | r::rs,i,j=>by
  rw [ofF]
  split
  ·rw [List.singleton_append,List.nodup_cons]
   refine ⟨fun h=>?_,wY⟩
   have:=(uf.1 h).1
   omega
  ·rw [List.nil_append];exact wY
theorem ZQ:∀ {rs:List Rw}{i j:Int},(ofF i rs j).length≤rs.length
 | [],_,_=>Nat.le_refl _
 |r::rs,i,j=>by
  have:=ZQ (rs:=rs) (i:=i+1) (j:=j)
  rw [ofF]
  split<;>simp only [List.length_append,List.length_cons,List.length_nil]<;>omega
theorem Gj {alive:List Int}:∀ {rs:List Rw}{sm:List Int}{i:Int},(Qx alive sm i rs).length=sm.length
 | [],_,_=>rfl
 |r::rs,sm,i=>by rw [Qx,Gj,List.length_set]
theorem YC {alive:List Int}:∀ {rs:List Rw}{sm:List Int}{i:Int}{k:Nat},0≤i→k<sm.length→(Qx alive sm i rs).getD k 0=sm.getD k 0+(if i≤(k:Int)∧(k:Int)<i+rs.length then smA alive (qW rs ((k:Int)-i)).2 else 0)
 | [],sm,i,k,_,_=>by
  rw [if_neg (by simp only [List.length_nil];omega)]
  simp [Qx]
 | r ::rs,sm,i,k,hi,hk=>by
  rw [Qx,YC (by omega) (by rw [List.length_set];exact hk),qh]
  by_cases e:i.toNat=k
  ·have e2:(k:Int)=i:=by omega
   rw [if_pos ⟨e,hk⟩,if_neg (by omega),if_pos (by simp only [List.length_cons];omega),e,e2]
   have:qW (r::rs) (i-i)=r:=by simp [qW]
   rw [this]
   omega
  ·rw [if_neg (fun c=>e c.1)]
   by_cases c:i+1≤(k:Int)∧(k:Int)<i+1+rs.length
   ·rw [if_pos c,if_pos (by simp only [List.length_cons];omega)]
    have:qW (r::rs) ((k:Int)-i)=qW rs ((k:Int)-(i+1)):=by
     unfold qW
     rw [show ((k:Int)-i).toNat=((k:Int)-(i+1)).toNat+1 by omega]
     simp
    rw [this]
   ·rw [if_neg c,if_neg (by simp only [List.length_cons];omega)]
theorem aex {alive:List Int}(ha:∀a∈alive,0≤a∧a≤80):∀ {l:List Int},(∀m∈l,0≤m∧m<(alive.length:Int))→0≤smA alive l∧smA alive l≤80*l.length
 | [],_=>by simp [smA]
 |m::l,h=>by
  have h1:=aex ha (l:=l) (fun x hx=>h x (by simp [hx]))
  have hm:=h m (by simp)
  have:=ha (gi alive m) (qg hm.1 hm.2)
  rw [Rh]
  simp only [List.length_cons]
  omega
theorem zD {α:Type}{l:List α}(p:α→Bool) (h:l.Nodup):(l.filter p).Nodup:=List.Pairwise.filter p h
theorem Xm {cs:List Cd}{gs:List Ch}{o:Int}{k:Nat}:(sS cs gs o k).Nodup:=by
 unfold sS
 refine zD _ ?_
 exact List.Pairwise.map _ (fun a b h=>by omega) List.nodup_range
theorem aoS {gs:List Ch}{p k:Int}{l:List Int}:k∈gY gs p l↔k∈l∧usA (bF gs k).2.2.1 p=true:=by simp [gY,List.mem_filter]
theorem Gs {cs:List Cd}{gs:List Ch}{c p:Int}{r:Rw}(h:r∈rowP cs gs c p):r=(dP (fZ cs c),gY gs p (sS cs gs c gs.length))∧(gY gs p (sS cs gs c gs.length)).length>0:=by
 unfold rowP at h
 split at h
 ·simp only [List.mem_singleton] at h;exact ⟨h,by assumption⟩
 ·cases h
theorem Gu {cs:List Cd}{gs:List Ch}{r:Rw}:∀ {k:Nat},r∈jV cs gs k→∃c p:Int,(0≤c∧c<(k:Int))∧(p=0∨p=1∨p=2)∧r=(dP (fZ cs c),gY gs p (sS cs gs c gs.length))∧r.2.length>0
 |0,h=>by cases h
 | k+1,h=>by
  rw [jV,List.mem_append] at h
  rcases h with h|h
  ·obtain ⟨c,p,h1,h2,h3⟩:=Gu h
   exact ⟨c,p,⟨h1.1,by omega⟩,h2,h3⟩
  ·unfold alW at h
   rw [List.mem_append,List.mem_append] at h
   rcases h with (h|h) |h
   ·obtain ⟨h1,h2⟩:=Gs h
    exact ⟨k,0,⟨by omega,by omega⟩,by simp,h1,by rw [h1];exact h2⟩
   ·obtain ⟨h1,h2⟩:=Gs h
    exact ⟨k,1,⟨by omega,by omega⟩,by simp,h1,by rw [h1];exact h2⟩
   ·obtain ⟨h1,h2⟩:=Gs h
    exact ⟨k,2,⟨by omega,by omega⟩,by simp,h1,by rw [h1];exact h2⟩
theorem row_mem {cs:List Cd}{gs:List Ch}{r:Rw}{k:Nat}(h:r∈jV cs gs k):r.2.Nodup∧(∀m∈r.2,0≤m∧m<(gs.length:Int))∧r.2.length≤gs.length∧r.2.length>0:=by
 obtain ⟨c,p,h1,h2,h3,h4⟩:=Gu h
 subst h3
 refine ⟨zD _ Xm,fun m hm=>TV (aoS.1 hm).1,Nat.le_trans aoT IL,h4⟩
def ni (gs:List Ch) (lv:List Int):List Int:=(List.range gs.length).map (fun k:Nat=>xH gs (k:Int) (lv.getD k 0))
def OL (rows:List Rw):List (List Int):=Qy (List.replicate 16 []) 0 rows
def SM (alive:List Int) (rows:List Rw):List Int:=Qx alive (List.replicate rows.length 0) 0 rows
def sD (cs:List Cd) (os:List ByteArray) (ks:List Ko) (gs:List Ch) (bs:List Ba) (al mo od:List Int):Bool:=fV cs os ks gs bs&&(decide (al.length=gs.length)&&(decide (mo.length=gs.length)&&(al.all uD&&(mo.all uD&&mF od gs.length))))
def shV (rows:List Rw) (gs:List Ch) (al mo od:List Int):List Int:=shl (OL rows) rows gs al mo od 81 1 (SM al rows) (List.replicate al.length 0)
def shE (cs:List Cd) (os:List ByteArray) (ks:List Ko) (gs:List Ch) (bs:List Ba) (al mo od:List Int):Int:=if sD cs os ks gs bs al mo od=true then 0 else 1
def xK (cs:List Cd) (os:List ByteArray) (ks:List Ko) (gs:List Ch) (bs:List Ba) (al mo od:List Int):List Int:=if sD cs os ks gs bs al mo od=true then ni gs (shV (jV cs gs cs.length) gs al mo od) else []
theorem jA {cs:List Cd}{os:List ByteArray}{ks:List Ko}{gs:List Ch}{bs:List Ba}{al mo od:List Int}:sD cs os ks gs bs al mo od=true↔fV cs os ks gs bs=true∧al.length=gs.length∧mo.length=gs.length∧al.all uD=true∧mo.all uD=true∧mF od gs.length=true:=by
 simp [sD]
theorem ahk:∀ {l:List Int}{f:Int},Wu f l≤f
 | [],f=>Int.le_refl _
 |n::l,f=>by
  have:Wu f (n::l)=Wu (if n<f then n else f) l:=rfl
  rw [this]
  have:=ahk (l:=l) (f:=if n<f then n else f)
  split at this<;>rename_i h
  ·rw [if_pos h];omega
  ·rw [if_neg h];exact this
theorem anO {c:Cd}:dP c≤c.2.2.1:=by
 unfold dP
 split<;>exact ahk
theorem Dv {rows:List Rw}:(OL rows).length=16:=by rw [OL,Gl,List.length_replicate]
theorem Yp {rows:List Rw}(h:∀r∈rows,ahc r) {k:Nat}(hk:k<16):(OL rows).getD k []=ofF 0 rows k:=by
 rw [OL,YD h (by simpa using hk)]
 have:(List.replicate 16 ([]:List Int)).getD k []=[]:=by
  rw [List.getD_eq_getElem?_getD,List.getElem?_replicate]
  split<;>rfl
 rw [this,List.nil_append]
theorem alV {cs:List Cd}{gs:List Ch}{k:Nat}:∀r∈jV cs gs k,ahc r:=fun _ hr=>⟨(row_mem hr).1,fun m hm=>((row_mem hr).2.1 m hm).1⟩
theorem Du {al:List Int}{rows:List Rw}:(SM al rows).length=rows.length:=by rw [SM,Gj,List.length_replicate]
theorem aiY {al:List Int}{rows:List Rw}{k:Nat}(hk:k<rows.length):(SM al rows).getD k 0=smA al (qW rows k).2:=by
 rw [SM,YC (Int.le_refl _) (by simpa using hk),if_pos (by omega),Int.sub_zero]
 simp [List.getD,hk]
theorem CV {od:List Int}{n i:Int}(h:mF od n=true) (hi:i∈od):0≤i∧i<n:=by
 unfold mF at h
 simp only [Bool.and_eq_true,List.all_eq_true] at h
 exact zy.1 (h.2.1 i hi)
theorem ayG {cs:List Cd}{os:List ByteArray}{ks:List Ko}{gs:List Ch}{bs:List Ba}{al mo od:List Int}(h:sD cs os ks gs bs al mo od=true):OkT (OL (jV cs gs cs.length)) (jV cs gs cs.length) gs al mo od∧OkS (jV cs gs cs.length) od (SM al (jV cs gs cs.length)) (List.replicate al.length 0):=by
 obtain ⟨hv,h1,h2,h3,h4,h5⟩:=jA.1 h
 have hl:=(gX.1 hv).1
 have ha:∀a∈al,0≤a∧a≤80:=fun a ha=>ou.1 (List.all_eq_true.1 h3 a ha)
 refine ⟨⟨Dv,fun i hi=>?_,ha,fun a ha=>ou.1 (List.all_eq_true.1 h4 a ha),fun i hi=>?_,fun o ho=>?_,fun r hr=>?_⟩,⟨Du,fun k=>?_,fun i hi=>?_,fun k=>?_⟩⟩
 ·have:=CV h5 hi
  omega
 ·have hi:=CV h5 hi
  have:=rZ hv hi.1 hi.2
  unfold FU chW at this
  simp only [Bool.and_eq_true,dW] at this
  exact fK.2 (by omega)
 ·obtain ⟨k,hk,rfl⟩:=List.mem_iff_getElem.1 ho
  rw [Dv] at hk
  have e:=Yp (rows:=jV cs gs cs.length) alV hk
  rw [List.getD_eq_getElem?_getD,List.getElem?_eq_getElem (by rw [Dv];exact hk),Option.getD_some] at e
  rw [e]
  have hln:=ZQ (rs:=jV cs gs cs.length) (i:=0) (j:=k)
  have hrn:=zx (cs:=cs) (gs:=gs) (k:=cs.length)
  refine ⟨wY,by omega,fun r hr=>?_⟩
  have:=uf.1 hr
  omega
 ·obtain ⟨c,p,hc,hp,rfl,_⟩:=Gu hr
  have hcv:=Ri hv hc.1 hc.2
  unfold Eb at hcv
  simp only [Bool.and_eq_true,dW] at hcv
  have:=anO (c:=fZ cs c)
  simp only
  omega
 ·by_cases hk:k<(jV cs gs cs.length).length
  ·rw [aiY hk]
   have hr:qW (jV cs gs cs.length) (k:Int)∈jV cs gs cs.length:=by rw [C9 (by simpa using hk)];exact List.getElem_mem _
   obtain ⟨m1,m2,m3,_⟩:=row_mem hr
   have:=aex ha (l:=(qW (jV cs gs cs.length) (k:Int)).2) (fun m hm=>by have:=m2 m hm;omega)
   omega
  ·rw [List.getD_eq_getElem?_getD,List.getElem?_eq_none (by rw [Du];omega)]
   simp
 ·have:=CV h5 hi
  rw [List.length_replicate]
  omega
 ·have:(List.replicate al.length (0:Int)).getD k 0=0:=by
   simp only [List.getD,List.getElem?_replicate]
   split<;>rfl
  rw [this]
  omega
theorem Zr {xs:List Int}{r:Nat}{v:Int}:(xs++List.replicate (r+1) 0).set xs.length v=xs++[v]++List.replicate r 0:=by
 rw [List.set_append_right _ _ (Nat.le_refl _),Nat.sub_self,List.replicate_succ,List.set_cons_zero,List.append_assoc,List.singleton_append]
def Xt (gs:List Ch) (lv:List Int) (n:Nat):List Int:=(List.range n).map (fun k:Nat=>xH gs (k:Int) (lv.getD k 0))
theorem adT {gs:List Ch}{lv:List Int}{n:Nat}:Xt gs lv (n+1)=Xt gs lv n++[xH gs (n:Int) (lv.getD n 0)]:=by
 simp [Xt,List.range_succ]
theorem vY {gs:List Ch}{lv:List Int}{n:Nat}:(Xt gs lv n).length=n:=by simp [Xt]
end Go.Proofs.YtlihnbimgclogaaGreatDoor
namespace Go.Proofs.YtlihnbimgclogaaGreatDoor
open Go.Sx
theorem ntW {b:Bool}(h:(!b)=true):b=false:=by cases b<;>simp_all
theorem RX {b:Bool}(h:(!b)=false):b=true:=by cases b<;>simp_all
def wt (n:Int):Int:=(n*1000000+999799) / 999800
def wtA (n:Int):Int:=if inB n 0 1000000=true then wt n else 0
def wtE (n:Int):Int:=if inB n 0 1000000=true then 0 else 1
theorem aec {m n:Int}:m*999800 / 1000000≥n↔wt n≤m:=by
 unfold wt
 omega
theorem aCu {a b:Int}(a0:0≤a) (a1:a≤3000000) (b0:0≤b) (b1:b≤1000000):0≤a*b∧a*b≤3000000000000:=
 ⟨Int.mul_nonneg a0 b0,Int.le_trans (Int.mul_le_mul_of_nonneg_left b1 a0) (by omega)⟩
theorem apd {n:Int}(h0:0≤n):0≤wt n∧wt n≤2*n+2:=by
 unfold wt
 omega
abbrev oO:Ty:=.pair (.int .i64) (.pair (.int .i64) (.pair (.int .i64) (.pair (.int .i64) (.int .i64))))
abbrev Le:=Int×Int×Int×Int×Int
def kC (l:List Le) (n:Int):Le:=l.getD n.toNat (0,0,0,0,0)
def leV (x:Le):Bool:=inB x.1 1 1000000&&(inB x.2.1 0 15&&(inB x.2.2.1 0 80&&(inB x.2.2.2.1 0 1000000&&inB x.2.2.2.2 1 1000)))
def Tf (b x:Le):Bool:=decide (x.1>b.1)&&decide (x.2.2.2.1≥b.2.2.2.1)
def jK (l:List Le) (j:Int):Bool:=leV (kC l j)&&(decide (j=0) ||Tf (kC l (j-1)) (kC l j))
def pK (l:List Le):Bool:=decide (l.length≤64)&&JK l.length (jK l)
theorem PI {l:List Le}{n:Int}(h:n.toNat<l.length):kC l n=l[n.toNat]:=vP h
theorem Io {l:List Le}{i:Int}(h0:0≤i) (h:i<l.length):l.drop i.toNat=kC l i::l.drop (i+1).toNat∧l.take (i+1).toNat=l.take i.toNat++[kC l i]:=uq h0 h
theorem PG {l:List Le}{i:Int}(h0:0≤i) (h:i<l.length):kC l i∈l:=by
 rw [PI (by omega)]
 exact List.getElem_mem _
theorem Z7 {x:Le}:leV x=true↔(1≤x.1∧x.1≤1000000)∧(0≤x.2.1∧x.2.1≤15)∧(0≤x.2.2.1∧x.2.2.1≤80)∧(0≤x.2.2.2.1∧x.2.2.2.1≤1000000)∧1≤x.2.2.2.2∧x.2.2.2.2≤1000:=by
 unfold leV
 simp only [Bool.and_eq_true,dW]
theorem zK {l:List Le}(h:pK l=true):l.length≤64∧∀x∈l,leV x=true:=by
 unfold pK at h
 rw [Bool.and_eq_true] at h
 refine ⟨of_decide_eq_true h.1,fun x hx=>?_⟩
 obtain ⟨k,hk,rfl⟩:=List.mem_iff_getElem.1 hx
 have:=gm.1 h.2 k (by omega)
 unfold jK at this
 rw [Bool.and_eq_true,PI (by simpa using hk)] at this
 simpa using this.1
def adN (x:Le):Int:=x.2.2.2.1+10+wt x.2.2.2.2
end Go.Proofs.YtlihnbimgclogaaGreatDoor
namespace Go.Proofs.YtlihnbimgclogaaGreatDoor
open Go.Sx
def Ld (ph mn mx st fb:Int):Bool:=inB ph 1 7&&(inB mn 1 80&&(inB mx 1 80&&(inB st 1 80&&(decide (mn≤mx)&&(fb==0 ||inB fb mn mx)))))
theorem FV {ph mn mx st fb:Int}:Ld ph mn mx st fb=true↔1≤ph∧ph≤7∧1≤mn∧mn≤80∧1≤mx∧mx≤80∧1≤st∧st≤80∧mn≤mx∧(fb=0∨(mn≤fb∧fb≤mx)):=by
 simp [Ld,inB];omega
def uU (mn mx st a:Int):Int:=if a<mn then 0 else min a mx-(min a mx-mn) %st
theorem Ac {x s:Int}(hx:0≤x) (hs:1≤s):0≤x%s∧x%s≤x∧x%s<s:=by
 have h1:=Int.mul_ediv_add_emod x s
 have h2:0≤x / s:=Int.ediv_nonneg hx (by omega)
 have h3:0≤s*(x / s):=Int.mul_nonneg (by omega) h2
 have h4:=Int.emod_nonneg x (b:=s) (by omega)
 have h5:=Int.emod_lt_of_pos x (b:=s) (by omega)
 omega
theorem Wq {mn mx st a:Int}(h1:1≤mn) (h2:mn≤mx) (h3:mx≤80) (h4:1≤st):0≤uU mn mx st a∧uU mn mx st a≤80∧(a<mn→uU mn mx st a=0)∧(mn≤a→mn≤uU mn mx st a∧uU mn mx st a≤a∧uU mn mx st a≤mx):=by
 unfold uU
 split
 ·omega
 ·have e1:=Ac (x:=min a mx-mn) (s:=st) (by omega) h4
  omega
def Lh (mn mx st:Int):Prop:=1≤mn∧mn≤mx∧mx≤80∧1≤st∧st≤80
theorem Xf {ph mn mx st fb:Int}(h:Ld ph mn mx st fb=true):Lh mn mx st:=by
 rw [FV] at h;unfold Lh;omega
def Kq (ph mn mx st fb a s:Int):Bool:=Ld ph mn mx st fb&&(decide (0≤s)&&(decide (s≤1000000)&&(decide (0≤a)&&(uU mn mx st a==a))))
def okB (ph mn mx st fb a s want:Int):Bool:=Kq ph mn mx st fb a s&&(decide (0≤want)&&decide (want≤80))
def nE (ph mn mx st fb a s want:Int):Int:=if okB ph mn mx st fb a s want then 0 else 1
def nA (ph mn mx st fb a s want:Int):Int:=
 if okB ph mn mx st fb a s want then (if a=0 then (if uU mn mx st want≠0∧5≤s then mn else 0) else if uU mn mx st want=0 then 0 else min (uU mn mx st want) (a+st)) else 0
def nS (ph mn mx st fb a s want:Int):Int:=
 if okB ph mn mx st fb a s want then (if a=0 then (if uU mn mx st want≠0∧5≤s then 0 else min (s+1) 1000000) else if uU mn mx st want=0 then 0 else min (s+1) 1000000) else 0
theorem Z9 (x y:Int):(if y<x then y else x)=min x y:=by omega
theorem avX {mn mx st am:Int}(h:am<mn):0=uU mn mx st am:=by rw [uU,if_pos h]
theorem avW {mn mx st am:Int}(hc:Lh mn mx st) (h:mn≤am):IntKind.i64.wrap ((if mx<am then mx else am)-(IntKind.i64.wrap ((if mx<am then mx else am)-mn)).tmod st)=uU mn mx st am:=by
 unfold Lh at hc
 rw [Z9]
 have e1:=Ac (x:=min am mx-mn) (s:=st) (by omega) (by omega)
 rw [aN (x:=min am mx-mn) (by omega) (by omega),Int.tmod_eq_emod_of_nonneg (by omega),aN (by omega) (by omega),uU,if_neg (by omega)]
theorem aCr {ph mn mx st fb a s:Int}(h:((!Ld ph mn mx st fb) ||(decide (s<0) ||(decide (s>1000000) ||decide (a<0))))=true):false=Kq ph mn mx st fb a s:=by
 cases hr:Kq ph mn mx st fb a s
 ·rfl
 ·simp [Kq] at hr h
  rw [hr.1] at h
  simp at h
  omega
theorem ayu {ph mn mx st fb a s:Int}(h:((!Ld ph mn mx st fb) ||(decide (s<0) ||(decide (s>1000000) ||decide (a<0))))=false):Lh mn mx st∧(uU mn mx st a==a)=Kq ph mn mx st fb a s:=by
 simp at h
 obtain ⟨h1,h2,h3,h4⟩:=h
 exact ⟨Xf h1,by simp [Kq,h1,h2,h3,h4]⟩
theorem amg {ph mn mx st fb a s want:Int}(h:okB ph mn mx st fb a s want=true):(!Kq ph mn mx st fb a s ||(decide (want<0) ||decide (want>80)))=false∧Lh mn mx st∧(0≤s∧s≤1000000)∧(0≤want∧want≤80)∧0≤a∧a≤80∧1≤st∧st≤80:=by
 simp only [okB,Kq,Bool.and_eq_true,decide_eq_true_eq,beq_iff_eq] at h
 obtain ⟨⟨h1,h2,h3,h4,h5⟩,h6,h7⟩:=h
 have hc:=Xf h1
 have hc':=hc
 unfold Lh at hc'
 have:=Wq (a:=a) hc'.1 hc'.2.1 hc'.2.2.1 hc'.2.2.2.1
 refine ⟨?_,hc,⟨h2,h3⟩,⟨h6,h7⟩,h4,by omega,hc'.2.2.2.1,hc'.2.2.2.2⟩
 simp [Kq,h1,h2,h3,h4,h5];omega
theorem amh {ph mn mx st fb a s want:Int}(h:¬okB ph mn mx st fb a s want=true):(!Kq ph mn mx st fb a s ||(decide (want<0) ||decide (want>80)))=true:=by
 cases hr:Kq ph mn mx st fb a s
 ·rfl
 ·simp [okB,hr] at h⊢;omega
theorem aCq {ph mn mx st fb:Int}(h:(decide (ph<1) ||(decide (ph>7) ||(decide (mn<1) ||(decide (mx>80) ||(decide (mn>mx) ||(decide (st<1) ||decide (st>80)))))))=true):false=Ld ph mn mx st fb:=by
 cases hc:Ld ph mn mx st fb
 ·rfl
 ·rw [FV] at hc;simp at h;omega
theorem aCp {ph mn mx st fb:Int}(h:(decide (ph<1) ||(decide (ph>7) ||(decide (mn<1) ||(decide (mx>80) ||(decide (mn>mx) ||(decide (st<1) ||decide (st>80)))))))=false):(fb==0 ||(decide (fb≥mn)&&decide (fb≤mx)))=Ld ph mn mx st fb:=by
 simp at h
 cases hc:Ld ph mn mx st fb
 ·cases hf:(fb==0 ||(decide (fb≥mn)&&decide (fb≤mx)))
  ·rfl
  ·have:Ld ph mn mx st fb=true:=FV.2 (by simp at hf;omega)
   rw [this] at hc;cases hc
 ·rw [FV] at hc;simp;omega
def Pv (mn mx st am lv x:Int):Prop:=
 Lh mn mx st∧mn≤x∧x≤mx+st∧(x-mn) %st=0∧((lv=0∧(x=mn∨am<mn))∨(mn≤lv∧lv≤am∧lv+st≤x∧(lv-mn) %st=0∧(lv+st=x∨am<lv+st)))
theorem WH {mn mx st am:Int}(h:Lh mn mx st):Pv mn mx st am 0 mn:=by
 unfold Pv
 refine ⟨h,Int.le_refl _,by unfold Lh at h;omega,by simp,.inl ⟨rfl,.inl rfl⟩⟩
theorem adD {mn mx st am lv x:Int}(h:Pv mn mx st am lv x) (hx:x≤mx):Pv mn mx st am (if x≤am then x else lv) (x+st):=by
 unfold Pv at h⊢
 obtain ⟨h1,h2,h3,h4,h5⟩:=h
 have e:(x+st-mn) %st=0:=by rw [show x+st-mn=(x-mn)+st by omega,Int.add_emod_right];exact h4
 have h1':=h1
 unfold Lh at h1'
 refine ⟨h1,by omega,by omega,e,?_⟩
 split
 ·exact .inr ⟨h2,by omega,by omega,h4,.inl rfl⟩
 ·rcases h5 with h5|h5
  ·refine .inl ⟨h5.1,.inr (by omega)⟩
  ·exact .inr ⟨h5.1,h5.2.1,by omega,h5.2.2.2.1,.inr (by omega)⟩
theorem aho {mn mx st am lv x:Int}(h:Pv mn mx st am lv x) (hx:mx<x):lv=uU mn mx st am:=by
 unfold Pv Lh at h
 obtain ⟨h1,h2,h3,h4,h5⟩:=h
 unfold uU
 rcases h5 with ⟨h5,h6⟩ |⟨h5,h6,h7,h8,h9⟩
 ·rw [if_pos (by omega)];exact h5
 ·rw [if_neg (by omega)]
  have e:(min am mx-mn) %st=min am mx-lv:=by
   rw [show min am mx-mn=(min am mx-lv)+(lv-mn) by omega,Int.add_emod,h8,Int.add_zero,Int.emod_emod_of_dvd _ (Int.dvd_refl _)]
   exact Int.emod_eq_of_lt (by omega) (by omega)
  rw [e];omega
end Go.Proofs.YtlihnbimgclogaaGreatDoor
namespace Go.Proofs.YtlihnbimgclogaaGreatDoor
open Go.Sx
def WO:Nat→Int
 |0=>1
 |1=>1
 |2=>1
 |3=>0
 |4=>2
 |5=>2
 |_=>3
def aQ:bZ:=fun
 |0=>some (8,fun j=> .int .i64 (WO j))
 |_=>none
end Go.Proofs.YtlihnbimgclogaaGreatDoor
namespace Go.Proofs.YtlihnbimgclogaaGreatDoor
open Go.Sx
def LD:List LV→T LV
 | [.v (.int .i64 n),.v (.int .i64 a),.v (.int .i64 b)]=> .ok (.v (.bool (inB n a b)))
 |_=> .no
noncomputable def wB:List LV→T LV:=gZ Tryz.prog Tryz.f140.params.toList LD
noncomputable def xY:Specs:=bg []
theorem zQ:∀g S,xY g=some S→Valid Tryz.prog aQ g S:=aU (l:=[]) trivial
theorem adz (n a b:Int):bY Tryz.prog aQ (xY) fC aF Tryz.f140 [.v (.int .i64 n),.v (.int .i64 a),.v (.int .i64 b)]=.ok (.v (.bool ((decide (n≥a))&&(decide (n≤b))))):=by kernel_rfl
theorem Qw:Valid Tryz.prog aQ 140 wB:=aI Tryz.func140 rfl zQ aH (aY (by kernel_rfl)) (fun args lv h=>by
 unfold LD at h
 split at h
 ·simp only [canL,canX]
  rw [adz]
  exact h
 ·cases h)
def ai0:List LV→T LV
 | [.v (.agg ⟨[.string _,.int .i64 _,.int .i64 ph,.int .i64 mn,.int .i64 mx,.int .i64 st,.int .i64 fb,.int .i64 _]⟩)]=> .ok (.v (.bool (Ld ph mn mx st fb)))
 |_=> .no
noncomputable def aiL:List LV→T LV:=gZ Tryz.prog Tryz.f139.params.toList ai0
noncomputable def aqt:Specs:=bg [(140,wB)]
theorem azs:∀g S,aqt g=some S→Valid Tryz.prog aQ g S:=aU (l:=[(140,wB)]) ⟨Qw,trivial⟩
theorem auy (nm:ByteArray) (at_ ph mn mx st fb ow:Int):bY Tryz.prog aQ (aqt) fC aF Tryz.f139 [.v (.agg #[.string nm,.int .i64 at_,.int .i64 ph,.int .i64 mn,.int .i64 mx,.int .i64 st,.int .i64 fb,.int .i64 ow])]=.ok (.v (.bool ((inB ph (1:Int) (7:Int))&&((inB mn (1:Int) (80:Int))&&((inB mx (1:Int) (80:Int))&&((inB st (1:Int) (80:Int))&&((decide (mn≤mx))&&((fb==0) ||(inB fb mn mx))))))))):=by kernel_rfl
theorem axy:Valid Tryz.prog aQ 139 aiL:=aI Tryz.func139 rfl azs aH (aY (by kernel_rfl)) (fun args lv h=>by
 unfold ai0 at h
 split at h
 ·simp only [canL,canX]
  rw [auy]
  exact h
 ·cases h)
def Uj:List LV→T LV
 | []=> .ok (.v (.agg #[.int .i64 0,.int .i64 0,.int .i64 0,.bool false]))
 |_=> .no
noncomputable def BO:List LV→T LV:=gZ Tryz.prog Tryz.f114.params.toList Uj
theorem agY  :bY Tryz.prog aQ (xY) fC aF Tryz.f114 []=.ok (.v (.agg #[.int .i64 0,.int .i64 0,.int .i64 0,.bool false])):=by kernel_rfl
theorem Yy:Valid Tryz.prog aQ 114 BO:=aI Tryz.func114 rfl zQ aH (aY (by kernel_rfl)) (fun args lv h=>by
 unfold Uj at h
 split at h
 ·simp only [canL]
  rw [agY]
  exact h
 ·cases h)
def ajg:List LV→T LV
 | [.v (.agg ⟨[.string _,.int .i64 _,.int .i64 ph,.int .i64 mn,.int .i64 mx,.int .i64 st,.int .i64 fb,.int .i64 _]⟩),.v (.agg ⟨[.int .i64 0,.int .i64 0,.int .i64 0,.bool false]⟩)]=> .ok (.v (.bool (Ld ph mn mx st fb)))
 |_=> .no
noncomputable def aiX:List LV→T LV:=gZ Tryz.prog Tryz.f113.params.toList ajg
noncomputable def aqs:Specs:=bg [(114,BO),(139,aiL),(140,wB)]
theorem azr:∀g S,aqs g=some S→Valid Tryz.prog aQ g S:=aU (l:=[(114,BO),(139,aiL),(140,wB)]) ⟨Yy,axy,Qw,trivial⟩
theorem auO (nm:ByteArray) (at_ ph mn mx st fb ow:Int):bY Tryz.prog aQ (aqs) fC aF Tryz.f113 [.v (.agg #[.string nm,.int .i64 at_,.int .i64 ph,.int .i64 mn,.int .i64 mx,.int .i64 st,.int .i64 fb,.int .i64 ow]),.v (.agg #[.int .i64 0,.int .i64 0,.int .i64 0,.bool false])]=.br (!(Ld ph mn mx st fb)) (.ok (.v (.bool false))) (.br (((0:Int)==0)&&(((0:Int)==0)&&(((0:Int)==0)&&(false==false)))) (.ok (.v (.bool true))) (.ok (.v (.bool ((inB (0:Int) (0:Int) (5:Int))&&((inB (0:Int) (0:Int) (1000000:Int))&&((inB (0:Int) (0:Int) mx)&&(if (0:Int) !=0 then (!false) ||((0:Int)==5) else ((0:Int)==0)&&((!false) ||((0:Int)==5)))))))))):=by kernel_rfl
theorem axK:Valid Tryz.prog aQ 113 aiX:=aI Tryz.func113 rfl azr aH (aY (by kernel_rfl)) (fun args lv h=>by
 unfold ajg at h
 split at h
 ·simp only [canL,canX]
  rw [auO]
  obtain rfl:=h
  refine ⟨fun hb=>?_,fun hb=>⟨fun _=>?_,fun hf=>absurd hf (by decide)⟩⟩
  ·show LV.v (.bool false)=_
   rw [show Ld _ _ _ _ _=false by simpa using hb]
  ·show LV.v (.bool true)=_
   rw [show Ld _ _ _ _ _=true by simpa using hb]
 ·cases h)
def abV:List LV→T LV
 | [.v (.agg ⟨[.string _,.int .i64 _,.int .i64 _,.int .i64 mn,.int .i64 mx,.int .i64 st,.int .i64 _,.int .i64 _]⟩),.v (.int .i64 am)]=> .req (Lh mn mx st) (.ok (.v (.int .i64 (uU mn mx st am))))
 |_=> .no
noncomputable def Ja:List LV→T LV:=gZ Tryz.prog Tryz.f73.params.toList abV
theorem amX (nm:ByteArray) (at_ ph mn mx st fb ow am:Int):bY Tryz.prog aQ (xY) fC aF Tryz.f73 [.v (.agg #[.string nm,.int .i64 at_,.int .i64 ph,.int .i64 mn,.int .i64 mx,.int .i64 st,.int .i64 fb,.int .i64 ow]),.v (.int .i64 am)]=.br (decide (am<mn)) (.ok (.v (.int .i64 0))) (.req (st≠0) (.ok (.v (.int .i64 (IntKind.i64.wrap ((if mx<am then mx else am)-((IntKind.i64.wrap ((if mx<am then mx else am)-mn)).tmod st))))))):=by kernel_rfl
theorem aen:Valid Tryz.prog aQ 73 Ja:=aI Tryz.func73 rfl zQ aH (aY (by kernel_rfl)) (fun args lv h=>by
 unfold abV at h
 split at h
 ·simp only [canL,canX]
  rw [amX]
  obtain ⟨hc,rfl⟩:=h
  refine ⟨fun hb=>?_,fun hb=>⟨by unfold Lh at hc;omega,?_⟩⟩
  ·exact congrArg (fun z=>LV.v (.int .i64 z)) (avX (by simpa using hb))
  ·exact congrArg (fun z=>LV.v (.int .i64 z)) (avW hc (by simpa using hb))
 ·cases h)
def ai4:List LV→T LV
 | [.v (.agg ⟨[.string _,.int .i64 _,.int .i64 ph,.int .i64 mn,.int .i64 mx,.int .i64 st,.int .i64 fb,.int .i64 _]⟩),.v (.agg ⟨[.int .i64 a,.int .i64 si]⟩)]=> .ok (.v (.bool (Kq ph mn mx st fb a si)))
 |_=> .no
noncomputable def Uf:List LV→T LV:=gZ Tryz.prog Tryz.f69.params.toList ai4
noncomputable def aqr:Specs:=bg [(73,Ja),(113,aiX),(114,BO)]
theorem azq:∀g S,aqr g=some S→Valid Tryz.prog aQ g S:=aU (l:=[(73,Ja),(113,aiX),(114,BO)]) ⟨aen,axK,Yy,trivial⟩
theorem auC (nm:ByteArray) (at_ ph mn mx st fb ow a si:Int):bY Tryz.prog aQ (aqr) fC aF Tryz.f69 [.v (.agg #[.string nm,.int .i64 at_,.int .i64 ph,.int .i64 mn,.int .i64 mx,.int .i64 st,.int .i64 fb,.int .i64 ow]),.v (.agg #[.int .i64 a,.int .i64 si])]=.br ((!(Ld ph mn mx st fb)) ||((decide (si<0)) ||((decide (si>1000000)) ||(decide (a<0))))) (.ok (.v (.bool false))) (.req (Lh mn mx st) (.ok (.v (.bool ((uU mn mx st a)==a))))):=by kernel_rfl
theorem apf:Valid Tryz.prog aQ 69 Uf:=aI Tryz.func69 rfl azq aH (aY (by kernel_rfl)) (fun args lv h=>by
 unfold ai4 at h
 split at h
 ·simp only [canL,canX]
  rw [auC]
  obtain rfl:=h
  refine ⟨fun hb=>?_,fun hb=>⟨?_,?_⟩⟩
  ·exact congrArg (fun z=>LV.v (.bool z)) (aCr hb)
  ·exact (ayu hb).1
  ·exact congrArg (fun z=>LV.v (.bool z)) (ayu hb).2
 ·cases h)
def Us:List LV→T LV
 | [.v (.bool b)]=> .ok (.v (.int .i64 (if b then (1:Int) else 0)))
 |_=> .no
noncomputable def Qd:List LV→T LV:=gZ Tryz.prog Tryz.f78.params.toList Us
theorem ag5 (b:Bool):bY Tryz.prog aQ (xY) fC aF Tryz.f78 [.v (.bool b)]=.br b (.ok (.v (.int .i64 1))) (.ok (.v (.int .i64 0))):=by kernel_rfl
theorem akx:Valid Tryz.prog aQ 78 Qd:=aI Tryz.func78 rfl zQ aH (aY (by kernel_rfl)) (fun args lv h=>by
 unfold Us at h
 split at h
 ·simp only [canL,canX]
  rw [ag5]
  rename_i b
  obtain rfl:=h
  cases b
  ·exact ⟨fun hb=>(by cases hb),fun _=>rfl⟩
  ·exact ⟨fun _=>rfl,fun hb=>(by cases hb)⟩
 ·cases h)
def ai9:List LV→T LV
 | [.xq 8 q0]=>(match ([q0 0,q0 1,q0 2,q0 3,q0 4,q0 5,q0 6,q0 7]:List LV) with
  | [.v (.string _),.v (.int .i64 _),.v (.int .i64 _),.v (.int .i64 mn),.v (.int .i64 _),.v (.int .i64 _),.v (.int .i64 _),.v (.int .i64 _)]=> .ok (.v (.agg #[.int .i64 mn,.int .i64 0]))
  |_=> .no)
 |_=> .no
noncomputable def aiT:List LV→T LV:=gZ Tryz.prog Tryz.f74.params.toList ai9
theorem auH (nm:ByteArray) (at_ ph mn mx st fb ow:Int):bY Tryz.prog aQ (xY) fC aF Tryz.f74 [.xq 8 (fun j=>([.v (.string nm),.v (.int .i64 at_),.v (.int .i64 ph),.v (.int .i64 mn),.v (.int .i64 mx),.v (.int .i64 st),.v (.int .i64 fb),.v (.int .i64 ow)]:List LV).getD j .junk)]=.ok (.v (.agg #[.int .i64 mn,.int .i64 0])):=by kernel_rfl
theorem axG:Valid Tryz.prog aQ 74 aiT:=aI Tryz.func74 rfl zQ aH (aY (by kernel_rfl)) (fun args lv h=>by
 unfold ai9 at h
 split at h
 ·split at h
  case h_2=>cases h
  rename_i heq0
  simp only [canL,canX]
  rw [oU (n:=8) heq0]
  simp only [canL,canX]
  rw [auH]
  exact h
 ·cases h)
def ai8:List LV→T LV
 | [.xq 1 q0]=>(match ([q0 0]:List LV) with
  | [.v (.int .i64 lo)]=> .ok (.v (.agg #[.int .i64 0,.int .i64 lo]))
  |_=> .no)
 |_=> .no
noncomputable def aiS:List LV→T LV:=gZ Tryz.prog Tryz.f75.params.toList ai8
theorem auG (lo:Int):bY Tryz.prog aQ (xY) fC aF Tryz.f75 [.xq 1 (fun j=>([.v (.int .i64 lo)]:List LV).getD j .junk)]=.ok (.v (.agg #[.int .i64 0,.int .i64 lo])):=by kernel_rfl
theorem axF:Valid Tryz.prog aQ 75 aiS:=aI Tryz.func75 rfl zQ aH (aY (by kernel_rfl)) (fun args lv h=>by
 unfold ai8 at h
 split at h
 ·split at h
  case h_2=>cases h
  rename_i heq0
  simp only [canL,canX]
  rw [oU (n:=1) heq0]
  simp only [canL,canX]
  rw [auG]
  exact h
 ·cases h)
def ai7:List LV→T LV
 | []=> .ok (.v (.agg #[.int .i64 0,.int .i64 0]))
 |_=> .no
noncomputable def aiR:List LV→T LV:=gZ Tryz.prog Tryz.f76.params.toList ai7
theorem auF  :bY Tryz.prog aQ (xY) fC aF Tryz.f76 []=.ok (.v (.agg #[.int .i64 0,.int .i64 0])):=by kernel_rfl
theorem axE:Valid Tryz.prog aQ 76 aiR:=aI Tryz.func76 rfl zQ aH (aY (by kernel_rfl)) (fun args lv h=>by
 unfold ai7 at h
 split at h
 ·simp only [canL]
  rw [auF]
  exact h
 ·cases h)
def ai6:List LV→T LV
 | [.xq 1 q0,.xq 2 q1,.xq 8 q2,.xq 1 q3]=>(match ([q0 0]:List LV) with
  | [.v (.int .i64 lv)]=>(match ([q1 0,q1 1]:List LV) with
  | [.v (.int .i64 a),.v (.int .i64 _)]=>(match ([q2 0,q2 1,q2 2,q2 3,q2 4,q2 5,q2 6,q2 7]:List LV) with
  | [.v (.string _),.v (.int .i64 _),.v (.int .i64 _),.v (.int .i64 _),.v (.int .i64 _),.v (.int .i64 st),.v (.int .i64 _),.v (.int .i64 _)]=>(match ([q3 0]:List LV) with
  | [.v (.int .i64 lo)]=> .ok (.v (.agg #[.int .i64 (if IntKind.i64.wrap (a+st)<lv then IntKind.i64.wrap (a+st) else lv),.int .i64 lo]))
  |_=> .no)
  |_=> .no)
  |_=> .no)
  |_=> .no)
 |_=> .no
noncomputable def aiQ:List LV→T LV:=gZ Tryz.prog Tryz.f77.params.toList ai6
theorem auE (lv a si:Int) (nm:ByteArray) (at_ ph mn mx st fb ow lo:Int):bY Tryz.prog aQ (xY) fC aF Tryz.f77 [.xq 1 (fun j=>([.v (.int .i64 lv)]:List LV).getD j .junk),.xq 2 (fun j=>([.v (.int .i64 a),.v (.int .i64 si)]:List LV).getD j .junk),.xq 8 (fun j=>([.v (.string nm),.v (.int .i64 at_),.v (.int .i64 ph),.v (.int .i64 mn),.v (.int .i64 mx),.v (.int .i64 st),.v (.int .i64 fb),.v (.int .i64 ow)]:List LV).getD j .junk),.xq 1 (fun j=>([.v (.int .i64 lo)]:List LV).getD j .junk)]=.ok (.v (.agg #[.int .i64 (if (IntKind.i64.wrap (a+st))<lv then IntKind.i64.wrap (a+st) else lv),.int .i64 lo])):=by kernel_rfl
theorem axD:Valid Tryz.prog aQ 77 aiQ:=aI Tryz.func77 rfl zQ aH (aY (by kernel_rfl)) (fun args lv h=>by
 unfold ai6 at h
 split at h
 ·split at h
  case h_2=>cases h
  rename_i heq0
  split at h
  case h_2=>cases h
  rename_i heq1
  split at h
  case h_2=>cases h
  rename_i heq2
  split at h
  case h_2=>cases h
  rename_i heq3
  simp only [canL,canX]
  rw [oU (n:=1) heq0]
  simp only [canL,canX]
  rw [oU (n:=2) heq1]
  simp only [canL,canX]
  rw [oU (n:=8) heq2]
  simp only [canL,canX]
  rw [oU (n:=1) heq3]
  simp only [canL,canX]
  rw [auE]
  exact h
 ·cases h)
theorem avb {a l si:Int}:WO ((if (a !=0) then (1:Int) else 0).toNat*4+((if (l !=0) then (1:Int) else 0).toNat*2+((if (decide (si≥5)) then (1:Int) else 0).toNat*1+0)))=if a=0 then (if l=0 then 1 else if 5≤si then 0 else 1) else if l=0 then 2 else 3:=by
 by_cases c1:a=0<;>by_cases c2:l=0<;>by_cases c3:5≤si<;>simp [c1,c2,c3,WO]
def ab7:List LV→T LV
 | [.v (.agg ⟨[.string _,.int .i64 _,.int .i64 ph,.int .i64 mn,.int .i64 mx,.int .i64 st,.int .i64 fb,.int .i64 _]⟩),.v (.agg ⟨[.int .i64 a,.int .i64 si]⟩),.v (.int .i64 want)]=> .ok (.v (.tuple #[.agg #[.int .i64 (nA ph mn mx st fb a si want),.int .i64 (nS ph mn mx st fb a si want)],.int .i64 (nE ph mn mx st fb a si want)]))
 |_=> .no
noncomputable def XY:List LV→T LV:=gZ Tryz.prog Tryz.f37.params.toList ab7
noncomputable def aqp:Specs:=bg [(69,Uf),(73,Ja),(74,aiT),(75,aiS),(76,aiR),(77,aiQ),(78,Qd)]
theorem azp:∀g S,aqp g=some S→Valid Tryz.prog aQ g S:=aU (l:=[(69,Uf),(73,Ja),(74,aiT),(75,aiS),(76,aiR),(77,aiQ),(78,Qd)]) ⟨apf,aen,axG,axF,axE,axD,akx,trivial⟩
theorem am9 (nm:ByteArray) (at_ ph mn mx st fb ow a si want:Int):bY Tryz.prog aQ (aqp) fC aF Tryz.f37 [.v (.agg #[.string nm,.int .i64 at_,.int .i64 ph,.int .i64 mn,.int .i64 mx,.int .i64 st,.int .i64 fb,.int .i64 ow]),.v (.agg #[.int .i64 a,.int .i64 si]),.v (.int .i64 want)]=.br ((!(Kq ph mn mx st fb a si)) ||((decide (want<0)) ||(decide (want>80)))) (.ok (.v (.tuple #[.agg #[.int .i64 0,.int .i64 0],.int .i64 1]))) (.req (Lh mn mx st) (.req (0≤(if (a !=0) then (1:Int) else 0)∧(if (a !=0) then (1:Int) else 0)<(2:Int)) (.req (0≤(if ((uU mn mx st want) !=0) then (1:Int) else 0)∧(if ((uU mn mx st want) !=0) then (1:Int) else 0)<(2:Int)) (.req (0≤(if (decide (si≥5)) then (1:Int) else 0)∧(if (decide (si≥5)) then (1:Int) else 0)<(2:Int)) (.br ((WO ((if (a !=0) then (1:Int) else 0).toNat*4+((if ((uU mn mx st want) !=0) then (1:Int) else 0).toNat*2+((if (decide (si≥5)) then (1:Int) else 0).toNat*1+0))))==0) (.ok (.v (.tuple #[.agg #[.int .i64 mn,.int .i64 0],.int .i64 0]))) (.br ((WO ((if (a !=0) then (1:Int) else 0).toNat*4+((if ((uU mn mx st want) !=0) then (1:Int) else 0).toNat*2+((if (decide (si≥5)) then (1:Int) else 0).toNat*1+0))))==1) (.ok (.v (.tuple #[.agg #[.int .i64 0,.int .i64 (if (1000000:Int)<(IntKind.i64.wrap (si+1)) then 1000000 else IntKind.i64.wrap (si+1))],.int .i64 0]))) (.br ((WO ((if (a !=0) then (1:Int) else 0).toNat*4+((if ((uU mn mx st want) !=0) then (1:Int) else 0).toNat*2+((if (decide (si≥5)) then (1:Int) else 0).toNat*1+0))))==2) (.ok (.v (.tuple #[.agg #[.int .i64 0,.int .i64 0],.int .i64 0]))) (.br ((WO ((if (a !=0) then (1:Int) else 0).toNat*4+((if ((uU mn mx st want) !=0) then (1:Int) else 0).toNat*2+((if (decide (si≥5)) then (1:Int) else 0).toNat*1+0))))==3) (.ok (.v (.tuple #[.agg #[.int .i64 (if IntKind.i64.wrap (a+st)<(uU mn mx st want) then IntKind.i64.wrap (a+st) else (uU mn mx st want)),.int .i64 (if (1000000:Int)<(IntKind.i64.wrap (si+1)) then 1000000 else IntKind.i64.wrap (si+1))],.int .i64 0]))) (.no))))))))):=by kernel_rfl
theorem arX:Valid Tryz.prog aQ 37 XY:=aI Tryz.func37 rfl azp aH (aY (by kernel_rfl)) (fun args lv h=>by
 unfold ab7 at h
 split at h
 ·simp only [canL,canX]
  rw [am9]
  rename_i nm at_ ph mn mx st fb ow a si want
  obtain rfl:=h
  by_cases hk:okB ph mn mx st fb a si want=true
  ·obtain ⟨k1,k2,k3,k4,k5⟩:=amg hk
   have w1:IntKind.i64.wrap (si+1)=si+1:=aN (by omega) (by omega)
   have w2:IntKind.i64.wrap (a+st)=a+st:=aN (by omega) (by omega)
   have i0:∀b:Bool,0≤(if b=true then (1:Int) else 0)∧(if b=true then (1:Int) else 0)<2:=fun b=>by cases b<;>simp
   simp only [T.all,nA,nS,nE,k1,w1,w2,hk,Z9,if_true,avb,i0,true_and]
   by_cases c1:a=0<;>by_cases c2:uU mn mx st want=0<;>by_cases c3:5≤si<;>simp [c1,c2,c3,k2]
  ·have hn:(!Kq ph mn mx st fb a si ||(decide (want<0) ||decide (want>80)))=true:=amh hk
   simp only [T.all,nA,nS,nE,hk,hn]
   simp
 ·cases h)
def ai3:List LV→T LV
 | [.v (.agg ⟨[.string _,.int .i64 _,.int .i64 ph,.int .i64 mn,.int .i64 mx,.int .i64 st,.int .i64 fb,.int .i64 _]⟩)]=> .ok (.v (.bool (Ld ph mn mx st fb)))
 |_=> .no
noncomputable def aiO:List LV→T LV:=gZ Tryz.prog Tryz.f91.params.toList ai3
theorem auB (nm:ByteArray) (at_ ph mn mx st fb ow:Int):bY Tryz.prog aQ (xY) fC aF Tryz.f91 [.v (.agg #[.string nm,.int .i64 at_,.int .i64 ph,.int .i64 mn,.int .i64 mx,.int .i64 st,.int .i64 fb,.int .i64 ow])]=.br ((decide (ph<1)) ||((decide (ph>7)) ||((decide (mn<1)) ||((decide (mx>80)) ||((decide (mn>mx)) ||((decide (st<1)) ||(decide (st>80)))))))) (.ok (.v (.bool false))) (.ok (.v (.bool ((fb==0) ||((decide (fb≥mn))&&(decide (fb≤mx))))))):=by kernel_rfl
theorem axB:Valid Tryz.prog aQ 91 aiO:=aI Tryz.func91 rfl zQ aH (aY (by kernel_rfl)) (fun args lv h=>by
 unfold ai3 at h
 split at h
 ·simp only [canL,canX]
  rw [auB]
  obtain rfl:=h
  refine ⟨fun hb=>?_,fun hb=>?_⟩
  ·exact congrArg (fun z=>LV.v (.bool z)) (aCq hb)
  ·exact congrArg (fun z=>LV.v (.bool z)) (aCp hb)
 ·cases h)
end Go.Proofs.YtlihnbimgclogaaGreatDoor
namespace Go.Proofs.YtlihnbimgclogaaGreatDoor
open Go.Sx
def ai5:List LV→T LV
 | [.v (.agg ⟨[.int .i64 nu,.int .i64 co,.int .i64 am,.int .i64 fr,.int .i64 tk]⟩)]=> .ok (.v (.bool (leV (nu,co,am,fr,tk))))
 |_=> .no
noncomputable def aiP:List LV→T LV:=gZ Tryz.prog Tryz.f90.params.toList ai5
noncomputable def PE:Specs:=bg []
theorem WT:∀g S,PE g=some S→Valid Tryz.prog aQ g S:=aU (l:=[]) trivial
theorem auD (nu co am fr tk:Int):bY Tryz.prog aQ (PE) fC aF Tryz.f90 [.v (.agg #[.int .i64 nu,.int .i64 co,.int .i64 am,.int .i64 fr,.int .i64 tk])]=.ok (.v (.bool ((decide (nu≥1))&&((decide (nu≤1000000))&&((decide (co≥0))&&((decide (co<16))&&((decide (am≥0))&&((decide (am≤80))&&((decide (fr≥0))&&((decide (fr≤1000000))&&((decide (tk≥1))&&(decide (tk≤1000))))))))))))):=by kernel_rfl
theorem axC:Valid Tryz.prog aQ 90 aiP:=aI Tryz.func90 rfl WT aH (aY (by kernel_rfl)) (fun args lv h=>by
 unfold ai5 at h
 split at h
 ·simp only [canL,canX]
  rw [auD]
  obtain rfl:=h
  refine congrArg (fun z=>LV.v (.bool z)) ?_
  unfold leV
  rw [Bool.eq_iff_iff]
  simp only [Bool.and_eq_true,decide_eq_true_eq,dW]
  omega
 ·cases h)
structure o7 where
 l:List Le
 r:Bool
 i:Int
def aBB (s:o7):List LV:=[.xl oO s.l,.v (.bool s.r),.v (.int .i64 s.i)]
def aAE (_:o7):List aT:=[]
noncomputable def AV:Code:=((aG (Tryz.f50.body.getD .skip))[0]?).getD .skip
def YW (s:o7):T (Rd o7):=
 .br (decide (s.i<(List.length s.l:Int))) (.req (0≤s.i∧s.i<(List.length s.l:Int)) (.br (!(leV (kC s.l s.i))) (.ok (.stop (.ret) {s with r:=false})) (.br (decide (s.i>0)) (.req (0≤s.i∧s.i<(List.length s.l:Int)) (.req (0≤(IntKind.i64.wrap (s.i-1))∧(IntKind.i64.wrap (s.i-1))<(List.length s.l:Int)) (.br (decide ((kC s.l s.i).1≤(kC s.l (IntKind.i64.wrap (s.i-1))).1)) (.ok (.stop (.ret) {s with r:=false})) (.req (0≤s.i∧s.i<(List.length s.l:Int)) (.req (0≤(IntKind.i64.wrap (s.i-1))∧(IntKind.i64.wrap (s.i-1))<(List.length s.l:Int)) (.br (decide ((kC s.l s.i).2.2.2.1<(kC s.l (IntKind.i64.wrap (s.i-1))).2.2.2.1)) (.ok (.stop (.ret) {s with r:=false})) (.ok (.next {s with i:=(IntKind.i64.wrap (s.i+1))})))))))) (.ok (.next {s with i:=(IntKind.i64.wrap (s.i+1))}))))) (.ok (.stop (.exit 0) s))
abbrev aqN (s:o7):=(YW s).rd s
def acR (s:o7):Prop:=s.i=0∧(List.length s.l:Int)≤1000
def L9 (s:o7):Prop:=(0≤s.i∧s.i≤(List.length s.l:Int))∧(List.length s.l:Int)≤1000∧∀j:Nat,(j:Int)<s.i→jK s.l j=true
def G7 (s:o7):Nat:=((List.length s.l:Int)-s.i).toNat
def ajr (x:Ex) (_ s':o7):Prop:=(x=.exit 0∧∀j:Nat,(j:Int)<(List.length s'.l:Int)→jK s'.l j=true)∨(x=.ret∧s'.r=false∧∃j:Nat,(j:Int)<(List.length s'.l:Int)∧jK s'.l j=false)
theorem ayz:∀s,acR s→L9 s:=by
 intro s h
 obtain ⟨h0,h3⟩:=h
 exact ⟨by omega,h3,fun j hj=>by omega⟩
theorem aub (s:o7) (hI:L9 s):bQ (fun s'=>L9 s'∧G7 s'<G7 s) (fun x s'=>ajr x s s') (aqN s):=by
 unfold aqN YW
 dsimp only [T.rd,T.rl]
 obtain ⟨⟨h0,h1⟩,h3,hA⟩:=hI
 refine ax (fun c1=>?_) (fun c1=>?_)
 ·refine ax (fun c2=>?_) (fun c2=>?_)
  ·have c1:s.i<(List.length s.l:Int):=by simpa using c1
   refine .inr ⟨rfl,rfl,s.i.toNat,by simp only;omega,?_⟩
   rw [Int.toNat_of_nonneg h0]
   show jK s.l s.i=false
   unfold jK Tf
   rw [ntW c2]
   rfl
  ·refine ax (fun c3=>?_) (fun c3=>?_)
   ·refine ax (fun c4=>?_) (fun c4=>?_)
    ·have c1:s.i<(List.length s.l:Int):=by simpa using c1
     have c3:0<s.i:=by simpa using c3
     rw [aN (x:=s.i-1) (by omega) (by omega)] at c4
     refine .inr ⟨rfl,rfl,s.i.toNat,by simp only;omega,?_⟩
     rw [Int.toNat_of_nonneg h0]
     show jK s.l s.i=false
     unfold jK Tf
     rw [RX c2,decide_eq_false (p:=s.i=0) (by omega)]
     simp only [decide_eq_true_eq] at c4
     rw [decide_eq_false (p:=(kC s.l s.i).1>(kC s.l (s.i-1)).1) (by omega)]
     simp
    ·refine ax (fun c5=>?_) (fun c5=>?_)
     ·have c1:s.i<(List.length s.l:Int):=by simpa using c1
      have c3:0<s.i:=by simpa using c3
      rw [aN (x:=s.i-1) (by omega) (by omega)] at c4
      rw [aN (x:=s.i-1) (by omega) (by omega)] at c5
      refine .inr ⟨rfl,rfl,s.i.toNat,by simp only;omega,?_⟩
      rw [Int.toNat_of_nonneg h0]
      show jK s.l s.i=false
      unfold jK Tf
      rw [RX c2,decide_eq_false (p:=s.i=0) (by omega)]
      simp only [decide_eq_true_eq] at c5
      rw [decide_eq_false (p:=(kC s.l s.i).2.2.2.1≥(kC s.l (s.i-1)).2.2.2.1) (by omega)]
      simp
     ·have c1:s.i<(List.length s.l:Int):=by simpa using c1
      have c3:0<s.i:=by simpa using c3
      rw [aN (x:=s.i-1) (by omega) (by omega)] at c4
      rw [aN (x:=s.i-1) (by omega) (by omega)] at c5
      have hg:jK s.l s.i=true:=by
        unfold jK Tf
        simp only [decide_eq_false_iff_not] at c4 c5
        rw [RX c2,decide_eq_true (p:=(kC s.l s.i).1>(kC s.l (s.i-1)).1) (by omega),decide_eq_true (p:=(kC s.l s.i).2.2.2.1≥(kC s.l (s.i-1)).2.2.2.1) (by omega)]
        simp
      rw [aN (x:=s.i+1) (by omega) (by omega)]
      exact ⟨⟨⟨by simp only;omega,by simp only;omega⟩,h3,fun j hj=>by
       by_cases e:(j:Int)<s.i
       ·exact hA j e
       ·have e:(j:Int)=s.i:=by simp only at hj;omega
        show jK s.l j=true
        rw [e];exact hg⟩,by simp only [G7];omega⟩
   ·have c1:s.i<(List.length s.l:Int):=by simpa using c1
    have hg:jK s.l s.i=true:=by
      unfold jK
      rw [RX c2,decide_eq_true (p:=s.i=0) (by simp at c3;omega)]
      rfl
    rw [aN (x:=s.i+1) (by omega) (by omega)]
    exact ⟨⟨⟨by simp only;omega,by simp only;omega⟩,h3,fun j hj=>by
     by_cases e:(j:Int)<s.i
     ·exact hA j e
     ·have e:(j:Int)=s.i:=by simp only at hj;omega
      show jK s.l j=true
      rw [e];exact hg⟩,by simp only [G7];omega⟩
 ·have c1:(List.length s.l:Int)≤s.i:=by simpa using c1
  exact .inl ⟨rfl,fun j hj=>hA j (by omega)⟩
def ED:bT o7:=⟨0,51,[0,2,3],[],aBB,aAE,fun v _=>⟨aS oO (v.getD 0 .junk),x9 (v.getD 1 .junk),gI (v.getD 2 .junk)⟩,YW,fun s r=> {r with l:=s.l},fun s=>s,fun _ s=>s,[.ret,.exit 0],acR,L9,G7⟩
abbrev Zx:=ED.run
abbrev abb:=ED.kG
abbrev awE:=ED.q
theorem atf (s:o7) (hI:L9 s):(YW s).all (fun _=>True):=by
 refine ⟨fun c1=>⟨?_,fun _=>trivial,fun c2=>⟨fun c3=>⟨?_,?_,fun _=>trivial,fun c4=>⟨?_,?_,fun _=>trivial,fun _=>trivial⟩⟩,fun _=>trivial⟩⟩,fun _=>trivial⟩
 all_goals ((obtain ⟨⟨h0,h1⟩,h3,hA⟩:=hI;simp only [decide_eq_true_eq] at c1;first|omega|(simp only [decide_eq_true_eq,gt_iff_lt] at c3;rw [aN (x:=s.i-1) (by omega) (by omega)];omega)))
noncomputable def WY:Specs:=bg [(90,aiP)]
theorem ahX:∀g S,WY g=some S→Valid Tryz.prog aQ g S:=aU (l:=[(90,aiP)]) ⟨axC,trivial⟩
theorem agm:ED.Ok:=⟨fun s=>by kernel_rfl,fun s=>by kernel_rfl,fun s=>rfl,fun s t r=>rfl,fun s=>rfl,fun s=>by kernel_rfl⟩
theorem afj:ED.Pf (ajr):=⟨ayz,fun _ _=>rfl,aub,atf⟩
theorem ak6:bC Tryz.prog aQ (AN 0) (.loop AV) ED.lp:=bT.snd agm afj (aV (Γ:=WY) (K:=fC) (L:=aF) ahX aH AV (fun b hb=>by rw [show aG AV=[] by kernel_rfl] at hb;cases hb)) (fun s=>by kernel_rfl)
theorem al5 (s:o7) (hE:acR s):∃s',L9 s'∧ajr (abb s) s' (Zx s):=bT.fin agm afj s hE
def abW:List LV→T LV
 | [.xl (.pair (.int .i64) (.pair (.int .i64) (.pair (.int .i64) (.pair (.int .i64) (.int .i64))))) l]=> .req ((List.length l:Int)≤1000) (.ok (.v (.bool (pK l))))
 |_=> .no
noncomputable def XM:List LV→T LV:=gZ Tryz.prog Tryz.f50.params.toList abW
theorem amY (l:List Le):bY Tryz.prog aQ (WY) fC (fun i=>if i=2 then ED.lp else aF i) Tryz.f50 [.xl oO l]=.req (awE (⟨l,false,(0:Int)⟩:o7)) (.br (iQ (abb (⟨l,false,(0:Int)⟩:o7)) (.ret)) (.ok (.v (.bool (Zx (⟨l,false,(0:Int)⟩:o7)).r))) (.ok (.v (.bool (decide ((List.length l:Int)≤64)))))):=by kernel_rfl
theorem arO:Valid Tryz.prog aQ 50 XM:=aI Tryz.func50 rfl ahX aH (L:=(fun i=>if i=2 then ED.lp else aF i)) (fun b hb=>by
 rw [show aG _=[AV] by kernel_rfl] at hb
 simp only [List.mem_cons,List.not_mem_nil,or_false] at hb
 subst hb
 exact ak6) (fun args lv h=>by
 unfold abW at h
 split at h
 ·simp only [canL,canX]
  rw [amY]
  rename_i l
  obtain ⟨hn,rfl⟩:=h
  have hE:acR ⟨l,false,0⟩:=⟨rfl,hn⟩
  refine ⟨⟨hE,rfl,rfl⟩,?_⟩
  obtain ⟨_,_,hq⟩:=al5 _ hE
  unfold pK
  rcases hq with ⟨q1,q2⟩ |⟨q1,q2,j,q3,q4⟩<;>rw [q1]
  ·have e:JK l.length (jK l)=true:=gm.2 q2
   rw [e,Bool.and_true]
   refine ⟨fun h=>(by cases h),fun _=>congrArg (fun z=>LV.v (.bool z)) ?_⟩
   by_cases h:l.length≤64
   ·rw [decide_eq_true h,decide_eq_true (by omega)]
   ·rw [decide_eq_false h,decide_eq_false (by omega)]
  ·have e:JK l.length (jK l)=false:=tZ j q3 q4
   rw [q2,e,Bool.and_false]
   exact ⟨fun _=>rfl,fun h=>by cases h⟩
 ·cases h)
structure qy where
 Xu:Int
 level:Int
 x:Int
 qm:ByteArray
 Xl:Int
 ql:Int
 mn:Int
 mx:Int
 st:Int
 lq:Int
 mJ:Int
def aBC (s:qy):List LV:=[.v (.int .i64 s.Xu),.own 0 0,.v (.int .i64 s.level),.v (.int .i64 s.x)]
def aAF (s:qy):List aT:=[⟨[.v (.string s.qm),.v (.int .i64 s.Xl),.v (.int .i64 s.ql),.v (.int .i64 s.mn),.v (.int .i64 s.mx),.v (.int .i64 s.st),.v (.int .i64 s.lq),.v (.int .i64 s.mJ)],58,.cl,false⟩]
noncomputable def AX:Code:=((aG (Tryz.f83.body.getD .skip))[0]?).getD .skip
def YX (s:qy):T (Rd qy):=
 .br (decide (s.x≤s.mx)) (.br (decide (s.x≤s.Xu)) (.ok (.next {s with level:=s.x,x:=(IntKind.i64.wrap (s.x+s.st))})) (.ok (.next {s with x:=(IntKind.i64.wrap (s.x+s.st))}))) (.ok (.stop (.exit 0) s))
abbrev aqO (s:qy):=(YX s).rd s
def akd (s:qy):Prop:=s.level=0∧s.x=s.mn∧Lh s.mn s.mx s.st
def Jf (s:qy):Prop:=Pv s.mn s.mx s.st s.Xu s.level s.x
def G8 (s:qy):Nat:=(s.mx+1-s.x).toNat
def ajs (x:Ex) (_ s':qy):Prop:=x=.exit 0∧s'.level=uU s'.mn s'.mx s'.st s'.Xu
theorem ayA:∀s,akd s→Jf s:=by
 intro s h
 obtain ⟨h0,h1,h2⟩:=h
 unfold Jf
 rw [h0,h1]
 exact WH h2
theorem auc (s:qy) (hI:Jf s):bQ (fun s'=>Jf s'∧G8 s'<G8 s) (fun x s'=>ajs x s s') (aqO s):=by
 unfold aqO YX
 dsimp only [T.rd,T.rl]
 have hI':Pv s.mn s.mx s.st s.Xu s.level s.x:=hI
 have hc:=hI'.1
 unfold Lh at hc
 refine ax (fun c1=>?_) (fun c1=>⟨rfl,aho hI' (by simpa using c1)⟩)
 have c1:s.x≤s.mx:=by simpa using c1
 have hs:=adD hI' c1
 have hx:=hI'.2.1
 rw [aN (x:=s.x+s.st) (by omega) (by omega)]
 refine ax (fun c2=>?_) (fun c2=>?_)
 ·rw [if_pos (by simpa using c2)] at hs
  exact ⟨hs,by simp only [G8];omega⟩
 ·rw [if_neg (by simpa using c2)] at hs
  exact ⟨hs,by simp only [G8];omega⟩
def EF:bT qy:=⟨0,22,[1,2,5,6],[],aBC,aAF,fun v b=>⟨gI (v.getD 0 .junk),gI (v.getD 2 .junk),gI (v.getD 3 .junk),gSr (aZ (aP b 0) 0),gI (aZ (aP b 0) 1),gI (aZ (aP b 0) 2),gI (aZ (aP b 0) 3),gI (aZ (aP b 0) 4),gI (aZ (aP b 0) 5),gI (aZ (aP b 0) 6),gI (aZ (aP b 0) 7)⟩,YX,fun s r=> {r with Xu:=s.Xu,qm:=s.qm,Xl:=s.Xl,ql:=s.ql,mn:=s.mn,mx:=s.mx,st:=s.st,lq:=s.lq,mJ:=s.mJ},fun s=>s,fun _ s=>s,[.exit 0],akd,Jf,G8⟩
abbrev Zy:=EF.run
abbrev aoh:=EF.kG
abbrev awF:=EF.q
theorem atg (s:qy) (_:Jf s):(YX s).all (fun _=>True):=by
 exact ⟨fun c1=>⟨fun _=>trivial,fun _=>trivial⟩,fun _=>trivial⟩
theorem agn:EF.Ok:=⟨fun s=>by kernel_rfl,fun s=>by kernel_rfl,fun s=>rfl,fun s t r=>rfl,fun s=>rfl,fun s=>by kernel_rfl⟩
theorem afk:EF.Pf (ajs):=⟨ayA,fun _ _=>rfl,auc,atg⟩
theorem ak7:bC Tryz.prog aQ (AN 0) (.loop AX) EF.lp:=bT.snd agn afk (aV (Γ:=PE) (K:=fC) (L:=aF) WT aH AX (fun b hb=>by rw [show aG AX=[] by kernel_rfl] at hb;cases hb)) (fun s=>by kernel_rfl)
theorem al6 (s:qy) (hE:akd s):∃s',Jf s'∧ajs (aoh s) s' (Zy s):=bT.fin agn afk s hE
def ab1:List LV→T LV
 | [.v (.agg ⟨[.string _,.int .i64 _,.int .i64 _,.int .i64 mn,.int .i64 mx,.int .i64 st,.int .i64 _,.int .i64 _]⟩),.v (.int .i64 a)]=> .req (Lh mn mx st) (.ok (.v (.int .i64 (uU mn mx st a))))
 |_=> .no
noncomputable def XR:List LV→T LV:=gZ Tryz.prog Tryz.f83.params.toList ab1
theorem am3 (nm:ByteArray) (at_ ph mn mx st fb ow a:Int):bY Tryz.prog aQ (PE) fC (fun i=>if i=3 then EF.lp else aF i) Tryz.f83 [.v (.agg #[.string nm,.int .i64 at_,.int .i64 ph,.int .i64 mn,.int .i64 mx,.int .i64 st,.int .i64 fb,.int .i64 ow]),.v (.int .i64 a)]=.req (awF (⟨a,(0:Int),mn,nm,at_,ph,mn,mx,st,fb,ow⟩:qy)) (.ok (.v (.int .i64 (Zy (⟨a,(0:Int),mn,nm,at_,ph,mn,mx,st,fb,ow⟩:qy)).level))):=by kernel_rfl
theorem arS:Valid Tryz.prog aQ 83 XR:=aI Tryz.func83 rfl WT aH (L:=(fun i=>if i=3 then EF.lp else aF i)) (fun b hb=>by
 rw [show aG _=[AX] by kernel_rfl] at hb
 simp only [List.mem_cons,List.not_mem_nil,or_false] at hb
 subst hb
 exact ak7) (fun args lv h=>by
 unfold ab1 at h
 split at h
 ·simp only [canL,canX]
  rw [am3]
  obtain ⟨hc,rfl⟩:=h
  refine nP ⟨⟨rfl,rfl,hc⟩,rfl,rfl⟩ (fun hE=>?_)
  obtain ⟨_,_,_,q⟩:=al6 _ hE.1
  rw [q]
  exact rfl
 ·cases h)
def abZ:List LV→T LV
 | [.v (.agg ⟨[.string _,.int .i64 _,.int .i64 ph,.int .i64 mn,.int .i64 mx,.int .i64 st,.int .i64 fb,.int .i64 _]⟩),.v (.agg ⟨[.int .i64 a,.int .i64 si]⟩)]=> .ok (.v (.bool (Kq ph mn mx st fb a si)))
 |_=> .no
noncomputable def XQ:List LV→T LV:=gZ Tryz.prog Tryz.f51.params.toList abZ
noncomputable def aif:Specs:=bg [(83,XR),(91,aiO)]
theorem avk:∀g S,aif g=some S→Valid Tryz.prog aQ g S:=aU (l:=[(83,XR),(91,aiO)]) ⟨arS,axB,trivial⟩
theorem am1 (nm:ByteArray) (at_ ph mn mx st fb ow a si:Int):bY Tryz.prog aQ (aif) fC aF Tryz.f51 [.v (.agg #[.string nm,.int .i64 at_,.int .i64 ph,.int .i64 mn,.int .i64 mx,.int .i64 st,.int .i64 fb,.int .i64 ow]),.v (.agg #[.int .i64 a,.int .i64 si])]=.br (Ld ph mn mx st fb) (.br (decide (a≥0)) (.br (decide (si≥0)) (.br (decide (si≤1000000)) (.req (Lh mn mx st) (.ok (.v (.bool ((uU mn mx st a)==a))))) (.ok (.v (.bool false)))) (.ok (.v (.bool false)))) (.ok (.v (.bool false)))) (.ok (.v (.bool false))):=by kernel_rfl
theorem arR:Valid Tryz.prog aQ 51 XQ:=aI Tryz.func51 rfl avk aH (aY (by kernel_rfl)) (fun args lv h=>by
 unfold abZ at h
 split at h
 ·simp only [canL,canX]
  rw [am1]
  rename_i nm at_ ph mn mx st fb ow a si
  obtain rfl:=h
  unfold Kq
  cases hc:Ld ph mn mx st fb with
  |false=>simp [T.all]
  |true=>
   have hp:=Xf hc
   by_cases h1:0≤a<;>by_cases h2:0≤si<;>by_cases h3:si≤1000000<;>simp [T.all,h1,h2,h3,hp]
 ·cases h)
end Go.Proofs.YtlihnbimgclogaaGreatDoor
namespace Go.Proofs.YtlihnbimgclogaaGreatDoor
open Go.Sx
def inG (n:Int):List ByteArray→ByteArray→Int
 | [],_=>-1
 |x::xs,w=>if (x==w)=true then n else inG (n+1) xs w
def inI (l:List ByteArray) (w:ByteArray):Int:=inG 0 l w
theorem aai {w:ByteArray}:∀ {l:List ByteArray}{n:Int},0≤n→(0≤inG n l w↔isIn l w=true)
 | [],n,_=>by simp [inG,isIn]
 | x::xs,n,h=>by
  rw [inG]
  have e:isIn (x::xs) w=(w==x ||isIn xs w):=rfl
  rw [e]
  split
  ·rename_i hx
   have:x=w:=by simpa using hx
   subst this
   simp [h]
  ·rename_i hx
   have hx:¬x=w:=by simpa using hx
   have:(w==x)=false:=by simpa using fun e=>hx e.symm
   rw [this,Bool.false_or]
   exact aai (by omega)
theorem FK {l:List ByteArray}{w:ByteArray}:decide (inI l w≥0)=isIn l w:=by
 rw [Bool.eq_iff_iff,decide_eq_true_eq]
 exact aai (Int.le_refl _)
theorem JP {l:List ByteArray}{w:ByteArray}:isIn l w=l.contains w:=by
 unfold isIn
 rw [List.contains_eq_any_beq]
def xW (b j:Int):Bool:=chA b ||(!(j==0)&&((decide (b≥48)&&decide (b≤57)) ||b==95))
theorem aaq {b:Int}:xW b 0=chA b:=by simp [xW]
theorem KN {b j:Int}(h:j≠0):xW b j=chB b:=by
 unfold xW chB
 rw [show (j==0)=false by simpa using h]
 rfl
theorem aha {w:ByteArray}:nameB w=(JK w.size (fun j=>xW (rU w j) j)&&(decide ((w.size:Int)≥1)&&(decide ((w.size:Int)≤12)&&!Fg w))):=by
 unfold nameB gwB
 by_cases h1:1≤w.size
 ·by_cases h2:w.size≤12
  ·rw [decide_eq_true (show 1≤w.size∧w.size≤12 from ⟨h1,h2⟩),decide_eq_true (show (w.size:Int)≥1 by omega),decide_eq_true (show (w.size:Int)≤12 by omega),Bool.true_and,Bool.true_and,Bool.true_and]
   congr 1
   rw [Bool.eq_iff_iff,Bool.and_eq_true,List.all_eq_true,gm]
   constructor
   ·rintro ⟨a,b⟩ j hj
    by_cases e:j=0
    ·subst e;exact (aaq (b:=rU w 0)).trans a
    ·have:=b j (List.mem_range.2 (by omega))
     rw [KN (by omega)]
     simpa [e] using this
   ·intro h
    refine ⟨(aaq (b:=rU w 0)).symm.trans (h 0 (by omega)),fun j hj=>?_⟩
    by_cases e:j=0
    ·simp [e]
    ·have:=h j (by have:=List.mem_range.1 hj;omega)
     rw [KN (by omega)] at this
     simp [this]
  ·rw [decide_eq_false (show ¬(1≤w.size∧w.size≤12) by omega),decide_eq_false (show ¬(w.size:Int)≤12 by omega)]
   simp
 ·rw [decide_eq_false (show ¬(1≤w.size∧w.size≤12) by omega),decide_eq_false (show ¬(w.size:Int)≥1 by omega)]
  simp
def nmR (l:List ByteArray):Prop:=∀w∈l,(w.size:Int)≤9223372036854775807
def nmB (l:List ByteArray):Bool:=l.all nameB&&once l
theorem aez {cs:List Cd}{os:List ByteArray}{ks:List Ko}{gs:List Ch}{bs:List Ba}(hd:1≤cs.length∧cs.length≤16∧os.length≤8∧ks.length≤32∧gs.length≤16∧bs.length≤24):fV cs os ks gs bs=(nmB (gK cs os ks gs bs)&&U4 cs os ks gs bs):=by
 unfold fV nmB
 rw [decide_eq_true hd,Bool.true_and,Bool.and_assoc]
theorem ahy {n a b:Int}:inB n a b=false↔¬(a≤n∧n≤b):=by
 rw [←dW]
 simp
theorem adh {ks:List Ko}{i c:Int}(h0:0≤i) (h:i≤(ks.length:Int)):((ks.take i.toNat).map (·.2.2.2)).contains c=true↔∃j:Nat,(j:Int)<i∧(ng ks j).2.2.2=c:=by
 rw [List.contains_iff_mem,List.mem_map]
 constructor
 ·rintro ⟨x,hx,rfl⟩
  obtain ⟨j,hj,rfl⟩:=List.mem_iff_getElem.1 hx
  rw [List.length_take] at hj
  exact ⟨j,by omega,by rw [aij (by simp only [Int.toNat_natCast];omega)];simp⟩
 ·rintro ⟨j,hj,rfl⟩
  refine ⟨ng ks j,?_,rfl⟩
  rw [aij (by simp only [Int.toNat_natCast];omega),List.mem_iff_getElem]
  exact ⟨j,by rw [List.length_take];omega,by simp⟩
end Go.Proofs.YtlihnbimgclogaaGreatDoor
namespace Go.Proofs.YtlihnbimgclogaaGreatDoor
open Go.Sx
structure mV where
 l:List ByteArray
 w:ByteArray
 r:Int
 i:Int
def aBU (s:mV):List LV:=[.xl .str s.l,.v (.string s.w),.v (.int .i64 s.r),.v (.int .i64 s.i)]
def aAX (_:mV):List aT:=[]
noncomputable def Bl:Code:=((aG (Tryz.f144.body.getD .skip))[0]?).getD .skip
def QU (s:mV):T (Rd mV):=
 .br (decide (s.i<(List.length s.l:Int))) (.req (0≤s.i∧s.i<(List.length s.l:Int)) (.br ((gS s.l s.i).toList==s.w.toList) (.ok (.stop (.ret) {s with r:=s.i})) (.ok (.next {s with i:=(IntKind.i64.wrap (s.i+1))})))) (.ok (.stop (.exit 0) s))
abbrev aaV (s:mV):=(QU s).rd s
def akh (s:mV):Prop:=s.i=0∧(List.length s.l:Int)≤1000∧True
def UG (s:mV):Prop:=0≤s.i∧s.i≤(List.length s.l:Int)∧(List.length s.l:Int)≤1000∧True
def OO (s:mV):Nat:=((List.length s.l:Int)-s.i).toNat
def aro (_:Ex) (_ _:mV):Prop:=True
theorem ay6:∀s,akh s→UG s:=by
 intro s h
 obtain ⟨h0,h1,h2⟩:=h
 exact ⟨by omega,by omega,h1,h2⟩
theorem au6 (s:mV) (hI:UG s):bQ (fun s'=>UG s'∧OO s'<OO s) (fun x s'=>aro x s s') (aaV s):=by
 unfold aaV QU
 dsimp only [T.rd,T.rl]
 obtain ⟨h0,h1,h2,h3⟩:=hI
 refine ax (fun c1=>?_) (fun c1=>?_)
 ·refine ax (fun c2=>?_) (fun c2=>?_)
  ·trivial
  ·have c1:s.i<(List.length s.l:Int):=by simpa using c1
   rw [aN (x:=s.i+1) (by omega) (by omega)]
   exact ⟨⟨by simp only;omega,by simp only;omega,h2,h3⟩,by simp only [OO];omega⟩
 ·trivial
def ER:bT mV:=⟨0,19,[0,1,4,5],[],aBU,aAX,fun v _=>⟨aS .str (v.getD 0 .junk),gSr (v.getD 1 .junk),gI (v.getD 2 .junk),gI (v.getD 3 .junk)⟩,QU,fun s r=> {r with l:=s.l,w:=s.w},fun s=>s,fun _ s=>s,[.ret,.exit 0],akh,UG,OO⟩
abbrev ZC:=ER.run
abbrev abf:=ER.kG
abbrev awV:=ER.q
theorem atC (s:mV) (hI:UG s):(QU s).all (fun _=>True):=by
 refine ⟨fun c1=>⟨?_,fun _=>trivial,fun _=>trivial⟩,fun _=>trivial⟩
 ·(obtain ⟨h0,h1,h2,h3⟩:=hI;simp only [decide_eq_true_eq] at c1;omega)
noncomputable def Ik:Specs:=bg []
theorem KP:∀g S,Ik g=some S→Valid Tryz.prog aQ g S:=aU (l:=[]) trivial
theorem agx:ER.Ok:=⟨fun s=>by kernel_rfl,fun s=>by kernel_rfl,fun s=>rfl,fun s t r=>rfl,fun s=>rfl,fun s=>by kernel_rfl⟩
theorem aft:ER.Pf (aro):=⟨ay6,fun _ _=>rfl,au6,atC⟩
theorem alo:bC Tryz.prog aQ (AN 0) (.loop Bl) ER.lp:=bT.snd agx aft (aV (Γ:=Ik) (K:=fC) (L:=aF) KP aH Bl (fun b hb=>by rw [show aG Bl=[] by kernel_rfl] at hb;cases hb)) (fun s=>by kernel_rfl)
theorem anV (s:mV) (hE:akh s):(fun (x:Ex) (s':mV) (v:Int)=>(x=.ret∧s'.r=v)∨(x=.exit 0∧v=-1)) (abf s) (ZC s) ((fun s:mV=>inG s.i (s.l.drop s.i.toNat) s.w) s):=by
 exact bT.xO agx aft (fun s:mV=>inG s.i (s.l.drop s.i.toNat) s.w) (fun x s' v=>(x=.ret∧s'.r=v)∨(x=.exit 0∧v=-1)) (fun s hI=>by
  show bQ _ _ (aaV s)
  unfold aaV QU
  dsimp only [T.rd,T.rl]
  obtain ⟨h0,h1,h2,h3⟩:=hI
  refine ax (fun c1=>ax (fun c2=>?_) (fun c2=>?_)) (fun c1=>?_)
  ·have c1:s.i<(List.length s.l:Int):=by simpa using c1
   rw [tK] at c2
   refine .inl ⟨rfl,?_⟩
   try simp only
   rw [(uy h0 c1).1,inG,if_pos c2]
  ·have c1:s.i<(List.length s.l:Int):=by simpa using c1
   rw [tK] at c2
   rw [aN (x:=s.i+1) (by omega) (by omega)]
   show inG _ _ _=inG _ _ _
   rw [(uy h0 c1).1,inG,if_neg (by rw [c2];simp)]
  ·have c1:(List.length s.l:Int)≤s.i:=by simpa using c1
   refine .inr ⟨rfl,?_⟩
   rw [List.drop_eq_nil_of_le (by omega)]
   rfl) s hE
def ai1:List LV→T LV
 | [.xl (.str) l,.v (.string w)]=> .req ((List.length l:Int)≤1000) (.ok (.v (.int .i64 (inI l w))))
 |_=> .no
noncomputable def aiM:List LV→T LV:=gZ Tryz.prog Tryz.f144.params.toList ai1
theorem auz (l:List ByteArray) (w:ByteArray):bY Tryz.prog aQ (Ik) fC (fun i=>if i=2 then ER.lp else aF i) Tryz.f144 [.xl .str l,.v (.string w)]=.req (awV (⟨l,w,(0:Int),(0:Int)⟩:mV)) (.br (iQ (abf (⟨l,w,(0:Int),(0:Int)⟩:mV)) (.ret)) (.ok (.v (.int .i64 (ZC (⟨l,w,(0:Int),(0:Int)⟩:mV)).r))) (.ok (.v (.int .i64 (-1))))):=by kernel_rfl
theorem axz:Valid Tryz.prog aQ 144 aiM:=aI Tryz.func144 rfl KP aH (L:=(fun i=>if i=2 then ER.lp else aF i)) (fun b hb=>by
 rw [show aG _=[Bl] by kernel_rfl] at hb
 simp only [List.mem_cons,List.not_mem_nil,or_false] at hb
 subst hb
 exact alo) (fun args lv h=>by
 unfold ai1 at h
 split at h
 ·simp only [canL,canX]
  rw [auz]
  obtain ⟨hl,rfl⟩:=h
  refine nP ⟨⟨rfl,hl,trivial⟩,rfl,rfl⟩ (fun hE=>?_)
  rcases anV _ hE.1 with ⟨q1,q2⟩ |⟨q1,q2⟩
  ·rw [q1,q2]
   exact ⟨fun _=>rfl,fun h=>by cases h⟩
  ·rw [q1]
   refine ⟨fun h=>(by cases h),fun _=>congrArg (fun z=>LV.v (.int .i64 z)) ?_⟩
   exact q2.symm
 ·cases h)
def Ls:List LV→T LV
 | []=> .ok (.xl .str kinds)
 |_=> .no
noncomputable def I8:List LV→T LV:=gZ Tryz.prog Tryz.f145.params.toList Ls
theorem adw  :bY Tryz.prog aQ (Ik) fC aF Tryz.f145 []=.ok (.xl .str ([(ByteArray.mk #[102,101,101,100,101,114]),(ByteArray.mk #[99,97,98,108,101]),(ByteArray.mk #[111,119,110,101,114]),(ByteArray.mk #[99,111,110,116,114,97,99,116]),(ByteArray.mk #[99,104,97,114,103,101,114]),(ByteArray.mk #[98,97,121]),(ByteArray.mk #[116,97,114,105,102,102])])):=by kernel_rfl
theorem ael:Valid Tryz.prog aQ 145 I8:=aI Tryz.func145 rfl KP aH (aY (by kernel_rfl)) (fun args lv h=>by
 unfold Ls at h
 split at h
 ·simp only [canL]
  rw [adw]
  exact h
 ·cases h)
def Lu:List LV→T LV
 | []=> .ok (.xl .str Ec)
 |_=> .no
noncomputable def Jb:List LV→T LV:=gZ Tryz.prog Tryz.f146.params.toList Lu
theorem adx  :bY Tryz.prog aQ (Ik) fC aF Tryz.f146 []=.ok (.xl .str ([(ByteArray.mk #[108,105,109,105,116]),(ByteArray.mk #[110,101,117,116,114,97,108]),(ByteArray.mk #[102,117,115,101]),(ByteArray.mk #[116,104,101,114,109,97,108]),(ByteArray.mk #[102,114,111,109]),(ByteArray.mk #[97,116]),(ByteArray.mk #[112,104,97,115,101,115]),(ByteArray.mk #[97,109,112,115]),(ByteArray.mk #[102,97,108,108,98,97,99,107]),(ByteArray.mk #[111,119,110,101,114]),(ByteArray.mk #[99,97,114,100]),(ByteArray.mk #[114,97,110,107]),(ByteArray.mk #[99,104,97,114,103,101,114])])):=by kernel_rfl
theorem aeo:Valid Tryz.prog aQ 146 Jb:=aI Tryz.func146 rfl KP aH (aY (by kernel_rfl)) (fun args lv h=>by
 unfold Lu at h
 split at h
 ·simp only [canL]
  rw [adx]
  exact h
 ·cases h)
def BR:List LV→T LV
 | []=> .ok (.xl .str oC)
 |_=> .no
noncomputable def wu:List LV→T LV:=gZ Tryz.prog Tryz.f147.params.toList BR
theorem N7  :bY Tryz.prog aQ (Ik) fC aF Tryz.f147 []=.ok (.xl .str ([(ByteArray.mk #[115,116,97,114,116]),(ByteArray.mk #[101,110,101,114,103,121]),(ByteArray.mk #[116,105,109,101]),(ByteArray.mk #[105,100,108,101]),(ByteArray.mk #[99,97,112]),(ByteArray.mk #[116,97,120])])):=by kernel_rfl
theorem Qu:Valid Tryz.prog aQ 147 wu:=aI Tryz.func147 rfl KP aH (aY (by kernel_rfl)) (fun args lv h=>by
 unfold BR at h
 split at h
 ·simp only [canL]
  rw [N7]
  exact h
 ·cases h)
def Lr:List LV→T LV
 | []=> .ok (.xl .str words)
 |_=> .no
noncomputable def I5:List LV→T LV:=gZ Tryz.prog Tryz.f148.params.toList Lr
theorem adv  :bY Tryz.prog aQ (Ik) fC aF Tryz.f148 []=.ok (.xl .str ([(ByteArray.mk #[111,110]),(ByteArray.mk #[119,111,114,107]),(ByteArray.mk #[115,97,116,117,114,100,97,121]),(ByteArray.mk #[115,117,110,100,97,121]),(ByteArray.mk #[98,101,116,119,101,101,110]),(ByteArray.mk #[112,101,114]),(ByteArray.mk #[102,114,101,101])])):=by kernel_rfl
theorem aej:Valid Tryz.prog aQ 148 I5:=aI Tryz.func148 rfl KP aH (aY (by kernel_rfl)) (fun args lv h=>by
 unfold Lr at h
 split at h
 ·simp only [canL]
  rw [adv]
  exact h
 ·cases h)
structure oJ where
 w:ByteArray
 r:Bool
 i:Int
def aBu (s:oJ):List LV:=[.v (.string s.w),.v (.bool s.r),.v (.int .i64 s.i)]
def aAx (_:oJ):List aT:=[]
noncomputable def AA:Code:=((aG (Tryz.f122.body.getD .skip))[0]?).getD .skip
def YU (s:oJ):T (Rd oJ):=
 .br (decide (s.i<(s.w.size:Int))) (.req (0≤s.i∧s.i<(s.w.size:Int)) (.br (if decide ((rU s.w s.i)<97) then (s.i==0) ||(if decide ((rU s.w s.i)<48) then (rU s.w s.i) !=95 else (decide ((rU s.w s.i)>57))&&((rU s.w s.i) !=95)) else (decide ((rU s.w s.i)>122))&&((s.i==0) ||(if decide ((rU s.w s.i)<48) then (rU s.w s.i) !=95 else (decide ((rU s.w s.i)>57))&&((rU s.w s.i) !=95)))) (.ok (.stop (.ret) {s with r:=false})) (.ok (.next {s with i:=(IntKind.i64.wrap (s.i+1))})))) (.ok (.stop (.exit 0) s))
abbrev aqL (s:oJ):=(YU s).rd s
def Jp (s:oJ) (j:Int):Bool:=xW (rU s.w j) j
def aj3 (s:oJ):Prop:=s.i=0∧0≤(s.w.size:Int)∧(s.w.size:Int)≤9223372036854775807∧True
def L6 (s:oJ):Prop:=0≤s.i∧s.i≤(s.w.size:Int)∧(s.w.size:Int)≤9223372036854775807∧(True)∧∀j:Nat,(j:Int)<s.i→Jp s j=true
def Om (s:oJ):Nat:=((s.w.size:Int)-s.i).toNat
def ajq (x:Ex) (_ s':oJ):Prop:=(x=.exit 0∧∀j:Nat,(j:Int)<(s'.w.size:Int)→Jp s' j=true)∨(x=.ret∧s'.r=false∧∃j:Nat,(j:Int)<(s'.w.size:Int)∧Jp s' j=false)
theorem ayg:∀s,aj3 s→L6 s:=by
 intro s h
 obtain ⟨h0,h1,h2,h3⟩:=h
 exact ⟨by omega,by omega,h2,h3,fun j hj=>by omega⟩
theorem atU (s:oJ) (hI:L6 s):bQ (fun s'=>L6 s'∧Om s'<Om s) (fun x s'=>ajq x s s') (aqL s):=by
 unfold aqL YU
 dsimp only [T.rd,T.rl]
 obtain ⟨h0,h1,h2,h3,h4⟩:=hI
 refine ax (fun c1=>ax (fun c2=>?_) (fun c2=>?_)) (fun c1=>?_)
 ·have c1:s.i<(s.w.size:Int):=by simpa using c1
  refine .inr ⟨rfl,rfl,s.i.toNat,by simp only;omega,?_⟩
  rw [Int.toNat_of_nonneg (by omega)]
  have hg:Jp s s.i=false:=by unfold Jp;(revert c2;unfold xW chA;generalize rU s.w s.i=b;intro c2;by_cases h1:b<97<;>by_cases h2:b≤122<;>by_cases h3:b<48<;>by_cases h4:b≤57<;>by_cases h5:b=95<;>by_cases h6:s.i=0<;>simp_all<;>omega)
  exact hg
 ·have c1:s.i<(s.w.size:Int):=by simpa using c1
  have hg:Jp s s.i=true:=by unfold Jp;(revert c2;unfold xW chA;generalize rU s.w s.i=b;intro c2;by_cases h1:b<97<;>by_cases h2:b≤122<;>by_cases h3:b<48<;>by_cases h4:b≤57<;>by_cases h5:b=95<;>by_cases h6:s.i=0<;>simp_all<;>omega)
  rw [aN (x:=s.i+1) (by omega) (by omega)]
  refine ⟨⟨by simp only;omega,by simp only;omega,h2,h3,fun j hj=>?_⟩,by simp only [Om];omega⟩
  by_cases hji:(j:Int)<s.i
  ·exact h4 j hji
  ·have:(j:Int)=s.i:=by simp only at hj;omega
   rw [this];exact hg
 ·have c1:(s.w.size:Int)≤s.i:=by simpa using c1
  exact .inl ⟨rfl,fun j hj=>h4 j (by omega)⟩
def Es:bT oJ:=⟨0,71,[0,2,3],[],aBu,aAx,fun v _=>⟨gSr (v.getD 0 .junk),x9 (v.getD 1 .junk),gI (v.getD 2 .junk)⟩,YU,fun s r=> {r with w:=s.w},fun s=>s,fun _ s=>s,[.ret,.exit 0],aj3,L6,Om⟩
abbrev Zv:=Es.run
abbrev aa8:=Es.kG
abbrev awu:=Es.q
theorem as8 (s:oJ) (hI:L6 s):(YU s).all (fun _=>True):=by
 refine ⟨fun c1=>⟨?_,fun _=>trivial,fun _=>trivial⟩,fun _=>trivial⟩
 ·(obtain ⟨h0,h1,h2,h3,h4⟩:=hI;simp at c1;omega)
noncomputable def ah8:Specs:=bg [(144,aiM),(145,I8),(146,Jb),(147,wu),(148,I5)]
theorem aqg:∀g S,ah8 g=some S→Valid Tryz.prog aQ g S:=aU (l:=[(144,aiM),(145,I8),(146,Jb),(147,wu),(148,I5)]) ⟨axz,ael,aeo,Qu,aej,trivial⟩
theorem agd:Es.Ok:=⟨fun s=>by kernel_rfl,fun s=>by kernel_rfl,fun s=>rfl,fun s t r=>rfl,fun s=>rfl,fun s=>by kernel_rfl⟩
theorem afc:Es.Pf (ajq):=⟨ayg,fun _ _=>rfl,atU,as8⟩
theorem akZ:bC Tryz.prog aQ (AN 0) (.loop AA) Es.lp:=bT.snd agd afc (aV (Γ:=ah8) (K:=fC) (L:=aF) aqg aH AA (fun b hb=>by rw [show aG AA=[] by kernel_rfl] at hb;cases hb)) (fun s=>by kernel_rfl)
theorem alX (s:oJ) (hE:aj3 s):∃s',L6 s'∧ajq (aa8 s) s' (Zv s):=bT.fin agd afc s hE
def Uk:List LV→T LV
 | [.v (.string w)]=> .req ((w.size:Int)≤9223372036854775807) (.ok (.v (.bool (nameB w))))
 |_=> .no
noncomputable def P9:List LV→T LV:=gZ Tryz.prog Tryz.f122.params.toList Uk
theorem agZ (w:ByteArray):bY Tryz.prog aQ (ah8) fC (fun i=>if i=2 then Es.lp else aF i) Tryz.f122 [.v (.string w)]=.req (awu (⟨w,false,(0:Int)⟩:oJ)) (.br (iQ (aa8 (⟨w,false,(0:Int)⟩:oJ)) (.ret)) (.ok (.v (.bool (Zv (⟨w,false,(0:Int)⟩:oJ)).r))) (.req ((List.length kinds:Int)≤1000) (.br (decide ((inI kinds w)≥0)) (.ok (.v (.bool false))) (.req ((List.length Ec:Int)≤1000) (.br (decide ((inI Ec w)≥0)) (.ok (.v (.bool false))) (.req ((List.length oC:Int)≤1000) (.br (decide ((inI oC w)≥0)) (.ok (.v (.bool false))) (.req ((List.length words:Int)≤1000) (.ok (.v (.bool ((decide ((w.size:Int)≥1))&&((decide ((w.size:Int)≤12))&&(!(decide ((inI words w)≥0)))))))))))))))):=by kernel_rfl
theorem akt:Valid Tryz.prog aQ 122 P9:=aI Tryz.func122 rfl aqg aH (L:=(fun i=>if i=2 then Es.lp else aF i)) (fun b hb=>by
 rw [show aG _=[AA] by kernel_rfl] at hb
 simp only [List.mem_cons,List.not_mem_nil,or_false] at hb
 subst hb
 exact akZ) (fun args lv h=>by
 unfold Uk at h
 split at h
 ·simp only [canL,canX]
  rw [agZ]
  rename_i w
  obtain ⟨hl,rfl⟩:=h
  refine nP ⟨⟨rfl,Int.natCast_nonneg _,hl,trivial⟩,rfl,rfl⟩ (fun hE=>?_)
  obtain ⟨s',_,hq⟩:=alX _ hE.1
  rw [aha]
  rcases hq with ⟨q1,q2⟩ |⟨q1,q2,j,q3,q4⟩
  ·have q2:JK w.size (fun j=>xW (rU w j) j)=true:=gm.2 q2
   rw [q1,q2,Bool.true_and]
   have k1:=FK (l:=kinds) (w:=w)
   have k2:=FK (l:=Ec) (w:=w)
   have k3:=FK (l:=oC) (w:=w)
   have k4:=FK (l:=words) (w:=w)
   refine ⟨fun h=>(by cases h),fun _=>⟨by decide,fun c1=>?_,fun c1=>⟨by decide,fun c2=>?_,fun c2=>⟨by decide,fun c3=>?_,fun c3=>⟨by decide,?_⟩⟩⟩⟩⟩
   ·have:Fg w=true:=by unfold Fg;rw [←k1,c1];rfl
    rw [this]
    simp
    exact rfl
   ·have:Fg w=true:=by unfold Fg;rw [←k1,c1,←k2,c2];rfl
    rw [this]
    simp
    exact rfl
   ·have:Fg w=true:=by unfold Fg;rw [←k1,c1,←k2,c2,←k3,c3];rfl
    rw [this]
    simp
    exact rfl
   ·have:Fg w=decide (inI words w≥0):=by unfold Fg;rw [←k1,c1,←k2,c2,←k3,c3,←k4];rfl
    rw [this]
    exact rfl
  ·rw [q1,q2]
   refine ⟨fun _=>congrArg (fun z=>LV.v (.bool z)) ?_,fun h=>by cases h⟩
   rw [tZ (n:=w.size) (f:=fun j=>xW (rU w j) j) j q3 q4]
   rfl
 ·cases h)
end Go.Proofs.YtlihnbimgclogaaGreatDoor
namespace Go.Proofs.YtlihnbimgclogaaGreatDoor
open Go.Sx
def abR:List LV→T LV
 | [.v (.int .i64 n),.v (.int .i64 a),.v (.int .i64 b)]=> .ok (.v (.bool (inB n a b)))
 |_=> .no
noncomputable def I9:List LV→T LV:=gZ Tryz.prog Tryz.f86.params.toList abR
noncomputable def SQ:Specs:=bg []
theorem aas:∀g S,SQ g=some S→Valid Tryz.prog aQ g S:=aU (l:=[]) trivial
theorem amT (n a b:Int):bY Tryz.prog aQ (SQ) fC aF Tryz.f86 [.v (.int .i64 n),.v (.int .i64 a),.v (.int .i64 b)]=.ok (.v (.bool ((decide (n≥a))&&(decide (n≤b))))):=by kernel_rfl
theorem aem:Valid Tryz.prog aQ 86 I9:=aI Tryz.func86 rfl aas aH (aY (by kernel_rfl)) (fun args lv h=>by
 unfold abR at h
 split at h
 ·simp only [canL,canX]
  rw [amT]
  exact h
 ·cases h)
def abU:List LV→T LV
 | [.v (.agg ⟨[.string nm,.int .i64 at_,.int .i64 ph,.int .i64 mi,.int .i64 ma,.int .i64 st,.int .i64 fb,.int .i64 ow]⟩)]=> .ok (.v (.bool (chW (nm,at_,ph,mi,ma,st,fb,ow))))
 |_=> .no
noncomputable def XL:List LV→T LV:=gZ Tryz.prog Tryz.f89.params.toList abU
noncomputable def ah7:Specs:=bg [(86,I9)]
theorem aqf:∀g S,ah7 g=some S→Valid Tryz.prog aQ g S:=aU (l:=[(86,I9)]) ⟨aem,trivial⟩
theorem amW (nm:ByteArray) (at_ ph mi ma st fb ow:Int):bY Tryz.prog aQ (ah7) fC aF Tryz.f89 [.v (.agg #[.string nm,.int .i64 at_,.int .i64 ph,.int .i64 mi,.int .i64 ma,.int .i64 st,.int .i64 fb,.int .i64 ow])]=.ok (.v (.bool ((inB ph (1:Int) (7:Int))&&((inB mi (1:Int) (80:Int))&&((inB ma mi (80:Int))&&((inB st (1:Int) (80:Int))&&((fb==0) ||(inB fb mi ma)))))))):=by kernel_rfl
theorem arN:Valid Tryz.prog aQ 89 XL:=aI Tryz.func89 rfl aqf aH (aY (by kernel_rfl)) (fun args lv h=>by
 unfold abU at h
 split at h
 ·simp only [canL,canX]
  rw [amW]
  exact h
 ·cases h)
def abS:List LV→T LV
 | [.agg [.xl (.pair .str (.pair (.int .i64) (.pair (.int .i64) (.pair (.int .i64) (.pair (.pair (.int .i64) (.int .i64)) (.pair (.int .i64) (.pair (.int .i64) (.pair (.int .i64) (.pair (.int .i64) (.int .i64)))))))))) cs,.xl (.str) os,.xl (.pair .str (.pair (.int .i64) (.pair (.int .i64) (.int .i64)))) ks,.xl (.pair .str (.pair (.int .i64) (.pair (.int .i64) (.pair (.int .i64) (.pair (.int .i64) (.pair (.int .i64) (.pair (.int .i64) (.int .i64)))))))) gs,.xl (.pair .str (.int .i64)) bs]]=> .ok (.v (.bool (decide (List.length cs≤40∧List.length os≤40∧List.length ks≤40∧List.length gs≤40∧List.length bs≤40))))
 |_=> .no
noncomputable def XJ:List LV→T LV:=gZ Tryz.prog Tryz.f34.params.toList abS
theorem amU (cs:List Cd) (os:List ByteArray) (ks:List Ko) (gs:List Ch) (bs:List Ba):bY Tryz.prog aQ (SQ) fC aF Tryz.f34 [.agg [.xl dZ cs,.xl .str os,.xl eP ks,.xl dR gs,.xl eU bs]]=.ok (.v (.bool ((decide ((List.length cs:Int)≤40))&&((decide ((List.length os:Int)≤40))&&((decide ((List.length ks:Int)≤40))&&((decide ((List.length gs:Int)≤40))&&(decide ((List.length bs:Int)≤40)))))))):=by kernel_rfl
theorem arL:Valid Tryz.prog aQ 34 XJ:=aI Tryz.func34 rfl aas aH (aY (by kernel_rfl)) (fun args lv h=>by
 unfold abS at h
 split at h
 ·simp only [canL,canX]
  rw [amU]
  obtain rfl:=h
  refine congrArg (fun z=>LV.v (.bool z)) ?_
  rw [Bool.eq_iff_iff]
  simp only [Bool.and_eq_true,decide_eq_true_eq]
  omega
 ·cases h)
def abT:List LV→T LV
 | [.v (.agg ⟨[.string nm,.int .i64 up_,.int .i64 li,.int .i64 ne,.int .i64 ra,.int .i64 he,.int .i64 am,.int .i64 mo,.int .i64 ga,.int .i64 lo,.int .i64 de]⟩),.v (.int .i64 i)]=> .req (0≤i∧i≤1000) (.ok (.v (.bool (Eb i (nm,up_,li,ne,(ra,he),am,mo,ga,lo,de)))))
 |_=> .no
noncomputable def XK:List LV→T LV:=gZ Tryz.prog Tryz.f88.params.toList abT
theorem amV (nm:ByteArray) (up_ li ne ra he am mo ga lo de i:Int):bY Tryz.prog aQ (ah7) fC aF Tryz.f88 [.v (.agg #[.string nm,.int .i64 up_,.int .i64 li,.int .i64 ne,.int .i64 ra,.int .i64 he,.int .i64 am,.int .i64 mo,.int .i64 ga,.int .i64 lo,.int .i64 de]),.v (.int .i64 i)]=.br ((!(inB li (1:Int) (1000:Int))) ||((!(inB ne (1:Int) (1000:Int))) ||(if i==0 then (up_ !=(-1)) ||((decide (i>0))&&(!(inB up_ (0:Int) (IntKind.i64.wrap (i-1))))) else (decide (i>0))&&(!(inB up_ (0:Int) (IntKind.i64.wrap (i-1))))))) (.ok (.v (.bool false))) (.br ((!((ra==0)&&(he==0)))&&((!(inB ra (1:Int) (1000:Int))) ||(!(inB he (0:Int) (1000000:Int))))) (.ok (.v (.bool false))) (.ok (.v (.bool (((am==0)&&((mo==0)&&((ga==0)&&((lo==0)&&(de==0))))) ||((inB am (0:Int) (200000:Int))&&((inB mo (IntKind.i64.wrap (am+1)) (200000:Int))&&((inB ga (0:Int) (1000:Int))&&((inB lo (0:Int) (1000:Int))&&(inB de (1:Int) (1000000:Int))))))))))):=by kernel_rfl
theorem arM:Valid Tryz.prog aQ 88 XK:=aI Tryz.func88 rfl aqf aH (aY (by kernel_rfl)) (fun args lv h=>by
 unfold abT at h
 split at h
 ·simp only [canL,canX]
  rw [amV]
  rename_i nm up_ li ne ra he am mo ga lo de i
  obtain ⟨⟨h0,h1⟩,rfl⟩:=h
  have hw:IntKind.i64.wrap (i-1)=i-1:=aN (by omega) (by omega)
  rw [hw]
  have hU:(if i==0 then (up_ !=(-1)) ||((decide (i>0))&&(!(inB up_ (0:Int) (i-1)))) else (decide (i>0))&&(!(inB up_ (0:Int) (i-1))))=!(if i=0 then up_==-1 else inB up_ 0 (i-1)):=by
   by_cases e:i=0
   ·subst e
    simp
    rfl
   ·rw [if_neg (by simpa using e),if_neg e,decide_eq_true (by omega),Bool.true_and]
  rw [hU]
  unfold Eb
  simp only
  generalize (if i=0 then up_==-1 else inB up_ 0 (i-1))=u
  generalize inB li 1 1000=a
  generalize inB ne 1 1000=b
  have hC:((((am==0)&&((mo==0)&&((ga==0)&&((lo==0)&&(de==0))))) ||((inB am (0:Int) (200000:Int))&&((inB mo (IntKind.i64.wrap (am+1)) (200000:Int))&&((inB ga (0:Int) (1000:Int))&&((inB lo (0:Int) (1000:Int))&&(inB de (1:Int) (1000000:Int))))))))=PX (am,mo,ga,lo,de):=by
   unfold PX cbZ
   simp only
   congr 1
   by_cases ha:inB am 0 200000=true
   ·have:=dW.1 ha
    rw [aN (x:=am+1) (by omega) (by omega),ha,Bool.true_and,Bool.eq_iff_iff]
    simp only [Bool.and_eq_true,dW,decide_eq_true_eq]
    omega
   ·have ha:inB am 0 200000=false:=by simpa using ha
    rw [ha,Bool.false_and,eq_comm,Bool.eq_false_iff]
    have:=ahy.1 ha
    simp only [ne_eq,Bool.and_eq_true,dW,decide_eq_true_eq]
    omega
  rw [hC]
  generalize PX (am,mo,ga,lo,de)=z
  generalize ((ra==0)&&(he==0))=f
  generalize inB ra 1 1000=r
  generalize inB he 0 1000000=q
  cases u<;>cases a<;>cases b<;>cases z<;>cases f<;>cases r<;>cases q<;>simp [T.all]
 ·cases h)
structure uH where
 l:List ByteArray
 w:ByteArray
 r:Bool
 i:Int
def aCW (s:uH):List LV:=[.xl .str s.l,.v (.string s.w),.v (.bool s.r),.v (.int .i64 s.i)]
def aCO (_:uH):List aT:=[]
noncomputable def FX:Code:=((aG (Tryz.f123.body.getD .skip))[0]?).getD .skip
def aeu (s:uH):T (Rd uH):=
 .br (decide (s.i<(List.length s.l:Int))) (.req (0≤s.i∧s.i<(List.length s.l:Int)) (.br ((gS s.l s.i).toList==s.w.toList) (.ok (.stop (.ret) {s with r:=true})) (.ok (.next {s with i:=(IntKind.i64.wrap (s.i+1))})))) (.ok (.stop (.exit 0) s))
abbrev an8 (s:uH):=(aeu s).rd s
def awD (s:uH):Prop:=s.i=0∧(List.length s.l:Int)≤1000∧True
def ajT (s:uH):Prop:=0≤s.i∧s.i≤(List.length s.l:Int)∧(List.length s.l:Int)≤1000∧True
def ZW (s:uH):Nat:=((List.length s.l:Int)-s.i).toNat
def aAb (_:Ex) (_ _:uH):Prop:=True
theorem aCn:∀s,awD s→ajT s:=by
 intro s h
 obtain ⟨h0,h1,h2⟩:=h
 exact ⟨by omega,by omega,h1,h2⟩
theorem ayo (s:uH) (hI:ajT s):bQ (fun s'=>ajT s'∧ZW s'<ZW s) (fun x s'=>aAb x s s') (an8 s):=by
 unfold an8 aeu
 dsimp only [T.rd,T.rl]
 obtain ⟨h0,h1,h2,h3⟩:=hI
 refine ax (fun c1=>?_) (fun c1=>?_)
 ·refine ax (fun c2=>?_) (fun c2=>?_)
  ·trivial
  ·have c1:s.i<(List.length s.l:Int):=by simpa using c1
   rw [aN (x:=s.i+1) (by omega) (by omega)]
   exact ⟨⟨by simp only;omega,by simp only;omega,h2,h3⟩,by simp only [ZW];omega⟩
 ·trivial
def U1:bT uH:=⟨0,18,[0,1,4,5],[],aCW,aCO,fun v _=>⟨aS .str (v.getD 0 .junk),gSr (v.getD 1 .junk),x9 (v.getD 2 .junk),gI (v.getD 3 .junk)⟩,aeu,fun s r=> {r with l:=s.l,w:=s.w},fun s=>s,fun _ s=>s,[.ret,.exit 0],awD,ajT,ZW⟩
abbrev aeK:=U1.run
abbrev aiq:=U1.kG
abbrev aAe:=U1.q
theorem ax8 (s:uH) (hI:ajT s):(aeu s).all (fun _=>True):=by
 refine ⟨fun c1=>⟨?_,fun _=>trivial,fun _=>trivial⟩,fun _=>trivial⟩
 ·(obtain ⟨h0,h1,h2,h3⟩:=hI;simp only [decide_eq_true_eq] at c1;omega)
theorem apB:U1.Ok:=⟨fun s=>by kernel_rfl,fun s=>by kernel_rfl,fun s=>rfl,fun s t r=>rfl,fun s=>rfl,fun s=>by kernel_rfl⟩
theorem apt:U1.Pf (aAb):=⟨aCn,fun _ _=>rfl,ayo,ax8⟩
theorem asB:bC Tryz.prog aQ (AN 0) (.loop FX) U1.lp:=bT.snd apB apt (aV (Γ:=SQ) (K:=fC) (L:=aF) aas aH FX (fun b hb=>by rw [show aG FX=[] by kernel_rfl] at hb;cases hb)) (fun s=>by kernel_rfl)
theorem at7 (s:uH) (hE:awD s):(fun (x:Ex) (s':uH) (v:Bool)=>(x=.ret∧s'.r=true∧v=true)∨(x=.exit 0∧v=false)) (aiq s) (aeK s) ((fun s:uH=>isIn (s.l.drop s.i.toNat) s.w) s):=by
 exact bT.xO apB apt (fun s:uH=>isIn (s.l.drop s.i.toNat) s.w) (fun x s' v=>(x=.ret∧s'.r=true∧v=true)∨(x=.exit 0∧v=false)) (fun s hI=>by
  show bQ _ _ (an8 s)
  unfold an8 aeu
  dsimp only [T.rd,T.rl]
  obtain ⟨h0,h1,h2,h3⟩:=hI
  have ic:∀(x:ByteArray) xs,isIn (x::xs) s.w=(s.w==x ||isIn xs s.w):=fun _ _=>rfl
  refine ax (fun c1=>ax (fun c2=>?_) (fun c2=>?_)) (fun c1=>?_)
  ·have c1:s.i<(List.length s.l:Int):=by simpa using c1
   rw [tK] at c2
   have c2:s.w==gS s.l s.i:=by simpa using (eq_of_beq c2).symm
   refine .inl ⟨rfl,rfl,?_⟩
   try simp only
   rw [(uy h0 c1).1,ic,c2]
   rfl
  ·have c1:s.i<(List.length s.l:Int):=by simpa using c1
   rw [tK] at c2
   have c2:(s.w==gS s.l s.i)=false:=by
    have:¬gS s.l s.i=s.w:=by simpa using c2
    simpa using fun e=>this e.symm
   rw [aN (x:=s.i+1) (by omega) (by omega)]
   show isIn _ _=isIn _ _
   rw [(uy h0 c1).1,ic,c2,Bool.false_or]
  ·have c1:(List.length s.l:Int)≤s.i:=by simpa using c1
   refine .inr ⟨rfl,?_⟩
   rw [List.drop_eq_nil_of_le (by omega)]
   rfl) s hE
def ai2:List LV→T LV
 | [.xl (.str) l,.v (.string w)]=> .req ((List.length l:Int)≤1000) (.ok (.v (.bool (isIn l w))))
 |_=> .no
noncomputable def aiN:List LV→T LV:=gZ Tryz.prog Tryz.f123.params.toList ai2
theorem auA (l:List ByteArray) (w:ByteArray):bY Tryz.prog aQ (SQ) fC (fun i=>if i=2 then U1.lp else aF i) Tryz.f123 [.xl .str l,.v (.string w)]=.req (aAe (⟨l,w,false,(0:Int)⟩:uH)) (.br (iQ (aiq (⟨l,w,false,(0:Int)⟩:uH)) (.ret)) (.ok (.v (.bool (aeK (⟨l,w,false,(0:Int)⟩:uH)).r))) (.ok (.v (.bool false)))):=by kernel_rfl
theorem axA:Valid Tryz.prog aQ 123 aiN:=aI Tryz.func123 rfl aas aH (L:=(fun i=>if i=2 then U1.lp else aF i)) (fun b hb=>by
 rw [show aG _=[FX] by kernel_rfl] at hb
 simp only [List.mem_cons,List.not_mem_nil,or_false] at hb
 subst hb
 exact asB) (fun args lv h=>by
 unfold ai2 at h
 split at h
 ·simp only [canL,canX]
  rw [auA]
  obtain ⟨hl,rfl⟩:=h
  refine nP ⟨⟨rfl,hl,trivial⟩,rfl,rfl⟩ (fun hE=>?_)
  rcases at7 _ hE.1 with ⟨q1,q2,q3⟩ |⟨q1,q2⟩
  ·rw [q1,q2]
   exact ⟨fun _=>congrArg (fun z=>LV.v (.bool z)) q3.symm,fun h=>by cases h⟩
  ·rw [q1]
   exact ⟨fun h=>(by cases h),fun _=>congrArg (fun z=>LV.v (.bool z)) q2.symm⟩
 ·cases h)
structure iF where
 r:Bool
 i:Int
 ak:List Cd
 aC:List ByteArray
 aj:List Ko
 au:List Ch
 aK:List Ba
 l:List ByteArray
def aBA (s:iF):List LV:=[.own 0 0,.v (.bool s.r),.os 1 1 0 (List.length s.l),.v (.int .i64 s.i)]
def aAD (s:iF):List aT:=[⟨[.xl dZ s.ak,.xl .str s.aC,.xl eP s.aj,.xl dR s.au,.xl eU s.aK],28,.cl,false⟩,⟨[],9,.vec .str s.l,false⟩]
noncomputable def AU:Code:=((aG (Tryz.f87.body.getD .skip))[0]?).getD .skip
def QH (s:iF):T (Rd iF):=
 .br (decide (s.i<(List.length s.ak:Int))) (.req (0≤s.i∧s.i<(List.length s.ak:Int)) (.req (0+(List.length s.l)=List.length s.l∧((List.length s.l+List.length ([(fZ s.ak s.i).1]):Nat):Int)*16≤2^47∧((List.length s.l+List.length ([(fZ s.ak s.i).1]):Nat):Int)<2^62) (.req (0=0∧(List.length s.l+List.length ([(fZ s.ak s.i).1]))=List.length (s.l++([(fZ s.ak s.i).1]))) (.ok (.next {s with i:=(IntKind.i64.wrap (s.i+1)),l:=(s.l++([(fZ s.ak s.i).1]))}))))) (.rl s.l (.ok (.stop (.exit 0) s)))
abbrev aaK (s:iF):=(QH s).rd s
def akc (s:iF):Prop:=s.i=0∧(List.length s.ak:Int)≤1000∧(s.l.length:Int)≤5000+s.i
def UD (s:iF):Prop:=0≤s.i∧s.i≤(List.length s.ak:Int)∧(List.length s.ak:Int)≤1000∧(s.l.length:Int)≤5000+s.i
def Ox (s:iF):Nat:=((List.length s.ak:Int)-s.i).toNat
def arj (_:Ex) (_ _:iF):Prop:=True
theorem ayn:∀s,akc s→UD s:=by
 intro s h
 obtain ⟨h0,h1,h2⟩:=h
 exact ⟨by omega,by omega,h1,h2⟩
theorem at1 (s:iF) (hI:UD s):bQ (fun s'=>UD s'∧Ox s'<Ox s) (fun x s'=>arj x s s') (aaK s):=by
 unfold aaK QH
 dsimp only [T.rd,T.rl]
 obtain ⟨h0,h1,h2,h3⟩:=hI
 refine ax (fun c1=>?_) (fun c1=>?_)
 ·have c1:s.i<(List.length s.ak:Int):=by simpa using c1
  rw [aN (x:=s.i+1) (by omega) (by omega)]
  exact ⟨⟨by simp only;omega,by simp only;omega,h2,by simp only [List.length_append,List.length_cons,List.length_nil];omega⟩,by simp only [Ox];omega⟩
 ·trivial
def EC:bT iF:=⟨0,112,[1,2,3,4],[.nl 3 9 .str],aBA,aAD,fun v b=>⟨x9 (v.getD 1 .junk),gI (v.getD 3 .junk),aS dZ (aZ (aP b 0) 0),aS .str (aZ (aP b 0) 1),aS eP (aZ (aP b 0) 2),aS dR (aZ (aP b 0) 3),aS eU (aZ (aP b 0) 4),jy .str (aP b 1)⟩,QH,fun s r=> {r with r:=s.r,ak:=s.ak,aC:=s.aC,aj:=s.aj,au:=s.au,aK:=s.aK},fun s=>s,fun _ s=>s,[.exit 0],akc,UD,Ox⟩
abbrev jF:=EC.run
abbrev aog:=EC.kG
abbrev awC:=EC.q
theorem ate (s:iF) (hI:UD s):(QH s).all (fun _=>True):=by
 refine ⟨fun c1=>⟨?_,?_,?_,trivial⟩,fun c1=>⟨⟨rfl,rfl⟩,trivial⟩⟩
 iterate 2 · (obtain ⟨h0,h1,h2,h3⟩:=hI;simp only [decide_eq_true_eq] at c1;first|omega|(refine ⟨by omega,?_,?_⟩<;>simp only [List.length_cons,List.length_nil]<;>omega))
 ·exact ⟨rfl,by simp⟩
noncomputable def DZ:Specs:=bg [(122,P9),(123,aiN)]
theorem Ie:∀g S,DZ g=some S→Valid Tryz.prog aQ g S:=aU (l:=[(122,P9),(123,aiN)]) ⟨akt,axA,trivial⟩
theorem agl:EC.Ok:=⟨fun s=>by kernel_rfl,fun s=>by kernel_rfl,fun s=>rfl,fun s t r=>rfl,fun s=>rfl,fun s=>by kernel_rfl⟩
theorem afi:EC.Pf (arj):=⟨ayn,fun _ _=>rfl,at1,ate⟩
theorem ak5:bC Tryz.prog aQ (AN 0) (.loop AU) EC.lp:=bT.snd agl afi (aV (Γ:=DZ) (K:=fC) (L:=aF) Ie aH AU (fun b hb=>by rw [show aG AU=[] by kernel_rfl] at hb;cases hb)) (fun s=>by kernel_rfl)
theorem al3 (s:iF) (hE:akc s):(fun (x:Ex) (s':iF) (v:List ByteArray)=>x=.exit 0∧s'.l=v) (aog s) (jF s) ((fun s:iF=>s.l++(s.ak.drop s.i.toNat).map (·.1)) s):=by
 exact bT.xO agl afi (fun s:iF=>s.l++(s.ak.drop s.i.toNat).map (·.1)) (fun x s' v=>x=.exit 0∧s'.l=v) (fun s hI=>by
  show bQ _ _ (aaK s)
  unfold aaK QH
  dsimp only [T.rd,T.rl]
  obtain ⟨h0,h1,h2,h3⟩:=hI
  refine ax (fun c1=>?_) (fun c1=>?_)
  ·have c1:s.i<(List.length s.ak:Int):=by simpa using c1
   rw [aN (x:=s.i+1) (by omega) (by omega)]
   show _++_=_++_
   try simp only
   rw [(S9 h0 c1).1]
   simp
  ·have c1:(List.length s.ak:Int)≤s.i:=by simpa using c1
   refine ⟨rfl,?_⟩
   rw [List.drop_eq_nil_of_le (by omega)]
   simp) s hE
structure iU where
 r:Bool
 i:Int
 ak:List Cd
 aC:List ByteArray
 aj:List Ko
 au:List Ch
 aK:List Ba
 l:List ByteArray
def aBz (s:iU):List LV:=[.own 0 0,.v (.bool s.r),.os 1 1 0 (List.length s.l),.v (.int .i64 s.i)]
def aAC (s:iU):List aT:=[⟨[.xl dZ s.ak,.xl .str s.aC,.xl eP s.aj,.xl dR s.au,.xl eU s.aK],28,.cl,false⟩,⟨[],9,.vec .str s.l,false⟩]
noncomputable def AQ:Code:=((aG (Tryz.f87.body.getD .skip))[1]?).getD .skip
def QG (s:iU):T (Rd iU):=
 .br (decide (s.i<(List.length s.aC:Int))) (.req (0≤s.i∧s.i<(List.length s.aC:Int)) (.req (0+(List.length s.l)=List.length s.l∧((List.length s.l+List.length ([(gS s.aC s.i)]):Nat):Int)*16≤2^47∧((List.length s.l+List.length ([(gS s.aC s.i)]):Nat):Int)<2^62) (.req (0=0∧(List.length s.l+List.length ([(gS s.aC s.i)]))=List.length (s.l++([(gS s.aC s.i)]))) (.ok (.next {s with i:=(IntKind.i64.wrap (s.i+1)),l:=(s.l++([(gS s.aC s.i)]))}))))) (.rl s.l (.ok (.stop (.exit 2) s)))
abbrev aaJ (s:iU):=(QG s).rd s
def akb (s:iU):Prop:=s.i=0∧(List.length s.aC:Int)≤1000∧(s.l.length:Int)≤5000+s.i
def UC (s:iU):Prop:=0≤s.i∧s.i≤(List.length s.aC:Int)∧(List.length s.aC:Int)≤1000∧(s.l.length:Int)≤5000+s.i
def Ov (s:iU):Nat:=((List.length s.aC:Int)-s.i).toNat
def ari (_:Ex) (_ _:iU):Prop:=True
theorem aym:∀s,akb s→UC s:=by
 intro s h
 obtain ⟨h0,h1,h2⟩:=h
 exact ⟨by omega,by omega,h1,h2⟩
theorem atZ (s:iU) (hI:UC s):bQ (fun s'=>UC s'∧Ov s'<Ov s) (fun x s'=>ari x s s') (aaJ s):=by
 unfold aaJ QG
 dsimp only [T.rd,T.rl]
 obtain ⟨h0,h1,h2,h3⟩:=hI
 refine ax (fun c1=>?_) (fun c1=>?_)
 ·have c1:s.i<(List.length s.aC:Int):=by simpa using c1
  rw [aN (x:=s.i+1) (by omega) (by omega)]
  exact ⟨⟨by simp only;omega,by simp only;omega,h2,by simp only [List.length_append,List.length_cons,List.length_nil];omega⟩,by simp only [Ov];omega⟩
 ·trivial
def Ez:bT iU:=⟨0,112,[1,2,3,5],[],aBz,aAC,fun v b=>⟨x9 (v.getD 1 .junk),gI (v.getD 3 .junk),aS dZ (aZ (aP b 0) 0),aS .str (aZ (aP b 0) 1),aS eP (aZ (aP b 0) 2),aS dR (aZ (aP b 0) 3),aS eU (aZ (aP b 0) 4),jy .str (aP b 1)⟩,QG,fun s r=> {r with r:=s.r,ak:=s.ak,aC:=s.aC,aj:=s.aj,au:=s.au,aK:=s.aK},fun s=>s,fun _ s=>s,[.exit 2],akb,UC,Ov⟩
abbrev kV:=Ez.run
abbrev aof:=Ez.kG
abbrev awz:=Ez.q
theorem atd (s:iU) (hI:UC s):(QG s).all (fun _=>True):=by
 refine ⟨fun c1=>⟨?_,?_,?_,trivial⟩,fun c1=>⟨⟨rfl,rfl⟩,trivial⟩⟩
 iterate 2 · (obtain ⟨h0,h1,h2,h3⟩:=hI;simp only [decide_eq_true_eq] at c1;first|omega|(refine ⟨by omega,?_,?_⟩<;>simp only [List.length_cons,List.length_nil]<;>omega))
 ·exact ⟨rfl,by simp⟩
theorem agk:Ez.Ok:=⟨fun s=>by kernel_rfl,fun s=>by kernel_rfl,fun s=>rfl,fun s t r=>rfl,fun s=>rfl,fun s=>by kernel_rfl⟩
theorem afh:Ez.Pf (ari):=⟨aym,fun _ _=>rfl,atZ,atd⟩
theorem ak4:bC Tryz.prog aQ (AN 0) (.loop AQ) Ez.lp:=bT.snd agk afh (aV (Γ:=DZ) (K:=fC) (L:=aF) Ie aH AQ (fun b hb=>by rw [show aG AQ=[] by kernel_rfl] at hb;cases hb)) (fun s=>by kernel_rfl)
theorem al2 (s:iU) (hE:akb s):(fun (x:Ex) (s':iU) (v:List ByteArray)=>x=.exit 2∧s'.l=v) (aof s) (kV s) ((fun s:iU=>s.l++(s.aC.drop s.i.toNat)) s):=by
 exact bT.xO agk afh (fun s:iU=>s.l++(s.aC.drop s.i.toNat)) (fun x s' v=>x=.exit 2∧s'.l=v) (fun s hI=>by
  show bQ _ _ (aaJ s)
  unfold aaJ QG
  dsimp only [T.rd,T.rl]
  obtain ⟨h0,h1,h2,h3⟩:=hI
  refine ax (fun c1=>?_) (fun c1=>?_)
  ·have c1:s.i<(List.length s.aC:Int):=by simpa using c1
   rw [aN (x:=s.i+1) (by omega) (by omega)]
   show _++_=_++_
   try simp only
   rw [(uy h0 c1).1]
   simp
  ·have c1:(List.length s.aC:Int)≤s.i:=by simpa using c1
   refine ⟨rfl,?_⟩
   rw [List.drop_eq_nil_of_le (by omega)]
   simp) s hE
structure jC where
 r:Bool
 i:Int
 ak:List Cd
 aC:List ByteArray
 aj:List Ko
 au:List Ch
 aK:List Ba
 l:List ByteArray
def aBy (s:jC):List LV:=[.own 0 0,.v (.bool s.r),.os 1 1 0 (List.length s.l),.v (.int .i64 s.i)]
def aAB (s:jC):List aT:=[⟨[.xl dZ s.ak,.xl .str s.aC,.xl eP s.aj,.xl dR s.au,.xl eU s.aK],28,.cl,false⟩,⟨[],9,.vec .str s.l,false⟩]
noncomputable def AP:Code:=((aG (Tryz.f87.body.getD .skip))[2]?).getD .skip
def QF (s:jC):T (Rd jC):=
 .br (decide (s.i<(List.length s.aj:Int))) (.req (0≤s.i∧s.i<(List.length s.aj:Int)) (.req (0+(List.length s.l)=List.length s.l∧((List.length s.l+List.length ([(ng s.aj s.i).1]):Nat):Int)*16≤2^47∧((List.length s.l+List.length ([(ng s.aj s.i).1]):Nat):Int)<2^62) (.req (0=0∧(List.length s.l+List.length ([(ng s.aj s.i).1]))=List.length (s.l++([(ng s.aj s.i).1]))) (.ok (.next {s with i:=(IntKind.i64.wrap (s.i+1)),l:=(s.l++([(ng s.aj s.i).1]))}))))) (.rl s.l (.ok (.stop (.exit 4) s)))
abbrev aaI (s:jC):=(QF s).rd s
def aj9 (s:jC):Prop:=s.i=0∧(List.length s.aj:Int)≤1000∧(s.l.length:Int)≤5000+s.i
def UB (s:jC):Prop:=0≤s.i∧s.i≤(List.length s.aj:Int)∧(List.length s.aj:Int)≤1000∧(s.l.length:Int)≤5000+s.i
def Ou (s:jC):Nat:=((List.length s.aj:Int)-s.i).toNat
def arh (_:Ex) (_ _:jC):Prop:=True
theorem ayl:∀s,aj9 s→UB s:=by
 intro s h
 obtain ⟨h0,h1,h2⟩:=h
 exact ⟨by omega,by omega,h1,h2⟩
theorem atY (s:jC) (hI:UB s):bQ (fun s'=>UB s'∧Ou s'<Ou s) (fun x s'=>arh x s s') (aaI s):=by
 unfold aaI QF
 dsimp only [T.rd,T.rl]
 obtain ⟨h0,h1,h2,h3⟩:=hI
 refine ax (fun c1=>?_) (fun c1=>?_)
 ·have c1:s.i<(List.length s.aj:Int):=by simpa using c1
  rw [aN (x:=s.i+1) (by omega) (by omega)]
  exact ⟨⟨by simp only;omega,by simp only;omega,h2,by simp only [List.length_append,List.length_cons,List.length_nil];omega⟩,by simp only [Ou];omega⟩
 ·trivial
def Ey:bT jC:=⟨0,112,[1,2,3,6],[],aBy,aAB,fun v b=>⟨x9 (v.getD 1 .junk),gI (v.getD 3 .junk),aS dZ (aZ (aP b 0) 0),aS .str (aZ (aP b 0) 1),aS eP (aZ (aP b 0) 2),aS dR (aZ (aP b 0) 3),aS eU (aZ (aP b 0) 4),jy .str (aP b 1)⟩,QF,fun s r=> {r with r:=s.r,ak:=s.ak,aC:=s.aC,aj:=s.aj,au:=s.au,aK:=s.aK},fun s=>s,fun _ s=>s,[.exit 4],aj9,UB,Ou⟩
abbrev nT:=Ey.run
abbrev aoe:=Ey.kG
abbrev awy:=Ey.q
theorem atc (s:jC) (hI:UB s):(QF s).all (fun _=>True):=by
 refine ⟨fun c1=>⟨?_,?_,?_,trivial⟩,fun c1=>⟨⟨rfl,rfl⟩,trivial⟩⟩
 iterate 2 · (obtain ⟨h0,h1,h2,h3⟩:=hI;simp only [decide_eq_true_eq] at c1;first|omega|(refine ⟨by omega,?_,?_⟩<;>simp only [List.length_cons,List.length_nil]<;>omega))
 ·exact ⟨rfl,by simp⟩
theorem agj:Ey.Ok:=⟨fun s=>by kernel_rfl,fun s=>by kernel_rfl,fun s=>rfl,fun s t r=>rfl,fun s=>rfl,fun s=>by kernel_rfl⟩
theorem afg:Ey.Pf (arh):=⟨ayl,fun _ _=>rfl,atY,atc⟩
theorem ak3:bC Tryz.prog aQ (AN 0) (.loop AP) Ey.lp:=bT.snd agj afg (aV (Γ:=DZ) (K:=fC) (L:=aF) Ie aH AP (fun b hb=>by rw [show aG AP=[] by kernel_rfl] at hb;cases hb)) (fun s=>by kernel_rfl)
theorem al1 (s:jC) (hE:aj9 s):(fun (x:Ex) (s':jC) (v:List ByteArray)=>x=.exit 4∧s'.l=v) (aoe s) (nT s) ((fun s:jC=>s.l++(s.aj.drop s.i.toNat).map (·.1)) s):=by
 exact bT.xO agj afg (fun s:jC=>s.l++(s.aj.drop s.i.toNat).map (·.1)) (fun x s' v=>x=.exit 4∧s'.l=v) (fun s hI=>by
  show bQ _ _ (aaI s)
  unfold aaI QF
  dsimp only [T.rd,T.rl]
  obtain ⟨h0,h1,h2,h3⟩:=hI
  refine ax (fun c1=>?_) (fun c1=>?_)
  ·have c1:s.i<(List.length s.aj:Int):=by simpa using c1
   rw [aN (x:=s.i+1) (by omega) (by omega)]
   show _++_=_++_
   try simp only
   rw [(Ip h0 c1).1]
   simp
  ·have c1:(List.length s.aj:Int)≤s.i:=by simpa using c1
   refine ⟨rfl,?_⟩
   rw [List.drop_eq_nil_of_le (by omega)]
   simp) s hE
structure jP where
 r:Bool
 i:Int
 ak:List Cd
 aC:List ByteArray
 aj:List Ko
 au:List Ch
 aK:List Ba
 l:List ByteArray
def aBx (s:jP):List LV:=[.own 0 0,.v (.bool s.r),.os 1 1 0 (List.length s.l),.v (.int .i64 s.i)]
def aAA (s:jP):List aT:=[⟨[.xl dZ s.ak,.xl .str s.aC,.xl eP s.aj,.xl dR s.au,.xl eU s.aK],28,.cl,false⟩,⟨[],9,.vec .str s.l,false⟩]
noncomputable def AO:Code:=((aG (Tryz.f87.body.getD .skip))[3]?).getD .skip
def QE (s:jP):T (Rd jP):=
 .br (decide (s.i<(List.length s.au:Int))) (.req (0≤s.i∧s.i<(List.length s.au:Int)) (.req (0+(List.length s.l)=List.length s.l∧((List.length s.l+List.length ([(bF s.au s.i).1]):Nat):Int)*16≤2^47∧((List.length s.l+List.length ([(bF s.au s.i).1]):Nat):Int)<2^62) (.req (0=0∧(List.length s.l+List.length ([(bF s.au s.i).1]))=List.length (s.l++([(bF s.au s.i).1]))) (.ok (.next {s with i:=(IntKind.i64.wrap (s.i+1)),l:=(s.l++([(bF s.au s.i).1]))}))))) (.rl s.l (.ok (.stop (.exit 6) s)))
abbrev aaH (s:jP):=(QE s).rd s
def aj8 (s:jP):Prop:=s.i=0∧(List.length s.au:Int)≤1000∧(s.l.length:Int)≤5000+s.i
def UA (s:jP):Prop:=0≤s.i∧s.i≤(List.length s.au:Int)∧(List.length s.au:Int)≤1000∧(s.l.length:Int)≤5000+s.i
def Ot (s:jP):Nat:=((List.length s.au:Int)-s.i).toNat
def arf (_:Ex) (_ _:jP):Prop:=True
theorem ayk:∀s,aj8 s→UA s:=by
 intro s h
 obtain ⟨h0,h1,h2⟩:=h
 exact ⟨by omega,by omega,h1,h2⟩
theorem atX (s:jP) (hI:UA s):bQ (fun s'=>UA s'∧Ot s'<Ot s) (fun x s'=>arf x s s') (aaH s):=by
 unfold aaH QE
 dsimp only [T.rd,T.rl]
 obtain ⟨h0,h1,h2,h3⟩:=hI
 refine ax (fun c1=>?_) (fun c1=>?_)
 ·have c1:s.i<(List.length s.au:Int):=by simpa using c1
  rw [aN (x:=s.i+1) (by omega) (by omega)]
  exact ⟨⟨by simp only;omega,by simp only;omega,h2,by simp only [List.length_append,List.length_cons,List.length_nil];omega⟩,by simp only [Ot];omega⟩
 ·trivial
def Ew:bT jP:=⟨0,112,[1,2,3,7],[],aBx,aAA,fun v b=>⟨x9 (v.getD 1 .junk),gI (v.getD 3 .junk),aS dZ (aZ (aP b 0) 0),aS .str (aZ (aP b 0) 1),aS eP (aZ (aP b 0) 2),aS dR (aZ (aP b 0) 3),aS eU (aZ (aP b 0) 4),jy .str (aP b 1)⟩,QE,fun s r=> {r with r:=s.r,ak:=s.ak,aC:=s.aC,aj:=s.aj,au:=s.au,aK:=s.aK},fun s=>s,fun _ s=>s,[.exit 6],aj8,UA,Ot⟩
abbrev qK:=Ew.run
abbrev aod:=Ew.kG
abbrev awx:=Ew.q
theorem atb (s:jP) (hI:UA s):(QE s).all (fun _=>True):=by
 refine ⟨fun c1=>⟨?_,?_,?_,trivial⟩,fun c1=>⟨⟨rfl,rfl⟩,trivial⟩⟩
 iterate 2 · (obtain ⟨h0,h1,h2,h3⟩:=hI;simp only [decide_eq_true_eq] at c1;first|omega|(refine ⟨by omega,?_,?_⟩<;>simp only [List.length_cons,List.length_nil]<;>omega))
 ·exact ⟨rfl,by simp⟩
theorem agi:Ew.Ok:=⟨fun s=>by kernel_rfl,fun s=>by kernel_rfl,fun s=>rfl,fun s t r=>rfl,fun s=>rfl,fun s=>by kernel_rfl⟩
theorem aff:Ew.Pf (arf):=⟨ayk,fun _ _=>rfl,atX,atb⟩
theorem ak2:bC Tryz.prog aQ (AN 0) (.loop AO) Ew.lp:=bT.snd agi aff (aV (Γ:=DZ) (K:=fC) (L:=aF) Ie aH AO (fun b hb=>by rw [show aG AO=[] by kernel_rfl] at hb;cases hb)) (fun s=>by kernel_rfl)
theorem al0 (s:jP) (hE:aj8 s):(fun (x:Ex) (s':jP) (v:List ByteArray)=>x=.exit 6∧s'.l=v) (aod s) (qK s) ((fun s:jP=>s.l++(s.au.drop s.i.toNat).map (·.1)) s):=by
 exact bT.xO agi aff (fun s:jP=>s.l++(s.au.drop s.i.toNat).map (·.1)) (fun x s' v=>x=.exit 6∧s'.l=v) (fun s hI=>by
  show bQ _ _ (aaH s)
  unfold aaH QE
  dsimp only [T.rd,T.rl]
  obtain ⟨h0,h1,h2,h3⟩:=hI
  refine ax (fun c1=>?_) (fun c1=>?_)
  ·have c1:s.i<(List.length s.au:Int):=by simpa using c1
   rw [aN (x:=s.i+1) (by omega) (by omega)]
   show _++_=_++_
   try simp only
   rw [(SY h0 c1).1]
   simp
  ·have c1:(List.length s.au:Int)≤s.i:=by simpa using c1
   refine ⟨rfl,?_⟩
   rw [List.drop_eq_nil_of_le (by omega)]
   simp) s hE
structure kR where
 r:Bool
 i:Int
 ak:List Cd
 aC:List ByteArray
 aj:List Ko
 au:List Ch
 aK:List Ba
 l:List ByteArray
def aBw (s:kR):List LV:=[.own 0 0,.v (.bool s.r),.os 1 1 0 (List.length s.l),.v (.int .i64 s.i)]
def aAz (s:kR):List aT:=[⟨[.xl dZ s.ak,.xl .str s.aC,.xl eP s.aj,.xl dR s.au,.xl eU s.aK],28,.cl,false⟩,⟨[],9,.vec .str s.l,false⟩]
noncomputable def AL:Code:=((aG (Tryz.f87.body.getD .skip))[4]?).getD .skip
def QD (s:kR):T (Rd kR):=
 .br (decide (s.i<(List.length s.aK:Int))) (.req (0≤s.i∧s.i<(List.length s.aK:Int)) (.req (0+(List.length s.l)=List.length s.l∧((List.length s.l+List.length ([(Cc s.aK s.i).1]):Nat):Int)*16≤2^47∧((List.length s.l+List.length ([(Cc s.aK s.i).1]):Nat):Int)<2^62) (.req (0=0∧(List.length s.l+List.length ([(Cc s.aK s.i).1]))=List.length (s.l++([(Cc s.aK s.i).1]))) (.ok (.next {s with i:=(IntKind.i64.wrap (s.i+1)),l:=(s.l++([(Cc s.aK s.i).1]))}))))) (.rl s.l (.ok (.stop (.exit 8) s)))
abbrev aaG (s:kR):=(QD s).rd s
def aj7 (s:kR):Prop:=s.i=0∧(List.length s.aK:Int)≤1000∧(s.l.length:Int)≤5000+s.i
def Uz (s:kR):Prop:=0≤s.i∧s.i≤(List.length s.aK:Int)∧(List.length s.aK:Int)≤1000∧(s.l.length:Int)≤5000+s.i
def Oq (s:kR):Nat:=((List.length s.aK:Int)-s.i).toNat
def ard (_:Ex) (_ _:kR):Prop:=True
theorem ayj:∀s,aj7 s→Uz s:=by
 intro s h
 obtain ⟨h0,h1,h2⟩:=h
 exact ⟨by omega,by omega,h1,h2⟩
theorem atW (s:kR) (hI:Uz s):bQ (fun s'=>Uz s'∧Oq s'<Oq s) (fun x s'=>ard x s s') (aaG s):=by
 unfold aaG QD
 dsimp only [T.rd,T.rl]
 obtain ⟨h0,h1,h2,h3⟩:=hI
 refine ax (fun c1=>?_) (fun c1=>?_)
 ·have c1:s.i<(List.length s.aK:Int):=by simpa using c1
  rw [aN (x:=s.i+1) (by omega) (by omega)]
  exact ⟨⟨by simp only;omega,by simp only;omega,h2,by simp only [List.length_append,List.length_cons,List.length_nil];omega⟩,by simp only [Oq];omega⟩
 ·trivial
def Eu:bT kR:=⟨0,112,[1,2,3,8],[],aBw,aAz,fun v b=>⟨x9 (v.getD 1 .junk),gI (v.getD 3 .junk),aS dZ (aZ (aP b 0) 0),aS .str (aZ (aP b 0) 1),aS eP (aZ (aP b 0) 2),aS dR (aZ (aP b 0) 3),aS eU (aZ (aP b 0) 4),jy .str (aP b 1)⟩,QD,fun s r=> {r with r:=s.r,ak:=s.ak,aC:=s.aC,aj:=s.aj,au:=s.au,aK:=s.aK},fun s=>s,fun _ s=>s,[.exit 8],aj7,Uz,Oq⟩
abbrev wL:=Eu.run
abbrev aoc:=Eu.kG
abbrev aww:=Eu.q
theorem ata (s:kR) (hI:Uz s):(QD s).all (fun _=>True):=by
 refine ⟨fun c1=>⟨?_,?_,?_,trivial⟩,fun c1=>⟨⟨rfl,rfl⟩,trivial⟩⟩
 iterate 2 · (obtain ⟨h0,h1,h2,h3⟩:=hI;simp only [decide_eq_true_eq] at c1;first|omega|(refine ⟨by omega,?_,?_⟩<;>simp only [List.length_cons,List.length_nil]<;>omega))
 ·exact ⟨rfl,by simp⟩
theorem agh:Eu.Ok:=⟨fun s=>by kernel_rfl,fun s=>by kernel_rfl,fun s=>rfl,fun s t r=>rfl,fun s=>rfl,fun s=>by kernel_rfl⟩
theorem afe:Eu.Pf (ard):=⟨ayj,fun _ _=>rfl,atW,ata⟩
theorem ak1:bC Tryz.prog aQ (AN 0) (.loop AL) Eu.lp:=bT.snd agh afe (aV (Γ:=DZ) (K:=fC) (L:=aF) Ie aH AL (fun b hb=>by rw [show aG AL=[] by kernel_rfl] at hb;cases hb)) (fun s=>by kernel_rfl)
theorem alZ (s:kR) (hE:aj7 s):(fun (x:Ex) (s':kR) (v:List ByteArray)=>x=.exit 8∧s'.l=v) (aoc s) (wL s) ((fun s:kR=>s.l++(s.aK.drop s.i.toNat).map (·.1)) s):=by
 exact bT.xO agh afe (fun s:kR=>s.l++(s.aK.drop s.i.toNat).map (·.1)) (fun x s' v=>x=.exit 8∧s'.l=v) (fun s hI=>by
  show bQ _ _ (aaG s)
  unfold aaG QD
  dsimp only [T.rd,T.rl]
  obtain ⟨h0,h1,h2,h3⟩:=hI
  refine ax (fun c1=>?_) (fun c1=>?_)
  ·have c1:s.i<(List.length s.aK:Int):=by simpa using c1
   rw [aN (x:=s.i+1) (by omega) (by omega)]
   show _++_=_++_
   try simp only
   rw [(Tc h0 c1).1]
   simp
  ·have c1:(List.length s.aK:Int)≤s.i:=by simpa using c1
   refine ⟨rfl,?_⟩
   rw [List.drop_eq_nil_of_le (by omega)]
   simp) s hE
structure nD where
 r:Bool
 i:Int
 l:List ByteArray
def aBv (s:nD):List LV:=[.v (.bool s.r),.os 0 1 0 (List.length s.l),.v (.int .i64 s.i)]
def aAy (s:nD):List aT:=[⟨[],9,.vec .str s.l,false⟩]
noncomputable def AB:Code:=((aG (Tryz.f87.body.getD .skip))[5]?).getD .skip
def YV (s:nD):T (Rd nD):=
 .br (decide (s.i<((List.length s.l:Nat):Int))) (.req (0≤s.i∧s.i<((List.length s.l:Nat):Int)) (.req (s.i.toNat<List.length s.l) (.req (((s.l.getD s.i.toNat (Ty.dflt .str)).size:Int)≤9223372036854775807) (.br (!(nameB (s.l.getD s.i.toNat (Ty.dflt .str)))) (.rl s.l (.ok (.stop (.ret) {s with r:=false}))) (.req (0≤(0:Int)∧(0:Int)≤s.i∧s.i≤((List.length s.l:Nat):Int)) (.req (0≤s.i∧s.i<((List.length s.l:Nat):Int)) (.req (s.i.toNat<List.length s.l) (.req ((0+(0:Int).toNat)+(s.i.toNat-(0:Int).toNat)≤List.length s.l) (.req ((List.length ((s.l.drop (0+(0:Int).toNat)).take (s.i.toNat-(0:Int).toNat)):Int)≤1000) (.br (isIn ((s.l.drop (0+(0:Int).toNat)).take (s.i.toNat-(0:Int).toNat)) (s.l.getD s.i.toNat (Ty.dflt .str))) (.rl s.l (.ok (.stop (.ret) {s with r:=false}))) (.rl s.l (.ok (.next {s with i:=(IntKind.i64.wrap (s.i+1))}))))))))))))) (.rl s.l (.ok (.stop (.exit 10) s)))
abbrev aqM (s:nD):=(YV s).rd s
def Nj (s:nD) (j:Int):Bool:=nameB (gS s.l j)&&!(((s.l.take j.toNat).map id).contains (id (gS s.l j)))
theorem ayh (s:nD) (_:0≤s.i):Nj s s.i=(nameB (s.l.getD s.i.toNat (Ty.dflt .str))&&!(isIn ((s.l.drop (0+(0:Int).toNat)).take (s.i.toNat-(0:Int).toNat)) (s.l.getD s.i.toNat (Ty.dflt .str)))):=by
 unfold Nj
 rw [List.map_id,JP]
 rfl
def aj6 (s:nD):Prop:=s.i=0∧(List.length s.l:Int)≤1000∧nmR s.l
def L8 (s:nD):Prop:=(0≤s.i∧s.i≤(List.length s.l:Int))∧(∀j:Nat,(j:Int)<s.i→Nj s j=true)∧(List.length s.l:Int)≤1000∧nmR s.l
def Oo (s:nD):Nat:=((List.length s.l:Int)-s.i).toNat
def acK (x:Ex) (_ s':nD):Prop:=(x=.exit 10∧∀j:Nat,(j:Int)<(List.length s'.l:Int)→Nj s' j=true)∨(x=.ret∧s'.r=false∧∃j:Nat,(j:Int)<(List.length s'.l:Int)∧Nj s' j=false)
theorem ayi:∀s,aj6 s→L8 s:=by
 intro s h
 obtain ⟨h0,h1,h2⟩:=h
 exact ⟨by omega,fun j hj=>by omega,h1,h2⟩
theorem atV (s:nD) (hI:L8 s):bQ (fun s'=>L8 s'∧Oo s'<Oo s) (fun x s'=>acK x s s') (aqM s):=by
 unfold aqM YV
 dsimp only [T.rd,T.rl]
 obtain ⟨⟨h0,h1⟩,h2,h3,h4⟩:=hI
 have hg:=ayh s h0
 refine ax (fun c1=>?_) (fun c1=>?_)
 rotate_left
 ·have c1:(List.length s.l:Int)≤s.i:=by simpa using c1
  exact .inl ⟨rfl,fun j hj=>h2 j (by omega)⟩
 have c1:s.i<(List.length s.l:Int):=by simpa using c1
 have bad:Nj s s.i=false→acK .ret s {s with r:=false}:=fun hg=> .inr ⟨rfl,rfl,s.i.toNat,by simp only;omega,by rw [Int.toNat_of_nonneg h0];exact hg⟩
 refine ax (fun c2=>bad ?_) (fun c2=>ax (fun c3=>bad ?_) (fun c3=>?_))
 ·rw [hg]
  simp only [Bool.not_eq_true'] at c2
  rw [c2]
  rfl
 ·rw [hg,c3]
  simp
 ·rw [c3] at hg
  simp only [Bool.not_eq_false'] at c2
  rw [c2] at hg
  rw [aN (x:=s.i+1) (by omega) (by omega)]
  refine ⟨⟨⟨by simp only;omega,by simp only;omega⟩,fun j hj=>?_,h3,h4⟩,by simp only [Oo];omega⟩
  by_cases hji:(j:Int)<s.i
  ·exact h2 j hji
  ·have:(j:Int)=s.i:=by simp only at hj;omega
   rw [this];exact hg
def Et:bT nD:=⟨0,112,[2,3,9],[],aBv,aAy,fun v b=>⟨x9 (v.getD 0 .junk),gI (v.getD 2 .junk),jy .str (aP b 0)⟩,YV,fun s r=> {r with l:=s.l},fun s=>s,fun _ s=>s,[.ret,.exit 10],aj6,L8,Oo⟩
abbrev Zw:=Et.run
abbrev aa9:=Et.kG
abbrev awv:=Et.q
theorem as9 (s:nD) (hI:L8 s):(YV s).all (fun _=>True):=by
 refine ⟨fun c1=>⟨?_,?_,?_,fun c2=>⟨⟨rfl,rfl⟩,trivial⟩,fun c2=>⟨?_,?_,?_,?_,?_,fun c3=>⟨⟨rfl,rfl⟩,trivial⟩,fun c3=>⟨⟨rfl,rfl⟩,trivial⟩⟩⟩,fun c1=>⟨⟨rfl,rfl⟩,trivial⟩⟩
 iterate 2 · (obtain ⟨⟨h0,h1⟩,h2,h3,h4⟩:=hI;simp only [decide_eq_true_eq] at c1;first|omega|(simp only [List.length_take,List.length_drop];omega))
 ·(obtain ⟨⟨h0,h1⟩,h2,h3,h4⟩:=hI;simp only [decide_eq_true_eq] at c1;have hm:gS s.l s.i∈s.l:=(by rw [azC (by omega)];exact List.getElem_mem _);exact h4 _ hm)
 iterate 5 · (obtain ⟨⟨h0,h1⟩,h2,h3,h4⟩:=hI;simp only [decide_eq_true_eq] at c1;first|omega|(simp only [List.length_take,List.length_drop];omega))
theorem agf:Et.Ok:=⟨fun s=>by kernel_rfl,fun s=>by kernel_rfl,fun s=>rfl,fun s t r=>rfl,fun s=>rfl,fun s=>by kernel_rfl⟩
theorem afd:Et.Pf (acK):=⟨ayi,fun _ _=>rfl,atV,as9⟩
theorem ak0:bC Tryz.prog aQ (AN 0) (.loop AB) Et.lp:=bT.snd agf afd (aV (Γ:=DZ) (K:=fC) (L:=aF) Ie aH AB (fun b hb=>by rw [show aG AB=[] by kernel_rfl] at hb;cases hb)) (fun s=>by kernel_rfl)
theorem alY (s:nD) (hE:aj6 s):∃s',L8 s'∧acK (aa9 s) s' (Zw s):=bT.fin agf afd s hE
def abQ:List LV→T LV
 | [.agg [.xl (.pair .str (.pair (.int .i64) (.pair (.int .i64) (.pair (.int .i64) (.pair (.pair (.int .i64) (.int .i64)) (.pair (.int .i64) (.pair (.int .i64) (.pair (.int .i64) (.pair (.int .i64) (.int .i64)))))))))) cs,.xl (.str) os,.xl (.pair .str (.pair (.int .i64) (.pair (.int .i64) (.int .i64)))) ks,.xl (.pair .str (.pair (.int .i64) (.pair (.int .i64) (.pair (.int .i64) (.pair (.int .i64) (.pair (.int .i64) (.pair (.int .i64) (.int .i64)))))))) gs,.xl (.pair .str (.int .i64)) bs]]=> .req (((List.length cs:Int)≤100∧(List.length os:Int)≤100∧(List.length ks:Int)≤100∧(List.length gs:Int)≤100∧(List.length bs:Int)≤100)∧nmR (gK cs os ks gs bs)) (.ok (.v (.bool (nmB (gK cs os ks gs bs)))))
 |_=> .no
noncomputable def XI:List LV→T LV:=gZ Tryz.prog Tryz.f87.params.toList abQ
theorem amS (cs:List Cd) (os:List ByteArray) (ks:List Ko) (gs:List Ch) (bs:List Ba):bY Tryz.prog aQ (DZ) fC (fun i=>if i=3 then EC.lp else if i=7 then Ez.lp else if i=11 then Ey.lp else if i=15 then Ew.lp else if i=19 then Eu.lp else if i=23 then Et.lp else aF i) Tryz.f87 [.agg [.xl dZ cs,.xl .str os,.xl eP ks,.xl dR gs,.xl eU bs]]=.req (0=0∧0=List.length ([]:List ByteArray)) (.req (awC (⟨false,(0:Int),cs,os,ks,gs,bs,([]:List ByteArray)⟩:iF)) (.rl (jF (⟨false,(0:Int),cs,os,ks,gs,bs,([]:List ByteArray)⟩:iF)).l (.req (awz (⟨false,(0:Int),cs,os,ks,gs,bs,(jF (⟨false,(0:Int),cs,os,ks,gs,bs,([]:List ByteArray)⟩:iF)).l⟩:iU)) (.rl (kV (⟨false,(0:Int),cs,os,ks,gs,bs,(jF (⟨false,(0:Int),cs,os,ks,gs,bs,([]:List ByteArray)⟩:iF)).l⟩:iU)).l (.req (awy (⟨false,(0:Int),cs,os,ks,gs,bs,(kV (⟨false,(0:Int),cs,os,ks,gs,bs,(jF (⟨false,(0:Int),cs,os,ks,gs,bs,([]:List ByteArray)⟩:iF)).l⟩:iU)).l⟩:jC)) (.rl (nT (⟨false,(0:Int),cs,os,ks,gs,bs,(kV (⟨false,(0:Int),cs,os,ks,gs,bs,(jF (⟨false,(0:Int),cs,os,ks,gs,bs,([]:List ByteArray)⟩:iF)).l⟩:iU)).l⟩:jC)).l (.req (awx (⟨false,(0:Int),cs,os,ks,gs,bs,(nT (⟨false,(0:Int),cs,os,ks,gs,bs,(kV (⟨false,(0:Int),cs,os,ks,gs,bs,(jF (⟨false,(0:Int),cs,os,ks,gs,bs,([]:List ByteArray)⟩:iF)).l⟩:iU)).l⟩:jC)).l⟩:jP)) (.rl (qK (⟨false,(0:Int),cs,os,ks,gs,bs,(nT (⟨false,(0:Int),cs,os,ks,gs,bs,(kV (⟨false,(0:Int),cs,os,ks,gs,bs,(jF (⟨false,(0:Int),cs,os,ks,gs,bs,([]:List ByteArray)⟩:iF)).l⟩:iU)).l⟩:jC)).l⟩:jP)).l (.req (aww (⟨false,(0:Int),cs,os,ks,gs,bs,(qK (⟨false,(0:Int),cs,os,ks,gs,bs,(nT (⟨false,(0:Int),cs,os,ks,gs,bs,(kV (⟨false,(0:Int),cs,os,ks,gs,bs,(jF (⟨false,(0:Int),cs,os,ks,gs,bs,([]:List ByteArray)⟩:iF)).l⟩:iU)).l⟩:jC)).l⟩:jP)).l⟩:kR)) (.rl (wL (⟨false,(0:Int),cs,os,ks,gs,bs,(qK (⟨false,(0:Int),cs,os,ks,gs,bs,(nT (⟨false,(0:Int),cs,os,ks,gs,bs,(kV (⟨false,(0:Int),cs,os,ks,gs,bs,(jF (⟨false,(0:Int),cs,os,ks,gs,bs,([]:List ByteArray)⟩:iF)).l⟩:iU)).l⟩:jC)).l⟩:jP)).l⟩:kR)).l (.req (awv (⟨false,(0:Int),(wL (⟨false,(0:Int),cs,os,ks,gs,bs,(qK (⟨false,(0:Int),cs,os,ks,gs,bs,(nT (⟨false,(0:Int),cs,os,ks,gs,bs,(kV (⟨false,(0:Int),cs,os,ks,gs,bs,(jF (⟨false,(0:Int),cs,os,ks,gs,bs,([]:List ByteArray)⟩:iF)).l⟩:iU)).l⟩:jC)).l⟩:jP)).l⟩:kR)).l⟩:nD)) (.br (iQ (aa9 (⟨false,(0:Int),(wL (⟨false,(0:Int),cs,os,ks,gs,bs,(qK (⟨false,(0:Int),cs,os,ks,gs,bs,(nT (⟨false,(0:Int),cs,os,ks,gs,bs,(kV (⟨false,(0:Int),cs,os,ks,gs,bs,(jF (⟨false,(0:Int),cs,os,ks,gs,bs,([]:List ByteArray)⟩:iF)).l⟩:iU)).l⟩:jC)).l⟩:jP)).l⟩:kR)).l⟩:nD)) (.ret)) (.ok (.v (.bool (Zw (⟨false,(0:Int),(wL (⟨false,(0:Int),cs,os,ks,gs,bs,(qK (⟨false,(0:Int),cs,os,ks,gs,bs,(nT (⟨false,(0:Int),cs,os,ks,gs,bs,(kV (⟨false,(0:Int),cs,os,ks,gs,bs,(jF (⟨false,(0:Int),cs,os,ks,gs,bs,([]:List ByteArray)⟩:iF)).l⟩:iU)).l⟩:jC)).l⟩:jP)).l⟩:kR)).l⟩:nD)).r))) (.ok (.v (.bool true))))))))))))))):=by kernel_rfl
theorem arK:Valid Tryz.prog aQ 87 XI:=aI Tryz.func87 rfl Ie aH (L:=(fun i=>if i=3 then EC.lp else if i=7 then Ez.lp else if i=11 then Ey.lp else if i=15 then Ew.lp else if i=19 then Eu.lp else if i=23 then Et.lp else aF i)) (fun b hb=>by
 rw [show aG _=[AU,AQ,AP,AO,AL,AB] by kernel_rfl] at hb
 simp only [List.mem_cons,List.not_mem_nil,or_false] at hb
 rcases hb with rfl|rfl|rfl|rfl|rfl|rfl
 ·exact ak5
 ·exact ak4
 ·exact ak3
 ·exact ak2
 ·exact ak1
 ·exact ak0) (fun args lv h=>by
 unfold abQ at h
 split at h
 ·simp only [canL,canX]
  rw [amS]
  rename_i cs os ks gs bs
  obtain ⟨⟨⟨hc,ho,hk,hg,hb⟩,hn⟩,rfl⟩:=h
  refine ⟨⟨rfl,rfl⟩,nP ⟨⟨rfl,by simp only;omega,by simp only;decide⟩,rfl,rfl⟩ (fun hE0=>?_)⟩
  have o0:=(al3 _ hE0.1).2
  generalize (jF ⟨false,(0:Int),cs,os,ks,gs,bs,([]:List ByteArray)⟩).l=r0 at o0⊢
  have o0:r0=([]:List ByteArray)++cs.map (·.1):=o0
  have l0:(List.length r0:Int)≤100:=by rw [o0];simp only [List.length_append,List.length_map,List.length_nil];omega
  refine ⟨⟨rfl,rfl⟩,nP ⟨⟨rfl,by simp only;omega,by simp only;omega⟩,rfl,rfl⟩ (fun hE1=>?_)⟩
  have o1:=(al2 _ hE1.1).2
  generalize (kV ⟨false,(0:Int),cs,os,ks,gs,bs,r0⟩).l=r1 at o1⊢
  have o1:r1=r0++os:=o1
  have l1:(List.length r1:Int)≤200:=by rw [o1];simp only [List.length_append];omega
  refine ⟨⟨rfl,rfl⟩,nP ⟨⟨rfl,by simp only;omega,by simp only;omega⟩,rfl,rfl⟩ (fun hE2=>?_)⟩
  have o2:=(al1 _ hE2.1).2
  generalize (nT ⟨false,(0:Int),cs,os,ks,gs,bs,r1⟩).l=r2 at o2⊢
  have o2:r2=r1++ks.map (·.1):=o2
  have l2:(List.length r2:Int)≤300:=by rw [o2];simp only [List.length_append,List.length_map];omega
  refine ⟨⟨rfl,rfl⟩,nP ⟨⟨rfl,by simp only;omega,by simp only;omega⟩,rfl,rfl⟩ (fun hE3=>?_)⟩
  have o3:=(al0 _ hE3.1).2
  generalize (qK ⟨false,(0:Int),cs,os,ks,gs,bs,r2⟩).l=r3 at o3⊢
  have o3:r3=r2++gs.map (·.1):=o3
  have l3:(List.length r3:Int)≤400:=by rw [o3];simp only [List.length_append,List.length_map];omega
  refine ⟨⟨rfl,rfl⟩,nP ⟨⟨rfl,by simp only;omega,by simp only;omega⟩,rfl,rfl⟩ (fun hE4=>?_)⟩
  have o4:=(alZ _ hE4.1).2
  generalize (wL ⟨false,(0:Int),cs,os,ks,gs,bs,r3⟩).l=r4 at o4⊢
  have o4:r4=r3++bs.map (·.1):=o4
  have l4:(List.length r4:Int)≤500:=by rw [o4];simp only [List.length_append,List.length_map];omega
  have e:r4=gK cs os ks gs bs:=by rw [o4,o3,o2,o1,o0,List.nil_append];rfl
  subst e
  refine ⟨⟨rfl,rfl⟩,nP ⟨⟨rfl,by simp only;omega,hn⟩,rfl,rfl⟩ (fun hE=>?_)⟩
  obtain ⟨s',_,hq⟩:=alY _ hE.1
  unfold nmB
  generalize gK cs os ks gs bs=l at*
  rcases hq with ⟨q1,q2⟩ |⟨q1,q2,j,q3,q4⟩
  ·rw [q1]
   have hk:=(kM (d:=emp) (p:=nameB) (k:=id)).1 q2
   rw [List.map_id] at hk
   rw [show (l.all nameB&&once l)=true from hk]
   exact ⟨fun h=>(by cases h),fun _=>rfl⟩
  ·rw [q1,q2]
   refine ⟨fun _=>congrArg (fun z=>LV.v (.bool z)) ?_,fun h=>by cases h⟩
   rw [eq_comm,Bool.eq_false_iff]
   intro hx
   have:=(kM (d:=emp) (p:=nameB) (k:=id)).2 (by rw [List.map_id];exact hx) j q3
   exact Bool.noConfusion (this.symm.trans q4)
 ·cases h)
end Go.Proofs.YtlihnbimgclogaaGreatDoor
namespace Go.Proofs.YtlihnbimgclogaaGreatDoor
open Go.Sx
structure iZ where
 r:Bool
 i:Int
 ak:List Cd
 aC:List ByteArray
 aj:List Ko
 au:List Ch
 aK:List Ba
def aBt (s:iZ):List LV:=[.own 0 0,.v (.bool s.r),.v (.int .i64 s.i)]
def aAw (s:iZ):List aT:=[⟨[.xl dZ s.ak,.xl .str s.aC,.xl eP s.aj,.xl dR s.au,.xl eU s.aK],28,.cl,false⟩]
noncomputable def Az:Code:=((aG (Tryz.f49.body.getD .skip))[0]?).getD .skip
def YT (s:iZ):T (Rd iZ):=
 .br (decide (s.i<(List.length s.ak:Int))) (.req (0≤s.i∧s.i<(List.length s.ak:Int)) (.req (0≤s.i∧s.i≤1000) (.br (!(Eb s.i (fZ s.ak s.i))) (.ok (.stop (.ret) {s with r:=false})) (.ok (.next {s with i:=(IntKind.i64.wrap (s.i+1))}))))) (.ok (.stop (.exit 0) s))
abbrev aqK (s:iZ):=(YT s).rd s
def Jo (s:iZ) (j:Int):Bool:=Eb j (fZ s.ak j)
def aj2 (s:iZ):Prop:=s.i=0∧0≤(List.length s.ak:Int)∧(List.length s.ak:Int)≤1000∧True
def LZ (s:iZ):Prop:=0≤s.i∧s.i≤(List.length s.ak:Int)∧(List.length s.ak:Int)≤1000∧(True)∧∀j:Nat,(j:Int)<s.i→Jo s j=true
def Ol (s:iZ):Nat:=((List.length s.ak:Int)-s.i).toNat
def ajp (x:Ex) (_ s':iZ):Prop:=(x=.exit 0∧∀j:Nat,(j:Int)<(List.length s'.ak:Int)→Jo s' j=true)∨(x=.ret∧s'.r=false∧∃j:Nat,(j:Int)<(List.length s'.ak:Int)∧Jo s' j=false)
theorem ax3:∀s,aj2 s→LZ s:=by
 intro s h
 obtain ⟨h0,h1,h2,h3⟩:=h
 exact ⟨by omega,by omega,h2,h3,fun j hj=>by omega⟩
theorem asP (s:iZ) (hI:LZ s):bQ (fun s'=>LZ s'∧Ol s'<Ol s) (fun x s'=>ajp x s s') (aqK s):=by
 unfold aqK YT
 dsimp only [T.rd,T.rl]
 obtain ⟨h0,h1,h2,h3,h4⟩:=hI
 refine ax (fun c1=>ax (fun c2=>?_) (fun c2=>?_)) (fun c1=>?_)
 ·have c1:s.i<(List.length s.ak:Int):=by simpa using c1
  refine .inr ⟨rfl,rfl,s.i.toNat,by simp only;omega,?_⟩
  rw [Int.toNat_of_nonneg (by omega)]
  have hg:Jo s s.i=false:=by unfold Jo;(first|(have c2:(!(Eb s.i (fZ s.ak s.i)))=false:=c2;simpa using c2) |(have c2:(!(Eb s.i (fZ s.ak s.i)))=true:=c2;simpa using c2))
  exact hg
 ·have c1:s.i<(List.length s.ak:Int):=by simpa using c1
  have hg:Jo s s.i=true:=by unfold Jo;(first|(have c2:(!(Eb s.i (fZ s.ak s.i)))=false:=c2;simpa using c2) |(have c2:(!(Eb s.i (fZ s.ak s.i)))=true:=c2;simpa using c2))
  rw [aN (x:=s.i+1) (by omega) (by omega)]
  refine ⟨⟨by simp only;omega,by simp only;omega,h2,h3,fun j hj=>?_⟩,by simp only [Ol];omega⟩
  by_cases hji:(j:Int)<s.i
  ·exact h4 j hji
  ·have:(j:Int)=s.i:=by simp only at hj;omega
   rw [this];exact hg
 ·have c1:(List.length s.ak:Int)≤s.i:=by simpa using c1
  exact .inl ⟨rfl,fun j hj=>h4 j (by omega)⟩
def Ep:bT iZ:=⟨0,159,[1,2,3],[],aBt,aAw,fun v b=>⟨x9 (v.getD 1 .junk),gI (v.getD 2 .junk),aS dZ (aZ (aP b 0) 0),aS .str (aZ (aP b 0) 1),aS eP (aZ (aP b 0) 2),aS dR (aZ (aP b 0) 3),aS eU (aZ (aP b 0) 4)⟩,YT,fun s r=> {r with ak:=s.ak,aC:=s.aC,aj:=s.aj,au:=s.au,aK:=s.aK},fun s=>s,fun _ s=>s,[.ret,.exit 0],aj2,LZ,Ol⟩
abbrev l9:=Ep.run
abbrev aa7:=Ep.kG
abbrev awt:=Ep.q
theorem as7 (s:iZ) (hI:LZ s):(YT s).all (fun _=>True):=by
 refine ⟨fun c1=>⟨?_,?_,fun _=>trivial,fun _=>trivial⟩,fun _=>trivial⟩
 all_goals ((obtain ⟨h0,h1,h2,h3,h4⟩:=hI;simp at c1;omega))
noncomputable def Ij:Specs:=bg [(86,I9),(87,XI),(88,XK),(89,XL)]
theorem KO:∀g S,Ij g=some S→Valid Tryz.prog aQ g S:=aU (l:=[(86,I9),(87,XI),(88,XK),(89,XL)]) ⟨aem,arK,arM,arN,trivial⟩
theorem agb:Ep.Ok:=⟨fun s=>by kernel_rfl,fun s=>by kernel_rfl,fun s=>rfl,fun s t r=>rfl,fun s=>rfl,fun s=>by kernel_rfl⟩
theorem afa:Ep.Pf (ajp):=⟨ax3,fun _ _=>rfl,asP,as7⟩
theorem akY:bC Tryz.prog aQ (AN 0) (.loop Az) Ep.lp:=bT.snd agb afa (aV (Γ:=Ij) (K:=fC) (L:=aF) KO aH Az (fun b hb=>by rw [show aG Az=[] by kernel_rfl] at hb;cases hb)) (fun s=>by kernel_rfl)
theorem alQ (s:iZ) (hE:aj2 s):∃s',LZ s'∧ajp (aa7 s) s' (l9 s):=bT.fin agb afa s hE
structure oH where
 r:Bool
 i:Int
 k:Int
 ak:List Cd
 aC:List ByteArray
 aj:List Ko
 au:List Ch
 aK:List Ba
 qm:ByteArray
 mJ:Int
 Xk:Int
 rQ:Int
def aBp (s:oH):List LV:=[.own 0 0,.v (.bool s.r),.v (.int .i64 s.i),.own 1 0,.v (.int .i64 s.k)]
def aAs (s:oH):List aT:=[⟨[.xl dZ s.ak,.xl .str s.aC,.xl eP s.aj,.xl dR s.au,.xl eU s.aK],28,.cl,false⟩,⟨[.v (.string s.qm),.v (.int .i64 s.mJ),.v (.int .i64 s.Xk),.v (.int .i64 s.rQ)],139,.cl,false⟩]
noncomputable def Ar:Code:=((aG (((aG (Tryz.f49.body.getD .skip))[1]?).getD .skip))[0]?).getD .skip
def YP (s:oH):T (Rd oH):=
 .br (decide (s.k<s.i)) (.req (0≤s.k∧s.k<(List.length s.aj:Int)) (.br ((ng s.aj s.k).2.2.2==s.rQ) (.ok (.stop (.ret) {s with r:=false})) (.ok (.next {s with k:=(IntKind.i64.wrap (s.k+1))})))) (.ok (.stop (.exit 4) s))
abbrev aqG (s:oH):=(YP s).rd s
def Jk (s:oH) (j:Int):Bool:=!((ng s.aj j).2.2.2==s.rQ)
def UL (s:oH):Prop:=s.k=0∧0≤s.i∧s.i≤1000∧s.i≤(List.length s.aj:Int)
def LW (s:oH):Prop:=0≤s.k∧s.k≤s.i∧s.i≤1000∧(s.i≤(List.length s.aj:Int))∧∀j:Nat,(j:Int)<s.k→Jk s j=true
def Og (s:oH):Nat:=(s.i-s.k).toNat
def ajm (x:Ex) (_ s':oH):Prop:=(x=.exit 4∧∀j:Nat,(j:Int)<s'.i→Jk s' j=true)∨(x=.ret∧s'.r=false∧∃j:Nat,(j:Int)<s'.i∧Jk s' j=false)
theorem axZ:∀s,UL s→LW s:=by
 intro s h
 obtain ⟨h0,h1,h2,h3⟩:=h
 exact ⟨by omega,by omega,h2,h3,fun j hj=>by omega⟩
theorem asL (s:oH) (hI:LW s):bQ (fun s'=>LW s'∧Og s'<Og s) (fun x s'=>ajm x s s') (aqG s):=by
 unfold aqG YP
 dsimp only [T.rd,T.rl]
 obtain ⟨h0,h1,h2,h3,h4⟩:=hI
 refine ax (fun c1=>ax (fun c2=>?_) (fun c2=>?_)) (fun c1=>?_)
 ·have c1:s.k<s.i:=by simpa using c1
  refine .inr ⟨rfl,rfl,s.k.toNat,by simp only;omega,?_⟩
  rw [Int.toNat_of_nonneg (by omega)]
  have hg:Jk s s.k=false:=by unfold Jk;(simpa using c2)
  exact hg
 ·have c1:s.k<s.i:=by simpa using c1
  have hg:Jk s s.k=true:=by unfold Jk;(simpa using c2)
  rw [aN (x:=s.k+1) (by omega) (by omega)]
  refine ⟨⟨by simp only;omega,by simp only;omega,h2,h3,fun j hj=>?_⟩,by simp only [Og];omega⟩
  by_cases hji:(j:Int)<s.k
  ·exact h4 j hji
  ·have:(j:Int)=s.k:=by simp only at hj;omega
   rw [this];exact hg
 ·have c1:s.i≤s.k:=by simpa using c1
  exact .inl ⟨rfl,fun j hj=>h4 j (by omega)⟩
def Jz:bT oH:=⟨0,159,[1,2,4,5,6],[],aBp,aAs,fun v b=>⟨x9 (v.getD 1 .junk),gI (v.getD 2 .junk),gI (v.getD 4 .junk),aS dZ (aZ (aP b 0) 0),aS .str (aZ (aP b 0) 1),aS eP (aZ (aP b 0) 2),aS dR (aZ (aP b 0) 3),aS eU (aZ (aP b 0) 4),gSr (aZ (aP b 1) 0),gI (aZ (aP b 1) 1),gI (aZ (aP b 1) 2),gI (aZ (aP b 1) 3)⟩,YP,fun s r=> {r with i:=s.i,ak:=s.ak,aC:=s.aC,aj:=s.aj,au:=s.au,aK:=s.aK,qm:=s.qm,mJ:=s.mJ,Xk:=s.Xk,rQ:=s.rQ},fun s=>s,fun _ s=>s,[.ret,.exit 4],UL,LW,Og⟩
abbrev zn:=Jz.run
abbrev xA:=Jz.kG
abbrev awp:=Jz.q
theorem as3 (s:oH) (hI:LW s):(YP s).all (fun _=>True):=by
 refine ⟨fun c1=>⟨?_,fun _=>trivial,fun _=>trivial⟩,fun _=>trivial⟩
 ·(obtain ⟨h0,h1,h2,h3,h4⟩:=hI;simp at c1;omega)
theorem af7:Jz.Ok:=⟨fun s=>by kernel_rfl,fun s=>by kernel_rfl,fun s=>rfl,fun s t r=>rfl,fun s=>rfl,fun s=>by kernel_rfl⟩
theorem ae6:Jz.Pf (ajm):=⟨axZ,fun _ _=>rfl,asL,as3⟩
theorem akU:bC Tryz.prog aQ (AN 0) (.loop Ar) Jz.lp:=bT.snd af7 ae6 (aV (Γ:=Ij) (K:=fC) (L:=aF) KO aH Ar (fun b hb=>by rw [show aG Ar=[] by kernel_rfl] at hb;cases hb)) (fun s=>by kernel_rfl)
theorem alM (s:oH) (hE:UL s):∃s',LW s'∧ajm (xA s) s' (zn s):=bT.fin af7 ae6 s hE
theorem alL (s:oH) (hE:UL s):(xA s=.exit 4∧((s.aj.take s.i.toNat).map (·.2.2.2)).contains s.rQ=false)∨(xA s=.ret∧(zn s).r=false∧((s.aj.take s.i.toNat).map (·.2.2.2)).contains s.rQ=true):=by
 obtain ⟨s',_,hq⟩:=alM s hE
 obtain ⟨h0,h1,h2,h3⟩:=hE
 have hc:=adh (c:=s.rQ) h1 h3
 rcases hq with ⟨q1,q2⟩ |⟨q1,q2,j,q3,q4⟩
 ·refine .inl ⟨q1,?_⟩
  rw [Bool.eq_false_iff,ne_eq,hc]
  rintro ⟨j,hj,e⟩
  have:(!((ng s.aj j).2.2.2==s.rQ))=true:=q2 j hj
  rw [e] at this
  simp at this
 ·refine .inr ⟨q1,q2,hc.2 ⟨j,q3,?_⟩⟩
  have q4:(!((ng s.aj j).2.2.2==s.rQ))=false:=q4
  simpa using q4
structure iY where
 r:Bool
 i:Int
 ak:List Cd
 aC:List ByteArray
 aj:List Ko
 au:List Ch
 aK:List Ba
def aBs (s:iY):List LV:=[.own 0 0,.v (.bool s.r),.v (.int .i64 s.i)]
def aAv (s:iY):List aT:=[⟨[.xl dZ s.ak,.xl .str s.aC,.xl eP s.aj,.xl dR s.au,.xl eU s.aK],28,.cl,false⟩]
noncomputable def II:Code:=((aG (Tryz.f49.body.getD .skip))[1]?).getD .skip
def qH (s:iY):oH:=(⟨s.r,s.i,(0:Int),s.ak,s.aC,s.aj,s.au,s.aK,(ng s.aj s.i).1,(ng s.aj s.i).2.1,(ng s.aj s.i).2.2.1,(ng s.aj s.i).2.2.2⟩:oH)
def YS (s:iY):T (Rd iY):=
 .br (decide (s.i<(List.length s.aj:Int))) (.req (0≤s.i∧s.i<(List.length s.aj:Int)) (.br ((!(inB (ng s.aj s.i).2.1 (0:Int) (IntKind.i64.wrap ((List.length s.aC:Int)-1)))) ||((!(inB (ng s.aj s.i).2.2.1 (1:Int) (9:Int))) ||(!(inB (ng s.aj s.i).2.2.2 (1:Int) (1000000:Int))))) (.ok (.stop (.ret) {s with r:=false})) (.req (awp (qH s)) (.br (iQ (xA (qH s)) (.ret)) (.ok (.stop (.ret) {s with r:=(zn (qH s)).r})) (.ok (.next {s with r:=(zn (qH s)).r,i:=(IntKind.i64.wrap (s.i+1))})))))) (.ok (.stop (.exit 2) s))
abbrev aqJ (s:iY):=(YS s).rd s
def Nh (s:iY) (j:Int):Bool:=koV (List.length s.aC:Int) (ng s.aj j)&&!(((s.aj.take j.toNat).map (·.2.2.2)).contains (ng s.aj j).2.2.2)
def aj1 (s:iY):Prop:=s.i=0∧(List.length s.aj:Int)≤1000∧(List.length s.aC:Int)≤1000
def Je (s:iY):Prop:=(0≤s.i∧s.i≤(List.length s.aj:Int))∧(∀j:Nat,(j:Int)<s.i→Nh s j=true)∧(List.length s.aj:Int)≤1000∧(List.length s.aC:Int)≤1000
def Oj (s:iY):Nat:=((List.length s.aj:Int)-s.i).toNat
def acJ (x:Ex) (_ s':iY):Prop:=(x=.exit 2∧∀j:Nat,(j:Int)<(List.length s'.aj:Int)→Nh s' j=true)∨(x=.ret∧s'.r=false∧∃j:Nat,(j:Int)<(List.length s'.aj:Int)∧Nh s' j=false)
theorem ax2:∀s,aj1 s→Je s:=by
 intro s h
 obtain ⟨h0,h1,h2⟩:=h
 exact ⟨by omega,fun j hj=>by omega,h1,h2⟩
theorem aeI (s:iY) (hI:Je s) (c1:s.i<(List.length s.aj:Int)):UL (qH s):=by
 obtain ⟨⟨h0,h1⟩,h2,h3,h4⟩:=hI
 exact ⟨rfl,h0,by show s.i≤1000;omega,h1⟩
theorem asO (s:iY) (hI:Je s):bQ (fun s'=>Je s'∧Oj s'<Oj s) (fun x s'=>acJ x s s') (aqJ s):=by
 unfold aqJ YS
 dsimp only [T.rd,T.rl]
 have hin:=fun c1=>aeI s hI c1
 obtain ⟨⟨h0,h1⟩,h2,h3,h4⟩:=hI
 refine ax (fun c1=>?_) (fun c1=>?_)
 rotate_left
 ·have c1:(List.length s.aj:Int)≤s.i:=by simpa using c1
  exact .inl ⟨rfl,fun j hj=>h2 j (by omega)⟩
 have c1:s.i<(List.length s.aj:Int):=by simpa using c1
 have bad:∀s2:iY,s2.r=false→s2.aj=s.aj→s2.aC=s.aC→Nh s s.i=false→acJ .ret s s2:=fun s2 e1 e2 e3 hg=> .inr ⟨rfl,e1,s.i.toNat,by rw [e2];omega,by
  unfold Nh at hg⊢
  rw [Int.toNat_of_nonneg h0,e2,e3]
  exact hg⟩
 rw [aN (x:=(List.length s.aC:Int)-1) (by omega) (by omega)]
 have hk:=alL _ (hin c1)
 have hk:(xA (qH s)=.exit 4∧((s.aj.take s.i.toNat).map (·.2.2.2)).contains (ng s.aj s.i).2.2.2=false)∨(xA (qH s)=.ret∧(zn (qH s)).r=false∧((s.aj.take s.i.toNat).map (·.2.2.2)).contains (ng s.aj s.i).2.2.2=true):=hk
 have hg:Nh s s.i=(koV (List.length s.aC:Int) (ng s.aj s.i)&&!(((s.aj.take s.i.toNat).map (·.2.2.2)).contains (ng s.aj s.i).2.2.2)):=rfl
 have hkv:koV (List.length s.aC:Int) (ng s.aj s.i)=(inB (ng s.aj s.i).2.1 0 ((List.length s.aC:Int)-1)&&(inB (ng s.aj s.i).2.2.1 1 9&&inB (ng s.aj s.i).2.2.2 1 1000000)):=rfl
 refine ax (fun c2=>bad _ rfl rfl rfl ?_) (fun c2=>?_)
 ·rw [hg,hkv]
  revert c2
  generalize inB (ng s.aj s.i).2.1 _ _=a
  generalize inB (ng s.aj s.i).2.2.1 _ _=b
  generalize inB (ng s.aj s.i).2.2.2 _ _=c
  cases a<;>cases b<;>cases c<;>simp
 have hkt:koV (List.length s.aC:Int) (ng s.aj s.i)=true:=by
  rw [hkv]
  revert c2
  generalize inB (ng s.aj s.i).2.1 _ _=a
  generalize inB (ng s.aj s.i).2.2.1 _ _=b
  generalize inB (ng s.aj s.i).2.2.2 _ _=c
  cases a<;>cases b<;>cases c<;>simp
 rw [hkt,Bool.true_and] at hg
 rcases hk with ⟨q1,q2⟩ |⟨q1,q2,q3⟩
 ·rw [q1]
  refine ax (fun c3=>by cases c3) (fun _=>?_)
  rw [aN (x:=s.i+1) (by omega) (by omega)]
  rw [q2] at hg
  refine ⟨⟨⟨by simp only;omega,by simp only;omega⟩,fun j hj=>?_,h3,h4⟩,by simp only [Oj];omega⟩
  by_cases hji:(j:Int)<s.i
  ·exact h2 j hji
  ·have:(j:Int)=s.i:=by simp only at hj;omega
   rw [this];exact hg
 ·rw [q1]
  refine ax (fun _=>bad _ q2 rfl rfl ?_) (fun c3=>by cases c3)
  rw [hg,q3]
  rfl
def Eo:bT iY:=⟨0,159,[1,2,4],[],aBs,aAv,fun v b=>⟨x9 (v.getD 1 .junk),gI (v.getD 2 .junk),aS dZ (aZ (aP b 0) 0),aS .str (aZ (aP b 0) 1),aS eP (aZ (aP b 0) 2),aS dR (aZ (aP b 0) 3),aS eU (aZ (aP b 0) 4)⟩,YS,fun s r=> {r with ak:=s.ak,aC:=s.aC,aj:=s.aj,au:=s.au,aK:=s.aK},fun s=>s,fun _ s=>s,[.ret,.exit 2],aj1,Je,Oj⟩
abbrev qJ:=Eo.run
abbrev aa6:=Eo.kG
abbrev aws:=Eo.q
theorem as6 (s:iY) (hI:Je s):(YS s).all (fun _=>True):=by
 refine ⟨fun c1=>⟨?_,fun _=>trivial,fun c2=>⟨?_,fun _=>trivial,fun _=>trivial⟩⟩,fun _=>trivial⟩
 ·(obtain ⟨⟨h0,h1⟩,h2,h3,h4⟩:=hI;simp only [decide_eq_true_eq] at c1;omega)
 ·exact ⟨aeI s hI (by simpa using c1),rfl,rfl⟩
theorem aga:Eo.Ok:=⟨fun s=>by kernel_rfl,fun s=>by kernel_rfl,fun s=>rfl,fun s t r=>rfl,fun s=>rfl,fun s=>by kernel_rfl⟩
theorem ae9:Eo.Pf (acJ):=⟨ax2,fun _ _=>rfl,asO,as6⟩
theorem akX:bC Tryz.prog aQ (AN 0) (.loop II) Eo.lp:=bT.snd aga ae9 (aV (Γ:=Ij) (K:=fC) (L:=(fun i=>if i=15 then Jz.lp else aF i)) KO aH II (fun b hb=>by
 rw [show aG _=[Ar] by kernel_rfl] at hb
 simp only [List.mem_cons,List.not_mem_nil,or_false] at hb
 subst hb
 exact akU)) (fun s=>by kernel_rfl)
theorem alP (s:iY) (hE:aj1 s):∃s',Je s'∧acJ (aa6 s) s' (qJ s):=bT.fin aga ae9 s hE
structure lI where
 r:Bool
 i:Int
 ak:List Cd
 aC:List ByteArray
 aj:List Ko
 au:List Ch
 aK:List Ba
def aBr (s:lI):List LV:=[.own 0 0,.v (.bool s.r),.v (.int .i64 s.i)]
def aAu (s:lI):List aT:=[⟨[.xl dZ s.ak,.xl .str s.aC,.xl eP s.aj,.xl dR s.au,.xl eU s.aK],28,.cl,false⟩]
noncomputable def Aw:Code:=((aG (Tryz.f49.body.getD .skip))[2]?).getD .skip
def YR (s:lI):T (Rd lI):=
 .br (decide (s.i<(List.length s.au:Int))) (.req (0≤s.i∧s.i<(List.length s.au:Int)) (.br ((!(chW (bF s.au s.i))) ||((!(inB (bF s.au s.i).2.1 (0:Int) (IntKind.i64.wrap ((List.length s.ak:Int)-1)))) ||(!(inB (bF s.au s.i).2.2.2.2.2.2.2 (0:Int) (IntKind.i64.wrap ((List.length s.aC:Int)-1)))))) (.ok (.stop (.ret) {s with r:=false})) (.ok (.next {s with i:=(IntKind.i64.wrap (s.i+1))})))) (.ok (.stop (.exit 6) s))
abbrev aqI (s:lI):=(YR s).rd s
def Jm (s:lI) (j:Int):Bool:=FU s.ak.length s.aC.length (bF s.au j)
def aj0 (s:lI):Prop:=s.i=0∧0≤(List.length s.au:Int)∧(List.length s.au:Int)≤1000∧(s.ak.length:Int)≤1000∧(s.aC.length:Int)≤1000
def LY (s:lI):Prop:=0≤s.i∧s.i≤(List.length s.au:Int)∧(List.length s.au:Int)≤1000∧((s.ak.length:Int)≤1000∧(s.aC.length:Int)≤1000)∧∀j:Nat,(j:Int)<s.i→Jm s j=true
def Oi (s:lI):Nat:=((List.length s.au:Int)-s.i).toNat
def ajo (x:Ex) (_ s':lI):Prop:=(x=.exit 6∧∀j:Nat,(j:Int)<(List.length s'.au:Int)→Jm s' j=true)∨(x=.ret∧s'.r=false∧∃j:Nat,(j:Int)<(List.length s'.au:Int)∧Jm s' j=false)
theorem ax1:∀s,aj0 s→LY s:=by
 intro s h
 obtain ⟨h0,h1,h2,h3⟩:=h
 exact ⟨by omega,by omega,h2,h3,fun j hj=>by omega⟩
theorem asN (s:lI) (hI:LY s):bQ (fun s'=>LY s'∧Oi s'<Oi s) (fun x s'=>ajo x s s') (aqI s):=by
 unfold aqI YR
 dsimp only [T.rd,T.rl]
 obtain ⟨h0,h1,h2,h3,h4⟩:=hI
 refine ax (fun c1=>ax (fun c2=>?_) (fun c2=>?_)) (fun c1=>?_)
 ·have c1:s.i<(List.length s.au:Int):=by simpa using c1
  refine .inr ⟨rfl,rfl,s.i.toNat,by simp only;omega,?_⟩
  rw [Int.toNat_of_nonneg (by omega)]
  have hg:Jm s s.i=false:=by unfold Jm;(obtain ⟨e1,e2⟩:=h3;rw [aN (x:=(List.length s.ak:Int)-1) (by omega) (by omega),aN (x:=(List.length s.aC:Int)-1) (by omega) (by omega)] at c2;unfold FU;revert c2;generalize chW (bF s.au s.i)=a;generalize inB (bF s.au s.i).2.1 _ _=b;generalize inB (bF s.au s.i).2.2.2.2.2.2.2 _ _=c;cases a<;>cases b<;>cases c<;>simp)
  exact hg
 ·have c1:s.i<(List.length s.au:Int):=by simpa using c1
  have hg:Jm s s.i=true:=by unfold Jm;(obtain ⟨e1,e2⟩:=h3;rw [aN (x:=(List.length s.ak:Int)-1) (by omega) (by omega),aN (x:=(List.length s.aC:Int)-1) (by omega) (by omega)] at c2;unfold FU;revert c2;generalize chW (bF s.au s.i)=a;generalize inB (bF s.au s.i).2.1 _ _=b;generalize inB (bF s.au s.i).2.2.2.2.2.2.2 _ _=c;cases a<;>cases b<;>cases c<;>simp)
  rw [aN (x:=s.i+1) (by omega) (by omega)]
  refine ⟨⟨by simp only;omega,by simp only;omega,h2,h3,fun j hj=>?_⟩,by simp only [Oi];omega⟩
  by_cases hji:(j:Int)<s.i
  ·exact h4 j hji
  ·have:(j:Int)=s.i:=by simp only at hj;omega
   rw [this];exact hg
 ·have c1:(List.length s.au:Int)≤s.i:=by simpa using c1
  exact .inl ⟨rfl,fun j hj=>h4 j (by omega)⟩
def En:bT lI:=⟨0,159,[1,2,7],[],aBr,aAu,fun v b=>⟨x9 (v.getD 1 .junk),gI (v.getD 2 .junk),aS dZ (aZ (aP b 0) 0),aS .str (aZ (aP b 0) 1),aS eP (aZ (aP b 0) 2),aS dR (aZ (aP b 0) 3),aS eU (aZ (aP b 0) 4)⟩,YR,fun s r=> {r with ak:=s.ak,aC:=s.aC,aj:=s.aj,au:=s.au,aK:=s.aK},fun s=>s,fun _ s=>s,[.ret,.exit 6],aj0,LY,Oi⟩
abbrev zo:=En.run
abbrev aa5:=En.kG
abbrev awr:=En.q
theorem as5 (s:lI) (hI:LY s):(YR s).all (fun _=>True):=by
 refine ⟨fun c1=>⟨?_,fun _=>trivial,fun _=>trivial⟩,fun _=>trivial⟩
 ·(obtain ⟨h0,h1,h2,h3,h4⟩:=hI;simp at c1;omega)
theorem af9:En.Ok:=⟨fun s=>by kernel_rfl,fun s=>by kernel_rfl,fun s=>rfl,fun s t r=>rfl,fun s=>rfl,fun s=>by kernel_rfl⟩
theorem ae8:En.Pf (ajo):=⟨ax1,fun _ _=>rfl,asN,as5⟩
theorem akW:bC Tryz.prog aQ (AN 0) (.loop Aw) En.lp:=bT.snd af9 ae8 (aV (Γ:=Ij) (K:=fC) (L:=aF) KO aH Aw (fun b hb=>by rw [show aG Aw=[] by kernel_rfl] at hb;cases hb)) (fun s=>by kernel_rfl)
theorem alO (s:lI) (hE:aj0 s):∃s',LY s'∧ajo (aa5 s) s' (zo s):=bT.fin af9 ae8 s hE
structure oI where
 r:Bool
 i:Int
 ak:List Cd
 aC:List ByteArray
 aj:List Ko
 au:List Ch
 aK:List Ba
def aBq (s:oI):List LV:=[.own 0 0,.v (.bool s.r),.v (.int .i64 s.i)]
def aAt (s:oI):List aT:=[⟨[.xl dZ s.ak,.xl .str s.aC,.xl eP s.aj,.xl dR s.au,.xl eU s.aK],28,.cl,false⟩]
noncomputable def Au:Code:=((aG (Tryz.f49.body.getD .skip))[3]?).getD .skip
def YQ (s:oI):T (Rd oI):=
 .br (decide (s.i<(List.length s.aK:Int))) (.req (0≤s.i∧s.i<(List.length s.aK:Int)) (.br (!(inB (Cc s.aK s.i).2 (0:Int) (IntKind.i64.wrap ((List.length s.au:Int)-1)))) (.ok (.stop (.ret) {s with r:=false})) (.ok (.next {s with i:=(IntKind.i64.wrap (s.i+1))})))) (.ok (.stop (.exit 8) s))
abbrev aqH (s:oI):=(YQ s).rd s
def Jl (s:oI) (j:Int):Bool:=inB (Cc s.aK j).2 0 (IntKind.i64.wrap ((List.length s.au:Int)-1))
def ajZ (s:oI):Prop:=s.i=0∧0≤(List.length s.aK:Int)∧(List.length s.aK:Int)≤1000∧True
def LX (s:oI):Prop:=0≤s.i∧s.i≤(List.length s.aK:Int)∧(List.length s.aK:Int)≤1000∧(True)∧∀j:Nat,(j:Int)<s.i→Jl s j=true
def Oh (s:oI):Nat:=((List.length s.aK:Int)-s.i).toNat
def ajn (x:Ex) (_ s':oI):Prop:=(x=.exit 8∧∀j:Nat,(j:Int)<(List.length s'.aK:Int)→Jl s' j=true)∨(x=.ret∧s'.r=false∧∃j:Nat,(j:Int)<(List.length s'.aK:Int)∧Jl s' j=false)
theorem ax0:∀s,ajZ s→LX s:=by
 intro s h
 obtain ⟨h0,h1,h2,h3⟩:=h
 exact ⟨by omega,by omega,h2,h3,fun j hj=>by omega⟩
theorem asM (s:oI) (hI:LX s):bQ (fun s'=>LX s'∧Oh s'<Oh s) (fun x s'=>ajn x s s') (aqH s):=by
 unfold aqH YQ
 dsimp only [T.rd,T.rl]
 obtain ⟨h0,h1,h2,h3,h4⟩:=hI
 refine ax (fun c1=>ax (fun c2=>?_) (fun c2=>?_)) (fun c1=>?_)
 ·have c1:s.i<(List.length s.aK:Int):=by simpa using c1
  refine .inr ⟨rfl,rfl,s.i.toNat,by simp only;omega,?_⟩
  rw [Int.toNat_of_nonneg (by omega)]
  have hg:Jl s s.i=false:=by unfold Jl;(first|(have c2:(!(inB (Cc s.aK s.i).2 0 (IntKind.i64.wrap ((List.length s.au:Int)-1))))=false:=c2;simpa using c2) |(have c2:(!(inB (Cc s.aK s.i).2 0 (IntKind.i64.wrap ((List.length s.au:Int)-1))))=true:=c2;simpa using c2))
  exact hg
 ·have c1:s.i<(List.length s.aK:Int):=by simpa using c1
  have hg:Jl s s.i=true:=by unfold Jl;(first|(have c2:(!(inB (Cc s.aK s.i).2 0 (IntKind.i64.wrap ((List.length s.au:Int)-1))))=false:=c2;simpa using c2) |(have c2:(!(inB (Cc s.aK s.i).2 0 (IntKind.i64.wrap ((List.length s.au:Int)-1))))=true:=c2;simpa using c2))
  rw [aN (x:=s.i+1) (by omega) (by omega)]
  refine ⟨⟨by simp only;omega,by simp only;omega,h2,h3,fun j hj=>?_⟩,by simp only [Oh];omega⟩
  by_cases hji:(j:Int)<s.i
  ·exact h4 j hji
  ·have:(j:Int)=s.i:=by simp only at hj;omega
   rw [this];exact hg
 ·have c1:(List.length s.aK:Int)≤s.i:=by simpa using c1
  exact .inl ⟨rfl,fun j hj=>h4 j (by omega)⟩
def Em:bT oI:=⟨0,159,[1,2,9],[],aBq,aAt,fun v b=>⟨x9 (v.getD 1 .junk),gI (v.getD 2 .junk),aS dZ (aZ (aP b 0) 0),aS .str (aZ (aP b 0) 1),aS eP (aZ (aP b 0) 2),aS dR (aZ (aP b 0) 3),aS eU (aZ (aP b 0) 4)⟩,YQ,fun s r=> {r with ak:=s.ak,aC:=s.aC,aj:=s.aj,au:=s.au,aK:=s.aK},fun s=>s,fun _ s=>s,[.ret,.exit 8],ajZ,LX,Oh⟩
abbrev Zu:=Em.run
abbrev aa4:=Em.kG
abbrev awq:=Em.q
theorem as4 (s:oI) (hI:LX s):(YQ s).all (fun _=>True):=by
 refine ⟨fun c1=>⟨?_,fun _=>trivial,fun _=>trivial⟩,fun _=>trivial⟩
 ·(obtain ⟨h0,h1,h2,h3,h4⟩:=hI;simp at c1;omega)
theorem af8:Em.Ok:=⟨fun s=>by kernel_rfl,fun s=>by kernel_rfl,fun s=>rfl,fun s t r=>rfl,fun s=>rfl,fun s=>by kernel_rfl⟩
theorem ae7:Em.Pf (ajn):=⟨ax0,fun _ _=>rfl,asM,as4⟩
theorem akV:bC Tryz.prog aQ (AN 0) (.loop Au) Em.lp:=bT.snd af8 ae7 (aV (Γ:=Ij) (K:=fC) (L:=aF) KO aH Au (fun b hb=>by rw [show aG Au=[] by kernel_rfl] at hb;cases hb)) (fun s=>by kernel_rfl)
theorem alN (s:oI) (hE:ajZ s):∃s',LX s'∧ajn (aa4 s) s' (Zu s):=bT.fin af8 ae7 s hE
def abN:List LV→T LV
 | [.agg [.xl (.pair .str (.pair (.int .i64) (.pair (.int .i64) (.pair (.int .i64) (.pair (.pair (.int .i64) (.int .i64)) (.pair (.int .i64) (.pair (.int .i64) (.pair (.int .i64) (.pair (.int .i64) (.int .i64)))))))))) cs,.xl (.str) os,.xl (.pair .str (.pair (.int .i64) (.pair (.int .i64) (.int .i64)))) ks,.xl (.pair .str (.pair (.int .i64) (.pair (.int .i64) (.pair (.int .i64) (.pair (.int .i64) (.pair (.int .i64) (.pair (.int .i64) (.int .i64)))))))) gs,.xl (.pair .str (.int .i64)) bs]]=> .req (nmR (gK cs os ks gs bs)) (.ok (.v (.bool (fV cs os ks gs bs))))
 |_=> .no
noncomputable def XH:List LV→T LV:=gZ Tryz.prog Tryz.f49.params.toList abN
theorem amP (cs:List Cd) (os:List ByteArray) (ks:List Ko) (gs:List Ch) (bs:List Ba):bY Tryz.prog aQ (Ij) fC (fun i=>if i=4 then Ep.lp else if i=9 then Eo.lp else if i=20 then En.lp else if i=26 then Em.lp else aF i) Tryz.f49 [.agg [.xl dZ cs,.xl .str os,.xl eP ks,.xl dR gs,.xl eU bs]]=.br (!(inB (List.length cs:Int) (1:Int) (16:Int))) (.ok (.v (.bool false))) (.br (decide ((List.length os:Int)>8)) (.ok (.v (.bool false))) (.br (decide ((List.length ks:Int)>32)) (.ok (.v (.bool false))) (.br (decide ((List.length gs:Int)>16)) (.ok (.v (.bool false))) (.br (decide ((List.length bs:Int)>24)) (.ok (.v (.bool false))) (.req (((List.length cs:Int)≤100∧(List.length os:Int)≤100∧(List.length ks:Int)≤100∧(List.length gs:Int)≤100∧(List.length bs:Int)≤100)∧nmR (gK cs os ks gs bs)) (.br (!(nmB (gK cs os ks gs bs))) (.ok (.v (.bool false))) (.req (awt (⟨false,(0:Int),cs,os,ks,gs,bs⟩:iZ)) (.br (iQ (aa7 (⟨false,(0:Int),cs,os,ks,gs,bs⟩:iZ)) (.ret)) (.ok (.v (.bool (l9 (⟨false,(0:Int),cs,os,ks,gs,bs⟩:iZ)).r))) (.req (aws (⟨(l9 (⟨false,(0:Int),cs,os,ks,gs,bs⟩:iZ)).r,(0:Int),cs,os,ks,gs,bs⟩:iY)) (.br (iQ (aa6 (⟨(l9 (⟨false,(0:Int),cs,os,ks,gs,bs⟩:iZ)).r,(0:Int),cs,os,ks,gs,bs⟩:iY)) (.ret)) (.ok (.v (.bool (qJ (⟨(l9 (⟨false,(0:Int),cs,os,ks,gs,bs⟩:iZ)).r,(0:Int),cs,os,ks,gs,bs⟩:iY)).r))) (.req (awr (⟨(qJ (⟨(l9 (⟨false,(0:Int),cs,os,ks,gs,bs⟩:iZ)).r,(0:Int),cs,os,ks,gs,bs⟩:iY)).r,(0:Int),cs,os,ks,gs,bs⟩:lI)) (.br (iQ (aa5 (⟨(qJ (⟨(l9 (⟨false,(0:Int),cs,os,ks,gs,bs⟩:iZ)).r,(0:Int),cs,os,ks,gs,bs⟩:iY)).r,(0:Int),cs,os,ks,gs,bs⟩:lI)) (.ret)) (.ok (.v (.bool (zo (⟨(qJ (⟨(l9 (⟨false,(0:Int),cs,os,ks,gs,bs⟩:iZ)).r,(0:Int),cs,os,ks,gs,bs⟩:iY)).r,(0:Int),cs,os,ks,gs,bs⟩:lI)).r))) (.req (awq (⟨(zo (⟨(qJ (⟨(l9 (⟨false,(0:Int),cs,os,ks,gs,bs⟩:iZ)).r,(0:Int),cs,os,ks,gs,bs⟩:iY)).r,(0:Int),cs,os,ks,gs,bs⟩:lI)).r,(0:Int),cs,os,ks,gs,bs⟩:oI)) (.br (iQ (aa4 (⟨(zo (⟨(qJ (⟨(l9 (⟨false,(0:Int),cs,os,ks,gs,bs⟩:iZ)).r,(0:Int),cs,os,ks,gs,bs⟩:iY)).r,(0:Int),cs,os,ks,gs,bs⟩:lI)).r,(0:Int),cs,os,ks,gs,bs⟩:oI)) (.ret)) (.ok (.v (.bool (Zu (⟨(zo (⟨(qJ (⟨(l9 (⟨false,(0:Int),cs,os,ks,gs,bs⟩:iZ)).r,(0:Int),cs,os,ks,gs,bs⟩:iY)).r,(0:Int),cs,os,ks,gs,bs⟩:lI)).r,(0:Int),cs,os,ks,gs,bs⟩:oI)).r))) (.ok (.v (.bool true))))))))))))))))):=by kernel_rfl
theorem arJ:Valid Tryz.prog aQ 49 XH:=aI Tryz.func49 rfl KO aH (L:=(fun i=>if i=4 then Ep.lp else if i=9 then Eo.lp else if i=20 then En.lp else if i=26 then Em.lp else aF i)) (fun b hb=>by
 rw [show aG _=[Az,II,Aw,Au] by kernel_rfl] at hb
 simp only [List.mem_cons,List.not_mem_nil,or_false] at hb
 rcases hb with rfl|rfl|rfl|rfl
 ·exact akY
 ·exact akX
 ·exact akW
 ·exact akV) (fun args lv h=>by
 unfold abN at h
 split at h
 ·simp only [canL,canX]
  rw [amP]
  rename_i cs os ks gs bs
  obtain ⟨hn,rfl⟩:=h
  have bad:¬(1≤cs.length∧cs.length≤16∧os.length≤8∧ks.length≤32∧gs.length≤16∧bs.length≤24)→LV.v (.bool false)=LV.v (.bool (fV cs os ks gs bs)):=fun hd=>congrArg (fun z=>LV.v (.bool z)) (by
   rw [eq_comm,Bool.eq_false_iff]
   intro hx
   exact hd (gX.1 hx).1)
  refine ⟨fun c=>bad (by simp only [Bool.not_eq_true',ahy] at c;omega),fun c=>⟨fun c2=>bad (by simp at c2;omega),fun c2=>⟨fun c3=>bad (by simp at c3;omega),fun c3=>⟨fun c4=>bad (by simp at c4;omega),fun c4=>⟨fun c5=>bad (by simp at c5;omega),fun c5=>?_⟩⟩⟩⟩⟩
  have hd:1≤cs.length∧cs.length≤16∧os.length≤8∧ks.length≤32∧gs.length≤16∧bs.length≤24:=by
   simp only [Bool.not_eq_false',dW,decide_eq_false_iff_not] at c c2 c3 c4 c5
   omega
  rw [aez hd]
  refine ⟨⟨by omega,hn⟩,fun c6=>?_,fun c6=>?_⟩
  ·have c6:nmB (gK cs os ks gs bs)=false:=by simpa using c6
   rw [c6]
   exact rfl
  have c6:nmB (gK cs os ks gs bs)=true:=by simpa using c6
  rw [c6,Bool.true_and]
  refine nP ⟨⟨rfl,by simp only;omega,by simp only;omega,trivial⟩,rfl,rfl⟩ (fun hE0=>?_)
  obtain ⟨s',_,hq⟩:=alQ _ hE0.1
  rcases hq with ⟨q1,q2⟩ |⟨q1,q2,j,q3,q4⟩
  rotate_left
  ·rw [q1,q2]
   refine ⟨fun _=>congrArg (fun z=>LV.v (.bool z)) ?_,fun h=>by cases h⟩
   unfold U4
   rw [tZ (n:=cs.length) (f:=fun j=>Eb j (fZ cs j)) j q3 q4]
   rfl
  rw [q1]
  refine ⟨fun h=>(by cases h),fun _=>?_⟩
  have g0:JK cs.length (fun j=>Eb j (fZ cs j))=true:=gm.2 q2
  refine nP ⟨⟨rfl,by simp only;omega,by simp only;omega⟩,rfl,rfl⟩ (fun hE1=>?_)
  obtain ⟨s',_,hq⟩:=alP _ hE1.1
  rcases hq with ⟨q1,q2⟩ |⟨q1,q2,j,q3,q4⟩
  rotate_left
  ·rw [q1,q2]
   refine ⟨fun _=>congrArg (fun z=>LV.v (.bool z)) ?_,fun h=>by cases h⟩
   unfold U4
   have hn:(ks.all (koV os.length)&&once (ks.map (·.2.2.2)))=false:=by
    rw [Bool.eq_false_iff];intro hx
    have:=(kM (d:=(emp,0,0,0))).2 hx j q3
    exact Bool.noConfusion (this.symm.trans q4)
   rw [g0,Bool.true_and,←Bool.and_assoc,hn]
   rfl
  rw [q1]
  refine ⟨fun h=>(by cases h),fun _=>?_⟩
  have g1:(ks.all (koV os.length)&&once (ks.map (·.2.2.2)))=true:=(kM (d:=(emp,0,0,0))).1 q2
  refine nP ⟨⟨rfl,by simp only;omega,by simp only;omega,by simp only;omega,by simp only;omega⟩,rfl,rfl⟩ (fun hE2=>?_)
  obtain ⟨s',_,hq⟩:=alO _ hE2.1
  rcases hq with ⟨q1,q2⟩ |⟨q1,q2,j,q3,q4⟩
  rotate_left
  ·rw [q1,q2]
   refine ⟨fun _=>congrArg (fun z=>LV.v (.bool z)) ?_,fun h=>by cases h⟩
   unfold U4
   have hn:gs.all (FU cs.length os.length)=false:=by
    rw [Bool.eq_false_iff];intro hx
    have:=(jG (d:=(emp,0,0,0,0,0,0,0))).2 hx j q3
    exact Bool.noConfusion (this.symm.trans q4)
   rw [g0,Bool.true_and,←Bool.and_assoc,g1,hn]
   rfl
  rw [q1]
  refine ⟨fun h=>(by cases h),fun _=>?_⟩
  have g2:gs.all (FU cs.length os.length)=true:=(jG (d:=(emp,0,0,0,0,0,0,0))).1 q2
  have hw:=aN (x:=(List.length gs:Int)-1) (by omega) (by omega)
  refine nP ⟨⟨rfl,by simp only;omega,by simp only;omega,trivial⟩,rfl,rfl⟩ (fun hE3=>?_)
  obtain ⟨s',_,hq⟩:=alN _ hE3.1
  rcases hq with ⟨q1,q2⟩ |⟨q1,q2,j,q3,q4⟩
  rotate_left
  ·rw [q1,q2]
   refine ⟨fun _=>congrArg (fun z=>LV.v (.bool z)) ?_,fun h=>by cases h⟩
   unfold U4
   have hn:bs.all (fun b=>inB b.2 0 ((gs.length:Int)-1))=false:=by
    rw [Bool.eq_false_iff];intro hx
    have:=(jG (d:=(emp,0))).2 hx j q3
    have q4:inB (Cc bs j).2 0 (IntKind.i64.wrap ((List.length gs:Int)-1))=false:=q4
    rw [hw] at q4
    exact Bool.noConfusion (this.symm.trans q4)
   rw [g0,Bool.true_and,←Bool.and_assoc,g1,g2,hn]
   rfl
  rw [q1]
  refine ⟨fun h=>(by cases h),fun _=>?_⟩
  have g3:bs.all (fun b=>inB b.2 0 ((gs.length:Int)-1))=true:=(jG (d:=(emp,0))).1 (fun j hj=>by
   have:inB (Cc bs j).2 0 (IntKind.i64.wrap ((List.length gs:Int)-1))=true:=q2 j hj
   rw [hw] at this
   exact this)
  refine congrArg (fun z=>LV.v (.bool z)) ?_
  unfold U4
  rw [g0,Bool.true_and,←Bool.and_assoc,g1,g2,g3]
  rfl
 ·cases h)
end Go.Proofs.YtlihnbimgclogaaGreatDoor
namespace Go.Proofs.YtlihnbimgclogaaGreatDoor
open Go.Sx
section
variable {lt : Int → Int → Bool}
def yG (lt:Int→Int→Bool):List Int→Int→List Int
 | [],x=>[x]
 |y::q,x=>if lt x y=true then y::yG lt q x else x::y::q
structure ao7 (lt:Int→Int→Bool):Prop where
 asym:∀ {a b},lt a b=true→lt b a=false
 ntr:∀ {a b c},lt a b=false→lt b c=false→lt a c=false
theorem sJ {x:Int}:∀ {q:List Int},(yG lt q x).Perm (x::q)
 | []=>List.Perm.refl _
 |y::q=>by
  unfold yG
  split
  ·exact (List.Perm.cons y sJ).trans (List.Perm.swap x y q)
  ·exact List.Perm.refl _
theorem ahw {q:List Int}{x:Int}:(yG lt q x).length=q.length+1:=by rw [sJ.length_eq];rfl
theorem DN (O:ao7 lt) {x:Int}:∀ {q:List Int},q.Pairwise (fun a b=>lt a b=false)→(yG lt q x).Pairwise (fun a b=>lt a b=false)
 | [],_=>List.pairwise_singleton _ _
 | y::q,h=>by
  rw [List.pairwise_cons] at h
  unfold yG
  split
  ·rename_i hx
   rw [List.pairwise_cons]
   refine ⟨fun z hz=>?_,DN O h.2⟩
   rcases List.mem_cons.1 (sJ.subset hz) with e|hz
   ·rw [e];exact O.asym hx
   ·exact h.1 z hz
  ·rename_i hx
   have hx:lt x y=false:=by simpa using hx
   rw [List.pairwise_cons,List.pairwise_cons]
   refine ⟨fun z hz=>?_,h⟩
   rcases List.mem_cons.1 hz with e|hz
   ·rw [e];exact hx
   ·exact O.ntr hx (h.1 z hz)
theorem Ir:∀ {l acc:List Int},(l.foldl (yG lt) acc).Perm (acc++l)
 | [],acc=>by simp
 |x::l,acc=>by
  rw [List.foldl_cons]
  refine Ir.trans ?_
  refine (List.Perm.append_right l sJ).trans ?_
  rw [List.cons_append]
  exact List.perm_middle.symm
theorem zY (O:ao7 lt):∀ {l acc:List Int},acc.Pairwise (fun a b=>lt a b=false)→(l.foldl (yG lt) acc).Pairwise (fun a b=>lt a b=false)
 | [],_,h=>h
 |x::l,acc,h=>by
  rw [List.foldl_cons]
  exact zY O (DN O h)
def sortB (lt:Int→Int→Bool) (l:List Int):List Int:=(l.foldl (yG lt) []).reverse
theorem Vk {l:List Int}:(sortB lt l).Perm l:=by
 unfold sortB
 exact (List.reverse_perm _).trans (by have:=Ir (lt:=lt) (l:=l) (acc:=[]);simpa using this)
theorem NH (O:ao7 lt) {l:List Int}:(sortB lt l).Pairwise (fun a b=>lt b a=false):=by
 unfold sortB
 rw [List.pairwise_reverse]
 exact zY O List.Pairwise.nil
def exB (l:List Int) (j:Nat):List Int:=(l.set (j+1) (l.getD j 0)).set j (l.getD (j+1) 0)
def bub (lt:Int→Int→Bool):Nat→List Int→List Int
 |0,l=>l
 |j+1,l=>if lt (l.getD (j+1) 0) (l.getD j 0)=true then bub lt j (exB l j) else l
theorem aoB {p post:List Int}{x y:Int}:exB (p++y::x::post) p.length=p++x::y::post:=by
 unfold exB
 have e1:(p++y::x::post).getD p.length 0=y:=by simp [List.getD]
 have e2:(p++y::x::post).getD (p.length+1) 0=x:=by simp [List.getD]
 rw [e1,e2,List.set_append_right _ _ (by omega),List.set_append_right _ _ (by omega)]
 simp
theorem PZ {post:List Int}{x:Int}:∀ {q:List Int},bub lt q.length (q.reverse++x::post)=(yG lt q x).reverse++post
 | []=>by simp [bub,yG]
 | y::q=>by
  have hl:q.length=q.reverse.length:=by simp
  have e1:((y::q).reverse++x::post)=q.reverse++y::x::post:=by simp
  rw [e1,List.length_cons,bub]
  have g1:(q.reverse++y::x::post).getD q.length 0=y:=by rw [hl];simp [List.getD]
  have g2:(q.reverse++y::x::post).getD (q.length+1) 0=x:=by rw [hl];simp [List.getD]
  rw [g1,g2]
  unfold yG
  split
  ·have e2:exB (q.reverse++y::x::post) q.length=q.reverse++x::y::post:=by
    have:=aoB (p:=q.reverse) (x:=x) (y:=y) (post:=post)
    rwa [←hl] at this
   rw [e2,PZ]
   simp
  ·simp
theorem aiE:∀ {j:Nat}{l:List Int},j<l.length→(bub lt j l).Perm l:=fun {j l} h=>by
 have e:l=(l.take j).reverse.reverse++l[j]::l.drop (j+1):=by rw [List.reverse_reverse,List.getElem_cons_drop,List.take_append_drop]
 have hj:(l.take j).reverse.length=j:=by simp;omega
 have h2:=PZ (lt:=lt) (q:=(l.take j).reverse) (x:=l[j]) (post:=l.drop (j+1))
 rw [hj,←e] at h2
 rw [h2]
 refine (List.Perm.append_right _ ((List.reverse_perm _).trans sJ)).trans ?_
 rw [List.cons_append]
 refine (List.perm_middle.symm.trans ?_)
 refine (List.Perm.append_right _ (List.reverse_perm _)).trans ?_
 rw [List.getElem_cons_drop,List.take_append_drop]
def uK (lt:Int→Int→Bool) (l:List Int) (i:Nat):List Int:=((l.drop i).foldl (yG lt) (l.take i).reverse).reverse
theorem Vu {l:List Int}{i:Nat}(h:i<l.length):uK lt (bub lt i l) (i+1)=uK lt l i:=by
 have e:l=(l.take i).reverse.reverse++l[i]::l.drop (i+1):=by rw [List.reverse_reverse,List.getElem_cons_drop,List.take_append_drop]
 have hi:(l.take i).reverse.length=i:=by simp;omega
 have h2:=PZ (lt:=lt) (q:=(l.take i).reverse) (x:=l[i]) (post:=l.drop (i+1))
 rw [hi,←e] at h2
 have hl:((yG lt (l.take i).reverse l[i]).reverse).length=i+1:=by rw [List.length_reverse,ahw,hi]
 unfold uK
 rw [h2,List.drop_append_of_le_length (by omega),List.take_append_of_le_length (by omega),List.drop_of_length_le (by omega),List.take_of_length_le (by omega),List.nil_append,List.reverse_reverse]
 conv=>rhs;rw [←List.getElem_cons_drop h,List.foldl_cons]
theorem adm {l:List Int}:uK lt l 1=sortB lt l:=by
 cases l with
 |nil=>rfl
 |cons x l=>simp [uK,sortB,yG]
theorem adn {l:List Int}{i:Nat}(h:l.length≤i):uK lt l i=l:=by
 unfold uK
 rw [List.drop_of_length_le h,List.take_of_length_le h]
 simp
end
abbrev pV:Ty:=.pair .bool (.pair (.int .i64) (.pair (.int .i64) (.int .i64)))
abbrev Dm:=Bool×Int×Int×Int
def iR (l:List Dm) (n:Int):Dm:=l.getD n.toNat (false,0,0,0)
def Fv (d:List Dm) (t i:Int):Int:=(iR d i).2.2.1-t-(iR d i).2.1
def cm (a b:Int):Int:=if a<b then -1 else if a>b then 1 else 0
def orI:List Int→Int
 | []=>0
 |x::l=>if (x !=0)=true then x else orI l
def cmD (d:List Dm) (t a b:Int):Int:=orI [cm (iR d a).2.2.2 (iR d b).2.2.2,cm (Fv d t a) (Fv d t b),cm a b]
def ltD (d:List Dm) (t a b:Int):Bool:=decide (cmD d t a b<0)
theorem zJ {d:List Dm}{t a b:Int}:ltD d t a b=true↔(iR d a).2.2.2<(iR d b).2.2.2∨((iR d a).2.2.2=(iR d b).2.2.2∧(Fv d t a<Fv d t b∨(Fv d t a=Fv d t b∧a<b))):=by
 unfold ltD cmD
 rw [decide_eq_true_eq]
 generalize (iR d a).2.2.2=x
 generalize (iR d b).2.2.2=y
 generalize Fv d t a=u
 generalize Fv d t b=v
 simp only [orI,cm]
 by_cases h1:x<y
 ·simp [h1]
 ·by_cases h2:x>y
  ·simp [h1,h2]<;>omega
  ·by_cases h3:u<v
   ·simp [h1,h2,h3]<;>omega
   ·by_cases h4:u>v
    ·simp [h1,h2,h3,h4]<;>omega
    ·by_cases h5:a<b
     ·simp [h1,h2,h3,h4,h5]<;>omega
     ·by_cases h6:a>b
      ·simp [h1,h2,h3,h4,h5,h6]<;>omega
      ·simp [h1,h2,h3,h4,h5,h6]<;>omega
theorem Ws {d:List Dm}{t a b:Int}:ltD d t a b=false↔¬((iR d a).2.2.2<(iR d b).2.2.2∨((iR d a).2.2.2=(iR d b).2.2.2∧(Fv d t a<Fv d t b∨(Fv d t a=Fv d t b∧a<b)))):=by
 rw [←zJ,Bool.not_eq_true]
theorem anK {d:List Dm}{t:Int}:ao7 (ltD d t):=⟨fun h=>by
 rw [zJ] at h
 rw [Ws]
 omega,fun h1 h2=>by
 rw [Ws] at*
 omega⟩
def wI (d:List Dm) (t:Int):Prop:=(∀x∈d,(-2000000000≤x.2.1∧x.2.1≤2000000000)∧-2000000000≤x.2.2.1∧x.2.2.1≤2000000000)∧-2000000000≤t∧t≤2000000000
theorem an2 {d:List Dm}{i:Int}(h0:0≤i) (h1:i<(d.length:Int)):iR d i∈d:=by
 unfold iR
 have h:i.toNat<d.length:=by omega
 simp [List.getD,h]
theorem aef {d:List Dm}{t i:Int}(h:wI d t) (h0:0≤i) (h1:i<(d.length:Int)):(-2000000000≤(iR d i).2.1∧(iR d i).2.1≤2000000000)∧-2000000000≤(iR d i).2.2.1∧(iR d i).2.2.1≤2000000000:=h.1 _ (an2 h0 h1)
def yA (n:Nat):List Int:=(List.range n).map (fun k:Nat=>(k:Int))
def iP (d:List Dm) (t:Int):List Int:=sortB (ltD d t) (yA d.length)
theorem adl {n:Nat}:yA (n+1)=yA n++[(n:Int)]:=by simp [yA,List.range_succ]
theorem pW {n:Nat}:(yA n).length=n:=by simp [yA]
theorem Rx {n:Nat}{x:Int}:x∈yA n↔0≤x∧x<(n:Int):=by
 unfold yA
 rw [List.mem_map]
 constructor
 ·rintro ⟨k,hk,rfl⟩
  rw [List.mem_range] at hk
  omega
 ·exact fun h=>⟨x.toNat,by rw [List.mem_range];omega,by omega⟩
theorem Vt {n:Nat}:(yA n).Nodup:=List.Pairwise.map _ (fun a b h=>by omega) List.nodup_range
theorem sG {d:List Dm}{t:Int}:(iP d t).Perm (yA d.length):=Vk
theorem RS {d:List Dm}{t:Int}:(iP d t).length=d.length:=by rw [sG.length_eq,pW]
theorem zC {d:List Dm}{t x:Int}:x∈iP d t↔0≤x∧x<(d.length:Int):=sG.mem_iff.trans Rx
theorem yC {d:List Dm}{t:Int}:(iP d t).Nodup:=sG.nodup_iff.2 Vt
theorem DC {d:List Dm}{t:Int}:(iP d t).Pairwise (fun a b=>ltD d t b a=false):=NH anK
end Go.Proofs.YtlihnbimgclogaaGreatDoor
namespace Go.Proofs.YtlihnbimgclogaaGreatDoor
open Go.Sx
theorem Pq {mi ma st a k:Int}(hh:mG mi ma st=true) (ha:0≤a) (h0:0≤k) (h1:k<CU mi ma st):Ce mi st k≤a↔k≤SA mi ma st a:=by
 obtain ⟨g1,g2,g3,g4,g5⟩:=fK.1 hh
 have hn:¬(mG mi ma st=false∨a<0):=by simp [hh];omega
 unfold SA
 rw [if_neg hn]
 unfold Ce
 by_cases e:k=0
 ·subst e
  simp only [if_true]
  split
  ·omega
  ·have:=Dj (x:=a-mi) (st:=st) (by omega) (by omega)
   omega
 ·rw [if_neg e]
  have hp:0≤(k-1)*st:=Int.mul_nonneg (by omega) (by omega)
  split
  ·omega
  ·have:=(Int.le_ediv_iff_mul_le (a:=k-1) (b:=a-mi) (c:=st) (by omega))
   omega
theorem ahn {mi ma st a:Int}(hh:mG mi ma st=true):SA mi ma st a<CU mi ma st:=by
 have:=Pj hh
 unfold SA
 split
 ·omega
 ·split<;>omega
theorem WE {mi ma st a:Int}(hh:mG mi ma st=true) (ha:0≤a):0≤SA mi ma st a:=by
 have:=Pj hh
 obtain ⟨g1,g2,g3,g4,g5⟩:=fK.1 hh
 have hn:¬(mG mi ma st=false∨a<0):=by simp [hh];omega
 unfold SA
 rw [if_neg hn]
 split
 ·omega
 ·have:=Dj (x:=a-mi) (st:=st) (by omega) (by omega)
  omega
theorem VQ {l:List Int}:once l=true↔l.Nodup:=by
 rw [GY,List.nodup_iff_pairwise_ne,List.pairwise_iff_getElem]
 constructor
 ·intro h i j hi hj hij e
  exact h j hj (by rw [←e,List.mem_iff_getElem];exact ⟨i,by rw [List.length_take];omega,by simp⟩)
 ·intro h j hj hm
  obtain ⟨i,hi,e⟩:=List.mem_iff_getElem.1 hm
  rw [List.length_take] at hi
  have:l[i]=l[j]:=by simpa using e
  exact h i j (by omega) hj (by omega) this
theorem vI:∀ {r l:List Int},r.Nodup→(∀x∈r,x∈l)→r.length=l.length→l.Nodup∧∀x∈l,x∈r
 | [],l,_,_,h=>by
  have:l=[]:=List.length_eq_zero_iff.1 h.symm
  subst this
  simp
 | x::r,l,hn,hs,h=>by
  obtain ⟨n1,n2⟩:=List.nodup_cons.1 hn
  have hx:=hs x (by simp)
  have hp:=List.perm_cons_erase hx
  have hl:(l.erase x).length=l.length-1:=List.length_erase_of_mem hx
  obtain ⟨i1,i2⟩:=vI (l:=l.erase x) n2 (fun y hy=>by
   have hy2:=hs y (by simp [hy])
   have hne:y≠x:=fun e=>n1 (e▸hy)
   exact (List.mem_erase_of_ne hne).2 hy2) (by rw [hl];simp only [List.length_cons] at h;omega)
  refine ⟨hp.nodup_iff.2 (List.nodup_cons.2 ⟨fun hm=>n1 (i2 x hm),i1⟩),fun y hy=>?_⟩
  by_cases e:y=x
  ·simp [e]
  ·exact List.mem_cons_of_mem _ (i2 y ((List.mem_erase_of_ne e).2 hy))
def aeT (n:Nat):List Int:=(List.range n).map (fun k:Nat=>(k:Int))
theorem Ry {n:Nat}{x:Int}:x∈aeT n↔0≤x∧x<(n:Int):=by
 unfold aeT
 rw [List.mem_map]
 constructor
 ·rintro ⟨k,hk,rfl⟩
  have:=List.mem_range.1 hk
  omega
 ·rintro ⟨h1,h2⟩
  exact ⟨x.toNat,List.mem_range.2 (by omega),by omega⟩
theorem Rz {n:Nat}:(aeT n).length=n:=by simp [aeT]
theorem KI {l:List Int}{n:Nat}:mF l n=true↔l.length=n∧l.Nodup∧∀i∈l,0≤i∧i<(n:Int):=by
 unfold mF
 simp only [Bool.and_eq_true,decide_eq_true_eq,List.all_eq_true,zy,VQ]
 constructor
 ·rintro ⟨h1,h2,h3⟩;exact ⟨by omega,h3,h2⟩
 ·rintro ⟨h1,h2,h3⟩;exact ⟨by omega,h3,h2⟩
theorem adH {l:List Int}{n:Nat}(h:mF l n=true) {i:Int}(h0:0≤i) (h1:i<(n:Int)):i∈l:=by
 obtain ⟨g1,g2,g3⟩:=KI.1 h
 exact (vI g2 (l:=aeT n) (fun x hx=>Ry.2 (g3 x hx)) (by rw [Rz];exact g1)).2 i (Ry.2 ⟨h0,h1⟩)
def Zn (al am ms:List Int):Int:=(ms.map (fun m=>mx (gi al m) (gi am m))).sum
def rowB (al am:List Int) (r:Rw):Bool:=r.2.all (fun m=>gi am m==0) ||decide (Zn al am r.2≤r.1)
def RP (rows:List Rw) (al am:List Int):Bool:=rows.all (rowB al am)
theorem rY {al am ms:List Int}{m:Int}:Zn al am (m::ms)=mx (gi al m) (gi am m)+Zn al am ms:=by simp [Zn]
end Go.Proofs.YtlihnbimgclogaaGreatDoor
namespace Go.Proofs.YtlihnbimgclogaaGreatDoor
open Go.Sx
def az6 (gs:List Ch) (i k:Int):Int:=amA (bF gs i).2.2.2.1 (bF gs i).2.2.2.2.1 (bF gs i).2.2.2.2.2.1 k
def az5 (gs:List Ch) (i k:Int):Int:=amE (bF gs i).2.2.2.1 (bF gs i).2.2.2.2.1 (bF gs i).2.2.2.2.2.1 k
structure awf (gs:List Ch) (out:List Int):Prop where
 len:out.length=gs.length
 bd:∀a∈out,0≤a∧a≤1000000
theorem awf.put {gs:List Ch}{out:List Int}(h:awf gs out) {k:Nat}{v:Int}(hv:0≤v∧v≤1000000):awf gs (out.set k v):=
 ⟨by rw [List.length_set];exact h.len,fun a ha=>by
  rcases List.mem_or_eq_of_mem_set ha with h2|h2
  ·exact h.bd a h2
  ·rw [h2];exact hv⟩
end Go.Proofs.YtlihnbimgclogaaGreatDoor
namespace Go.Proofs.YtlihnbimgclogaaGreatDoor
open Go.Sx
end Go.Proofs.YtlihnbimgclogaaGreatDoor
namespace Go.Proofs.YtlihnbimgclogaaGreatDoor
open Go.Sx
section
variable {P : List Int → Bool} {tp : Int → Int}
def yZ (P:List Int→Bool) (tp:Int→Int) (L:Int) (lv:List Int) (i:Int):List Int:=
 if gi lv i=L-1∧L≤tp i then (if P (lv.set i.toNat L)=true then lv.set i.toNat L else lv) else lv
def qf (P:List Int→Bool) (tp:Int→Int) (L:Int) (lv l:List Int):List Int:=l.foldl (yZ P tp L) lv
def vS (P:List Int→Bool) (tp:Int→Int) (od:List Int):Nat→Int→List Int→List Int
 |0,_,lv=>lv
 |f+1,L,lv=>vS P tp od f (L+1) (qf P tp L lv od)
theorem iw {l:List Int}{i j v:Int}(h0:0≤i) (h1:i<(l.length:Int)) (hj:0≤j):gi (l.set i.toNat v) j=if j=i then v else gi l j:=by
 unfold gi
 rw [qh]
 by_cases e:j=i
 ·subst e
  rw [if_pos ⟨rfl,by omega⟩,if_pos rfl]
 ·rw [if_neg (by omega),if_neg e]
def qC (n:Nat) (l:List Int):Prop:=∀i∈l,0≤i∧i<(n:Int)
theorem xu {L i:Int}{lv:List Int}:(yZ P tp L lv i).length=lv.length:=by
 unfold yZ
 split
 ·split
  ·rw [List.length_set]
  ·rfl
 ·rfl
theorem ahQ {L i j:Int}{lv:List Int}(h:0≤i∧i<(lv.length:Int)) (hj:0≤j):gi lv j≤gi (yZ P tp L lv i) j:=by
 unfold yZ
 split
 ·rename_i hc
  split
  ·rw [iw h.1 h.2 hj]
   split
   ·rename_i e;subst e;omega
   ·exact Int.le_refl _
  ·exact Int.le_refl _
 ·exact Int.le_refl _
theorem KJ {L i j:Int}{lv:List Int}(h:0≤i∧i<(lv.length:Int)) (hj:0≤j) (hn:j≠i∨gi lv j≠L-1):gi (yZ P tp L lv i) j=gi lv j:=by
 unfold yZ
 split
 ·rename_i hc
  split
  ·rw [iw h.1 h.2 hj]
   split
   ·rename_i e;subst e;rcases hn with hn|hn
    ·exact absurd rfl hn
    ·exact absurd hc.1 hn
   ·rfl
  ·rfl
 ·rfl
theorem avd {L i j:Int}{lv:List Int}(h:0≤i∧i<(lv.length:Int)) (hj:0≤j):gi (yZ P tp L lv i) j≤gi lv j∨(gi (yZ P tp L lv i) j=L∧L≤tp j):=by
 unfold yZ
 split
 ·rename_i hc
  split
  ·rw [iw h.1 h.2 hj]
   split
   ·rename_i e;subst e;exact .inr ⟨rfl,hc.2⟩
   ·exact .inl (Int.le_refl _)
  ·exact .inl (Int.le_refl _)
 ·exact .inl (Int.le_refl _)
theorem xk {L:Int}{lv l1 l2:List Int}:qf P tp L lv (l1++l2)=qf P tp L (qf P tp L lv l1) l2:=by simp [qf]
theorem kN {L i:Int}{lv l:List Int}:qf P tp L lv (i::l)=qf P tp L (yZ P tp L lv i) l:=rfl
theorem uw {L:Int}:∀ {l lv:List Int},(qf P tp L lv l).length=lv.length
 | [],_=>rfl
 |i::l,lv=>by rw [kN,uw (l:=l),xu]
theorem yI {L j:Int}(hj:0≤j):∀ {l lv:List Int},qC lv.length l→gi lv j≤gi (qf P tp L lv l) j
 | [],_,_=>Int.le_refl _
 |i::l,lv,h=>by
  rw [kN]
  have h1:=ahQ (P:=P) (tp:=tp) (L:=L) (h i (by simp)) hj
  have h2:=yI (L:=L) hj (l:=l) (lv:=yZ P tp L lv i) (by rw [xu];exact fun x hx=>h x (by simp [hx]))
  omega
theorem pR {L j:Int}(hj:0≤j):∀ {l lv:List Int},qC lv.length l→(j∉l∨gi lv j≠L-1)→gi (qf P tp L lv l) j=gi lv j
 | [],_,_,_=>rfl
 | i::l,lv,h,hn=>by
  have e:=KJ (P:=P) (tp:=tp) (L:=L) (h i (by simp)) hj (by
   rcases hn with hn|hn
   ·exact .inl (fun e=>hn (by simp [e]))
   ·exact .inr hn)
  rw [kN,pR hj (by rw [xu];exact fun x hx=>h x (by simp [hx])) (by
   rcases hn with hn|hn
   ·exact .inl (fun hm=>hn (by simp [hm]))
   ·exact .inr (by rw [e];exact hn)),e]
theorem Pz {L j:Int}(hj:0≤j):∀ {l lv:List Int},qC lv.length l→gi (qf P tp L lv l) j≤gi lv j∨(gi (qf P tp L lv l) j≤L∧gi (qf P tp L lv l) j≤tp j)
 | [],_,_=> .inl (Int.le_refl _)
 |i::l,lv,h=>by
  rw [kN]
  have h1:=avd (P:=P) (tp:=tp) (L:=L) (h i (by simp)) hj
  have h2:=Pz (L:=L) hj (l:=l) (lv:=yZ P tp L lv i) (by rw [xu];exact fun x hx=>h x (by simp [hx]))
  omega
theorem FM {od:List Int}:∀ {f:Nat}{L:Int}{lv:List Int},(vS P tp od f L lv).length=lv.length
 |0,_,_=>rfl
 |f+1,L,lv=>by rw [vS,FM,uw]
theorem WQ {od:List Int}{j:Int}(hj:0≤j):∀ {f:Nat}{L:Int}{lv:List Int},qC lv.length od→gi lv j≤gi (vS P tp od f L lv) j
 |0,_,_,_=>Int.le_refl _
 |f+1,L,lv,h=>by
  rw [vS]
  have h1:=yI (P:=P) (tp:=tp) (L:=L) hj h
  have h2:=WQ (f:=f) (L:=L+1) (lv:=qf P tp L lv od) hj (by rw [uw];exact h)
  omega
theorem WR {od:List Int}{j:Int}(hj:0≤j):∀ {f:Nat}{L:Int}{lv:List Int},qC lv.length od→gi (vS P tp od f L lv) j≤gi lv j∨(gi (vS P tp od f L lv) j≤L+f-1∧gi (vS P tp od f L lv) j≤tp j)
 |0,_,_,_=> .inl (Int.le_refl _)
 |f+1,L,lv,h=>by
  rw [vS]
  have h1:=Pz (P:=P) (tp:=tp) (L:=L) hj h
  have h2:=WR (f:=f) (L:=L+1) (lv:=qf P tp L lv od) hj (by rw [uw];exact h)
  omega
theorem zO {od:List Int}:∀ {f:Nat}{L:Int}{lv:List Int},vS P tp od (f+1) L lv=qf P tp (L+f) (vS P tp od f L lv) od
 |0,L,lv=>by simp [vS]
 |f+1,L,lv=>by
  rw [vS,zO (f:=f) (L:=L+1),vS,show L+1+(f:Int)=L+((f+1:Nat):Int) by omega]
theorem CY {L:Int}:∀ {l lv:List Int},(∀i∈l,gi lv i≠L-1∨tp i<L)→qf P tp L lv l=lv
 | [],_,_=>rfl
 | i::l,lv,h=>by
  have e:yZ P tp L lv i=lv:=by
   unfold yZ
   rw [if_neg (by have:=h i (by simp);omega)]
  rw [kN,e,CY (fun j hj=>h j (by simp [hj]))]
theorem KL {od:List Int}:∀ {f:Nat}{L:Int}{lv:List Int},(∀i∈od,gi lv i<L-1)→vS P tp od f L lv=lv
 |0,_,_,_=>rfl
 |f+1,L,lv,h=>by
  rw [vS,CY (fun i hi=> .inl (by have:=h i hi;omega)),KL (fun i hi=>by have:=h i hi;omega)]
end
end Go.Proofs.YtlihnbimgclogaaGreatDoor
namespace Go.Proofs.YtlihnbimgclogaaGreatDoor
open Go.Sx
structure uX (rows:List Rw) (gs:List Ch) (al mo od:List Int):Prop where
 mem:∀r∈rows,r.2.Nodup∧∀m∈r.2,0≤m∧m<(gs.length:Int)
 has:∀i:Int,0≤i→i<(gs.length:Int)→mG (bF gs i).2.2.2.1 (bF gs i).2.2.2.2.1 (bF gs i).2.2.2.2.2.1=true
 gl:gs.length≤16
 all:al.length=gs.length
 mol:mo.length=gs.length
 al:∀a∈al,0≤a∧a≤80
 mo:∀a∈mo,0≤a∧a≤80
 nd:od.Nodup
 ord:qC gs.length od
 cov:∀i:Int,0≤i→i<(gs.length:Int)→i∈od
theorem Zp {cs:List Cd}{os:List ByteArray}{ks:List Ko}{gs:List Ch}{bs:List Ba}{al mo od:List Int}(h:sD cs os ks gs bs al mo od=true):uX (jV cs gs cs.length) gs al mo od:=by
 obtain ⟨hv,h1,h2,h3,h4,h5⟩:=jA.1 h
 have hl:=(gX.1 hv).1
 obtain ⟨o1,o2,o3⟩:=KI.1 h5
 refine ⟨fun r hr=>⟨(row_mem hr).1,(row_mem hr).2.1⟩,fun i h0 h1=>?_,by omega,h1,h2,fun a ha=>ou.1 (List.all_eq_true.1 h3 a ha),fun a ha=>ou.1 (List.all_eq_true.1 h4 a ha),o2,o3,fun i h0 h1=>adH h5 h0 h1⟩
 have:=rZ hv h0 h1
 unfold FU chW at this
 simp only [Bool.and_eq_true,dW] at this
 exact fK.2 (by omega)
def PP (rows:List Rw) (gs:List Ch) (al lv:List Int):Bool:=RP rows al (ni gs lv)
def tpO (gs:List Ch) (mo:List Int) (i:Int):Int:=xU gs i (gi mo i)
theorem Ua {gs:List Ch}{lv:List Int}:(ni gs lv).length=gs.length:=by simp [ni]
theorem kY {gs:List Ch}{lv:List Int}{i:Int}(h0:0≤i) (h1:i<(gs.length:Int)):gi (ni gs lv) i=xH gs i (gi lv i):=by
 rw [o6 (by rw [Ua];omega)]
 simp only [ni,List.getElem_map,List.getElem_range]
 rw [Int.toNat_of_nonneg h0]
 rfl
theorem aiI {gs:List Ch}{i:Int}:xH gs i 0=0:=by simp [xH,Ce]
theorem BM {gs:List Ch}{i a b:Int}(hh:mG (bF gs i).2.2.2.1 (bF gs i).2.2.2.2.1 (bF gs i).2.2.2.2.2.1=true) (h0:0≤a) (h1:a≤b):xH gs i a≤xH gs i b:=by
 obtain ⟨g1,g2,g3,g4,g5⟩:=fK.1 hh
 exact Ub ⟨g1,g4⟩ h0 h1
theorem aiH {gs:List Ch}{i a b:Int}(hh:mG (bF gs i).2.2.2.1 (bF gs i).2.2.2.2.1 (bF gs i).2.2.2.2.2.1=true) (h0:0≤a) (h1:a<b):xH gs i a<xH gs i b:=by
 obtain ⟨g1,g2,g3,g4,g5⟩:=fK.1 hh
 have h2:=BM hh (show 0≤a+1 by omega) (show a+1≤b by omega)
 have h3:xH gs i a<xH gs i (a+1):=by
  unfold xH Ce
  rw [if_neg (show ¬a+1=0 by omega)]
  split
  ·rename_i e;subst e;simp;omega
  ·have:(a+1-1)*(bF gs i).2.2.2.2.2.1=(a-1)*(bF gs i).2.2.2.2.2.1+(bF gs i).2.2.2.2.2.1:=by
    rw [show a+1-1=(a-1)+1 by omega,Int.add_mul,Int.one_mul]
   omega
 omega
theorem Xv {gs:List Ch}{i a:Int}(hh:mG (bF gs i).2.2.2.1 (bF gs i).2.2.2.2.1 (bF gs i).2.2.2.2.2.1=true) (h0:0≤a):0≤xH gs i a:=by
 have:=BM hh (Int.le_refl 0) h0
 rw [aiI] at this
 exact this
theorem anE {a b c:Int}(h:b≤c):mx a b≤mx a c:=by
 unfold mx
 split<;>split<;>omega
theorem Rf {al am bm:List Int}:∀ {ms:List Int},(∀m∈ms,gi am m≤gi bm m)→Zn al am ms≤Zn al bm ms
 | [],_=>Int.le_refl _
 |m::ms,h=>by
  have h1:=Rf (al:=al) (ms:=ms) (fun x hx=>h x (by simp [hx]))
  have h2:=anE (a:=gi al m) (h m (by simp))
  rw [rY,rY]
  omega
theorem wK {al am bm:List Int}:∀ {ms:List Int},(∀m∈ms,gi am m=gi bm m)→Zn al am ms=Zn al bm ms
 | [],_=>rfl
 |m::ms,h=>by rw [rY,rY,wK (ms:=ms) (fun x hx=>h x (by simp [hx])),h m (by simp)]
theorem Zm {al am bm:List Int}{i:Int}:∀ {ms:List Int},ms.Nodup→i∈ms→(∀m∈ms,m≠i→gi am m=gi bm m)→Zn al bm ms=Zn al am ms+(mx (gi al i) (gi bm i)-mx (gi al i) (gi am i))
 | [],_,h,_=>by cases h
 | m::ms,hn,hi,h=>by
  obtain ⟨n1,n2⟩:=List.nodup_cons.1 hn
  rw [rY,rY]
  by_cases e:m=i
  ·subst e
   rw [wK (am:=am) (bm:=bm) (fun x hx=>h x (by simp [hx]) (fun e=>n1 (e▸hx)))]
   omega
  ·have hi2:i∈ms:=by
    rcases List.mem_cons.1 hi with h|h
    ·exact absurd h.symm e
    ·exact h
   rw [Zm n2 hi2 (fun x hx=>h x (by simp [hx])),h m (by simp) e]
   omega
theorem Vq {al am bm:List Int}{r:Rw}(h:∀m∈r.2,gi am m=gi bm m):rowB al am r=rowB al bm r:=by
 unfold rowB
 rw [wK h]
 congr 1
 rw [Bool.eq_iff_iff,List.all_eq_true,List.all_eq_true]
 constructor
 ·intro g m hm;rw [←h m hm];exact g m hm
 ·intro g m hm;rw [h m hm];exact g m hm
theorem ao6 {rows:List Rw}{gs:List Ch}{al mo od:List Int}(H:uX rows gs al mo od) {a b:List Int}(h:∀j,0≤j→j<(gs.length:Int)→0≤gi a j∧gi a j≤gi b j) (hb:PP rows gs al b=true):PP rows gs al a=true:=by
 unfold PP RP at*
 rw [List.all_eq_true] at*
 intro r hr
 have hm:=(H.mem r hr).2
 have hle:∀m∈r.2,gi (ni gs a) m≤gi (ni gs b) m:=fun m hm'=>by
  obtain ⟨m0,m1⟩:=hm m hm'
  rw [kY m0 m1,kY m0 m1]
  exact BM (H.has m m0 m1) (h m m0 m1).1 (h m m0 m1).2
 have h1:=hb r hr
 unfold rowB at*
 rw [Bool.or_eq_true,List.all_eq_true,decide_eq_true_eq] at*
 rcases h1 with h1|h1
 ·refine .inl (fun m hm'=>?_)
  obtain ⟨m0,m1⟩:=hm m hm'
  have h2:=h1 m hm'
  have h3:=hle m hm'
  have h4:0≤gi (ni gs a) m:=by rw [kY m0 m1];exact Xv (H.has m m0 m1) (h m m0 m1).1
  simp only [beq_iff_eq] at*
  omega
 ·exact .inr (Int.le_trans (Rf hle) h1)
structure Inv (rows:List Rw) (gs:List Ch) (al sm lv:List Int):Prop where
 sl:sm.length=rows.length
 sm:∀k:Nat,k<rows.length→sm.getD k 0=Zn al (ni gs lv) (qW rows k).2
 ll:lv.length=gs.length
 nn:∀j,0≤j→0≤gi lv j
 pp:PP rows gs al lv=true
theorem FO {rows:List Rw}{k:Int}(h0:0≤k) (h1:k<(rows.length:Int)):qW rows k∈rows:=by
 rw [C9 (by omega)];exact List.getElem_mem _
theorem P8 {rows:List Rw}{gs:List Ch}{al mo od lv:List Int}(H:uX rows gs al mo od) {i L:Int}(hl:lv.length=gs.length) (h0:0≤i) (h1:i<(gs.length:Int)) {r:Rw}(hr:r∈rows):
  (∀m∈r.2,m≠i→gi (ni gs lv) m=gi (ni gs (lv.set i.toNat L)) m)∧gi (ni gs (lv.set i.toNat L)) i=xH gs i L:=by
 refine ⟨fun m hm e=>?_,?_⟩
 ·obtain ⟨m0,m1⟩:=(H.mem r hr).2 m hm
  rw [kY m0 m1,kY m0 m1,iw h0 (by omega) m0,if_neg e]
 ·rw [kY h0 h1,iw h0 (by omega) h0,if_pos rfl]
theorem aew {rows:List Rw}{gs:List Ch}{al mo od lv:List Int}(H:uX rows gs al mo od) {i L:Int}(hl:lv.length=gs.length) (h0:0≤i) (h1:i<(gs.length:Int)) {r:Rw}(hr:r∈rows) (hc:gi lv i=L-1):
  Zn al (ni gs (lv.set i.toNat L)) r.2=Zn al (ni gs lv) r.2+(if i∈r.2 then KC gs al i L else 0):=by
 obtain ⟨p1,p2⟩:=P8 (L:=L) H hl h0 h1 hr
 split
 ·rename_i hi
  rw [Zm (am:=ni gs lv) (H.mem r hr).1 hi p1,p2,kY h0 h1,hc]
  rfl
 ·rename_i hi
  rw [←wK (am:=ni gs lv) (fun m hm=>p1 m hm (fun e=>hi (e▸hm)))]
  omega
theorem an6 {rows:List Rw}{gs:List Ch}{al mo od sm lv:List Int}(H:uX rows gs al mo od) (hI:Inv rows gs al sm lv) {i L:Int}(h0:0≤i) (h1:i<(gs.length:Int)) (hL:1≤L) (hc:gi lv i=L-1):
  ((OL rows).getD i.toNat []).all (zZ rows sm (KC gs al i L))=PP rows gs al (lv.set i.toNat L):=by
 have hg:=H.gl
 rw [Yp (fun r hr=>⟨(H.mem r hr).1,fun m hm=>((H.mem r hr).2 m hm).1⟩) (by omega),Bool.eq_iff_iff,List.all_eq_true]
 unfold PP RP
 rw [List.all_eq_true]
 have hpp:=hI.pp
 unfold PP RP at hpp
 rw [List.all_eq_true] at hpp
 have hpos:1≤xH gs i L:=by
  have:=aiH (H.has i h0 h1) (Int.le_refl 0) (show 0<L by omega)
  rw [aiI] at this
  omega
 have hfit:∀k:Int,0≤k→k<(rows.length:Int)→i∈(qW rows k).2→(zZ rows sm (KC gs al i L) k=rowB al (ni gs (lv.set i.toNat L)) (qW rows k)):=fun k k0 k1 hk=>by
  have hr:=FO k0 k1
  have hs:=hI.sm k.toNat (by omega)
  rw [Int.toNat_of_nonneg k0] at hs
  have hp:=aew (L:=L) H hI.ll h0 h1 hr hc
  rw [if_pos hk] at hp
  have hz:(qW rows k).2.all (fun m=>gi (ni gs (lv.set i.toNat L)) m==0)=false:=by
   rw [Bool.eq_false_iff]
   intro hz
   have:=List.all_eq_true.1 hz i hk
   rw [(P8 (L:=L) H hI.ll h0 h1 hr).2,beq_iff_eq] at this
   omega
  unfold zZ rowB
  rw [hz,Bool.false_or,hp,hs]
 constructor
 ·intro h r hr
  obtain ⟨k,hk,rfl⟩:=List.mem_iff_getElem.1 hr
  have ek:qW rows (k:Int)=rows[k]:=C9 (by simpa using hk)
  by_cases hi:i∈rows[k].2
  ·have:=h (k:Int) (uf.2 ⟨by omega,by omega,by
    rw [Int.sub_zero,ek,Int.toNat_of_nonneg h0]
    simpa using hi⟩)
   rw [hfit k (by omega) (by omega) (by rw [ek];exact hi),ek] at this
   exact this
  ·rw [←Vq (am:=ni gs lv) (fun m hm=>(P8 (L:=L) H hI.ll h0 h1 hr).1 m hm (fun e=>hi (e▸hm)))]
   exact hpp _ hr
 ·intro h x hx
  obtain ⟨x0,x1,x2⟩:=uf.1 hx
  rw [Int.sub_zero,Int.toNat_of_nonneg h0] at x2
  rw [hfit x x0 (by omega) (by simpa using x2)]
  exact h _ (FO x0 (by omega))
theorem alT {rows:List Rw}{gs:List Ch}{al mo od sm lv:List Int}{b:Bool}(H:uX rows gs al mo od) (hI:Inv rows gs al sm lv) {i L:Int}(h0:0≤i) (h1:i<(gs.length:Int)) (hL:1≤L):
  (CJ (OL rows) rows gs al mo L (sm,lv,b) i).2.1=yZ (PP rows gs al) (tpO gs mo) L lv i∧Inv rows gs al (CJ (OL rows) rows gs al mo L (sm,lv,b) i).1 (CJ (OL rows) rows gs al mo L (sm,lv,b) i).2.1∧((CJ (OL rows) rows gs al mo L (sm,lv,b) i).2.2=false→b=false∧(CJ (OL rows) rows gs al mo L (sm,lv,b) i).2.1=lv):=by
 unfold CJ yZ
 simp only
 by_cases hc:gi lv i=L-1∧L≤tpO gs mo i
 ·have hf:=an6 H hI h0 h1 hL hc.1
  rw [if_pos (show lv.getD i.toNat 0=L-1∧L≤xU gs i (gi mo i) from hc),if_pos hc,hf]
  by_cases hp:PP rows gs al (lv.set i.toNat L)=true
  ·rw [if_pos hp,if_pos hp]
   have hg:=H.gl
   refine ⟨rfl,⟨by rw [ru];exact hI.sl,fun k hk=>?_,by rw [List.length_set];exact hI.ll,fun j hj=>?_,hp⟩,fun h=>by cases h⟩
   ·have hr:qW rows (k:Int)∈rows:=FO (by omega) (by omega)
    simp only
    rw [Yp (fun r hr=>⟨(H.mem r hr).1,fun m hm=>((H.mem r hr).2 m hm).1⟩) (by omega),IX wY (fun r hr=>(uf.1 hr).1) (by rw [hI.sl];exact hk),hI.sm k hk,aew (L:=L) H hI.ll h0 h1 hr hc.1]
    have:(k:Int)∈ofF 0 rows (i.toNat:Int)↔i∈(qW rows (k:Int)).2:=by
     rw [uf,Int.sub_zero,Int.toNat_of_nonneg h0]
     simp only [List.contains_iff_mem]
     constructor
     ·exact fun h=>h.2.2
     ·exact fun h=>⟨by omega,by omega,h⟩
    by_cases hm:i∈(qW rows (k:Int)).2
    ·rw [if_pos (this.2 hm),if_pos hm]
    ·rw [if_neg (fun h=>hm (this.1 h)),if_neg hm]
   ·simp only
    rw [iw h0 (by rw [hI.ll];exact h1) hj]
    split
    ·omega
    ·exact hI.nn j hj
  ·rw [if_neg hp,if_neg hp]
   exact ⟨rfl,hI,fun h=>⟨h,rfl⟩⟩
 ·rw [if_neg (show ¬(lv.getD i.toNat 0=L-1∧L≤xU gs i (gi mo i)) from hc),if_neg hc]
  exact ⟨rfl,hI,fun h=>⟨h,rfl⟩⟩
theorem Zh {rows:List Rw}{gs:List Ch}{al mo od:List Int}(H:uX rows gs al mo od) {L:Int}(hL:1≤L):∀ {l sm lv:List Int}{b:Bool},qC gs.length l→Inv rows gs al sm lv→
  (swp (OL rows) rows gs al mo L (sm,lv,b) l).2.1=qf (PP rows gs al) (tpO gs mo) L lv l∧Inv rows gs al (swp (OL rows) rows gs al mo L (sm,lv,b) l).1 (swp (OL rows) rows gs al mo L (sm,lv,b) l).2.1∧((swp (OL rows) rows gs al mo L (sm,lv,b) l).2.2=false→b=false∧(swp (OL rows) rows gs al mo L (sm,lv,b) l).2.1=lv)
 | [],sm,lv,b,_,hI=>⟨rfl,hI,fun h=>⟨h,rfl⟩⟩
 |i::l,sm,lv,b,hr,hI=>by
  obtain ⟨i0,i1⟩:=hr i (by simp)
  obtain ⟨r1,r2,r3⟩:=alT (b:=b) H hI i0 i1 hL
  obtain ⟨s1,s2,s3⟩:=Zh H hL (l:=l) (b:=(CJ (OL rows) rows gs al mo L (sm,lv,b) i).2.2) (fun x hx=>hr x (by simp [hx])) r2
  refine ⟨s1.trans (by rw [r1];rfl),s2,fun h=>?_⟩
  obtain ⟨t1,t2⟩:=s3 h
  obtain ⟨t3,t4⟩:=r3 t1
  exact ⟨t3,t2.trans t4⟩
theorem Zo {rows:List Rw}{gs:List Ch}{al mo od:List Int}(H:uX rows gs al mo od):∀ {f:Nat}{L:Int}{sm lv:List Int},1≤L→Inv rows gs al sm lv→(∀i∈od,gi lv i≤L-1)→shl (OL rows) rows gs al mo od f L sm lv=vS (PP rows gs al) (tpO gs mo) od f L lv
 |0,_,_,_,_,_,_=>rfl
 | f+1,L,sm,lv,hL,hI,hb=>by
  obtain ⟨s1,s2,s3⟩:=Zh (b:=false) H hL H.ord hI
  rw [shl,vS]
  split
  ·rw [Zo H (by omega) s2 (fun i hi=>by
    rw [s1]
    have h1:=Pz (P:=PP rows gs al) (tp:=tpO gs mo) (L:=L) (H.ord i hi).1 (l:=od) (lv:=lv) (by rw [hI.ll];exact H.ord)
    have h2:=hb i hi
    omega),s1]
  ·rename_i hc
   have hc:(swp (OL rows) rows gs al mo L (sm,lv,false) od).2.2=false:=by simpa using hc
   have e:=(s3 hc).2
   rw [←s1,e,KL (fun i hi=>by have:=hb i hi;omega)]
theorem rM {n:Nat}{j:Int}:gi (List.replicate n 0) j=0:=by
 unfold gi
 simp only [List.getD,List.getElem?_replicate]
 split<;>rfl
theorem ay5 {rows:List Rw}{gs:List Ch}{al mo od:List Int}(H:uX rows gs al mo od):Inv rows gs al (SM al rows) (List.replicate gs.length 0):=by
 have hz:∀r∈rows,∀m∈r.2,gi (ni gs (List.replicate gs.length 0)) m=0:=fun r hr m hm=>by
  obtain ⟨m0,m1⟩:=(H.mem r hr).2 m hm
  rw [kY m0 m1,rM,aiI]
 refine ⟨Du,fun k hk=>?_,List.length_replicate,fun j _=>by rw [rM];omega,?_⟩
 ·rw [aiY hk]
  have hr:qW rows (k:Int)∈rows:=FO (by omega) (by omega)
  unfold smA Zn
  congr 1
  refine List.map_congr_left (fun m hm=>?_)
  obtain ⟨m0,m1⟩:=(H.mem _ hr).2 m hm
  rw [hz _ hr m hm]
  have:=H.al _ (qg m0 (by rw [H.all];exact m1))
  unfold mx
  rw [if_neg (by omega)]
 ·unfold PP RP
  rw [List.all_eq_true]
  intro r hr
  unfold rowB
  rw [Bool.or_eq_true,List.all_eq_true]
  exact .inl (fun m hm=>by rw [hz r hr m hm];rfl)
def lvF (rows:List Rw) (gs:List Ch) (al mo od:List Int):List Int:=vS (PP rows gs al) (tpO gs mo) od 80 1 (List.replicate gs.length 0)
theorem Vh {rows:List Rw}{gs:List Ch}{al mo od:List Int}(H:uX rows gs al mo od) {i:Int}(h0:0≤i) (h1:i<(gs.length:Int)):0≤tpO gs mo i∧tpO gs mo i≤80∧tpO gs mo i<CU (bF gs i).2.2.2.1 (bF gs i).2.2.2.2.1 (bF gs i).2.2.2.2.2.1:=
 ⟨WE (H.has i h0 h1) (H.mo _ (qg h0 (by rw [H.mol];exact h1))).1,WG,ahn (H.has i h0 h1)⟩
theorem asI {rows:List Rw}{gs:List Ch}{al mo od:List Int}(H:uX rows gs al mo od):shV rows gs al mo od=lvF rows gs al mo od:=by
 unfold shV lvF
 rw [H.all,Zo H (by omega) (ay5 H) (fun i _=>by rw [rM];omega),zO,CY (fun i hi=> .inr ?_)]
 have:=Vh H (H.ord i hi).1 (H.ord i hi).2
 omega
end Go.Proofs.YtlihnbimgclogaaGreatDoor
namespace Go.Proofs.YtlihnbimgclogaaGreatDoor
open Go.Sx
section
variable {rows : List Rw} {gs : List Ch} {al mo od : List Int}
theorem anI:(lvF rows gs al mo od).length=gs.length:=by
 unfold lvF
 rw [FM,List.length_replicate]
theorem ZN (H:uX rows gs al mo od):qC (List.replicate gs.length (0:Int)).length od:=by rw [List.length_replicate];exact H.ord
theorem ahh (H:uX rows gs al mo od) {j:Int}(hj:0≤j):0≤gi (lvF rows gs al mo od) j:=by
 have:=WQ (P:=PP rows gs al) (tp:=tpO gs mo) (f:=80) (L:=1) hj (ZN H)
 rw [rM] at this
 exact this
theorem ahg (H:uX rows gs al mo od) {j:Int}(h0:0≤j) (h1:j<(gs.length:Int)):gi (lvF rows gs al mo od) j≤tpO gs mo j:=by
 have h2:=WR (P:=PP rows gs al) (tp:=tpO gs mo) (f:=80) (L:=1) h0 (ZN H)
 rw [rM] at h2
 have h3:=Vh H h0 h1
 unfold lvF
 omega
theorem anP {i k:Int}(hh:mG (bF gs i).2.2.2.1 (bF gs i).2.2.2.2.1 (bF gs i).2.2.2.2.2.1=true) (h0:0≤k) (h1:k<CU (bF gs i).2.2.2.1 (bF gs i).2.2.2.2.1 (bF gs i).2.2.2.2.2.1):xU gs i (xH gs i k)=k:=by
 have h2:=Xv hh h0
 have h3:=(Pq hh h2 h0 h1).1 (Int.le_refl _)
 have h4:=ahn (a:=xH gs i k) hh
 have h5:=(Pq hh h2 (k:=SA (bF gs i).2.2.2.1 (bF gs i).2.2.2.2.1 (bF gs i).2.2.2.2.2.1 (xH gs i k)) (by omega) h4).2 (Int.le_refl _)
 by_cases e:k<SA (bF gs i).2.2.2.1 (bF gs i).2.2.2.2.1 (bF gs i).2.2.2.2.2.1 (xH gs i k)
 ·have:=aiH hh h0 e
  have h5:xH gs i (SA (bF gs i).2.2.2.1 (bF gs i).2.2.2.2.1 (bF gs i).2.2.2.2.2.1 (xH gs i k))≤xH gs i k:=h5
  omega
 ·unfold xU
  omega
end
theorem aoZ {mi ma st k:Int}(hh:mG mi ma st=true) (_:0≤k) (h1:k<CU mi ma st):Ce mi st k≤ma:=by
 obtain ⟨g1,g2,g3,g4,g5⟩:=fK.1 hh
 unfold Ce
 split
 ·omega
 ·unfold CU at h1
  rw [if_pos hh] at h1
  have h2:(k-1)≤(ma-mi) / st:=by omega
  have:=(Int.le_ediv_iff_mul_le (a:=k-1) (b:=ma-mi) (c:=st) (by omega)).1 h2
  omega
theorem av3 {mi ma st k:Int}(h0:0≤k) (h1:k<CU mi ma st):amA mi ma st k=Ce mi st k∧amE mi ma st k=0:=by
 unfold amA amE
 rw [if_neg (by omega),if_neg (by omega)]
 exact ⟨rfl,rfl⟩
end Go.Proofs.YtlihnbimgclogaaGreatDoor
namespace Go.Proofs.YtlihnbimgclogaaGreatDoor
open Go.Sx
section
variable {rows : List Rw} {gs : List Ch} {al mo od lv : List Int}
def lvR (gs:List Ch) (lv:List Int):Prop:=lv.length=gs.length∧∀j,0≤j→j<(gs.length:Int)→0≤gi lv j∧gi lv j<CU (bF gs j).2.2.2.1 (bF gs j).2.2.2.2.1 (bF gs j).2.2.2.2.2.1
theorem ahi (H:uX rows gs al mo od):lvR gs (lvF rows gs al mo od):=⟨anI,fun j h0 h1=>⟨ahh H h0,by
 have:=ahg H h0 h1
 have:=Vh H h0 h1
 omega⟩⟩
theorem ao0 (H:uX rows gs al mo od) {j k:Int}(h0:0≤j) (h1:j<(gs.length:Int)) (k0:0≤k) (k1:k<CU (bF gs j).2.2.2.1 (bF gs j).2.2.2.2.1 (bF gs j).2.2.2.2.2.1):(0≤xH gs j k∧xH gs j k≤80)∧az5 gs j k=0∧az6 gs j k=xH gs j k∧xU gs j (xH gs j k)=k:=by
 have hh:=H.has j h0 h1
 obtain ⟨g1,g2,g3,g4,g5⟩:=fK.1 hh
 have h2:=aoZ hh k0 k1
 obtain ⟨e1,e2⟩:=av3 k0 k1
 refine ⟨⟨Xv hh k0,?_⟩,e2,e1,anP hh k0 k1⟩
 unfold xH
 omega
theorem av2 (H:uX rows gs al mo od) (R:lvR gs lv) {j:Int}(h0:0≤j) (h1:j<(gs.length:Int)):xU gs j (gi (ni gs lv) j)=gi lv j∧az5 gs j (gi lv j)=0∧az6 gs j (gi lv j)=gi (ni gs lv) j∧0≤gi (ni gs lv) j∧gi (ni gs lv) j≤80:=by
 obtain ⟨r0,r1⟩:=R.2 j h0 h1
 obtain ⟨a1,a2,a3,a4⟩:=ao0 H h0 h1 r0 r1
 rw [kY h0 h1]
 exact ⟨a4,a2,a3,a1⟩
theorem axN (H:uX rows gs al mo od) {j k:Int}(h0:0≤j) (h1:j<(gs.length:Int)) (k0:0≤k) (k1:k<CU (bF gs j).2.2.2.1 (bF gs j).2.2.2.2.1 (bF gs j).2.2.2.2.2.1):xH gs j k≤gi mo j↔k≤tpO gs mo j:=
 Pq (H.has j h0 h1) (H.mo _ (qg h0 (by rw [H.mol];exact h1))).1 k0 k1
theorem Ii {a b:List Int}(hl:a.length=b.length) (h:∀j:Int,0≤j→j<(b.length:Int)→gi a j=gi b j):a=b:=List.ext_getElem hl fun k h1 h2=>by
 have:=h (k:Int) (by omega) (by omega)
 rw [o6 (by simpa using h1),o6 (by simpa using h2)] at this
 simpa using this
def g4 (gs:List Ch) (mo b am:List Int) (j:Int):Prop:=(0≤gi b j∧gi b j<CU (bF gs j).2.2.2.1 (bF gs j).2.2.2.2.1 (bF gs j).2.2.2.2.2.1)∧gi am j=xH gs j (gi b j)∧gi am j≤gi mo j
end
section
variable {cs : List Cd} {os : List ByteArray} {ks : List Ko} {gs : List Ch} {bs : List Ba} {al mo od : List Int}
theorem Vo (h:sD cs os ks gs bs al mo od=true):xK cs os ks gs bs al mo od=ni gs (lvF (jV cs gs cs.length) gs al mo od):=by
 unfold xK
 rw [if_pos h,asI (Zp h)]
theorem aeF (h:sD cs os ks gs bs al mo od=true):shE cs os ks gs bs al mo od=0:=by unfold shE;rw [if_pos h]
end
end Go.Proofs.YtlihnbimgclogaaGreatDoor
namespace Go.Proofs.YtlihnbimgclogaaGreatDoor
open Go.Sx
abbrev JI:Ty:=.pair (.int .i64) (.int .i64)
abbrev Ra:=Int×Int
def lU (l:List Ra) (n:Int):Ra:=l.getD n.toNat (0,0)
theorem WZ {l:List Ra}{n:Int}(h:n.toNat<l.length):lU l n=l[n.toNat]:=vP h
theorem ahZ {l:List Int}{j:Int}(h:l.length≤j.toNat):gi l j=0:=by
 unfold gi
 rw [List.getD_eq_getElem?_getD,List.getElem?_eq_none h]
 rfl
theorem auS {l:List Int}{a:Int}(h:a∈l):∃j:Int,(0≤j∧j<(l.length:Int))∧gi l j=a:=by
 obtain ⟨k,hk,e⟩:=List.mem_iff_getElem.1 h
 exact ⟨k,by omega,by rw [o6 (by simpa using hk)];simpa using e⟩
theorem neN {a b:Nat}:((a:Int) !=(b:Int))=!decide (a=b):=by
 by_cases h:a=b
 ·simp [h]
 ·have h':(a:Int)≠(b:Int):=by omega
  simp [h,h']
def Ud (t:Int) (x:Le):Bool:=decide (x.2.2.2.1≤t)&&decide (adN x>t)
def kpA (o:List Int) (x:Le):List Int:=o.set x.2.1.toNat (mx (gi o x.2.1) x.2.2.1)
def Xx (n:Nat) (l:List Le) (t:Int):List Int:=(l.filter (Ud t)).foldl kpA (List.replicate n 0)
def below (n:Int) (l:List Le):Bool:=l.all (fun x=>decide (x.2.1<n))
def JS (l:List Le) (n t:Int):Bool:=(pK l&&(inB n 0 16&&inB t 0 1100000))&&below n l
def oD (l:List Le) (n t:Int):List Int:=if JS l n t=true then Xx n.toNat l t else []
def Uc (l:List Le) (n t:Int):Int:=if JS l n t=true then 0 else 1
theorem anQ {o:List Int}{x:Le}:(kpA o x).length=o.length:=by simp [kpA]
theorem Z8:∀ {l:List Le}{o:List Int},(l.foldl kpA o).length=o.length
 | [],_=>rfl
 |x::l,o=>by rw [List.foldl_cons,Z8,anQ]
theorem BN {n:Nat}{l:List Le}{t:Int}:(Xx n l t).length=n:=by rw [Xx,Z8,List.length_replicate]
theorem adE {l:List Le}(h:pK l=true):l.Pairwise (fun a b=>a.1<b.1∧a.2.2.2.1≤b.2.2.2.1):=by
 unfold pK at h
 rw [Bool.and_eq_true] at h
 have hs:∀k:Nat,(hk:k+1<l.length)→l[k].1<l[k+1].1∧l[k].2.2.2.1≤l[k+1].2.2.2.1:=fun k hk=>by
  have:=gm.1 h.2 (k+1) (by omega)
  unfold jK Tf at this
  rw [PI (n:=((k+1:Nat):Int)) (by simpa using hk),PI (n:=((k+1:Nat):Int)-1) (by omega)] at this
  simp only [Bool.and_eq_true,Bool.or_eq_true,decide_eq_true_eq] at this
  obtain ⟨_,h1|h1⟩:=this
  ·omega
  ·have e:(((k+1:Nat):Int)-1).toNat=k:=by omega
   simp only [e,Int.toNat_natCast] at h1
   omega
 rw [List.pairwise_iff_getElem]
 intro i j hi hj hij
 induction j with
 |zero=>omega
 | succ j ih=>
  have h1:=hs j (by omega)
  by_cases e:i=j
  ·subst e;exact h1
  ·have h2:=ih (by omega) (by omega)
   omega
def Dh (c:Ch):Int:=c.2.2.2.2.2.2.1
def RI (c:Ch) (r:Ra):Bool:=Kq c.2.2.1 c.2.2.2.1 c.2.2.2.2.1 c.2.2.2.2.2.1 (Dh c) r.1 r.2
def Tz (x:Dm):Bool:=inB x.2.1 0 1000000000&&(inB x.2.2.1 0 1000000&&inB x.2.2.2 1 9)
def JG (cs:List Cd) (os:List ByteArray) (ks:List Ko) (gs:List Ch) (bs:List Ba) (l:List Le) (rs:List Ra) (d:List Dm) (t n:Int):Bool:=
 (fV cs os ks gs bs&&pK l)&&((decide (rs.length=gs.length)&&(decide (d.length=gs.length)&&(inB t 0 1000000&&inB n 1 999900)))&&(below gs.length l&&JK gs.length (fun j=>RI (bF gs j) (lU rs j)&&Tz (iR d j))))
def rH (n:Nat) (f:Int→Int):List Int:=(List.range n).map (fun k:Nat=>f (k:Int))
theorem au8 {x a b:Int}:(decide (x<a) ||decide (x>b))=!inB x a b:=by
 unfold inB
 by_cases h1:x<a
 ·rw [decide_eq_true h1,decide_eq_false (p:=x≥a) (by omega)];rfl
 ·rw [decide_eq_false h1,decide_eq_true (p:=x≥a) (by omega)]
  by_cases h2:x>b
  ·rw [decide_eq_true h2,decide_eq_false (p:=x≤b) (by omega)];rfl
  ·rw [decide_eq_false h2,decide_eq_true (p:=x≤b) (by omega)];rfl
theorem au7 {x a b:Int}{y:Bool}:(decide (x<a) ||(decide (x>b) ||y))=(!inB x a b ||y):=by rw [←Bool.or_assoc,au8]
theorem vbE {c:Ch}{r:Ra}{x:Dm}:((!Kq c.2.2.1 c.2.2.2.1 c.2.2.2.2.1 c.2.2.2.2.2.1 c.2.2.2.2.2.2.1 r.1 r.2) ||(decide (x.2.1<0) ||(decide (x.2.1>1000000000) ||(decide (x.2.2.1<0) ||(decide (x.2.2.1>1000000) ||(decide (x.2.2.2<1) ||decide (x.2.2.2>9)))))))=!(RI c r&&Tz x):=by
 unfold RI Dh Tz
 rw [au7,au7,au8,Bool.not_and,Bool.not_and,Bool.not_and]
def azF (cs:List Cd) (os:List ByteArray) (ks:List Ko) (gs:List Ch) (bs:List Ba) (l:List Le) (rs:List Ra) (d:List Dm):Bool:=decide (cs.length≤40∧os.length≤40∧ks.length≤40∧gs.length≤40∧bs.length≤40)&&(decide ((l.length:Int)≤100)&&(decide ((rs.length:Int)≤40)&&decide ((d.length:Int)≤40)))
theorem fJ {n:Nat}{f:Int→Int}:(rH n f).length=n:=by simp [rH]
theorem wZ {n:Nat}{f:Int→Int}:rH (n+1) f=rH n f++[f (n:Int)]:=by simp [rH,List.range_succ]
theorem qU {n:Nat}{f:Int→Int}{j:Int}(h0:0≤j) (h1:j<(n:Int)):gi (rH n f) j=f j:=by
 rw [o6 (by rw [fJ];omega)]
 simp only [rH,List.getElem_map,List.getElem_range]
 rw [Int.toNat_of_nonneg h0]
theorem Hu {n:Nat}{f:Int→Int}{x:Int}(h:x∈rH n f):∃j,(0≤j∧j<(n:Int))∧f j=x:=by
 obtain ⟨k,hk,e⟩:=List.mem_map.1 h
 exact ⟨k,⟨by omega,by have:=List.mem_range.1 hk;omega⟩,e⟩
def lT (gs:List Ch):List Int:=rH gs.length (fun k=>Dh (bF gs k))
def lV (gs:List Ch) (d:List Dm):List Int:=rH gs.length (fun k=>if (iR d k).1=true then (bF gs k).2.2.2.2.1 else 0)
def Xw (gs:List Ch) (l:List Le) (t:Int):List Int:=rH gs.length (fun k=>mx (Dh (bF gs k)) (gi (Xx gs.length l t) k))
def YH (cs:List Cd) (os:List ByteArray) (ks:List Ko) (gs:List Ch) (bs:List Ba) (d:List Dm) (t:Int):List Int:=xK cs os ks gs bs (lT gs) (lV gs d) (iP d t)
def ofL (cs:List Cd) (os:List ByteArray) (ks:List Ko) (gs:List Ch) (bs:List Ba) (l:List Le) (d:List Dm) (t:Int):List Int:=xK cs os ks gs bs (Xw gs l t) (YH cs os ks gs bs d t) (iP d t)
theorem aaA {l:List Ra}{i j:Int}{v:Ra}(h0:0≤i) (h1:i<(l.length:Int)) (hj:0≤j):lU (l.set i.toNat v) j=if j=i then v else lU l j:=by
 unfold lU
 rw [List.getD_eq_getElem?_getD,List.getD_eq_getElem?_getD,List.getElem?_set]
 by_cases e:j=i
 ·subst e
  rw [if_pos rfl,if_pos rfl,if_pos (by omega)]
  rfl
 ·rw [if_neg (by omega),if_neg e]
theorem anZ {a b:List Ra}(hl:a.length=b.length) (h:∀j:Int,0≤j→j<(b.length:Int)→lU a j=lU b j):a=b:=List.ext_getElem hl fun k h1 h2=>by
 have:=h (k:Int) (by omega) (by omega)
 rw [WZ (by simpa using h1),WZ (by simpa using h2)] at this
 simpa using this
def NY (cs:List Cd) (os:List ByteArray) (ks:List Ko) (gs:List Ch) (bs:List Ba) (l:List Le) (d:List Dm) (t:Int) (od:List Int):List Int:=xK cs os ks gs bs (Xw gs l t) (xK cs os ks gs bs (lT gs) (lV gs d) od) od
def nwO (a t:Int):Option Le→Bool
 |none=>true
 |some x=>x.2.2.1 !=a ||decide (x.2.2.2.1≤t-6)
def nwB (gs:List Ch) (l:List Le) (t i a:Int):Bool:=!decide (a≤Dh (bF gs i))&&nwO a t (l.reverse.find? (fun x=>x.2.1==i))
def nxA (c:Ch) (r:Ra) (w:Int):Int:=nA c.2.2.1 c.2.2.2.1 c.2.2.2.2.1 c.2.2.2.2.2.1 (Dh c) r.1 r.2 w
def nxS (c:Ch) (r:Ra) (w:Int):Int:=nS c.2.2.1 c.2.2.2.1 c.2.2.2.2.1 c.2.2.2.2.2.1 (Dh c) r.1 r.2 w
def dcA (gs:List Ch) (rs:List Ra) (w:List Int) (k:Nat):List Int:=rH k (fun k=>nxA (bF gs k) (lU rs k) (gi w k))
def dcR (gs:List Ch) (rs:List Ra) (w:List Int) (k:Nat):List Ra:=(List.range k).map (fun k:Nat=>(nxA (bF gs k) (lU rs k) (gi w k),nxS (bF gs k) (lU rs k) (gi w k)))
def dcL (gs:List Ch) (l:List Le) (t n:Int) (am:List Int):Nat→List Le
 |0=>[]
 |k+1=>dcL gs l t n am k++(if nwB gs l t k (gi am k)=true then [(n+(dcL gs l t n am k).length,(k:Int),gi am k,t,12)] else [])
theorem PV {gs:List Ch}{rs:List Ra}{w:List Int}{k:Nat}:(dcR gs rs w k).length=k:=by simp [dcR]
theorem avN {gs:List Ch}{rs:List Ra}{w:List Int}{k:Nat}{j:Int}(h0:0≤j) (h1:j<(k:Int)):lU (dcR gs rs w k) j=(nxA (bF gs j) (lU rs j) (gi w j),nxS (bF gs j) (lU rs j) (gi w j)):=by
 rw [WZ (by rw [PV];omega)]
 simp only [dcR,List.getElem_map,List.getElem_range]
 rw [Int.toNat_of_nonneg h0]
def okC (c:Ch) (r:Ra) (w:Int):Bool:=okB c.2.2.1 c.2.2.2.1 c.2.2.2.2.1 c.2.2.2.2.2.1 (Dh c) r.1 r.2 w
def dcK (gs:List Ch) (rs:List Ra) (w:List Int):Prop:=∀j,0≤j→j<(gs.length:Int)→okC (bF gs j) (lU rs j) (gi w j)=true
theorem FT {gs:List Ch}{l:List Le}{t n:Int}{am:List Int}:∀ {k:Nat},(dcL gs l t n am k).length≤k
 |0=>by simp [dcL]
 |k+1=>by
  have:=FT (gs:=gs) (l:=l) (t:=t) (n:=n) (am:=am) (k:=k)
  rw [dcL,List.length_append]
  split
  ·simp only [List.length_cons,List.length_nil];omega
  ·simp only [List.length_nil];omega
section
variable (cs : List Cd) (os : List ByteArray) (ks : List Ko) (gs : List Ch) (bs : List Ba) (l : List Le) (rs : List Ra) (d : List Dm) (t n : Int)
def deA:List Int:=if JG cs os ks gs bs l rs d t n=true then dcA gs rs (ofL cs os ks gs bs l d t) gs.length else []
def deR:List Ra:=if JG cs os ks gs bs l rs d t n=true then dcR gs rs (ofL cs os ks gs bs l d t) gs.length else []
def deL:List Le:=if JG cs os ks gs bs l rs d t n=true then dcL gs l t n (dcA gs rs (ofL cs os ks gs bs l d t) gs.length) gs.length else []
def deE:Int:=if JG cs os ks gs bs l rs d t n=true then 0 else 1
end
section
variable {cs : List Cd} {os : List ByteArray} {ks : List Ko} {gs : List Ch} {bs : List Ba} {l : List Le} {rs : List Ra} {d : List Dm} {t n : Int}
structure Vd (cs:List Cd) (os:List ByteArray) (ks:List Ko) (gs:List Ch) (bs:List Ba) (l:List Le) (rs:List Ra) (d:List Dm) (t n:Int):Prop where
 site:fV cs os ks gs bs=true
 les:pK l=true
 rl:rs.length=gs.length
 dl:d.length=gs.length
 gl:gs.length≤16
 tb:0≤t∧t≤1000000
 nb:1≤n∧n≤999900
 co:below gs.length l=true
 ra:∀j:Int,0≤j→j<(gs.length:Int)→RI (bF gs j) (lU rs j)=true
 dm:∀j:Int,0≤j→j<(gs.length:Int)→Tz (iR d j)=true
 ch:∀j:Int,0≤j→j<(gs.length:Int)→chW (bF gs j)=true
theorem ape (h:JG cs os ks gs bs l rs d t n=true):Vd cs os ks gs bs l rs d t n:=by
 unfold JG at h
 simp only [Bool.and_eq_true,decide_eq_true_eq,dW] at h
 obtain ⟨⟨h1,h2⟩,⟨h3,h4,h5,h6⟩,h7,h8⟩:=h
 have hj:∀j:Int,0≤j→j<(gs.length:Int)→RI (bF gs j) (lU rs j)=true∧Tz (iR d j)=true:=fun j h0 hj=>by
  have:=gm.1 h8 j.toNat (by omega)
  rw [Int.toNat_of_nonneg h0,Bool.and_eq_true] at this
  exact this
 exact ⟨h1,h2,h3,h4,(gX.1 h1).1.2.2.2.2.1,h5,h6,h7,fun j h0 h1=>(hj j h0 h1).1,fun j h0 h1=>(hj j h0 h1).2,fun j h0 hj=>by
  have:=rZ h1 h0 hj
  unfold FU at this
  simp only [Bool.and_eq_true] at this
  exact this.2.2⟩
theorem Xe {c:Ch}(h:chW c=true):(1≤c.2.2.1∧c.2.2.1≤7)∧(1≤c.2.2.2.1∧c.2.2.2.1≤c.2.2.2.2.1)∧c.2.2.2.2.1≤80∧(1≤c.2.2.2.2.2.1∧c.2.2.2.2.2.1≤80)∧0≤Dh c∧Dh c≤c.2.2.2.2.1:=by
 unfold chW at h
 unfold Dh
 simp only [Bool.and_eq_true,Bool.or_eq_true,dW,beq_iff_eq] at h
 omega
theorem ao2 (hv:pK l=true) {m:Nat}:∀a∈Xx m l t,0≤a∧a≤80:=by
 have key:∀(l:List Le) (o:List Int),(∀x∈l,leV x=true)→(∀a∈o,0≤a∧a≤80)→∀a∈l.foldl kpA o,0≤a∧a≤80:=fun l=>by
  induction l with
  |nil=>exact fun o _ h=>h
  | cons x l ih=>
   intro o hl ho
   rw [List.foldl_cons]
   refine ih _ (fun y hy=>hl y (by simp [hy])) fun a ha=>?_
   have hx:=Z7.1 (hl x (by simp))
   rcases List.mem_or_eq_of_mem_set ha with ha|rfl
   ·exact ho a ha
   ·have:0≤gi o x.2.1∧gi o x.2.1≤80:=by
     by_cases h:x.2.1.toNat<o.length
     ·rw [o6 h];exact ho _ (List.getElem_mem _)
     ·rw [ahZ (by omega)];omega
    unfold mx
    split<;>omega
 refine key _ _ (fun x hx=>(zK hv).2 x (List.mem_filter.1 hx).1) fun a ha=>?_
 rw [List.eq_of_mem_replicate ha]
 omega
theorem aae (hd:d.length=gs.length):mF (iP d t) gs.length=true:=by
 unfold mF
 rw [RS,hd,decide_eq_true rfl,Bool.true_and,Bool.and_eq_true,List.all_eq_true]
 refine ⟨fun x hx=>zy.2 (by have:=zC.1 hx;rw [hd] at this;exact this),GY.2 fun j hj hm=>?_⟩
 obtain ⟨k,hk,e⟩:=List.mem_iff_getElem.1 hm
 rw [List.length_take] at hk
 rw [List.getElem_take] at e
 have:=(List.pairwise_iff_getElem.1 (yC (d:=d) (t:=t))) k j (by omega) hj (by omega)
 exact this e
theorem aqk {l:List Int}{a b:Int}(hz:a≤0∧0≤b) (h:∀x∈l,a≤x∧x≤b) {j:Int}:a≤gi l j∧gi l j≤b:=by
 by_cases hj:j.toNat<l.length
 ·rw [o6 hj];exact h _ (List.getElem_mem _)
 ·rw [ahZ (by omega)];exact hz
structure Si (cs:List Cd) (os:List ByteArray) (ks:List Ko) (gs:List Ch) (bs:List Ba) (d:List Dm):Prop where
 site:fV cs os ks gs bs=true
 dl:d.length=gs.length
theorem Si.ch (h:Si cs os ks gs bs d) {j:Int}(h0:0≤j) (hj:j<(gs.length:Int)):chW (bF gs j)=true:=by
 have:=rZ h.site h0 hj
 unfold FU at this
 simp only [Bool.and_eq_true] at this
 exact this.2.2
theorem Vd.si (h:Vd cs os ks gs bs l rs d t n):Si cs os ks gs bs d:=⟨h.site,h.dl⟩
theorem avZ (h:Si cs os ks gs bs d):∀a∈lT gs,0≤a∧a≤80:=fun a ha=>by
 obtain ⟨j,⟨h0,h1⟩,rfl⟩:=Hu ha
 have:=Xe (h.ch h0 h1)
 omega
theorem arw (h:Si cs os ks gs bs d):∀a∈lV gs d,0≤a∧a≤80:=fun a ha=>by
 obtain ⟨j,⟨h0,h1⟩,rfl⟩:=Hu ha
 have:=Xe (h.ch h0 h1)
 split<;>omega
theorem av4 (h:Vd cs os ks gs bs l rs d t n):∀a∈Xw gs l t,0≤a∧a≤80:=fun a ha=>by
 obtain ⟨j,⟨h0,h1⟩,rfl⟩:=Hu ha
 have:=Xe (h.ch j h0 h1)
 have:=aqk (j:=j) ⟨Int.le_refl 0,by decide⟩ (ao2 h.les (m:=gs.length) (t:=t))
 unfold mx
 split<;>omega
theorem asJ {al mo od:List Int}(hk:sD cs os ks gs bs al mo od=true):(xK cs os ks gs bs al mo od).length=gs.length∧∀j,0≤j→j<(gs.length:Int)→(0≤gi (xK cs os ks gs bs al mo od) j∧gi (xK cs os ks gs bs al mo od) j≤80)∧gi (xK cs os ks gs bs al mo od) j≤gi mo j:=by
 have H:=Zp hk
 rw [Vo hk]
 refine ⟨Ua,fun j h0 h1=>?_⟩
 obtain ⟨_,_,_,e4,e5⟩:=av2 H (ahi H) h0 h1
 have h3:=(axN H h0 h1 ((ahi H).2 j h0 h1).1 ((ahi H).2 j h0 h1).2).2 (ahg H h0 h1)
 rw [kY h0 h1] at e4 e5⊢
 exact ⟨⟨e4,e5⟩,h3⟩
theorem Zq {al mo od:List Int}(hk:sD cs os ks gs bs al mo od=true):(xK cs os ks gs bs al mo od).length=gs.length∧∀a∈xK cs os ks gs bs al mo od,0≤a∧a≤80:=by
 obtain ⟨h1,h2⟩:=asJ hk
 refine ⟨h1,fun a ha=>?_⟩
 obtain ⟨j,hj,rfl⟩:=auS ha
 rw [h1] at hj
 exact (h2 j hj.1 hj.2).1
theorem Qz (h:Si cs os ks gs bs d):sD cs os ks gs bs (lT gs) (lV gs d) (iP d t)=true:=
 jA.2 ⟨h.site,fJ,fJ,List.all_eq_true.2 fun a ha=>ou.2 (avZ h a ha),List.all_eq_true.2 fun a ha=>ou.2 (arw h a ha),aae h.dl⟩
theorem YG (h:Si cs os ks gs bs d):(YH cs os ks gs bs d t).length=gs.length∧∀a∈YH cs os ks gs bs d t,0≤a∧a≤80:=by
 exact Zq (Qz (t:=t) h)
theorem apF (h:Vd cs os ks gs bs l rs d t n):sD cs os ks gs bs (Xw gs l t) (YH cs os ks gs bs d t) (iP d t)=true:=
 jA.2 ⟨h.site,fJ,(YG h.si).1,List.all_eq_true.2 fun a ha=>ou.2 (av4 h a ha),List.all_eq_true.2 fun a ha=>ou.2 ((YG h.si).2 a ha),aae h.dl⟩
theorem apG (h:Vd cs os ks gs bs l rs d t n):(ofL cs os ks gs bs l d t).length=gs.length∧∀a∈ofL cs os ks gs bs l d t,0≤a∧a≤80:=by
 exact Zq (apF h)
theorem ayI (h:Vd cs os ks gs bs l rs d t n) {j:Int}:0≤gi (ofL cs os ks gs bs l d t) j∧gi (ofL cs os ks gs bs l d t) j≤80:=aqk ⟨Int.le_refl 0,by decide⟩ (apG h).2
theorem avL (h:Vd cs os ks gs bs l rs d t n):dcK gs rs (ofL cs os ks gs bs l d t):=fun j j0 j1=>by
 have hr:=h.ra j j0 j1
 have hb:=ayI h (j:=j)
 unfold RI at hr
 unfold okC okB
 rw [hr,decide_eq_true hb.1,decide_eq_true hb.2]
 rfl
theorem ao1 (h:Vd cs os ks gs bs l rs d t n):JS l gs.length t=true:=by
 have:=h.gl
 have:=h.tb
 unfold JS
 rw [h.les,dW.2 ⟨by omega,by omega⟩,dW.2 ⟨by omega,by omega⟩,h.co]
 rfl
theorem axs (h:Vd cs os ks gs bs l rs d t n):wI d t∧d.length≤19:=by
 refine ⟨⟨fun x hx=>?_,by have:=h.tb;omega,by have:=h.tb;omega⟩,by have:=h.gl;have:=h.dl;omega⟩
 obtain ⟨k,hk,rfl⟩:=List.mem_iff_getElem.1 hx
 have:=h.dm k (by omega) (by rw [←h.dl];omega)
 unfold Tz iR at this
 rw [vP (by simpa using hk)] at this
 simp only [Bool.and_eq_true,dW,Int.toNat_natCast] at this
 omega
end
end Go.Proofs.YtlihnbimgclogaaGreatDoor
namespace Go.Proofs.YtlihnbimgclogaaGreatDoor
open Go.Sx
def abY:List LV→T LV
 | [.agg [.xl (.pair .str (.pair (.int .i64) (.pair (.int .i64) (.pair (.int .i64) (.pair (.pair (.int .i64) (.int .i64)) (.pair (.int .i64) (.pair (.int .i64) (.pair (.int .i64) (.pair (.int .i64) (.int .i64)))))))))) cs,.xl (.str) os,.xl (.pair .str (.pair (.int .i64) (.pair (.int .i64) (.int .i64)))) ks,.xl (.pair .str (.pair (.int .i64) (.pair (.int .i64) (.pair (.int .i64) (.pair (.int .i64) (.pair (.int .i64) (.pair (.int .i64) (.int .i64)))))))) gs,.xl (.pair .str (.int .i64)) bs],.xl (.pair (.int .i64) (.pair (.int .i64) (.pair (.int .i64) (.pair (.int .i64) (.int .i64))))) l,.xl (.pair (.int .i64) (.int .i64)) rs,.xl (.pair .bool (.pair (.int .i64) (.pair (.int .i64) (.int .i64)))) d]=> .ok (.v (.bool (azF cs os ks gs bs l rs d)))
 |_=> .no
noncomputable def XP:List LV→T LV:=gZ Tryz.prog Tryz.f12.params.toList abY
noncomputable def aie:Specs:=bg [(34,XJ)]
theorem avj:∀g S,aie g=some S→Valid Tryz.prog aQ g S:=aU (l:=[(34,XJ)]) ⟨arL,trivial⟩
theorem am0 (cs:List Cd) (os:List ByteArray) (ks:List Ko) (gs:List Ch) (bs:List Ba) (l:List Le) (rs:List Ra) (d:List Dm):bY Tryz.prog aQ (aie) fC aF Tryz.f12 [.agg [.xl dZ cs,.xl .str os,.xl eP ks,.xl dR gs,.xl eU bs],.xl oO l,.xl JI rs,.xl pV d]=.ok (.v (.bool ((decide (List.length cs≤40∧List.length os≤40∧List.length ks≤40∧List.length gs≤40∧List.length bs≤40))&&((decide ((List.length l:Int)≤100))&&((decide ((List.length rs:Int)≤40))&&(decide ((List.length d:Int)≤40))))))):=by kernel_rfl
theorem arQ:Valid Tryz.prog aQ 12 XP:=aI Tryz.func12 rfl avj aH (aY (by kernel_rfl)) (fun args lv h=>by
 unfold abY at h
 split at h
 ·simp only [canL,canX]
  rw [am0]
  exact h
 ·cases h)
structure lJ where
 m:List Le
 Gw:List Ra
 d:List Dm
 r:Bool
 n:Int
 i:Int
 ak:List Cd
 aC:List ByteArray
 aj:List Ko
 au:List Ch
 aK:List Ba
def aBY (s:lJ):List LV:=[.xl oO s.m,.xl JI s.Gw,.xl pV s.d,.own 0 0,.v (.bool s.r),.v (.int .i64 s.n),.v (.int .i64 s.i)]
def aA1 (s:lJ):List aT:=[⟨[.xl dZ s.ak,.xl .str s.aC,.xl eP s.aj,.xl dR s.au,.xl eU s.aK],28,.cl,false⟩]
noncomputable def Bq:Code:=((aG (Tryz.f22.body.getD .skip))[0]?).getD .skip
def Y8 (s:lJ):T (Rd lJ):=
 .br (decide (s.i<(List.length s.m:Int))) (.req (0≤s.i∧s.i<(List.length s.m:Int)) (.br (decide ((kC s.m s.i).2.1≥s.n)) (.ok (.stop (.ret) {s with r:=false})) (.ok (.next {s with i:=(IntKind.i64.wrap (s.i+1))})))) (.ok (.stop (.exit 0) s))
abbrev aqY (s:lJ):=(Y8 s).rd s
def Jt (s:lJ) (j:Int):Bool:=decide ((kC s.m j).2.1<s.n)
def ac2 (s:lJ):Prop:=s.i=0∧0≤(List.length s.m:Int)∧(List.length s.m:Int)≤1000∧True
def MR (s:lJ):Prop:=0≤s.i∧s.i≤(List.length s.m:Int)∧(List.length s.m:Int)≤1000∧(True)∧∀j:Nat,(j:Int)<s.i→Jt s j=true
def OV (s:lJ):Nat:=((List.length s.m:Int)-s.i).toNat
def ajI (x:Ex) (_ s':lJ):Prop:=(x=.exit 0∧∀j:Nat,(j:Int)<(List.length s'.m:Int)→Jt s' j=true)∨(x=.ret∧s'.r=false∧∃j:Nat,(j:Int)<(List.length s'.m:Int)∧Jt s' j=false)
theorem azO:∀s,ac2 s→MR s:=by
 intro s h
 obtain ⟨h0,h1,h2,h3⟩:=h
 exact ⟨by omega,by omega,h2,h3,fun j hj=>by omega⟩
theorem avA (s:lJ) (hI:MR s):bQ (fun s'=>MR s'∧OV s'<OV s) (fun x s'=>ajI x s s') (aqY s):=by
 unfold aqY Y8
 dsimp only [T.rd,T.rl]
 obtain ⟨h0,h1,h2,h3,h4⟩:=hI
 refine ax (fun c1=>ax (fun c2=>?_) (fun c2=>?_)) (fun c1=>?_)
 ·have c1:s.i<(List.length s.m:Int):=by simpa using c1
  refine .inr ⟨rfl,rfl,s.i.toNat,by simp only;omega,?_⟩
  rw [Int.toNat_of_nonneg (by omega)]
  have hg:Jt s s.i=false:=by unfold Jt;(simp only [decide_eq_true_eq,decide_eq_false_iff_not] at c2⊢;omega)
  exact hg
 ·have c1:s.i<(List.length s.m:Int):=by simpa using c1
  have hg:Jt s s.i=true:=by unfold Jt;(simp only [decide_eq_true_eq,decide_eq_false_iff_not] at c2⊢;omega)
  rw [aN (x:=s.i+1) (by omega) (by omega)]
  refine ⟨⟨by simp only;omega,by simp only;omega,h2,h3,fun j hj=>?_⟩,by simp only [OV];omega⟩
  by_cases hji:(j:Int)<s.i
  ·exact h4 j hji
  ·have:(j:Int)=s.i:=by simp only at hj;omega
   rw [this];exact hg
 ·have c1:(List.length s.m:Int)≤s.i:=by simpa using c1
  exact .inl ⟨rfl,fun j hj=>h4 j (by omega)⟩
def ET:bT lJ:=⟨0,119,[1,2,3,6,12,13,14],[],aBY,aA1,fun v b=>⟨aS oO (v.getD 0 .junk),aS JI (v.getD 1 .junk),aS pV (v.getD 2 .junk),x9 (v.getD 4 .junk),gI (v.getD 5 .junk),gI (v.getD 6 .junk),aS dZ (aZ (aP b 0) 0),aS .str (aZ (aP b 0) 1),aS eP (aZ (aP b 0) 2),aS dR (aZ (aP b 0) 3),aS eU (aZ (aP b 0) 4)⟩,Y8,fun s r=> {r with m:=s.m,Gw:=s.Gw,d:=s.d,n:=s.n,ak:=s.ak,aC:=s.aC,aj:=s.aj,au:=s.au,aK:=s.aK},fun s=>s,fun _ s=>s,[.ret,.exit 0],ac2,MR,OV⟩
abbrev wP:=ET.run
abbrev abh:=ET.kG
abbrev awZ:=ET.q
theorem atG (s:lJ) (hI:MR s):(Y8 s).all (fun _=>True):=by
 refine ⟨fun c1=>⟨?_,fun _=>trivial,fun _=>trivial⟩,fun _=>trivial⟩
 ·(obtain ⟨h0,h1,h2,h3,h4⟩:=hI;simp at c1;omega)
noncomputable def PD:Specs:=bg [(49,XH),(50,XM),(51,XQ)]
theorem WS:∀g S,PD g=some S→Valid Tryz.prog aQ g S:=aU (l:=[(49,XH),(50,XM),(51,XQ)]) ⟨arJ,arO,arR,trivial⟩
theorem agB:ET.Ok:=⟨fun s=>by kernel_rfl,fun s=>by kernel_rfl,fun s=>rfl,fun s t r=>rfl,fun s=>rfl,fun s=>by kernel_rfl⟩
theorem afx:ET.Pf (ajI):=⟨azO,fun _ _=>rfl,avA,atG⟩
theorem alq:bC Tryz.prog aQ (AN 0) (.loop Bq) ET.lp:=bT.snd agB afx (aV (Γ:=PD) (K:=fC) (L:=aF) WS aH Bq (fun b hb=>by rw [show aG Bq=[] by kernel_rfl] at hb;cases hb)) (fun s=>by kernel_rfl)
theorem aoF (s:lJ) (hE:ac2 s):∃s',MR s'∧ajI (abh s) s' (wP s):=bT.fin agB afx s hE
structure oM where
 rs:List Ra
 d:List Dm
 r:Bool
 n:Int
 i:Int
 ak:List Cd
 aC:List ByteArray
 aj:List Ko
 au:List Ch
 aK:List Ba
def aBX (s:oM):List LV:=[.xl JI s.rs,.xl pV s.d,.own 0 0,.v (.bool s.r),.v (.int .i64 s.n),.v (.int .i64 s.i)]
def aA0 (s:oM):List aT:=[⟨[.xl dZ s.ak,.xl .str s.aC,.xl eP s.aj,.xl dR s.au,.xl eU s.aK],28,.cl,false⟩]
noncomputable def Bo:Code:=((aG (Tryz.f22.body.getD .skip))[1]?).getD .skip
def Y7 (s:oM):T (Rd oM):=
 .br (decide (s.i<s.n)) (.req (0≤s.i∧s.i<(List.length s.d:Int)) (.req (0≤s.i∧s.i<(List.length s.au:Int)) (.req (0≤s.i∧s.i<(List.length s.rs:Int)) (.br ((!(Kq (bF s.au s.i).2.2.1 (bF s.au s.i).2.2.2.1 (bF s.au s.i).2.2.2.2.1 (bF s.au s.i).2.2.2.2.2.1 (bF s.au s.i).2.2.2.2.2.2.1 (lU s.rs s.i).1 (lU s.rs s.i).2)) ||((decide ((iR s.d s.i).2.1<0)) ||((decide ((iR s.d s.i).2.1>1000000000)) ||((decide ((iR s.d s.i).2.2.1<0)) ||((decide ((iR s.d s.i).2.2.1>1000000)) ||((decide ((iR s.d s.i).2.2.2<1)) ||(decide ((iR s.d s.i).2.2.2>9)))))))) (.ok (.stop (.ret) {s with r:=false})) (.ok (.next {s with i:=(IntKind.i64.wrap (s.i+1))})))))) (.ok (.stop (.exit 2) s))
abbrev aqX (s:oM):=(Y7 s).rd s
def Js (s:oM) (j:Int):Bool:=RI (bF s.au j) (lU s.rs j)&&Tz (iR s.d j)
def ac1 (s:oM):Prop:=s.i=0∧0≤s.n∧s.n≤1000∧s.n=(s.au.length:Int)∧s.rs.length=s.au.length∧s.d.length=s.au.length
def MQ (s:oM):Prop:=0≤s.i∧s.i≤s.n∧s.n≤1000∧(s.n=(s.au.length:Int)∧s.rs.length=s.au.length∧s.d.length=s.au.length)∧∀j:Nat,(j:Int)<s.i→Js s j=true
def OU (s:oM):Nat:=(s.n-s.i).toNat
def ajH (x:Ex) (_ s':oM):Prop:=(x=.exit 2∧∀j:Nat,(j:Int)<s'.n→Js s' j=true)∨(x=.ret∧s'.r=false∧∃j:Nat,(j:Int)<s'.n∧Js s' j=false)
theorem azN:∀s,ac1 s→MQ s:=by
 intro s h
 obtain ⟨h0,h1,h2,h3⟩:=h
 exact ⟨by omega,by omega,h2,h3,fun j hj=>by omega⟩
theorem avz (s:oM) (hI:MQ s):bQ (fun s'=>MQ s'∧OU s'<OU s) (fun x s'=>ajH x s s') (aqX s):=by
 unfold aqX Y7
 dsimp only [T.rd,T.rl]
 obtain ⟨h0,h1,h2,h3,h4⟩:=hI
 refine ax (fun c1=>ax (fun c2=>?_) (fun c2=>?_)) (fun c1=>?_)
 ·have c1:s.i<s.n:=by simpa using c1
  refine .inr ⟨rfl,rfl,s.i.toNat,by simp only;omega,?_⟩
  rw [Int.toNat_of_nonneg (by omega)]
  have hg:Js s s.i=false:=by unfold Js;(rw [vbE] at c2;first|exact RX c2|exact ntW c2)
  exact hg
 ·have c1:s.i<s.n:=by simpa using c1
  have hg:Js s s.i=true:=by unfold Js;(rw [vbE] at c2;first|exact RX c2|exact ntW c2)
  rw [aN (x:=s.i+1) (by omega) (by omega)]
  refine ⟨⟨by simp only;omega,by simp only;omega,h2,h3,fun j hj=>?_⟩,by simp only [OU];omega⟩
  by_cases hji:(j:Int)<s.i
  ·exact h4 j hji
  ·have:(j:Int)=s.i:=by simp only at hj;omega
   rw [this];exact hg
 ·have c1:s.n≤s.i:=by simpa using c1
  exact .inl ⟨rfl,fun j hj=>h4 j (by omega)⟩
def ES:bT oM:=⟨0,119,[2,3,6,12,13,15],[],aBX,aA0,fun v b=>⟨aS JI (v.getD 0 .junk),aS pV (v.getD 1 .junk),x9 (v.getD 3 .junk),gI (v.getD 4 .junk),gI (v.getD 5 .junk),aS dZ (aZ (aP b 0) 0),aS .str (aZ (aP b 0) 1),aS eP (aZ (aP b 0) 2),aS dR (aZ (aP b 0) 3),aS eU (aZ (aP b 0) 4)⟩,Y7,fun s r=> {r with rs:=s.rs,d:=s.d,n:=s.n,ak:=s.ak,aC:=s.aC,aj:=s.aj,au:=s.au,aK:=s.aK},fun s=>s,fun _ s=>s,[.ret,.exit 2],ac1,MQ,OU⟩
abbrev ZE:=ES.run
abbrev abg:=ES.kG
abbrev awY:=ES.q
theorem atF (s:oM) (hI:MQ s):(Y7 s).all (fun _=>True):=by
 refine ⟨fun c1=>⟨?_,?_,?_,fun _=>trivial,fun _=>trivial⟩,fun _=>trivial⟩
 all_goals ((obtain ⟨h0,h1,h2,h3,h4⟩:=hI;obtain ⟨h3,h5,h6⟩:=h3;simp at c1;omega))
theorem agA:ES.Ok:=⟨fun s=>by kernel_rfl,fun s=>by kernel_rfl,fun s=>rfl,fun s t r=>rfl,fun s=>rfl,fun s=>by kernel_rfl⟩
theorem afw:ES.Pf (ajH):=⟨azN,fun _ _=>rfl,avz,atF⟩
theorem alp:bC Tryz.prog aQ (AN 0) (.loop Bo) ES.lp:=bT.snd agA afw (aV (Γ:=PD) (K:=fC) (L:=aF) WS aH Bo (fun b hb=>by rw [show aG Bo=[] by kernel_rfl] at hb;cases hb)) (fun s=>by kernel_rfl)
theorem aoE (s:oM) (hE:ac1 s):∃s',MQ s'∧ajH (abg s) s' (ZE s):=bT.fin agA afw s hE
def abX:List LV→T LV
 | [.agg [.xl (.pair .str (.pair (.int .i64) (.pair (.int .i64) (.pair (.int .i64) (.pair (.pair (.int .i64) (.int .i64)) (.pair (.int .i64) (.pair (.int .i64) (.pair (.int .i64) (.pair (.int .i64) (.int .i64)))))))))) cs,.xl (.str) os,.xl (.pair .str (.pair (.int .i64) (.pair (.int .i64) (.int .i64)))) ks,.xl (.pair .str (.pair (.int .i64) (.pair (.int .i64) (.pair (.int .i64) (.pair (.int .i64) (.pair (.int .i64) (.pair (.int .i64) (.int .i64)))))))) gs,.xl (.pair .str (.int .i64)) bs],.xl (.pair (.int .i64) (.pair (.int .i64) (.pair (.int .i64) (.pair (.int .i64) (.int .i64))))) l,.xl (.pair (.int .i64) (.int .i64)) rs,.xl (.pair .bool (.pair (.int .i64) (.pair (.int .i64) (.int .i64)))) d,.v (.int .i64 t),.v (.int .i64 n)]=> .req (nmR (gK cs os ks gs bs)∧(List.length l:Int)≤1000) (.ok (.v (.bool (JG cs os ks gs bs l rs d t n))))
 |_=> .no
noncomputable def XO:List LV→T LV:=gZ Tryz.prog Tryz.f22.params.toList abX
theorem amZ (cs:List Cd) (os:List ByteArray) (ks:List Ko) (gs:List Ch) (bs:List Ba) (l:List Le) (rs:List Ra) (d:List Dm) (t n:Int):bY Tryz.prog aQ (PD) fC (fun i=>if i=5 then ET.lp else if i=10 then ES.lp else aF i) Tryz.f22 [.agg [.xl dZ cs,.xl .str os,.xl eP ks,.xl dR gs,.xl eU bs],.xl oO l,.xl JI rs,.xl pV d,.v (.int .i64 t),.v (.int .i64 n)]=.req (nmR (gK cs os ks gs bs)) (.br (!(fV cs os ks gs bs)) (.ok (.v (.bool false))) (.req ((List.length l:Int)≤1000) (.br ((!(pK l)) ||(((List.length rs:Int) !=(List.length gs:Int)) ||(((List.length d:Int) !=(List.length gs:Int)) ||((decide (t<0)) ||((decide (t>1000000)) ||((decide (n<1)) ||(decide (n>999900)))))))) (.ok (.v (.bool false))) (.req (awZ (⟨l,rs,d,false,(List.length gs:Int),(0:Int),cs,os,ks,gs,bs⟩:lJ)) (.br (iQ (abh (⟨l,rs,d,false,(List.length gs:Int),(0:Int),cs,os,ks,gs,bs⟩:lJ)) (.ret)) (.ok (.v (.bool (wP (⟨l,rs,d,false,(List.length gs:Int),(0:Int),cs,os,ks,gs,bs⟩:lJ)).r))) (.req (awY (⟨rs,d,(wP (⟨l,rs,d,false,(List.length gs:Int),(0:Int),cs,os,ks,gs,bs⟩:lJ)).r,(List.length gs:Int),(0:Int),cs,os,ks,gs,bs⟩:oM)) (.br (iQ (abg (⟨rs,d,(wP (⟨l,rs,d,false,(List.length gs:Int),(0:Int),cs,os,ks,gs,bs⟩:lJ)).r,(List.length gs:Int),(0:Int),cs,os,ks,gs,bs⟩:oM)) (.ret)) (.ok (.v (.bool (ZE (⟨rs,d,(wP (⟨l,rs,d,false,(List.length gs:Int),(0:Int),cs,os,ks,gs,bs⟩:lJ)).r,(List.length gs:Int),(0:Int),cs,os,ks,gs,bs⟩:oM)).r))) (.ok (.v (.bool true)))))))))):=by kernel_rfl
theorem arP:Valid Tryz.prog aQ 22 XO:=aI Tryz.func22 rfl WS aH (L:=(fun i=>if i=5 then ET.lp else if i=10 then ES.lp else aF i)) (fun b hb=>by
 rw [show aG _=[Bq,Bo] by kernel_rfl] at hb
 simp only [List.mem_cons,List.not_mem_nil,or_false] at hb
 rcases hb with rfl|rfl
 ·exact alq
 ·exact alp) (fun args lv h=>by
 unfold abX at h
 split at h
 ·simp only [canL,canX]
  rw [amZ]
  rename_i cs os ks gs bs l rs d t n
  obtain ⟨⟨hn,hl⟩,rfl⟩:=h
  have bad:JG cs os ks gs bs l rs d t n=false→LV.v (.bool false)=LV.v (.bool (JG cs os ks gs bs l rs d t n)):=fun h=>by rw [h]
  refine ⟨hn,fun c=>bad (by unfold JG;rw [ntW c];rfl),fun c=>⟨hl,?_⟩⟩
  have c:=RX c
  rw [neN,neN,au7,au8,←Bool.not_and,←Bool.not_and,←Bool.not_and,←Bool.not_and]
  refine ⟨fun c2=>bad ?_,fun c2=>?_⟩
  ·unfold JG
   rw [c,Bool.true_and,←Bool.and_assoc,ntW c2,Bool.false_and]
  have c2:=RX c2
  have c2':=c2
  simp only [Bool.and_eq_true,decide_eq_true_eq] at c2'
  have hg:=(gX.1 c).1.2.2.2.2.1
  have hE:ac2 ⟨l,rs,d,false,(List.length gs:Int),0,cs,os,ks,gs,bs⟩:=⟨rfl,by simp only;omega,hl,trivial⟩
  have ev:JG cs os ks gs bs l rs d t n=(below gs.length l&&JK gs.length (fun j=>RI (bF gs j) (lU rs j)&&Tz (iR d j))):=by
   unfold JG
   rw [c,Bool.true_and,←Bool.and_assoc,c2,Bool.true_and]
  refine ⟨⟨hE,rfl,rfl⟩,?_⟩
  obtain ⟨_,_,hq⟩:=aoF _ hE
  have eb:below gs.length l=JK l.length (fun j=>decide ((kC l j).2.1<(gs.length:Int))):=by
   rw [Bool.eq_iff_iff,gm]
   exact (jG (d:=(0,0,0,0,0)) (p:=fun x:Le=>decide (x.2.1<(gs.length:Int)))).symm
  rcases hq with ⟨q1,q2⟩ |⟨q1,q2,j,q3,q4⟩<;>rw [q1]
  rotate_left
  ·rw [q2]
   exact ⟨fun _=>bad (by rw [ev,eb,tZ (n:=l.length) (f:=fun j=>decide ((kC l j).2.1<(gs.length:Int))) j q3 q4];rfl),fun h=>by cases h⟩
  refine ⟨fun h=>(by cases h),fun _=>?_⟩
  have g0:below gs.length l=true:=by rw [eb];exact gm.2 q2
  have hE2:ac1 ⟨rs,d,(wP ⟨l,rs,d,false,(List.length gs:Int),0,cs,os,ks,gs,bs⟩).r,(List.length gs:Int),0,cs,os,ks,gs,bs⟩:=⟨rfl,by simp only;omega,by simp only;omega,rfl,c2'.2.1,c2'.2.2.1⟩
  refine ⟨⟨hE2,rfl,rfl⟩,?_⟩
  obtain ⟨_,_,hq⟩:=aoE _ hE2
  rcases hq with ⟨q5,q6⟩ |⟨q5,q6,j,q7,q8⟩<;>rw [q5]
  ·exact ⟨fun h=>(by cases h),fun _=>by rw [ev,g0,(gm (f:=fun j=>RI (bF gs j) (lU rs j)&&Tz (iR d j))).2 q6];rfl⟩
  ·rw [q6]
   exact ⟨fun _=>bad (by rw [ev,tZ (n:=gs.length) (f:=fun j=>RI (bF gs j) (lU rs j)&&Tz (iR d j)) j q7 q8,Bool.and_false]),fun h=>by cases h⟩
 ·cases h)
end Go.Proofs.YtlihnbimgclogaaGreatDoor
namespace Go.Proofs.YtlihnbimgclogaaGreatDoor
open Go.Sx
def ajd:List LV→T LV
 | [.v (.int .i64 r),.v (.int .i64 m)]=> .req ((0≤r∧r≤1000000)∧0≤m∧m≤3000000) (.ok (.v (.int .i64 (m*r / 1000000))))
 |_=> .no
noncomputable def aiW:List LV→T LV:=gZ Tryz.prog Tryz.f156.params.toList ajd
noncomputable def ah5:Specs:=bg []
theorem aqd:∀g S,ah5 g=some S→Valid Tryz.prog aQ g S:=aU (l:=[]) trivial
theorem auL (r m:Int):bY Tryz.prog aQ (ah5) fC aF Tryz.f156 [.v (.int .i64 r),.v (.int .i64 m)]=.req ((1000000:Int)≠0) (.ok (.v (.int .i64 (IntKind.i64.wrap ((IntKind.i64.wrap (m*r)).tdiv 1000000))))):=by kernel_rfl
theorem axJ:Valid Tryz.prog aQ 156 aiW:=aI Tryz.func156 rfl aqd aH (aY (by kernel_rfl)) (fun args lv h=>by
 unfold ajd at h
 split at h
 ·simp only [canL,canX]
  rw [auL]
  rename_i r m
  obtain ⟨⟨hr,hm⟩,rfl⟩:=h
  have h1:=aCu (a:=m) (b:=r) hm.1 hm.2 hr.1 hr.2
  have h2:0≤m*r / 1000000∧m*r / 1000000≤m*r:=by omega
  refine ⟨by omega,congrArg (fun z=>LV.v (.int .i64 z)) ?_⟩
  rw [aN (x:=m*r) (by omega) (by omega),Int.tdiv_eq_ediv_of_nonneg h1.1,aN (by omega) (by omega)]
 ·cases h)
def ack:List LV→T LV
 | [.v (.int .i64 n)]=> .ok (.v (.bool (inB n 0 1000000)))
 |_=> .no
noncomputable def X8:List LV→T LV:=gZ Tryz.prog Tryz.f154.params.toList ack
theorem ank (n:Int):bY Tryz.prog aQ (ah5) fC aF Tryz.f154 [.v (.int .i64 n)]=.ok (.v (.bool ((decide (n≥0))&&(decide (n≤1000000))))):=by kernel_rfl
theorem ar6:Valid Tryz.prog aQ 154 X8:=aI Tryz.func154 rfl aqd aH (aY (by kernel_rfl)) (fun args lv h=>by
 unfold ack at h
 split at h
 ·simp only [canL,canX]
  rw [ank]
  exact h
 ·cases h)
structure qB where
 low:Int
 high:Int
 r:Int
 n:Int
def aBP (s:qB):List LV:=[.v (.int .i64 s.low),.v (.int .i64 s.high),.fn 162 [.own 1 0,.own 0 0,.own 2 0]]
def aAS (s:qB):List aT:=[⟨[.v (.int .i64 s.r)],202,.cl,false⟩,⟨[.fn 156 []],203,.cl,false⟩,⟨[.v (.int .i64 s.n)],3,.cl,false⟩]
noncomputable def TM:Code:=((aG (Tryz.f161.body.getD .skip))[0]?).getD .skip
def Y3 (s:qB):T (Rd qB):=
 .br (decide (s.low<s.high)) (.req ((2:Int)≠0) (.req ((0≤s.r∧s.r≤1000000)∧0≤(IntKind.i64.wrap (s.low+(IntKind.i64.wrap ((IntKind.i64.wrap (s.high-s.low)).tdiv 2))))∧(IntKind.i64.wrap (s.low+(IntKind.i64.wrap ((IntKind.i64.wrap (s.high-s.low)).tdiv 2))))≤3000000) (.br (decide (((IntKind.i64.wrap (s.low+(IntKind.i64.wrap ((IntKind.i64.wrap (s.high-s.low)).tdiv 2))))*s.r / 1000000)≥s.n)) (.ok (.next {s with high:=(IntKind.i64.wrap (s.low+(IntKind.i64.wrap ((IntKind.i64.wrap (s.high-s.low)).tdiv 2))))})) (.ok (.next {s with low:=(IntKind.i64.wrap ((IntKind.i64.wrap (s.low+(IntKind.i64.wrap ((IntKind.i64.wrap (s.high-s.low)).tdiv 2))))+1))}))))) (.ok (.stop (.exit 0) s))
abbrev aqT (s:qB):=(Y3 s).rd s
def acW (s:qB):Prop:=s.low=0∧s.high=2*s.n+2∧s.r=999800∧0≤s.n∧s.n≤1000000
def MJ (s:qB):Prop:=(0≤s.low∧s.low≤wt s.n)∧(wt s.n≤s.high∧s.high≤2*s.n+2)∧s.r=999800∧0≤s.n∧s.n≤1000000
def Hf (s:qB):Nat:=(s.high-s.low).toNat
def ajD (x:Ex) (_ s':qB):Prop:=x=.exit 0∧s'.low=wt s'.n
theorem ayU:∀s,acW s→MJ s:=by
 intro s h
 obtain ⟨h0,h1,h2,h3,h4⟩:=h
 have:=apd h3
 exact ⟨by omega,by omega,h2,h3,h4⟩
theorem auV (s:qB) (hI:MJ s):bQ (fun s'=>MJ s'∧Hf s'<Hf s) (fun x s'=>ajD x s s') (aqT s):=by
 unfold aqT Y3
 dsimp only [T.rd,T.rl]
 obtain ⟨⟨h0,h1⟩,⟨h2,h3⟩,h4,h5,h6⟩:=hI
 refine ax (fun c1=>?_) (fun c1=>?_)
 ·have c1:s.low<s.high:=by simpa using c1
  have hd:(s.high-s.low).tdiv 2=(s.high-s.low) / 2:=Int.tdiv_eq_ediv_of_nonneg (by omega)
  have hm:IntKind.i64.wrap (s.low+IntKind.i64.wrap ((IntKind.i64.wrap (s.high-s.low)).tdiv 2))=s.low+(s.high-s.low) / 2:=by
   rw [aN (x:=s.high-s.low) (by omega) (by omega),hd,aN (x:=(s.high-s.low) / 2) (by omega) (by omega),aN (by omega) (by omega)]
  rw [hm]
  refine ax (fun c2=>?_) (fun c2=>?_)
  ·rw [decide_eq_true_eq,h4,aec] at c2
   exact ⟨⟨⟨h0,h1⟩,⟨by simp only;omega,by simp only;omega⟩,h4,h5,h6⟩,by simp only [Hf];omega⟩
  ·rw [decide_eq_false_iff_not,h4,aec] at c2
   rw [aN (x:=s.low+(s.high-s.low) / 2+1) (by omega) (by omega)]
   exact ⟨⟨⟨by simp only;omega,by simp only;omega⟩,⟨h2,h3⟩,h4,h5,h6⟩,by simp only [Hf];omega⟩
 ·have c1:s.high≤s.low:=by simpa using c1
  exact ⟨rfl,by omega⟩
def JB:bT qB:=⟨3,24,[0,1,2],[],aBP,aAS,fun v b=>⟨gI (v.getD 0 .junk),gI (v.getD 1 .junk),gI (aZ (aP b 0) 0),gI (aZ (aP b 2) 0)⟩,Y3,fun s r=> {r with r:=s.r,n:=s.n},fun s=>s,fun _ s=>s,[.exit 0],acW,MJ,Hf⟩
abbrev ZA:=JB.run
abbrev aor:=JB.kG
abbrev awR:=JB.q
noncomputable def DY:Specs:=bg [(154,X8),(156,aiW)]
theorem Ic:∀g S,DY g=some S→Valid Tryz.prog aQ g S:=aU (l:=[(154,X8),(156,aiW)]) ⟨ar6,axJ,trivial⟩
noncomputable def ahG:Hand:=inl Tryz.prog aQ DY (lX Tryz.prog aQ (DY) 20 2) 9
theorem apO:dF Tryz.prog aQ ahG:=bU Ic (dS Ic) 9
theorem atw (s:qB) (hI:MJ s):(Y3 s).all (fun _=>True):=by
 refine ⟨fun c1=>⟨?_,?_,fun _=>trivial,fun _=>trivial⟩,fun _=>trivial⟩
 all_goals ((obtain ⟨⟨h0,h1⟩,⟨h2,h3⟩,h4,h5,h6⟩:=hI;simp only [decide_eq_true_eq] at c1;first|decide|(have hd:(s.high-s.low).tdiv 2=(s.high-s.low) / 2:=Int.tdiv_eq_ediv_of_nonneg (by omega);have hm:IntKind.i64.wrap (s.low+IntKind.i64.wrap ((IntKind.i64.wrap (s.high-s.low)).tdiv 2))=s.low+(s.high-s.low) / 2:=(by rw [aN (x:=s.high-s.low) (by omega) (by omega),hd,aN (x:=(s.high-s.low) / 2) (by omega) (by omega),aN (by omega) (by omega)]);rw [hm];omega)))
theorem agt:JB.Ok:=⟨fun s=>by kernel_rfl,fun s=>by kernel_rfl,fun s=>rfl,fun s t r=>rfl,fun s=>rfl,fun s=>by kernel_rfl⟩
theorem afp:JB.Pf (ajD):=⟨ayU,fun _ _=>rfl,auV,atw⟩
theorem alj:bC Tryz.prog aQ (AN 3) (.loop TM) JB.lp:=bT.snd agt afp (bH (Γ:=DY) (K:=ahG) (L:=(tH Tryz.prog aQ DY ahG 20 2)) Ic apO TM (fun b _=>dU Ic apO 20 2 b)) (fun s=>by kernel_rfl)
theorem anL (s:qB) (hE:acW s):∃s',MJ s'∧ajD (aor s) s' (ZA s):=bT.fin agt afp s hE
def abG:List LV→T LV
 | [.v (.int .i64 n)]=> .ok (.v (.tuple #[.int .i64 (wtA n),.int .i64 (wtE n)]))
 |_=> .no
noncomputable def XC:List LV→T LV:=gZ Tryz.prog Tryz.f136.params.toList abG
noncomputable def apZ:Hand:=inl Tryz.prog aQ DY (kH 161 3 1 (JB.lp) (lX Tryz.prog aQ (DY) 20 2)) 9
theorem ay9:dF Tryz.prog aQ apZ:=bU Ic (dO Tryz.func161 rfl (by kernel_rfl) alj (dS Ic)) 9
theorem amH (n:Int):bY Tryz.prog aQ (DY) apZ aF Tryz.f136 [.v (.int .i64 n)]=.br (!(inB n 0 1000000)) (.ok (.v (.tuple #[.int .i64 0,.int .i64 1]))) (.req (awR (⟨(0:Int),(IntKind.i64.wrap ((IntKind.i64.wrap (2*n))+2)),(999800:Int),n⟩:qB)) (.ok (.v (.tuple #[.int .i64 (ZA (⟨(0:Int),(IntKind.i64.wrap ((IntKind.i64.wrap (2*n))+2)),(999800:Int),n⟩:qB)).low,.int .i64 0])))):=by kernel_rfl
theorem arE:Valid Tryz.prog aQ 136 XC:=aI Tryz.func136 rfl Ic ay9 (aY (by kernel_rfl)) (fun args lv h=>by
 unfold abG at h
 split at h
 ·simp only [canL,canX]
  rw [amH]
  rename_i n
  obtain rfl:=h
  refine ⟨fun c=>?_,fun c=>?_⟩
  ·have c:inB n 0 1000000=false:=ntW c
   unfold wtA wtE
   rw [c]
   rfl
  ·have c:inB n 0 1000000=true:=RX c
   have hb:=dW.1 c
   have hE:acW ⟨0,IntKind.i64.wrap (IntKind.i64.wrap (2*n)+2),999800,n⟩:=⟨rfl,by
    show IntKind.i64.wrap (IntKind.i64.wrap (2*n)+2)=2*n+2
    rw [aN (x:=2*n) (by omega) (by omega),aN (by omega) (by omega)],rfl,hb.1,hb.2⟩
   obtain ⟨_,_,_,q⟩:=anL _ hE
   refine ⟨⟨hE,rfl,rfl⟩,?_⟩
   rw [q]
   unfold wtA wtE
   rw [if_pos c,if_pos c]
   exact rfl
 ·cases h)
end Go.Proofs.YtlihnbimgclogaaGreatDoor
namespace Go.Proofs.YtlihnbimgclogaaGreatDoor
open Go.Sx
def aja:List LV→T LV
 | [.v (.int .i64 n),.v (.int .i64 a),.v (.int .i64 b)]=> .ok (.v (.bool (inB n a b)))
 |_=> .no
noncomputable def Ug:List LV→T LV:=gZ Tryz.prog Tryz.f108.params.toList aja
noncomputable def ah4:Specs:=bg []
theorem aqc:∀g S,ah4 g=some S→Valid Tryz.prog aQ g S:=aU (l:=[]) trivial
theorem auI (n a b:Int):bY Tryz.prog aQ (ah4) fC aF Tryz.f108 [.v (.int .i64 n),.v (.int .i64 a),.v (.int .i64 b)]=.ok (.v (.bool ((decide (n≥a))&&(decide (n≤b))))):=by kernel_rfl
theorem apg:Valid Tryz.prog aQ 108 Ug:=aI Tryz.func108 rfl aqc aH (aY (by kernel_rfl)) (fun args lv h=>by
 unfold aja at h
 split at h
 ·simp only [canL,canX]
  rw [auI]
  exact h
 ·cases h)
def acg:List LV→T LV
 | [.v (.agg ⟨[.int .i64 nu,.int .i64 co,.int .i64 am,.int .i64 fr,.int .i64 tk]⟩)]=> .ok (.v (.bool (leV (nu,co,am,fr,tk))))
 |_=> .no
noncomputable def X4:List LV→T LV:=gZ Tryz.prog Tryz.f63.params.toList acg
noncomputable def aqo:Specs:=bg [(108,Ug)]
theorem azo:∀g S,aqo g=some S→Valid Tryz.prog aQ g S:=aU (l:=[(108,Ug)]) ⟨apg,trivial⟩
theorem ang (nu co am fr tk:Int):bY Tryz.prog aQ (aqo) fC aF Tryz.f63 [.v (.agg #[.int .i64 nu,.int .i64 co,.int .i64 am,.int .i64 fr,.int .i64 tk])]=.ok (.v (.bool ((inB nu (1:Int) (1000000:Int))&&((inB co (0:Int) (15:Int))&&((inB am (0:Int) (80:Int))&&((inB fr (0:Int) (1000000:Int))&&(inB tk (1:Int) (1000:Int)))))))):=by kernel_rfl
theorem ar1:Valid Tryz.prog aQ 63 X4:=aI Tryz.func63 rfl azo aH (aY (by kernel_rfl)) (fun args lv h=>by
 unfold acg at h
 split at h
 ·simp only [canL,canX]
  rw [ang]
  exact h
 ·cases h)
def ajb:List LV→T LV
 | [.v (.agg ⟨[.int .i64 nu,.int .i64 co,.int .i64 am,.int .i64 fr,.int .i64 tk]⟩),.v (.agg ⟨[.int .i64 nu2,.int .i64 co2,.int .i64 am2,.int .i64 fr2,.int .i64 tk2]⟩)]=> .ok (.v (.bool (Tf (nu,co,am,fr,tk) (nu2,co2,am2,fr2,tk2))))
 |_=> .no
noncomputable def aiU:List LV→T LV:=gZ Tryz.prog Tryz.f64.params.toList ajb
theorem auJ (nu co am fr tk nu2 co2 am2 fr2 tk2:Int):bY Tryz.prog aQ (ah4) fC aF Tryz.f64 [.v (.agg #[.int .i64 nu,.int .i64 co,.int .i64 am,.int .i64 fr,.int .i64 tk]),.v (.agg #[.int .i64 nu2,.int .i64 co2,.int .i64 am2,.int .i64 fr2,.int .i64 tk2])]=.ok (.v (.bool ((decide (nu2>nu))&&(decide (fr2≥fr))))):=by kernel_rfl
theorem axH:Valid Tryz.prog aQ 64 aiU:=aI Tryz.func64 rfl aqc aH (aY (by kernel_rfl)) (fun args lv h=>by
 unfold ajb at h
 split at h
 ·simp only [canL,canX]
  rw [auJ]
  exact h
 ·cases h)
def ach:List LV→T LV
 | [.v (.agg ⟨[.int .i64 nu,.int .i64 co,.int .i64 am,.int .i64 fr,.int .i64 tk]⟩)]=> .req ((0≤fr∧fr≤1000000)∧0≤tk∧tk≤1000000) (.ok (.v (.int .i64 (adN (nu,co,am,fr,tk)))))
 |_=> .no
noncomputable def X5:List LV→T LV:=gZ Tryz.prog Tryz.f109.params.toList ach
noncomputable def aqn:Specs:=bg [(136,XC)]
theorem azn:∀g S,aqn g=some S→Valid Tryz.prog aQ g S:=aU (l:=[(136,XC)]) ⟨arE,trivial⟩
theorem anh (nu co am fr tk:Int):bY Tryz.prog aQ (aqn) fC aF Tryz.f109 [.v (.agg #[.int .i64 nu,.int .i64 co,.int .i64 am,.int .i64 fr,.int .i64 tk])]=.br ((wtE tk) !=0) (.ok (.v (.int .i64 fr))) (.ok (.v (.int .i64 (IntKind.i64.wrap ((IntKind.i64.wrap (fr+10))+(wtA tk)))))):=by kernel_rfl
theorem ar2:Valid Tryz.prog aQ 109 X5:=aI Tryz.func109 rfl azn aH (aY (by kernel_rfl)) (fun args lv h=>by
 unfold ach at h
 split at h
 ·simp only [canL,canX]
  rw [anh]
  rename_i nu co am fr tk
  obtain ⟨⟨hf,ht⟩,rfl⟩:=h
  have c:inB tk 0 1000000=true:=dW.2 ht
  have hw:=apd ht.1
  have ea:wtA tk=wt tk:=by unfold wtA;rw [if_pos c]
  have ee:wtE tk=0:=by unfold wtE;rw [if_pos c]
  rw [ea,ee,aN (x:=fr+10) (by omega) (by omega),aN (by omega) (by omega)]
  exact ⟨fun h=>(by cases h),fun _=>rfl⟩
 ·cases h)
structure o9 where
 l:List Le
 r:Bool
 m:List Le
 n:Int
 i:Int
def aBN (s:o9):List LV:=[.xl oO s.l,.v (.bool s.r),.xl oO s.m,.v (.int .i64 s.n),.v (.int .i64 s.i)]
def aAQ (_:o9):List aT:=[]
noncomputable def Bf:Code:=((aG (Tryz.f62.body.getD .skip))[0]?).getD .skip
def Y1 (s:o9):T (Rd o9):=
 .br (decide (s.i<s.n)) (.req (0≤s.i∧s.i<(List.length s.m:Int)) (.br (!(leV (kC s.m s.i))) (.ok (.stop (.ret) {s with r:=false})) (.br (decide (s.i>0)) (.req (0≤(IntKind.i64.wrap (s.i-1))∧(IntKind.i64.wrap (s.i-1))<(List.length s.l:Int)) (.br (!(Tf (kC s.l (IntKind.i64.wrap (s.i-1))) (kC s.m s.i))) (.ok (.stop (.ret) {s with r:=false})) (.ok (.next {s with i:=(IntKind.i64.wrap (s.i+1))})))) (.ok (.next {s with i:=(IntKind.i64.wrap (s.i+1))}))))) (.ok (.stop (.exit 0) s))
abbrev aqR (s:o9):=(Y1 s).rd s
def acU (s:o9):Prop:=s.i=0∧s.n=(List.length s.l:Int)∧s.n≤1000∧s.m=s.l
def MH (s:o9):Prop:=(0≤s.i∧s.i≤s.n)∧s.n=(List.length s.l:Int)∧s.n≤1000∧s.m=s.l∧∀j:Nat,(j:Int)<s.i→jK s.l j=true
def G9 (s:o9):Nat:=(s.n-s.i).toNat
def ajB (x:Ex) (_ s':o9):Prop:=(x=.exit 0∧∀j:Nat,(j:Int)<s'.n→jK s'.l j=true)∨(x=.ret∧s'.r=false∧∃j:Nat,(j:Int)<s'.n∧jK s'.l j=false)
theorem ayS:∀s,acU s→MH s:=by
 intro s h
 obtain ⟨h0,h2,h3,h4⟩:=h
 exact ⟨by omega,h2,h3,h4,fun j hj=>by omega⟩
theorem auT (s:o9) (hI:MH s):bQ (fun s'=>MH s'∧G9 s'<G9 s) (fun x s'=>ajB x s s') (aqR s):=by
 unfold aqR Y1
 dsimp only [T.rd,T.rl]
 obtain ⟨⟨h0,h1⟩,h2,h3,h4,hA⟩:=hI
 refine ax (fun c1=>?_) (fun c1=>?_)
 ·refine ax (fun c2=>?_) (fun c2=>?_)
  ·have c1:s.i<s.n:=by simpa using c1
   rw [h4] at c2
   refine .inr ⟨rfl,rfl,s.i.toNat,by simp only;omega,?_⟩
   rw [Int.toNat_of_nonneg h0]
   show jK s.l s.i=false
   unfold jK
   rw [ntW c2]
   rfl
  ·refine ax (fun c3=>?_) (fun c3=>?_)
   ·refine ax (fun c4=>?_) (fun c4=>?_)
    ·have c1:s.i<s.n:=by simpa using c1
     rw [h4] at c2
     have c3:0<s.i:=by simpa using c3
     rw [aN (x:=s.i-1) (by omega) (by omega),h4] at c4
     refine .inr ⟨rfl,rfl,s.i.toNat,by simp only;omega,?_⟩
     rw [Int.toNat_of_nonneg h0]
     show jK s.l s.i=false
     unfold jK
     rw [RX c2,decide_eq_false (by omega),ntW c4]
     rfl
    ·have c1:s.i<s.n:=by simpa using c1
     rw [h4] at c2
     have c3:0<s.i:=by simpa using c3
     rw [aN (x:=s.i-1) (by omega) (by omega),h4] at c4
     have hg:jK s.l s.i=true:=by unfold jK;rw [RX c2,decide_eq_false (by omega),RX c4];rfl
     rw [aN (x:=s.i+1) (by omega) (by omega)]
     exact ⟨⟨⟨by simp only;omega,by simp only;omega⟩,h2,h3,h4,fun j hj=>by
      by_cases e:(j:Int)<s.i
      ·exact hA j e
      ·have e:(j:Int)=s.i:=by simp only at hj;omega
       show jK s.l j=true
       rw [e];exact hg⟩,by simp only [G9];omega⟩
   ·have c1:s.i<s.n:=by simpa using c1
    rw [h4] at c2
    have hg:jK s.l s.i=true:=by unfold jK;rw [RX c2,decide_eq_true (by simp at c3;omega)];rfl
    rw [aN (x:=s.i+1) (by omega) (by omega)]
    exact ⟨⟨⟨by simp only;omega,by simp only;omega⟩,h2,h3,h4,fun j hj=>by
     by_cases e:(j:Int)<s.i
     ·exact hA j e
     ·have e:(j:Int)=s.i:=by simp only at hj;omega
      show jK s.l j=true
      rw [e];exact hg⟩,by simp only [G9];omega⟩
 ·have c1:s.n≤s.i:=by simpa using c1
  exact .inl ⟨rfl,fun j hj=>hA j (by omega)⟩
def EN:bT o9:=⟨0,33,[0,2,8,9,10],[],aBN,aAQ,fun v _=>⟨aS oO (v.getD 0 .junk),x9 (v.getD 1 .junk),aS oO (v.getD 2 .junk),gI (v.getD 3 .junk),gI (v.getD 4 .junk)⟩,Y1,fun s r=> {r with l:=s.l,m:=s.m,n:=s.n},fun s=>s,fun _ s=>s,[.ret,.exit 0],acU,MH,G9⟩
abbrev Zz:=EN.run
abbrev abd:=EN.kG
abbrev awP:=EN.q
theorem atu (s:o9) (hI:MH s):(Y1 s).all (fun _=>True):=by
 refine ⟨fun c1=>⟨?_,fun _=>trivial,fun c2=>⟨fun c3=>⟨?_,fun _=>trivial,fun _=>trivial⟩,fun _=>trivial⟩⟩,fun _=>trivial⟩
 all_goals ((obtain ⟨⟨h0,h1⟩,h2,h3,h4,hA⟩:=hI;simp only [decide_eq_true_eq] at c1;have hl:s.m.length=s.l.length:=congrArg List.length h4;first|omega|(simp only [decide_eq_true_eq,gt_iff_lt] at c3;rw [aN (x:=s.i-1) (by omega) (by omega)];omega)))
noncomputable def ah3:Specs:=bg [(63,X4),(64,aiU)]
theorem aqb:∀g S,ah3 g=some S→Valid Tryz.prog aQ g S:=aU (l:=[(63,X4),(64,aiU)]) ⟨ar1,axH,trivial⟩
theorem agr:EN.Ok:=⟨fun s=>by kernel_rfl,fun s=>by kernel_rfl,fun s=>rfl,fun s t r=>rfl,fun s=>rfl,fun s=>by kernel_rfl⟩
theorem afn:EN.Pf (ajB):=⟨ayS,fun _ _=>rfl,auT,atu⟩
theorem alh:bC Tryz.prog aQ (AN 0) (.loop Bf) EN.lp:=bT.snd agr afn (aV (Γ:=ah3) (K:=fC) (L:=aF) aqb aH Bf (fun b hb=>by rw [show aG Bf=[] by kernel_rfl] at hb;cases hb)) (fun s=>by kernel_rfl)
theorem anH (s:o9) (hE:acU s):∃s',MH s'∧ajB (abd s) s' (Zz s):=bT.fin agr afn s hE
def ab9:List LV→T LV
 | [.xl (.pair (.int .i64) (.pair (.int .i64) (.pair (.int .i64) (.pair (.int .i64) (.int .i64))))) l]=> .ok (.v (.bool (pK l)))
 |_=> .no
noncomputable def Jc:List LV→T LV:=gZ Tryz.prog Tryz.f62.params.toList ab9
theorem anb (l:List Le):bY Tryz.prog aQ (ah3) fC (fun i=>if i=4 then EN.lp else aF i) Tryz.f62 [.xl oO l]=.br (decide ((List.length l:Int)>64)) (.ok (.v (.bool false))) (.req (awP (⟨l,false,l,(List.length l:Int),(0:Int)⟩:o9)) (.br (iQ (abd (⟨l,false,l,(List.length l:Int),(0:Int)⟩:o9)) (.ret)) (.ok (.v (.bool (Zz (⟨l,false,l,(List.length l:Int),(0:Int)⟩:o9)).r))) (.ok (.v (.bool true))))):=by kernel_rfl
theorem aep:Valid Tryz.prog aQ 62 Jc:=aI Tryz.func62 rfl aqb aH (L:=(fun i=>if i=4 then EN.lp else aF i)) (fun b hb=>by
 rw [show aG _=[Bf] by kernel_rfl] at hb
 simp only [List.mem_cons,List.not_mem_nil,or_false] at hb
 subst hb
 exact alh) (fun args lv h=>by
 unfold ab9 at h
 split at h
 ·simp only [canL,canX]
  rw [anb]
  rename_i l
  obtain rfl:=h
  refine ⟨fun c=>congrArg (fun z=>LV.v (.bool z)) ?_,fun c=>?_⟩
  ·have c:64<(List.length l:Int):=by simpa using c
   unfold pK
   rw [decide_eq_false (by omega)]
   rfl
  ·have c:(List.length l:Int)≤64:=by simpa using c
   have hE:acU ⟨l,false,l,(List.length l:Int),0⟩:=⟨rfl,rfl,by simp only;omega,rfl⟩
   refine ⟨⟨hE,rfl,rfl⟩,?_⟩
   obtain ⟨_,_,hq⟩:=anH _ hE
   rcases hq with ⟨q1,q2⟩ |⟨q1,q2,j,q3,q4⟩<;>rw [q1]
   ·have e:JK l.length (jK l)=true:=gm.2 (fun j hj=>q2 j (by show (j:Int)<(List.length l:Int);omega))
    unfold pK
    rw [decide_eq_true (by omega),e]
    exact ⟨fun h=>(by cases h),fun _=>rfl⟩
   ·have e:JK l.length (jK l)=false:=tZ j (by have q3:(j:Int)<(List.length l:Int):=q3;omega) q4
    rw [q2]
    unfold pK
    rw [decide_eq_true (by omega),e]
    exact ⟨fun _=>rfl,fun h=>by cases h⟩
 ·cases h)
end Go.Proofs.YtlihnbimgclogaaGreatDoor
namespace Go.Proofs.YtlihnbimgclogaaGreatDoor
open Go.Sx
structure pq where
 l:List Le
 qj:Int
 tick:Int
 e:Int
 m:List Le
 k:Int
 i:Int
def aCa (s:pq):List LV:=[.xl oO s.l,.v (.int .i64 s.qj),.v (.int .i64 s.tick),.v (.slice none 0 0),.v (.int .i64 s.e),.xl oO s.m,.v (.int .i64 s.k),.v (.int .i64 s.i)]
def aBe (_:pq):List aT:=[]
noncomputable def BI:Code:=((aG (Tryz.f66.body.getD .skip))[0]?).getD .skip
def Zg (s:pq):T (Rd pq):=
 .br (decide (s.i<s.k)) (.req (0≤s.i∧s.i<(List.length s.m:Int)) (.br (decide ((kC s.m s.i).2.1≥s.qj)) (.ok (.stop (.ret) {s with e:=(1:Int)})) (.ok (.next {s with i:=(IntKind.i64.wrap (s.i+1))})))) (.ok (.stop (.exit 0) s))
abbrev aq5 (s:pq):=(Zg s).rd s
def ade (s:pq):Prop:=s.i=0∧s.k=(List.length s.m:Int)∧s.k≤1000
def Nc (s:pq):Prop:=(0≤s.i∧s.i≤s.k)∧s.k=(List.length s.m:Int)∧s.k≤1000∧∀x∈s.m.take s.i.toNat,x.2.1<s.qj
def O4 (s:pq):Nat:=(s.k-s.i).toNat
def ajQ (x:Ex) (_ s':pq):Prop:=(x=.exit 0∧below s'.qj s'.m=true)∨(x=.ret∧s'.e=1∧below s'.qj s'.m=false)
theorem az8:∀s,ade s→Nc s:=by
 intro s h
 obtain ⟨h0,h1,h2⟩:=h
 exact ⟨by omega,h1,h2,by rw [h0];intro x hx;cases hx⟩
theorem av6 (s:pq) (hI:Nc s):bQ (fun s'=>Nc s'∧O4 s'<O4 s) (fun x s'=>ajQ x s s') (aq5 s):=by
 unfold aq5 Zg
 dsimp only [T.rd,T.rl]
 obtain ⟨⟨h0,h1⟩,h2,h3,h4⟩:=hI
 refine ax (fun c1=>?_) (fun c1=>?_)
 ·have c1:s.i<s.k:=by simpa using c1
  refine ax (fun c2=>?_) (fun c2=>?_)
  ·refine .inr ⟨rfl,rfl,?_⟩
   unfold below
   rw [List.all_eq_false]
   exact ⟨kC s.m s.i,PG h0 (by simp only;omega),by simpa using c2⟩
  ·rw [aN (x:=s.i+1) (by omega) (by omega)]
   refine ⟨⟨⟨by simp only;omega,by simp only;omega⟩,h2,h3,fun x hx=>?_⟩,by simp only [O4];omega⟩
   rw [(Io h0 (by simp only;omega)).2,List.mem_append,List.mem_singleton] at hx
   rcases hx with hx|rfl
   ·exact h4 x hx
   ·simpa using c2
 ·have c1:s.k≤s.i:=by simpa using c1
  refine .inl ⟨rfl,?_⟩
  rw [List.take_of_length_le (by omega)] at h4
  unfold below
  rw [List.all_eq_true]
  exact fun x hx=>decide_eq_true (h4 x hx)
def Fb:bT pq:=⟨0,48,[0,1,2,6,7,26,27,28],[],aCa,aBe,fun v _=>⟨aS oO (v.getD 0 .junk),gI (v.getD 1 .junk),gI (v.getD 2 .junk),gI (v.getD 4 .junk),aS oO (v.getD 5 .junk),gI (v.getD 6 .junk),gI (v.getD 7 .junk)⟩,Zg,fun s r=> {r with l:=s.l,qj:=s.qj,tick:=s.tick,m:=s.m,k:=s.k},fun s=>s,fun _ s=>s,[.ret,.exit 0],ade,Nc,O4⟩
abbrev ZI:=Fb.run
abbrev abn:=Fb.kG
abbrev axb:=Fb.q
theorem atT (s:pq) (hI:Nc s):(Zg s).all (fun _=>True):=by
 refine ⟨fun c1=>⟨?_,fun _=>trivial,fun _=>trivial⟩,fun _=>trivial⟩
 ·(obtain ⟨⟨h0,h1⟩,h2,h3,h4⟩:=hI;simp only [decide_eq_true_eq] at c1;omega)
noncomputable def zU:Specs:=bg [(62,Jc),(108,Ug),(109,X5)]
theorem DT:∀g S,zU g=some S→Valid Tryz.prog aQ g S:=aU (l:=[(62,Jc),(108,Ug),(109,X5)]) ⟨aep,apg,ar2,trivial⟩
noncomputable def aak:Hand:=inl Tryz.prog aQ zU (lX Tryz.prog aQ (zU) 20 2) 9
theorem ahz:dF Tryz.prog aQ aak:=bU DT (dS DT) 9
theorem agL:Fb.Ok:=⟨fun s=>by kernel_rfl,fun s=>by kernel_rfl,fun s=>rfl,fun s t r=>rfl,fun s=>rfl,fun s=>by kernel_rfl⟩
theorem afH:Fb.Pf (ajQ):=⟨az8,fun _ _=>rfl,av6,atT⟩
theorem alF:bC Tryz.prog aQ (AN 0) (.loop BI) Fb.lp:=bT.snd agL afH (aV (Γ:=zU) (K:=aak) (L:=aF) DT ahz BI (fun b hb=>by rw [show aG BI=[] by kernel_rfl] at hb;cases hb)) (fun s=>by kernel_rfl)
theorem ao4 (s:pq) (hE:ade s):∃s',Nc s'∧ajQ (abn s) s' (ZI s):=bT.fin agL afH s hE
noncomputable def aeP:Array Tmp×Code×Code:=((jJ (Tryz.f66.body.getD .skip))[0]?).getD (#[],.skip,.skip)
noncomputable def ayd:Array Tmp:=aeP.1
noncomputable def ayw:Code:=aeP.2.1
noncomputable def ayr:Code:=aeP.2.2
structure kU where
 m:List Le
 k:Int
 i:Int
 o:List Int
 q:List Le
 t:Int
 st:LS
def aB9 (s:kU):List LV:=[.uI 5,.own 4 0,.xl oO s.m,.v (.int .i64 s.k),.v (.int .i64 s.i)]
noncomputable def aBd (s:kU):List aT:=[⟨[],3,.vec (.int .i64) s.o,false⟩,⟨[.os 0 1 0 (List.length s.o)],35,.cl,false⟩,⟨[.fn 110 [.own 1 0]],160,.cl,false⟩,⟨[.xl oO s.q],29,.cl,false⟩,⟨[.v (.int .i64 s.t)],3,.cl,false⟩,⟨[.junk,.junk,.junk,.junk,.junk,.junk,.junk,.junk,.junk,.junk,.junk,.own 2 0,.junk,.junk,.junk,.junk,.junk,.junk,.junk,.junk,.junk,.junk,.junk,.junk,.junk,.junk,.junk,.junk,.junk,.junk,.junk,.junk,.junk,.junk,.junk,.junk,.junk,.junk,.junk,.junk,.junk,.junk,.junk,.junk,.junk,.junk,.junk,.junk],0,.kL ayd ayw ayr s.st,false⟩]
noncomputable def TU:Code:=((aG (Tryz.f137.body.getD .skip))[0]?).getD .skip
def QY (s:kU):T (Rd kU):=
 .br (decide (s.i<s.k)) (.req (0≤s.i∧s.i<(List.length s.m:Int)) (.br (decide ((kC s.m s.i).2.2.2.1>s.t)) (.rl s.o (.ok (.stop (.exit 0) s))) (.req ((0≤(kC s.m s.i).2.2.2.1∧(kC s.m s.i).2.2.2.1≤1000000)∧0≤(kC s.m s.i).2.2.2.2∧(kC s.m s.i).2.2.2.2≤1000000) (.br (decide ((adN (kC s.m s.i))≤s.t)) (.rl s.o (.ok (.next {s with i:=(IntKind.i64.wrap (s.i+1))}))) (.req (0≤(kC s.m s.i).2.1∧(kC s.m s.i).2.1<((List.length s.o:Nat):Int)) (.req ((kC s.m s.i).2.1.toNat<List.length s.o) (.req (0≤(kC s.m s.i).2.1∧(kC s.m s.i).2.1<((List.length s.o:Nat):Int)) (.req ((kC s.m s.i).2.1.toNat<List.length s.o) (.req (0=0∧(List.length s.o)=List.length (s.o.set (kC s.m s.i).2.1.toNat (if (s.o.getD (kC s.m s.i).2.1.toNat (Ty.dflt (.int .i64)))<(kC s.m s.i).2.2.1 then (kC s.m s.i).2.2.1 else (s.o.getD (kC s.m s.i).2.1.toNat (Ty.dflt (.int .i64)))))) (.ok (.next {s with i:=(IntKind.i64.wrap (s.i+1)),o:=(s.o.set (kC s.m s.i).2.1.toNat (if (s.o.getD (kC s.m s.i).2.1.toNat (Ty.dflt (.int .i64)))<(kC s.m s.i).2.2.1 then (kC s.m s.i).2.2.1 else (s.o.getD (kC s.m s.i).2.1.toNat (Ty.dflt (.int .i64)))))}))))))))))) (.rl s.o (.ok (.stop (.exit 0) s)))
abbrev aaZ (s:kU):=(QY s).rd s
def adb (s:kU):Prop:=s.st=.ready∧s.i=0∧s.k=(List.length s.m:Int)∧s.k≤1000∧(∀x∈s.m,leV x=true∧x.2.1<(s.o.length:Int))∧s.m.Pairwise (fun a b=>a.1<b.1∧a.2.2.2.1≤b.2.2.2.1)
def UJ (s:kU):Prop:=s.st=.ready∧(0≤s.i∧s.i≤s.k)∧s.k=(List.length s.m:Int)∧s.k≤1000∧(∀x∈s.m,leV x=true∧x.2.1<(s.o.length:Int))∧s.m.Pairwise (fun a b=>a.1<b.1∧a.2.2.2.1≤b.2.2.2.1)
def Ho (s:kU):Nat:=(s.k-s.i).toNat
def ars (x:Ex) (_ _:kU):Prop:=x=.exit 0
theorem az7:∀s,adb s→UJ s:=by
 intro s h
 obtain ⟨h0,h1,h2⟩:=h
 exact ⟨h0,by omega,h2⟩
theorem av5 (s:kU) (hI:UJ s):bQ (fun s'=>UJ s'∧Ho s'<Ho s) (fun x s'=>ars x s s') (aaZ s):=by
 unfold aaZ QY
 dsimp only [T.rd,T.rl]
 obtain ⟨hs,⟨h0,h1⟩,h2,h3,h4,h5⟩:=hI
 refine ax (fun c1=>?_) (fun c1=>rfl)
 have c1:s.i<s.k:=by simpa using c1
 rw [aN (x:=s.i+1) (by omega) (by omega)]
 refine ax (fun c2=>rfl) (fun c2=>ax (fun c3=>?_) (fun c3=>?_))
 ·exact ⟨⟨hs,⟨by simp only;omega,by simp only;omega⟩,h2,h3,h4,h5⟩,by simp only [Ho];omega⟩
 ·exact ⟨⟨hs,⟨by simp only;omega,by simp only;omega⟩,h2,h3,fun x hx=>by simp only [List.length_set];exact h4 x hx,h5⟩,by simp only [Ho];omega⟩
noncomputable def JF:bT kU:=⟨6,27,[0,2,6,7,8],[],aB9,aBd,fun v b=>⟨aS oO (v.getD 2 .junk),gI (v.getD 3 .junk),gI (v.getD 4 .junk),jy (.int .i64) (aP b 0),aS oO (aZ (aP b 3) 0),gI (aZ (aP b 4) 0),.ready⟩,QY,fun s r=> {r with m:=s.m,k:=s.k,q:=s.q,t:=s.t,st:=s.st},fun s=> {s with st:=.ready},fun x s=> {s with st:=(match x with| .exit 0=> .ready|_=> .ready)},[.exit 0],adb,UJ,Ho⟩
noncomputable abbrev wS:=JF.run
noncomputable abbrev aoA:=JF.kG
abbrev axa:=JF.q
theorem atS (s:kU) (hI:UJ s):(QY s).all (fun _=>True):=by
 refine ⟨fun c1=>⟨?_,fun c2=>⟨⟨rfl,rfl⟩,trivial⟩,fun c2=>⟨?_,fun c3=>⟨⟨rfl,rfl⟩,trivial⟩,fun c3=>⟨?_,?_,?_,?_,?_,trivial⟩⟩⟩,fun c1=>⟨⟨rfl,rfl⟩,trivial⟩⟩
 all_goals ((obtain ⟨hs,⟨h0,h1⟩,h2,h3,h4,h5⟩:=hI;simp only [decide_eq_true_eq] at c1;have hv:=(h4 _ (PG h0 (show s.i<s.m.length by omega))).2;have hl:=Z7.1 (h4 _ (PG h0 (show s.i<s.m.length by omega))).1;first|omega|exact ⟨rfl,by simp⟩))
theorem agK:JF.Ok:=⟨fun s=>by kernel_rfl,fun s=>by kernel_rfl,fun s=>rfl,fun s t r=>rfl,fun s=>rfl,fun s=>by kernel_rfl⟩
theorem afG:JF.Pf (ars):=⟨az7,fun s h=>by
 obtain ⟨m,k,i,o,q,t,st⟩:=s
 have e:st=.ready:=h.1
 subst e
 rfl,av5,atS⟩
theorem alE:bC Tryz.prog aQ (AN 6) (.loop TU) JF.lp:=bT.snd agK afG (bH (Γ:=zU) (K:=aak) (L:=(tH Tryz.prog aQ zU aak 20 2)) DT ahz TU (fun b _=>dU DT ahz 20 2 b)) (fun s=>by kernel_rfl)
theorem ao3 (s:kU) (hE:adb s):(fun (x:Ex) (s':kU) (v:List Int)=>x=.exit 0∧s'.o=v) (aoA s) (wS s) ((fun s:kU=>((s.m.drop s.i.toNat).filter (Ud s.t)).foldl kpA s.o) s):=by
 exact bT.xO agK afG (fun s:kU=>((s.m.drop s.i.toNat).filter (Ud s.t)).foldl kpA s.o) (fun x s' v=>x=.exit 0∧s'.o=v) (fun s hI=>by
  show bQ _ _ (aaZ s)
  unfold aaZ QY
  dsimp only [T.rd,T.rl]
  obtain ⟨hs,⟨h0,h1⟩,h2,h3,h4,h5⟩:=hI
  refine ax (fun c1=>?_) (fun c1=>?_)
  ·have c1:s.i<s.k:=by simpa using c1
   have e:=(Io h0 (show s.i<(List.length s.m:Int) by omega)).1
   rw [aN (x:=s.i+1) (by omega) (by omega)]
   refine ax (fun c2=>?_) (fun c2=>ax (fun c3=>?_) (fun c3=>?_))
   ·refine ⟨rfl,?_⟩
    have c2:(kC s.m s.i).2.2.2.1>s.t:=by simpa using c2
    have hp:(s.m.drop s.i.toNat).Pairwise (fun a b=>a.1<b.1∧a.2.2.2.1≤b.2.2.2.1):=List.Pairwise.sublist (List.drop_sublist _ _) h5
    rw [e,List.pairwise_cons] at hp
    rw [List.filter_eq_nil_iff.2]
    ·rfl
    ·rw [e]
     intro x hx
     unfold Ud
     rw [decide_eq_false,Bool.false_and]
     ·decide
     ·rcases List.mem_cons.1 hx with rfl|hx
      ·omega
      ·have:=(hp.1 x hx).2
       omega
   ·show List.foldl _ _ _=List.foldl _ _ _
    have c3:adN (kC s.m s.i)≤s.t:=by simpa using c3
    have hb:¬Ud s.t (kC s.m s.i)=true:=by
     unfold Ud
     rw [decide_eq_false (p:=adN _>_) (by omega),Bool.and_false]
     decide
    simp only
    rw [e,List.filter_cons,if_neg hb]
   ·show List.foldl _ _ _=List.foldl _ _ _
    have c2:(kC s.m s.i).2.2.2.1≤s.t:=by simpa using c2
    have c3:s.t<adN (kC s.m s.i):=by simpa using c3
    have hb:Ud s.t (kC s.m s.i)=true:=by
     unfold Ud
     rw [decide_eq_true c2,decide_eq_true c3]
     rfl
    simp only
    rw [e,List.filter_cons,if_pos hb,List.foldl_cons]
    rfl
  ·have c1:s.k≤s.i:=by simpa using c1
   refine ⟨rfl,?_⟩
   rw [List.drop_eq_nil_of_le (by omega)]
   rfl) s hE
def acG:List LV→T LV
 | [.xl (.pair (.int .i64) (.pair (.int .i64) (.pair (.int .i64) (.pair (.int .i64) (.int .i64))))) l,.v (.int .i64 n),.v (.int .i64 t)]=> .ok (.iG [.xl (.int .i64) (oD l n t),.v (.int .i64 (Uc l n t))])
 |_=> .no
noncomputable def Yn:List LV→T LV:=gZ Tryz.prog Tryz.f66.params.toList acG
noncomputable def apY:Hand:=inl Tryz.prog aQ zU (kH 137 6 1 (JF.lp) (lX Tryz.prog aQ (zU) 20 2)) 9
theorem ay8:dF Tryz.prog aQ apY:=bU DT (dO Tryz.func137 rfl (by kernel_rfl) alE (dS DT)) 9
theorem anD (l:List Le) (n t:Int):bY Tryz.prog aQ (zU) apY (fun i=>if i=4 then Fb.lp else aF i) Tryz.f66 [.xl oO l,.v (.int .i64 n),.v (.int .i64 t)]=.br ((!(pK l)) ||((!(inB n (0:Int) (16:Int))) ||(!(inB t (0:Int) (1100000:Int))))) (.ok (.iG [.xl (.int .i64) ([]:List Int),.v (.int .i64 1)])) (.req (axb (⟨l,n,t,(0:Int),l,(List.length l:Int),(0:Int)⟩:pq)) (.br (iQ (abn (⟨l,n,t,(0:Int),l,(List.length l:Int),(0:Int)⟩:pq)) (.ret)) (.ok (.iG [.xl (.int .i64) ([]:List Int),.v (.int .i64 (ZI (⟨l,n,t,(0:Int),l,(List.length l:Int),(0:Int)⟩:pq)).e)])) (.req (0≤n∧n≤n∧8*n≤2^48∧n<2^63) (.req (0=0∧n.toNat=List.length (List.replicate n.toNat (0:Int))) (.req (axa (⟨l,(List.length l:Int),(0:Int),(List.replicate n.toNat (0:Int)),l,t,.ready⟩:kU)) (.req (0+(List.length (wS (⟨l,(List.length l:Int),(0:Int),(List.replicate n.toNat (0:Int)),l,t,.ready⟩:kU)).o)≤List.length (wS (⟨l,(List.length l:Int),(0:Int),(List.replicate n.toNat (0:Int)),l,t,.ready⟩:kU)).o) (.ok (.iG [.xl (.int .i64) (((wS (⟨l,(List.length l:Int),(0:Int),(List.replicate n.toNat (0:Int)),l,t,.ready⟩:kU)).o.drop 0).take (List.length (wS (⟨l,(List.length l:Int),(0:Int),(List.replicate n.toNat (0:Int)),l,t,.ready⟩:kU)).o)),.v (.int .i64 0)])))))))):=by kernel_rfl
theorem asq:Valid Tryz.prog aQ 66 Yn:=aI Tryz.func66 rfl DT ay8 (L:=(fun i=>if i=4 then Fb.lp else aF i)) (fun b hb=>by
 rw [show aG _=[BI] by kernel_rfl] at hb
 simp only [List.mem_cons,List.not_mem_nil,or_false] at hb
 subst hb
 exact alF) (fun args lv h=>by
 unfold acG at h
 split at h
 ·simp only [canL,canX]
  rw [anD]
  rename_i l n t
  obtain rfl:=h
  have bad:JS l n t=false→LV.iG [.xl (.int .i64) ([]:List Int),.v (.int .i64 1)]=LV.iG [.xl (.int .i64) (oD l n t),.v (.int .i64 (Uc l n t))]:=fun c=>by
   unfold oD Uc
   rw [c]
   rfl
  refine ⟨fun c=>bad ?_,fun c=>?_⟩
  ·unfold JS
   cases e1:pK l<;>cases e2:inB n 0 16<;>cases e3:inB t 0 1100000<;>simp_all
  have c:(pK l&&(inB n 0 16&&inB t 0 1100000))=true:=by cases e1:pK l<;>cases e2:inB n 0 16<;>cases e3:inB t 0 1100000<;>simp_all
  have c':=c
  rw [Bool.and_eq_true,Bool.and_eq_true,dW,dW] at c'
  obtain ⟨hv,hn,ht⟩:=c'
  have hl:=zK hv
  have hE:ade ⟨l,n,t,0,l,(List.length l:Int),0⟩:=⟨rfl,rfl,by simp only;omega⟩
  refine ⟨⟨hE,rfl,rfl⟩,?_⟩
  obtain ⟨_,_,hq⟩:=ao4 _ hE
  rcases hq with ⟨q1,q2⟩ |⟨q1,q2,q3⟩<;>rw [q1]
  ·refine ⟨fun h=>(by cases h),fun _=>?_⟩
   have q2:below n l=true:=q2
   have hE2:adb ⟨l,(List.length l:Int),0,List.replicate n.toNat 0,l,t,.ready⟩:=⟨rfl,rfl,rfl,by simp only;omega,fun x hx=>⟨hl.2 x hx,by
    have:=of_decide_eq_true (List.all_eq_true.1 q2 x hx)
    simp only [List.length_replicate]
    omega⟩,adE hv⟩
   obtain ⟨_,q4⟩:=ao3 _ hE2
   have q4:(wS ⟨l,(List.length l:Int),0,List.replicate n.toNat 0,l,t,.ready⟩).o=Xx n.toNat l t:=q4
   refine ⟨by omega,⟨rfl,by simp⟩,⟨hE2,rfl,rfl⟩,by omega,?_⟩
   show LV.iG [LV.xl _ _,_]=_
   rw [List.drop_zero,List.take_length,q4]
   unfold oD Uc JS
   rw [c,q2]
   rfl
  ·have q3:below n l=false:=q3
   rw [q2]
   exact ⟨fun _=>bad (by unfold JS;rw [q3,Bool.and_false]),fun h=>by cases h⟩
 ·cases h)
end Go.Proofs.YtlihnbimgclogaaGreatDoor
namespace Go.Proofs.YtlihnbimgclogaaGreatDoor
open Go.Sx
def ab8:List LV→T LV
 | [.v (.agg ⟨[.string _,.int .i64 _,.int .i64 _,.int .i64 mi,.int .i64 ma,.int .i64 st,.int .i64 _,.int .i64 _]⟩)]=> .ok (.v (.int .i64 (CU mi ma st)))
 |_=> .no
noncomputable def XZ:List LV→T LV:=gZ Tryz.prog Tryz.f28.params.toList ab8
noncomputable def avl:Specs:=bg []
theorem azy:∀g S,avl g=some S→Valid Tryz.prog aQ g S:=aU (l:=[]) trivial
theorem ana (nm:ByteArray) (at_ ph mi ma st fb ow:Int):bY Tryz.prog aQ (avl) fC aF Tryz.f28 [.v (.agg #[.string nm,.int .i64 at_,.int .i64 ph,.int .i64 mi,.int .i64 ma,.int .i64 st,.int .i64 fb,.int .i64 ow])]=.br ((decide (mi<1)) ||((decide (mi>ma)) ||((decide (ma>80)) ||((decide (st<1)) ||(decide (st>80)))))) (.ok (.v (.int .i64 0))) (.req (st≠0) (.ok (.v (.int .i64 (IntKind.i64.wrap ((IntKind.i64.wrap ((IntKind.i64.wrap (ma-mi)).tdiv st))+2)))))):=by kernel_rfl
theorem arY:Valid Tryz.prog aQ 28 XZ:=aI Tryz.func28 rfl azy aH (aY (by kernel_rfl)) (fun args lv h=>by
 unfold ab8 at h
 split at h
 ·simp only [canL,canX]
  rw [ana]
  rename_i mi ma st _ _
  obtain rfl:=h
  refine ⟨fun c=>congrArg (fun z=>LV.v (.int .i64 z)) ?_,fun c=>⟨?_,congrArg (fun z=>LV.v (.int .i64 z)) ?_⟩⟩
  ·have:mG mi ma st=false:=by
    rw [Bool.eq_false_iff];intro h;have:=fK.1 h;simp at c;omega
   rw [Sr this]
  ·simp at c;omega
  ·have hh:mG mi ma st=true:=fK.2 (by simp at c;omega)
   obtain ⟨h1,h2,h3,h4,h5⟩:=fK.1 hh
   have:=Dj (x:=ma-mi) (st:=st) (by omega) (by omega)
   rw [aN (x:=ma-mi) (by omega) (by omega),Int.tdiv_eq_ediv_of_nonneg (by omega),aN (x:=(ma-mi) / st) (by omega) (by omega),aN (by omega) (by omega)]
   simp [CU,hh]
 ·cases h)
def acF:List LV→T LV
 | [.v (.agg ⟨[.string _,.int .i64 _,.int .i64 _,.int .i64 mi,.int .i64 _,.int .i64 st,.int .i64 _,.int .i64 _]⟩),.v (.int .i64 k)]=> .req ((1≤mi∧mi≤80∧1≤st∧st≤80)∧0≤k∧k≤1000) (.ok (.v (.int .i64 (Ce mi st k))))
 |_=> .no
noncomputable def qw:List LV→T LV:=gZ Tryz.prog Tryz.f61.params.toList acF
theorem anC (nm:ByteArray) (at_ ph mi ma st fb ow k:Int):bY Tryz.prog aQ (avl) fC aF Tryz.f61 [.v (.agg #[.string nm,.int .i64 at_,.int .i64 ph,.int .i64 mi,.int .i64 ma,.int .i64 st,.int .i64 fb,.int .i64 ow]),.v (.int .i64 k)]=.br (k==0) (.ok (.v (.int .i64 0))) (.ok (.v (.int .i64 (IntKind.i64.wrap (mi+(IntKind.i64.wrap ((IntKind.i64.wrap (k-1))*st))))))):=by kernel_rfl
theorem Gg:Valid Tryz.prog aQ 61 qw:=aI Tryz.func61 rfl azy aH (aY (by kernel_rfl)) (fun args lv h=>by
 unfold acF at h
 split at h
 ·simp only [canL,canX]
  rw [anC]
  rename_i mi _ st _ _ k
  obtain ⟨⟨⟨h1,h2,h3,h4⟩,h5,h6⟩,rfl⟩:=h
  refine ⟨fun c=>congrArg (fun z=>LV.v (.int .i64 z)) ?_,fun c=>congrArg (fun z=>LV.v (.int .i64 z)) ?_⟩
  ·have c:k=0:=by simpa using c
   simp [Ce,c]
  ·have c:k≠0:=by simpa using c
   have:=auR (a:=k-1) (b:=st) (by omega) (by omega) (by omega) (by omega)
   rw [aN (x:=k-1) (by omega) (by omega),aN (x:=(k-1)*st) (by omega) (by omega),aN (by omega) (by omega)]
   simp [Ce,c]
 ·cases h)
def acf:List LV→T LV
 | [.v (.agg ⟨[.string _,.int .i64 _,.int .i64 _,.int .i64 mi,.int .i64 ma,.int .i64 st,.int .i64 _,.int .i64 _]⟩),.v (.int .i64 a)]=> .req (a≤9223372036854775807) (.ok (.v (.int .i64 (SA mi ma st a))))
 |_=> .no
noncomputable def qo:List LV→T LV:=gZ Tryz.prog Tryz.f96.params.toList acf
noncomputable def azB:Specs:=bg [(28,XZ)]
theorem aCC:∀g S,azB g=some S→Valid Tryz.prog aQ g S:=aU (l:=[(28,XZ)]) ⟨arY,trivial⟩
theorem anf (nm:ByteArray) (at_ ph mi ma st fb ow a:Int):bY Tryz.prog aQ (azB) fC aF Tryz.f96 [.v (.agg #[.string nm,.int .i64 at_,.int .i64 ph,.int .i64 mi,.int .i64 ma,.int .i64 st,.int .i64 fb,.int .i64 ow]),.v (.int .i64 a)]=.br (((CU mi ma st)==0) ||(decide (a<0))) (.ok (.v (.int .i64 (-1)))) (.br (decide (a<mi)) (.ok (.v (.int .i64 0))) (.req (st≠0) (.ok (.v (.int .i64 (if (IntKind.i64.wrap ((IntKind.i64.wrap ((IntKind.i64.wrap (a-mi)).tdiv st))+1))<(IntKind.i64.wrap ((CU mi ma st)-1)) then IntKind.i64.wrap ((IntKind.i64.wrap ((IntKind.i64.wrap (a-mi)).tdiv st))+1) else IntKind.i64.wrap ((CU mi ma st)-1))))))):=by kernel_rfl
theorem F9:Valid Tryz.prog aQ 96 qo:=aI Tryz.func96 rfl aCC aH (aY (by kernel_rfl)) (fun args lv h=>by
 unfold acf at h
 split at h
 ·simp only [canL,canX]
  rw [anf]
  rename_i mi ma st _ _ a
  obtain ⟨ha,rfl⟩:=h
  have hb:=ahf (mi:=mi) (ma:=ma) (st:=st)
  refine ⟨fun c=>congrArg (fun z=>LV.v (.int .i64 z)) ?_,fun c=>⟨fun c2=>congrArg (fun z=>LV.v (.int .i64 z)) ?_,fun c2=>?_⟩⟩
  ·have c:mG mi ma st=false∨a<0:=by
    simp at c
    rcases c with c|c
    ·left
     cases e:mG mi ma st with
     |false=>rfl
     |true=>have:=Pj e;omega
    ·exact .inr c
   simp only [SA,if_pos c]
  all_goals
   simp at c c2
   have hh:mG mi ma st=true:=by
    cases e:mG mi ma st with
    |true=>rfl
    |false=>exact absurd (Sr e) c.1
   have hn:¬(mG mi ma st=false∨a<0):=by simp [hh];omega
   have:=fK.1 hh
  ·simp only [SA,if_neg hn,if_pos c2]
  ·have:=Dj (x:=a-mi) (st:=st) (by omega) (by omega)
   refine ⟨by omega,congrArg (fun z=>LV.v (.int .i64 z)) ?_⟩
   rw [aN (x:=a-mi) (by omega) (by omega),Int.tdiv_eq_ediv_of_nonneg (by omega),aN (x:=(a-mi) / st) (by omega) (by omega),aN (x:=(a-mi) / st+1) (by omega) (by omega),aN (x:=CU mi ma st-1) (by omega) (by omega)]
   simp only [SA,if_neg hn,if_neg (show ¬a<mi by omega)]
   split<;>omega
 ·cases h)
end Go.Proofs.YtlihnbimgclogaaGreatDoor
namespace Go.Proofs.YtlihnbimgclogaaGreatDoor
open Go.Sx
def LC:List LV→T LV
 | [.v (.string w)]=> .ok (.v (.bool (isIn Ec w)))
 |_=> .no
noncomputable def wz:List LV→T LV:=gZ Tryz.prog Tryz.f165.params.toList LC
noncomputable def WV:Specs:=bg []
theorem adK:∀g S,WV g=some S→Valid Tryz.prog aQ g S:=aU (l:=[]) trivial
theorem ady (w:ByteArray):bY Tryz.prog aQ (WV) fC aF Tryz.f165 [.v (.string w)]=.br (w.toList==(ByteArray.mk #[108,105,109,105,116]).toList) (.ok (.v (.bool true))) (.br (w.toList==(ByteArray.mk #[110,101,117,116,114,97,108]).toList) (.ok (.v (.bool true))) (.br (w.toList==(ByteArray.mk #[102,117,115,101]).toList) (.ok (.v (.bool true))) (.br (w.toList==(ByteArray.mk #[116,104,101,114,109,97,108]).toList) (.ok (.v (.bool true))) (.br (w.toList==(ByteArray.mk #[102,114,111,109]).toList) (.ok (.v (.bool true))) (.br (w.toList==(ByteArray.mk #[97,116]).toList) (.ok (.v (.bool true))) (.br (w.toList==(ByteArray.mk #[112,104,97,115,101,115]).toList) (.ok (.v (.bool true))) (.br (w.toList==(ByteArray.mk #[97,109,112,115]).toList) (.ok (.v (.bool true))) (.br (w.toList==(ByteArray.mk #[102,97,108,108,98,97,99,107]).toList) (.ok (.v (.bool true))) (.br (w.toList==(ByteArray.mk #[111,119,110,101,114]).toList) (.ok (.v (.bool true))) (.br (w.toList==(ByteArray.mk #[99,97,114,100]).toList) (.ok (.v (.bool true))) (.br (w.toList==(ByteArray.mk #[114,97,110,107]).toList) (.ok (.v (.bool true))) (.br (w.toList==(ByteArray.mk #[99,104,97,114,103,101,114]).toList) (.ok (.v (.bool true))) (.ok (.v (.bool false))))))))))))))):=by kernel_rfl
theorem Qv:Valid Tryz.prog aQ 165 wz:=aI Tryz.func165 rfl adK aH (aY (by kernel_rfl)) (fun args lv h=>by
 unfold LC at h
 split at h
 ·simp only [canL,canX]
  rw [ady]
  obtain rfl:=h
  simp only [tK]
  unfold isIn Ec
  simp only [List.any_cons,List.any_nil]
  refine ⟨fun c0=>by simp [c0,T.all],fun c0=>?_⟩
  rw [c0,Bool.false_or]
  refine ⟨fun c1=>by simp [c1,T.all],fun c1=>?_⟩
  rw [c1,Bool.false_or]
  refine ⟨fun c2=>by simp [c2,T.all],fun c2=>?_⟩
  rw [c2,Bool.false_or]
  refine ⟨fun c3=>by simp [c3,T.all],fun c3=>?_⟩
  rw [c3,Bool.false_or]
  refine ⟨fun c4=>by simp [c4,T.all],fun c4=>?_⟩
  rw [c4,Bool.false_or]
  refine ⟨fun c5=>by simp [c5,T.all],fun c5=>?_⟩
  rw [c5,Bool.false_or]
  refine ⟨fun c6=>by simp [c6,T.all],fun c6=>?_⟩
  rw [c6,Bool.false_or]
  refine ⟨fun c7=>by simp [c7,T.all],fun c7=>?_⟩
  rw [c7,Bool.false_or]
  refine ⟨fun c8=>by simp [c8,T.all],fun c8=>?_⟩
  rw [c8,Bool.false_or]
  refine ⟨fun c9=>by simp [c9,T.all],fun c9=>?_⟩
  rw [c9,Bool.false_or]
  refine ⟨fun c10=>by simp [c10,T.all],fun c10=>?_⟩
  rw [c10,Bool.false_or]
  refine ⟨fun c11=>by simp [c11,T.all],fun c11=>?_⟩
  rw [c11,Bool.false_or]
  refine ⟨fun c12=>by simp [c12,T.all],fun c12=>?_⟩
  rw [c12,Bool.false_or]
  rfl
 ·cases h)
def Ur:List LV→T LV
 | [.v (.string w)]=> .ok (.v (.bool (isIn oC w)))
 |_=> .no
noncomputable def BQ:List LV→T LV:=gZ Tryz.prog Tryz.f166.params.toList Ur
theorem ag4 (w:ByteArray):bY Tryz.prog aQ (WV) fC aF Tryz.f166 [.v (.string w)]=.br (w.toList==(ByteArray.mk #[115,116,97,114,116]).toList) (.ok (.v (.bool true))) (.br (w.toList==(ByteArray.mk #[101,110,101,114,103,121]).toList) (.ok (.v (.bool true))) (.br (w.toList==(ByteArray.mk #[116,105,109,101]).toList) (.ok (.v (.bool true))) (.br (w.toList==(ByteArray.mk #[105,100,108,101]).toList) (.ok (.v (.bool true))) (.br (w.toList==(ByteArray.mk #[99,97,112]).toList) (.ok (.v (.bool true))) (.br (w.toList==(ByteArray.mk #[116,97,120]).toList) (.ok (.v (.bool true))) (.ok (.v (.bool false)))))))):=by kernel_rfl
theorem YA:Valid Tryz.prog aQ 166 BQ:=aI Tryz.func166 rfl adK aH (aY (by kernel_rfl)) (fun args lv h=>by
 unfold Ur at h
 split at h
 ·simp only [canL,canX]
  rw [ag4]
  obtain rfl:=h
  simp only [tK]
  unfold isIn oC
  simp only [List.any_cons,List.any_nil]
  refine ⟨fun c0=>by simp [c0,T.all],fun c0=>?_⟩
  rw [c0,Bool.false_or]
  refine ⟨fun c1=>by simp [c1,T.all],fun c1=>?_⟩
  rw [c1,Bool.false_or]
  refine ⟨fun c2=>by simp [c2,T.all],fun c2=>?_⟩
  rw [c2,Bool.false_or]
  refine ⟨fun c3=>by simp [c3,T.all],fun c3=>?_⟩
  rw [c3,Bool.false_or]
  refine ⟨fun c4=>by simp [c4,T.all],fun c4=>?_⟩
  rw [c4,Bool.false_or]
  refine ⟨fun c5=>by simp [c5,T.all],fun c5=>?_⟩
  rw [c5,Bool.false_or]
  rfl
 ·cases h)
def Un:List LV→T LV
 | [.v (.string w)]=> .ok (.v (.bool (isIn words w)))
 |_=> .no
noncomputable def BP:List LV→T LV:=gZ Tryz.prog Tryz.f169.params.toList Un
theorem ag2 (w:ByteArray):bY Tryz.prog aQ (WV) fC aF Tryz.f169 [.v (.string w)]=.br (w.toList==(ByteArray.mk #[111,110]).toList) (.ok (.v (.bool true))) (.br (w.toList==(ByteArray.mk #[119,111,114,107]).toList) (.ok (.v (.bool true))) (.br (w.toList==(ByteArray.mk #[115,97,116,117,114,100,97,121]).toList) (.ok (.v (.bool true))) (.br (w.toList==(ByteArray.mk #[115,117,110,100,97,121]).toList) (.ok (.v (.bool true))) (.br (w.toList==(ByteArray.mk #[98,101,116,119,101,101,110]).toList) (.ok (.v (.bool true))) (.br (w.toList==(ByteArray.mk #[112,101,114]).toList) (.ok (.v (.bool true))) (.br (w.toList==(ByteArray.mk #[102,114,101,101]).toList) (.ok (.v (.bool true))) (.ok (.v (.bool false))))))))):=by kernel_rfl
theorem Yz:Valid Tryz.prog aQ 169 BP:=aI Tryz.func169 rfl adK aH (aY (by kernel_rfl)) (fun args lv h=>by
 unfold Un at h
 split at h
 ·simp only [canL,canX]
  rw [ag2]
  obtain rfl:=h
  simp only [tK]
  unfold isIn words
  simp only [List.any_cons,List.any_nil]
  refine ⟨fun c0=>by simp [c0,T.all],fun c0=>?_⟩
  rw [c0,Bool.false_or]
  refine ⟨fun c1=>by simp [c1,T.all],fun c1=>?_⟩
  rw [c1,Bool.false_or]
  refine ⟨fun c2=>by simp [c2,T.all],fun c2=>?_⟩
  rw [c2,Bool.false_or]
  refine ⟨fun c3=>by simp [c3,T.all],fun c3=>?_⟩
  rw [c3,Bool.false_or]
  refine ⟨fun c4=>by simp [c4,T.all],fun c4=>?_⟩
  rw [c4,Bool.false_or]
  refine ⟨fun c5=>by simp [c5,T.all],fun c5=>?_⟩
  rw [c5,Bool.false_or]
  refine ⟨fun c6=>by simp [c6,T.all],fun c6=>?_⟩
  rw [c6,Bool.false_or]
  rfl
 ·cases h)
def acj:List LV→T LV
 | [.v (.string w)]=> .ok (.v (.int .i64 (adG 1 kinds w)))
 |_=> .no
noncomputable def X7:List LV→T LV:=gZ Tryz.prog Tryz.f168.params.toList acj
theorem anj (w:ByteArray):bY Tryz.prog aQ (WV) fC aF Tryz.f168 [.v (.string w)]=.br (w.toList==(ByteArray.mk #[102,101,101,100,101,114]).toList) (.ok (.v (.int .i64 1))) (.br (w.toList==(ByteArray.mk #[99,97,98,108,101]).toList) (.ok (.v (.int .i64 2))) (.br (w.toList==(ByteArray.mk #[111,119,110,101,114]).toList) (.ok (.v (.int .i64 3))) (.br (w.toList==(ByteArray.mk #[99,111,110,116,114,97,99,116]).toList) (.ok (.v (.int .i64 4))) (.br (w.toList==(ByteArray.mk #[99,104,97,114,103,101,114]).toList) (.ok (.v (.int .i64 5))) (.br (w.toList==(ByteArray.mk #[98,97,121]).toList) (.ok (.v (.int .i64 6))) (.br (w.toList==(ByteArray.mk #[116,97,114,105,102,102]).toList) (.ok (.v (.int .i64 7))) (.ok (.v (.int .i64 0))))))))):=by kernel_rfl
theorem ar5:Valid Tryz.prog aQ 168 X7:=aI Tryz.func168 rfl adK aH (aY (by kernel_rfl)) (fun args lv h=>by
 unfold acj at h
 split at h
 ·simp only [canL,canX]
  rw [anj]
  obtain rfl:=h
  simp only [tK]
  simp only [adG,kinds]
  refine ⟨fun c0=>by rw [if_pos c0];rfl,fun c0=>?_⟩
  rw [if_neg (by simp [c0])]
  refine ⟨fun c1=>by rw [if_pos c1];rfl,fun c1=>?_⟩
  rw [if_neg (by simp [c1])]
  refine ⟨fun c2=>by rw [if_pos c2];rfl,fun c2=>?_⟩
  rw [if_neg (by simp [c2])]
  refine ⟨fun c3=>by rw [if_pos c3];rfl,fun c3=>?_⟩
  rw [if_neg (by simp [c3])]
  refine ⟨fun c4=>by rw [if_pos c4];rfl,fun c4=>?_⟩
  rw [if_neg (by simp [c4])]
  refine ⟨fun c5=>by rw [if_pos c5];rfl,fun c5=>?_⟩
  rw [if_neg (by simp [c5])]
  refine ⟨fun c6=>by rw [if_pos c6];rfl,fun c6=>?_⟩
  rw [if_neg (by simp [c6])]
  rfl
 ·cases h)
def Uo:List LV→T LV
 | [.v (.string w)]=> .ok (.v (.bool (Fg w)))
 |_=> .no
noncomputable def Qc:List LV→T LV:=gZ Tryz.prog Tryz.f164.params.toList Uo
noncomputable def azA:Specs:=bg [(165,wz),(166,BQ),(168,X7),(169,BP)]
theorem aCB:∀g S,azA g=some S→Valid Tryz.prog aQ g S:=aU (l:=[(165,wz),(166,BQ),(168,X7),(169,BP)]) ⟨Qv,YA,ar5,Yz,trivial⟩
theorem ag3 (w:ByteArray):bY Tryz.prog aQ (azA) fC aF Tryz.f164 [.v (.string w)]=.ok (.v (.bool (((adG 1 kinds w) !=0) ||((isIn Ec w) ||((isIn oC w) ||(isIn words w)))))):=by kernel_rfl
theorem akw:Valid Tryz.prog aQ 164 Qc:=aI Tryz.func164 rfl aCB aH (aY (by kernel_rfl)) (fun args lv h=>by
 unfold Uo at h
 split at h
 ·simp only [canL,canX]
  rw [ag3]
  obtain rfl:=h
  show LV.v (.bool _)=_
  rw [SE 1 kinds _ (by decide)]
  rfl
 ·cases h)
structure wF where
 text:ByteArray
 r:Bool
 i:Int
def aCX (s:wF):List LV:=[.v (.string s.text),.v (.bool s.r),.v (.int .i64 s.i)]
def aCP (_:wF):List aT:=[]
noncomputable def FY:Code:=((aG (Tryz.f163.body.getD .skip))[0]?).getD .skip
def akF (s:wF):T (Rd wF):=
 .br (decide (s.i<(s.text.size:Int))) (.req (0≤s.i∧s.i<(s.text.size:Int)) (.br (if decide ((rU s.text s.i)≥97) then !(decide ((rU s.text s.i)≤122))&&(if decide ((rU s.text s.i)≥48) then !(decide ((rU s.text s.i)≤57))&&(!((rU s.text s.i)==95)) else !((rU s.text s.i)==95)) else if decide ((rU s.text s.i)≥48) then !(decide ((rU s.text s.i)≤57))&&(!((rU s.text s.i)==95)) else !((rU s.text s.i)==95)) (.ok (.stop (.ret) {s with r:=false})) (.ok (.next {s with i:=(IntKind.i64.wrap (s.i+1))})))) (.ok (.stop (.exit 0) s))
abbrev azI (s:wF):=(akF s).rd s
def JU (s:wF) (j:Int):Bool:=decide (j<1) ||(chB (rU s.text j))
def apb (s:wF):Prop:=s.i=1∧1≤(s.text.size:Int)∧(s.text.size:Int)≤1000∧True
def ad2 (s:wF):Prop:=1≤s.i∧s.i≤(s.text.size:Int)∧(s.text.size:Int)≤1000∧(True)∧∀j:Nat,(j:Int)<s.i→JU s j=true
def ZX (s:wF):Nat:=((s.text.size:Int)-s.i).toNat
def awc (x:Ex) (_ s':wF):Prop:=(x=.exit 0∧∀j:Nat,(j:Int)<(s'.text.size:Int)→JU s' j=true)∨(x=.ret∧s'.r=false∧∃j:Nat,(j:Int)<(s'.text.size:Int)∧JU s' j=false)
theorem aCy:∀s,apb s→ad2 s:=by
 intro s h
 obtain ⟨h0,h1,h2,h3⟩:=h
 exact ⟨by omega,by omega,h2,h3,fun j hj=>by unfold JU;rw [decide_eq_true (by omega)];rfl⟩
theorem azi (s:wF) (hI:ad2 s):bQ (fun s'=>ad2 s'∧ZX s'<ZX s) (fun x s'=>awc x s s') (azI s):=by
 unfold azI akF
 dsimp only [T.rd,T.rl]
 obtain ⟨h0,h1,h2,h3,h4⟩:=hI
 refine ax (fun c1=>ax (fun c2=>?_) (fun c2=>?_)) (fun c1=>?_)
 ·have c1:s.i<(s.text.size:Int):=by simpa using c1
  refine .inr ⟨rfl,rfl,s.i.toNat,by simp only;omega,?_⟩
  rw [Int.toNat_of_nonneg (by omega)]
  have hg:JU s s.i=false:=by unfold JU;(simp only [show decide (s.i<1)=false from decide_eq_false (by omega),Bool.false_or];(simp only [chB,chA];revert c2;generalize rU s.text s.i=b;intro c2;by_cases h1:b≥97<;>by_cases h2:b≤122<;>by_cases h3:b≥48<;>by_cases h4:b≤57<;>simp_all))
  exact hg
 ·have c1:s.i<(s.text.size:Int):=by simpa using c1
  have hg:JU s s.i=true:=by unfold JU;(simp only [show decide (s.i<1)=false from decide_eq_false (by omega),Bool.false_or];(simp only [chB,chA];revert c2;generalize rU s.text s.i=b;intro c2;by_cases h1:b≥97<;>by_cases h2:b≤122<;>by_cases h3:b≥48<;>by_cases h4:b≤57<;>simp_all))
  rw [aN (x:=s.i+1) (by omega) (by omega)]
  refine ⟨⟨by simp only;omega,by simp only;omega,h2,h3,fun j hj=>?_⟩,by simp only [ZX];omega⟩
  by_cases hji:(j:Int)<s.i
  ·exact h4 j hji
  ·have:(j:Int)=s.i:=by simp only at hj;omega
   rw [this];exact hg
 ·have c1:(s.text.size:Int)≤s.i:=by simpa using c1
  exact .inl ⟨rfl,fun j hj=>h4 j (by omega)⟩
def U2:bT wF:=⟨0,51,[0,2,3],[],aCX,aCP,fun v _=>⟨gSr (v.getD 0 .junk),x9 (v.getD 1 .junk),gI (v.getD 2 .junk)⟩,akF,fun s r=> {r with text:=s.text},fun s=>s,fun _ s=>s,[.ret,.exit 0],apb,ad2,ZX⟩
abbrev NM:=U2.run
abbrev air:=U2.kG
abbrev aAf:=U2.q
theorem ax9 (s:wF) (hI:ad2 s):(akF s).all (fun _=>True):=by
 refine ⟨fun c1=>⟨?_,fun _=>trivial,fun _=>trivial⟩,fun _=>trivial⟩
 ·(obtain ⟨h0,h1,h2,h3,h4⟩:=hI;simp at c1;omega)
theorem apC:U2.Ok:=⟨fun s=>by kernel_rfl,fun s=>by kernel_rfl,fun s=>rfl,fun s t r=>rfl,fun s=>rfl,fun s=>by kernel_rfl⟩
theorem apu:U2.Pf (awc):=⟨aCy,fun _ _=>rfl,azi,ax9⟩
theorem asC:bC Tryz.prog aQ (AN 0) (.loop FY) U2.lp:=bT.snd apC apu (aV (Γ:=WV) (K:=fC) (L:=aF) adK aH FY (fun b hb=>by rw [show aG FY=[] by kernel_rfl] at hb;cases hb)) (fun s=>by kernel_rfl)
theorem avc (s:wF) (hE:apb s):∃s',ad2 s'∧awc (air s) s' (NM s):=bT.fin apC apu s hE
def Uu:List LV→T LV
 | [.v (.string w)]=> .ok (.v (.bool (gwB w)))
 |_=> .no
noncomputable def Qe:List LV→T LV:=gZ Tryz.prog Tryz.f163.params.toList Uu
theorem ag7 (w:ByteArray):bY Tryz.prog aQ (WV) fC (fun i=>if i=4 then U2.lp else aF i) Tryz.f163 [.v (.string w)]=.br (decide ((w.size:Int)<1)) (.ok (.v (.bool false))) (.br (decide ((w.size:Int)>12)) (.ok (.v (.bool false))) (.req (0≤(0:Int)∧(0:Int)<(w.size:Int)) (.br (decide ((rU w (0:Int))<97)) (.ok (.v (.bool false))) (.req (0≤(0:Int)∧(0:Int)<(w.size:Int)) (.br (decide ((rU w (0:Int))>122)) (.ok (.v (.bool false))) (.req (aAf (⟨w,false,(1:Int)⟩:wF)) (.br (iQ (air (⟨w,false,(1:Int)⟩:wF)) (.ret)) (.ok (.v (.bool (NM (⟨w,false,(1:Int)⟩:wF)).r))) (.ok (.v (.bool true)))))))))):=by kernel_rfl
theorem aky:Valid Tryz.prog aQ 163 Qe:=aI Tryz.func163 rfl adK aH (L:=(fun i=>if i=4 then U2.lp else aF i)) (fun b hb=>by
 rw [show aG _=[FY] by kernel_rfl] at hb
 simp only [List.mem_cons,List.not_mem_nil,or_false] at hb
 subst hb
 exact asC) (fun args lv h=>by
 unfold Uu at h
 split at h
 ·simp only [canL,canX]
  rw [ag7]
  rename_i w
  obtain rfl:=h
  have bad:¬(((1≤w.size∧w.size≤12)∧(97≤rU w 0∧rU w 0≤122)))→LV.v (.bool false)=LV.v (.bool (gwB w)):=fun hn=>congrArg (fun z=>LV.v (.bool z)) (by
   rw [eq_comm,Bool.eq_false_iff];intro h
   simp only [gwB,chA,Bool.and_eq_true,decide_eq_true_eq] at h
   exact hn ⟨h.1,by omega,by omega⟩)
  refine ⟨fun c=>bad (by simp at c;omega),fun c=>⟨fun c2=>bad (by simp at c2;omega),fun c2=>⟨by simp at c;omega,fun c3=>bad (by simp at c3;omega),fun c3=>⟨by simp at c;omega,fun c4=>bad (by simp at c4;omega),fun c4=>?_⟩⟩⟩⟩
  simp only [decide_eq_false_iff_not] at c c2 c3 c4
  have hE:apb ⟨w,false,1⟩:=⟨rfl,by simp only;omega,by simp only;omega,trivial⟩
  have key:gwB w=(List.range w.size).all fun i=>i==0 ||chB (rU w i):=by
   simp only [gwB,chA]
   rw [decide_eq_true (by omega),decide_eq_true (by omega),decide_eq_true (by omega)]
   rfl
  obtain ⟨s',_,hq⟩:=avc _ hE
  refine ⟨⟨hE,rfl,rfl⟩,?_⟩
  rw [key]
  rcases hq with ⟨h1,h2⟩ |⟨h1,h2,j,h3,h4⟩
  ·rw [h1]
   refine ⟨fun h=>(by cases h),fun _=>congrArg (fun z=>LV.v (.bool z)) ?_⟩
   rw [eq_comm,List.all_eq_true]
   intro i hi
   have:=h2 i (by show (i:Int)<(w.size:Int);have:=List.mem_range.1 hi;omega)
   simp only [JU] at this
   rw [show (NM ⟨w,false,1⟩).text=w from rfl] at this
   rw [Bool.or_eq_true] at this
   rcases this with h|h
   ·have:i=0:=by simp at h;omega
    simp [this]
   ·rw [h];simp
  ·rw [h1,h2]
   refine ⟨fun _=>congrArg (fun z=>LV.v (.bool z)) ?_,fun h=>by cases h⟩
   rw [eq_comm,Bool.eq_false_iff]
   intro hx
   rw [List.all_eq_true] at hx
   have h3:(j:Int)<(w.size:Int):=h3
   have:=hx j (List.mem_range.2 (by omega))
   simp only [JU] at h4
   rw [show (NM ⟨w,false,1⟩).text=w from rfl] at h4
   rw [Bool.or_eq_false_iff] at h4
   have h5:=h4.1
   simp at h5
   rw [h4.2] at this
   simp at this
   omega
 ·cases h)
def Uw:List LV→T LV
 | [.v (.string w)]=> .ok (.v (.bool (nameB w)))
 |_=> .no
noncomputable def Qg:List LV→T LV:=gZ Tryz.prog Tryz.f159.params.toList Uw
noncomputable def azz:Specs:=bg [(163,Qe),(164,Qc)]
theorem aCA:∀g S,azz g=some S→Valid Tryz.prog aQ g S:=aU (l:=[(163,Qe),(164,Qc)]) ⟨aky,akw,trivial⟩
theorem ag8 (w:ByteArray):bY Tryz.prog aQ (azz) fC aF Tryz.f159 [.v (.string w)]=.ok (.v (.bool ((gwB w)&&(!(Fg w))))):=by kernel_rfl
theorem akz:Valid Tryz.prog aQ 159 Qg:=aI Tryz.func159 rfl aCA aH (aY (by kernel_rfl)) (fun args lv h=>by
 unfold Uw at h
 split at h
 ·simp only [canL,canX]
  rw [ag8]
  exact h
 ·cases h)
def acp:List LV→T LV
 | [.v (.string w)]=> .ok (.v (.bool (nameB w)))
 |_=> .no
noncomputable def Ya:List LV→T LV:=gZ Tryz.prog Tryz.f99.params.toList acp
noncomputable def anY:Specs:=bg [(159,Qg),(165,wz),(166,BQ),(169,BP)]
theorem avg:∀g S,anY g=some S→Valid Tryz.prog aQ g S:=aU (l:=[(159,Qg),(165,wz),(166,BQ),(169,BP)]) ⟨akz,Qv,YA,Yz,trivial⟩
noncomputable def azh:Hand:=inl Tryz.prog aQ anY (lX Tryz.prog aQ (anY) 20 2) 9
theorem aCx:dF Tryz.prog aQ azh:=bU avg (dS avg) 9
theorem ann (w:ByteArray):bY Tryz.prog aQ (anY) azh aF Tryz.f99 [.v (.string w)]=.br (((1:Int) !=1) ||((!(ByteArray.empty.toList==(ByteArray.mk #[]).toList)) ||((0:Int) !=0))) (.ok (.v (.bool false))) (.br (((2:Int) !=2) ||((decide ((3:Int)<1)) ||((decide ((3:Int)>7)) ||(!(nameB w))))) (.br (!false) (.ok (.v (.bool false))) (.ok (.v (.bool true)))) (.br (!true) (.ok (.v (.bool false))) (.ok (.v (.bool true))))):=by kernel_rfl
theorem ar8:Valid Tryz.prog aQ 99 Ya:=aI Tryz.func99 rfl avg aCx (aY (by kernel_rfl)) (fun args lv h=>by
 unfold acp at h
 split at h
 ·simp only [canL,canX]
  rw [ann]
  rename_i w
  obtain rfl:=h
  refine ⟨fun c=>?_,fun _=>?_⟩
  ·exfalso
   rw [tK] at c
   revert c
   decide
  ·cases nameB w<;>simp [T.all]
 ·cases h)
end Go.Proofs.YtlihnbimgclogaaGreatDoor
namespace Go.Proofs.YtlihnbimgclogaaGreatDoor
open Go.Sx
def Ut:List LV→T LV
 | [.v (.agg ⟨[.int .i64 a,.int .i64 b]⟩),.v (.int .i64 n)]=> .ok (.v (.bool (inB n a b)))
 |_=> .no
noncomputable def uG:List LV→T LV:=gZ Tryz.prog Tryz.f127.params.toList Ut
noncomputable def anX:Specs:=bg []
theorem avf:∀g S,anX g=some S→Valid Tryz.prog aQ g S:=aU (l:=[]) trivial
theorem ag6 (a b n:Int):bY Tryz.prog aQ (anX) fC aF Tryz.f127 [.v (.agg #[.int .i64 a,.int .i64 b]),.v (.int .i64 n)]=.ok (.v (.bool ((decide (n≥a))&&(decide (n≤b))))):=by kernel_rfl
theorem Ns:Valid Tryz.prog aQ 127 uG:=aI Tryz.func127 rfl avf aH (aY (by kernel_rfl)) (fun args lv h=>by
 unfold Ut at h
 split at h
 ·simp only [canL,canX]
  rw [ag6]
  exact h
 ·cases h)
def acr:List LV→T LV
 | [.v (.agg ⟨[.int .i64 am,.int .i64 mo,.int .i64 _,.int .i64 _,.int .i64 _]⟩)]=> .ok (.v (.bool (decide (mo>am))))
 |_=> .no
noncomputable def Yb:List LV→T LV:=gZ Tryz.prog Tryz.f150.params.toList acr
theorem ano (am mo ga lo de:Int):bY Tryz.prog aQ (anX) fC aF Tryz.f150 [.v (.agg #[.int .i64 am,.int .i64 mo,.int .i64 ga,.int .i64 lo,.int .i64 de])]=.ok (.v (.bool (decide (mo>am)))):=by kernel_rfl
theorem ar9:Valid Tryz.prog aQ 150 Yb:=aI Tryz.func150 rfl avf aH (aY (by kernel_rfl)) (fun args lv h=>by
 unfold acr at h
 split at h
 ·simp only [canL,canX]
  rw [ano]
  exact h
 ·cases h)
def acs:List LV→T LV
 | [.v (.agg ⟨[.string _,.int .i64 _,.int .i64 _,.int .i64 mi,.int .i64 ma,.int .i64 _,.int .i64 fb,.int .i64 _]⟩)]=> .ok (.v (.bool (decide (mi≤ma)&&((fb==0) ||inB fb mi ma))))
 |_=> .no
noncomputable def Yc:List LV→T LV:=gZ Tryz.prog Tryz.f151.params.toList acs
theorem anp (nm:ByteArray) (at_ ph mi ma st fb ow:Int):bY Tryz.prog aQ (anX) fC aF Tryz.f151 [.v (.agg #[.string nm,.int .i64 at_,.int .i64 ph,.int .i64 mi,.int .i64 ma,.int .i64 st,.int .i64 fb,.int .i64 ow])]=.ok (.v (.bool ((decide (mi≤ma))&&((fb==0) ||((decide (fb≥mi))&&(decide (fb≤ma))))))):=by kernel_rfl
theorem asa:Valid Tryz.prog aQ 151 Yc:=aI Tryz.func151 rfl avf aH (aY (by kernel_rfl)) (fun args lv h=>by
 unfold acs at h
 split at h
 ·simp only [canL,canX]
  rw [anp]
  exact h
 ·cases h)
def abI:List LV→T LV
 | [.v (.agg ⟨[.string nm,.int .i64 up_,.int .i64 li,.int .i64 ne,.int .i64 ra,.int .i64 he,.int .i64 am,.int .i64 mo,.int .i64 ga,.int .i64 lo,.int .i64 de]⟩),.v (.int .i64 i)]=> .req (0≤i) (.ok (.v (.bool (Eb i (nm,up_,li,ne,(ra,he),am,mo,ga,lo,de)))))
 |_=> .no
noncomputable def XE:List LV→T LV:=gZ Tryz.prog Tryz.f126.params.toList abI
noncomputable def aqy:Specs:=bg [(127,uG),(150,Yb)]
theorem azx:∀g S,aqy g=some S→Valid Tryz.prog aQ g S:=aU (l:=[(127,uG),(150,Yb)]) ⟨Ns,ar9,trivial⟩
theorem amJ (nm:ByteArray) (up_ li ne ra he am mo ga lo de i:Int):bY Tryz.prog aQ (aqy) fC aF Tryz.f126 [.v (.agg #[.string nm,.int .i64 up_,.int .i64 li,.int .i64 ne,.int .i64 ra,.int .i64 he,.int .i64 am,.int .i64 mo,.int .i64 ga,.int .i64 lo,.int .i64 de]),.v (.int .i64 i)]=.br (if i==0 then (up_ !=(-1)) ||((decide (i>0))&&((decide (up_<0)) ||(decide (up_≥i)))) else (decide (i>0))&&((decide (up_<0)) ||(decide (up_≥i)))) (.ok (.v (.bool false))) (.br ((!(inB li (1:Int) (1000:Int))) ||(!(inB ne (1:Int) (1000:Int)))) (.ok (.v (.bool false))) (.br ((!((ra==0)&&(he==0)))&&(!(inB ra (1:Int) (1000:Int)) ||(!(inB he (0:Int) (1000000:Int))))) (.ok (.v (.bool false))) (.br ((am==0)&&((mo==0)&&((ga==0)&&((lo==0)&&(de==0))))) (.ok (.v (.bool true))) (.ok (.v (.bool ((inB am (0:Int) (200000:Int))&&((inB mo (0:Int) (200000:Int))&&((inB ga (0:Int) (1000:Int))&&((inB lo (0:Int) (1000:Int))&&((inB de (1:Int) (1000000:Int))&&(decide (mo>am))))))))))))):=by kernel_rfl
theorem arG:Valid Tryz.prog aQ 126 XE:=aI Tryz.func126 rfl azx aH (aY (by kernel_rfl)) (fun args lv h=>by
 unfold abI at h
 split at h
 ·simp only [canL,canX]
  rw [amJ]
  obtain ⟨hi,h⟩:=h
  exact avT (K:=fun z=>LV.v (.bool z)=lv) hi h
 ·cases h)
def abJ:List LV→T LV
 | [.agg [.xl (.pair .str (.pair (.int .i64) (.pair (.int .i64) (.pair (.int .i64) (.pair (.pair (.int .i64) (.int .i64)) (.pair (.int .i64) (.pair (.int .i64) (.pair (.int .i64) (.pair (.int .i64) (.int .i64)))))))))) cs,.xl (.str) os,.xl (.pair .str (.pair (.int .i64) (.pair (.int .i64) (.int .i64)))) _,.xl (.pair .str (.pair (.int .i64) (.pair (.int .i64) (.pair (.int .i64) (.pair (.int .i64) (.pair (.int .i64) (.pair (.int .i64) (.int .i64)))))))) _,.xl (.pair .str (.int .i64)) _],.v (.agg ⟨[.string nm,.int .i64 at_,.int .i64 ph,.int .i64 mi,.int .i64 ma,.int .i64 st,.int .i64 fb,.int .i64 ow]⟩)]=> .req ((List.length cs:Int)≤1000∧(List.length os:Int)≤1000) (.ok (.v (.bool (FU cs.length os.length (nm,at_,ph,mi,ma,st,fb,ow)))))
 |_=> .no
noncomputable def XF:List LV→T LV:=gZ Tryz.prog Tryz.f128.params.toList abJ
noncomputable def aqx:Specs:=bg [(127,uG),(151,Yc)]
theorem azw:∀g S,aqx g=some S→Valid Tryz.prog aQ g S:=aU (l:=[(127,uG),(151,Yc)]) ⟨Ns,asa,trivial⟩
theorem amK (cs:List Cd) (os:List ByteArray) (ks:List Ko) (gs:List Ch) (bs:List Ba) (nm:ByteArray) (at_ ph mi ma st fb ow:Int):bY Tryz.prog aQ (aqx) fC aF Tryz.f128 [.agg [.xl dZ cs,.xl .str os,.xl eP ks,.xl dR gs,.xl eU bs],.v (.agg #[.string nm,.int .i64 at_,.int .i64 ph,.int .i64 mi,.int .i64 ma,.int .i64 st,.int .i64 fb,.int .i64 ow])]=.ok (.v (.bool ((inB at_ (0:Int) (IntKind.i64.wrap ((List.length cs:Int)-1)))&&((inB ow (0:Int) (IntKind.i64.wrap ((List.length os:Int)-1)))&&((inB ph (1:Int) (7:Int))&&((inB mi (1:Int) (80:Int))&&((inB ma (1:Int) (80:Int))&&((inB st (1:Int) (80:Int))&&((inB fb (0:Int) (80:Int))&&(decide (mi≤ma)&&((fb==0) ||inB fb mi ma))))))))))):=by kernel_rfl
theorem arH:Valid Tryz.prog aQ 128 XF:=aI Tryz.func128 rfl azw aH (aY (by kernel_rfl)) (fun args lv h=>by
 unfold abJ at h
 split at h
 ·simp only [canL,canX]
  rw [amK]
  rename_i cs os _ _ _ _ at_ ph mi ma st fb ow
  obtain ⟨⟨h1,h2⟩,rfl⟩:=h
  refine congrArg (fun z=>LV.v (.bool z)) ?_
  rw [aN (x:=(List.length cs:Int)-1) (by omega) (by omega),aN (x:=(List.length os:Int)-1) (by omega) (by omega)]
  unfold FU chW
  rw [Bool.eq_iff_iff]
  simp only [Bool.and_eq_true,Bool.or_eq_true,dW,decide_eq_true_eq,beq_iff_eq]
  omega
 ·cases h)
end Go.Proofs.YtlihnbimgclogaaGreatDoor
namespace Go.Proofs.YtlihnbimgclogaaGreatDoor
open Go.Sx
structure iV where
 l:List Cd
 n:Int
 i:Int
 ak:List Cd
 aC:List ByteArray
 aj:List Ko
 au:List Ch
 aK:List Ba
 out:List ByteArray
def aBM (s:iV):List LV:=[.own 0 0,.os 1 1 0 (List.length s.out),.xl dZ s.l,.v (.int .i64 s.n),.v (.int .i64 s.i)]
def aAP (s:iV):List aT:=[⟨[.xl dZ s.ak,.xl .str s.aC,.xl eP s.aj,.xl dR s.au,.xl eU s.aK],28,.cl,false⟩,⟨[],9,.vec .str s.out,false⟩]
noncomputable def Be:Code:=((aG (Tryz.f98.body.getD .skip))[0]?).getD .skip
def QO (s:iV):T (Rd iV):=
 .br (decide (s.i<s.n)) (.req (0≤s.i∧s.i<(List.length s.l:Int)) (.req (0+(List.length s.out)=List.length s.out∧((List.length s.out+List.length ([(fZ s.l s.i).1]):Nat):Int)*16≤2^47∧((List.length s.out+List.length ([(fZ s.l s.i).1]):Nat):Int)<2^62) (.req (0=0∧(List.length s.out+List.length ([(fZ s.l s.i).1]))=List.length (s.out++([(fZ s.l s.i).1]))) (.ok (.next {s with i:=(IntKind.i64.wrap (s.i+1)),out:=(s.out++([(fZ s.l s.i).1]))}))))) (.rl s.out (.ok (.stop (.exit 0) s)))
abbrev aaR (s:iV):=(QO s).rd s
def UU (s:iV):Prop:=s.i=0∧s.n=(s.l.length:Int)∧s.n≤1000∧(s.out.length:Int)≤10000
def MG (s:iV):Prop:=0≤s.i∧s.i≤s.n∧s.n=(s.l.length:Int)∧s.n≤1000∧(s.out.length:Int)≤10000+s.i
def OG (s:iV):Nat:=(s.n-s.i).toNat
def ajA (x:Ex) (_ s':iV):Prop:=x=.exit 0∧s'.i=s'.n
theorem ayP:∀s,UU s→MG s:=by
 intro s h
 obtain ⟨h0,h1,h2,h3⟩:=h
 exact ⟨by omega,by omega,h1,h2,by omega⟩
theorem auu (s:iV) (hI:MG s):bQ (fun s'=>MG s'∧OG s'<OG s) (fun x s'=>ajA x s s') (aaR s):=by
 unfold aaR QO
 dsimp only [T.rd,T.rl]
 obtain ⟨h0,h1,h2,h3,h4⟩:=hI
 refine ax (fun c1=>?_) (fun c1=>?_)
 ·have c1:s.i<s.n:=by simpa using c1
  rw [aN (x:=s.i+1) (by omega) (by omega)]
  exact ⟨⟨by simp only;omega,by simp only;omega,h2,h3,by simp only [List.length_append,List.length_cons,List.length_nil];omega⟩,by simp only [OG];omega⟩
 ·have c1:s.n≤s.i:=by simpa using c1
  exact ⟨rfl,by omega⟩
def EM:bT iV:=⟨0,80,[1,3,15,16,17],[.nl 3 9 .str],aBM,aAP,fun v b=>⟨aS dZ (v.getD 2 .junk),gI (v.getD 3 .junk),gI (v.getD 4 .junk),aS dZ (aZ (aP b 0) 0),aS .str (aZ (aP b 0) 1),aS eP (aZ (aP b 0) 2),aS dR (aZ (aP b 0) 3),aS eU (aZ (aP b 0) 4),jy .str (aP b 1)⟩,QO,fun s r=> {r with l:=s.l,n:=s.n,ak:=s.ak,aC:=s.aC,aj:=s.aj,au:=s.au,aK:=s.aK},fun s=>s,fun _ s=>s,[.exit 0],UU,MG,OG⟩
abbrev gQ:=EM.run
abbrev aop:=EM.kG
abbrev awO:=EM.q
theorem att (s:iV) (hI:MG s):(QO s).all (fun _=>True):=by
 refine ⟨fun c1=>⟨?_,?_,?_,trivial⟩,fun c1=>⟨⟨rfl,rfl⟩,trivial⟩⟩
 all_goals ((obtain ⟨h0,h1,h2,h3,h4⟩:=hI;(try simp only [decide_eq_true_eq] at c1);first|omega|(refine ⟨by omega,?_,?_⟩<;>simp only [List.length_cons,List.length_nil]<;>omega) |(simp only [List.length_append,List.length_cons,List.length_nil];omega) |exact ⟨rfl,by simp⟩ |exact ⟨rfl,rfl⟩))
noncomputable def Il:Specs:=bg []
theorem KQ:∀g S,Il g=some S→Valid Tryz.prog aQ g S:=aU (l:=[]) trivial
theorem V3:EM.Ok:=⟨fun s=>by kernel_rfl,fun s=>by kernel_rfl,fun s=>rfl,fun s t r=>rfl,fun s=>rfl,fun s=>by kernel_rfl⟩
theorem VI:EM.Pf (ajA):=⟨ayP,fun _ _=>rfl,auu,att⟩
theorem alg:bC Tryz.prog aQ (AN 0) (.loop Be) EM.lp:=bT.snd V3 VI (aV (Γ:=Il) (K:=fC) (L:=aF) KQ aH Be (fun b hb=>by rw [show aG Be=[] by kernel_rfl] at hb;cases hb)) (fun s=>by kernel_rfl)
end Go.Proofs.YtlihnbimgclogaaGreatDoor
