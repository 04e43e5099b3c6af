/- ControlOrder returns true for all arguments: the order has each index once; no later one has a lesser rank, or the same rank and a lesser slack, or both the same and a lesser index. Conditions: none; the table ramp.happens holds what its text says. -/
import Derived.Test.YtlihnbimgclogaaGreatDoorQj2
namespace Go.Proofs.YtlihnbimgclogaaGreatDoor
open Go.Sx
def pmE (c:Cbl):Int:=if Vy c=true then 0 else 1
def pmA (c:Cbl):Int:=if Vy c=true then (if cbZ c=true then 1000 else prm c.2.2.1 ((if c.2.2.2.2<c.2.2.2.1 then c.2.2.2.2 else c.2.2.2.1)*(c.2.1-c.1))) else 0
theorem avv {c:Cbl}(h:Vy c=true) (hz:cbZ c=false):(0≤c.1∧c.1<c.2.1∧c.2.1≤200000)∧(0≤c.2.2.1∧c.2.2.1≤1000)∧(0≤c.2.2.2.1∧c.2.2.2.1≤1000)∧1≤c.2.2.2.2∧c.2.2.2.2≤1000000:=by
 unfold Vy at h
 rw [hz,Bool.false_or] at h
 simp only [Bool.and_eq_true,decide_eq_true_eq,iP] at h
 omega
end Go.Proofs.YtlihnbimgclogaaGreatDoor
namespace Go.Proofs.YtlihnbimgclogaaGreatDoor
open Go.Sx
def Xm (f:Int) (l:List Int):Int:=l.foldl (fun a n=>if n<a then n else a) f
def eU (c:Cd):Int:=if c.2.2.2.2.1.1=0 then Xm c.2.2.1 [c.2.2.2.1,pmA c.2.2.2.2.2] else Xm c.2.2.1 [c.2.2.2.1,pmA c.2.2.2.2.2,c.2.2.2.2.1.1]
theorem alV {c:Cbl}:(pmE c !=0)=!Vy c:=by
 unfold pmE
 cases Vy c<;>rfl
abbrev FI:Ty:=.pair (.int .i64) (.sl (.int .i64))
abbrev Rw:=Int×List Int
def rY (l:List Rw) (n:Int):Rw:=l.getD n.toNat (0,[])
theorem DL {l:List Rw}{n:Int}(h:n.toNat<l.length):rY l n=l[n.toNat]:=AO h
theorem aiw {l:List Rw}{i:Int}(h0:0≤i) (h:i<l.length):l.drop i.toNat=rY l i::l.drop (i+1).toNat∧l.take (i+1).toNat=l.take i.toNat++[rY l i]:=vk h0 h
theorem jy {l:List Int}{n:Int}(h:n.toNat<l.length):gi l n=l[n.toNat]:=AO h
def usA (ph p:Int):Bool:=azv .i64 ph (IntKind.i64.wrap ((1:Int)*2^(min p.toNat 64))) !=0
def iI (gs:List Ch) (p:Int) (l:List Int):List Int:=l.filter (fun k=>usA (bU gs k).2.2.1 p)
def Ua (gs:List Ch) (p:Int) (l:List Int):Prop:=0≤p∧l.length≤1000∧∀k∈l,0≤k∧k<(gs.length:Int)
theorem aoy {gs:List Ch}{p:Int}{l:List Int}:(iI gs p l).length≤l.length:=List.length_filter_le _ _
theorem Uw {cs:List Cd}{gs:List Ch}{o:Int}{k:Nat}{x:Int}(h:x∈uq cs gs o k):0≤x∧x<(k:Int):=by
 unfold uq at h
 have:=(List.mem_filter.1 h).1
 obtain ⟨j,h1,rfl⟩:=List.mem_map.1 this
 have:=List.mem_range.1 h1
 omega
def rowP (cs:List Cd) (gs:List Ch) (c p:Int):List Rw:=if (iI gs p (uq cs gs c gs.length)).length>0 then [(eU (iw cs c),iI gs p (uq cs gs c gs.length))] else []
def alQ (cs:List Cd) (gs:List Ch) (c:Int):List Rw:=rowP cs gs c 0++rowP cs gs c 1++rowP cs gs c 2
def lm (cs:List Cd) (gs:List Ch):Nat→List Rw
 |0=>[]
 |k+1=>lm cs gs k++alQ cs gs k
theorem G7 {cs:List Cd}{gs:List Ch}{c p:Int}:(rowP cs gs c p).length≤1:=by
 unfold rowP
 split<;>simp
theorem afo {cs:List Cd}{gs:List Ch}{c:Int}:(alQ cs gs c).length≤3:=by
 unfold alQ
 have h0:=G7 (cs:=cs) (gs:=gs) (c:=c) (p:=0)
 have h1:=G7 (cs:=cs) (gs:=gs) (c:=c) (p:=1)
 have h2:=G7 (cs:=cs) (gs:=gs) (c:=c) (p:=2)
 simp only [List.length_append]
 omega
theorem Af {cs:List Cd}{gs:List Ch}:∀ {k:Nat},(lm cs gs k).length≤3*k
 |0=>by simp [lm]
 |k+1=>by
  have:=Af (cs:=cs) (gs:=gs) (k:=k)
  have h2:=afo (cs:=cs) (gs:=gs) (c:=k)
  simp only [lm,List.length_append]
  omega
def N8 (cs:List Cd) (os:List ByteArray) (ks:List Ko) (gs:List Ch) (bs:List Ba):Int:=if iF cs os ks gs bs=true then 0 else 1
def iY (cs:List Cd) (os:List ByteArray) (ks:List Ko) (gs:List Ch) (bs:List Ba):List Rw:=if iF cs os ks gs bs=true then lm cs gs cs.length else []
end Go.Proofs.YtlihnbimgclogaaGreatDoor
namespace Go.Proofs.YtlihnbimgclogaaGreatDoor
open Go.Sx
def vH (a:Int):Bool:=decide (a≥0)&&decide (a≤80)
theorem oV {a:Int}:vH a=true↔0≤a∧a≤80:=by simp [vH]
def SC (n i:Int):Bool:=decide (0≤i)&&decide (i<n)
theorem Ah {n i:Int}:SC n i=true↔0≤i∧i<n:=by simp [SC]
def l9 (l:List Int) (n:Int):Bool:=decide ((l.length:Int)=n)&&(l.all (SC n)&&once l)
def smA (alive l:List Int):Int:=(l.map (fun m=>gi alive m)).sum
def vW (i:Int) (o:List (List Int)) (l:List Int):List (List Int):=l.foldl (fun o m=>o.modify m.toNat (·++[i])) o
def QJ (o:List (List Int)) (i:Int):List Rw→List (List Int)
 | []=>o
 |r::rs=>QJ (vW i o r.2) (i+1) rs
def QI (alive sm:List Int) (i:Int):List Rw→List Int
 | []=>sm
 |r::rs=>QI alive (sm.set i.toNat (sm.getD i.toNat 0+smA alive r.2)) (i+1) rs
theorem Sj {alive l:List Int}{m:Int}:smA alive (m::l)=gi alive m+smA alive l:=by simp [smA]
theorem yg {i m:Int}{o:List (List Int)}{l:List Int}:vW i o (m::l)=vW i (o.modify m.toNat (·++[i])) l:=rfl
theorem wP {i:Int}:∀ {l:List Int}{o:List (List Int)},(vW i o l).length=o.length
 | [],o=>rfl
 |m::l,o=>by rw [yg,wP,List.length_modify]
theorem aaj {i:Int}:∀ {l:List Int}{o:List (List Int)}{b:Int},(∀x∈o,(x.length:Int)≤b)→∀x∈vW i o l,(x.length:Int)≤b+l.length
 | [],o,b,h,x,hx=>by have:=h x hx;simp only [List.length_nil];omega
 | m::l,o,b,h,x,hx=>by
  rw [yg] at hx
  have:=aaj (b:=b+1) (fun y hy=>by
   obtain ⟨k,hk,rfl⟩:=List.mem_iff_getElem.1 hy
   rw [List.length_modify] at hk
   have:=h o[k] (List.getElem_mem _)
   rw [List.getElem_modify]
   split
   ·simp only [List.length_append,List.length_cons,List.length_nil];omega
   ·omega) x hx
  simp only [List.length_cons]
  omega
theorem afd {l:List Int}{i:Nat}(h:i<l.length):l.set i (l.getD i 0+0)=l:=by
 rw [Int.add_zero,List.getD_eq_getElem?_getD,List.getElem?_eq_getElem h,Option.getD_some,List.set_getElem_self]
theorem Sr {l:List Int}{i:Nat}{a b:Int}(h:i<l.length):(l.set i (l.getD i 0+a)).set i ((l.set i (l.getD i 0+a)).getD i 0+b)=l.set i (l.getD i 0+(a+b)):=by
 have e:(l.set i (l.getD i 0+a)).getD i 0=l.getD i 0+a:=by simp [List.getD,h]
 rw [e,List.set_set]
 congr 1
 omega
def mx (a b:Int):Int:=if a<b then b else a
def yF (gs:List Ch) (i k:Int):Int:=CZ (bU gs i).2.2.2.1 (bU gs i).2.2.2.2.2.1 k
def yR (gs:List Ch) (i a:Int):Int:=Tm (bU gs i).2.2.2.1 (bU gs i).2.2.2.2.1 (bU gs i).2.2.2.2.2.1 a
def Ld (gs:List Ch) (alive:List Int) (i k:Int):Int:=mx (gi alive i) (yF gs i k)-mx (gi alive i) (yF gs i (k-1))
def Bc (rows:List Rw) (sm:List Int) (mo r:Int):Bool:=decide (sm.getD r.toNat 0+mo≤(rY rows r).1)
def zI (sm:List Int) (mo:Int) (l:List Int):List Int:=l.foldl (fun sm r=>sm.set r.toNat (sm.getD r.toNat 0+mo)) sm
abbrev Tr:=List Int×List Int×Bool
def Dn (O:List (List Int)) (rows:List Rw) (gs:List Ch) (alive most:List Int) (level:Int) (t:Tr) (i:Int):Tr:=
 if t.2.1.getD i.toNat 0=level-1∧level≤yR gs i (gi most i) then
  (if ((O.getD i.toNat []).all (Bc rows t.1 (Ld gs alive i level)))=true then (zI t.1 (Ld gs alive i level) (O.getD i.toNat []),t.2.1.set i.toNat level,true) else t)
 else t
def swp (O:List (List Int)) (rows:List Rw) (gs:List Ch) (alive most:List Int) (level:Int) (t:Tr) (l:List Int):Tr:=l.foldl (Dn O rows gs alive most level) t
def shl (O:List (List Int)) (rows:List Rw) (gs:List Ch) (alive most order:List Int):Nat→Int→List Int→List Int→List Int
 |0,_,_,lv=>lv
 |f+1,level,sm,lv=>if (swp O rows gs alive most level (sm,lv,false) order).2.2=true then shl O rows gs alive most order f (level+1) (swp O rows gs alive most level (sm,lv,false) order).1 (swp O rows gs alive most level (sm,lv,false) order).2.1 else (swp O rows gs alive most level (sm,lv,false) order).2.1
theorem D5 {sm l:List Int}{mo r:Int}:zI sm mo (r::l)=zI (sm.set r.toNat (sm.getD r.toNat 0+mo)) mo l:=rfl
theorem sF {mo:Int}:∀ {l sm:List Int},(zI sm mo l).length=sm.length
 | [],_=>rfl
 |r::l,sm=>by rw [D5,sF,List.length_set]
theorem qM {sm:List Int}{i k:Nat}{v:Int}:(sm.set i v).getD k 0=if i=k∧k<sm.length then v else sm.getD k 0:=by
 simp only [List.getD,List.getElem?_set]
 by_cases h:i=k
 ·subst h
  by_cases h2:i<sm.length
  ·simp [h2]
  ·simp [h2]
 ·simp [h]
theorem Jo {mo:Int}:∀ {l sm:List Int}{k:Nat},(∀r∈l,r.toNat≠k)→(zI sm mo l).getD k 0=sm.getD k 0
 | [],_,_,_=>rfl
 |r::l,sm,k,h=>by
  rw [D5,Jo (fun x hx=>h x (by simp [hx])),qM,if_neg (fun e=>h r (by simp) e.1)]
theorem Jp {mo:Int}:∀ {l sm:List Int}{k:Nat},l.Nodup→(∀r∈l,0≤r)→k<sm.length→(zI sm mo l).getD k 0=sm.getD k 0+(if (k:Int)∈l then mo else 0)
 | [],sm,k,_,_,_=>by simp [zI]
 | r::l,sm,k,hn,h0,hk=>by
  rw [D5]
  obtain ⟨n1,n2⟩:=List.nodup_cons.1 hn
  have hr:=h0 r (by simp)
  by_cases e:r.toNat=k
  ·rw [Jo (fun x hx e2=>n1 (by
    have:=h0 x (by simp [hx])
    have:r=x:=by omega
    rw [this];exact hx)),qM,if_pos ⟨e,hk⟩,if_pos (by simp;left;omega),e]
  ·rw [Jp n2 (fun x hx=>h0 x (by simp [hx])) (by rw [List.length_set];exact hk),qM,if_neg (fun c=>e c.1)]
   have:¬(k:Int)=r:=by omega
   simp [this]
theorem Xv {mi ma st a:Int}:Tm mi ma st a≤80:=by
 have:=aho (mi:=mi) (ma:=ma) (st:=st)
 unfold Tm
 split
 ·omega
 ·split
  ·omega
  ·omega
structure OkT (O:List (List Int)) (rows:List Rw) (gs:List Ch) (alive most order:List Int):Prop where
 ol:O.length=16
 ord:∀i∈order,(0≤i∧i<16)∧i<(gs.length:Int)∧i<(alive.length:Int)∧i<(most.length:Int)
 al:∀a∈alive,0≤a∧a≤80
 mo:∀a∈most,0≤a∧a≤80
 has:∀i∈order,ni (bU gs i).2.2.2.1 (bU gs i).2.2.2.2.1 (bU gs i).2.2.2.2.2.1=true
 row:∀o∈O,o.Nodup∧(o.length:Int)≤1000∧∀r∈o,0≤r∧r<(rows.length:Int)
 cap:∀r∈rows,r.1≤1000
structure OkS (rows:List Rw) (order sm lv:List Int):Prop where
 len:sm.length=rows.length
 bd:∀k:Nat,0≤sm.getD k 0∧sm.getD k 0≤2000
 yQ:∀i∈order,i<(lv.length:Int)
 lvb:∀k:Nat,0≤lv.getD k 0∧lv.getD k 0≤80
theorem aiY {mi st k:Int}(h:1≤mi∧mi≤80∧1≤st∧st≤80) (h0:0≤k) (h1:k≤81):0≤CZ mi st k∧CZ mi st k≤6480:=by
 unfold CZ
 split
 ·omega
 ·have a1:0≤(k-1)*st:=Int.mul_nonneg (by omega) (by omega)
  have a2:(k-1)*st≤(k-1)*80:=Int.mul_le_mul_of_nonneg_left (by omega) (by omega)
  omega
theorem UA {mi st j k:Int}(h:1≤mi∧1≤st) (h0:0≤j) (h1:j≤k):CZ mi st j≤CZ mi st k:=by
 unfold CZ
 split
 ·split
  ·omega
  ·have a1:0≤(k-1)*st:=Int.mul_nonneg (by omega) (by omega)
   omega
 ·rw [if_neg (by omega)]
  have:(j-1)*st≤(k-1)*st:=Int.mul_le_mul_of_nonneg_right (by omega) (by omega)
  omega
theorem ahj {gs:List Ch}{alive:List Int}{i k:Int}(hh:ni (bU gs i).2.2.2.1 (bU gs i).2.2.2.2.1 (bU gs i).2.2.2.2.2.1=true) (ha:0≤gi alive i∧gi alive i≤80) (h0:1≤k) (h1:k≤81):0≤Ld gs alive i k∧Ld gs alive i k≤10000:=by
 obtain ⟨g1,g2,g3,g4,g5⟩:=gm.1 hh
 have b1:=aiY (mi:=(bU gs i).2.2.2.1) (st:=(bU gs i).2.2.2.2.2.1) (k:=k) ⟨g1,by omega,g4,g5⟩ (by omega) h1
 have b2:=aiY (mi:=(bU gs i).2.2.2.1) (st:=(bU gs i).2.2.2.2.2.1) (k:=k-1) ⟨g1,by omega,g4,g5⟩ (by omega) (by omega)
 have b3:=UA (mi:=(bU gs i).2.2.2.1) (st:=(bU gs i).2.2.2.2.2.1) (j:=k-1) (k:=k) ⟨g1,g4⟩ (by omega) (by omega)
 unfold Ld mx yF
 split<;>split<;>omega
theorem nC {l:List Int}{i:Int}(h0:0≤i) (h:i<(l.length:Int)):gi l i∈l:=by
 rw [jy (by omega)];exact List.getElem_mem _
theorem afj {O:List (List Int)}{rows:List Rw}{gs:List Ch}{alive most order:List Int}{level:Int}{t:Tr}{i:Int}(hT:OkT O rows gs alive most order) (hS:OkS rows order t.1 t.2.1) (hi:i∈order) (h0:1≤level) (h1:level≤81):OkS rows order (Dn O rows gs alive most level t i).1 (Dn O rows gs alive most level t i).2.1:=by
 unfold Dn
 split
 ·split
  ·rename_i hc hf
   obtain ⟨⟨o0,o1⟩,o2,o3,o4⟩:=hT.ord i hi
   have hl80:=Xv (mi:=(bU gs i).2.2.2.1) (ma:=(bU gs i).2.2.2.2.1) (st:=(bU gs i).2.2.2.2.2.1) (a:=gi most i)
   have hl81:=hc.2
   unfold yR at hl81
   have hm:=ahj (gs:=gs) (alive:=alive) (k:=level) (hT.has i hi) (hT.al _ (nC o0 o3)) h0 h1
   have ho:O.getD i.toNat []∈O:=by
    have hl:=hT.ol
    rw [List.getD_eq_getElem?_getD,List.getElem?_eq_getElem (by omega),Option.getD_some]
    exact List.getElem_mem _
   obtain ⟨r1,r2,r3⟩:=hT.row _ ho
   refine ⟨by simp only;rw [sF];exact hS.len,fun k=>?_,fun j hj=>by simp only [List.length_set];exact hS.yQ j hj,fun k=>by
    have:=hS.lvb k
    simp only
    rw [qM]
    split<;>omega⟩
   simp only
   by_cases hk:k<t.1.length
   ·rw [Jp r1 (fun r hr=>(r3 r hr).1) hk]
    have hb:=hS.bd k
    split
    ·rename_i hkm
     have hfit:=List.all_eq_true.1 hf _ hkm
     unfold Bc at hfit
     rw [decide_eq_true_eq,Int.toNat_natCast] at hfit
     have hk2:=hS.len
     have:=hT.cap (rY rows (k:Int)) (by rw [DL (by omega)];exact List.getElem_mem _)
     omega
    ·omega
   ·rw [List.getD_eq_getElem?_getD,List.getElem?_eq_none (by rw [sF];omega)]
    simp
  ·exact hS
 ·exact hS
theorem VI {O:List (List Int)}{rows:List Rw}{gs:List Ch}{alive most order:List Int}{level:Int}(hT:OkT O rows gs alive most order) (h0:1≤level) (h1:level≤81):∀(l:List Int) (t:Tr),(∀i∈l,i∈order)→OkS rows order t.1 t.2.1→OkS rows order (swp O rows gs alive most level t l).1 (swp O rows gs alive most level t l).2.1
 | [],t,_,h=>h
 |i::l,t,hl,h=>VI hT h0 h1 l _ (fun j hj=>hl j (by simp [hj])) (afj hT h (hl i (by simp)) h0 h1)
theorem zU {O:List (List Int)}{rows:List Rw}{gs:List Ch}{alive most:List Int}{level:Int}:∀(l:List Int) (t:Tr),(swp O rows gs alive most level t l).2.2=true→t.2.2=true∨level≤80
 | [],t,h=> .inl h
 | i::l,t,h=>by
  rcases zU l _ h with h2|h2
  ·unfold Dn at h2
   split at h2
   ·rename_i hc
    have:=Xv (mi:=(bU gs i).2.2.2.1) (ma:=(bU gs i).2.2.2.2.1) (st:=(bU gs i).2.2.2.2.2.1) (a:=gi most i)
    have h3:=hc.2
    unfold yR at h3
    exact .inr (by omega)
   ·exact .inl h2
  ·exact .inr h2
end Go.Proofs.YtlihnbimgclogaaGreatDoor
namespace Go.Proofs.YtlihnbimgclogaaGreatDoor
open Go.Sx
theorem VR {O:List (List Int)}{rows:List Rw}{gs:List Ch}{alive most:List Int}{level:Int}{t:Tr}{i:Int}:(Dn O rows gs alive most level t i).2.1.length=t.2.1.length:=by
 unfold Dn
 split
 ·split
  ·simp only [List.length_set]
  ·rfl
 ·rfl
theorem GL {O:List (List Int)}{rows:List Rw}{gs:List Ch}{alive most:List Int}{level:Int}:∀(l:List Int) (t:Tr),(swp O rows gs alive most level t l).2.1.length=t.2.1.length
 | [],_=>rfl
 |_::l,_=>(GL l _).trans VR
theorem ae9 {O:List (List Int)}{rows:List Rw}{gs:List Ch}{alive most order:List Int}(hT:OkT O rows gs alive most order):∀(f:Nat) (level:Int) (sm lv:List Int),1≤level→level≤81→OkS rows order sm lv→(shl O rows gs alive most order f level sm lv).length=lv.length∧∀k:Nat,0≤(shl O rows gs alive most order f level sm lv).getD k 0∧(shl O rows gs alive most order f level sm lv).getD k 0≤80
 |0,_,_,lv,_,_,h=>⟨rfl,h.lvb⟩
 | f+1,level,sm,lv,h0,h1,h=>by
  have hk:=VI hT h0 h1 order (sm,lv,false) (fun _ h=>h) h
  have hl:=GL (O:=O) (rows:=rows) (gs:=gs) (alive:=alive) (most:=most) (level:=level) order (sm,lv,false)
  have hs:=zU (O:=O) (rows:=rows) (gs:=gs) (alive:=alive) (most:=most) (level:=level) order (sm,lv,false)
  rw [shl]
  split
  ·rename_i hc
   have h80:level≤80:=by
    rcases hs hc with h|h
    ·cases h
    ·exact h
   obtain ⟨g1,g2⟩:=ae9 hT f (level+1) _ _ (by omega) (by omega) hk
   exact ⟨g1.trans hl,g2⟩
  ·exact ⟨hl,hk.lvb⟩
def ofF (i:Int):List Rw→Int→List Int
 | [],_=>[]
 |r::rs,j=>(if r.2.contains j then [i] else [])++ofF (i+1) rs j
theorem Tc {o:List (List Int)}{f:List Int→List Int}{j k:Nat}(h:k<o.length):(o.modify j f).getD k []=if j=k then f (o.getD k []) else o.getD k []:=by
 simp only [List.getD,List.getElem?_modify,List.getElem?_eq_getElem h]
 split<;>simp_all
theorem SG {i:Int}:∀ {l:List Int}{o:List (List Int)}{k:Nat},l.Nodup→(∀m∈l,0≤m)→k<o.length→(vW i o l).getD k []=o.getD k []++(if l.contains (k:Int) then [i] else [])
 | [],o,k,_,_,_=>by simp [vW]
 | m::l,o,k,hn,h0,hk=>by
  obtain ⟨n1,n2⟩:=List.nodup_cons.1 hn
  have hm:=h0 m (by simp)
  rw [yg,SG n2 (fun x hx=>h0 x (by simp [hx])) (by rw [List.length_modify];exact hk),Tc hk]
  by_cases e:m.toNat=k
  ·have e2:(k:Int)=m:=by omega
   have:¬(k:Int)∈l:=by rw [e2];exact n1
   rw [if_pos e]
   simp [e2,n1]
  ·rw [if_neg e]
   have:¬(k:Int)=m:=by omega
   simp [this]
def ahk (r:Rw):Prop:=r.2.Nodup∧∀m∈r.2,0≤m
theorem GI:∀ {rs:List Rw}{o:List (List Int)}{i:Int},(QJ o i rs).length=o.length
 | [],_,_=>rfl
 |r::rs,o,i=>by rw [QJ,GI,wP]
theorem Zi:∀ {rs:List Rw}{o:List (List Int)}{i:Int}{k:Nat},(∀r∈rs,ahk r)→k<o.length→(QJ o i rs).getD k []=o.getD k []++ofF i rs k
 | [],o,i,k,_,_=>by simp [QJ,ofF]
 |r::rs,o,i,k,h,hk=>by
  obtain ⟨h1,h2⟩:=h r (by simp)
  rw [QJ,Zi (fun x hx=>h x (by simp [hx])) (by rw [wP];exact hk),SG h1 h2 hk,ofF,List.append_assoc]
theorem uT:∀ {rs:List Rw}{i j x:Int},x∈ofF i rs j↔i≤x∧x<i+rs.length∧(rY rs (x-i)).2.contains j=true
 | [],i,j,x=>by simp [ofF];omega
 | r ::rs,i,j,x=>by
  rw [ofF,List.mem_append,uT]
  by_cases e:x=i
  ·subst e
   have g0:rY (r::rs) (x-x)=r:=by simp [rY]
   rw [g0]
   simp only [List.length_cons]
   constructor
   ·rintro (h|h)
    ·split at h
     ·rename_i hc
      exact ⟨by omega,by omega,hc⟩
     ·cases h
    ·omega
   ·rintro ⟨_,_,h⟩
    rw [if_pos h]
    simp
  ·have hn:¬x∈(if r.2.contains j then [i] else []):=by
    split
    ·simpa using e
    ·simp
   simp only [List.length_cons]
   constructor
   ·rintro (h|⟨h1,h2,h3⟩)
    ·exact absurd h hn
    ·refine ⟨by omega,by omega,?_⟩
     have:rY (r::rs) (x-i)=rY rs (x-(i+1)):=by
      unfold rY
      rw [show (x-i).toNat=(x-(i+1)).toNat+1 by omega]
      simp
     rw [this];exact h3
   ·rintro ⟨h1,h2,h3⟩
    refine .inr ⟨by omega,by omega,?_⟩
    have:rY (r::rs) (x-i)=rY rs (x-(i+1)):=by
     unfold rY
     rw [show (x-i).toNat=(x-(i+1)).toNat+1 by omega]
     simp
    rw [←this];exact h3
theorem yu:∀ {rs:List Rw}{i j:Int},(ofF i rs j).Nodup
 | [],_,_=>List.nodup_nil
 | r::rs,i,j=>by
  rw [ofF]
  split
  ·rw [List.singleton_append,List.nodup_cons]
   refine ⟨fun h=>?_,yu⟩
   have:=(uT.1 h).1
   omega
  ·rw [List.nil_append];exact yu
theorem aar:∀ {rs:List Rw}{i j:Int},(ofF i rs j).length≤rs.length
 | [],_,_=>Nat.le_refl _
 |r::rs,i,j=>by
  have:=aar (rs:=rs) (i:=i+1) (j:=j)
  rw [ofF]
  split<;>simp only [List.length_append,List.length_cons,List.length_nil]<;>omega
theorem GH {alive:List Int}:∀ {rs:List Rw}{sm:List Int}{i:Int},(QI alive sm i rs).length=sm.length
 | [],_,_=>rfl
 |r::rs,sm,i=>by rw [QI,GH,List.length_set]
theorem Zh {alive:List Int}:∀ {rs:List Rw}{sm:List Int}{i:Int}{k:Nat},0≤i→k<sm.length→(QI alive sm i rs).getD k 0=sm.getD k 0+(if i≤(k:Int)∧(k:Int)<i+rs.length then smA alive (rY rs ((k:Int)-i)).2 else 0)
 | [],sm,i,k,_,_=>by
  rw [if_neg (by simp only [List.length_nil];omega)]
  simp [QI]
 | r ::rs,sm,i,k,hi,hk=>by
  rw [QI,Zh (by omega) (by rw [List.length_set];exact hk),qM]
  by_cases e:i.toNat=k
  ·have e2:(k:Int)=i:=by omega
   rw [if_pos ⟨e,hk⟩,if_neg (by omega),if_pos (by simp only [List.length_cons];omega),e,e2]
   have:rY (r::rs) (i-i)=r:=by simp [rY]
   rw [this]
   omega
  ·rw [if_neg (fun c=>e c.1)]
   by_cases c:i+1≤(k:Int)∧(k:Int)<i+1+rs.length
   ·rw [if_pos c,if_pos (by simp only [List.length_cons];omega)]
    have:rY (r::rs) ((k:Int)-i)=rY rs ((k:Int)-(i+1)):=by
     unfold rY
     rw [show ((k:Int)-i).toNat=((k:Int)-(i+1)).toNat+1 by omega]
     simp
    rw [this]
   ·rw [if_neg c,if_neg (by simp only [List.length_cons];omega)]
theorem ae4 {alive:List Int}(ha:∀a∈alive,0≤a∧a≤80):∀ {l:List Int},(∀m∈l,0≤m∧m<(alive.length:Int))→0≤smA alive l∧smA alive l≤80*l.length
 | [],_=>by simp [smA]
 |m::l,h=>by
  have h1:=ae4 ha (l:=l) (fun x hx=>h x (by simp [hx]))
  have hm:=h m (by simp)
  have:=ha (gi alive m) (nC hm.1 hm.2)
  rw [Sj]
  simp only [List.length_cons]
  omega
theorem Am {α:Type}{l:List α}(p:α→Bool) (h:l.Nodup):(l.filter p).Nodup:=List.Pairwise.filter p h
theorem Yf {cs:List Cd}{gs:List Ch}{o:Int}{k:Nat}:(uq cs gs o k).Nodup:=by
 unfold uq
 refine Am _ ?_
 exact List.Pairwise.map _ (fun a b h=>by omega) List.nodup_range
theorem aox {gs:List Ch}{p k:Int}{l:List Int}:k∈iI gs p l↔k∈l∧usA (bU gs k).2.2.1 p=true:=by simp [iI,List.mem_filter]
theorem G6 {cs:List Cd}{gs:List Ch}{c p:Int}{r:Rw}(h:r∈rowP cs gs c p):r=(eU (iw cs c),iI gs p (uq cs gs c gs.length))∧(iI gs p (uq cs gs c gs.length)).length>0:=by
 unfold rowP at h
 split at h
 ·simp only [List.mem_singleton] at h;exact ⟨h,by assumption⟩
 ·cases h
theorem G8 {cs:List Cd}{gs:List Ch}{r:Rw}:∀ {k:Nat},r∈lm cs gs k→∃c p:Int,(0≤c∧c<(k:Int))∧(p=0∨p=1∨p=2)∧r=(eU (iw cs c),iI gs p (uq cs gs c gs.length))∧r.2.length>0
 |0,h=>by cases h
 | k+1,h=>by
  rw [lm,List.mem_append] at h
  rcases h with h|h
  ·obtain ⟨c,p,h1,h2,h3⟩:=G8 h
   exact ⟨c,p,⟨h1.1,by omega⟩,h2,h3⟩
  ·unfold alQ at h
   rw [List.mem_append,List.mem_append] at h
   rcases h with (h|h) |h
   ·obtain ⟨h1,h2⟩:=G6 h
    exact ⟨k,0,⟨by omega,by omega⟩,by simp,h1,by rw [h1];exact h2⟩
   ·obtain ⟨h1,h2⟩:=G6 h
    exact ⟨k,1,⟨by omega,by omega⟩,by simp,h1,by rw [h1];exact h2⟩
   ·obtain ⟨h1,h2⟩:=G6 h
    exact ⟨k,2,⟨by omega,by omega⟩,by simp,h1,by rw [h1];exact h2⟩
theorem row_mem {cs:List Cd}{gs:List Ch}{r:Rw}{k:Nat}(h:r∈lm cs gs k):r.2.Nodup∧(∀m∈r.2,0≤m∧m<(gs.length:Int))∧r.2.length≤gs.length∧r.2.length>0:=by
 obtain ⟨c,p,h1,h2,h3,h4⟩:=G8 h
 subst h3
 refine ⟨Am _ Yf,fun m hm=>Uw (aox.1 hm).1,Nat.le_trans aoy Jj,h4⟩
def pJ (gs:List Ch) (lv:List Int):List Int:=(List.range gs.length).map (fun k:Nat=>yF gs (k:Int) (lv.getD k 0))
def OL (rows:List Rw):List (List Int):=QJ (List.replicate 16 []) 0 rows
def SM (alive:List Int) (rows:List Rw):List Int:=QI alive (List.replicate rows.length 0) 0 rows
def tK (cs:List Cd) (os:List ByteArray) (ks:List Ko) (gs:List Ch) (bs:List Ba) (al mo od:List Int):Bool:=iF cs os ks gs bs&&(decide (al.length=gs.length)&&(decide (mo.length=gs.length)&&(al.all vH&&(mo.all vH&&l9 od gs.length))))
def shV (rows:List Rw) (gs:List Ch) (al mo od:List Int):List Int:=shl (OL rows) rows gs al mo od 81 1 (SM al rows) (List.replicate al.length 0)
def shE (cs:List Cd) (os:List ByteArray) (ks:List Ko) (gs:List Ch) (bs:List Ba) (al mo od:List Int):Int:=if tK cs os ks gs bs al mo od=true then 0 else 1
def yO (cs:List Cd) (os:List ByteArray) (ks:List Ko) (gs:List Ch) (bs:List Ba) (al mo od:List Int):List Int:=if tK cs os ks gs bs al mo od=true then pJ gs (shV (lm cs gs cs.length) gs al mo od) else []
theorem jS {cs:List Cd}{os:List ByteArray}{ks:List Ko}{gs:List Ch}{bs:List Ba}{al mo od:List Int}:tK cs os ks gs bs al mo od=true↔iF cs os ks gs bs=true∧al.length=gs.length∧mo.length=gs.length∧al.all vH=true∧mo.all vH=true∧l9 od gs.length=true:=by
 simp [tK]
theorem ahs:∀ {l:List Int}{f:Int},Xm f l≤f
 | [],f=>Int.le_refl _
 |n::l,f=>by
  have:Xm f (n::l)=Xm (if n<f then n else f) l:=rfl
  rw [this]
  have:=ahs (l:=l) (f:=if n<f then n else f)
  split at this<;>rename_i h
  ·rw [if_pos h];omega
  ·rw [if_neg h];exact this
theorem anr {c:Cd}:eU c≤c.2.2.1:=by
 unfold eU
 split<;>exact ahs
theorem D7 {rows:List Rw}:(OL rows).length=16:=by rw [OL,GI,List.length_replicate]
theorem Y4 {rows:List Rw}(h:∀r∈rows,ahk r) {k:Nat}(hk:k<16):(OL rows).getD k []=ofF 0 rows k:=by
 rw [OL,Zi h (by simpa using hk)]
 have:(List.replicate 16 ([]:List Int)).getD k []=[]:=by
  rw [List.getD_eq_getElem?_getD,List.getElem?_replicate]
  split<;>rfl
 rw [this,List.nil_append]
theorem alP {cs:List Cd}{gs:List Ch}{k:Nat}:∀r∈lm cs gs k,ahk r:=fun _ hr=>⟨(row_mem hr).1,fun m hm=>((row_mem hr).2.1 m hm).1⟩
theorem D6 {al:List Int}{rows:List Rw}:(SM al rows).length=rows.length:=by rw [SM,GH,List.length_replicate]
theorem aje {al:List Int}{rows:List Rw}{k:Nat}(hk:k<rows.length):(SM al rows).getD k 0=smA al (rY rows k).2:=by
 rw [SM,Zh (Int.le_refl _) (by simpa using hk),if_pos (by omega),Int.sub_zero]
 simp [List.getD,hk]
theorem Dz {od:List Int}{n i:Int}(h:l9 od n=true) (hi:i∈od):0≤i∧i<n:=by
 unfold l9 at h
 simp only [Bool.and_eq_true,List.all_eq_true] at h
 exact Ah.1 (h.2.1 i hi)
theorem ax8 {cs:List Cd}{os:List ByteArray}{ks:List Ko}{gs:List Ch}{bs:List Ba}{al mo od:List Int}(h:tK cs os ks gs bs al mo od=true):OkT (OL (lm cs gs cs.length)) (lm cs gs cs.length) gs al mo od∧OkS (lm cs gs cs.length) od (SM al (lm cs gs cs.length)) (List.replicate al.length 0):=by
 obtain ⟨hv,h1,h2,h3,h4,h5⟩:=jS.1 h
 have hl:=(jq.1 hv).1
 have ha:∀a∈al,0≤a∧a≤80:=fun a ha=>oV.1 (List.all_eq_true.1 h3 a ha)
 refine ⟨⟨D7,fun i hi=>?_,ha,fun a ha=>oV.1 (List.all_eq_true.1 h4 a ha),fun i hi=>?_,fun o ho=>?_,fun r hr=>?_⟩,⟨D6,fun k=>?_,fun i hi=>?_,fun k=>?_⟩⟩
 ·have:=Dz h5 hi
  omega
 ·have hi:=Dz h5 hi
  have:=tH hv hi.1 hi.2
  unfold Qb chW at this
  simp only [Bool.and_eq_true,iP] at this
  exact gm.2 (by omega)
 ·obtain ⟨k,hk,rfl⟩:=List.mem_iff_getElem.1 ho
  rw [D7] at hk
  have e:=Y4 (rows:=lm cs gs cs.length) alP hk
  rw [List.getD_eq_getElem?_getD,List.getElem?_eq_getElem (by rw [D7];exact hk),Option.getD_some] at e
  rw [e]
  have hln:=aar (rs:=lm cs gs cs.length) (i:=0) (j:=k)
  have hrn:=Af (cs:=cs) (gs:=gs) (k:=cs.length)
  refine ⟨yu,by omega,fun r hr=>?_⟩
  have:=uT.1 hr
  omega
 ·obtain ⟨c,p,hc,hp,rfl,_⟩:=G8 hr
  have hcv:=Sl hv hc.1 hc.2
  unfold Vx at hcv
  simp only [Bool.and_eq_true,iP] at hcv
  have:=anr (c:=iw cs c)
  simp only
  omega
 ·by_cases hk:k<(lm cs gs cs.length).length
  ·rw [aje hk]
   have hr:rY (lm cs gs cs.length) (k:Int)∈lm cs gs cs.length:=by rw [DL (by simpa using hk)];exact List.getElem_mem _
   obtain ⟨m1,m2,m3,_⟩:=row_mem hr
   have:=ae4 ha (l:=(rY (lm cs gs cs.length) (k:Int)).2) (fun m hm=>by have:=m2 m hm;omega)
   omega
  ·rw [List.getD_eq_getElem?_getD,List.getElem?_eq_none (by rw [D6];omega)]
   simp
 ·have:=Dz h5 hi
  rw [List.length_replicate]
  omega
 ·have:(List.replicate al.length (0:Int)).getD k 0=0:=by
   simp only [List.getD,List.getElem?_replicate]
   split<;>rfl
  rw [this]
  omega
theorem ZX {xs:List Int}{r:Nat}{v:Int}:(xs++List.replicate (r+1) 0).set xs.length v=xs++[v]++List.replicate r 0:=by
 rw [List.set_append_right _ _ (Nat.le_refl _),Nat.sub_self,List.replicate_succ,List.set_cons_zero,List.append_assoc,List.singleton_append]
def Yl (gs:List Ch) (lv:List Int) (n:Nat):List Int:=(List.range n).map (fun k:Nat=>yF gs (k:Int) (lv.getD k 0))
theorem aeb {gs:List Ch}{lv:List Int}{n:Nat}:Yl gs lv (n+1)=Yl gs lv n++[yF gs (n:Int) (lv.getD n 0)]:=by
 simp [Yl,List.range_succ]
theorem xC {gs:List Ch}{lv:List Int}{n:Nat}:(Yl gs lv n).length=n:=by simp [Yl]
end Go.Proofs.YtlihnbimgclogaaGreatDoor
namespace Go.Proofs.YtlihnbimgclogaaGreatDoor
open Go.Sx
section
variable {lt : Int → Int → Bool}
def zq (lt:Int→Int→Bool):List Int→Int→List Int
 | [],x=>[x]
 |y::q,x=>if lt x y=true then y::zq lt q x else x::y::q
structure zK (lt:Int→Int→Bool):Prop where
 asym:∀ {a b},lt a b=true→lt b a=false
 ntr:∀ {a b c},lt a b=false→lt b c=false→lt a c=false
theorem ug {x:Int}:∀ {q:List Int},(zq lt q x).Perm (x::q)
 | []=>List.Perm.refl _
 |y::q=>by
  unfold zq
  split
  ·exact (List.Perm.cons y ug).trans (List.Perm.swap x y q)
  ·exact List.Perm.refl _
theorem ahE {q:List Int}{x:Int}:(zq lt q x).length=q.length+1:=by rw [ug.length_eq];rfl
theorem Em (O:zK lt) {x:Int}:∀ {q:List Int},q.Pairwise (fun a b=>lt a b=false)→(zq lt q x).Pairwise (fun a b=>lt a b=false)
 | [],_=>List.pairwise_singleton _ _
 | y::q,h=>by
  rw [List.pairwise_cons] at h
  unfold zq
  split
  ·rename_i hx
   rw [List.pairwise_cons]
   refine ⟨fun z hz=>?_,Em O h.2⟩
   rcases List.mem_cons.1 (ug.subset hz) with e|hz
   ·rw [e];exact O.asym hx
   ·exact h.1 z hz
  ·rename_i hx
   have hx:lt x y=false:=by simpa using hx
   rw [List.pairwise_cons,List.pairwise_cons]
   refine ⟨fun z hz=>?_,h⟩
   rcases List.mem_cons.1 hz with e|hz
   ·rw [e];exact hx
   ·exact O.ntr hx (h.1 z hz)
theorem IW:∀ {l acc:List Int},(l.foldl (zq lt) acc).Perm (acc++l)
 | [],acc=>by simp
 |x::l,acc=>by
  rw [List.foldl_cons]
  refine IW.trans ?_
  refine (List.Perm.append_right l ug).trans ?_
  rw [List.cons_append]
  exact List.perm_middle.symm
theorem A8 (O:zK lt):∀ {l acc:List Int},acc.Pairwise (fun a b=>lt a b=false)→(l.foldl (zq lt) acc).Pairwise (fun a b=>lt a b=false)
 | [],_,h=>h
 |x::l,acc,h=>by
  rw [List.foldl_cons]
  exact A8 O (Em O h)
def sortB (lt:Int→Int→Bool) (l:List Int):List Int:=(l.foldl (zq lt) []).reverse
theorem nZ {l:List Int}:(sortB lt l).Perm l:=by
 unfold sortB
 exact (List.reverse_perm _).trans (by have:=IW (lt:=lt) (l:=l) (acc:=[]);simpa using this)
theorem ql (O:zK lt) {l:List Int}:(sortB lt l).Pairwise (fun a b=>lt b a=false):=by
 unfold sortB
 rw [List.pairwise_reverse]
 exact A8 O List.Pairwise.nil
def exB (l:List Int) (j:Nat):List Int:=(l.set (j+1) (l.getD j 0)).set j (l.getD (j+1) 0)
def bub (lt:Int→Int→Bool):Nat→List Int→List Int
 |0,l=>l
 |j+1,l=>if lt (l.getD (j+1) 0) (l.getD j 0)=true then bub lt j (exB l j) else l
theorem aoh {p post:List Int}{x y:Int}:exB (p++y::x::post) p.length=p++x::y::post:=by
 unfold exB
 have e1:(p++y::x::post).getD p.length 0=y:=by simp [List.getD]
 have e2:(p++y::x::post).getD (p.length+1) 0=x:=by simp [List.getD]
 rw [e1,e2,List.set_append_right _ _ (by omega),List.set_append_right _ _ (by omega)]
 simp
theorem Qe {post:List Int}{x:Int}:∀ {q:List Int},bub lt q.length (q.reverse++x::post)=(zq lt q x).reverse++post
 | []=>by simp [bub,zq]
 | y::q=>by
  have hl:q.length=q.reverse.length:=by simp
  have e1:((y::q).reverse++x::post)=q.reverse++y::x::post:=by simp
  rw [e1,List.length_cons,bub]
  have g1:(q.reverse++y::x::post).getD q.length 0=y:=by rw [hl];simp [List.getD]
  have g2:(q.reverse++y::x::post).getD (q.length+1) 0=x:=by rw [hl];simp [List.getD]
  rw [g1,g2]
  unfold zq
  split
  ·have e2:exB (q.reverse++y::x::post) q.length=q.reverse++x::y::post:=by
    have:=aoh (p:=q.reverse) (x:=x) (y:=y) (post:=post)
    rwa [←hl] at this
   rw [e2,Qe]
   simp
  ·simp
theorem aiV:∀ {j:Nat}{l:List Int},j<l.length→(bub lt j l).Perm l:=fun {j l} h=>by
 have e:l=(l.take j).reverse.reverse++l[j]::l.drop (j+1):=by rw [List.reverse_reverse,List.getElem_cons_drop,List.take_append_drop]
 have hj:(l.take j).reverse.length=j:=by simp;omega
 have h2:=Qe (lt:=lt) (q:=(l.take j).reverse) (x:=l[j]) (post:=l.drop (j+1))
 rw [hj,←e] at h2
 rw [h2]
 refine (List.Perm.append_right _ ((List.reverse_perm _).trans ug)).trans ?_
 rw [List.cons_append]
 refine (List.perm_middle.symm.trans ?_)
 refine (List.Perm.append_right _ (List.reverse_perm _)).trans ?_
 rw [List.getElem_cons_drop,List.take_append_drop]
def vN (lt:Int→Int→Bool) (l:List Int) (i:Nat):List Int:=((l.drop i).foldl (zq lt) (l.take i).reverse).reverse
theorem V4 {l:List Int}{i:Nat}(h:i<l.length):vN lt (bub lt i l) (i+1)=vN lt l i:=by
 have e:l=(l.take i).reverse.reverse++l[i]::l.drop (i+1):=by rw [List.reverse_reverse,List.getElem_cons_drop,List.take_append_drop]
 have hi:(l.take i).reverse.length=i:=by simp;omega
 have h2:=Qe (lt:=lt) (q:=(l.take i).reverse) (x:=l[i]) (post:=l.drop (i+1))
 rw [hi,←e] at h2
 have hl:((zq lt (l.take i).reverse l[i]).reverse).length=i+1:=by rw [List.length_reverse,ahE,hi]
 unfold vN
 rw [h2,List.drop_append_of_le_length (by omega),List.take_append_of_le_length (by omega),List.drop_of_length_le (by omega),List.take_of_length_le (by omega),List.nil_append,List.reverse_reverse]
 conv=>rhs;rw [←List.getElem_cons_drop h,List.foldl_cons]
theorem adJ {l:List Int}:vN lt l 1=sortB lt l:=by
 cases l with
 |nil=>rfl
 |cons x l=>simp [vN,sortB,zq]
theorem adK {l:List Int}{i:Nat}(h:l.length≤i):vN lt l i=l:=by
 unfold vN
 rw [List.drop_of_length_le h,List.take_of_length_le h]
 simp
end
abbrev jc:Ty:=.pair .bool (.pair (.int .i64) (.pair (.int .i64) (.int .i64)))
abbrev Dm:=Bool×Int×Int×Int
def jw (l:List Dm) (n:Int):Dm:=l.getD n.toNat (false,0,0,0)
def NW (d:List Dm) (t i:Int):Int:=(jw d i).2.2.1-t-(jw d i).2.1
def cm (a b:Int):Int:=if a<b then -1 else if a>b then 1 else 0
def orI:List Int→Int
 | []=>0
 |x::l=>if (x !=0)=true then x else orI l
def cmD (d:List Dm) (t a b:Int):Int:=orI [cm (jw d a).2.2.2 (jw d b).2.2.2,cm (NW d t a) (NW d t b),cm a b]
def ltD (d:List Dm) (t a b:Int):Bool:=decide (cmD d t a b<0)
theorem aaC {d:List Dm}{t a b:Int}:ltD d t a b=true↔(jw d a).2.2.2<(jw d b).2.2.2∨((jw d a).2.2.2=(jw d b).2.2.2∧(NW d t a<NW d t b∨(NW d t a=NW d t b∧a<b))):=by
 unfold ltD cmD
 rw [decide_eq_true_eq]
 generalize (jw d a).2.2.2=x
 generalize (jw d b).2.2.2=y
 generalize NW d t a=u
 generalize NW d t b=v
 simp only [orI,cm]
 by_cases h1:x<y
 ·simp [h1]
 ·by_cases h2:x>y
  ·simp [h1,h2]<;>omega
  ·by_cases h3:u<v
   ·simp [h1,h2,h3]<;>omega
   ·by_cases h4:u>v
    ·simp [h1,h2,h3,h4]<;>omega
    ·by_cases h5:a<b
     ·simp [h1,h2,h3,h4,h5]<;>omega
     ·by_cases h6:a>b
      ·simp [h1,h2,h3,h4,h5,h6]<;>omega
      ·simp [h1,h2,h3,h4,h5,h6]<;>omega
theorem Po {d:List Dm}{t a b:Int}:ltD d t a b=false↔¬((jw d a).2.2.2<(jw d b).2.2.2∨((jw d a).2.2.2=(jw d b).2.2.2∧(NW d t a<NW d t b∨(NW d t a=NW d t b∧a<b)))):=by
 rw [←aaC,Bool.not_eq_true]
theorem iZ {d:List Dm}{t:Int}:zK (ltD d t):=⟨fun h=>by
 rw [aaC] at h
 rw [Po]
 omega,fun h1 h2=>by
 rw [Po] at*
 omega⟩
def kL (d:List Dm) (t:Int):Prop:=(∀x∈d,(-2000000000≤x.2.1∧x.2.1≤2000000000)∧-2000000000≤x.2.2.1∧x.2.2.1≤2000000000)∧-2000000000≤t∧t≤2000000000
theorem anH {d:List Dm}{i:Int}(h0:0≤i) (h1:i<(d.length:Int)):jw d i∈d:=by
 unfold jw
 have h:i.toNat<d.length:=by omega
 simp [List.getD,h]
theorem y5 {d:List Dm}{t i:Int}(h:kL d t) (h0:0≤i) (h1:i<(d.length:Int)):(-2000000000≤(jw d i).2.1∧(jw d i).2.1≤2000000000)∧-2000000000≤(jw d i).2.2.1∧(jw d i).2.2.1≤2000000000:=h.1 _ (anH h0 h1)
def yJ (n:Nat):List Int:=(List.range n).map (fun k:Nat=>(k:Int))
def iK (d:List Dm) (t:Int):List Int:=sortB (ltD d t) (yJ d.length)
theorem adI {n:Nat}:yJ (n+1)=yJ n++[(n:Int)]:=by simp [yJ,List.range_succ]
theorem oO {n:Nat}:(yJ n).length=n:=by simp [yJ]
theorem He {n:Nat}{x:Int}:x∈yJ n↔0≤x∧x<(n:Int):=by
 unfold yJ
 rw [List.mem_map]
 constructor
 ·rintro ⟨k,hk,rfl⟩
  rw [List.mem_range] at hk
  omega
 ·exact fun h=>⟨x.toNat,by rw [List.mem_range];omega,by omega⟩
theorem VX {n:Nat}:(yJ n).Nodup:=List.Pairwise.map _ (fun a b h=>by omega) List.nodup_range
theorem Dt {d:List Dm}{t:Int}:(iK d t).Perm (yJ d.length):=nZ
theorem Ak {d:List Dm}{t:Int}:(iK d t).length=d.length:=by rw [Dt.length_eq,oO]
theorem Hw {d:List Dm}{t x:Int}:x∈iK d t↔0≤x∧x<(d.length:Int):=Dt.mem_iff.trans He
theorem Hu {d:List Dm}{t:Int}:(iK d t).Nodup:=Dt.nodup_iff.2 VX
theorem SK {d:List Dm}{t:Int}:(iK d t).Pairwise (fun a b=>ltD d t b a=false):=ql iZ
end Go.Proofs.YtlihnbimgclogaaGreatDoor
namespace Go.Proofs.YtlihnbimgclogaaGreatDoor
open Go.Sx
end Go.Proofs.YtlihnbimgclogaaGreatDoor
namespace Go.Proofs.YtlihnbimgclogaaGreatDoor
open Go.Sx
theorem Px {mi ma st a k:Int}(hh:ni mi ma st=true) (ha:0≤a) (h0:0≤k) (h1:k<Dy mi ma st):CZ mi st k≤a↔k≤Tm mi ma st a:=by
 obtain ⟨g1,g2,g3,g4,g5⟩:=gm.1 hh
 have hn:¬(ni mi ma st=false∨a<0):=by simp [hh];omega
 unfold Tm
 rw [if_neg hn]
 unfold CZ
 by_cases e:k=0
 ·subst e
  simp only [if_true]
  split
  ·omega
  ·have:=DV (x:=a-mi) (st:=st) (by omega) (by omega)
   omega
 ·rw [if_neg e]
  have hp:0≤(k-1)*st:=Int.mul_nonneg (by omega) (by omega)
  split
  ·omega
  ·have:=(Int.le_ediv_iff_mul_le (a:=k-1) (b:=a-mi) (c:=st) (by omega))
   omega
theorem ahv {mi ma st a:Int}(hh:ni mi ma st=true):Tm mi ma st a<Dy mi ma st:=by
 have:=Pm hh
 unfold Tm
 split
 ·omega
 ·split<;>omega
theorem Xu {mi ma st a:Int}(hh:ni mi ma st=true) (ha:0≤a):0≤Tm mi ma st a:=by
 have:=Pm hh
 obtain ⟨g1,g2,g3,g4,g5⟩:=gm.1 hh
 have hn:¬(ni mi ma st=false∨a<0):=by simp [hh];omega
 unfold Tm
 rw [if_neg hn]
 split
 ·omega
 ·have:=DV (x:=a-mi) (st:=st) (by omega) (by omega)
  omega
def WG (l:List Int) (n:Int):Bool:=decide ((l.length:Int)=n)&&Kq n.toNat (fun i=>l.contains i)
theorem WI {l:List Int}:once l=true↔l.Nodup:=by
 rw [H7,List.nodup_iff_pairwise_ne,List.pairwise_iff_getElem]
 constructor
 ·intro h i j hi hj hij e
  exact h j hj (by rw [←e,List.mem_iff_getElem];exact ⟨i,by rw [List.length_take];omega,by simp⟩)
 ·intro h j hj hm
  obtain ⟨i,hi,e⟩:=List.mem_iff_getElem.1 hm
  rw [List.length_take] at hi
  have:l[i]=l[j]:=by simpa using e
  exact h i j (by omega) hj (by omega) this
theorem qK:∀ {r l:List Int},r.Nodup→(∀x∈r,x∈l)→r.length=l.length→l.Nodup∧∀x∈l,x∈r
 | [],l,_,_,h=>by
  have:l=[]:=List.length_eq_zero_iff.1 h.symm
  subst this
  simp
 | x::r,l,hn,hs,h=>by
  obtain ⟨n1,n2⟩:=List.nodup_cons.1 hn
  have hx:=hs x (by simp)
  have hp:=List.perm_cons_erase hx
  have hl:(l.erase x).length=l.length-1:=List.length_erase_of_mem hx
  obtain ⟨i1,i2⟩:=qK (l:=l.erase x) n2 (fun y hy=>by
   have hy2:=hs y (by simp [hy])
   have hne:y≠x:=fun e=>n1 (e▸hy)
   exact (List.mem_erase_of_ne hne).2 hy2) (by rw [hl];simp only [List.length_cons] at h;omega)
  refine ⟨hp.nodup_iff.2 (List.nodup_cons.2 ⟨fun hm=>n1 (i2 x hm),i1⟩),fun y hy=>?_⟩
  by_cases e:y=x
  ·simp [e]
  ·exact List.mem_cons_of_mem _ (i2 y ((List.mem_erase_of_ne e).2 hy))
def V3 (n:Nat):List Int:=(List.range n).map (fun k:Nat=>(k:Int))
theorem VZ {n:Nat}:(V3 n).Nodup:=List.Pairwise.map _ (fun a b h=>by omega) List.nodup_range
theorem Ag {n:Nat}{x:Int}:x∈V3 n↔0≤x∧x<(n:Int):=by
 unfold V3
 rw [List.mem_map]
 constructor
 ·rintro ⟨k,hk,rfl⟩
  have:=List.mem_range.1 hk
  omega
 ·rintro ⟨h1,h2⟩
  exact ⟨x.toNat,List.mem_range.2 (by omega),by omega⟩
theorem Ec {n:Nat}:(V3 n).length=n:=by simp [V3]
theorem uf {l:List Int}{n:Nat}:l9 l n=true↔l.length=n∧l.Nodup∧∀i∈l,0≤i∧i<(n:Int):=by
 unfold l9
 simp only [Bool.and_eq_true,decide_eq_true_eq,List.all_eq_true,Ah,WI]
 constructor
 ·rintro ⟨h1,h2,h3⟩;exact ⟨by omega,h3,h2⟩
 ·rintro ⟨h1,h2,h3⟩;exact ⟨by omega,h3,h2⟩
theorem Lr {l:List Int}{n:Nat}(h:l9 l n=true) {i:Int}(h0:0≤i) (h1:i<(n:Int)):i∈l:=by
 obtain ⟨g1,g2,g3⟩:=uf.1 h
 exact (qK g2 (l:=V3 n) (fun x hx=>Ag.2 (g3 x hx)) (by rw [Ec];exact g1)).2 i (Ag.2 ⟨h0,h1⟩)
theorem alZ {l:List Int}{n:Nat}:WG l n=l9 l n:=by
 rw [Bool.eq_iff_iff,uf]
 unfold WG
 simp only [Bool.and_eq_true,decide_eq_true_eq,iD,Int.toNat_natCast,List.contains_iff_mem]
 constructor
 ·rintro ⟨h1,h2⟩
  have hl:l.length=n:=by omega
  obtain ⟨c1,c2⟩:=qK VZ (l:=l) (r:=V3 n) (fun x hx=>by
   have:=Ag.1 hx
   have h:=h2 x.toNat (by omega)
   rwa [Int.toNat_of_nonneg this.1] at h) (by rw [Ec];exact hl.symm)
  exact ⟨hl,c1,fun i hi=>Ag.1 (c2 i hi)⟩
 ·rintro ⟨h1,h2,h3⟩
  refine ⟨by omega,fun j hj=>?_⟩
  exact Lr (uf.2 ⟨h1,h2,h3⟩) (by omega) hj
def smM (al am ms:List Int):Int:=(ms.map (fun m=>mx (gi al m) (gi am m))).sum
def rowB (al am:List Int) (r:Rw):Bool:=r.2.all (fun m=>gi am m==0) ||decide (smM al am r.2≤r.1)
def aan (rows:List Rw) (al am:List Int):Bool:=rows.all (rowB al am)
theorem zY {al am ms:List Int}{m:Int}:smM al am (m::ms)=mx (gi al m) (gi am m)+smM al am ms:=by simp [smM]
end Go.Proofs.YtlihnbimgclogaaGreatDoor
namespace Go.Proofs.YtlihnbimgclogaaGreatDoor
open Go.Sx
def azy (gs:List Ch) (i k:Int):Int:=amA (bU gs i).2.2.2.1 (bU gs i).2.2.2.2.1 (bU gs i).2.2.2.2.2.1 k
def azx (gs:List Ch) (i k:Int):Int:=amE (bU gs i).2.2.2.1 (bU gs i).2.2.2.2.1 (bU gs i).2.2.2.2.2.1 k
structure avQ (gs:List Ch) (out:List Int):Prop where
 len:out.length=gs.length
 bd:∀a∈out,0≤a∧a≤1000000
theorem avQ.put {gs:List Ch}{out:List Int}(h:avQ gs out) {k:Nat}{v:Int}(hv:0≤v∧v≤1000000):avQ gs (out.set k v):=
 ⟨by rw [List.length_set];exact h.len,fun a ha=>by
  rcases List.mem_or_eq_of_mem_set ha with h2|h2
  ·exact h.bd a h2
  ·rw [h2];exact hv⟩
end Go.Proofs.YtlihnbimgclogaaGreatDoor
namespace Go.Proofs.YtlihnbimgclogaaGreatDoor
open Go.Sx
end Go.Proofs.YtlihnbimgclogaaGreatDoor
namespace Go.Proofs.YtlihnbimgclogaaGreatDoor
open Go.Sx
section
variable {P : List Int → Bool} {tp : Int → Int}
def XQ (P:List Int→Bool) (tp:Int→Int) (L:Int) (lv:List Int) (i:Int):List Int:=
 if gi lv i=L-1∧L≤tp i then (if P (lv.set i.toNat L)=true then lv.set i.toNat L else lv) else lv
def gsw (P:List Int→Bool) (tp:Int→Int) (L:Int) (lv l:List Int):List Int:=l.foldl (XQ P tp L) lv
def PL (P:List Int→Bool) (tp:Int→Int) (od:List Int):Nat→Int→List Int→List Int
 |0,_,lv=>lv
 |f+1,L,lv=>PL P tp od f (L+1) (gsw P tp L lv od)
theorem oz {l:List Int}{i j v:Int}(h0:0≤i) (h1:i<(l.length:Int)) (hj:0≤j):gi (l.set i.toNat v) j=if j=i then v else gi l j:=by
 unfold gi
 rw [qM]
 by_cases e:j=i
 ·subst e
  rw [if_pos ⟨rfl,by omega⟩,if_pos rfl]
 ·rw [if_neg (by omega),if_neg e]
def VY (n:Nat) (l:List Int):Prop:=∀i∈l,0≤i∧i<(n:Int)
theorem PK {L i:Int}{lv:List Int}:(XQ P tp L lv i).length=lv.length:=by
 unfold XQ
 split
 ·split
  ·rw [List.length_set]
  ·rfl
 ·rfl
theorem auP {L i j:Int}{lv:List Int}(h:0≤i∧i<(lv.length:Int)) (hj:0≤j):gi lv j≤gi (XQ P tp L lv i) j:=by
 unfold XQ
 split
 ·rename_i hc
  split
  ·rw [oz h.1 h.2 hj]
   split
   ·rename_i e;subst e;omega
   ·exact Int.le_refl _
  ·exact Int.le_refl _
 ·exact Int.le_refl _
theorem auQ {L i j:Int}{lv:List Int}(h:0≤i∧i<(lv.length:Int)) (hj:0≤j):gi (XQ P tp L lv i) j≤gi lv j∨(gi (XQ P tp L lv i) j=L∧L≤tp j):=by
 unfold XQ
 split
 ·rename_i hc
  split
  ·rw [oz h.1 h.2 hj]
   split
   ·rename_i e;subst e;exact .inr ⟨rfl,hc.2⟩
   ·exact .inl (Int.le_refl _)
  ·exact .inl (Int.le_refl _)
 ·exact .inl (Int.le_refl _)
theorem AP {L i:Int}{lv l:List Int}:gsw P tp L lv (i::l)=gsw P tp L (XQ P tp L lv i) l:=rfl
theorem F5 {L:Int}:∀ {l lv:List Int},(gsw P tp L lv l).length=lv.length
 | [],_=>rfl
 |i::l,lv=>by rw [AP,F5 (l:=l),PK]
theorem ah4 {L j:Int}(hj:0≤j):∀ {l lv:List Int},VY lv.length l→gi lv j≤gi (gsw P tp L lv l) j
 | [],_,_=>Int.le_refl _
 |i::l,lv,h=>by
  rw [AP]
  have h1:=auP (P:=P) (tp:=tp) (L:=L) (h i (by simp)) hj
  have h2:=ah4 (L:=L) hj (l:=l) (lv:=XQ P tp L lv i) (by rw [PK];exact fun x hx=>h x (by simp [hx]))
  omega
theorem XP {L j:Int}(hj:0≤j):∀ {l lv:List Int},VY lv.length l→gi (gsw P tp L lv l) j≤gi lv j∨(gi (gsw P tp L lv l) j≤L∧gi (gsw P tp L lv l) j≤tp j)
 | [],_,_=> .inl (Int.le_refl _)
 |i::l,lv,h=>by
  rw [AP]
  have h1:=auQ (P:=P) (tp:=tp) (L:=L) (h i (by simp)) hj
  have h2:=XP (L:=L) hj (l:=l) (lv:=XQ P tp L lv i) (by rw [PK];exact fun x hx=>h x (by simp [hx]))
  omega
theorem aaU {od:List Int}:∀ {f:Nat}{L:Int}{lv:List Int},(PL P tp od f L lv).length=lv.length
 |0,_,_=>rfl
 |f+1,L,lv=>by rw [PL,aaU,F5]
theorem ah5 {od:List Int}{j:Int}(hj:0≤j):∀ {f:Nat}{L:Int}{lv:List Int},VY lv.length od→gi lv j≤gi (PL P tp od f L lv) j
 |0,_,_,_=>Int.le_refl _
 |f+1,L,lv,h=>by
  rw [PL]
  have h1:=ah4 (P:=P) (tp:=tp) (L:=L) hj h
  have h2:=ah5 (f:=f) (L:=L+1) (lv:=gsw P tp L lv od) hj (by rw [F5];exact h)
  omega
theorem ah6 {od:List Int}{j:Int}(hj:0≤j):∀ {f:Nat}{L:Int}{lv:List Int},VY lv.length od→gi (PL P tp od f L lv) j≤gi lv j∨(gi (PL P tp od f L lv) j≤L+f-1∧gi (PL P tp od f L lv) j≤tp j)
 |0,_,_,_=> .inl (Int.le_refl _)
 |f+1,L,lv,h=>by
  rw [PL]
  have h1:=XP (P:=P) (tp:=tp) (L:=L) hj h
  have h2:=ah6 (f:=f) (L:=L+1) (lv:=gsw P tp L lv od) hj (by rw [F5];exact h)
  omega
theorem TA {od:List Int}:∀ {f:Nat}{L:Int}{lv:List Int},PL P tp od (f+1) L lv=gsw P tp (L+f) (PL P tp od f L lv) od
 |0,L,lv=>by simp [PL]
 |f+1,L,lv=>by
  rw [PL,TA (f:=f) (L:=L+1),PL,show L+1+(f:Int)=L+((f+1:Nat):Int) by omega]
theorem DI {L:Int}:∀ {l lv:List Int},(∀i∈l,gi lv i≠L-1∨tp i<L)→gsw P tp L lv l=lv
 | [],_,_=>rfl
 | i::l,lv,h=>by
  have e:XQ P tp L lv i=lv:=by
   unfold XQ
   rw [if_neg (by have:=h i (by simp);omega)]
  rw [AP,e,DI (fun j hj=>h j (by simp [hj]))]
theorem Ls {od:List Int}:∀ {f:Nat}{L:Int}{lv:List Int},(∀i∈od,gi lv i<L-1)→PL P tp od f L lv=lv
 |0,_,_,_=>rfl
 |f+1,L,lv,h=>by
  rw [PL,DI (fun i hi=> .inl (by have:=h i hi;omega)),Ls (fun i hi=>by have:=h i hi;omega)]
end
end Go.Proofs.YtlihnbimgclogaaGreatDoor
namespace Go.Proofs.YtlihnbimgclogaaGreatDoor
open Go.Sx
structure xH (rows:List Rw) (gs:List Ch) (al mo od:List Int):Prop where
 mem:∀r∈rows,r.2.Nodup∧∀m∈r.2,0≤m∧m<(gs.length:Int)
 has:∀i:Int,0≤i→i<(gs.length:Int)→ni (bU gs i).2.2.2.1 (bU gs i).2.2.2.2.1 (bU gs i).2.2.2.2.2.1=true
 gl:gs.length≤16
 all:al.length=gs.length
 mol:mo.length=gs.length
 al:∀a∈al,0≤a∧a≤80
 mo:∀a∈mo,0≤a∧a≤80
 nd:od.Nodup
 ord:VY gs.length od
 cov:∀i:Int,0≤i→i<(gs.length:Int)→i∈od
theorem ao7 {cs:List Cd}{os:List ByteArray}{ks:List Ko}{gs:List Ch}{bs:List Ba}{al mo od:List Int}(h:tK cs os ks gs bs al mo od=true):xH (lm cs gs cs.length) gs al mo od:=by
 obtain ⟨hv,h1,h2,h3,h4,h5⟩:=jS.1 h
 have hl:=(jq.1 hv).1
 obtain ⟨o1,o2,o3⟩:=uf.1 h5
 refine ⟨fun r hr=>⟨(row_mem hr).1,(row_mem hr).2.1⟩,fun i h0 h1=>?_,by omega,h1,h2,fun a ha=>oV.1 (List.all_eq_true.1 h3 a ha),fun a ha=>oV.1 (List.all_eq_true.1 h4 a ha),o2,o3,fun i h0 h1=>Lr h5 h0 h1⟩
 have:=tH hv h0 h1
 unfold Qb chW at this
 simp only [Bool.and_eq_true,iP] at this
 exact gm.2 (by omega)
def PP (rows:List Rw) (gs:List Ch) (al lv:List Int):Bool:=aan rows al (pJ gs lv)
def tpO (gs:List Ch) (mo:List Int) (i:Int):Int:=yR gs i (gi mo i)
theorem Uz {gs:List Ch}{lv:List Int}:(pJ gs lv).length=gs.length:=by simp [pJ]
theorem vz {gs:List Ch}{lv:List Int}{i:Int}(h0:0≤i) (h1:i<(gs.length:Int)):gi (pJ gs lv) i=yF gs i (gi lv i):=by
 rw [jy (by rw [Uz];omega)]
 simp only [pJ,List.getElem_map,List.getElem_range]
 rw [Int.toNat_of_nonneg h0]
 rfl
theorem ai1 {gs:List Ch}{i:Int}:yF gs i 0=0:=by simp [yF,CZ]
theorem UB {gs:List Ch}{i a b:Int}(hh:ni (bU gs i).2.2.2.1 (bU gs i).2.2.2.2.1 (bU gs i).2.2.2.2.2.1=true) (h0:0≤a) (h1:a≤b):yF gs i a≤yF gs i b:=by
 obtain ⟨g1,g2,g3,g4,g5⟩:=gm.1 hh
 exact UA ⟨g1,g4⟩ h0 h1
theorem ai0 {gs:List Ch}{i a b:Int}(hh:ni (bU gs i).2.2.2.1 (bU gs i).2.2.2.2.1 (bU gs i).2.2.2.2.2.1=true) (h0:0≤a) (h1:a<b):yF gs i a<yF gs i b:=by
 obtain ⟨g1,g2,g3,g4,g5⟩:=gm.1 hh
 have h2:=UB hh (show 0≤a+1 by omega) (show a+1≤b by omega)
 have h3:yF gs i a<yF gs i (a+1):=by
  unfold yF CZ
  rw [if_neg (show ¬a+1=0 by omega)]
  split
  ·rename_i e;subst e;simp;omega
  ·have:(a+1-1)*(bU gs i).2.2.2.2.2.1=(a-1)*(bU gs i).2.2.2.2.2.1+(bU gs i).2.2.2.2.2.1:=by
    rw [show a+1-1=(a-1)+1 by omega,Int.add_mul,Int.one_mul]
   omega
 omega
theorem aiZ {gs:List Ch}{i a:Int}(hh:ni (bU gs i).2.2.2.1 (bU gs i).2.2.2.2.1 (bU gs i).2.2.2.2.2.1=true) (h0:0≤a):0≤yF gs i a:=by
 have:=UB hh (Int.le_refl 0) h0
 rw [ai1] at this
 exact this
theorem xU {al am bm:List Int}:∀ {ms:List Int},(∀m∈ms,gi am m=gi bm m)→smM al am ms=smM al bm ms
 | [],_=>rfl
 |m::ms,h=>by rw [zY,zY,xU (ms:=ms) (fun x hx=>h x (by simp [hx])),h m (by simp)]
theorem ZU {al am bm:List Int}{i:Int}:∀ {ms:List Int},ms.Nodup→i∈ms→(∀m∈ms,m≠i→gi am m=gi bm m)→smM al bm ms=smM al am ms+(mx (gi al i) (gi bm i)-mx (gi al i) (gi am i))
 | [],_,h,_=>by cases h
 | m::ms,hn,hi,h=>by
  obtain ⟨n1,n2⟩:=List.nodup_cons.1 hn
  rw [zY,zY]
  by_cases e:m=i
  ·subst e
   rw [xU (am:=am) (bm:=bm) (fun x hx=>h x (by simp [hx]) (fun e=>n1 (e▸hx)))]
   omega
  ·have hi2:i∈ms:=by
    rcases List.mem_cons.1 hi with h|h
    ·exact absurd h.symm e
    ·exact h
   rw [ZU n2 hi2 (fun x hx=>h x (by simp [hx])),h m (by simp) e]
   omega
theorem VS {al am bm:List Int}{r:Rw}(h:∀m∈r.2,gi am m=gi bm m):rowB al am r=rowB al bm r:=by
 unfold rowB
 rw [xU h]
 congr 1
 rw [Bool.eq_iff_iff,List.all_eq_true,List.all_eq_true]
 constructor
 ·intro g m hm;rw [←h m hm];exact g m hm
 ·intro g m hm;rw [h m hm];exact g m hm
structure Inv (rows:List Rw) (gs:List Ch) (al sm lv:List Int):Prop where
 sl:sm.length=rows.length
 sm:∀k:Nat,k<rows.length→sm.getD k 0=smM al (pJ gs lv) (rY rows k).2
 ll:lv.length=gs.length
 nn:∀j,0≤j→0≤gi lv j
 pp:PP rows gs al lv=true
theorem F7 {rows:List Rw}{k:Int}(h0:0≤k) (h1:k<(rows.length:Int)):rY rows k∈rows:=by
 rw [DL (by omega)];exact List.getElem_mem _
theorem Qj {rows:List Rw}{gs:List Ch}{al mo od lv:List Int}(H:xH rows gs al mo od) {i L:Int}(hl:lv.length=gs.length) (h0:0≤i) (h1:i<(gs.length:Int)) {r:Rw}(hr:r∈rows):
  (∀m∈r.2,m≠i→gi (pJ gs lv) m=gi (pJ gs (lv.set i.toNat L)) m)∧gi (pJ gs (lv.set i.toNat L)) i=yF gs i L:=by
 refine ⟨fun m hm e=>?_,?_⟩
 ·obtain ⟨m0,m1⟩:=(H.mem r hr).2 m hm
  rw [vz m0 m1,vz m0 m1,oz h0 (by omega) m0,if_neg e]
 ·rw [vz h0 h1,oz h0 (by omega) h0,if_pos rfl]
theorem ae3 {rows:List Rw}{gs:List Ch}{al mo od lv:List Int}(H:xH rows gs al mo od) {i L:Int}(hl:lv.length=gs.length) (h0:0≤i) (h1:i<(gs.length:Int)) {r:Rw}(hr:r∈rows) (hc:gi lv i=L-1):
  smM al (pJ gs (lv.set i.toNat L)) r.2=smM al (pJ gs lv) r.2+(if i∈r.2 then Ld gs al i L else 0):=by
 obtain ⟨p1,p2⟩:=Qj (L:=L) H hl h0 h1 hr
 split
 ·rename_i hi
  rw [ZU (am:=pJ gs lv) (H.mem r hr).1 hi p1,p2,vz h0 h1,hc]
  rfl
 ·rename_i hi
  rw [←xU (am:=pJ gs lv) (fun m hm=>p1 m hm (fun e=>hi (e▸hm)))]
  omega
theorem anL {rows:List Rw}{gs:List Ch}{al mo od sm lv:List Int}(H:xH rows gs al mo od) (hI:Inv rows gs al sm lv) {i L:Int}(h0:0≤i) (h1:i<(gs.length:Int)) (hL:1≤L) (hc:gi lv i=L-1):
  ((OL rows).getD i.toNat []).all (Bc rows sm (Ld gs al i L))=PP rows gs al (lv.set i.toNat L):=by
 have hg:=H.gl
 rw [Y4 (fun r hr=>⟨(H.mem r hr).1,fun m hm=>((H.mem r hr).2 m hm).1⟩) (by omega),Bool.eq_iff_iff,List.all_eq_true]
 unfold PP aan
 rw [List.all_eq_true]
 have hpp:=hI.pp
 unfold PP aan at hpp
 rw [List.all_eq_true] at hpp
 have hpos:1≤yF gs i L:=by
  have:=ai0 (H.has i h0 h1) (Int.le_refl 0) (show 0<L by omega)
  rw [ai1] at this
  omega
 have hfit:∀k:Int,0≤k→k<(rows.length:Int)→i∈(rY rows k).2→(Bc rows sm (Ld gs al i L) k=rowB al (pJ gs (lv.set i.toNat L)) (rY rows k)):=fun k k0 k1 hk=>by
  have hr:=F7 k0 k1
  have hs:=hI.sm k.toNat (by omega)
  rw [Int.toNat_of_nonneg k0] at hs
  have hp:=ae3 (L:=L) H hI.ll h0 h1 hr hc
  rw [if_pos hk] at hp
  have hz:(rY rows k).2.all (fun m=>gi (pJ gs (lv.set i.toNat L)) m==0)=false:=by
   rw [Bool.eq_false_iff]
   intro hz
   have:=List.all_eq_true.1 hz i hk
   rw [(Qj (L:=L) H hI.ll h0 h1 hr).2,beq_iff_eq] at this
   omega
  unfold Bc rowB
  rw [hz,Bool.false_or,hp,hs]
 constructor
 ·intro h r hr
  obtain ⟨k,hk,rfl⟩:=List.mem_iff_getElem.1 hr
  have ek:rY rows (k:Int)=rows[k]:=DL (by simpa using hk)
  by_cases hi:i∈rows[k].2
  ·have:=h (k:Int) (uT.2 ⟨by omega,by omega,by
    rw [Int.sub_zero,ek,Int.toNat_of_nonneg h0]
    simpa using hi⟩)
   rw [hfit k (by omega) (by omega) (by rw [ek];exact hi),ek] at this
   exact this
  ·rw [←VS (am:=pJ gs lv) (fun m hm=>(Qj (L:=L) H hI.ll h0 h1 hr).1 m hm (fun e=>hi (e▸hm)))]
   exact hpp _ hr
 ·intro h x hx
  obtain ⟨x0,x1,x2⟩:=uT.1 hx
  rw [Int.sub_zero,Int.toNat_of_nonneg h0] at x2
  rw [hfit x x0 (by omega) (by simpa using x2)]
  exact h _ (F7 x0 (by omega))
theorem alN {rows:List Rw}{gs:List Ch}{al mo od sm lv:List Int}{b:Bool}(H:xH rows gs al mo od) (hI:Inv rows gs al sm lv) {i L:Int}(h0:0≤i) (h1:i<(gs.length:Int)) (hL:1≤L):
  (Dn (OL rows) rows gs al mo L (sm,lv,b) i).2.1=XQ (PP rows gs al) (tpO gs mo) L lv i∧Inv rows gs al (Dn (OL rows) rows gs al mo L (sm,lv,b) i).1 (Dn (OL rows) rows gs al mo L (sm,lv,b) i).2.1∧((Dn (OL rows) rows gs al mo L (sm,lv,b) i).2.2=false→b=false∧(Dn (OL rows) rows gs al mo L (sm,lv,b) i).2.1=lv):=by
 unfold Dn XQ
 simp only
 by_cases hc:gi lv i=L-1∧L≤tpO gs mo i
 ·have hf:=anL H hI h0 h1 hL hc.1
  rw [if_pos (show lv.getD i.toNat 0=L-1∧L≤yR gs i (gi mo i) from hc),if_pos hc,hf]
  by_cases hp:PP rows gs al (lv.set i.toNat L)=true
  ·rw [if_pos hp,if_pos hp]
   have hg:=H.gl
   refine ⟨rfl,⟨by rw [sF];exact hI.sl,fun k hk=>?_,by rw [List.length_set];exact hI.ll,fun j hj=>?_,hp⟩,fun h=>by cases h⟩
   ·have hr:rY rows (k:Int)∈rows:=F7 (by omega) (by omega)
    simp only
    rw [Y4 (fun r hr=>⟨(H.mem r hr).1,fun m hm=>((H.mem r hr).2 m hm).1⟩) (by omega),Jp yu (fun r hr=>(uT.1 hr).1) (by rw [hI.sl];exact hk),hI.sm k hk,ae3 (L:=L) H hI.ll h0 h1 hr hc.1]
    have:(k:Int)∈ofF 0 rows (i.toNat:Int)↔i∈(rY rows (k:Int)).2:=by
     rw [uT,Int.sub_zero,Int.toNat_of_nonneg h0]
     simp only [List.contains_iff_mem]
     constructor
     ·exact fun h=>h.2.2
     ·exact fun h=>⟨by omega,by omega,h⟩
    by_cases hm:i∈(rY rows (k:Int)).2
    ·rw [if_pos (this.2 hm),if_pos hm]
    ·rw [if_neg (fun h=>hm (this.1 h)),if_neg hm]
   ·simp only
    rw [oz h0 (by rw [hI.ll];exact h1) hj]
    split
    ·omega
    ·exact hI.nn j hj
  ·rw [if_neg hp,if_neg hp]
   exact ⟨rfl,hI,fun h=>⟨h,rfl⟩⟩
 ·rw [if_neg (show ¬(lv.getD i.toNat 0=L-1∧L≤yR gs i (gi mo i)) from hc),if_neg hc]
  exact ⟨rfl,hI,fun h=>⟨h,rfl⟩⟩
theorem ZM {rows:List Rw}{gs:List Ch}{al mo od:List Int}(H:xH rows gs al mo od) {L:Int}(hL:1≤L):∀ {l sm lv:List Int}{b:Bool},VY gs.length l→Inv rows gs al sm lv→
  (swp (OL rows) rows gs al mo L (sm,lv,b) l).2.1=gsw (PP rows gs al) (tpO gs mo) L lv l∧Inv rows gs al (swp (OL rows) rows gs al mo L (sm,lv,b) l).1 (swp (OL rows) rows gs al mo L (sm,lv,b) l).2.1∧((swp (OL rows) rows gs al mo L (sm,lv,b) l).2.2=false→b=false∧(swp (OL rows) rows gs al mo L (sm,lv,b) l).2.1=lv)
 | [],sm,lv,b,_,hI=>⟨rfl,hI,fun h=>⟨h,rfl⟩⟩
 |i::l,sm,lv,b,hr,hI=>by
  obtain ⟨i0,i1⟩:=hr i (by simp)
  obtain ⟨r1,r2,r3⟩:=alN (b:=b) H hI i0 i1 hL
  obtain ⟨s1,s2,s3⟩:=ZM H hL (l:=l) (b:=(Dn (OL rows) rows gs al mo L (sm,lv,b) i).2.2) (fun x hx=>hr x (by simp [hx])) r2
  refine ⟨s1.trans (by rw [r1];rfl),s2,fun h=>?_⟩
  obtain ⟨t1,t2⟩:=s3 h
  obtain ⟨t3,t4⟩:=r3 t1
  exact ⟨t3,t2.trans t4⟩
theorem ZV {rows:List Rw}{gs:List Ch}{al mo od:List Int}(H:xH rows gs al mo od):∀ {f:Nat}{L:Int}{sm lv:List Int},1≤L→Inv rows gs al sm lv→(∀i∈od,gi lv i≤L-1)→shl (OL rows) rows gs al mo od f L sm lv=PL (PP rows gs al) (tpO gs mo) od f L lv
 |0,_,_,_,_,_,_=>rfl
 | f+1,L,sm,lv,hL,hI,hb=>by
  obtain ⟨s1,s2,s3⟩:=ZM (b:=false) H hL H.ord hI
  rw [shl,PL]
  split
  ·rw [ZV H (by omega) s2 (fun i hi=>by
    rw [s1]
    have h1:=XP (P:=PP rows gs al) (tp:=tpO gs mo) (L:=L) (H.ord i hi).1 (l:=od) (lv:=lv) (by rw [hI.ll];exact H.ord)
    have h2:=hb i hi
    omega),s1]
  ·rename_i hc
   have hc:(swp (OL rows) rows gs al mo L (sm,lv,false) od).2.2=false:=by simpa using hc
   have e:=(s3 hc).2
   rw [←s1,e,Ls (fun i hi=>by have:=hb i hi;omega)]
theorem wZ {n:Nat}{j:Int}:gi (List.replicate n 0) j=0:=by
 unfold gi
 simp only [List.getD,List.getElem?_replicate]
 split<;>rfl
theorem ayB {rows:List Rw}{gs:List Ch}{al mo od:List Int}(H:xH rows gs al mo od):Inv rows gs al (SM al rows) (List.replicate gs.length 0):=by
 have hz:∀r∈rows,∀m∈r.2,gi (pJ gs (List.replicate gs.length 0)) m=0:=fun r hr m hm=>by
  obtain ⟨m0,m1⟩:=(H.mem r hr).2 m hm
  rw [vz m0 m1,wZ,ai1]
 refine ⟨D6,fun k hk=>?_,List.length_replicate,fun j _=>by rw [wZ];omega,?_⟩
 ·rw [aje hk]
  have hr:rY rows (k:Int)∈rows:=F7 (by omega) (by omega)
  unfold smA smM
  congr 1
  refine List.map_congr_left (fun m hm=>?_)
  obtain ⟨m0,m1⟩:=(H.mem _ hr).2 m hm
  rw [hz _ hr m hm]
  have:=H.al _ (nC m0 (by rw [H.all];exact m1))
  unfold mx
  rw [if_neg (by omega)]
 ·unfold PP aan
  rw [List.all_eq_true]
  intro r hr
  unfold rowB
  rw [Bool.or_eq_true,List.all_eq_true]
  exact .inl (fun m hm=>by rw [hz r hr m hm];rfl)
def lvF (rows:List Rw) (gs:List Ch) (al mo od:List Int):List Int:=PL (PP rows gs al) (tpO gs mo) od 80 1 (List.replicate gs.length 0)
theorem VG {rows:List Rw}{gs:List Ch}{al mo od:List Int}(H:xH rows gs al mo od) {i:Int}(h0:0≤i) (h1:i<(gs.length:Int)):0≤tpO gs mo i∧tpO gs mo i≤80∧tpO gs mo i<Dy (bU gs i).2.2.2.1 (bU gs i).2.2.2.2.1 (bU gs i).2.2.2.2.2.1:=
 ⟨Xu (H.has i h0 h1) (H.mo _ (nC h0 (by rw [H.mol];exact h1))).1,Xv,ahv (H.has i h0 h1)⟩
theorem asA {rows:List Rw}{gs:List Ch}{al mo od:List Int}(H:xH rows gs al mo od):shV rows gs al mo od=lvF rows gs al mo od:=by
 unfold shV lvF
 rw [H.all,ZV H (by omega) (ayB H) (fun i _=>by rw [wZ];omega),TA,DI (fun i hi=> .inr ?_)]
 have:=VG H (H.ord i hi).1 (H.ord i hi).2
 omega
end Go.Proofs.YtlihnbimgclogaaGreatDoor
namespace Go.Proofs.YtlihnbimgclogaaGreatDoor
open Go.Sx
section
variable {rows : List Rw} {gs : List Ch} {al mo od : List Int}
theorem anl:(lvF rows gs al mo od).length=gs.length:=by
 unfold lvF
 rw [aaU,List.length_replicate]
theorem aao (H:xH rows gs al mo od):VY (List.replicate gs.length (0:Int)).length od:=by rw [List.length_replicate];exact H.ord
theorem auq (H:xH rows gs al mo od) {j:Int}(hj:0≤j):0≤gi (lvF rows gs al mo od) j:=by
 have:=ah5 (P:=PP rows gs al) (tp:=tpO gs mo) (f:=80) (L:=1) hj (aao H)
 rw [wZ] at this
 exact this
theorem ahp (H:xH rows gs al mo od) {j:Int}(h0:0≤j) (h1:j<(gs.length:Int)):gi (lvF rows gs al mo od) j≤tpO gs mo j:=by
 have h2:=ah6 (P:=PP rows gs al) (tp:=tpO gs mo) (f:=80) (L:=1) h0 (aao H)
 rw [wZ] at h2
 have h3:=VG H h0 h1
 unfold lvF
 omega
theorem ant {i k:Int}(hh:ni (bU gs i).2.2.2.1 (bU gs i).2.2.2.2.1 (bU gs i).2.2.2.2.2.1=true) (h0:0≤k) (h1:k<Dy (bU gs i).2.2.2.1 (bU gs i).2.2.2.2.1 (bU gs i).2.2.2.2.2.1):yR gs i (yF gs i k)=k:=by
 have h2:=aiZ hh h0
 have h3:=(Px hh h2 h0 h1).1 (Int.le_refl _)
 have h4:=ahv (a:=yF gs i k) hh
 have h5:=(Px hh h2 (k:=Tm (bU gs i).2.2.2.1 (bU gs i).2.2.2.2.1 (bU gs i).2.2.2.2.2.1 (yF gs i k)) (by omega) h4).2 (Int.le_refl _)
 by_cases e:k<Tm (bU gs i).2.2.2.1 (bU gs i).2.2.2.2.1 (bU gs i).2.2.2.2.2.1 (yF gs i k)
 ·have:=ai0 hh h0 e
  have h5:yF gs i (Tm (bU gs i).2.2.2.1 (bU gs i).2.2.2.2.1 (bU gs i).2.2.2.2.2.1 (yF gs i k))≤yF gs i k:=h5
  omega
 ·unfold yR
  omega
end
theorem aoG {mi ma st k:Int}(hh:ni mi ma st=true) (_:0≤k) (h1:k<Dy mi ma st):CZ mi st k≤ma:=by
 obtain ⟨g1,g2,g3,g4,g5⟩:=gm.1 hh
 unfold CZ
 split
 ·omega
 ·unfold Dy at h1
  rw [if_pos hh] at h1
  have h2:(k-1)≤(ma-mi) / st:=by omega
  have:=(Int.le_ediv_iff_mul_le (a:=k-1) (b:=ma-mi) (c:=st) (by omega)).1 h2
  omega
theorem avF {mi ma st k:Int}(h0:0≤k) (h1:k<Dy mi ma st):amA mi ma st k=CZ mi st k∧amE mi ma st k=0:=by
 unfold amA amE
 rw [if_neg (by omega),if_neg (by omega)]
 exact ⟨rfl,rfl⟩
end Go.Proofs.YtlihnbimgclogaaGreatDoor
namespace Go.Proofs.YtlihnbimgclogaaGreatDoor
open Go.Sx
section
variable {rows : List Rw} {gs : List Ch} {al mo od lv : List Int}
def lvR (gs:List Ch) (lv:List Int):Prop:=lv.length=gs.length∧∀j,0≤j→j<(gs.length:Int)→0≤gi lv j∧gi lv j<Dy (bU gs j).2.2.2.1 (bU gs j).2.2.2.2.1 (bU gs j).2.2.2.2.2.1
theorem ahq (H:xH rows gs al mo od):lvR gs (lvF rows gs al mo od):=⟨anl,fun j h0 h1=>⟨auq H h0,by
 have:=ahp H h0 h1
 have:=VG H h0 h1
 omega⟩⟩
theorem aoH (H:xH rows gs al mo od) {j k:Int}(h0:0≤j) (h1:j<(gs.length:Int)) (k0:0≤k) (k1:k<Dy (bU gs j).2.2.2.1 (bU gs j).2.2.2.2.1 (bU gs j).2.2.2.2.2.1):(0≤yF gs j k∧yF gs j k≤80)∧azx gs j k=0∧azy gs j k=yF gs j k∧yR gs j (yF gs j k)=k:=by
 have hh:=H.has j h0 h1
 obtain ⟨g1,g2,g3,g4,g5⟩:=gm.1 hh
 have h2:=aoG hh k0 k1
 obtain ⟨e1,e2⟩:=avF k0 k1
 refine ⟨⟨aiZ hh k0,?_⟩,e2,e1,ant hh k0 k1⟩
 unfold yF
 omega
theorem avE (H:xH rows gs al mo od) (R:lvR gs lv) {j:Int}(h0:0≤j) (h1:j<(gs.length:Int)):yR gs j (gi (pJ gs lv) j)=gi lv j∧azx gs j (gi lv j)=0∧azy gs j (gi lv j)=gi (pJ gs lv) j∧0≤gi (pJ gs lv) j∧gi (pJ gs lv) j≤80:=by
 obtain ⟨r0,r1⟩:=R.2 j h0 h1
 obtain ⟨a1,a2,a3,a4⟩:=aoH H h0 h1 r0 r1
 rw [vz h0 h1]
 exact ⟨a4,a2,a3,a1⟩
theorem axk (H:xH rows gs al mo od) {j k:Int}(h0:0≤j) (h1:j<(gs.length:Int)) (k0:0≤k) (k1:k<Dy (bU gs j).2.2.2.1 (bU gs j).2.2.2.2.1 (bU gs j).2.2.2.2.2.1):yF gs j k≤gi mo j↔k≤tpO gs mo j:=
 Px (H.has j h0 h1) (H.mo _ (nC h0 (by rw [H.mol];exact h1))).1 k0 k1
theorem lq {a b:List Int}(hl:a.length=b.length) (h:∀j:Int,0≤j→j<(b.length:Int)→gi a j=gi b j):a=b:=List.ext_getElem hl fun k h1 h2=>by
 have:=h (k:Int) (by omega) (by omega)
 rw [jy (by simpa using h1),jy (by simpa using h2)] at this
 simpa using this
def g4 (gs:List Ch) (mo b am:List Int) (j:Int):Prop:=(0≤gi b j∧gi b j<Dy (bU gs j).2.2.2.1 (bU gs j).2.2.2.2.1 (bU gs j).2.2.2.2.2.1)∧gi am j=yF gs j (gi b j)∧gi am j≤gi mo j
end
section
variable {cs : List Cd} {os : List ByteArray} {ks : List Ko} {gs : List Ch} {bs : List Ba} {al mo od : List Int}
theorem asB (h:tK cs os ks gs bs al mo od=true):yO cs os ks gs bs al mo od=pJ gs (lvF (lm cs gs cs.length) gs al mo od):=by
 unfold yO
 rw [if_pos h,asA (ao7 h)]
theorem ao8 (h:tK cs os ks gs bs al mo od=true):shE cs os ks gs bs al mo od=0:=by unfold shE;rw [if_pos h]
end
end Go.Proofs.YtlihnbimgclogaaGreatDoor
namespace Go.Proofs.YtlihnbimgclogaaGreatDoor
open Go.Sx
section
variable {lt : Int → Int → Bool}
structure zJ (lt:Int→Int→Bool):Prop where
 ord:zK lt
 tot:∀ {a b},lt a b=false→lt b a=false→a=b
theorem di {d:List Dm}{t:Int}:zJ (ltD d t):=⟨iZ,fun h1 h2=>by
 rw [Po] at h1 h2
 omega⟩
theorem zK.irr (O:zK lt) {a:Int}:lt a a=false:=by
 cases h:lt a a with
 |false=>rfl
 |true=>exact h.symm.trans (O.asym h)
def mpZ (n:Nat) (f:Int→Int):List Int:=(List.range n).map (fun k:Nat=>f (k:Int))
theorem FY {n:Nat}{f:Int→Int}:(mpZ n f).length=n:=by simp [mpZ]
theorem Ik {n:Nat}{f:Int→Int}{j:Int}(h0:0≤j) (h1:j<(n:Int)):gi (mpZ n f) j=f j:=by
 rw [jy (by rw [FY];omega)]
 simp only [mpZ,List.getElem_map,List.getElem_range]
 rw [Int.toNat_of_nonneg h0]
theorem aik {x y:List Int}{k:Int}(h:0≤k):gi (x++y) k=if k<(x.length:Int) then gi x k else gi y (k-(x.length:Int)):=by
 unfold gi
 rw [List.getD_eq_getElem?_getD]
 split
 ·rw [List.getElem?_append_left (by omega),List.getD_eq_getElem?_getD]
 ·rw [List.getElem?_append_right (by omega),List.getD_eq_getElem?_getD,show (k-(x.length:Int)).toNat=k.toNat-x.length by omega]
def kU (lt:Int→Int→Bool) (l:List Int) (a b:Int):Prop:=∀x y:Int,a≤x→x<y→y<b→lt (gi l y) (gi l x)=false
theorem GU (O:zJ lt) {l m:List Int}(hp:m.Perm l) (hs:m.Pairwise (fun a b=>lt b a=false)):m=sortB lt l:=
 List.Perm.eq_of_pairwise (le:=fun a b=>lt b a=false) (fun _ _ _ _ h1 h2=>O.tot h2 h1) hs (ql O.ord) (hp.trans nZ.symm)
theorem oD (O:zJ lt) {l m:List Int}(hp:m.Perm l):sortB lt m=sortB lt l:=GU O (nZ.trans hp) (ql O.ord)
def seg (l:List Int) (a b:Int):List Int:=(l.drop a.toNat).take (b.toNat-a.toNat)
theorem FQ {l:List Int}{a b:Int}(h0:0≤a) (h1:a≤b) (h2:b≤(l.length:Int)):((seg l a b).length:Int)=b-a:=by
 unfold seg
 rw [List.length_take,List.length_drop]
 omega
theorem VO {l:List Int}{a b k:Int}(h0:0≤a) (k0:0≤k) (k1:k<b-a):gi (seg l a b) k=gi l (a+k):=by
 unfold gi seg
 rw [List.getD_eq_getElem?_getD,List.getD_eq_getElem?_getD,List.getElem?_take,if_pos (by omega),List.getElem?_drop,show (a+k).toNat=a.toNat+k.toNat by omega]
theorem Di {l:List Int}{a b:Int}(h1:a≤b):l=l.take a.toNat++seg l a b++l.drop b.toNat:=by
 have e:l.drop b.toNat=(l.drop a.toNat).drop (b.toNat-a.toNat):=by
  rw [List.drop_drop]
  congr 1
  omega
 rw [List.append_assoc,e]
 unfold seg
 rw [List.take_append_drop,List.take_append_drop]
def fK (lt:Int→Int→Bool) (l:List Int) (a b:Int):List Int:=l.take a.toNat++sortB lt (seg l a b)++l.drop b.toNat
theorem gW {l:List Int}{a b:Int}(h:a≤b):(fK lt l a b).Perm l:=by
 have e:=Di (l:=l) h
 unfold fK
 conv=>rhs;rw [e]
 exact List.Perm.append_right _ (List.Perm.append_left _ nZ)
theorem qo {l:List Int}{a b:Int}(h:a≤b):(fK lt l a b).length=l.length:=(gW h).length_eq
theorem tC {l:List Int}:(sortB lt l).length=l.length:=nZ.length_eq
theorem PN {l:List Int}{n:Nat}{k:Int}(h:k.toNat<n):gi (l.take n) k=gi l k:=by
 unfold gi
 rw [List.getD_eq_getElem?_getD,List.getElem?_take,if_pos h,List.getD_eq_getElem?_getD]
theorem PO {l:List Int}{n:Nat}{k:Int}(h:0≤k):gi (l.drop n) k=gi l (k+(n:Int)):=by
 unfold gi
 rw [List.getD_eq_getElem?_getD,List.getElem?_drop,List.getD_eq_getElem?_getD,show (k+(n:Int)).toNat=n+k.toNat by omega]
theorem NV {l:List Int}{a b k:Int}(h0:0≤a) (h1:a≤b) (h2:b≤(l.length:Int)) (hk:0≤k):gi (fK lt l a b) k=if a≤k∧k<b then gi (sortB lt (seg l a b)) (k-a) else gi l k:=by
 have hs:=FQ h0 h1 h2
 have hq:((sortB lt (seg l a b)).length:Int)=b-a:=by rw [tC];exact hs
 have ht:((l.take a.toNat).length:Int)=a:=by rw [List.length_take];omega
 unfold fK
 rw [List.append_assoc,aik hk,ht]
 by_cases c:k<a
 ·rw [if_pos c,if_neg (by omega),PN (by omega)]
 ·rw [if_neg c,aik (by omega),hq]
  by_cases c2:k<b
  ·rw [if_pos (by omega),if_pos (by omega)]
  ·rw [if_neg (by omega),if_neg (by omega),PO (by omega)]
   congr 1
   omega
theorem iV {l:List Int}{a b k:Int}(h0:0≤a) (h1:a≤b) (h2:b≤(l.length:Int)) (hk:0≤k) (h:k<a∨b≤k):gi (fK lt l a b) k=gi l k:=by
 rw [NV h0 h1 h2 hk,if_neg (by omega)]
theorem ae2 {l:List Int}{a b k:Int}(h0:0≤a) (h1:a≤b) (h2:b≤(l.length:Int)) (hk:a≤k) (hb:k<b):∃j,(a≤j∧j<b)∧gi (fK lt l a b) k=gi l j:=by
 have hs:=FQ h0 h1 h2
 rw [NV h0 h1 h2 (by omega),if_pos ⟨hk,hb⟩]
 have hm:gi (sortB lt (seg l a b)) (k-a)∈sortB lt (seg l a b):=nC (by omega) (by rw [tC];omega)
 have hm:=nZ.subset hm
 obtain ⟨i,hi,e⟩:=List.mem_iff_getElem.1 hm
 refine ⟨a+i,by omega,?_⟩
 rw [←e,←VO (b:=b) h0 (by omega) (by omega),jy (by simpa using hi)]
 simp
theorem xR (O:zK lt) {l:List Int}{a b:Int}(h0:0≤a) (h1:a≤b) (h2:b≤(l.length:Int)):kU lt (fK lt l a b) a b:=fun x y hx hxy hy=>by
 have hs:=FQ h0 h1 h2
 rw [NV h0 h1 h2 (by omega),NV h0 h1 h2 (by omega),if_pos (by omega),if_pos (by omega)]
 have hl:(sortB lt (seg l a b)).length=(seg l a b).length:=tC
 have:=List.pairwise_iff_getElem.1 (ql O (l:=seg l a b)) (x-a).toNat (y-a).toNat (by omega) (by omega) (by omega)
 rwa [←jy,←jy] at this
theorem aff {l:List Int}{a b:Int}(h0:0≤a) (h1:a≤b) (h2:b≤(l.length:Int)) (h:kU lt l a b):(seg l a b).Pairwise (fun a b=>lt b a=false):=by
 have hs:=FQ h0 h1 h2
 rw [List.pairwise_iff_getElem]
 intro i j hi hj hij
 have:=h (a+i) (a+j) (by omega) (by omega) (by omega)
 rw [←VO (b:=b) h0 (by omega) (by omega),←VO (b:=b) h0 (by omega) (by omega),jy (by simpa using hj),jy (by simpa using hi)] at this
 simpa using this
theorem zX (O:zJ lt) {l m:List Int}{a b:Int}(h0:0≤a) (h1:a≤b) (h2:b≤(l.length:Int)) (hp:m.Perm l) (ho:∀k,0≤k→(k<a∨b≤k)→gi m k=gi l k) (hs:kU lt m a b):m=fK lt l a b:=by
 have hl:=hp.length_eq
 have e1:m.take a.toNat=l.take a.toNat:=lq (by simp [hl]) fun j j0 j1=>by
  rw [List.length_take] at j1
  rw [PN (by omega),PN (by omega)]
  exact ho j j0 (by omega)
 have e2:m.drop b.toNat=l.drop b.toNat:=lq (by simp [hl]) fun j j0 j1=>by
  rw [PO j0,PO j0]
  exact ho _ (by omega) (by omega)
 have em:=Di (l:=m) h1
 have el:=Di (l:=l) h1
 have hq:(seg m a b).Perm (seg l a b):=by
  rw [em,el,e1,e2] at hp
  rw [List.perm_append_right_iff,List.perm_append_left_iff] at hp
  exact hp
 have es:=GU O hq (aff h0 h1 (by omega) hs)
 unfold fK
 rw [←es,←e1,←e2]
 exact em
theorem GY (O:zJ lt) {l:List Int}{a b:Int}(h0:0≤a) (h1:a≤b) (h2:b≤(l.length:Int)) (hs:kU lt l a b):fK lt l a b=l:=(zX O h0 h1 h2 (List.Perm.refl _) (fun _ _ _=>rfl) hs).symm
theorem asw (O:zJ lt) {l m:List Int}{a b:Int}(h0:0≤a) (h1:a≤b) (h2:b≤(l.length:Int)) (hp:m.Perm l) (ho:∀k,0≤k→(k<a∨b≤k)→gi m k=gi l k):fK lt m a b=fK lt l a b:=by
 have hl:=hp.length_eq
 exact zX O h0 h1 h2 ((gW h1).trans hp) (fun k k0 hk=>by rw [iV h0 h1 (by omega) k0 hk];exact ho k k0 hk) (xR O.ord h0 h1 (by omega))
def Vu (l:List Int) (i j:Int):List Int:=(l.set i.toNat (gi l j)).set j.toNat (gi l i)
theorem vF {l:List Int}{i j:Int}:(Vu l i j).length=l.length:=by simp [Vu]
theorem DT {l:List Int}{i j k:Int}(i0:0≤i) (i1:i<(l.length:Int)) (j0:0≤j) (j1:j<(l.length:Int)) (k0:0≤k):gi (Vu l i j) k=if k=j then gi l i else if k=i then gi l j else gi l k:=by
 unfold Vu
 rw [oz j0 (by rw [List.length_set];exact j1) k0,oz i0 i1 k0]
theorem I7 {l:List Int}{i j:Int}(i0:0≤i) (i1:i<(l.length:Int)) (_:0≤j) (j1:j<(l.length:Int)):(Vu l i j).Perm l:=by
 unfold Vu
 rw [jy (n:=i) (by omega),jy (n:=j) (by omega)]
 exact List.set_set_perm (by omega) (by omega)
def J6 (l:List Int) (a b n:Int):List Int:=mpZ l.length (fun k=>if a≤k∧k<a+n then gi l (k+(b-a)) else if b≤k∧k<b+n then gi l (k-(b-a)) else gi l k)
theorem jY {l:List Int}{a b n:Int}:(J6 l a b n).length=l.length:=FY
theorem ao4 {l:List Int}{a b:Int}:J6 l a b 0=l:=lq FY fun j j0 j1=>by
 unfold J6
 rw [Ik j0 j1,if_neg (by omega),if_neg (by omega)]
theorem Ro {l:List Int}{a b n:Int}(h0:0≤a) (h1:1≤n) (h2:a+n≤b) (h3:b+n≤(l.length:Int)):J6 (Vu l a b) (a+1) (b+1) (n-1)=J6 l a b n:=lq (by rw [jY,jY,vF]) fun j j0 j1=>by
 rw [jY] at j1
 unfold J6
 rw [vF,Ik j0 j1,Ik j0 j1]
 have g:=fun k k0=>DT (l:=l) (i:=a) (j:=b) (k:=k) h0 (by omega) (by omega) (by omega) k0
 split
 ·rw [g _ (by omega),if_neg (by omega),if_neg (by omega),if_pos (by omega)]
  congr 1
  omega
 ·split
  ·rw [g _ (by omega),if_neg (by omega),if_neg (by omega),if_neg (by omega),if_pos (by omega)]
   congr 1
   omega
  ·rw [g _ j0]
   by_cases c1:j=b
   ·rw [if_pos c1,if_neg (by omega),if_pos (by omega)]
    congr 1
    omega
   ·rw [if_neg c1]
    by_cases c2:j=a
    ·rw [if_pos c2,if_pos (by omega)]
     congr 1
     omega
    ·rw [if_neg c2,if_neg (by omega),if_neg (by omega)]
theorem zV:∀(n:Nat) {l:List Int}{a b:Int},0≤a→a+n≤b→b+n≤(l.length:Int)→(J6 l a b n).Perm l
 |0,l,a,b,_,_,_=>by
  show (J6 l a b 0).Perm l
  rw [ao4]
 |n+1,l,a,b,h0,h1,h2=>by
  rw [←Ro h0 (by omega) (by omega) (by omega),show ((n+1:Nat):Int)-1=(n:Int) by omega]
  exact (zV n (by omega) (by omega) (by rw [vF];omega)).trans (I7 h0 (by omega) (by omega) (by omega))
def fD (l:List Int) (s m e:Int):List Int:=mpZ l.length (fun k=>if s≤k∧k<s+(e-m) then gi l (k+(m-s)) else if s+(e-m)≤k∧k<e then gi l (k-(e-m)) else gi l k)
theorem dS {l:List Int}{s m e:Int}:(fD l s m e).length=l.length:=FY
theorem ig {l:List Int}{s m e k:Int}(k0:0≤k) (k1:k<(l.length:Int)):gi (fD l s m e) k=if s≤k∧k<s+(e-m) then gi l (k+(m-s)) else if s+(e-m)≤k∧k<e then gi l (k-(e-m)) else gi l k:=Ik k0 k1
theorem N9 {l:List Int}{m e:Int}:fD l m m e=l:=lq dS fun j j0 j1=>by
 rw [ig j0 j1]
 split
 ·congr 1
  omega
 ·rw [if_neg (by omega)]
theorem VU {l:List Int}{s m:Int}:fD l s m m=l:=lq dS fun j j0 j1=>by
 rw [ig j0 j1,if_neg (by omega)]
 split
 ·congr 1
  omega
 ·rfl
theorem VJ {l:List Int}{a b n k:Int}(k0:0≤k) (k1:k<(l.length:Int)):gi (J6 l a b n) k=if a≤k∧k<a+n then gi l (k+(b-a)) else if b≤k∧k<b+n then gi l (k-(b-a)) else gi l k:=Ik k0 k1
theorem VT {l:List Int}{m i:Int}:J6 l (m-i) m i=fD l (m-i) m (m+i):=lq (by rw [jY,dS]) fun j j0 j1=>by
 rw [dS] at j1
 rw [VJ j0 j1,ig j0 j1]
 by_cases c1:m-i≤j∧j<m
 ·rw [if_pos (by omega),if_pos (by omega)]
 ·by_cases c2:m≤j∧j<m+i
  ·rw [if_neg (by omega),if_pos (by omega),if_neg (by omega),if_pos (by omega)]
   congr 1
   omega
  ·rw [if_neg (by omega),if_neg (by omega),if_neg (by omega),if_neg (by omega)]
theorem afr {l:List Int}{m i j:Int}(h0:0≤m-i) (h1:1≤j) (h2:j<i) (h3:m+j≤(l.length:Int)):fD (J6 l (m-i) m j) (m-(i-j)) m (m+j)=fD l (m-i) m (m+j):=lq (by rw [dS,dS,jY]) fun k k0 k1=>by
 rw [dS] at k1
 have g:=fun q q0 q1=>VJ (l:=l) (a:=m-i) (b:=m) (n:=j) (k:=q) q0 q1
 rw [ig k0 (by rw [jY];exact k1),ig k0 k1]
 split
 ·rw [g _ (by omega) (by omega)]
  by_cases c:m≤k+(m-(m-(i-j)))
  ·rw [if_neg (by omega),if_pos (by omega),if_neg (by omega),if_pos (by omega)]
   congr 1
   omega
  ·exfalso
   omega
 ·split
  ·rw [g _ (by omega) (by omega),if_neg (by omega),if_neg (by omega),if_neg (by omega),if_pos (by omega)]
  ·rw [g _ k0 k1]
   by_cases c:m-i≤k∧k<m-i+j
   ·rw [if_pos c,if_pos (by omega)]
   ·rw [if_neg c,if_neg (by omega),if_neg (by omega),if_neg (by omega)]
theorem afq {l:List Int}{m i j:Int}(h0:0≤m-i) (h1:1≤i) (h2:i<j) (h3:m+j≤(l.length:Int)):fD (J6 l (m-i) (m+j-i) i) (m-i) m (m+(j-i))=fD l (m-i) m (m+j):=lq (by rw [dS,dS,jY]) fun k k0 k1=>by
 rw [dS] at k1
 have g:=fun q q0 q1=>VJ (l:=l) (a:=m-i) (b:=m+j-i) (n:=i) (k:=q) q0 q1
 rw [ig k0 (by rw [jY];exact k1),ig k0 k1]
 split
 ·rw [g _ (by omega) (by omega),if_neg (by omega),if_neg (by omega),if_pos (by omega)]
 ·split
  ·rw [g _ (by omega) (by omega),if_pos (by omega),if_pos (by omega)]
   congr 1
   omega
  ·rw [g _ k0 k1]
   by_cases c:m+j-i≤k∧k<m+j
   ·rw [if_neg (by omega),if_pos (by omega),if_neg (by omega),if_pos (by omega)]
    congr 1
    omega
   ·rw [if_neg (by omega),if_neg (by omega),if_neg (by omega),if_neg (by omega)]
theorem Dp:∀(n:Nat) {l:List Int}{m i j:Int},(i+j).toNat≤n→0≤m-i→0≤i→0≤j→m+j≤(l.length:Int)→(fD l (m-i) m (m+j)).Perm l
 |0,l,m,i,j,hn,h0,hi,hj,hl=>by
  rw [show i=0 by omega,Int.sub_zero,N9]
 | n +1,l,m,i,j,hn,h0,hi,hj,hl=>by
  by_cases c0:i=0
  ·rw [c0,Int.sub_zero,N9]
  ·by_cases c1:j=0
   ·rw [c1,Int.add_zero,VU]
   ·by_cases c2:j<i
    ·rw [←afr h0 (by omega) c2 hl]
     refine (Dp n (by omega) (by omega) (by omega) hj (by rw [jY];exact hl)).trans ?_
     have:=zV j.toNat (l:=l) (a:=m-i) (b:=m) h0 (by omega) (by omega)
     rwa [Int.toNat_of_nonneg hj] at this
    ·by_cases c3:i<j
     ·rw [←afq h0 (by omega) c3 hl]
      refine (Dp n (by omega) (by omega) (by omega) (by omega) (by rw [jY];omega)).trans ?_
      have:=zV i.toNat (l:=l) (a:=m-i) (b:=m+j-i) h0 (by omega) (by omega)
      rwa [Int.toNat_of_nonneg hi] at this
     ·rw [show j=i by omega,←VT]
      have:=zV i.toNat (l:=l) (a:=m-i) (b:=m) h0 (by omega) (by omega)
      rwa [Int.toNat_of_nonneg hi] at this
theorem tV {l:List Int}{s m e:Int}(h0:0≤s) (h1:s≤m) (h2:m≤e) (h3:e≤(l.length:Int)):(fD l s m e).Perm l:=by
 have:=Dp _ (l:=l) (m:=m) (i:=m-s) (j:=e-m) (Nat.le_refl _) (by omega) (by omega) (by omega) (by omega)
 rwa [show m-(m-s)=s by omega,show m+(e-m)=e by omega] at this
theorem yc {l:List Int}{s m e k:Int}(h1:s≤m) (h2:m≤e) (k0:0≤k) (h:k<s∨e≤k):gi (fD l s m e) k=gi l k:=by
 by_cases c:k<(l.length:Int)
 ·rw [ig k0 c,if_neg (by omega),if_neg (by omega)]
 ·unfold gi
  rw [List.getD_eq_getElem?_getD,List.getD_eq_getElem?_getD,List.getElem?_eq_none (by rw [dS];omega),List.getElem?_eq_none (by omega)]
theorem sK (O:zK lt) {l:List Int}{a b x y:Int}(h:kU lt l a b) (hx:a≤x) (hxy:x≤y) (hy:y<b):lt (gi l y) (gi l x)=false:=by
 by_cases e:x=y
 ·rw [e];exact O.irr
 ·exact h x y hx (by omega) hy
theorem aeW (O:zJ lt) {l:List Int}{a s m e b mid:Int}(h0:0≤a) (h1:a≤s) (h2:s≤m) (h3:m≤e) (h4:e≤b) (h5:b≤(l.length:Int)) (hm:mid=s+(e-m)) (hA:kU lt l a m) (hB:kU lt l m b)
  (c1:a<s→e<b→lt (gi l e) (gi l (s-1))=false) (c2:s<m→m<e→lt (gi l (e-1)) (gi l s)=true):fK lt (fK lt (fD l s m e) a mid) mid b=fK lt l a b:=by
 have hp:=tV (l:=l) (by omega) h2 h3 (by omega)
 have rl:(fD l s m e).length=l.length:=dS
 have rl2:(fK lt (fD l s m e) a mid).length=l.length:=by rw [qo (by omega),rl]
 have cross:∀x y,a≤x→x<mid→mid≤y→y<b→lt (gi (fD l s m e) y) (gi (fD l s m e) x)=false:=fun x y x0 x1 y0 y1=>by
  rw [ig (by omega) (by omega),ig (by omega) (by omega),if_neg (show ¬(s≤y∧y<s+(e-m)) by omega)]
  by_cases cx:s≤x
  ·rw [if_pos (show s≤x∧x<s+(e-m) by omega)]
   by_cases cy:y<e
   ·rw [if_pos (show s+(e-m)≤y∧y<e by omega)]
    have q1:=sK O.ord hA (x:=s) (y:=y-(e-m)) h1 (by omega) (by omega)
    have q2:=O.ord.asym (c2 (by omega) (by omega))
    have q3:=sK O.ord hB (x:=x+(m-s)) (y:=e-1) (by omega) (by omega) (by omega)
    exact O.ord.ntr q1 (O.ord.ntr q2 q3)
   ·rw [if_neg (show ¬(s+(e-m)≤y∧y<e) by omega)]
    exact sK O.ord hB (by omega) (by omega) y1
  ·rw [if_neg (show ¬(s≤x∧x<s+(e-m)) by omega),if_neg (show ¬(s+(e-m)≤x∧x<e) by omega)]
   by_cases cy:y<e
   ·rw [if_pos (show s+(e-m)≤y∧y<e by omega)]
    exact sK O.ord hA x0 (by omega) (by omega)
   ·rw [if_neg (show ¬(s+(e-m)≤y∧y<e) by omega)]
    have q1:=sK O.ord hB (x:=e) (y:=y) h3 (by omega) y1
    have q2:=c1 (by omega) (by omega)
    have q3:=sK O.ord hA (x:=x) (y:=s-1) x0 (by omega) (by omega)
    exact O.ord.ntr q1 (O.ord.ntr q2 q3)
 refine zX O h0 (by omega) h5 ((gW (by omega)).trans ((gW (by omega)).trans hp)) (fun k k0 hk=>?_) (fun x y x0 xy y1=>?_)
 ·rw [iV (by omega) (by omega) (by omega) k0 (by omega),iV (by omega) (by omega) (by omega) k0 (by omega),yc h2 h3 k0 (by omega)]
 ·by_cases cy:y<mid
  ·rw [iV (k:=y) (by omega) (by omega) (by omega) (by omega) (by omega),iV (k:=x) (by omega) (by omega) (by omega) (by omega) (by omega)]
   exact xR O.ord h0 (by omega) (by omega) x y x0 xy cy
  ·by_cases cx:mid≤x
   ·exact xR O.ord (by omega) (by omega) (by omega) x y cx xy y1
   ·obtain ⟨j,⟨j0,j1⟩,e1⟩:=ae2 (lt:=lt) (l:=fK lt (fD l s m e) a mid) (a:=mid) (b:=b) (k:=y) (by omega) (by omega) (by omega) (by omega) y1
    obtain ⟨i,⟨i0,i1⟩,e2⟩:=ae2 (lt:=lt) (l:=fD l s m e) (a:=a) (b:=mid) (k:=x) h0 (by omega) (by omega) x0 (by omega)
    rw [e1,iV (k:=j) (by omega) (by omega) (by omega) (by omega) (by omega),iV (k:=x) (by omega) (by omega) (by omega) (by omega) (by omega),e2]
    exact cross i j i0 i1 j0 j1
theorem aah (O:zJ lt) {l:List Int}{a s m e b:Int}(h0:0≤a) (h1:a≤s) (h2:s≤m) (h3:m≤e) (h4:e≤b) (h5:b≤(l.length:Int)) (hA:kU lt l a m) (hB:kU lt l m b)
  (c1:∀x y,s≤x→x<m→m≤y→y<e→lt (gi l x) (gi l y)=false) (c2:∀x y,s≤x→x<m→e≤y→y<b→lt (gi l y) (gi l x)=false) (c3:∀x y,a≤x→x<s→m≤y→y<b→lt (gi l y) (gi l x)=false):fD l s m e=fK lt l a b:=by
 refine zX O h0 (by omega) h5 (tV (by omega) h2 h3 (by omega)) (fun k k0 hk=>yc h2 h3 k0 (by omega)) (fun x y x0 xy y1=>?_)
 rw [ig (by omega) (by omega),ig (by omega) (by omega)]
 by_cases x1:x<s
 ·rw [if_neg (show ¬(s≤x∧x<s+(e-m)) by omega),if_neg (show ¬(s+(e-m)≤x∧x<e) by omega)]
  split
  ·exact c3 _ _ x0 x1 (by omega) (by omega)
  ·split
   ·exact hA _ _ x0 (by omega) (by omega)
   ·by_cases y2:y<m
    ·exact hA _ _ x0 xy y2
    ·exact c3 _ _ x0 x1 (by omega) y1
 ·by_cases x2:x<s+(e-m)
  ·rw [if_pos (show s≤x∧x<s+(e-m) by omega)]
   split
   ·exact hB _ _ (by omega) (by omega) (by omega)
   ·split
    ·exact c1 _ _ (by omega) (by omega) (by omega) (by omega)
    ·exact hB _ _ (by omega) (by omega) y1
  ·rw [if_neg (show ¬(s≤x∧x<s+(e-m)) by omega),if_neg (show ¬(s≤y∧y<s+(e-m)) by omega)]
   by_cases x3:x<e
   ·rw [if_pos (show s+(e-m)≤x∧x<e by omega)]
    split
    ·exact hA _ _ (by omega) (by omega) (by omega)
    ·exact c2 _ _ (by omega) (by omega) (by omega) y1
   ·rw [if_neg (show ¬(s+(e-m)≤x∧x<e) by omega),if_neg (show ¬(s+(e-m)≤y∧y<e) by omega)]
    exact hB _ _ (by omega) xy y1
theorem axm (O:zJ lt) {l:List Int}{a m i b:Int}(h0:0≤a) (hm:m=a+1) (h1:m≤i) (h2:i≤b) (h5:b≤(l.length:Int)) (hB:kU lt l m b) (c1:i=m∨lt (gi l (i-1)) (gi l a)=true) (c2:i=b∨lt (gi l i) (gi l a)=false):fD l a m i=fK lt l a b:=by
 refine aah O h0 (Int.le_refl a) (by omega) h1 h2 h5 (fun x y x0 xy y1=>by omega) hB (fun x y x0 x1 y0 y1=>?_) (fun x y x0 x1 y0 y1=>?_) (fun x y x0 x1=>by omega)
 ·rw [show x=a by omega]
  rcases c1 with c1|c1
  ·omega
  ·exact O.ord.ntr (O.ord.asym c1) (sK O.ord hB y0 (by omega) (by omega))
 ·rw [show x=a by omega]
  rcases c2 with c2|c2
  ·omega
  ·exact O.ord.ntr (sK O.ord hB h1 y0 y1) c2
theorem axl (O:zJ lt) {l:List Int}{a m i b:Int}(h0:0≤a) (hb:b=m+1) (h1:a≤i) (h2:i≤m) (h5:b≤(l.length:Int)) (hA:kU lt l a m) (c1:i=a∨lt (gi l m) (gi l (i-1))=false) (c2:i=m∨lt (gi l m) (gi l i)=true):fD l i m b=fK lt l a b:=by
 refine aah O h0 h1 h2 (by omega) (Int.le_refl b) h5 hA (fun x y x0 xy y1=>by omega) (fun x y x0 x1 y0 y1=>?_) (fun x y x0 x1 y0 y1=>by omega) (fun x y x0 x1 y0 y1=>?_)
 ·rw [show y=m by omega]
  rcases c2 with c2|c2
  ·omega
  ·exact O.ord.ntr (sK O.ord hA h1 x0 x1) (O.ord.asym c2)
 ·rw [show y=m by omega]
  rcases c1 with c1|c1
  ·omega
  ·exact O.ord.ntr c1 (sK O.ord hA x0 (by omega) (by omega))
theorem atx {l:List Int}{k i:Int}(k0:0≤k) (h1:k<i-1) (h2:i≤(l.length:Int)):fD (Vu l k (k+1)) (k+1) (k+2) i=fD l k (k+1) i:=lq (by rw [dS,dS,vF]) fun j j0 j1=>by
 rw [dS] at j1
 have g:=fun q q0=>DT (l:=l) (i:=k) (j:=k+1) (k:=q) k0 (by omega) (by omega) (by omega) q0
 rw [ig j0 (by rw [vF];exact j1),ig j0 j1]
 split
 ·rw [g _ (by omega),if_neg (by omega),if_neg (by omega),if_pos (by omega)]
  congr 1
  omega
 ·split
  ·rw [g _ (by omega),if_pos (by omega),if_neg (by omega),if_pos (by omega)]
   congr 1
   omega
  ·rw [g _ j0]
   by_cases c:j=k
   ·rw [if_neg (by omega),if_pos c,if_pos (by omega)]
    congr 1
    omega
   ·rw [if_neg (by omega),if_neg c,if_neg (by omega),if_neg (by omega)]
theorem aty {l:List Int}{k i:Int}(i0:0≤i) (h1:i<k) (h2:k<(l.length:Int)):fD (Vu l k (k-1)) i (k-1) k=fD l i k (k+1):=lq (by rw [dS,dS,vF]) fun j j0 j1=>by
 rw [dS] at j1
 have g:=fun q q0=>DT (l:=l) (i:=k) (j:=k-1) (k:=q) (by omega) h2 (by omega) (by omega) q0
 rw [ig j0 (by rw [vF];exact j1),ig j0 j1]
 split
 ·rw [g _ (by omega),if_pos (by omega),if_pos (by omega)]
  congr 1
  omega
 ·split
  ·rw [g _ (by omega),if_neg (by omega),if_neg (by omega),if_neg (by omega),if_pos (by omega)]
   congr 1
   omega
  ·rw [g _ j0,if_neg (by omega)]
   by_cases c:j=k
   ·rw [if_pos c,if_neg (by omega),if_pos (by omega)]
    congr 1
    omega
   ·rw [if_neg c,if_neg (by omega),if_neg (by omega)]
end
end Go.Proofs.YtlihnbimgclogaaGreatDoor
namespace Go.Proofs.YtlihnbimgclogaaGreatDoor
open Go.Sx
section
variable {lt : Int → Int → Bool}
def XC (lt:Int→Int→Bool) (l:List Int) (a i j:Int):Prop:=∀x y:Int,a≤x→x<y→y≤i→y≠j→lt (gi l y) (gi l x)=false
theorem auJ {l:List Int}{a i:Int}(h:kU lt l a i):XC lt l a i i:=fun x y h1 h2 h3 h4=>h x y h1 h2 (by omega)
theorem ad1 (O:zK lt) {l:List Int}{a i j:Int}(h0:0≤a) (h1:a<j) (h2:j≤i) (h3:i<(l.length:Int)) (h:XC lt l a i j) (c:lt (gi l j) (gi l (j-1))=true):XC lt (Vu l j (j-1)) a i (j-1):=fun x y x0 xy y1 yn=>by
 rw [DT (by omega) (by omega) (by omega) (by omega) (by omega),DT (by omega) (by omega) (by omega) (by omega) (by omega),if_neg yn]
 by_cases e:y=j
 ·rw [if_pos e]
  by_cases e2:x=j-1
  ·rw [if_pos e2]
   exact O.asym c
  ·rw [if_neg e2,if_neg (by omega)]
   exact h x (j-1) x0 (by omega) (by omega) (by omega)
 ·rw [if_neg e]
  by_cases e2:x=j-1
  ·rw [if_pos e2]
   exact h j y (by omega) (by omega) y1 e
  ·rw [if_neg e2]
   by_cases e3:x=j
   ·rw [if_pos e3]
    exact h (j-1) y (by omega) (by omega) y1 e
   ·rw [if_neg e3]
    exact h x y x0 xy y1 e
theorem Tv (O:zK lt) {l:List Int}{a i j:Int}(_:a≤j) (h2:j≤i) (h:XC lt l a i j) (c:j=a∨lt (gi l j) (gi l (j-1))=false):kU lt l a (i+1):=fun x y x0 xy y1=>by
 by_cases e:y=j
 ·rcases c with c|c
  ·omega
  ·rw [e]
   by_cases e2:x=j-1
   ·rw [e2];exact c
   ·exact O.ntr c (h x (j-1) x0 (by omega) (by omega) (by omega))
 ·exact h x y x0 xy (by omega) e
theorem aog (O:zJ lt) {l:List Int}{a b i j:Int}(h0:0≤a) (hb:b≤(l.length:Int)) (i0:a≤i) (i1:i<b) (j0:a≤j) (j1:j<b):fK lt (Vu l i j) a b=fK lt l a b:=
 asw O h0 (by omega) hb (I7 (by omega) (by omega) (by omega) (by omega)) fun k k0 hk=>by
  rw [DT (by omega) (by omega) (by omega) (by omega) k0,if_neg (by omega),if_neg (by omega)]
def vG (l:List Int) (n:Nat):Prop:=∀x∈l,0≤x∧x<(n:Int)
theorem ja {l m:List Int}{n:Nat}(hp:m.Perm l) (h:vG l n):vG m n:=fun x hx=>h x (hp.subset hx)
theorem xk {l:List Int}{n:Nat}{k:Int}(h:vG l n) (k0:0≤k) (k1:k<(l.length:Int)):0≤gi l k∧gi l k<(n:Int):=h _ (nC (by omega) k1)
theorem RY {l:List Int}{a b a' b':Int}(h:kU lt l a b) (h1:a≤a') (h2:b'≤b):kU lt l a' b':=fun x y x0 xy y1=>h x y (by omega) xy (by omega)
def blk (lt:Int→Int→Bool) (l:List Int) (bs n:Int):Prop:=∀x y:Int,0≤x→x<y→y<n→x / bs=y / bs→lt (gi l y) (gi l x)=false
def mrI (lt:Int→Int→Bool) (l:List Int) (bs a n:Int):Prop:=blk lt l (2*bs) a∧∀x y:Int,a≤x→x<y→y<n→x / bs=y / bs→lt (gi l y) (gi l x)=false
abbrev bsP (bs:Int):Prop:=bs=20∨bs=40∨bs=80
theorem ayk {l:List Int}{bs n:Int}(h:blk lt l bs n):mrI lt l bs 0 n:=⟨fun x y x0 xy y1=>by omega,fun x y x0 xy y1 e=>h x y x0 xy y1 e⟩
theorem apG {l:List Int}{bs a n b:Int}(hb:bsP bs) (_:0≤a) (ha:a%(2*bs)=0) (hn:b≤n) (h1:b≤a+bs) (h:mrI lt l bs a n):kU lt l a b:=fun x y x0 xy y1=>h.2 x y x0 xy (by omega) (by
 rcases hb with rfl|rfl|rfl<;>omega)
theorem apF {l:List Int}{bs a n b:Int}(hb:bsP bs) (_:0≤a) (ha:a%(2*bs)=0) (hn:b≤n) (h1:b≤a+2*bs) (h:mrI lt l bs a n):kU lt l (a+bs) b:=fun x y x0 xy y1=>h.2 x y (by rcases hb with rfl|rfl|rfl<;>omega) xy (by omega) (by
 rcases hb with rfl|rfl|rfl<;>omega)
theorem ahg (O:zK lt) {l:List Int}{bs a n b:Int}(hb:bsP bs) (h0:0≤a) (ha:a%(2*bs)=0) (hn:b≤n) (hl:n≤(l.length:Int)) (h1:b=a+2*bs) (h:mrI lt l bs a n):mrI lt (fK lt l a b) bs b n:=by
 have hab:a≤b:=by rcases hb with rfl|rfl|rfl<;>omega
 refine ⟨fun x y x0 xy y1 e=>?_,fun x y x0 xy y1 e=>?_⟩
 ·by_cases c:y<a
  ·rw [iV h0 hab (by omega) (by omega) (by omega),iV h0 hab (by omega) (by omega) (by omega)]
   exact h.1 x y x0 xy c e
  ·refine xR O h0 hab (by omega) x y ?_ xy y1
   rcases hb with rfl|rfl|rfl<;>omega
 ·rw [iV h0 hab (by omega) (by omega) (by omega),iV h0 hab (by omega) (by omega) (by omega)]
  exact h.2 x y (by omega) xy y1 e
theorem ahi {l:List Int}{bs a n:Int}(hb:bsP bs) (_:0≤a) (ha:a%(2*bs)=0) (h1:n≤a+bs) (h:mrI lt l bs a n):blk lt l (2*bs) n:=fun x y x0 xy y1 e=>by
 by_cases c:y<a
 ·exact h.1 x y x0 xy c e
 ·refine h.2 x y ?_ xy y1 ?_<;>rcases hb with rfl|rfl|rfl<;>omega
theorem ahh (O:zK lt) {l:List Int}{bs a n:Int}(hb:bsP bs) (h0:0≤a) (ha:a%(2*bs)=0) (h1:n<a+2*bs) (han:a≤n) (hl:n≤(l.length:Int)) (h:mrI lt l bs a n):blk lt (fK lt l a n) (2*bs) n:=fun x y x0 xy y1 e=>by
 by_cases c:y<a
 ·rw [iV h0 han hl (by omega) (by omega),iV h0 han hl (by omega) (by omega)]
  exact h.1 x y x0 xy c e
 ·refine xR O h0 han hl x y ?_ xy y1
  rcases hb with rfl|rfl|rfl<;>omega
theorem aoF {l:List Int}{bs n:Int}(hb:bsP bs∨bs=160) (h1:n≤bs) (h:blk lt l bs n):kU lt l 0 n:=fun x y x0 xy y1=>h x y x0 xy y1 (by
 rcases hb with (rfl|rfl|rfl) |rfl<;>omega)
theorem aiW (O:zK lt) {l:List Int}{a b:Int}(h0:0≤a) (ha:a%20=0) (hab:a≤b) (h1:b≤a+20) (hl:b≤(l.length:Int)) (h:blk lt l 20 a):blk lt (fK lt l a b) 20 b:=fun x y x0 xy y1 e=>by
 by_cases c:y<a
 ·rw [iV h0 hab hl (by omega) (by omega),iV h0 hab hl (by omega) (by omega)]
  exact h x y x0 xy c e
 ·exact xR O h0 hab hl x y (by omega) xy y1
theorem hlf {x:Int}(h0:0≤x) (h1:x≤1000000000):IntKind.i64.wrap ((IntKind.u64.wrap (IntKind.i64.wrap x)).fdiv (2^1))=x / 2:=by
 have hu:IntKind.u64.wrap x=x:=by simp [IntKind.wrap,IntKind.bits,IntKind.signed];omega
 rw [aF (x:=x) (by omega) (by omega),hu,Int.fdiv_eq_ediv_of_nonneg _ (by decide)]
 exact aF (by omega) (by omega)
def bsF (F:Int→Bool):Nat→Int→Int→Int
 |0,i,_=>i
 |k+1,i,j=>if i<j then (if F ((i+j) / 2)=true then bsF F k ((i+j) / 2+1) j else bsF F k i ((i+j) / 2)) else i
def wE (F:Int→Bool) (i j:Int):Int:=bsF F (j-i).toNat i j
theorem Jb {F:Int→Bool}:∀(k k':Nat) (i j:Int),(j-i).toNat≤k→(j-i).toNat≤k'→bsF F k i j=bsF F k' i j
 |0,0,_,_,_,_=>rfl
 |0,k'+1,i,j,h,_=>by
  rw [bsF,bsF,if_neg (by omega)]
 |k+1,0,i,j,_,h=>by
  rw [bsF,bsF,if_neg (by omega)]
 |k+1,k'+1,i,j,h,h'=>by
  rw [bsF,bsF]
  by_cases c:i<j
  ·rw [if_pos c,if_pos c,Jb k k' ((i+j) / 2+1) j (by omega) (by omega),Jb k k' i ((i+j) / 2) (by omega) (by omega)]
  ·rw [if_neg c,if_neg c]
theorem qP {F:Int→Bool}{i j:Int}(c:i<j):wE F i j=if F ((i+j) / 2)=true then wE F ((i+j) / 2+1) j else wE F i ((i+j) / 2):=by
 unfold wE
 rw [Jb (j-i).toNat ((j-i-1).toNat+1) i j (Nat.le_refl _) (by omega),bsF,if_pos c,Jb (j-i-1).toNat (j-((i+j) / 2+1)).toNat ((i+j) / 2+1) j (by omega) (Nat.le_refl _),Jb (j-i-1).toNat ((i+j) / 2-i).toNat i ((i+j) / 2) (by omega) (Nat.le_refl _)]
theorem Gj {F:Int→Bool}{i j:Int}(c:¬i<j):wE F i j=i:=by
 unfold wE
 rw [show (j-i).toNat=0 by omega,bsF]
theorem uo {F:Int→Bool}:∀(n:Nat) {i j:Int},(j-i).toNat≤n→i≤j→(i≤wE F i j∧wE F i j≤j)∧(wE F i j=i∨F (wE F i j-1)=true)∧(wE F i j=j∨F (wE F i j)=false)
 | n, i,j,h,hij=>by
  by_cases c:i<j
  ·match n,h with
   |0,h=>omega
   | n+1,h=>
    rw [qP c]
    by_cases f:F ((i+j) / 2)=true
    ·rw [if_pos f]
     obtain ⟨h1,h2,h3⟩:=uo n (F:=F) (i:=(i+j) / 2+1) (j:=j) (by omega) (by omega)
     refine ⟨by omega,?_,h3⟩
     rcases h2 with h2|h2
     ·right
      rw [h2,show (i+j) / 2+1-1=(i+j) / 2 by omega]
      exact f
     ·exact .inr h2
    ·rw [if_neg f]
     obtain ⟨h1,h2,h3⟩:=uo n (F:=F) (i:=i) (j:=(i+j) / 2) (by omega) (by omega)
     refine ⟨by omega,h2,?_⟩
     rcases h3 with h3|h3
     ·right
      rw [h3]
      simpa using f
     ·exact .inr h3
  ·rw [Gj c]
   exact ⟨by omega,.inl rfl,.inl (by omega)⟩
theorem adG (O:zJ lt) {l:List Int}(h:kU lt l 0 (l.length:Int)):sortB lt l=l:=by
 have h2:=aff (Int.le_refl 0) (by omega) (Int.le_refl _) h
 have e:seg l 0 (l.length:Int)=l:=by
  unfold seg
  simp
 rw [e] at h2
 exact (GU O (List.Perm.refl l) h2).symm
end
end Go.Proofs.YtlihnbimgclogaaGreatDoor
namespace Go.Proofs.YtlihnbimgclogaaGreatDoor
open Go.Sx
def XO:Nat→Int
 |0=>1
 |1=>1
 |2=>1
 |3=>0
 |4=>2
 |5=>2
 |_=>3
def aT:dB:=fun
 |0=>some (8,fun j=> .int .i64 (XO j))
 |_=>none
end Go.Proofs.YtlihnbimgclogaaGreatDoor
namespace Go.Proofs.YtlihnbimgclogaaGreatDoor
open Go.Sx
def UK:List LV→T LV
 | [.v (.int .i64 _)]=> .ok (.v (.bool false))
 |_=> .no
noncomputable def Ql:List LV→T LV:=jR Tryz.prog Tryz.f85.params.toList UK
noncomputable def TG:Specs:=bn []
theorem aaV:∀g S,TG g=some S→Valid Tryz.prog aT g S:=aX (l:=[]) trivial
theorem ag7 (x:Int):eX Tryz.prog aT (TG) iU aB Tryz.f85 [.v (.int .i64 x)]=.ok (.v (.bool (x !=x))):=by kernel_rfl
theorem akC:Valid Tryz.prog aT 85 Ql:=aJ Tryz.func85 rfl aaV aC (bF (by kernel_rfl)) (fun args lv h=>by
 unfold UK at h
 split at h
 ·simp only [canL,canX]
  rw [ag7]
  obtain rfl:=h
  exact congrArg (fun z=>LV.v (.bool z)) (by simp)
 ·cases h)
def ac3:List LV→T LV
 | [.v (.int .i64 x),.v (.int .i64 y)]=> .ok (.v (.int .i64 (cm x y)))
 |_=> .no
noncomputable def YZ:List LV→T LV:=jR Tryz.prog Tryz.f47.params.toList ac3
noncomputable def aqp:Specs:=bn [(85,Ql)]
theorem ayZ:∀g S,aqp g=some S→Valid Tryz.prog aT g S:=aX (l:=[(85,Ql)]) ⟨akC,trivial⟩
theorem am9 (x y:Int):eX Tryz.prog aT (aqp) iU aB Tryz.f47 [.v (.int .i64 x),.v (.int .i64 y)]=.br false (.br false (.ok (.v (.int .i64 0))) (.ok (.v (.int .i64 (-1))))) (.br false (.ok (.v (.int .i64 1))) (.br (decide (x<y)) (.ok (.v (.int .i64 (-1)))) (.br (decide (x>y)) (.ok (.v (.int .i64 1))) (.ok (.v (.int .i64 0)))))):=by kernel_rfl
theorem ar1:Valid Tryz.prog aT 47 YZ:=aJ Tryz.func47 rfl ayZ aC (bF (by kernel_rfl)) (fun args lv h=>by
 unfold ac3 at h
 split at h
 ·simp only [canL,canX]
  rw [am9]
  obtain rfl:=h
  unfold cm
  refine ⟨fun h=>(by cases h),fun _=>⟨fun h=>(by cases h),fun _=>⟨fun c=>?_,fun c=>⟨fun c2=>?_,fun c2=>?_⟩⟩⟩⟩<;>refine congrArg (fun z=>LV.v (.int .i64 z)) ?_
  ·rw [if_pos (by simpa using c)]
  ·rw [if_neg (by simpa using c),if_pos (by simpa using c2)]
  ·rw [if_neg (by simpa using c),if_neg (by simpa using c2)]
 ·cases h)
structure nK where
 r:Int
 z:Int
 l:List Int
 n:Int
 i:Int
def aBp (s:nK):List LV:=[.v (.int .i64 s.r),.v (.int .i64 s.z),.xl (.int .i64) s.l,.v (.int .i64 s.n),.v (.int .i64 s.i)]
def aAB (_:nK):List aS:=[]
noncomputable def Cc:Code:=((ay (Tryz.f46.body.getD .skip))[0]?).getD .skip
def Ri (s:nK):T (Rd nK):=
 .br (decide (s.i<s.n)) (.req (0≤s.i∧s.i<(List.length s.l:Int)) (.br ((gi s.l s.i) !=s.z) (.ok (.stop (.ret) {s with r:=(gi s.l s.i)})) (.ok (.next {s with i:=(IntKind.i64.wrap (s.i+1))})))) (.ok (.stop (.exit 0) s))
abbrev abv (s:nK):=(Ri s).rd s
def adA (s:nK):Prop:=s.i=0∧s.n=(List.length s.l:Int)∧s.n≤1000∧s.z=0
def U2 (s:nK):Prop:=(0≤s.i∧s.i≤s.n)∧s.n=(List.length s.l:Int)∧s.n≤1000∧s.z=0
def O4 (s:nK):Nat:=(s.n-s.i).toNat
def aq5 (_:Ex) (_ _:nK):Prop:=True
theorem azq:∀s,adA s→U2 s:=by
 intro s h
 obtain ⟨h0,h2,h3,h4⟩:=h
 exact ⟨by omega,h2,h3,h4⟩
theorem avr (s:nK) (hI:U2 s):bY (fun s'=>U2 s'∧O4 s'<O4 s) (fun x s'=>aq5 x s s') (abv s):=by
 unfold abv Ri
 dsimp only [T.rd,T.rl]
 obtain ⟨⟨h0,h1⟩,h2,h3,h4⟩:=hI
 refine ai (fun c1=>?_) (fun c1=>?_)
 ·refine ai (fun c2=>?_) (fun c2=>?_)
  ·exact trivial
  ·have c1:s.i<s.n:=by simpa using c1
   rw [aF (x:=s.i+1) (by omega) (by omega)]
   exact ⟨⟨⟨by simp only;omega,by simp only;omega⟩,h2,h3,h4⟩,by simp only [O4];omega⟩
 ·exact trivial
def Fj:dn nK:=⟨0,18,[2,3,6,7,8],[],aBp,aAB,fun v _=>⟨gI (v.getD 0 .junk),gI (v.getD 1 .junk),bf (.int .i64) (v.getD 2 .junk),gI (v.getD 3 .junk),gI (v.getD 4 .junk)⟩,Ri,fun s r=> {r with z:=s.z,l:=s.l,n:=s.n},fun s=>s,fun _ s=>s,[.ret,.exit 0],adA,U2,O4⟩
abbrev aaf:=Fj.run
abbrev abP:=Fj.lU
abbrev awy:=Fj.q
theorem att (s:nK) (hI:U2 s):(Ri s).all (fun _=>True):=by
 refine ⟨fun c1=>⟨?_,fun _=>trivial,fun _=>trivial⟩,fun _=>trivial⟩
 ·(obtain ⟨⟨h0,h1⟩,h2,h3⟩:=hI;simp only [decide_eq_true_eq] at c1;omega)
theorem agS:Fj.Ok:=⟨fun s=>by kernel_rfl,fun s=>by kernel_rfl,fun s=>rfl,fun s t r=>rfl,fun s=>rfl,fun s=>by kernel_rfl⟩
theorem af4:Fj.Pf (aq5):=⟨azq,fun _ _=>rfl,avr,att⟩
theorem alC:bG Tryz.prog aT (AN 0) (.loop Cc) Fj.lp:=dn.snd agS af4 (bI (Γ:=TG) (K:=iU) (L:=aB) aaV aC Cc (fun b hb=>by rw [show ay Cc=[] by kernel_rfl] at hb;cases hb)) (fun s=>by kernel_rfl)
theorem aow (s:nK) (hE:adA s):(fun (x:Ex) (s':nK) (v:Int)=>(x=.ret∧s'.r=v)∨(x=.exit 0∧s'.z=v)) (abP s) (aaf s) ((fun s:nK=>orI (s.l.drop s.i.toNat)) s):=by
 exact dn.rC agS af4 (fun s:nK=>orI (s.l.drop s.i.toNat)) (fun x s' v=>(x=.ret∧s'.r=v)∨(x=.exit 0∧s'.z=v)) (fun s hI=>by
  show bY _ _ (abv s)
  unfold abv Ri
  dsimp only [T.rd,T.rl]
  obtain ⟨⟨h0,h1⟩,h2,h3,h4⟩:=hI
  refine ai (fun c1=>?_) (fun c1=>?_)
  ·have c1:s.i<s.n:=by simpa using c1
   have e:s.l.drop s.i.toNat=gi s.l s.i::s.l.drop (s.i+1).toNat:=(gi_step h0 (show s.i<(List.length s.l:Int) by omega)).1
   rw [aF (x:=s.i+1) (by omega) (by omega)]
   refine ai (fun c2=>?_) (fun c2=>?_)
   ·refine .inl ⟨rfl,?_⟩
    simp only
    rw [e,orI,if_pos (by rw [h4] at c2;exact c2)]
   ·show orI _=orI _
    simp only
    rw [e,orI,if_neg (by rw [h4] at c2;rw [c2];simp)]
  ·have c1:s.n≤s.i:=by simpa using c1
   refine .inr ⟨rfl,?_⟩
   rw [List.drop_eq_nil_of_le (by omega),h4]
   rfl) s hE
def ac4:List LV→T LV
 | [.xl (.int .i64) l]=> .req ((List.length l:Int)≤1000) (.ok (.v (.int .i64 (orI l))))
 |_=> .no
noncomputable def Y0:List LV→T LV:=jR Tryz.prog Tryz.f46.params.toList ac4
theorem ana (l:List Int):eX Tryz.prog aT (TG) iU (fun i=>if i=3 then Fj.lp else aB i) Tryz.f46 [.xl (.int .i64) l]=.req (awy (⟨(0:Int),(0:Int),l,(List.length l:Int),(0:Int)⟩:nK)) (.br (lH (abP (⟨(0:Int),(0:Int),l,(List.length l:Int),(0:Int)⟩:nK)) (.ret)) (.ok (.v (.int .i64 (aaf (⟨(0:Int),(0:Int),l,(List.length l:Int),(0:Int)⟩:nK)).r))) (.ok (.v (.int .i64 (0:Int))))):=by kernel_rfl
theorem ar2:Valid Tryz.prog aT 46 Y0:=aJ Tryz.func46 rfl aaV aC (L:=(fun i=>if i=3 then Fj.lp else aB i)) (fun b hb=>by
 rw [show ay _=[Cc] by kernel_rfl] at hb
 simp only [List.mem_cons,List.not_mem_nil,or_false] at hb
 subst hb
 exact alC) (fun args lv h=>by
 unfold ac4 at h
 split at h
 ·simp only [canL,canX]
  rw [ana]
  rename_i l
  obtain ⟨hl,rfl⟩:=h
  have hE:adA ⟨0,0,l,(List.length l:Int),0⟩:=⟨rfl,rfl,hl,rfl⟩
  refine ⟨⟨hE,rfl,rfl⟩,?_⟩
  rcases aow _ hE with ⟨q1,q2⟩ |⟨q1,q2⟩<;>rw [q1]
  ·exact ⟨fun _=>congrArg (fun z=>LV.v (.int .i64 z)) q2,fun h=>by cases h⟩
  ·exact ⟨fun h=>(by cases h),fun _=>congrArg (fun z=>LV.v (.int .i64 z)) q2⟩
 ·cases h)
def acs:List LV→T LV
 | [.v (.int .i64 i),.xq 1 q0,.xq 1 q1]=>(match ([q0 0]:List LV) with
  | [.xl (.pair .bool (.pair (.int .i64) (.pair (.int .i64) (.int .i64)))) d]=>(match ([q1 0]:List LV) with
  | [.v (.int .i64 t)]=> .req (kL d t∧0≤i∧i<(List.length d:Int)) (.ok (.v (.int .i64 (NW d t i))))
  |_=> .no)
  |_=> .no)
 |_=> .no
noncomputable def kE:List LV→T LV:=jR Tryz.prog Tryz.f43.params.toList acs
theorem amv (i:Int) (d:List Dm) (t:Int):eX Tryz.prog aT (TG) iU aB Tryz.f43 [.v (.int .i64 i),.xq 1 (fun j=>([.xl jc d]:List LV).getD j .junk),.xq 1 (fun j=>([.v (.int .i64 t)]:List LV).getD j .junk)]=.req (0≤i∧i<(List.length d:Int)) (.req (0≤i∧i<(List.length d:Int)) (.ok (.v (.int .i64 (IntKind.i64.wrap ((IntKind.i64.wrap ((jw d i).2.2.1-t))-(jw d i).2.1)))))):=by kernel_rfl
theorem wH:Valid Tryz.prog aT 43 kE:=aJ Tryz.func43 rfl aaV aC (bF (by kernel_rfl)) (fun args lv h=>by
 unfold acs at h
 split at h
 ·split at h
  case h_2=>cases h
  rename_i heq0
  split at h
  case h_2=>cases h
  rename_i heq1
  simp only [canL,canX]
  rw [pI (n:=1) heq0]
  simp only [canL,canX]
  rw [pI (n:=1) heq1]
  simp only [canL,canX]
  rw [amv]
  rename_i i _ _ _ d _ t
  obtain ⟨⟨hw,hi⟩,rfl⟩:=h
  have b:=y5 hw hi.1 hi.2
  have ht:=hw.2
  refine ⟨hi,hi,congrArg (fun z=>LV.v (.int .i64 z)) ?_⟩
  unfold NW
  rw [aF (x:=(jw d i).2.2.1-t) (by omega) (by omega),aF (by omega) (by omega)]
 ·cases h)
def ajq:List LV→T LV
 | [.v (.int .i64 a),.v (.int .i64 b),.xq 1 q0,.xq 1 q1]=>(match ([q0 0]:List LV) with
  | [.xl (.pair .bool (.pair (.int .i64) (.pair (.int .i64) (.int .i64)))) d]=>(match ([q1 0]:List LV) with
  | [.fn 43 [.xq 1 q2,.xq 1 q3]]=>(match ([q2 0]:List LV) with
  | [.xl (.pair .bool (.pair (.int .i64) (.pair (.int .i64) (.int .i64)))) e]=>(match ([q3 0]:List LV) with
  | [.v (.int .i64 t)]=> .req (d=e∧kL d t∧(0≤a∧a<(List.length d:Int))∧0≤b∧b<(List.length d:Int)) (.ok (.v (.int .i64 (cmD d t a b))))
  |_=> .no)
  |_=> .no)
  |_=> .no)
  |_=> .no)
 |_=> .no
noncomputable def qU:List LV→T LV:=jR Tryz.prog Tryz.f45.params.toList ajq
noncomputable def aqo:Specs:=bn [(43,kE),(46,Y0),(47,YZ)]
theorem ayY:∀g S,aqo g=some S→Valid Tryz.prog aT g S:=aX (l:=[(43,kE),(46,Y0),(47,YZ)]) ⟨wH,ar2,ar1,trivial⟩
theorem aug (a b:Int) (d e:List Dm) (t:Int):eX Tryz.prog aT (aqo) iU aB Tryz.f45 [.v (.int .i64 a),.v (.int .i64 b),.xq 1 (fun j=>([.xl jc d]:List LV).getD j .junk),.xq 1 (fun j=>([.fn 43 [.xq 1 (fun j=>([.xl jc e]:List LV).getD j .junk),.xq 1 (fun j=>([.v (.int .i64 t)]:List LV).getD j .junk)]]:List LV).getD j .junk)]=.req (0≤a∧a<(List.length d:Int)) (.req (0≤b∧b<(List.length d:Int)) (.req (kL e t∧0≤a∧a<(List.length e:Int)) (.req (kL e t∧0≤b∧b<(List.length e:Int)) (.req ((List.length ([(cm (jw d a).2.2.2 (jw d b).2.2.2),(cm (NW e t a) (NW e t b)),(cm a b)]):Int)≤1000) (.ok (.v (.int .i64 (orI ([(cm (jw d a).2.2.2 (jw d b).2.2.2),(cm (NW e t a) (NW e t b)),(cm a b)]))))))))):=by kernel_rfl
theorem Gw:Valid Tryz.prog aT 45 qU:=aJ Tryz.func45 rfl ayY aC (bF (by kernel_rfl)) (fun args lv h=>by
 unfold ajq at h
 split at h
 ·split at h
  case h_2=>cases h
  rename_i heq0
  split at h
  case h_2=>cases h
  rename_i heq1
  split at h
  case h_2=>cases h
  rename_i heq2
  split at h
  case h_2=>cases h
  rename_i heq3
  simp only [canL,canX]
  rw [pI (n:=1) heq0]
  simp only [canL,canX]
  rw [pI (n:=1) heq1]
  simp only [canL,canX]
  rw [pI (n:=1) heq2]
  simp only [canL,canX]
  rw [pI (n:=1) heq3]
  simp only [canL,canX]
  rw [aug]
  rename_i a b _ d _ _ _ _ e _ t
  obtain ⟨⟨rfl,hw,ha,hb⟩,rfl⟩:=h
  exact ⟨ha,hb,⟨hw,ha⟩,⟨hw,hb⟩,by simp,rfl⟩
 ·cases h)
structure qX where
 n:Int
 i:Int
 d:List Dm
 tick:Int
 out:List Int
def aAW (s:qX):List LV:=[.own 0 0,.own 1 0,.os 2 1 0 (List.length s.out),.v (.int .i64 s.n),.v (.int .i64 s.i)]
def az9 (s:qX):List aS:=[⟨[.xl jc s.d],31,.cl,false⟩,⟨[.v (.int .i64 s.tick)],3,.cl,false⟩,⟨[],3,.vec (.int .i64) s.out,false⟩]
noncomputable def xA:Code:=((ay (Tryz.f19.body.getD .skip))[0]?).getD .skip
def Zv (s:qX):T (Rd qX):=
 .br (decide (s.i<s.n)) (.req (0≤s.i∧s.i<((List.length s.out:Nat):Int)) (.req (s.i.toNat<List.length s.out) (.req (0=0∧(List.length s.out)=List.length (s.out.set s.i.toNat s.i)) (.ok (.next {s with i:=(IntKind.i64.wrap (s.i+1)),out:=(s.out.set s.i.toNat s.i)}))))) (.rl s.out (.ok (.stop (.exit 0) s)))
abbrev aqD (s:qX):=(Zv s).rd s
def U9 (s:qX):Prop:=s.i=0∧s.out=List.replicate s.d.length 0∧s.n=(List.length s.d:Int)∧s.n≤1000∧s.out.length=s.d.length
def MI (s:qX):Prop:=(0≤s.i∧s.i≤s.n)∧s.out=yJ s.i.toNat++List.replicate (s.d.length-s.i.toNat) 0∧s.n=(List.length s.d:Int)∧s.n≤1000∧s.out.length=s.d.length
def OB (s:qX):Nat:=(s.n-s.i).toNat
def ajD (x:Ex) (_ s':qX):Prop:=x=.exit 0∧s'.out=yJ s'.d.length
theorem ax9:∀s,U9 s→MI s:=by
 intro s h
 obtain ⟨h0,h1,h2⟩:=h
 exact ⟨by omega,by rw [h0,h1];rfl,h2⟩
theorem atO (s:qX) (hI:MI s):bY (fun s'=>MI s'∧OB s'<OB s) (fun x s'=>ajD x s s') (aqD s):=by
 unfold aqD Zv
 dsimp only [T.rd,T.rl]
 obtain ⟨⟨h0,h1⟩,h2,h3,h4,h5⟩:=hI
 refine ai (fun c1=>?_) (fun c1=>?_)
 ·have c1:s.i<s.n:=by simpa using c1
  rw [aF (x:=s.i+1) (by omega) (by omega)]
  have e:s.d.length-s.i.toNat=(s.d.length-(s.i+1).toNat)+1:=by omega
  refine ⟨⟨⟨by simp only;omega,by simp only;omega⟩,?_,h3,h4,by simp only [List.length_set];exact h5⟩,by simp only [OB];omega⟩
  simp only
  have hs:=ZX (xs:=yJ s.i.toNat) (r:=s.d.length-(s.i+1).toNat) (v:=s.i)
  rw [oO] at hs
  rw [h2,e,hs,show (s.i+1).toNat=s.i.toNat+1 by omega,adI,Int.toNat_of_nonneg h0]
 ·have c1:s.n≤s.i:=by simpa using c1
  refine ⟨rfl,?_⟩
  rw [h2,show s.i.toNat=s.d.length by omega]
  simp
def yX:dn qX:=⟨0,26,[2,3,5,12,13],[],aAW,az9,fun v b=>⟨gI (v.getD 3 .junk),gI (v.getD 4 .junk),bf jc (bC (aV b 0) 0),gI (bC (aV b 1) 0),jm (.int .i64) (aV b 2)⟩,Zv,fun s r=> {r with n:=s.n,d:=s.d,tick:=s.tick},fun s=>s,fun _ s=>s,[.exit 0],U9,MI,OB⟩
abbrev dJ:=yX.run
abbrev anZ:=yX.lU
abbrev akl:=yX.q
theorem asX (s:qX) (hI:MI s):(Zv s).all (fun _=>True):=by
 refine ⟨fun c1=>⟨?_,?_,?_,trivial⟩,fun c1=>⟨⟨rfl,rfl⟩,trivial⟩⟩
 all_goals ((obtain ⟨⟨h0,h1⟩,h2,h3,h4,h5⟩:=hI;simp only [decide_eq_true_eq] at c1;first|omega|exact ⟨rfl,by simp⟩))
noncomputable def xg:Specs:=bn [(43,kE),(45,qU)]
theorem yS:∀g S,xg g=some S→Valid Tryz.prog aT g S:=aX (l:=[(43,kE),(45,qU)]) ⟨wH,Gw,trivial⟩
noncomputable def Tz:Hand:=inl Tryz.prog aT xg (jo Tryz.prog aT (xg) 20 2) 9
theorem aaO:cO Tryz.prog aT Tz:=bJ yS (dw yS) 9
theorem agB:yX.Ok:=⟨fun s=>by kernel_rfl,fun s=>by kernel_rfl,fun s=>rfl,fun s t r=>rfl,fun s=>rfl,fun s=>by kernel_rfl⟩
theorem afL:yX.Pf (ajD):=⟨ax9,fun _ _=>rfl,atO,asX⟩
theorem ZT:bG Tryz.prog aT (AN 0) (.loop xA) yX.lp:=dn.snd agB afL (bI (Γ:=xg) (K:=Tz) (L:=aB) yS aaO xA (fun b hb=>by rw [show ay xA=[] by kernel_rfl] at hb;cases hb)) (fun s=>by kernel_rfl)
theorem aaq (s:qX) (hE:U9 s):∃s',MI s'∧ajD (anZ s) s' (dJ s):=dn.fin agB afL s hE
structure nI where
 a:Int
 b:Int
 i:Int
 j:Int
 b0:List Dm
 b1:Int
 data:List Int
def aBd (s:nI):List LV:=[.os 2 1 0 (List.length s.data),.v (.int .i64 s.a),.v (.int .i64 s.b),.fn 45 [.own 0 0,.own 3 0],.v (.int .i64 s.i),.v (.int .i64 s.j)]
def aAp (s:nI):List aS:=[⟨[.xl jc s.b0],31,.cl,false⟩,⟨[.v (.int .i64 s.b1)],3,.cl,false⟩,⟨[],3,.vec (.int .i64) s.data,false⟩,⟨[.fn 43 [.own 0 0,.own 1 0]],84,.cl,false⟩]
noncomputable def Ji:Code:=((ay (((ay (Tryz.f120.body.getD .skip))[0]?).getD .skip))[0]?).getD .skip
def Q9 (s:nI):T (Rd nI):=
 .br (decide (s.j>s.a)) (.req (0≤s.j∧s.j<((List.length s.data:Nat):Int)) (.req (s.j.toNat<List.length s.data) (.req (0≤(IntKind.i64.wrap (s.j-1))∧(IntKind.i64.wrap (s.j-1))<((List.length s.data:Nat):Int)) (.req ((IntKind.i64.wrap (s.j-1)).toNat<List.length s.data) (.req (s.b0=s.b0∧kL s.b0 s.b1∧(0≤(s.data.getD s.j.toNat (Ty.dflt (.int .i64)))∧(s.data.getD s.j.toNat (Ty.dflt (.int .i64)))<(List.length s.b0:Int))∧0≤(s.data.getD (IntKind.i64.wrap (s.j-1)).toNat (Ty.dflt (.int .i64)))∧(s.data.getD (IntKind.i64.wrap (s.j-1)).toNat (Ty.dflt (.int .i64)))<(List.length s.b0:Int)) (.br (decide ((cmD s.b0 s.b1 (s.data.getD s.j.toNat (Ty.dflt (.int .i64))) (s.data.getD (IntKind.i64.wrap (s.j-1)).toNat (Ty.dflt (.int .i64))))<0)) (.req (0≤(IntKind.i64.wrap (s.j-1))∧(IntKind.i64.wrap (s.j-1))<((List.length s.data:Nat):Int)) (.req (0≤s.j∧s.j<((List.length s.data:Nat):Int)) (.req ((IntKind.i64.wrap (s.j-1)).toNat<List.length s.data) (.req (s.j.toNat<List.length s.data) (.req (0≤s.j∧s.j<((List.length s.data:Nat):Int)) (.req (s.j.toNat<List.length s.data) (.req (0≤(IntKind.i64.wrap (s.j-1))∧(IntKind.i64.wrap (s.j-1))<((List.length s.data:Nat):Int)) (.req ((IntKind.i64.wrap (s.j-1)).toNat<List.length (s.data.set s.j.toNat (s.data.getD (IntKind.i64.wrap (s.j-1)).toNat (Ty.dflt (.int .i64))))) (.req (0=0∧(List.length s.data)=List.length ((s.data.set s.j.toNat (s.data.getD (IntKind.i64.wrap (s.j-1)).toNat (Ty.dflt (.int .i64)))).set (IntKind.i64.wrap (s.j-1)).toNat (s.data.getD s.j.toNat (Ty.dflt (.int .i64))))) (.ok (.next {s with j:=(IntKind.i64.wrap (s.j-1)),data:=((s.data.set s.j.toNat (s.data.getD (IntKind.i64.wrap (s.j-1)).toNat (Ty.dflt (.int .i64)))).set (IntKind.i64.wrap (s.j-1)).toNat (s.data.getD s.j.toNat (Ty.dflt (.int .i64))))}))))))))))) (.rl s.data (.ok (.stop (.exit 2) s))))))))) (.rl s.data (.ok (.stop (.exit 2) s)))
abbrev abr (s:nI):=(Q9 s).rd s
def adq (s:nI):Prop:=s.a=0∧(0≤s.j∧s.j<(List.length s.data:Int))∧(s.data.length=s.b0.length∧(List.length s.data:Int)≤1000)∧(∀x∈s.data,0≤x∧x<(List.length s.b0:Int))∧kL s.b0 s.b1
def U0 (s:nI):Prop:=s.a=0∧(0≤s.j∧s.j<(List.length s.data:Int))∧(s.data.length=s.b0.length∧(List.length s.data:Int)≤1000)∧(∀x∈s.data,0≤x∧x<(List.length s.b0:Int))∧kL s.b0 s.b1
def OT (s:nI):Nat:=s.j.toNat
def aq2 (x:Ex) (_ _:nI):Prop:=x=.exit 2
theorem ayx:∀s,adq s→U0 s:=by
 exact fun s h=>h
theorem auF (s:nI) (hI:U0 s):bY (fun s'=>U0 s'∧OT s'<OT s) (fun x s'=>aq2 x s s') (abr s):=by
 unfold abr Q9
 dsimp only [T.rd,T.rl]
 obtain ⟨h0,⟨h1,h2⟩,⟨h3,h3'⟩,h4,h5⟩:=hI
 refine ai (fun c1=>?_) (fun c1=>rfl)
 have c1:s.a<s.j:=by simpa using c1
 rw [aF (x:=s.j-1) (by omega) (by omega)]
 refine ai (fun c2=>?_) (fun c2=>rfl)
 have g0:=fun (k:Nat) (hk:k<s.data.length)=>h4 (s.data.getD k 0) (by simp [List.getD,hk])
 have hm:∀x∈(s.data.set s.j.toNat (s.data.getD (s.j-1).toNat 0)).set (s.j-1).toNat (s.data.getD s.j.toNat 0),0≤x∧x<(List.length s.b0:Int):=fun x hx=>by
  rcases List.mem_or_eq_of_mem_set hx with hx|e
  ·rcases List.mem_or_eq_of_mem_set hx with hx|e
   ·exact h4 x hx
   ·rw [e];exact g0 _ (by omega)
  ·rw [e];exact g0 _ (by omega)
 exact ⟨⟨h0,⟨by simp only;omega,by simp only [List.length_set];omega⟩,⟨by simp only [List.length_set];exact h3,by simp only [List.length_set];exact h3'⟩,hm,h5⟩,by simp only [OT];omega⟩
def JY:dn nI:=⟨4,53,[0,1,2,3,8,9],[],aBd,aAp,fun v b=>⟨gI (v.getD 1 .junk),gI (v.getD 2 .junk),gI (v.getD 4 .junk),gI (v.getD 5 .junk),bf jc (bC (aV b 0) 0),gI (bC (aV b 1) 0),jm (.int .i64) (aV b 2)⟩,Q9,fun s r=> {r with a:=s.a,b:=s.b,i:=s.i,b0:=s.b0,b1:=s.b1},fun s=>s,fun _ s=>s,[.exit 2],adq,U0,OT⟩
abbrev Ae:=JY.run
abbrev an8:=JY.lU
abbrev awn:=JY.q
theorem ate (s:nI) (hI:U0 s):(Q9 s).all (fun _=>True):=by
 refine ⟨fun c1=>⟨?_,?_,?_,?_,?_,fun c2=>⟨?_,?_,?_,?_,?_,?_,?_,?_,?_,trivial⟩,fun c2=>⟨⟨rfl,rfl⟩,trivial⟩⟩,fun c1=>⟨⟨rfl,rfl⟩,trivial⟩⟩
 all_goals ((obtain ⟨h0,⟨h1,h2⟩,⟨h3,h3'⟩,h4,h5⟩:=hI;simp only [decide_eq_true_eq,gt_iff_lt] at c1;(try rw [aF (x:=s.j-1) (by omega) (by omega)]);have g0:∀k:Nat,k<s.data.length→0≤s.data.getD k (Ty.dflt (.int .i64))∧s.data.getD k (Ty.dflt (.int .i64))<(List.length s.b0:Int):=(fun k hk=>h4 _ (by simp [List.getD,hk]));first|omega|exact ⟨rfl,h5,g0 _ (by omega),g0 _ (by omega)⟩ |(simp only [List.length_set];omega) |exact ⟨rfl,by simp⟩))
theorem agH:JY.Ok:=⟨fun s=>by kernel_rfl,fun s=>by kernel_rfl,fun s=>rfl,fun s t r=>rfl,fun s=>rfl,fun s=>by kernel_rfl⟩
theorem afR:JY.Pf (aq2):=⟨ayx,fun _ _=>rfl,auF,ate⟩
theorem alq:bG Tryz.prog aT (AN 4) (.loop Ji) JY.lp:=dn.snd agH afR (aZ (Γ:=xg) (K:=Tz) (L:=(mP Tryz.prog aT xg Tz 20 2)) yS aaO Ji (fun b _=>cu yS aaO 20 2 b)) (fun s=>by kernel_rfl)
theorem aaI (s:nI) (hE:adq s):(fun (x:Ex) (s':nI) (v:List Int)=>x=.exit 2∧s'.data=v) (an8 s) (Ae s) ((fun s:nI=>bub (ltD s.b0 s.b1) s.j.toNat s.data) s):=by
 exact dn.rC agH afR (fun s:nI=>bub (ltD s.b0 s.b1) s.j.toNat s.data) (fun x s' v=>x=.exit 2∧s'.data=v) (fun s hI=>by
  show bY _ _ (abr s)
  unfold abr Q9
  dsimp only [T.rd,T.rl]
  obtain ⟨h0,⟨h1,h2⟩,⟨h3,h3'⟩,h4,h5⟩:=hI
  refine ai (fun c1=>?_) (fun c1=>?_)
  ·have c1:s.a<s.j:=by simpa using c1
   rw [aF (x:=s.j-1) (by omega) (by omega)]
   have e:s.j.toNat=(s.j-1).toNat+1:=by omega
   refine ai (fun c2=>?_) (fun c2=>?_)
   ·show bub _ _ _=bub _ _ _
    simp only
    rw [e,bub,if_pos (by unfold ltD;rw [e] at c2;exact c2)]
    rfl
   ·refine ⟨rfl,?_⟩
    rw [e] at c2
    rw [e,bub,if_neg (fun hh=>absurd ((show true=_ from hh.symm).trans c2) (by decide))]
  ·have c1:s.j≤s.a:=by simpa using c1
   refine ⟨rfl,?_⟩
   rw [show s.j.toNat=0 by omega]
   rfl) s hE
structure kY where
 a:Int
 b:Int
 i:Int
 b0:List Dm
 b1:Int
 data:List Int
def aBe (s:kY):List LV:=[.os 2 1 0 (List.length s.data),.v (.int .i64 s.a),.v (.int .i64 s.b),.fn 45 [.own 0 0,.own 3 0],.v (.int .i64 s.i)]
def aAq (s:kY):List aS:=[⟨[.xl jc s.b0],31,.cl,false⟩,⟨[.v (.int .i64 s.b1)],3,.cl,false⟩,⟨[],3,.vec (.int .i64) s.data,false⟩,⟨[.fn 43 [.own 0 0,.own 1 0]],84,.cl,false⟩]
noncomputable def Un:Code:=((ay (Tryz.f120.body.getD .skip))[0]?).getD .skip
def Rf (s:kY):T (Rd kY):=
 .br (decide (s.i<s.b)) (.rl s.data (.req (awn (⟨s.a,s.b,s.i,s.i,s.b0,s.b1,s.data⟩:nI)) (.rl (Ae (⟨s.a,s.b,s.i,s.i,s.b0,s.b1,s.data⟩:nI)).data (.ok (.next {s with i:=(IntKind.i64.wrap (s.i+1)),data:=(Ae (⟨s.a,s.b,s.i,s.i,s.b0,s.b1,s.data⟩:nI)).data}))))) (.rl s.data (.ok (.stop (.exit 0) s)))
abbrev abt (s:kY):=(Rf s).rd s
def adr (s:kY):Prop:=s.i=1∧(s.a=0∧s.b=(List.length s.data:Int))∧(s.data.length=s.b0.length∧(List.length s.data:Int)≤1000)∧(∀x∈s.data,0≤x∧x<(List.length s.b0:Int))∧kL s.b0 s.b1
def MZ (s:kY):Prop:=1≤s.i∧(s.a=0∧s.b=(List.length s.data:Int))∧(s.data.length=s.b0.length∧(List.length s.data:Int)≤1000)∧(∀x∈s.data,0≤x∧x<(List.length s.b0:Int))∧kL s.b0 s.b1
def OU (s:kY):Nat:=(s.b-s.i).toNat
def aq3 (x:Ex) (_ _:kY):Prop:=x=.exit 0
theorem ayy:∀s,adr s→MZ s:=by
 intro s h
 obtain ⟨h0,h1⟩:=h
 exact ⟨by omega,h1⟩
theorem XA (s:kY) (hI:MZ s) (c1:s.i<s.b):adq ⟨s.a,s.b,s.i,s.i,s.b0,s.b1,s.data⟩:=by
 obtain ⟨h0,⟨h1,h2⟩,h3⟩:=hI
 exact ⟨h1,⟨by simp only;omega,by simp only;omega⟩,h3⟩
theorem auG (s:kY) (hI:MZ s):bY (fun s'=>MZ s'∧OU s'<OU s) (fun x s'=>aq3 x s s') (abt s):=by
 unfold abt Rf
 dsimp only [T.rd,T.rl]
 have hin:=fun c1=>XA s hI c1
 obtain ⟨h0,⟨h1,h2⟩,⟨h3,h3'⟩,h4,h5⟩:=hI
 refine ai (fun c1=>?_) (fun c1=>rfl)
 have c1:s.i<s.b:=by simpa using c1
 obtain ⟨q1,q2⟩:=aaI _ (hin c1)
 have q2:(Ae ⟨s.a,s.b,s.i,s.i,s.b0,s.b1,s.data⟩).data=bub (ltD s.b0 s.b1) s.i.toNat s.data:=q2
 have hp:=aiV (lt:=ltD s.b0 s.b1) (j:=s.i.toNat) (l:=s.data) (by omega)
 rw [aF (x:=s.i+1) (by omega) (by omega),q2]
 exact ⟨⟨by simp only;omega,⟨h1,by simp only [hp.length_eq];exact h2⟩,⟨by simp only [hp.length_eq];exact h3,by simp only [hp.length_eq];exact h3'⟩,fun x hx=>h4 x (hp.subset hx),h5⟩,by simp only [OU];omega⟩
def CY:dn kY:=⟨4,53,[0,1,2,3,8],[],aBe,aAq,fun v b=>⟨gI (v.getD 1 .junk),gI (v.getD 2 .junk),gI (v.getD 4 .junk),bf jc (bC (aV b 0) 0),gI (bC (aV b 1) 0),jm (.int .i64) (aV b 2)⟩,Rf,fun s r=> {r with a:=s.a,b:=s.b,b0:=s.b0,b1:=s.b1},fun s=>s,fun _ s=>s,[.exit 0],adr,MZ,OU⟩
abbrev qw:=CY.run
abbrev an9:=CY.lU
abbrev ako:=CY.q
theorem atf (s:kY) (hI:MZ s):(Rf s).all (fun _=>True):=by
 refine ⟨fun c1=>⟨⟨rfl,rfl⟩,?_,⟨rfl,rfl⟩,trivial⟩,fun c1=>⟨⟨rfl,rfl⟩,trivial⟩⟩
 ·exact ⟨XA s hI (by simpa using c1),rfl,rfl⟩
theorem agI:CY.Ok:=⟨fun s=>by kernel_rfl,fun s=>by kernel_rfl,fun s=>rfl,fun s t r=>rfl,fun s=>rfl,fun s=>by kernel_rfl⟩
theorem afS:CY.Pf (aq3):=⟨ayy,fun _ _=>rfl,auG,atf⟩
theorem NU:bG Tryz.prog aT (AN 4) (.loop Un) CY.lp:=dn.snd agI afS (aZ (Γ:=xg) (K:=Tz) (L:=(Ud (fun i=>if i=4 then JY.lp else aB i))) yS aaO Un (fun b hb=>by
 rw [show ay _=[Ji] by kernel_rfl] at hb
 simp only [List.mem_cons,List.not_mem_nil,or_false] at hb
 subst hb
 exact alq)) (fun s=>by kernel_rfl)
theorem anB (s:kY) (hE:adr s):(fun (x:Ex) (s':kY) (v:List Int)=>x=.exit 0∧s'.data=v) (an9 s) (qw s) ((fun s:kY=>vN (ltD s.b0 s.b1) s.data s.i.toNat) s):=by
 exact dn.rC agI afS (fun s:kY=>vN (ltD s.b0 s.b1) s.data s.i.toNat) (fun x s' v=>x=.exit 0∧s'.data=v) (fun s hI=>by
  show bY _ _ (abt s)
  unfold abt Rf
  dsimp only [T.rd,T.rl]
  have hin:=fun c1=>XA s hI c1
  obtain ⟨h0,⟨h1,h2⟩,⟨h3,h3'⟩,h4,h5⟩:=hI
  refine ai (fun c1=>?_) (fun c1=>?_)
  ·have c1:s.i<s.b:=by simpa using c1
   obtain ⟨q1,q2⟩:=aaI _ (hin c1)
   have q2:(Ae ⟨s.a,s.b,s.i,s.i,s.b0,s.b1,s.data⟩).data=bub (ltD s.b0 s.b1) s.i.toNat s.data:=q2
   rw [aF (x:=s.i+1) (by omega) (by omega)]
   show vN _ _ _=vN _ _ _
   simp only
   rw [q2,show (s.i+1).toNat=s.i.toNat+1 by omega,V4 (by omega)]
  ·have c1:s.b≤s.i:=by simpa using c1
   exact ⟨rfl,(adK (by omega)).symm⟩) s hE
structure nP where
 n:Int
 ax:Int
 a:Int
 b:Int
 b0:List Dm
 b1:Int
 data:List Int
def aAO (s:nP):List LV:=[.os 2 1 0 (List.length s.data),.v (.int .i64 s.n),.fn 45 [.own 0 0,.own 3 0],.v (.int .i64 s.ax),.v (.int .i64 s.a),.v (.int .i64 s.b)]
def az1 (s:nP):List aS:=[⟨[.xl jc s.b0],31,.cl,false⟩,⟨[.v (.int .i64 s.b1)],3,.cl,false⟩,⟨[],3,.vec (.int .i64) s.data,false⟩,⟨[.fn 43 [.own 0 0,.own 1 0]],84,.cl,false⟩]
noncomputable def Ui:Code:=((ay (Tryz.f84.body.getD .skip))[0]?).getD .skip
def QN (s:nP):T (Rd nP):=
 .br (decide (s.b≤s.n)) (.rl s.data (.req (ako (⟨s.a,s.b,(IntKind.i64.wrap (s.a+1)),s.b0,s.b1,s.data⟩:kY)) (.req (0=0∧(List.length s.data)=List.length (qw (⟨s.a,s.b,(IntKind.i64.wrap (s.a+1)),s.b0,s.b1,s.data⟩:kY)).data) (.ok (.next {s with a:=s.b,b:=(IntKind.i64.wrap (s.b+s.ax)),data:=(qw (⟨s.a,s.b,(IntKind.i64.wrap (s.a+1)),s.b0,s.b1,s.data⟩:kY)).data}))))) (.rl s.data (.ok (.stop (.exit 0) s)))
abbrev abb (s:nP):=(QN s).rd s
def adg (s:nP):Prop:=s.b=20∧s.n<20
def MC (s:nP):Prop:=s.b=20∧s.n<20
def Xg (_:nP):Nat:=0
def aqY (x:Ex) (_ _:nP):Prop:=x=.exit 0
theorem axu:∀s,adg s→MC s:=by
 exact fun s h=>h
theorem asn (s:nP) (hI:MC s):bY (fun s'=>MC s'∧Xg s'<Xg s) (fun x s'=>aqY x s s') (abb s):=by
 unfold abb QN
 dsimp only [T.rd,T.rl]
 obtain ⟨h0,h1⟩:=hI
 refine ai (fun c1=>absurd (show s.b≤s.n by simpa using c1) (by omega)) (fun c1=>rfl)
def EN:dn nP:=⟨4,63,[0,1,2,6,7,8],[],aAO,az1,fun v b=>⟨gI (v.getD 1 .junk),gI (v.getD 3 .junk),gI (v.getD 4 .junk),gI (v.getD 5 .junk),bf jc (bC (aV b 0) 0),gI (bC (aV b 1) 0),jm (.int .i64) (aV b 2)⟩,QN,fun s r=> {r with n:=s.n,ax:=s.ax,b0:=s.b0,b1:=s.b1},fun s=>s,fun _ s=>s,[.exit 0],adg,MC,Xg⟩
abbrev jB:=EN.run
abbrev anU:=EN.lU
abbrev av2:=EN.q
noncomputable def ahV:Hand:=inl Tryz.prog aT xg (dG 120 4 1 (CY.lp) (jo Tryz.prog aT (xg) 20 2)) 9
theorem apN:cO Tryz.prog aT ahV:=bJ yS (aP Tryz.func120 rfl (by kernel_rfl) NU (dw yS)) 9
theorem asO (s:nP) (hI:MC s):(QN s).all (fun _=>True):=by
 refine ⟨fun c1=>⟨⟨rfl,rfl⟩,?_,?_,trivial⟩,fun c1=>⟨⟨rfl,rfl⟩,trivial⟩⟩
 all_goals ((simp only [decide_eq_true_eq] at c1;exact absurd c1 (by have:=hI;unfold MC at this;omega)))
theorem agu:EN.Ok:=⟨fun s=>by kernel_rfl,fun s=>by kernel_rfl,fun s=>rfl,fun s t r=>rfl,fun s=>rfl,fun s=>by kernel_rfl⟩
theorem afE:EN.Pf (aqY):=⟨axu,fun _ _=>rfl,asn,asO⟩
theorem ZR:bG Tryz.prog aT (AN 4) (.loop Ui) EN.lp:=dn.snd agu afE (aZ (Γ:=xg) (K:=ahV) (L:=(mP Tryz.prog aT xg ahV 20 2)) yS apN Ui (fun b _=>cu yS apN 20 2 b)) (fun s=>by kernel_rfl)
theorem akU (s:nP) (hE:adg s):(fun (x:Ex) (s':nP) (v:List Int×Int)=>x=.exit 0∧(s'.data,s'.a)=v) (anU s) (jB s) ((fun s:nP=>(s.data,s.a)) s):=by
 exact dn.rC agu afE (fun s:nP=>(s.data,s.a)) (fun x s' v=>x=.exit 0∧(s'.data,s'.a)=v) (fun s hI=>by
  show bY _ _ (abb s)
  unfold abb QN
  dsimp only [T.rd,T.rl]
  obtain ⟨h0,h1⟩:=hI
  exact ai (fun c1=>absurd (show s.b≤s.n by simpa using c1) (by omega)) (fun c1=>⟨rfl,rfl⟩)) s hE
def Yx:List LV→T LV:=fun _=> .req False (.ok (.v undef))
theorem arA:Valid Tryz.prog aT 121 Yx:=by
 intro _ _ _ _ _ _ _ _ _ h
 exact h.1.elim
structure sH where
 n:Int
 ax:Int
 a:Int
 b:Int
 b0:List Dm
 b1:Int
 data:List Int
def aAM (s:sH):List LV:=[.os 2 1 0 (List.length s.data),.v (.int .i64 s.n),.fn 45 [.own 0 0,.own 3 0],.v (.int .i64 s.ax),.v (.int .i64 s.a),.v (.int .i64 s.b)]
def azZ (s:sH):List aS:=[⟨[.xl jc s.b0],31,.cl,false⟩,⟨[.v (.int .i64 s.b1)],3,.cl,false⟩,⟨[],3,.vec (.int .i64) s.data,false⟩,⟨[.fn 43 [.own 0 0,.own 1 0]],84,.cl,false⟩]
noncomputable def Jd:Code:=((ay (((ay (Tryz.f84.body.getD .skip))[1]?).getD .skip))[0]?).getD .skip
def Zp (s:sH):T (Rd sH):=
 .br (decide (s.b≤s.n)) (.req (0+(List.length s.data)≤List.length s.data) (.req False (.rl s.data (.ok (.next {s with a:=s.b,b:=(IntKind.i64.wrap (s.b+(IntKind.i64.wrap (2*s.ax))))}))))) (.rl s.data (.ok (.stop (.exit 4) s)))
abbrev aqy (s:sH):=(Zp s).rd s
def aq9 (_:sH):Prop:=False
def UX (_:sH):Prop:=False
def Xe (_:sH):Nat:=0
def aqW (_:Ex) (_ _:sH):Prop:=True
theorem axs:∀s,aq9 s→UX s:=by
 exact fun s h=>h
theorem asj (s:sH) (hI:UX s):bY (fun s'=>UX s'∧Xe s'<Xe s) (fun x s'=>aqW x s s') (aqy s):=by
 unfold aqy Zp
 dsimp only [T.rd,T.rl]
 exact hI.elim
def Nv:dn sH:=⟨4,63,[0,1,2,6,7,8],[],aAM,azZ,fun v b=>⟨gI (v.getD 1 .junk),gI (v.getD 3 .junk),gI (v.getD 4 .junk),gI (v.getD 5 .junk),bf jc (bC (aV b 0) 0),gI (bC (aV b 1) 0),jm (.int .i64) (aV b 2)⟩,Zp,fun s r=> {r with n:=s.n,ax:=s.ax,b0:=s.b0,b1:=s.b1,data:=s.data},fun s=>s,fun _ s=>s,[.exit 4],aq9,UX,Xe⟩
abbrev alL:=Nv.run
abbrev avZ:=Nv.q
noncomputable def AY:Specs:=bn [(43,kE),(45,qU),(121,Yx)]
theorem Es:∀g S,AY g=some S→Valid Tryz.prog aT g S:=aX (l:=[(43,kE),(45,qU),(121,Yx)]) ⟨wH,Gw,arA,trivial⟩
noncomputable def aaQ:Hand:=inl Tryz.prog aT AY (dG 84 4 2 (EN.lp) (dG 120 4 1 (CY.lp) (jo Tryz.prog aT (AY) 20 2))) 9
theorem ahG:cO Tryz.prog aT aaQ:=bJ Es (aP Tryz.func84 rfl (by kernel_rfl) ZR (aP Tryz.func120 rfl (by kernel_rfl) NU (dw Es))) 9
theorem asM (s:sH) (hI:UX s):(Zp s).all (fun _=>True):=by
 refine ⟨fun c1=>⟨?_,?_,⟨rfl,rfl⟩,trivial⟩,fun c1=>⟨⟨rfl,rfl⟩,trivial⟩⟩
 all_goals (exact hI.elim)
theorem atM:Nv.Ok:=⟨fun s=>by kernel_rfl,fun s=>by kernel_rfl,fun s=>rfl,fun s t r=>rfl,fun s=>rfl,fun s=>by kernel_rfl⟩
theorem atG:Nv.Pf (aqW):=⟨axs,fun _ _=>rfl,asj,asM⟩
theorem ak3:bG Tryz.prog aT (AN 4) (.loop Jd) Nv.lp:=dn.snd atM atG (aZ (Γ:=AY) (K:=aaQ) (L:=(mP Tryz.prog aT AY aaQ 20 2)) Es ahG Jd (fun b _=>cu Es ahG 20 2 b)) (fun s=>by kernel_rfl)
structure sJ where
 n:Int
 ax:Int
 b0:List Dm
 b1:Int
 data:List Int
def aAN (s:sJ):List LV:=[.os 2 1 0 (List.length s.data),.v (.int .i64 s.n),.fn 45 [.own 0 0,.own 3 0],.v (.int .i64 s.ax)]
def az0 (s:sJ):List aS:=[⟨[.xl jc s.b0],31,.cl,false⟩,⟨[.v (.int .i64 s.b1)],3,.cl,false⟩,⟨[],3,.vec (.int .i64) s.data,false⟩,⟨[.fn 43 [.own 0 0,.own 1 0]],84,.cl,false⟩]
noncomputable def Uh:Code:=((ay (Tryz.f84.body.getD .skip))[1]?).getD .skip
def Zq (s:sJ):T (Rd sJ):=
 .br (decide (s.ax<s.n)) (.rl s.data (.req (avZ (⟨s.n,s.ax,(0:Int),(IntKind.i64.wrap (2*s.ax)),s.b0,s.b1,s.data⟩:sH)) (.br (decide ((IntKind.i64.wrap ((alL (⟨s.n,s.ax,(0:Int),(IntKind.i64.wrap (2*s.ax)),s.b0,s.b1,s.data⟩:sH)).a+s.ax))<s.n)) (.req (0+(List.length s.data)≤List.length s.data) (.req False (.rl s.data (.ok (.next {s with ax:=(IntKind.i64.wrap (s.ax*2))}))))) (.rl s.data (.ok (.next {s with ax:=(IntKind.i64.wrap (s.ax*2))})))))) (.rl s.data (.ok (.stop (.exit 2) s)))
abbrev aqz (s:sJ):=(Zq s).rd s
def aki (s:sJ):Prop:=s.ax=20∧s.n<20
def MB (s:sJ):Prop:=s.ax=20∧s.n<20
def Xf (_:sJ):Nat:=0
def aqX (x:Ex) (_ _:sJ):Prop:=x=.exit 2
theorem axt:∀s,aki s→MB s:=by
 exact fun s h=>h
theorem asl (s:sJ) (hI:MB s):bY (fun s'=>MB s'∧Xf s'<Xf s) (fun x s'=>aqX x s s') (aqz s):=by
 unfold aqz Zq
 dsimp only [T.rd,T.rl]
 obtain ⟨h0,h1⟩:=hI
 refine ai (fun c1=>absurd (show s.ax<s.n by simpa using c1) (by omega)) (fun c1=>rfl)
def Vo:dn sJ:=⟨4,63,[0,1,2,6],[],aAN,az0,fun v b=>⟨gI (v.getD 1 .junk),gI (v.getD 3 .junk),bf jc (bC (aV b 0) 0),gI (bC (aV b 1) 0),jm (.int .i64) (aV b 2)⟩,Zq,fun s r=> {r with n:=s.n,b0:=s.b0,b1:=s.b1,data:=s.data},fun s=>s,fun _ s=>s,[.exit 2],aki,MB,Xf⟩
abbrev av1:=Vo.q
theorem asN (s:sJ) (hI:MB s):(Zq s).all (fun _=>True):=by
 refine ⟨fun c1=>⟨⟨rfl,rfl⟩,?_,fun c2=>⟨?_,?_,⟨rfl,rfl⟩,trivial⟩,fun c2=>⟨⟨rfl,rfl⟩,trivial⟩⟩,fun c1=>⟨⟨rfl,rfl⟩,trivial⟩⟩
 all_goals ((simp only [decide_eq_true_eq] at c1;exact absurd c1 (by have:=hI;unfold MB at this;omega)))
theorem atN:Vo.Ok:=⟨fun s=>by kernel_rfl,fun s=>by kernel_rfl,fun s=>rfl,fun s t r=>rfl,fun s=>rfl,fun s=>by kernel_rfl⟩
theorem atH:Vo.Pf (aqX):=⟨axt,fun _ _=>rfl,asl,asN⟩
theorem ak4:bG Tryz.prog aT (AN 4) (.loop Uh) Vo.lp:=dn.snd atN atH (aZ (Γ:=AY) (K:=aaQ) (L:=(Ud (fun i=>if i=9 then Nv.lp else aB i))) Es ahG Uh (fun b hb=>by
 rw [show ay _=[Jd] by kernel_rfl] at hb
 simp only [List.mem_cons,List.not_mem_nil,or_false] at hb
 subst hb
 exact ak3)) (fun s=>by kernel_rfl)
def acD:List LV→T LV
 | [.xl (.pair .bool (.pair (.int .i64) (.pair (.int .i64) (.int .i64)))) d,.v (.int .i64 t)]=> .req (kL d t∧d.length≤19) (.ok (.xl (.int .i64) (iK d t)))
 |_=> .no
noncomputable def Jw:List LV→T LV:=jR Tryz.prog Tryz.f19.params.toList acD
def bW (d:List Dm) (t:Int):qX:=(⟨(((List.length d:Int).toNat:Nat):Int),(0:Int),d,t,(List.replicate (List.length d:Int).toNat (0:Int))⟩:qX)
def iq (d:List Dm) (t:Int):nP:=(⟨((List.length (dJ (bW d t)).out:Nat):Int),(20:Int),(0:Int),(20:Int),d,t,(dJ (bW d t)).out⟩:nP)
def oN (d:List Dm) (t:Int):kY:=(⟨(jB (iq d t)).a,((List.length (dJ (bW d t)).out:Nat):Int),(IntKind.i64.wrap ((jB (iq d t)).a+1)),d,t,(jB (iq d t)).data⟩:kY)
def RX (d:List Dm) (t:Int):sJ:=(⟨((List.length (dJ (bW d t)).out:Nat):Int),(20:Int),d,t,(qw (oN d t)).data⟩:sJ)
noncomputable def apY:Hand:=inl Tryz.prog aT AY (dG 84 4 7 (Vo.lp) (dG 84 4 2 (EN.lp) (dG 120 4 1 (CY.lp) (jo Tryz.prog aT (AY) 20 2)))) 9
theorem ayF:cO Tryz.prog aT apY:=bJ Es (aP Tryz.func84 rfl (by kernel_rfl) ak4 (aP Tryz.func84 rfl (by kernel_rfl) ZR (aP Tryz.func120 rfl (by kernel_rfl) NU (dw Es)))) 9
theorem amH (d:List Dm) (t:Int):eX Tryz.prog aT (AY) apY (fun i=>if i=3 then yX.lp else aB i) Tryz.f19 [.xl jc d,.v (.int .i64 t)]=.req (0≤(List.length d:Int)∧(List.length d:Int)≤(List.length d:Int)∧8*(List.length d:Int)≤2^48∧(List.length d:Int)<2^63) (.req (0=0∧(List.length d:Int).toNat=List.length (List.replicate (List.length d:Int).toNat (0:Int))) (.req (akl (bW d t)) (.rl (dJ (bW d t)).out (.req (av2 (iq d t)) (.rl (jB (iq d t)).data (.req (ako (oN d t)) (.req (0=0∧(List.length (jB (iq d t)).data)=List.length (qw (oN d t)).data) (.req (av1 (RX d t)) (.req (0+(List.length (dJ (bW d t)).out)≤List.length (qw (oN d t)).data) (.ok (.xl (.int .i64) (((qw (oN d t)).data.drop 0).take (List.length (dJ (bW d t)).out))))))))))))):=by kernel_rfl
theorem aeL:Valid Tryz.prog aT 19 Jw:=aJ Tryz.func19 rfl Es ayF (L:=(fun i=>if i=3 then yX.lp else aB i)) (fun b hb=>by
 rw [show ay _=[xA] by kernel_rfl] at hb
 simp only [List.mem_cons,List.not_mem_nil,or_false] at hb
 subst hb
 exact ZT) (fun args lv h=>by
 unfold acD at h
 split at h
 ·simp only [canL,canX]
  rw [amH]
  rename_i d t
  obtain ⟨⟨hw,hd⟩,rfl⟩:=h
  have hE:U9 (bW d t):=⟨rfl,by show List.replicate (List.length d:Int).toNat (0:Int)=List.replicate d.length 0;rw [Int.toNat_natCast],by show (((List.length d:Int).toNat:Nat):Int)=(List.length d:Int);omega,by show (((List.length d:Int).toNat:Nat):Int)≤1000;omega,by show (List.replicate _ (0:Int)).length=d.length;rw [List.length_replicate];omega⟩
  obtain ⟨_,_,_,q1⟩:=aaq _ hE
  have q1:(dJ (bW d t)).out=yJ d.length:=q1
  have hl:(dJ (bW d t)).out.length=d.length:=by rw [q1,oO]
  have hE2:adg (iq d t):=⟨rfl,by show ((List.length (dJ (bW d t)).out:Nat):Int)<20;omega⟩
  obtain ⟨_,q2⟩:=akU _ hE2
  have q2a:(jB (iq d t)).data=yJ d.length:=(congrArg Prod.fst q2).trans q1
  have q2b:(jB (iq d t)).a=0:=congrArg Prod.snd q2
  have hE3:adr (oN d t):=⟨by show IntKind.i64.wrap ((jB (iq d t)).a+1)=1;rw [q2b];rfl,⟨q2b,by show ((List.length (dJ (bW d t)).out:Nat):Int)=(List.length (jB (iq d t)).data:Int);rw [q2a,hl,oO]⟩,⟨by show (jB (iq d t)).data.length=d.length;rw [q2a,oO],by show (List.length (jB (iq d t)).data:Int)≤1000;rw [q2a,oO];omega⟩,fun x hx=>He.1 (by have hx:x∈(jB (iq d t)).data:=hx;rw [q2a] at hx;exact hx),hw⟩
  obtain ⟨_,q3⟩:=anB _ hE3
  have q3:(qw (oN d t)).data=iK d t:=q3.trans (by
   show vN (ltD d t) (jB (iq d t)).data (IntKind.i64.wrap ((jB (iq d t)).a+1)).toNat=_
   rw [q2b,q2a]
   exact adJ)
  have hl3:(qw (oN d t)).data.length=d.length:=by rw [q3,Ak]
  have hE4:aki (RX d t):=⟨rfl,by show ((List.length (dJ (bW d t)).out:Nat):Int)<20;omega⟩
  refine ⟨⟨by omega,by omega,by omega,by omega⟩,⟨rfl,by simp⟩,⟨hE,rfl,rfl⟩,⟨rfl,rfl⟩,⟨hE2,rfl,rfl⟩,⟨rfl,rfl⟩,⟨hE3,rfl,rfl⟩,⟨rfl,by rw [q2a,oO,hl3]⟩,⟨hE4,rfl,rfl⟩,by omega,?_⟩
  show LV.xl _ _=_
  rw [List.drop_zero,hl,←hl3,List.take_length,q3]
 ·cases h)
end Go.Proofs.YtlihnbimgclogaaGreatDoor
namespace Go.Sx
variable {P : Program} {G : dB} {Γ : Specs} {σ : Type}
structure CpD (σ:Type) where
 A:σ→List LV
 B:σ→List aS
 g:List LV→List aS→σ
 E:σ→Prop
 mu:σ→Nat
 r:σ→σ
namespace CpD
variable (D : CpD σ)
def m (n:Nat) (args:List LV) (H:List aS):T (LV×List aS):=(TN H args).bind fun a=>(X4 H H).bind fun b=>
 .req (D.E (D.g a b)∧D.mu (D.g a b)<n∧D.A (D.g a b)=a∧D.B (D.g a b)=b) (.ok (.v (.tuple #[]),D.B (D.r (D.g a b))))
def mm (args:List LV) (H:List aS):T (LV×List aS):=(TN H args).bind fun a=>(X4 H H).bind fun b=>
 .req (D.E (D.g a b)∧D.A (D.g a b)=a∧D.B (D.g a b)=b) (.ok (.v (.tuple #[]),D.B (D.r (D.g a b))))
variable {D}
theorem ahn {n:Nat}{args:List LV}{H:List aS}{q:LV×List aS}(h:(D.m n args H).all (fun z=>z=q)):∃s,D.E s∧D.mu s<n∧D.A s=args∧D.B s=H∧q=(.v (.tuple #[]),D.B (D.r s)):=by
 unfold m at h
 obtain ⟨a,h1,h2⟩:=T.aU h
 obtain ⟨b,h3,h4⟩:=T.aU h2
 have e1:=F8 h1
 have e2:=PX h3
 obtain ⟨⟨g1,g2,g3,g4⟩,g5⟩:=h4
 exact ⟨_,g1,g2,g3.trans e1,g4.trans e2,g5.symm⟩
theorem ang {args:List LV}{H:List aS}{q:LV×List aS}(h:(D.mm args H).all (fun z=>z=q)):∃a b,(TN H args).all (fun z=>z=a)∧(X4 H H).all (fun z=>z=b)∧(D.E (D.g a b)∧D.A (D.g a b)=a∧D.B (D.g a b)=b)∧q=(.v (.tuple #[]),D.B (D.r (D.g a b))):=by
 unfold mm at h
 obtain ⟨a,h1,h2⟩:=T.aU h
 obtain ⟨b,h3,h4⟩:=T.aU h2
 exact ⟨a,b,h1,h3,h4.1,h4.2.symm⟩
theorem aBQ {n:Nat}{args:List LV}{H:List aS}{q:LV×List aS}(h:(D.mm args H).all (fun z=>z=q)):∃n,(D.m n args H).all (fun z=>z=q):=by
 obtain ⟨a,b,h1,h3,⟨g1,g2,g3⟩,g4⟩:=ang h
 refine ⟨D.mu (D.g a b)+1,?_⟩
 unfold m
 rw [T.all_bind]
 refine T.bD (fun x hx=>?_) h1
 rw [T.all_bind,hx]
 refine T.bD (fun y hy=>?_) h3
 rw [hy]
 exact ⟨⟨g1,Nat.lt_succ_self _,g2,g3⟩,g4.symm⟩
def one (c:FuncId) (m:List LV→List aS→T (LV×List aS)):Does:=fun g=>if g=c then some m else none
theorem wS {c:FuncId}{m:List LV→List aS→T (LV×List aS)}(h:ru P G c m):∀g m',one c m g=some m'→ru P G g m':=fun g m' e=>by
 unfold one at e
 split at e
 ·rename_i q
  subst q
  cases e
  exact h
 ·cases e
theorem sound {LL:sG}{c:FuncId}{d:Nat}(hΓ:∀g S,Γ g=some S→Valid P G g S) (hLL:Qr P G LL)
  (hstep:∀(n:Nat) (s:σ),D.E s→D.mu s≤n→awG (fun q=>q=(.v (.tuple #[]),D.B (D.r s))) ((yN P G Γ LL (PE P G Γ LL (one c (D.m n)) d)).k c (D.A s) (D.B s))):∀n,ru P G c (D.m n)
 |0=>fun w0 Z0 Z β H w args vals lv H' hW hr hok hq=>by
  obtain ⟨s,_,h,_⟩:=ahn hq
  exact absurd h (Nat.not_lt_zero _)
 |n+1=>ru.walk hΓ hLL (uZ hΓ hLL (wS (sound hΓ hLL hstep n)) d) fun args H lv H' hq=>by
  obtain ⟨s,h1,h2,h3,h4,h5⟩:=ahn hq
  rw [←h3,←h4,h5]
  exact (hstep n s h1 (Nat.le_of_lt_succ h2)).out
theorem ae0 {c:FuncId}(h:∀n,ru P G c (D.m n)):ru P G c D.mm:=fun w0 Z0 Z β H w args vals lv H' hW hr hok hq=>by
 obtain ⟨n,hq⟩:=aBQ (n:=0) hq
 exact h n w0 Z0 Z β H w args vals lv H' hW hr hok hq
end CpD
end Go.Sx
namespace Go.Proofs.YtlihnbimgclogaaGreatDoor
open Go.Sx
structure kX where
 a:Int
 b:Int
 i:Int
 j:Int
 b0:List Dm
 b1:Int
 data:List Int
def aBb (s:kX):List LV:=[.os 2 1 0 (List.length s.data),.v (.int .i64 s.a),.v (.int .i64 s.b),.fn 45 [.own 0 0,.own 3 0],.v (.int .i64 s.i),.v (.int .i64 s.j)]
def aAo (s:kX):List aS:=[⟨[.xl jc s.b0],31,.cl,false⟩,⟨[.v (.int .i64 s.b1)],3,.cl,false⟩,⟨[],3,.vec (.int .i64) s.data,false⟩,⟨[.fn 43 [.own 0 0,.own 1 0]],84,.cl,false⟩]
noncomputable def Jh:Code:=((ay (((ay (Tryz.f120.body.getD .skip))[0]?).getD .skip))[0]?).getD .skip
def Q8 (s:kX):T (Rd kX):=
 .br (decide (s.j>s.a)) (.req (0≤s.j∧s.j<((List.length s.data:Nat):Int)) (.req (s.j.toNat<List.length s.data) (.req (0≤(IntKind.i64.wrap (s.j-1))∧(IntKind.i64.wrap (s.j-1))<((List.length s.data:Nat):Int)) (.req ((IntKind.i64.wrap (s.j-1)).toNat<List.length s.data) (.req (s.b0=s.b0∧kL s.b0 s.b1∧(0≤(s.data.getD s.j.toNat (Ty.dflt (.int .i64)))∧(s.data.getD s.j.toNat (Ty.dflt (.int .i64)))<(List.length s.b0:Int))∧0≤(s.data.getD (IntKind.i64.wrap (s.j-1)).toNat (Ty.dflt (.int .i64)))∧(s.data.getD (IntKind.i64.wrap (s.j-1)).toNat (Ty.dflt (.int .i64)))<(List.length s.b0:Int)) (.br (decide ((cmD s.b0 s.b1 (s.data.getD s.j.toNat (Ty.dflt (.int .i64))) (s.data.getD (IntKind.i64.wrap (s.j-1)).toNat (Ty.dflt (.int .i64))))<0)) (.req (0≤(IntKind.i64.wrap (s.j-1))∧(IntKind.i64.wrap (s.j-1))<((List.length s.data:Nat):Int)) (.req (0≤s.j∧s.j<((List.length s.data:Nat):Int)) (.req ((IntKind.i64.wrap (s.j-1)).toNat<List.length s.data) (.req (s.j.toNat<List.length s.data) (.req (0≤s.j∧s.j<((List.length s.data:Nat):Int)) (.req (s.j.toNat<List.length s.data) (.req (0≤(IntKind.i64.wrap (s.j-1))∧(IntKind.i64.wrap (s.j-1))<((List.length s.data:Nat):Int)) (.req ((IntKind.i64.wrap (s.j-1)).toNat<List.length (s.data.set s.j.toNat (s.data.getD (IntKind.i64.wrap (s.j-1)).toNat (Ty.dflt (.int .i64))))) (.req (0=0∧(List.length s.data)=List.length ((s.data.set s.j.toNat (s.data.getD (IntKind.i64.wrap (s.j-1)).toNat (Ty.dflt (.int .i64)))).set (IntKind.i64.wrap (s.j-1)).toNat (s.data.getD s.j.toNat (Ty.dflt (.int .i64))))) (.ok (.next {s with j:=(IntKind.i64.wrap (s.j-1)),data:=((s.data.set s.j.toNat (s.data.getD (IntKind.i64.wrap (s.j-1)).toNat (Ty.dflt (.int .i64)))).set (IntKind.i64.wrap (s.j-1)).toNat (s.data.getD s.j.toNat (Ty.dflt (.int .i64))))}))))))))))) (.rl s.data (.ok (.stop (.exit 2) s))))))))) (.rl s.data (.ok (.stop (.exit 2) s)))
abbrev abq (s:kX):=(Q8 s).rd s
def JL (s:kX):Prop:=((0≤s.a∧s.a≤s.j)∧(s.j≤s.i∧s.i<s.b)∧s.b≤(List.length s.data:Int))∧((s.data.length=s.b0.length∧(List.length s.data:Int)≤1000)∧vG s.data s.b0.length∧kL s.b0 s.b1)∧XC (ltD s.b0 s.b1) s.data s.a s.i s.j
def MX (s:kX):Prop:=((0≤s.a∧s.a≤s.j)∧(s.j≤s.i∧s.i<s.b)∧s.b≤(List.length s.data:Int))∧((s.data.length=s.b0.length∧(List.length s.data:Int)≤1000)∧vG s.data s.b0.length∧kL s.b0 s.b1)∧XC (ltD s.b0 s.b1) s.data s.a s.i s.j
def OQ (s:kX):Nat:=(s.j-s.a).toNat
def ajQ (x:Ex) (_ s':kX):Prop:=x=.exit 2∧kU (ltD s'.b0 s'.b1) s'.data s'.a (s'.i+1)
theorem ayw:∀s,JL s→MX s:=by
 exact fun s h=>h
theorem auE (s:kX) (hI:MX s):bY (fun s'=>MX s'∧OQ s'<OQ s) (fun x s'=>ajQ x s s') (abq s):=by
 unfold abq Q8
 dsimp only [T.rd,T.rl]
 obtain ⟨⟨⟨h0,h1⟩,⟨h2,h3⟩,h4⟩,⟨⟨k0,k1⟩,k2,k3⟩,h5⟩:=hI
 refine ai (fun c1=>?_) (fun c1=>?_)
 ·have c1:s.a<s.j:=by simpa using c1
  rw [aF (x:=s.j-1) (by omega) (by omega)]
  refine ai (fun c2=>?_) (fun c2=>?_)
  ·have hp:=I7 (l:=s.data) (i:=s.j) (j:=s.j-1) (by omega) (by omega) (by omega) (by omega)
   exact ⟨⟨⟨⟨h0,by simp only;omega⟩,⟨by simp only;omega,h3⟩,by simp only [List.length_set];exact h4⟩,⟨⟨by simp only [List.length_set];exact k0,by simp only [List.length_set];exact k1⟩,ja hp k2,k3⟩,(show XC (ltD s.b0 s.b1) (Vu s.data s.j (s.j-1)) s.a s.i (s.j-1) from ad1 iZ h0 c1 h2 (by omega) h5 c2)⟩,by simp only [OQ];omega⟩
  ·exact ⟨rfl,Tv iZ h1 h2 h5 (.inr c2)⟩
 ·have c1:s.j≤s.a:=by simpa using c1
  exact ⟨rfl,Tv iZ h1 h2 h5 (.inl (by omega))⟩
def JX:dn kX:=⟨4,53,[0,1,2,3,8,9],[],aBb,aAo,fun v b=>⟨gI (v.getD 1 .junk),gI (v.getD 2 .junk),gI (v.getD 4 .junk),gI (v.getD 5 .junk),bf jc (bC (aV b 0) 0),gI (bC (aV b 1) 0),jm (.int .i64) (aV b 2)⟩,Q8,fun s r=> {r with a:=s.a,b:=s.b,i:=s.i,b0:=s.b0,b1:=s.b1},fun s=>s,fun _ s=>s,[.exit 2],JL,MX,OQ⟩
abbrev qp:=JX.run
abbrev abL:=JX.lU
abbrev awm:=JX.q
noncomputable def sV:Specs:=bn [(43,kE),(45,qU)]
theorem vw:∀g S,sV g=some S→Valid Tryz.prog aT g S:=aX (l:=[(43,kE),(45,qU)]) ⟨wH,Gw,trivial⟩
noncomputable def PI:Hand:=inl Tryz.prog aT sV (jo Tryz.prog aT (sV) 20 2) 9
theorem XE:cO Tryz.prog aT PI:=bJ vw (dw vw) 9
theorem atd (s:kX) (hI:MX s):(Q8 s).all (fun _=>True):=by
 refine ⟨fun c1=>⟨?_,?_,?_,?_,?_,fun c2=>⟨?_,?_,?_,?_,?_,?_,?_,?_,?_,trivial⟩,fun c2=>⟨⟨rfl,rfl⟩,trivial⟩⟩,fun c1=>⟨⟨rfl,rfl⟩,trivial⟩⟩
 all_goals ((obtain ⟨⟨⟨h0,h1⟩,⟨h2,h3⟩,h4⟩,⟨⟨k0,k1⟩,k2,k3⟩,h5⟩:=hI;simp only [decide_eq_true_eq,gt_iff_lt] at c1;(try rw [aF (x:=s.j-1) (by omega) (by omega)]);have g1:=xk k2 (k:=s.j) (by omega) (by omega);have g2:=xk k2 (k:=s.j-1) (by omega) (by omega);first|omega|exact ⟨rfl,k3,g1,g2⟩ |(simp only [List.length_set];omega) |exact ⟨rfl,by simp⟩))
theorem WZ:JX.Ok:=⟨fun s=>by kernel_rfl,fun s=>by kernel_rfl,fun s=>rfl,fun s t r=>rfl,fun s=>rfl,fun s=>by kernel_rfl⟩
theorem Wy:JX.Pf (ajQ):=⟨ayw,fun _ _=>rfl,auE,atd⟩
theorem alp:bG Tryz.prog aT (AN 4) (.loop Jh) JX.lp:=dn.snd WZ Wy (aZ (Γ:=sV) (K:=PI) (L:=(mP Tryz.prog aT sV PI 20 2)) vw XE Jh (fun b _=>cu vw XE 20 2 b)) (fun s=>by kernel_rfl)
theorem aaH (s:kX) (hE:JL s):∃s',MX s'∧ajQ (abL s) s' (qp s):=dn.fin WZ Wy s hE
theorem Pz (s:kX) (hE:JL s):(fun (x:Ex) (s':kX) (v:List Int)=>x=.exit 2∧fK (ltD s'.b0 s'.b1) s'.data s'.a s'.b=v) (abL s) (qp s) ((fun s:kX=>fK (ltD s.b0 s.b1) s.data s.a s.b) s):=by
 exact dn.rC WZ Wy (fun s:kX=>fK (ltD s.b0 s.b1) s.data s.a s.b) (fun x s' v=>x=.exit 2∧fK (ltD s'.b0 s'.b1) s'.data s'.a s'.b=v) (fun s hI=>by
  show bY _ _ (abq s)
  unfold abq Q8
  dsimp only [T.rd,T.rl]
  obtain ⟨⟨⟨h0,h1⟩,⟨h2,h3⟩,h4⟩,⟨⟨k0,k1⟩,k2,k3⟩,h5⟩:=hI
  refine ai (fun c1=>?_) (fun c1=>⟨rfl,rfl⟩)
  have c1:s.a<s.j:=by simpa using c1
  rw [aF (x:=s.j-1) (by omega) (by omega)]
  refine ai (fun c2=>?_) (fun c2=>⟨rfl,rfl⟩)
  show fK _ (Vu s.data s.j (s.j-1)) s.a s.b=fK _ s.data s.a s.b
  exact aog di h0 h4 h1 (by omega) (by omega) (by omega)) s hE
structure kJ where
 a:Int
 b:Int
 i:Int
 b0:List Dm
 b1:Int
 data:List Int
def aBa (s:kJ):List LV:=[.os 2 1 0 (List.length s.data),.v (.int .i64 s.a),.v (.int .i64 s.b),.fn 45 [.own 0 0,.own 3 0],.v (.int .i64 s.i)]
def aAn (s:kJ):List aS:=[⟨[.xl jc s.b0],31,.cl,false⟩,⟨[.v (.int .i64 s.b1)],3,.cl,false⟩,⟨[],3,.vec (.int .i64) s.data,false⟩,⟨[.fn 43 [.own 0 0,.own 1 0]],84,.cl,false⟩]
noncomputable def Um:Code:=((ay (Tryz.f120.body.getD .skip))[0]?).getD .skip
def Q7 (s:kJ):T (Rd kJ):=
 .br (decide (s.i<s.b)) (.rl s.data (.req (awm (⟨s.a,s.b,s.i,s.i,s.b0,s.b1,s.data⟩:kX)) (.rl (qp (⟨s.a,s.b,s.i,s.i,s.b0,s.b1,s.data⟩:kX)).data (.ok (.next {s with i:=(IntKind.i64.wrap (s.i+1)),data:=(qp (⟨s.a,s.b,s.i,s.i,s.b0,s.b1,s.data⟩:kX)).data}))))) (.rl s.data (.ok (.stop (.exit 0) s)))
abbrev abp (s:kJ):=(Q7 s).rd s
def JK (s:kJ):Prop:=s.i=s.a+1∧((0≤s.a∧s.a≤s.b)∧s.b≤(List.length s.data:Int))∧(s.data.length=s.b0.length∧(List.length s.data:Int)≤1000)∧vG s.data s.b0.length∧kL s.b0 s.b1
def JA (s:kJ):Prop:=((s.a<s.i∧(s.i≤s.b∨s.i=s.a+1))∧kU (ltD s.b0 s.b1) s.data s.a s.i)∧((0≤s.a∧s.a≤s.b)∧s.b≤(List.length s.data:Int))∧(s.data.length=s.b0.length∧(List.length s.data:Int)≤1000)∧vG s.data s.b0.length∧kL s.b0 s.b1
def OO (s:kJ):Nat:=(s.b-s.i).toNat
def ajP (x:Ex) (_ s':kJ):Prop:=x=.exit 0∧kU (ltD s'.b0 s'.b1) s'.data s'.a s'.b
theorem ayv:∀s,JK s→JA s:=by
 intro s h
 obtain ⟨h0,h1⟩:=h
 exact ⟨⟨by omega,fun x y x0 xy y1=>by omega⟩,h1⟩
theorem Xz (s:kJ) (hI:JA s) (c1:s.i<s.b):JL ⟨s.a,s.b,s.i,s.i,s.b0,s.b1,s.data⟩:=by
 obtain ⟨⟨h0,h1⟩,⟨⟨h2,h3⟩,h4⟩,⟨k0,k1⟩,k2,k3⟩:=hI
 exact ⟨⟨⟨h2,by simp only;omega⟩,⟨Int.le_refl _,c1⟩,h4⟩,⟨⟨k0,k1⟩,k2,k3⟩,auJ h1⟩
theorem ahz (s:kX) (hE:JL s):(qp s).data.length=s.data.length:=by
 have q:=(Pz s hE).2
 obtain ⟨s',hI,q1,q2⟩:=aaH s hE
 obtain ⟨⟨⟨h0,h1⟩,⟨h2,h3⟩,h4⟩,_⟩:=hE
 have q:fK (ltD s.b0 s.b1) (qp s).data s.a s.b=fK (ltD s.b0 s.b1) s.data s.a s.b:=q
 have e:=congrArg List.length q
 rwa [qo (by omega),qo (by omega)] at e
theorem auD (s:kX) (hE:JL s) {n:Nat}(h:vG s.data n):vG (qp s).data n:=by
 have q:=(Pz s hE).2
 obtain ⟨⟨⟨h0,h1⟩,⟨h2,h3⟩,h4⟩,_⟩:=hE
 refine ja ?_ h
 have e1:=gW (lt:=ltD s.b0 s.b1) (l:=(qp s).data) (a:=s.a) (b:=s.b) (by omega)
 have e2:=gW (lt:=ltD s.b0 s.b1) (l:=s.data) (a:=s.a) (b:=s.b) (by omega)
 have q:fK (ltD s.b0 s.b1) (qp s).data s.a s.b=fK (ltD s.b0 s.b1) s.data s.a s.b:=q
 rw [q] at e1
 exact e1.symm.trans e2
theorem auC (s:kJ) (hI:JA s):bY (fun s'=>JA s'∧OO s'<OO s) (fun x s'=>ajP x s s') (abp s):=by
 unfold abp Q7
 dsimp only [T.rd,T.rl]
 have hin:=fun c1=>Xz s hI c1
 obtain ⟨⟨h0,h1⟩,⟨⟨h2,h3⟩,h4⟩,⟨k0,k1⟩,k2,k3⟩:=hI
 refine ai (fun c1=>?_) (fun c1=>?_)
 ·have c1:s.i<s.b:=by simpa using c1
  obtain ⟨_,⟨⟨_,_,g4⟩,⟨⟨g5,g6⟩,g7,_⟩,_⟩,q1,q2⟩:=aaH _ (hin c1)
  have q3:=ahz _ (hin c1)
  rw [aF (x:=s.i+1) (by omega) (by omega)]
  exact ⟨⟨⟨by simp only;omega,q2⟩,⟨⟨h2,h3⟩,by simp only;rw [q3];exact h4⟩,⟨by simp only;rw [q3];exact k0,by simp only;rw [q3];exact k1⟩,auD _ (hin c1) k2,k3⟩,by simp only [OO];omega⟩
 ·have c1:s.b≤s.i:=by simpa using c1
  exact ⟨rfl,RY h1 (Int.le_refl _) c1⟩
def pz:dn kJ:=⟨4,53,[0,1,2,3,8],[],aBa,aAn,fun v b=>⟨gI (v.getD 1 .junk),gI (v.getD 2 .junk),gI (v.getD 4 .junk),bf jc (bC (aV b 0) 0),gI (bC (aV b 1) 0),jm (.int .i64) (aV b 2)⟩,Q7,fun s r=> {r with a:=s.a,b:=s.b,b0:=s.b0,b1:=s.b1},fun s=>s,fun _ s=>s,[.exit 0],JK,JA,OO⟩
abbrev iO:=pz.run
abbrev P5:=pz.lU
abbrev akn:=pz.q
theorem atc (s:kJ) (hI:JA s):(Q7 s).all (fun _=>True):=by
 refine ⟨fun c1=>⟨⟨rfl,rfl⟩,?_,⟨rfl,rfl⟩,trivial⟩,fun c1=>⟨⟨rfl,rfl⟩,trivial⟩⟩
 ·exact ⟨Xz s hI (by simpa using c1),rfl,rfl⟩
theorem WY:pz.Ok:=⟨fun s=>by kernel_rfl,fun s=>by kernel_rfl,fun s=>rfl,fun s t r=>rfl,fun s=>rfl,fun s=>by kernel_rfl⟩
theorem Wx:pz.Pf (ajP):=⟨ayv,fun _ _=>rfl,auC,atc⟩
theorem mW:bG Tryz.prog aT (AN 4) (.loop Um) pz.lp:=dn.snd WY Wx (aZ (Γ:=sV) (K:=PI) (L:=(Ud (fun i=>if i=4 then JX.lp else aB i))) vw XE Um (fun b hb=>by
 rw [show ay _=[Jh] by kernel_rfl] at hb
 simp only [List.mem_cons,List.not_mem_nil,or_false] at hb
 subst hb
 exact alp)) (fun s=>by kernel_rfl)
theorem anA (s:kJ) (hE:JK s):∃s',JA s'∧ajP (P5 s) s' (iO s):=dn.fin WY Wx s hE
theorem anz (s:kJ) (hE:JK s):(fun (x:Ex) (s':kJ) (v:List Int)=>x=.exit 0∧fK (ltD s'.b0 s'.b1) s'.data s'.a s'.b=v) (P5 s) (iO s) ((fun s:kJ=>fK (ltD s.b0 s.b1) s.data s.a s.b) s):=by
 exact dn.rC WY Wx (fun s:kJ=>fK (ltD s.b0 s.b1) s.data s.a s.b) (fun x s' v=>x=.exit 0∧fK (ltD s'.b0 s'.b1) s'.data s'.a s'.b=v) (fun s hI=>by
  show bY _ _ (abp s)
  unfold abp Q7
  dsimp only [T.rd,T.rl]
  have hin:=fun c1=>Xz s hI c1
  obtain ⟨⟨h0,h1⟩,⟨⟨h2,h3⟩,h4⟩,⟨k0,k1⟩,k2,k3⟩:=hI
  refine ai (fun c1=>?_) (fun c1=>⟨rfl,rfl⟩)
  have c1:s.i<s.b:=by simpa using c1
  exact (Pz _ (hin c1)).2) s hE
theorem FZ (s:kJ) (hE:JK s):P5 s=.exit 0∧(iO s).data=fK (ltD s.b0 s.b1) s.data s.a s.b:=by
 obtain ⟨q1,q2⟩:=anz s hE
 obtain ⟨s',hI,q3,q4⟩:=anA s hE
 obtain ⟨_,⟨⟨h2,h3⟩,h4⟩,_⟩:=hE
 have q2:fK (ltD s.b0 s.b1) (iO s).data s.a s.b=fK (ltD s.b0 s.b1) s.data s.a s.b:=q2
 have hl:(iO s).data.length=s.data.length:=by
  have e:=congrArg List.length q2
  rwa [qo h3,qo h3] at e
 refine ⟨q1,?_⟩
 rw [←q2]
 exact (GY di h2 h3 (by omega) q4).symm
structure kW where
 n:Int
 ax:Int
 a:Int
 b:Int
 b0:List Dm
 b1:Int
 data:List Int
def aAL (s:kW):List LV:=[.os 2 1 0 (List.length s.data),.v (.int .i64 s.n),.fn 45 [.own 0 0,.own 3 0],.v (.int .i64 s.ax),.v (.int .i64 s.a),.v (.int .i64 s.b)]
def azY (s:kW):List aS:=[⟨[.xl jc s.b0],31,.cl,false⟩,⟨[.v (.int .i64 s.b1)],3,.cl,false⟩,⟨[],3,.vec (.int .i64) s.data,false⟩,⟨[.fn 43 [.own 0 0,.own 1 0]],84,.cl,false⟩]
noncomputable def Ug:Code:=((ay (Tryz.f84.body.getD .skip))[0]?).getD .skip
def qH (s:kW):kJ:=(⟨s.a,s.b,(IntKind.i64.wrap (s.a+1)),s.b0,s.b1,s.data⟩:kJ)
def QM (s:kW):T (Rd kW):=
 .br (decide (s.b≤s.n)) (.rl s.data (.req (akn (qH s)) (.req (0=0∧(List.length s.data)=List.length (iO (qH s)).data) (.ok (.next {s with a:=s.b,b:=(IntKind.i64.wrap (s.b+s.ax)),data:=(iO (qH s)).data}))))) (.rl s.data (.ok (.stop (.exit 0) s)))
abbrev aa9 (s:kW):=(QM s).rd s
def U7 (s:kW):Prop:=(s.ax=20∧s.a=0∧s.b=20)∧s.n=(List.length s.data:Int)∧((s.data.length=s.b0.length∧(List.length s.data:Int)≤1000)∧vG s.data s.b0.length∧kL s.b0 s.b1)
def CU (s:kW):Prop:=(s.ax=20∧s.b=s.a+20∧(0≤s.a∧s.a%20=0)∧s.a≤s.n)∧s.n=(List.length s.data:Int)∧((s.data.length=s.b0.length∧(List.length s.data:Int)≤1000)∧vG s.data s.b0.length∧kL s.b0 s.b1)∧blk (ltD s.b0 s.b1) s.data 20 s.a
def Ou (s:kW):Nat:=(s.n-s.a).toNat
def ajz (x:Ex) (_ s':kW):Prop:=x=.exit 0∧CU s'∧s'.n<s'.b
theorem axr:∀s,U7 s→CU s:=by
 intro s h
 obtain ⟨⟨h0,h1,h2⟩,h3,h4⟩:=h
 exact ⟨⟨h0,by omega,by omega,by omega⟩,h3,h4,fun x y x0 xy y1=>by omega⟩
theorem asi (s:kW) (hI:CU s):s.a≤s.b:=by
 obtain ⟨⟨h0,h1,⟨h2,h3⟩,h4⟩,h5,⟨⟨k0,k1⟩,k2,k3⟩,h6⟩:=hI
 omega
theorem NM (s:kW) (hI:CU s) (c1:s.b≤s.n):JK (qH s):=by
 obtain ⟨⟨h0,h1,⟨h2,h3⟩,h4⟩,h5,⟨⟨k0,k1⟩,k2,k3⟩,h6⟩:=hI
 exact ⟨by show IntKind.i64.wrap (s.a+1)=s.a+1;exact aF (by omega) (by omega),⟨⟨h2,by show s.a≤s.b;omega⟩,by show s.b≤(List.length s.data:Int);omega⟩,⟨k0,k1⟩,k2,k3⟩
theorem ash (s:kW) (hI:CU s):bY (fun s'=>CU s'∧Ou s'<Ou s) (fun x s'=>ajz x s s') (aa9 s):=by
 unfold aa9 QM
 dsimp only [T.rd,T.rl]
 have hin:=fun c1=>NM s hI c1
 have hI':=hI
 obtain ⟨⟨h0,h1,⟨h2,h3⟩,h4⟩,h5,⟨⟨k0,k1⟩,k2,k3⟩,h6⟩:=hI
 refine ai (fun c1=>?_) (fun c1=>⟨rfl,hI',by simpa using c1⟩)
 have c1:s.b≤s.n:=by simpa using c1
 obtain ⟨q1,q2⟩:=FZ _ (hin c1)
 have q2:(iO (qH s)).data=fK (ltD s.b0 s.b1) s.data s.a s.b:=q2
 rw [aF (x:=s.b+s.ax) (by omega) (by omega),q2]
 have hp:=gW (lt:=ltD s.b0 s.b1) (l:=s.data) (a:=s.a) (b:=s.b) (by omega)
 exact ⟨⟨⟨h0,by simp only;omega,by simp only;omega,c1⟩,by simp only [hp.length_eq];exact h5,⟨⟨by simp only [hp.length_eq];exact k0,by simp only [hp.length_eq];exact k1⟩,ja hp k2,k3⟩,aiW iZ h2 h3 (by omega) (by omega) (by omega) h6⟩,by simp only [Ou];omega⟩
def qh:dn kW:=⟨4,63,[0,1,2,6,7,8],[],aAL,azY,fun v b=>⟨gI (v.getD 1 .junk),gI (v.getD 3 .junk),gI (v.getD 4 .junk),gI (v.getD 5 .junk),bf jc (bC (aV b 0) 0),gI (bC (aV b 1) 0),jm (.int .i64) (aV b 2)⟩,QM,fun s r=> {r with n:=s.n,ax:=s.ax,b0:=s.b0,b1:=s.b1},fun s=>s,fun _ s=>s,[.exit 0],U7,CU,Ou⟩
abbrev iy:=qh.run
abbrev abE:=qh.lU
abbrev avY:=qh.q
noncomputable def XM:Hand:=inl Tryz.prog aT sV (dG 120 4 1 (pz.lp) (jo Tryz.prog aT (sV) 20 2)) 9
theorem ahQ:cO Tryz.prog aT XM:=bJ vw (aP Tryz.func120 rfl (by kernel_rfl) mW (dw vw)) 9
theorem asL (s:kW) (hI:CU s):(QM s).all (fun _=>True):=by
 refine ⟨fun c1=>⟨⟨rfl,rfl⟩,?_,?_,trivial⟩,fun c1=>⟨⟨rfl,rfl⟩,trivial⟩⟩
 ·exact ⟨NM s hI (by simpa using c1),rfl,rfl⟩
 ·(have q3:=(FZ _ (NM s hI (by simpa using c1))).2;have hb:=asi s hI;refine ⟨rfl,?_⟩;rw [q3];exact (qo hb).symm)
theorem WM:qh.Ok:=⟨fun s=>by kernel_rfl,fun s=>by kernel_rfl,fun s=>rfl,fun s t r=>rfl,fun s=>rfl,fun s=>by kernel_rfl⟩
theorem V9:qh.Pf (ajz):=⟨axr,fun _ _=>rfl,ash,asL⟩
theorem oG:bG Tryz.prog aT (AN 4) (.loop Ug) qh.lp:=dn.snd WM V9 (aZ (Γ:=sV) (K:=XM) (L:=(mP Tryz.prog aT sV XM 20 2)) vw ahQ Ug (fun b _=>cu vw ahQ 20 2 b)) (fun s=>by kernel_rfl)
theorem akT (s:kW) (hE:U7 s):∃s',CU s'∧ajz (abE s) s' (iy s):=dn.fin WM V9 s hE
theorem akS (s:kW) (hE:U7 s):(fun (x:Ex) (s':kW) (v:List Int)=>x=.exit 0∧sortB (ltD s'.b0 s'.b1) s'.data=v) (abE s) (iy s) ((fun s:kW=>sortB (ltD s.b0 s.b1) s.data) s):=by
 exact dn.rC WM V9 (fun s:kW=>sortB (ltD s.b0 s.b1) s.data) (fun x s' v=>x=.exit 0∧sortB (ltD s'.b0 s'.b1) s'.data=v) (fun s hI=>by
  show bY _ _ (aa9 s)
  unfold aa9 QM
  dsimp only [T.rd,T.rl]
  have hin:=fun c1=>NM s hI c1
  obtain ⟨⟨h0,h1,⟨h2,h3⟩,h4⟩,h5,⟨⟨k0,k1⟩,k2,k3⟩,h6⟩:=hI
  refine ai (fun c1=>?_) (fun c1=>⟨rfl,rfl⟩)
  have c1:s.b≤s.n:=by simpa using c1
  have q2:(iO (qH s)).data=fK (ltD s.b0 s.b1) s.data s.a s.b:=(FZ _ (hin c1)).2
  show sortB _ (iO (qH s)).data=sortB _ s.data
  rw [q2]
  exact oD di (gW (by omega))) s hE
end Go.Proofs.YtlihnbimgclogaaGreatDoor
namespace Go.Proofs.YtlihnbimgclogaaGreatDoor
open Go.Sx
structure dI where
 a:Int
 m:Int
 b:Int
 b0:List Dm
 b1:Int
 data:List Int
def J5 (s:dI):List LV:=[.os 2 1 0 (List.length s.data),.v (.int .i64 s.a),.v (.int .i64 s.m),.v (.int .i64 s.b),.fn 45 [.own 0 0,.own 3 0]]
def jW (s:dI):List aS:=[⟨[.xl jc s.b0],31,.cl,false⟩,⟨[.v (.int .i64 s.b1)],3,.cl,false⟩,⟨[],3,.vec (.int .i64) s.data,false⟩,⟨[.fn 43 [.own 0 0,.own 1 0]],84,.cl,false⟩]
structure wz where
 a:Int
 i:Int
 j:Int
 b0:List Dm
 b1:Int
 data:List Int
def aCq (s:wz):List LV:=[.os 2 1 0 (List.length s.data),.v (.int .i64 s.a),.fn 45 [.own 0 0,.own 3 0],.v (.int .i64 s.i),.v (.int .i64 s.j)]
def aCd (s:wz):List aS:=[⟨[.xl jc s.b0],31,.cl,false⟩,⟨[.v (.int .i64 s.b1)],3,.cl,false⟩,⟨[],3,.vec (.int .i64) s.data,false⟩,⟨[.fn 43 [.own 0 0,.own 1 0]],84,.cl,false⟩]
noncomputable def ab7:Code:=((ay (Tryz.f121.body.getD .skip))[0]?).getD .skip
def aeU (s:wz):T (Rd wz):=
 .br (decide (s.i<s.j)) (.req (0≤(IntKind.i64.wrap ((IntKind.u64.wrap (IntKind.i64.wrap (s.i+s.j))).fdiv (2^1)))∧(IntKind.i64.wrap ((IntKind.u64.wrap (IntKind.i64.wrap (s.i+s.j))).fdiv (2^1)))<((List.length s.data:Nat):Int)) (.req ((IntKind.i64.wrap ((IntKind.u64.wrap (IntKind.i64.wrap (s.i+s.j))).fdiv (2^1))).toNat<List.length s.data) (.req (0≤s.a∧s.a<((List.length s.data:Nat):Int)) (.req (s.a.toNat<List.length s.data) (.req (s.b0=s.b0∧kL s.b0 s.b1∧(0≤(s.data.getD (IntKind.i64.wrap ((IntKind.u64.wrap (IntKind.i64.wrap (s.i+s.j))).fdiv (2^1))).toNat (Ty.dflt (.int .i64)))∧(s.data.getD (IntKind.i64.wrap ((IntKind.u64.wrap (IntKind.i64.wrap (s.i+s.j))).fdiv (2^1))).toNat (Ty.dflt (.int .i64)))<(List.length s.b0:Int))∧0≤(s.data.getD s.a.toNat (Ty.dflt (.int .i64)))∧(s.data.getD s.a.toNat (Ty.dflt (.int .i64)))<(List.length s.b0:Int)) (.br (decide ((cmD s.b0 s.b1 (s.data.getD (IntKind.i64.wrap ((IntKind.u64.wrap (IntKind.i64.wrap (s.i+s.j))).fdiv (2^1))).toNat (Ty.dflt (.int .i64))) (s.data.getD s.a.toNat (Ty.dflt (.int .i64))))<0)) (.rl s.data (.ok (.next {s with i:=(IntKind.i64.wrap ((IntKind.i64.wrap ((IntKind.u64.wrap (IntKind.i64.wrap (s.i+s.j))).fdiv (2^1)))+1))}))) (.rl s.data (.ok (.next {s with j:=(IntKind.i64.wrap ((IntKind.u64.wrap (IntKind.i64.wrap (s.i+s.j))).fdiv (2^1)))}))))))))) (.rl s.data (.ok (.stop (.exit 0) s)))
abbrev anS (s:wz):=(aeU s).rd s
def aoR (s:wz):Prop:=((0≤s.i∧s.i≤s.j)∧s.j≤(List.length s.data:Int))∧((s.data.length=s.b0.length∧(List.length s.data:Int)≤1000)∧vG s.data s.b0.length∧kL s.b0 s.b1)∧0≤s.a∧s.a<(List.length s.data:Int)
def akb (s:wz):Prop:=((0≤s.i∧s.i≤s.j)∧s.j≤(List.length s.data:Int))∧((s.data.length=s.b0.length∧(List.length s.data:Int)≤1000)∧vG s.data s.b0.length∧kL s.b0 s.b1)∧0≤s.a∧s.a<(List.length s.data:Int)
def SX (s:wz):Nat:=(s.j-s.i).toNat
def azI (x:Ex) (_ _:wz):Prop:=x=.exit 0
theorem aBG:∀s,aoR s→akb s:=by
 exact fun s h=>h
theorem aw2 (s:wz) (hI:akb s):bY (fun s'=>akb s'∧SX s'<SX s) (fun x s'=>azI x s s') (anS s):=by
 unfold anS aeU
 dsimp only [T.rd,T.rl]
 obtain ⟨⟨⟨h0,h1⟩,h2⟩,⟨⟨k0,k1⟩,k2,k3⟩,g0,g1⟩:=hI
 refine ai (fun c1=>?_) (fun c1=>rfl)
 have c1:s.i<s.j:=by simpa using c1
 rw [hlf (x:=s.i+s.j) (by omega) (by omega),aF (x:=(s.i+s.j) / 2+1) (by omega) (by omega)]
 refine ai (fun c2=>?_) (fun c2=>?_)
 ·exact ⟨⟨⟨⟨by simp only;omega,by simp only;omega⟩,h2⟩,⟨⟨k0,k1⟩,k2,k3⟩,g0,g1⟩,by simp only [SX];omega⟩
 ·exact ⟨⟨⟨⟨h0,by simp only;omega⟩,by simp only;omega⟩,⟨⟨k0,k1⟩,k2,k3⟩,g0,g1⟩,by simp only [SX];omega⟩
def zN:dn wz:=⟨4,220,[0,1,4,10,11],[],aCq,aCd,fun v b=>⟨gI (v.getD 1 .junk),gI (v.getD 3 .junk),gI (v.getD 4 .junk),bf jc (bC (aV b 0) 0),gI (bC (aV b 1) 0),jm (.int .i64) (aV b 2)⟩,aeU,fun s r=> {r with a:=s.a,b0:=s.b0,b1:=s.b1,data:=s.data},fun s=>s,fun _ s=>s,[.exit 0],aoR,akb,SX⟩
abbrev Dj:=zN.run
abbrev au5:=zN.lU
abbrev azM:=zN.q
noncomputable def gq:Specs:=bn [(43,kE),(45,qU)]
theorem gK:∀g S,gq g=some S→Valid Tryz.prog aT g S:=aX (l:=[(43,kE),(45,qU)]) ⟨wH,Gw,trivial⟩
noncomputable def XL:Hand:=inl Tryz.prog aT gq (dG 84 4 2 (qh.lp) (dG 120 4 1 (pz.lp) (jo Tryz.prog aT (gq) 20 2))) 9
theorem ahP:cO Tryz.prog aT XL:=bJ gK (aP Tryz.func84 rfl (by kernel_rfl) oG (aP Tryz.func120 rfl (by kernel_rfl) mW (dw gK))) 9
theorem axJ (s:wz) (hI:akb s):(aeU s).all (fun _=>True):=by
 refine ⟨fun c1=>⟨?_,?_,?_,?_,?_,fun c2=>⟨⟨rfl,rfl⟩,trivial⟩,fun c2=>⟨⟨rfl,rfl⟩,trivial⟩⟩,fun c1=>⟨⟨rfl,rfl⟩,trivial⟩⟩
 all_goals ((obtain ⟨⟨⟨h0,h1⟩,h2⟩,⟨⟨k0,k1⟩,k2,k3⟩,g0,g1⟩:=hI;simp only [decide_eq_true_eq] at c1;have hh:=hlf (x:=s.i+s.j) (by omega) (by omega);(try rw [hh]);first|omega|exact ⟨rfl,k3,xk k2 (by omega) (by omega),xk k2 (by omega) (by omega)⟩))
theorem apu:zN.Ok:=⟨fun s=>by kernel_rfl,fun s=>by kernel_rfl,fun s=>rfl,fun s t r=>rfl,fun s=>rfl,fun s=>by kernel_rfl⟩
theorem apf:zN.Pf (azI):=⟨aBG,fun _ _=>rfl,aw2,axJ⟩
theorem uO:bG Tryz.prog aT (AN 4) (.loop ab7) zN.lp:=dn.snd apu apf (aZ (Γ:=gq) (K:=XL) (L:=(mP Tryz.prog aT gq XL 20 2)) gK ahP ab7 (fun b _=>cu gK ahP 20 2 b)) (fun s=>by kernel_rfl)
theorem ari (s:wz) (hE:aoR s):(fun (x:Ex) (s':wz) (v:Int)=>x=.exit 0∧s'.i=v) (au5 s) (Dj s) ((fun s:wz=>wE (fun h=>ltD s.b0 s.b1 (gi s.data h) (gi s.data s.a)) s.i s.j) s):=by
 exact dn.rC apu apf (fun s:wz=>wE (fun h=>ltD s.b0 s.b1 (gi s.data h) (gi s.data s.a)) s.i s.j) (fun x s' v=>x=.exit 0∧s'.i=v) (fun s hI=>by
  show bY _ _ (anS s)
  unfold anS aeU
  dsimp only [T.rd,T.rl]
  obtain ⟨⟨⟨h0,h1⟩,h2⟩,⟨⟨k0,k1⟩,k2,k3⟩,g0,g1⟩:=hI
  refine ai (fun c1=>?_) (fun c1=>?_)
  ·have c1:s.i<s.j:=by simpa using c1
   rw [hlf (x:=s.i+s.j) (by omega) (by omega),aF (x:=(s.i+s.j) / 2+1) (by omega) (by omega)]
   refine ai (fun c2=>?_) (fun c2=>?_)
   ·show wE _ _ _=wE _ _ _
    conv=>rhs;rw [qP c1]
    exact (if_pos (by exact c2)).symm
   ·show wE _ _ _=wE _ _ _
    conv=>rhs;rw [qP c1]
    exact (if_neg (fun hh=>absurd ((show true=_ from hh.symm).trans c2) (by decide))).symm
  ·have c1:s.j≤s.i:=by simpa using c1
   exact ⟨rfl,(Gj (by omega)).symm⟩) s hE
structure wo where
 i:Int
 k:Int
 b0:List Dm
 b1:Int
 data:List Int
def aCn (s:wo):List LV:=[.os 2 1 0 (List.length s.data),.v (.int .i64 s.i),.v (.int .i64 s.k)]
def aCa (s:wo):List aS:=[⟨[.xl jc s.b0],31,.cl,false⟩,⟨[.v (.int .i64 s.b1)],3,.cl,false⟩,⟨[],3,.vec (.int .i64) s.data,false⟩,⟨[.fn 43 [.own 0 0,.own 1 0]],84,.cl,false⟩]
noncomputable def ab4:Code:=((ay (Tryz.f121.body.getD .skip))[1]?).getD .skip
def aeR (s:wo):T (Rd wo):=
 .br (decide (s.k<(IntKind.i64.wrap (s.i-1)))) (.req (0≤(IntKind.i64.wrap (s.k+1))∧(IntKind.i64.wrap (s.k+1))<((List.length s.data:Nat):Int)) (.req (0≤s.k∧s.k<((List.length s.data:Nat):Int)) (.req ((IntKind.i64.wrap (s.k+1)).toNat<List.length s.data) (.req (s.k.toNat<List.length s.data) (.req (0≤s.k∧s.k<((List.length s.data:Nat):Int)) (.req (s.k.toNat<List.length s.data) (.req (0≤(IntKind.i64.wrap (s.k+1))∧(IntKind.i64.wrap (s.k+1))<((List.length s.data:Nat):Int)) (.req ((IntKind.i64.wrap (s.k+1)).toNat<List.length (s.data.set s.k.toNat (s.data.getD (IntKind.i64.wrap (s.k+1)).toNat (Ty.dflt (.int .i64))))) (.req (0=0∧(List.length s.data)=List.length ((s.data.set s.k.toNat (s.data.getD (IntKind.i64.wrap (s.k+1)).toNat (Ty.dflt (.int .i64)))).set (IntKind.i64.wrap (s.k+1)).toNat (s.data.getD s.k.toNat (Ty.dflt (.int .i64))))) (.ok (.next {s with k:=(IntKind.i64.wrap (s.k+1)),data:=((s.data.set s.k.toNat (s.data.getD (IntKind.i64.wrap (s.k+1)).toNat (Ty.dflt (.int .i64)))).set (IntKind.i64.wrap (s.k+1)).toNat (s.data.getD s.k.toNat (Ty.dflt (.int .i64))))}))))))))))) (.rl s.data (.ok (.stop (.exit 2) s)))
abbrev anP (s:wo):=(aeR s).rd s
def aoP (s:wo):Prop:=(0≤s.k∧s.k≤s.i-1)∧s.i≤(List.length s.data:Int)∧(List.length s.data:Int)≤1000
def aj7 (s:wo):Prop:=(0≤s.k∧s.k≤s.i-1)∧s.i≤(List.length s.data:Int)∧(List.length s.data:Int)≤1000
def aav (s:wo):Nat:=(s.i-s.k).toNat
def azF (x:Ex) (_ _:wo):Prop:=x=.exit 2
theorem aBD:∀s,aoP s→aj7 s:=by
 exact fun s h=>h
theorem awZ (s:wo) (hI:aj7 s):bY (fun s'=>aj7 s'∧aav s'<aav s) (fun x s'=>azF x s s') (anP s):=by
 unfold anP aeR
 dsimp only [T.rd,T.rl]
 obtain ⟨⟨h0,h1⟩,h2⟩:=hI
 refine ai (fun c1=>?_) (fun c1=>rfl)
 rw [aF (x:=s.i-1) (by omega) (by omega)] at c1
 have c1:s.k<s.i-1:=by simpa using c1
 try rw [aF (x:=s.k+1) (by omega) (by omega)]
 exact ⟨⟨⟨by simp only;omega,by simp only;omega⟩,by simp only [List.length_set];exact h2⟩,by simp only [aav];omega⟩
def CX:dn wo:=⟨4,220,[0,10,13],[],aCn,aCa,fun v b=>⟨gI (v.getD 1 .junk),gI (v.getD 2 .junk),bf jc (bC (aV b 0) 0),gI (bC (aV b 1) 0),jm (.int .i64) (aV b 2)⟩,aeR,fun s r=> {r with i:=s.i,b0:=s.b0,b1:=s.b1},fun s=>s,fun _ s=>s,[.exit 2],aoP,aj7,aav⟩
abbrev VQ:=CX.run
abbrev au2:=CX.lU
abbrev azK:=CX.q
noncomputable def XK:Hand:=inl Tryz.prog aT gq (dG 121 4 3 (zN.lp) (dG 84 4 2 (qh.lp) (dG 120 4 1 (pz.lp) (jo Tryz.prog aT (gq) 20 2)))) 9
theorem ahO:cO Tryz.prog aT XK:=bJ gK (aP Tryz.func121 rfl (by kernel_rfl) uO (aP Tryz.func84 rfl (by kernel_rfl) oG (aP Tryz.func120 rfl (by kernel_rfl) mW (dw gK)))) 9
theorem axG (s:wo) (hI:aj7 s):(aeR s).all (fun _=>True):=by
 refine ⟨fun c1=>⟨?_,?_,?_,?_,?_,?_,?_,?_,?_,trivial⟩,fun c1=>⟨⟨rfl,rfl⟩,trivial⟩⟩
 all_goals ((obtain ⟨⟨h0,h1⟩,h2⟩:=hI;simp only [decide_eq_true_eq] at c1;rw [aF (x:=s.i-1) (by omega) (by omega)] at c1;have c1:s.k<s.i-1:=c1;(try rw [aF (x:=s.k+1) (by omega) (by omega)]);first|omega|(simp only [List.length_set];omega) |exact ⟨rfl,by simp⟩))
theorem apr:CX.Ok:=⟨fun s=>by kernel_rfl,fun s=>by kernel_rfl,fun s=>rfl,fun s t r=>rfl,fun s=>rfl,fun s=>by kernel_rfl⟩
theorem apc:CX.Pf (azF):=⟨aBD,fun _ _=>rfl,awZ,axG⟩
theorem wJ:bG Tryz.prog aT (AN 4) (.loop ab4) CX.lp:=dn.snd apr apc (aZ (Γ:=gq) (K:=XK) (L:=(mP Tryz.prog aT gq XK 20 2)) gK ahO ab4 (fun b _=>cu gK ahO 20 2 b)) (fun s=>by kernel_rfl)
theorem arf (s:wo) (hE:aoP s):(fun (x:Ex) (s':wo) (v:List Int)=>x=.exit 2∧s'.data=v) (au2 s) (VQ s) ((fun s:wo=>fD s.data s.k (s.k+1) s.i) s):=by
 exact dn.rC apr apc (fun s:wo=>fD s.data s.k (s.k+1) s.i) (fun x s' v=>x=.exit 2∧s'.data=v) (fun s hI=>by
  show bY _ _ (anP s)
  unfold anP aeR
  dsimp only [T.rd,T.rl]
  obtain ⟨⟨h0,h1⟩,h2⟩:=hI
  refine ai (fun c1=>?_) (fun c1=>?_)
  ·rw [aF (x:=s.i-1) (by omega) (by omega)] at c1
   have c1:s.k<s.i-1:=by simpa using c1
   try rw [aF (x:=s.k+1) (by omega) (by omega)]
   show fD (Vu s.data s.k (s.k+1)) (s.k+1) (s.k+1+1) s.i=_
   rw [show s.k+1+1=s.k+2 by omega]
   exact atx h0 c1 h2.1
  ·rw [aF (x:=s.i-1) (by omega) (by omega)] at c1
   have c1:s.i-1≤s.k:=by simpa using c1
   refine ⟨rfl,?_⟩
   rw [show s.k+1=s.i by omega,VU]) s hE
structure wu where
 m:Int
 i:Int
 j:Int
 b0:List Dm
 b1:Int
 data:List Int
def aCp (s:wu):List LV:=[.os 2 1 0 (List.length s.data),.v (.int .i64 s.m),.fn 45 [.own 0 0,.own 3 0],.v (.int .i64 s.i),.v (.int .i64 s.j)]
def aCc (s:wu):List aS:=[⟨[.xl jc s.b0],31,.cl,false⟩,⟨[.v (.int .i64 s.b1)],3,.cl,false⟩,⟨[],3,.vec (.int .i64) s.data,false⟩,⟨[.fn 43 [.own 0 0,.own 1 0]],84,.cl,false⟩]
noncomputable def ab6:Code:=((ay (Tryz.f121.body.getD .skip))[2]?).getD .skip
def aeT (s:wu):T (Rd wu):=
 .br (decide (s.i<s.j)) (.req (0≤s.m∧s.m<((List.length s.data:Nat):Int)) (.req (s.m.toNat<List.length s.data) (.req (0≤(IntKind.i64.wrap ((IntKind.u64.wrap (IntKind.i64.wrap (s.i+s.j))).fdiv (2^1)))∧(IntKind.i64.wrap ((IntKind.u64.wrap (IntKind.i64.wrap (s.i+s.j))).fdiv (2^1)))<((List.length s.data:Nat):Int)) (.req ((IntKind.i64.wrap ((IntKind.u64.wrap (IntKind.i64.wrap (s.i+s.j))).fdiv (2^1))).toNat<List.length s.data) (.req (s.b0=s.b0∧kL s.b0 s.b1∧(0≤(s.data.getD s.m.toNat (Ty.dflt (.int .i64)))∧(s.data.getD s.m.toNat (Ty.dflt (.int .i64)))<(List.length s.b0:Int))∧0≤(s.data.getD (IntKind.i64.wrap ((IntKind.u64.wrap (IntKind.i64.wrap (s.i+s.j))).fdiv (2^1))).toNat (Ty.dflt (.int .i64)))∧(s.data.getD (IntKind.i64.wrap ((IntKind.u64.wrap (IntKind.i64.wrap (s.i+s.j))).fdiv (2^1))).toNat (Ty.dflt (.int .i64)))<(List.length s.b0:Int)) (.br (!(decide ((cmD s.b0 s.b1 (s.data.getD s.m.toNat (Ty.dflt (.int .i64))) (s.data.getD (IntKind.i64.wrap ((IntKind.u64.wrap (IntKind.i64.wrap (s.i+s.j))).fdiv (2^1))).toNat (Ty.dflt (.int .i64))))<0))) (.rl s.data (.ok (.next {s with i:=(IntKind.i64.wrap ((IntKind.i64.wrap ((IntKind.u64.wrap (IntKind.i64.wrap (s.i+s.j))).fdiv (2^1)))+1))}))) (.rl s.data (.ok (.next {s with j:=(IntKind.i64.wrap ((IntKind.u64.wrap (IntKind.i64.wrap (s.i+s.j))).fdiv (2^1)))}))))))))) (.rl s.data (.ok (.stop (.exit 4) s)))
abbrev anR (s:wu):=(aeT s).rd s
def aoQ (s:wu):Prop:=((0≤s.i∧s.i≤s.j)∧s.j≤(List.length s.data:Int))∧((s.data.length=s.b0.length∧(List.length s.data:Int)≤1000)∧vG s.data s.b0.length∧kL s.b0 s.b1)∧0≤s.m∧s.m<(List.length s.data:Int)
def aj9 (s:wu):Prop:=((0≤s.i∧s.i≤s.j)∧s.j≤(List.length s.data:Int))∧((s.data.length=s.b0.length∧(List.length s.data:Int)≤1000)∧vG s.data s.b0.length∧kL s.b0 s.b1)∧0≤s.m∧s.m<(List.length s.data:Int)
def SV (s:wu):Nat:=(s.j-s.i).toNat
def azH (x:Ex) (_ _:wu):Prop:=x=.exit 4
theorem aBF:∀s,aoQ s→aj9 s:=by
 exact fun s h=>h
theorem aw1 (s:wu) (hI:aj9 s):bY (fun s'=>aj9 s'∧SV s'<SV s) (fun x s'=>azH x s s') (anR s):=by
 unfold anR aeT
 dsimp only [T.rd,T.rl]
 obtain ⟨⟨⟨h0,h1⟩,h2⟩,⟨⟨k0,k1⟩,k2,k3⟩,g0,g1⟩:=hI
 refine ai (fun c1=>?_) (fun c1=>rfl)
 have c1:s.i<s.j:=by simpa using c1
 rw [hlf (x:=s.i+s.j) (by omega) (by omega),aF (x:=(s.i+s.j) / 2+1) (by omega) (by omega)]
 refine ai (fun c2=>?_) (fun c2=>?_)
 ·exact ⟨⟨⟨⟨by simp only;omega,by simp only;omega⟩,h2⟩,⟨⟨k0,k1⟩,k2,k3⟩,g0,g1⟩,by simp only [SV];omega⟩
 ·exact ⟨⟨⟨⟨h0,by simp only;omega⟩,by simp only;omega⟩,⟨⟨k0,k1⟩,k2,k3⟩,g0,g1⟩,by simp only [SV];omega⟩
def Ea:dn wu:=⟨4,220,[0,2,4,14,15],[],aCp,aCc,fun v b=>⟨gI (v.getD 1 .junk),gI (v.getD 3 .junk),gI (v.getD 4 .junk),bf jc (bC (aV b 0) 0),gI (bC (aV b 1) 0),jm (.int .i64) (aV b 2)⟩,aeT,fun s r=> {r with m:=s.m,b0:=s.b0,b1:=s.b1,data:=s.data},fun s=>s,fun _ s=>s,[.exit 4],aoQ,aj9,SV⟩
abbrev G5:=Ea.run
abbrev au4:=Ea.lU
abbrev azL:=Ea.q
noncomputable def XJ:Hand:=inl Tryz.prog aT gq (dG 121 4 9 (CX.lp) (dG 121 4 3 (zN.lp) (dG 84 4 2 (qh.lp) (dG 120 4 1 (pz.lp) (jo Tryz.prog aT (gq) 20 2))))) 9
theorem ahN:cO Tryz.prog aT XJ:=bJ gK (aP Tryz.func121 rfl (by kernel_rfl) wJ (aP Tryz.func121 rfl (by kernel_rfl) uO (aP Tryz.func84 rfl (by kernel_rfl) oG (aP Tryz.func120 rfl (by kernel_rfl) mW (dw gK))))) 9
theorem axI (s:wu) (hI:aj9 s):(aeT s).all (fun _=>True):=by
 refine ⟨fun c1=>⟨?_,?_,?_,?_,?_,fun c2=>⟨⟨rfl,rfl⟩,trivial⟩,fun c2=>⟨⟨rfl,rfl⟩,trivial⟩⟩,fun c1=>⟨⟨rfl,rfl⟩,trivial⟩⟩
 all_goals ((obtain ⟨⟨⟨h0,h1⟩,h2⟩,⟨⟨k0,k1⟩,k2,k3⟩,g0,g1⟩:=hI;simp only [decide_eq_true_eq] at c1;have hh:=hlf (x:=s.i+s.j) (by omega) (by omega);(try rw [hh]);first|omega|exact ⟨rfl,k3,xk k2 (by omega) (by omega),xk k2 (by omega) (by omega)⟩))
theorem apt:Ea.Ok:=⟨fun s=>by kernel_rfl,fun s=>by kernel_rfl,fun s=>rfl,fun s t r=>rfl,fun s=>rfl,fun s=>by kernel_rfl⟩
theorem ape:Ea.Pf (azH):=⟨aBF,fun _ _=>rfl,aw1,axI⟩
theorem zi:bG Tryz.prog aT (AN 4) (.loop ab6) Ea.lp:=dn.snd apt ape (aZ (Γ:=gq) (K:=XJ) (L:=(mP Tryz.prog aT gq XJ 20 2)) gK ahN ab6 (fun b _=>cu gK ahN 20 2 b)) (fun s=>by kernel_rfl)
theorem arh (s:wu) (hE:aoQ s):(fun (x:Ex) (s':wu) (v:Int)=>x=.exit 4∧s'.i=v) (au4 s) (G5 s) ((fun s:wu=>wE (fun h=>!ltD s.b0 s.b1 (gi s.data s.m) (gi s.data h)) s.i s.j) s):=by
 exact dn.rC apt ape (fun s:wu=>wE (fun h=>!ltD s.b0 s.b1 (gi s.data s.m) (gi s.data h)) s.i s.j) (fun x s' v=>x=.exit 4∧s'.i=v) (fun s hI=>by
  show bY _ _ (anR s)
  unfold anR aeT
  dsimp only [T.rd,T.rl]
  obtain ⟨⟨⟨h0,h1⟩,h2⟩,⟨⟨k0,k1⟩,k2,k3⟩,g0,g1⟩:=hI
  refine ai (fun c1=>?_) (fun c1=>?_)
  ·have c1:s.i<s.j:=by simpa using c1
   rw [hlf (x:=s.i+s.j) (by omega) (by omega),aF (x:=(s.i+s.j) / 2+1) (by omega) (by omega)]
   refine ai (fun c2=>?_) (fun c2=>?_)
   ·show wE _ _ _=wE _ _ _
    conv=>rhs;rw [qP c1]
    exact (if_pos (by exact c2)).symm
   ·show wE _ _ _=wE _ _ _
    conv=>rhs;rw [qP c1]
    exact (if_neg (fun hh=>absurd ((show true=_ from hh.symm).trans c2) (by decide))).symm
  ·have c1:s.j≤s.i:=by simpa using c1
   exact ⟨rfl,(Gj (by omega)).symm⟩) s hE
structure vZ where
 i:Int
 k:Int
 b0:List Dm
 b1:Int
 data:List Int
def aCm (s:vZ):List LV:=[.os 2 1 0 (List.length s.data),.v (.int .i64 s.i),.v (.int .i64 s.k)]
def aB9 (s:vZ):List aS:=[⟨[.xl jc s.b0],31,.cl,false⟩,⟨[.v (.int .i64 s.b1)],3,.cl,false⟩,⟨[],3,.vec (.int .i64) s.data,false⟩,⟨[.fn 43 [.own 0 0,.own 1 0]],84,.cl,false⟩]
noncomputable def ab3:Code:=((ay (Tryz.f121.body.getD .skip))[3]?).getD .skip
def aeQ (s:vZ):T (Rd vZ):=
 .br (decide (s.k>s.i)) (.req (0≤(IntKind.i64.wrap (s.k-1))∧(IntKind.i64.wrap (s.k-1))<((List.length s.data:Nat):Int)) (.req (0≤s.k∧s.k<((List.length s.data:Nat):Int)) (.req ((IntKind.i64.wrap (s.k-1)).toNat<List.length s.data) (.req (s.k.toNat<List.length s.data) (.req (0≤s.k∧s.k<((List.length s.data:Nat):Int)) (.req (s.k.toNat<List.length s.data) (.req (0≤(IntKind.i64.wrap (s.k-1))∧(IntKind.i64.wrap (s.k-1))<((List.length s.data:Nat):Int)) (.req ((IntKind.i64.wrap (s.k-1)).toNat<List.length (s.data.set s.k.toNat (s.data.getD (IntKind.i64.wrap (s.k-1)).toNat (Ty.dflt (.int .i64))))) (.req (0=0∧(List.length s.data)=List.length ((s.data.set s.k.toNat (s.data.getD (IntKind.i64.wrap (s.k-1)).toNat (Ty.dflt (.int .i64)))).set (IntKind.i64.wrap (s.k-1)).toNat (s.data.getD s.k.toNat (Ty.dflt (.int .i64))))) (.ok (.next {s with k:=(IntKind.i64.wrap (s.k-1)),data:=((s.data.set s.k.toNat (s.data.getD (IntKind.i64.wrap (s.k-1)).toNat (Ty.dflt (.int .i64)))).set (IntKind.i64.wrap (s.k-1)).toNat (s.data.getD s.k.toNat (Ty.dflt (.int .i64))))}))))))))))) (.rl s.data (.ok (.stop (.exit 6) s)))
abbrev anO (s:vZ):=(aeQ s).rd s
def aoO (s:vZ):Prop:=(0≤s.i∧s.i≤s.k)∧s.k<(List.length s.data:Int)∧(List.length s.data:Int)≤1000
def aj6 (s:vZ):Prop:=(0≤s.i∧s.i≤s.k)∧s.k<(List.length s.data:Int)∧(List.length s.data:Int)≤1000
def aau (s:vZ):Nat:=(s.k-s.i).toNat
def azE (x:Ex) (_ _:vZ):Prop:=x=.exit 6
theorem aBC:∀s,aoO s→aj6 s:=by
 exact fun s h=>h
theorem awY (s:vZ) (hI:aj6 s):bY (fun s'=>aj6 s'∧aau s'<aau s) (fun x s'=>azE x s s') (anO s):=by
 unfold anO aeQ
 dsimp only [T.rd,T.rl]
 obtain ⟨⟨h0,h1⟩,h2⟩:=hI
 refine ai (fun c1=>?_) (fun c1=>rfl)
 have c1:s.i<s.k:=by simpa using c1
 try rw [aF (x:=s.k-1) (by omega) (by omega)]
 exact ⟨⟨⟨h0,by simp only;omega⟩,by simp only [List.length_set];omega⟩,by simp only [aau];omega⟩
def FH:dn vZ:=⟨4,220,[0,14,17],[],aCm,aB9,fun v b=>⟨gI (v.getD 1 .junk),gI (v.getD 2 .junk),bf jc (bC (aV b 0) 0),gI (bC (aV b 1) 0),jm (.int .i64) (aV b 2)⟩,aeQ,fun s r=> {r with i:=s.i,b0:=s.b0,b1:=s.b1},fun s=>s,fun _ s=>s,[.exit 6],aoO,aj6,aau⟩
abbrev VP:=FH.run
abbrev au1:=FH.lU
abbrev azJ:=FH.q
noncomputable def XI:Hand:=inl Tryz.prog aT gq (dG 121 4 15 (Ea.lp) (dG 121 4 9 (CX.lp) (dG 121 4 3 (zN.lp) (dG 84 4 2 (qh.lp) (dG 120 4 1 (pz.lp) (jo Tryz.prog aT (gq) 20 2)))))) 9
theorem ahM:cO Tryz.prog aT XI:=bJ gK (aP Tryz.func121 rfl (by kernel_rfl) zi (aP Tryz.func121 rfl (by kernel_rfl) wJ (aP Tryz.func121 rfl (by kernel_rfl) uO (aP Tryz.func84 rfl (by kernel_rfl) oG (aP Tryz.func120 rfl (by kernel_rfl) mW (dw gK)))))) 9
theorem axF (s:vZ) (hI:aj6 s):(aeQ s).all (fun _=>True):=by
 refine ⟨fun c1=>⟨?_,?_,?_,?_,?_,?_,?_,?_,?_,trivial⟩,fun c1=>⟨⟨rfl,rfl⟩,trivial⟩⟩
 all_goals ((obtain ⟨⟨h0,h1⟩,h2⟩:=hI;simp only [decide_eq_true_eq,gt_iff_lt] at c1;have c1:s.i<s.k:=c1;(try rw [aF (x:=s.k-1) (by omega) (by omega)]);first|omega|(simp only [List.length_set];omega) |exact ⟨rfl,by simp⟩))
theorem apq:FH.Ok:=⟨fun s=>by kernel_rfl,fun s=>by kernel_rfl,fun s=>rfl,fun s t r=>rfl,fun s=>rfl,fun s=>by kernel_rfl⟩
theorem apb:FH.Pf (azE):=⟨aBC,fun _ _=>rfl,awY,axF⟩
theorem Df:bG Tryz.prog aT (AN 4) (.loop ab3) FH.lp:=dn.snd apq apb (aZ (Γ:=gq) (K:=XI) (L:=(mP Tryz.prog aT gq XI 20 2)) gK ahM ab3 (fun b _=>cu gK ahM 20 2 b)) (fun s=>by kernel_rfl)
theorem ard (s:vZ) (hE:aoO s):(fun (x:Ex) (s':vZ) (v:List Int)=>x=.exit 6∧s'.data=v) (au1 s) (VP s) ((fun s:vZ=>fD s.data s.i s.k (s.k+1)) s):=by
 exact dn.rC apq apb (fun s:vZ=>fD s.data s.i s.k (s.k+1)) (fun x s' v=>x=.exit 6∧s'.data=v) (fun s hI=>by
  show bY _ _ (anO s)
  unfold anO aeQ
  dsimp only [T.rd,T.rl]
  obtain ⟨⟨h0,h1⟩,h2⟩:=hI
  refine ai (fun c1=>?_) (fun c1=>?_)
  ·have c1:s.i<s.k:=by simpa using c1
   try rw [aF (x:=s.k-1) (by omega) (by omega)]
   show fD (Vu s.data s.k (s.k-1)) s.i (s.k-1) (s.k-1+1)=_
   rw [show s.k-1+1=s.k by omega]
   exact aty h0 c1 h2.1
  ·have c1:s.k≤s.i:=by simpa using c1
   refine ⟨rfl,?_⟩
   rw [show s.k=s.i by omega,N9]) s hE
structure uz where
 a:Int
 m:Int
 b:Int
 mid:Int
 n:Int
 start:Int
 r:Int
 p:Int
 b0:List Dm
 b1:Int
 data:List Int
def aCo (s:uz):List LV:=[.os 2 1 0 (List.length s.data),.v (.int .i64 s.a),.v (.int .i64 s.m),.v (.int .i64 s.b),.fn 45 [.own 0 0,.own 3 0],.v (.int .i64 s.mid),.v (.int .i64 s.n),.v (.int .i64 s.start),.v (.int .i64 s.r),.v (.int .i64 s.p)]
def aCb (s:uz):List aS:=[⟨[.xl jc s.b0],31,.cl,false⟩,⟨[.v (.int .i64 s.b1)],3,.cl,false⟩,⟨[],3,.vec (.int .i64) s.data,false⟩,⟨[.fn 43 [.own 0 0,.own 1 0]],84,.cl,false⟩]
noncomputable def ab5:Code:=((ay (Tryz.f121.body.getD .skip))[4]?).getD .skip
def aeS (s:uz):T (Rd uz):=
 .br (decide (s.start<s.r)) (.req (0≤(IntKind.i64.wrap (s.p-(IntKind.i64.wrap ((IntKind.u64.wrap (IntKind.i64.wrap (s.start+s.r))).fdiv (2^1)))))∧(IntKind.i64.wrap (s.p-(IntKind.i64.wrap ((IntKind.u64.wrap (IntKind.i64.wrap (s.start+s.r))).fdiv (2^1)))))<((List.length s.data:Nat):Int)) (.req ((IntKind.i64.wrap (s.p-(IntKind.i64.wrap ((IntKind.u64.wrap (IntKind.i64.wrap (s.start+s.r))).fdiv (2^1))))).toNat<List.length s.data) (.req (0≤(IntKind.i64.wrap ((IntKind.u64.wrap (IntKind.i64.wrap (s.start+s.r))).fdiv (2^1)))∧(IntKind.i64.wrap ((IntKind.u64.wrap (IntKind.i64.wrap (s.start+s.r))).fdiv (2^1)))<((List.length s.data:Nat):Int)) (.req ((IntKind.i64.wrap ((IntKind.u64.wrap (IntKind.i64.wrap (s.start+s.r))).fdiv (2^1))).toNat<List.length s.data) (.req (s.b0=s.b0∧kL s.b0 s.b1∧(0≤(s.data.getD (IntKind.i64.wrap (s.p-(IntKind.i64.wrap ((IntKind.u64.wrap (IntKind.i64.wrap (s.start+s.r))).fdiv (2^1))))).toNat (Ty.dflt (.int .i64)))∧(s.data.getD (IntKind.i64.wrap (s.p-(IntKind.i64.wrap ((IntKind.u64.wrap (IntKind.i64.wrap (s.start+s.r))).fdiv (2^1))))).toNat (Ty.dflt (.int .i64)))<(List.length s.b0:Int))∧0≤(s.data.getD (IntKind.i64.wrap ((IntKind.u64.wrap (IntKind.i64.wrap (s.start+s.r))).fdiv (2^1))).toNat (Ty.dflt (.int .i64)))∧(s.data.getD (IntKind.i64.wrap ((IntKind.u64.wrap (IntKind.i64.wrap (s.start+s.r))).fdiv (2^1))).toNat (Ty.dflt (.int .i64)))<(List.length s.b0:Int)) (.br (!(decide ((cmD s.b0 s.b1 (s.data.getD (IntKind.i64.wrap (s.p-(IntKind.i64.wrap ((IntKind.u64.wrap (IntKind.i64.wrap (s.start+s.r))).fdiv (2^1))))).toNat (Ty.dflt (.int .i64))) (s.data.getD (IntKind.i64.wrap ((IntKind.u64.wrap (IntKind.i64.wrap (s.start+s.r))).fdiv (2^1))).toNat (Ty.dflt (.int .i64))))<0))) (.rl s.data (.ok (.next {s with start:=(IntKind.i64.wrap ((IntKind.i64.wrap ((IntKind.u64.wrap (IntKind.i64.wrap (s.start+s.r))).fdiv (2^1)))+1))}))) (.rl s.data (.ok (.next {s with r:=(IntKind.i64.wrap ((IntKind.u64.wrap (IntKind.i64.wrap (s.start+s.r))).fdiv (2^1)))}))))))))) (.rl s.data (.ok (.stop (.exit 8) s)))
abbrev anQ (s:uz):=(aeS s).rd s
def akc (s:uz):Prop:=((0≤s.start∧s.start≤s.r)∧s.r≤(List.length s.data:Int))∧((s.data.length=s.b0.length∧(List.length s.data:Int)≤1000)∧vG s.data s.b0.length∧kL s.b0 s.b1)∧s.p-s.start<(List.length s.data:Int)∧0≤s.p-(s.r-1)∧0≤s.p∧s.p≤2000
def aj8 (s:uz):Prop:=((0≤s.start∧s.start≤s.r)∧s.r≤(List.length s.data:Int))∧((s.data.length=s.b0.length∧(List.length s.data:Int)≤1000)∧vG s.data s.b0.length∧kL s.b0 s.b1)∧s.p-s.start<(List.length s.data:Int)∧0≤s.p-(s.r-1)∧0≤s.p∧s.p≤2000
def SS (s:uz):Nat:=(s.r-s.start).toNat
def azG (x:Ex) (_ _:uz):Prop:=x=.exit 8
theorem aBE:∀s,akc s→aj8 s:=by
 exact fun s h=>h
theorem aw0 (s:uz) (hI:aj8 s):bY (fun s'=>aj8 s'∧SS s'<SS s) (fun x s'=>azG x s s') (anQ s):=by
 unfold anQ aeS
 dsimp only [T.rd,T.rl]
 obtain ⟨⟨⟨h0,h1⟩,h2⟩,⟨⟨k0,k1⟩,k2,k3⟩,g0,g1,g2⟩:=hI
 refine ai (fun c1=>?_) (fun c1=>rfl)
 have c1:s.start<s.r:=by simpa using c1
 rw [hlf (x:=s.start+s.r) (by omega) (by omega),aF (x:=(s.start+s.r) / 2+1) (by omega) (by omega)]
 refine ai (fun c2=>?_) (fun c2=>?_)
 ·exact ⟨⟨⟨⟨by simp only;omega,by simp only;omega⟩,h2⟩,⟨⟨k0,k1⟩,k2,k3⟩,by simp only;omega,by simp only;omega,g2⟩,by simp only [SS];omega⟩
 ·exact ⟨⟨⟨⟨h0,by simp only;omega⟩,by simp only;omega⟩,⟨⟨k0,k1⟩,k2,k3⟩,by simp only;omega,by simp only;omega,g2⟩,by simp only [SS];omega⟩
def JO:dn uz:=⟨4,220,[0,1,2,3,4,18,19,20,21,22],[],aCo,aCb,fun v b=>⟨gI (v.getD 1 .junk),gI (v.getD 2 .junk),gI (v.getD 3 .junk),gI (v.getD 5 .junk),gI (v.getD 6 .junk),gI (v.getD 7 .junk),gI (v.getD 8 .junk),gI (v.getD 9 .junk),bf jc (bC (aV b 0) 0),gI (bC (aV b 1) 0),jm (.int .i64) (aV b 2)⟩,aeS,fun s r=> {r with a:=s.a,m:=s.m,b:=s.b,mid:=s.mid,n:=s.n,p:=s.p,b0:=s.b0,b1:=s.b1,data:=s.data},fun s=>s,fun _ s=>s,[.exit 8],akc,aj8,SS⟩
abbrev aA:=JO.run
abbrev au3:=JO.lU
abbrev aq8:=JO.q
noncomputable def XH:Hand:=inl Tryz.prog aT gq (dG 121 4 21 (FH.lp) (dG 121 4 15 (Ea.lp) (dG 121 4 9 (CX.lp) (dG 121 4 3 (zN.lp) (dG 84 4 2 (qh.lp) (dG 120 4 1 (pz.lp) (jo Tryz.prog aT (gq) 20 2))))))) 9
theorem ahL:cO Tryz.prog aT XH:=bJ gK (aP Tryz.func121 rfl (by kernel_rfl) Df (aP Tryz.func121 rfl (by kernel_rfl) zi (aP Tryz.func121 rfl (by kernel_rfl) wJ (aP Tryz.func121 rfl (by kernel_rfl) uO (aP Tryz.func84 rfl (by kernel_rfl) oG (aP Tryz.func120 rfl (by kernel_rfl) mW (dw gK))))))) 9
theorem axH (s:uz) (hI:aj8 s):(aeS s).all (fun _=>True):=by
 refine ⟨fun c1=>⟨?_,?_,?_,?_,?_,fun c2=>⟨⟨rfl,rfl⟩,trivial⟩,fun c2=>⟨⟨rfl,rfl⟩,trivial⟩⟩,fun c1=>⟨⟨rfl,rfl⟩,trivial⟩⟩
 all_goals ((obtain ⟨⟨⟨h0,h1⟩,h2⟩,⟨⟨k0,k1⟩,k2,k3⟩,g0,g1,g2⟩:=hI;simp only [decide_eq_true_eq] at c1;have hh:=hlf (x:=s.start+s.r) (by omega) (by omega);(try rw [hh]);(try rw [aF (x:=s.p-(s.start+s.r) / 2) (by omega) (by omega)]);first|omega|exact ⟨rfl,k3,xk k2 (by omega) (by omega),xk k2 (by omega) (by omega)⟩))
theorem aps:JO.Ok:=⟨fun s=>by kernel_rfl,fun s=>by kernel_rfl,fun s=>rfl,fun s t r=>rfl,fun s=>rfl,fun s=>by kernel_rfl⟩
theorem apd:JO.Pf (azG):=⟨aBE,fun _ _=>rfl,aw0,axH⟩
theorem GV:bG Tryz.prog aT (AN 4) (.loop ab5) JO.lp:=dn.snd aps apd (aZ (Γ:=gq) (K:=XH) (L:=(mP Tryz.prog aT gq XH 20 2)) gK ahL ab5 (fun b _=>cu gK ahL 20 2 b)) (fun s=>by kernel_rfl)
theorem aeA (s:uz) (hE:akc s):(fun (x:Ex) (s':uz) (v:Int)=>x=.exit 8∧s'.start=v) (au3 s) (aA s) ((fun s:uz=>wE (fun h=>!ltD s.b0 s.b1 (gi s.data (s.p-h)) (gi s.data h)) s.start s.r) s):=by
 exact dn.rC aps apd (fun s:uz=>wE (fun h=>!ltD s.b0 s.b1 (gi s.data (s.p-h)) (gi s.data h)) s.start s.r) (fun x s' v=>x=.exit 8∧s'.start=v) (fun s hI=>by
  show bY _ _ (anQ s)
  unfold anQ aeS
  dsimp only [T.rd,T.rl]
  obtain ⟨⟨⟨h0,h1⟩,h2⟩,⟨⟨k0,k1⟩,k2,k3⟩,g0,g1,g2⟩:=hI
  refine ai (fun c1=>?_) (fun c1=>?_)
  ·have c1:s.start<s.r:=by simpa using c1
   rw [hlf (x:=s.start+s.r) (by omega) (by omega),aF (x:=(s.start+s.r) / 2+1) (by omega) (by omega)]
   rw [aF (x:=s.p-(s.start+s.r) / 2) (by omega) (by omega)]
   refine ai (fun c2=>?_) (fun c2=>?_)
   ·show wE _ _ _=wE _ _ _
    conv=>rhs;rw [qP c1]
    exact (if_pos (by exact c2)).symm
   ·show wE _ _ _=wE _ _ _
    conv=>rhs;rw [qP c1]
    exact (if_neg (fun hh=>absurd ((show true=_ from hh.symm).trans c2) (by decide))).symm
  ·have c1:s.r≤s.start:=by simpa using c1
   exact ⟨rfl,(Gj (by omega)).symm⟩) s hE
structure pM where
 a:Int
 b:Int
 n:Int
 i:Int
 b0:List Dm
 b1:Int
 data:List Int
def aCk (s:pM):List LV:=[.os 2 1 0 (List.length s.data),.v (.int .i64 s.a),.v (.int .i64 s.b),.v (.int .i64 s.n),.v (.int .i64 s.i)]
def aB7 (s:pM):List aS:=[⟨[.xl jc s.b0],31,.cl,false⟩,⟨[.v (.int .i64 s.b1)],3,.cl,false⟩,⟨[],3,.vec (.int .i64) s.data,false⟩,⟨[.fn 43 [.own 0 0,.own 1 0]],84,.cl,false⟩]
noncomputable def ab1:Code:=((ay (Tryz.f158.body.getD .skip))[0]?).getD .skip
def aeO (s:pM):T (Rd pM):=
 .br (decide (s.i<s.n)) (.req (0≤(IntKind.i64.wrap (s.b+s.i))∧(IntKind.i64.wrap (s.b+s.i))<((List.length s.data:Nat):Int)) (.req (0≤(IntKind.i64.wrap (s.a+s.i))∧(IntKind.i64.wrap (s.a+s.i))<((List.length s.data:Nat):Int)) (.req ((IntKind.i64.wrap (s.b+s.i)).toNat<List.length s.data) (.req ((IntKind.i64.wrap (s.a+s.i)).toNat<List.length s.data) (.req (0≤(IntKind.i64.wrap (s.a+s.i))∧(IntKind.i64.wrap (s.a+s.i))<((List.length s.data:Nat):Int)) (.req ((IntKind.i64.wrap (s.a+s.i)).toNat<List.length s.data) (.req (0≤(IntKind.i64.wrap (s.b+s.i))∧(IntKind.i64.wrap (s.b+s.i))<((List.length s.data:Nat):Int)) (.req ((IntKind.i64.wrap (s.b+s.i)).toNat<List.length (s.data.set (IntKind.i64.wrap (s.a+s.i)).toNat (s.data.getD (IntKind.i64.wrap (s.b+s.i)).toNat (Ty.dflt (.int .i64))))) (.req (0=0∧(List.length s.data)=List.length ((s.data.set (IntKind.i64.wrap (s.a+s.i)).toNat (s.data.getD (IntKind.i64.wrap (s.b+s.i)).toNat (Ty.dflt (.int .i64)))).set (IntKind.i64.wrap (s.b+s.i)).toNat (s.data.getD (IntKind.i64.wrap (s.a+s.i)).toNat (Ty.dflt (.int .i64))))) (.ok (.next {s with i:=(IntKind.i64.wrap (s.i+1)),data:=((s.data.set (IntKind.i64.wrap (s.a+s.i)).toNat (s.data.getD (IntKind.i64.wrap (s.b+s.i)).toNat (Ty.dflt (.int .i64)))).set (IntKind.i64.wrap (s.b+s.i)).toNat (s.data.getD (IntKind.i64.wrap (s.a+s.i)).toNat (Ty.dflt (.int .i64))))}))))))))))) (.rl s.data (.ok (.stop (.exit 0) s)))
abbrev anM (s:pM):=(aeO s).rd s
def KC (s:pM):Prop:=(0≤s.i∧s.i≤s.n)∧(0≤s.a∧s.a+s.n≤s.b∧s.b+s.n≤(List.length s.data:Int))∧(List.length s.data:Int)≤1000
def aj3 (s:pM):Prop:=(0≤s.i∧s.i≤s.n)∧(0≤s.a∧s.a+s.n≤s.b∧s.b+s.n≤(List.length s.data:Int))∧(List.length s.data:Int)≤1000
def aat (s:pM):Nat:=(s.n-s.i).toNat
def azD (x:Ex) (_ _:pM):Prop:=x=.exit 0
theorem aBA:∀s,KC s→aj3 s:=by
 exact fun s h=>h
theorem awW (s:pM) (hI:aj3 s):bY (fun s'=>aj3 s'∧aat s'<aat s) (fun x s'=>azD x s s') (anM s):=by
 unfold anM aeO
 dsimp only [T.rd,T.rl]
 obtain ⟨⟨h0,h1⟩,h2⟩:=hI
 refine ai (fun c1=>?_) (fun c1=>rfl)
 have c1:s.i<s.n:=by simpa using c1
 try rw [aF (x:=s.a+s.i) (by omega) (by omega)]
 try rw [aF (x:=s.b+s.i) (by omega) (by omega)]
 try rw [aF (x:=s.i+1) (by omega) (by omega)]
 exact ⟨⟨⟨by simp only;omega,by simp only;omega⟩,by simp only [List.length_set];exact h2⟩,by simp only [aat];omega⟩
def KD:dn pM:=⟨4,38,[0,1,2,3,10],[],aCk,aB7,fun v b=>⟨gI (v.getD 1 .junk),gI (v.getD 2 .junk),gI (v.getD 3 .junk),gI (v.getD 4 .junk),bf jc (bC (aV b 0) 0),gI (bC (aV b 1) 0),jm (.int .i64) (aV b 2)⟩,aeO,fun s r=> {r with a:=s.a,b:=s.b,n:=s.n,b0:=s.b0,b1:=s.b1},fun s=>s,fun _ s=>s,[.exit 0],KC,aj3,aat⟩
abbrev bK:=KD.run
abbrev PY:=KD.lU
abbrev adf:=KD.q
noncomputable def XG:Hand:=inl Tryz.prog aT gq (dG 121 4 33 (JO.lp) (dG 121 4 21 (FH.lp) (dG 121 4 15 (Ea.lp) (dG 121 4 9 (CX.lp) (dG 121 4 3 (zN.lp) (dG 84 4 2 (qh.lp) (dG 120 4 1 (pz.lp) (jo Tryz.prog aT (gq) 20 2)))))))) 9
theorem ahK:cO Tryz.prog aT XG:=bJ gK (aP Tryz.func121 rfl (by kernel_rfl) GV (aP Tryz.func121 rfl (by kernel_rfl) Df (aP Tryz.func121 rfl (by kernel_rfl) zi (aP Tryz.func121 rfl (by kernel_rfl) wJ (aP Tryz.func121 rfl (by kernel_rfl) uO (aP Tryz.func84 rfl (by kernel_rfl) oG (aP Tryz.func120 rfl (by kernel_rfl) mW (dw gK)))))))) 9
theorem axD (s:pM) (hI:aj3 s):(aeO s).all (fun _=>True):=by
 refine ⟨fun c1=>⟨?_,?_,?_,?_,?_,?_,?_,?_,?_,trivial⟩,fun c1=>⟨⟨rfl,rfl⟩,trivial⟩⟩
 all_goals ((obtain ⟨⟨h0,h1⟩,h2⟩:=hI;simp only [decide_eq_true_eq] at c1;have c1:s.i<s.n:=c1;(try rw [aF (x:=s.a+s.i) (by omega) (by omega)]);(try rw [aF (x:=s.b+s.i) (by omega) (by omega)]);(try rw [aF (x:=s.i+1) (by omega) (by omega)]);first|omega|(simp only [List.length_set];omega) |exact ⟨rfl,by simp⟩))
theorem apo:KD.Ok:=⟨fun s=>by kernel_rfl,fun s=>by kernel_rfl,fun s=>rfl,fun s t r=>rfl,fun s=>rfl,fun s=>by kernel_rfl⟩
theorem apa:KD.Pf (azD):=⟨aBA,fun _ _=>rfl,awW,axD⟩
theorem NT:bG Tryz.prog aT (AN 4) (.loop ab1) KD.lp:=dn.snd apo apa (aZ (Γ:=gq) (K:=XG) (L:=(mP Tryz.prog aT gq XG 20 2)) gK ahK ab1 (fun b _=>cu gK ahK 20 2 b)) (fun s=>by kernel_rfl)
theorem arb (s:pM) (hE:KC s):(fun (x:Ex) (s':pM) (v:List Int)=>x=.exit 0∧s'.data=v) (PY s) (bK s) ((fun s:pM=>J6 s.data (s.a+s.i) (s.b+s.i) (s.n-s.i)) s):=by
 exact dn.rC apo apa (fun s:pM=>J6 s.data (s.a+s.i) (s.b+s.i) (s.n-s.i)) (fun x s' v=>x=.exit 0∧s'.data=v) (fun s hI=>by
  show bY _ _ (anM s)
  unfold anM aeO
  dsimp only [T.rd,T.rl]
  obtain ⟨⟨h0,h1⟩,h2⟩:=hI
  refine ai (fun c1=>?_) (fun c1=>?_)
  ·have c1:s.i<s.n:=by simpa using c1
   try rw [aF (x:=s.a+s.i) (by omega) (by omega)]
   try rw [aF (x:=s.b+s.i) (by omega) (by omega)]
   try rw [aF (x:=s.i+1) (by omega) (by omega)]
   show J6 (Vu s.data (s.a+s.i) (s.b+s.i)) (s.a+(s.i+1)) (s.b+(s.i+1)) (s.n-(s.i+1))=_
   rw [show s.a+(s.i+1)=s.a+s.i+1 by omega,show s.b+(s.i+1)=s.b+s.i+1 by omega,show s.n-(s.i+1)=s.n-s.i-1 by omega]
   exact Ro (by omega) (by omega) (by omega) (by omega)
  ·have c1:s.n≤s.i:=by simpa using c1
   refine ⟨rfl,?_⟩
   rw [show s.n-s.i=0 by omega,ao4]) s hE
theorem Ny (s:pM) (hE:KC s) (h0:s.i=0):PY s=.exit 0∧(bK s).data=J6 s.data s.a s.b s.n:=by
 obtain ⟨q1,q2⟩:=arb s hE
 refine ⟨q1,q2.trans ?_⟩
 simp only
 rw [h0,Int.add_zero,Int.add_zero,Int.sub_zero]
structure pO where
 m:Int
 i:Int
 j:Int
 b0:List Dm
 b1:Int
 data:List Int
def aCl (s:pO):List LV:=[.os 2 1 0 (List.length s.data),.v (.int .i64 s.m),.fn 45 [.own 0 0,.own 3 0],.v (.int .i64 s.i),.v (.int .i64 s.j)]
def aB8 (s:pO):List aS:=[⟨[.xl jc s.b0],31,.cl,false⟩,⟨[.v (.int .i64 s.b1)],3,.cl,false⟩,⟨[],3,.vec (.int .i64) s.data,false⟩,⟨[.fn 43 [.own 0 0,.own 1 0]],84,.cl,false⟩]
noncomputable def ab2:Code:=((ay (Tryz.f143.body.getD .skip))[0]?).getD .skip
def uN (s:pO):pM:=(⟨(IntKind.i64.wrap (s.m-s.i)),s.m,s.j,(0:Int),s.b0,s.b1,s.data⟩:pM)
def uM (s:pO):pM:=(⟨(IntKind.i64.wrap (s.m-s.i)),(IntKind.i64.wrap ((IntKind.i64.wrap (s.m+s.j))-s.i)),s.i,(0:Int),s.b0,s.b1,s.data⟩:pM)
def aeP (s:pO):T (Rd pO):=
 .br (s.i !=s.j) (.br (decide (s.i>s.j)) (.rl s.data (.req (adf (uN s)) (.req (0=0∧(List.length s.data)=List.length (bK (uN s)).data) (.ok (.next {s with i:=(IntKind.i64.wrap (s.i-s.j)),data:=(bK (uN s)).data}))))) (.rl s.data (.req (adf (uM s)) (.req (0=0∧(List.length s.data)=List.length (bK (uM s)).data) (.ok (.next {s with j:=(IntKind.i64.wrap (s.j-s.i)),data:=(bK (uM s)).data})))))) (.rl s.data (.ok (.stop (.exit 0) s)))
abbrev anN (s:pO):=(aeP s).rd s
def aem (s:pO):Prop:=((1≤s.i∧1≤s.j)∧0≤s.m-s.i)∧s.m+s.j≤(List.length s.data:Int)∧(List.length s.data:Int)≤1000
def Qs (s:pO):Prop:=((1≤s.i∧1≤s.j)∧0≤s.m-s.i)∧s.m+s.j≤(List.length s.data:Int)∧(List.length s.data:Int)≤1000
def SQ (s:pO):Nat:=(s.i+s.j).toNat
def avJ (x:Ex) (_ s':pO):Prop:=x=.exit 0∧s'.i=s'.j∧Qs s'
theorem aBB:∀s,aem s→Qs s:=by
 exact fun s h=>h
theorem NC (s:pO) (hI:Qs s) (c:s.j<s.i):KC (uN s)∧PY (uN s)=.exit 0∧(bK (uN s)).data=J6 s.data (s.m-s.i) s.m s.j:=by
 obtain ⟨⟨⟨h0,h1⟩,h2⟩,h3,h4⟩:=hI
 have ew:IntKind.i64.wrap (s.m-s.i)=s.m-s.i:=aF (by omega) (by omega)
 have hE:KC (uN s):=⟨⟨Int.le_refl 0,by show (0:Int)≤s.j;omega⟩,by show 0≤IntKind.i64.wrap (s.m-s.i)∧IntKind.i64.wrap (s.m-s.i)+s.j≤s.m∧s.m+s.j≤(List.length s.data:Int);rw [ew];omega,h4⟩
 obtain ⟨q1,q2⟩:=Ny _ hE rfl
 refine ⟨hE,q1,q2.trans ?_⟩
 show J6 s.data (IntKind.i64.wrap (s.m-s.i)) s.m s.j=_
 rw [ew]
theorem Nz (s:pO) (hI:Qs s) (c:s.i<s.j):KC (uM s)∧PY (uM s)=.exit 0∧(bK (uM s)).data=J6 s.data (s.m-s.i) (s.m+s.j-s.i) s.i:=by
 obtain ⟨⟨⟨h0,h1⟩,h2⟩,h3,h4⟩:=hI
 have ew:IntKind.i64.wrap (s.m-s.i)=s.m-s.i:=aF (by omega) (by omega)
 have ev:IntKind.i64.wrap (IntKind.i64.wrap (s.m+s.j)-s.i)=s.m+s.j-s.i:=by
  rw [aF (x:=s.m+s.j) (by omega) (by omega)]
  exact aF (by omega) (by omega)
 have hE:KC (uM s):=⟨⟨Int.le_refl 0,by show (0:Int)≤s.i;omega⟩,by show 0≤IntKind.i64.wrap (s.m-s.i)∧IntKind.i64.wrap (s.m-s.i)+s.i≤IntKind.i64.wrap (IntKind.i64.wrap (s.m+s.j)-s.i)∧IntKind.i64.wrap (IntKind.i64.wrap (s.m+s.j)-s.i)+s.i≤(List.length s.data:Int);rw [ew,ev];omega,h4⟩
 obtain ⟨q1,q2⟩:=Ny _ hE rfl
 refine ⟨hE,q1,q2.trans ?_⟩
 show J6 s.data (IntKind.i64.wrap (s.m-s.i)) (IntKind.i64.wrap (IntKind.i64.wrap (s.m+s.j)-s.i)) s.i=_
 rw [ew,ev]
theorem awX (s:pO) (hI:Qs s):bY (fun s'=>Qs s'∧SQ s'<SQ s) (fun x s'=>avJ x s s') (anN s):=by
 unfold anN aeP
 dsimp only [T.rd,T.rl]
 have i1:=fun c=>NC s hI c
 have i2:=fun c=>Nz s hI c
 have hI':=hI
 obtain ⟨⟨⟨h0,h1⟩,h2⟩,h3,h4⟩:=hI
 refine ai (fun c1=>ai (fun c2=>?_) (fun c2=>?_)) (fun c1=>⟨rfl,by simpa using c1,hI'⟩)
 ·have c2:s.j<s.i:=by simpa using c2
  have q:=(i1 c2).2.2
  rw [aF (x:=s.i-s.j) (by omega) (by omega),q]
  exact ⟨⟨⟨⟨by simp only;omega,h1⟩,by simp only;omega⟩,by simp only [jY];exact ⟨h3,h4⟩⟩,by simp only [SQ];omega⟩
 ·have c2:s.i≤s.j:=by simpa using c2
  have c1:s.i≠s.j:=by simpa using c1
  have q:=(i2 (by omega)).2.2
  rw [aF (x:=s.j-s.i) (by omega) (by omega),q]
  exact ⟨⟨⟨⟨h0,by simp only;omega⟩,h2⟩,by simp only [jY];exact ⟨by omega,h4⟩⟩,by simp only [SQ];omega⟩
def Qx:dn pO:=⟨4,58,[0,2,4,10,11],[],aCl,aB8,fun v b=>⟨gI (v.getD 1 .junk),gI (v.getD 3 .junk),gI (v.getD 4 .junk),bf jc (bC (aV b 0) 0),gI (bC (aV b 1) 0),jm (.int .i64) (aV b 2)⟩,aeP,fun s r=> {r with m:=s.m,b0:=s.b0,b1:=s.b1},fun s=>s,fun _ s=>s,[.exit 0],aem,Qs,SQ⟩
abbrev cZ:=Qx.run
abbrev aiE:=Qx.lU
abbrev aq7:=Qx.q
noncomputable def XF:Hand:=inl Tryz.prog aT gq (dG 158 4 1 (KD.lp) (dG 121 4 33 (JO.lp) (dG 121 4 21 (FH.lp) (dG 121 4 15 (Ea.lp) (dG 121 4 9 (CX.lp) (dG 121 4 3 (zN.lp) (dG 84 4 2 (qh.lp) (dG 120 4 1 (pz.lp) (jo Tryz.prog aT (gq) 20 2))))))))) 9
theorem ahJ:cO Tryz.prog aT XF:=bJ gK (aP Tryz.func158 rfl (by kernel_rfl) NT (aP Tryz.func121 rfl (by kernel_rfl) GV (aP Tryz.func121 rfl (by kernel_rfl) Df (aP Tryz.func121 rfl (by kernel_rfl) zi (aP Tryz.func121 rfl (by kernel_rfl) wJ (aP Tryz.func121 rfl (by kernel_rfl) uO (aP Tryz.func84 rfl (by kernel_rfl) oG (aP Tryz.func120 rfl (by kernel_rfl) mW (dw gK))))))))) 9
theorem axE (s:pO) (hI:Qs s):(aeP s).all (fun _=>True):=by
 refine ⟨fun c1=>⟨fun c2=>⟨⟨rfl,rfl⟩,?_,?_,trivial⟩,fun c2=>⟨⟨rfl,rfl⟩,?_,?_,trivial⟩⟩,fun c1=>⟨⟨rfl,rfl⟩,trivial⟩⟩
 ·(have q:=NC s hI (by simp only [bne_iff_ne,ne_eq,gt_iff_lt,decide_eq_true_eq] at c1 c2;omega);exact ⟨q.1,rfl,rfl⟩)
 ·(have q:=NC s hI (by simp only [bne_iff_ne,ne_eq,gt_iff_lt,decide_eq_true_eq] at c1 c2;omega);exact ⟨rfl,by rw [q.2.2,jY]⟩)
 ·(have q:=Nz s hI (by simp only [bne_iff_ne,ne_eq,gt_iff_lt,decide_eq_false_iff_not] at c1 c2;omega);exact ⟨q.1,rfl,rfl⟩)
 ·(have q:=Nz s hI (by simp only [bne_iff_ne,ne_eq,gt_iff_lt,decide_eq_false_iff_not] at c1 c2;omega);exact ⟨rfl,by rw [q.2.2,jY]⟩)
theorem agp:Qx.Ok:=⟨fun s=>by kernel_rfl,fun s=>by kernel_rfl,fun s=>rfl,fun s t r=>rfl,fun s=>rfl,fun s=>by kernel_rfl⟩
theorem afz:Qx.Pf (avJ):=⟨aBB,fun _ _=>rfl,awX,axE⟩
theorem VK:bG Tryz.prog aT (AN 4) (.loop ab2) Qx.lp:=dn.snd agp afz (aZ (Γ:=gq) (K:=XF) (L:=(mP Tryz.prog aT gq XF 20 2)) gK ahJ ab2 (fun b _=>cu gK ahJ 20 2 b)) (fun s=>by kernel_rfl)
theorem aey (s:pO) (hE:aem s):∃s',Qs s'∧avJ (aiE s) s' (cZ s):=dn.fin agp afz s hE
theorem aex (s:pO) (hE:aem s):(fun (x:Ex) (s':pO) (v:List Int)=>x=.exit 0∧fD s'.data (s'.m-s'.i) s'.m (s'.m+s'.j)=v) (aiE s) (cZ s) ((fun s:pO=>fD s.data (s.m-s.i) s.m (s.m+s.j)) s):=by
 exact dn.rC agp afz (fun s:pO=>fD s.data (s.m-s.i) s.m (s.m+s.j)) (fun x s' v=>x=.exit 0∧fD s'.data (s'.m-s'.i) s'.m (s'.m+s'.j)=v) (fun s hI=>by
  show bY _ _ (anN s)
  unfold anN aeP
  dsimp only [T.rd,T.rl]
  have i1:=fun c=>NC s hI c
  have i2:=fun c=>Nz s hI c
  obtain ⟨⟨⟨h0,h1⟩,h2⟩,h3,h4⟩:=hI
  refine ai (fun c1=>ai (fun c2=>?_) (fun c2=>?_)) (fun c1=>⟨rfl,rfl⟩)
  ·have c2:s.j<s.i:=by simpa using c2
   rw [aF (x:=s.i-s.j) (by omega) (by omega),(i1 c2).2.2]
   exact afr h2 h1 c2 h3
  ·have c2:s.i≤s.j:=by simpa using c2
   have c1:s.i≠s.j:=by simpa using c1
   rw [aF (x:=s.j-s.i) (by omega) (by omega),(i2 (by omega)).2.2]
   exact afq h2 h0 (by omega) h3) s hE
end Go.Proofs.YtlihnbimgclogaaGreatDoor
namespace Go.Proofs.YtlihnbimgclogaaGreatDoor
open Go.Sx
section
variable {lt : Int → Int → Bool}
structure ai3 (lt:Int→Int→Bool) (l:List Int) (a m b mid q e:Int):Prop where
 o:0≤a
 len:b≤(l.length:Int)
 aq:a≤q
 qm:q≤m
 me:m≤e
 eb:e≤b
 qd:q≤mid
 de:mid≤e
 dd:mid=q+(e-m)
 sA:kU lt l a m
 sB:kU lt l m b
 c1:a<q→e<b→lt (gi l e) (gi l (q-1))=false
 c2:q<m→m<e→lt (gi l (e-1)) (gi l q)=true
theorem asa {l:List Int}{a m b q:Int}(h0:0≤a) (_:a<m) (h2:m<b) (h3:b≤(l.length:Int)) (sA:kU lt l a m) (sB:kU lt l m b) (hm:(a+b) / 2<m)
  (hq:q=wE (fun c=>!lt (gi l ((a+b) / 2+m-1-c)) (gi l c)) ((a+b) / 2+m-b) ((a+b) / 2)):ai3 lt l a m b ((a+b) / 2) q ((a+b) / 2+m-q):=by
 obtain ⟨g1,g2,g3⟩:=uo (F:=fun c=>!lt (gi l ((a+b) / 2+m-1-c)) (gi l c)) _ (i:=(a+b) / 2+m-b) (j:=(a+b) / 2) (Nat.le_refl _) (by omega)
 rw [←hq] at g1 g2 g3
 refine ⟨h0,h3,by omega,by omega,by omega,by omega,by omega,by omega,by omega,sA,sB,fun x y=>?_,fun x y=>?_⟩
 ·rcases g2 with g2|g2
  ·omega
  ·rw [show (a+b) / 2+m-1-(q-1)=(a+b) / 2+m-q by omega] at g2
   simpa using g2
 ·rcases g3 with g3|g3
  ·omega
  ·rw [show (a+b) / 2+m-1-q=(a+b) / 2+m-q-1 by omega] at g3
   simpa using g3
theorem ar9 {l:List Int}{a m b q:Int}(h0:0≤a) (h1:a<m) (_:m<b) (h3:b≤(l.length:Int)) (sA:kU lt l a m) (sB:kU lt l m b) (hm:m≤(a+b) / 2)
  (hq:q=wE (fun c=>!lt (gi l ((a+b) / 2+m-1-c)) (gi l c)) a m):ai3 lt l a m b ((a+b) / 2) q ((a+b) / 2+m-q):=by
 obtain ⟨g1,g2,g3⟩:=uo (F:=fun c=>!lt (gi l ((a+b) / 2+m-1-c)) (gi l c)) _ (i:=a) (j:=m) (Nat.le_refl _) (by omega)
 rw [←hq] at g1 g2 g3
 refine ⟨h0,h3,by omega,by omega,by omega,by omega,by omega,by omega,by omega,sA,sB,fun x y=>?_,fun x y=>?_⟩
 ·rcases g2 with g2|g2
  ·omega
  ·rw [show (a+b) / 2+m-1-(q-1)=(a+b) / 2+m-q by omega] at g2
   simpa using g2
 ·rcases g3 with g3|g3
  ·omega
  ·rw [show (a+b) / 2+m-1-q=(a+b) / 2+m-q-1 by omega] at g3
   simpa using g3
namespace ai3
variable {l : List Int} {a m b mid q e : Int} (S : ai3 lt l a m b mid q e)
include S
theorem r1:kU lt (fD l q m e) a q:=fun x y x0 xy y1=>by
 have:=S.o;have:=S.qm;have:=S.me
 rw [yc S.qm S.me (by omega) (by omega),yc S.qm S.me (by omega) (by omega)]
 exact S.sA x y x0 xy (by omega)
theorem r2:kU lt (fD l q m e) q mid:=fun x y x0 xy y1=>by
 have:=S.o;have:=S.aq;have:=S.dd;have:=S.qm;have:=S.me;have:=S.eb;have:=S.len
 rw [ig (by omega) (by omega),ig (by omega) (by omega),if_pos (by omega),if_pos (by omega)]
 exact S.sB _ _ (by omega) (by omega) (by omega)
theorem r3:kU lt (fD l q m e) mid e:=fun x y x0 xy y1=>by
 have:=S.o;have:=S.aq;have:=S.dd;have:=S.qm;have:=S.me;have:=S.eb;have:=S.len
 rw [ig (by omega) (by omega),ig (by omega) (by omega),if_neg (by omega),if_pos (by omega),if_neg (by omega),if_pos (by omega)]
 exact S.sA _ _ (by omega) (by omega) (by omega)
theorem r4:kU lt (fD l q m e) e b:=fun x y x0 xy y1=>by
 have:=S.o;have:=S.aq;have:=S.qm;have:=S.me
 rw [yc S.qm S.me (by omega) (by omega),yc S.qm S.me (by omega) (by omega)]
 exact S.sB x y (by omega) xy y1
theorem bd:(0≤a∧a≤mid)∧mid≤b∧b≤((fD l q m e).length:Int):=by
 have:=S.o;have:=S.aq;have:=S.qd;have:=S.de;have:=S.eb;have:=S.len
 rw [dS]
 omega
theorem keep (_:zK lt) {x y:Int}(h:kU lt (fD l q m e) x y) (hx:mid≤x):kU lt (fK lt (fD l q m e) a mid) x y:=fun u v h1 h2 h3=>by
 have B:=S.bd
 rw [iV (by omega) (by omega) (by omega) (by omega) (by omega),iV (by omega) (by omega) (by omega) (by omega) (by omega)]
 exact h u v h1 h2 h3
theorem n1 (O:zJ lt) (h:¬(a<q∧q<mid)):fK lt (fD l q m e) a mid=fD l q m e:=by
 have B:=S.bd
 refine GY O (by omega) (by omega) (by omega) ?_
 have:=S.aq;have:=S.qd
 by_cases c:a<q
 ·rw [show mid=q by omega]
  exact S.r1
 ·rw [show a=q by omega]
  exact S.r2
theorem n2 (O:zJ lt) (h:¬(mid<e∧e<b)):fK lt (fK lt (fD l q m e) a mid) mid b=fK lt (fD l q m e) a mid:=by
 have B:=S.bd
 have hl:(fK lt (fD l q m e) a mid).length=(fD l q m e).length:=qo (by omega)
 refine GY O (by omega) (by omega) (by omega) ?_
 have:=S.de;have:=S.eb
 by_cases c:mid<e
 ·rw [show b=e by omega]
  exact S.keep O.ord S.r3 (Int.le_refl _)
 ·have e1:kU lt (fK lt (fD l q m e) a mid) e b:=S.keep O.ord S.r4 (by omega)
  exact RY e1 (by omega) (Int.le_refl _)
theorem main (O:zJ lt):fK lt (fK lt (fD l q m e) a mid) mid b=fK lt l a b:=aeW O S.o S.aq S.qm S.me S.eb S.len S.dd S.sA S.sB S.c1 S.c2
theorem afp (h:¬(q<m∧m<e)):fD l q m e=l:=by
 have:=S.qm;have:=S.me
 by_cases c:q<m
 ·rw [show e=m by omega]
  exact VU
 ·rw [show q=m by omega]
  exact N9
end ai3
end
end Go.Proofs.YtlihnbimgclogaaGreatDoor
namespace Go.Proofs.YtlihnbimgclogaaGreatDoor
open Go.Sx
def nX (s:dI):Prop:=(0≤s.a∧s.a<s.m∧s.m<s.b∧s.b≤(List.length s.data:Int))∧((s.data.length=s.b0.length∧(List.length s.data:Int)≤1000)∧vG s.data s.b0.length∧kL s.b0 s.b1)∧kU (ltD s.b0 s.b1) s.data s.a s.m∧kU (ltD s.b0 s.b1) s.data s.m s.b
def Xd (s:dI):Nat:=(s.b-s.a).toNat
def r_sym (s:dI):dI:={s with data:=fK (ltD s.b0 s.b1) s.data s.a s.b}
def qZ:CpD dI:=⟨J5,jW,fun v b=>⟨gI (v.getD 1 .junk),gI (v.getD 2 .junk),gI (v.getD 3 .junk),bf jc (bC (aV b 0) 0),gI (bC (aV b 1) 0),jm (.int .i64) (aV b 2)⟩,nX,Xd,r_sym⟩
abbrev pR (nn:Nat) (s:dI):Prop:=nX s∧Xd s<nn∧J5 s=J5 s∧jW s=jW s
abbrev akh (s:dI):Prop:=nX s∧J5 s=J5 s∧jW s=jW s
def FM (s:dI):wo:=(⟨(Dj (⟨s.a,s.m,s.b,s.b0,s.b1,s.data⟩:wz)).i,s.a,s.b0,s.b1,s.data⟩:wo)
def FK (s:dI):vZ:=(⟨(G5 (⟨s.m,s.a,s.m,s.b0,s.b1,s.data⟩:wu)).i,s.m,s.b0,s.b1,s.data⟩:vZ)
def aO (s:dI):uz:=(⟨s.a,s.m,s.b,(IntKind.i64.wrap ((IntKind.u64.wrap (IntKind.i64.wrap (s.a+s.b))).fdiv (2^1))),(IntKind.i64.wrap ((IntKind.i64.wrap ((IntKind.u64.wrap (IntKind.i64.wrap (s.a+s.b))).fdiv (2^1)))+s.m)),(IntKind.i64.wrap ((IntKind.i64.wrap ((IntKind.i64.wrap ((IntKind.u64.wrap (IntKind.i64.wrap (s.a+s.b))).fdiv (2^1)))+s.m))-s.b)),(IntKind.i64.wrap ((IntKind.u64.wrap (IntKind.i64.wrap (s.a+s.b))).fdiv (2^1))),(IntKind.i64.wrap ((IntKind.i64.wrap ((IntKind.i64.wrap ((IntKind.u64.wrap (IntKind.i64.wrap (s.a+s.b))).fdiv (2^1)))+s.m))-1)),s.b0,s.b1,s.data⟩:uz)
def fB (s:dI):pO:=(⟨s.m,(IntKind.i64.wrap (s.m-(aA (aO s)).start)),(IntKind.i64.wrap ((IntKind.i64.wrap ((IntKind.i64.wrap ((IntKind.i64.wrap ((IntKind.u64.wrap (IntKind.i64.wrap (s.a+s.b))).fdiv (2^1)))+s.m))-(aA (aO s)).start))-s.m)),s.b0,s.b1,s.data⟩:pO)
def dW (s:dI):pM:=(⟨(IntKind.i64.wrap (s.m-(cZ (fB s)).i)),s.m,(cZ (fB s)).i,(0:Int),s.b0,s.b1,(cZ (fB s)).data⟩:pM)
def RV (s:dI):dI:=(⟨s.a,(aA (aO s)).start,(IntKind.i64.wrap ((IntKind.u64.wrap (IntKind.i64.wrap (s.a+s.b))).fdiv (2^1))),s.b0,s.b1,(bK (dW s)).data⟩:dI)
def RU (s:dI):dI:=(⟨(IntKind.i64.wrap ((IntKind.u64.wrap (IntKind.i64.wrap (s.a+s.b))).fdiv (2^1))),(IntKind.i64.wrap ((IntKind.i64.wrap ((IntKind.i64.wrap ((IntKind.u64.wrap (IntKind.i64.wrap (s.a+s.b))).fdiv (2^1)))+s.m))-(aA (aO s)).start)),s.b,s.b0,s.b1,(fK (ltD s.b0 s.b1) (bK (dW s)).data s.a (IntKind.i64.wrap ((IntKind.u64.wrap (IntKind.i64.wrap (s.a+s.b))).fdiv (2^1))))⟩:dI)
def RS (s:dI):dI:=(⟨(IntKind.i64.wrap ((IntKind.u64.wrap (IntKind.i64.wrap (s.a+s.b))).fdiv (2^1))),(IntKind.i64.wrap ((IntKind.i64.wrap ((IntKind.i64.wrap ((IntKind.u64.wrap (IntKind.i64.wrap (s.a+s.b))).fdiv (2^1)))+s.m))-(aA (aO s)).start)),s.b,s.b0,s.b1,(bK (dW s)).data⟩:dI)
def RQ (s:dI):dI:=(⟨s.a,(aA (aO s)).start,(IntKind.i64.wrap ((IntKind.u64.wrap (IntKind.i64.wrap (s.a+s.b))).fdiv (2^1))),s.b0,s.b1,s.data⟩:dI)
def RP (s:dI):dI:=(⟨(IntKind.i64.wrap ((IntKind.u64.wrap (IntKind.i64.wrap (s.a+s.b))).fdiv (2^1))),(IntKind.i64.wrap ((IntKind.i64.wrap ((IntKind.i64.wrap ((IntKind.u64.wrap (IntKind.i64.wrap (s.a+s.b))).fdiv (2^1)))+s.m))-(aA (aO s)).start)),s.b,s.b0,s.b1,(fK (ltD s.b0 s.b1) s.data s.a (IntKind.i64.wrap ((IntKind.u64.wrap (IntKind.i64.wrap (s.a+s.b))).fdiv (2^1))))⟩:dI)
def RN (s:dI):dI:=(⟨(IntKind.i64.wrap ((IntKind.u64.wrap (IntKind.i64.wrap (s.a+s.b))).fdiv (2^1))),(IntKind.i64.wrap ((IntKind.i64.wrap ((IntKind.i64.wrap ((IntKind.u64.wrap (IntKind.i64.wrap (s.a+s.b))).fdiv (2^1)))+s.m))-(aA (aO s)).start)),s.b,s.b0,s.b1,s.data⟩:dI)
def aN (s:dI):uz:=(⟨s.a,s.m,s.b,(IntKind.i64.wrap ((IntKind.u64.wrap (IntKind.i64.wrap (s.a+s.b))).fdiv (2^1))),(IntKind.i64.wrap ((IntKind.i64.wrap ((IntKind.u64.wrap (IntKind.i64.wrap (s.a+s.b))).fdiv (2^1)))+s.m)),s.a,s.m,(IntKind.i64.wrap ((IntKind.i64.wrap ((IntKind.i64.wrap ((IntKind.u64.wrap (IntKind.i64.wrap (s.a+s.b))).fdiv (2^1)))+s.m))-1)),s.b0,s.b1,s.data⟩:uz)
def fA (s:dI):pO:=(⟨s.m,(IntKind.i64.wrap (s.m-(aA (aN s)).start)),(IntKind.i64.wrap ((IntKind.i64.wrap ((IntKind.i64.wrap ((IntKind.i64.wrap ((IntKind.u64.wrap (IntKind.i64.wrap (s.a+s.b))).fdiv (2^1)))+s.m))-(aA (aN s)).start))-s.m)),s.b0,s.b1,s.data⟩:pO)
def dV (s:dI):pM:=(⟨(IntKind.i64.wrap (s.m-(cZ (fA s)).i)),s.m,(cZ (fA s)).i,(0:Int),s.b0,s.b1,(cZ (fA s)).data⟩:pM)
def RJ (s:dI):dI:=(⟨s.a,(aA (aN s)).start,(IntKind.i64.wrap ((IntKind.u64.wrap (IntKind.i64.wrap (s.a+s.b))).fdiv (2^1))),s.b0,s.b1,(bK (dV s)).data⟩:dI)
def RI (s:dI):dI:=(⟨(IntKind.i64.wrap ((IntKind.u64.wrap (IntKind.i64.wrap (s.a+s.b))).fdiv (2^1))),(IntKind.i64.wrap ((IntKind.i64.wrap ((IntKind.i64.wrap ((IntKind.u64.wrap (IntKind.i64.wrap (s.a+s.b))).fdiv (2^1)))+s.m))-(aA (aN s)).start)),s.b,s.b0,s.b1,(fK (ltD s.b0 s.b1) (bK (dV s)).data s.a (IntKind.i64.wrap ((IntKind.u64.wrap (IntKind.i64.wrap (s.a+s.b))).fdiv (2^1))))⟩:dI)
def RH (s:dI):dI:=(⟨(IntKind.i64.wrap ((IntKind.u64.wrap (IntKind.i64.wrap (s.a+s.b))).fdiv (2^1))),(IntKind.i64.wrap ((IntKind.i64.wrap ((IntKind.i64.wrap ((IntKind.u64.wrap (IntKind.i64.wrap (s.a+s.b))).fdiv (2^1)))+s.m))-(aA (aN s)).start)),s.b,s.b0,s.b1,(bK (dV s)).data⟩:dI)
def RG (s:dI):dI:=(⟨s.a,(aA (aN s)).start,(IntKind.i64.wrap ((IntKind.u64.wrap (IntKind.i64.wrap (s.a+s.b))).fdiv (2^1))),s.b0,s.b1,s.data⟩:dI)
def Rz (s:dI):dI:=(⟨(IntKind.i64.wrap ((IntKind.u64.wrap (IntKind.i64.wrap (s.a+s.b))).fdiv (2^1))),(IntKind.i64.wrap ((IntKind.i64.wrap ((IntKind.i64.wrap ((IntKind.u64.wrap (IntKind.i64.wrap (s.a+s.b))).fdiv (2^1)))+s.m))-(aA (aN s)).start)),s.b,s.b0,s.b1,(fK (ltD s.b0 s.b1) s.data s.a (IntKind.i64.wrap ((IntKind.u64.wrap (IntKind.i64.wrap (s.a+s.b))).fdiv (2^1))))⟩:dI)
def Ry (s:dI):dI:=(⟨(IntKind.i64.wrap ((IntKind.u64.wrap (IntKind.i64.wrap (s.a+s.b))).fdiv (2^1))),(IntKind.i64.wrap ((IntKind.i64.wrap ((IntKind.i64.wrap ((IntKind.u64.wrap (IntKind.i64.wrap (s.a+s.b))).fdiv (2^1)))+s.m))-(aA (aN s)).start)),s.b,s.b0,s.b1,s.data⟩:dI)
noncomputable def zx:Specs:=bn [(43,kE),(45,qU)]
theorem aie:∀g S,zx g=some S→Valid Tryz.prog aT g S:=aX (l:=[(43,kE),(45,qU)]) ⟨wH,Gw,trivial⟩
noncomputable def D8:sG:=dG 143 4 2 (Qx.lp) (dG 158 4 1 (KD.lp) (dG 121 4 33 (JO.lp) (dG 121 4 21 (FH.lp) (dG 121 4 15 (Ea.lp) (dG 121 4 9 (CX.lp) (dG 121 4 3 (zN.lp) (dG 84 4 2 (qh.lp) (dG 120 4 1 (pz.lp) (jo Tryz.prog aT (zx) 20 2)))))))))
theorem aj2:Qr Tryz.prog aT D8:=aP Tryz.func143 rfl (by kernel_rfl) VK (aP Tryz.func158 rfl (by kernel_rfl) NT (aP Tryz.func121 rfl (by kernel_rfl) GV (aP Tryz.func121 rfl (by kernel_rfl) Df (aP Tryz.func121 rfl (by kernel_rfl) zi (aP Tryz.func121 rfl (by kernel_rfl) wJ (aP Tryz.func121 rfl (by kernel_rfl) uO (aP Tryz.func84 rfl (by kernel_rfl) oG (aP Tryz.func120 rfl (by kernel_rfl) mW (dw aie)))))))))
theorem atZ (nn:Nat) (s:dI):(yN Tryz.prog aT zx D8 (PE Tryz.prog aT zx D8 (CpD.one 121 (qZ.m nn)) 9)).k 121 (J5 s) (jW s)=.br ((IntKind.i64.wrap (s.m-s.a))==1) (.rl s.data (.req (azM (⟨s.a,s.m,s.b,s.b0,s.b1,s.data⟩:wz)) (.rl s.data (.req (azK (FM s)) (.ok ((.v (.tuple #[]),[⟨[.xl jc s.b0],31,.cl,false⟩,⟨[.v (.int .i64 s.b1)],3,.cl,false⟩,⟨[],3,.vec (.int .i64) (VQ (FM s)).data,false⟩,⟨[.fn 43 [.own 0 0,.own 1 0]],84,.cl,false⟩]))))))) (.br ((IntKind.i64.wrap (s.b-s.m))==1) (.rl s.data (.req (azL (⟨s.m,s.a,s.m,s.b0,s.b1,s.data⟩:wu)) (.rl s.data (.req (azJ (FK s)) (.ok ((.v (.tuple #[]),[⟨[.xl jc s.b0],31,.cl,false⟩,⟨[.v (.int .i64 s.b1)],3,.cl,false⟩,⟨[],3,.vec (.int .i64) (VP (FK s)).data,false⟩,⟨[.fn 43 [.own 0 0,.own 1 0]],84,.cl,false⟩]))))))) (.br (decide (s.m>(IntKind.i64.wrap ((IntKind.u64.wrap (IntKind.i64.wrap (s.a+s.b))).fdiv (2^1))))) (.rl s.data (.req (aq8 (aO s)) (.br ((decide ((aA (aO s)).start<s.m))&&(decide (s.m<(IntKind.i64.wrap ((IntKind.i64.wrap ((IntKind.i64.wrap ((IntKind.u64.wrap (IntKind.i64.wrap (s.a+s.b))).fdiv (2^1)))+s.m))-(aA (aO s)).start))))) (.rl s.data (.req (aq7 (fB s)) (.rl (cZ (fB s)).data (.req (adf (dW s)) (.br ((decide (s.a<(aA (aO s)).start))&&(decide ((aA (aO s)).start<(IntKind.i64.wrap ((IntKind.u64.wrap (IntKind.i64.wrap (s.a+s.b))).fdiv (2^1)))))) (.req (0=0∧(List.length s.data)=List.length (bK (dW s)).data) (.req (pR nn (RV s)) (.br ((decide ((IntKind.i64.wrap ((IntKind.u64.wrap (IntKind.i64.wrap (s.a+s.b))).fdiv (2^1)))<(IntKind.i64.wrap ((IntKind.i64.wrap ((IntKind.i64.wrap ((IntKind.u64.wrap (IntKind.i64.wrap (s.a+s.b))).fdiv (2^1)))+s.m))-(aA (aO s)).start))))&&(decide ((IntKind.i64.wrap ((IntKind.i64.wrap ((IntKind.i64.wrap ((IntKind.u64.wrap (IntKind.i64.wrap (s.a+s.b))).fdiv (2^1)))+s.m))-(aA (aO s)).start))<s.b))) (.req (0=0∧(List.length s.data)=List.length (fK (ltD s.b0 s.b1) (bK (dW s)).data s.a (IntKind.i64.wrap ((IntKind.u64.wrap (IntKind.i64.wrap (s.a+s.b))).fdiv (2^1))))) (.req (pR nn (RU s)) (.ok ((.v (.tuple #[]),[⟨[.xl jc s.b0],31,.cl,false⟩,⟨[.v (.int .i64 s.b1)],3,.cl,false⟩,⟨[],3,.vec (.int .i64) (fK (ltD s.b0 s.b1) (fK (ltD s.b0 s.b1) (bK (dW s)).data s.a (IntKind.i64.wrap ((IntKind.u64.wrap (IntKind.i64.wrap (s.a+s.b))).fdiv (2^1)))) (IntKind.i64.wrap ((IntKind.u64.wrap (IntKind.i64.wrap (s.a+s.b))).fdiv (2^1))) s.b),false⟩,⟨[.fn 43 [.own 0 0,.own 1 0]],84,.cl,false⟩]))))) (.ok ((.v (.tuple #[]),[⟨[.xl jc s.b0],31,.cl,false⟩,⟨[.v (.int .i64 s.b1)],3,.cl,false⟩,⟨[],3,.vec (.int .i64) (fK (ltD s.b0 s.b1) (bK (dW s)).data s.a (IntKind.i64.wrap ((IntKind.u64.wrap (IntKind.i64.wrap (s.a+s.b))).fdiv (2^1)))),false⟩,⟨[.fn 43 [.own 0 0,.own 1 0]],84,.cl,false⟩])))))) (.br ((decide ((IntKind.i64.wrap ((IntKind.u64.wrap (IntKind.i64.wrap (s.a+s.b))).fdiv (2^1)))<(IntKind.i64.wrap ((IntKind.i64.wrap ((IntKind.i64.wrap ((IntKind.u64.wrap (IntKind.i64.wrap (s.a+s.b))).fdiv (2^1)))+s.m))-(aA (aO s)).start))))&&(decide ((IntKind.i64.wrap ((IntKind.i64.wrap ((IntKind.i64.wrap ((IntKind.u64.wrap (IntKind.i64.wrap (s.a+s.b))).fdiv (2^1)))+s.m))-(aA (aO s)).start))<s.b))) (.req (0=0∧(List.length s.data)=List.length (bK (dW s)).data) (.req (pR nn (RS s)) (.ok ((.v (.tuple #[]),[⟨[.xl jc s.b0],31,.cl,false⟩,⟨[.v (.int .i64 s.b1)],3,.cl,false⟩,⟨[],3,.vec (.int .i64) (fK (ltD s.b0 s.b1) (bK (dW s)).data (IntKind.i64.wrap ((IntKind.u64.wrap (IntKind.i64.wrap (s.a+s.b))).fdiv (2^1))) s.b),false⟩,⟨[.fn 43 [.own 0 0,.own 1 0]],84,.cl,false⟩]))))) (.ok ((.v (.tuple #[]),[⟨[.xl jc s.b0],31,.cl,false⟩,⟨[.v (.int .i64 s.b1)],3,.cl,false⟩,⟨[],3,.vec (.int .i64) (bK (dW s)).data,false⟩,⟨[.fn 43 [.own 0 0,.own 1 0]],84,.cl,false⟩]))))))))) (.br ((decide (s.a<(aA (aO s)).start))&&(decide ((aA (aO s)).start<(IntKind.i64.wrap ((IntKind.u64.wrap (IntKind.i64.wrap (s.a+s.b))).fdiv (2^1)))))) (.rl s.data (.req (pR nn (RQ s)) (.br ((decide ((IntKind.i64.wrap ((IntKind.u64.wrap (IntKind.i64.wrap (s.a+s.b))).fdiv (2^1)))<(IntKind.i64.wrap ((IntKind.i64.wrap ((IntKind.i64.wrap ((IntKind.u64.wrap (IntKind.i64.wrap (s.a+s.b))).fdiv (2^1)))+s.m))-(aA (aO s)).start))))&&(decide ((IntKind.i64.wrap ((IntKind.i64.wrap ((IntKind.i64.wrap ((IntKind.u64.wrap (IntKind.i64.wrap (s.a+s.b))).fdiv (2^1)))+s.m))-(aA (aO s)).start))<s.b))) (.req (0=0∧(List.length s.data)=List.length (fK (ltD s.b0 s.b1) s.data s.a (IntKind.i64.wrap ((IntKind.u64.wrap (IntKind.i64.wrap (s.a+s.b))).fdiv (2^1))))) (.req (pR nn (RP s)) (.ok ((.v (.tuple #[]),[⟨[.xl jc s.b0],31,.cl,false⟩,⟨[.v (.int .i64 s.b1)],3,.cl,false⟩,⟨[],3,.vec (.int .i64) (fK (ltD s.b0 s.b1) (fK (ltD s.b0 s.b1) s.data s.a (IntKind.i64.wrap ((IntKind.u64.wrap (IntKind.i64.wrap (s.a+s.b))).fdiv (2^1)))) (IntKind.i64.wrap ((IntKind.u64.wrap (IntKind.i64.wrap (s.a+s.b))).fdiv (2^1))) s.b),false⟩,⟨[.fn 43 [.own 0 0,.own 1 0]],84,.cl,false⟩]))))) (.ok ((.v (.tuple #[]),[⟨[.xl jc s.b0],31,.cl,false⟩,⟨[.v (.int .i64 s.b1)],3,.cl,false⟩,⟨[],3,.vec (.int .i64) (fK (ltD s.b0 s.b1) s.data s.a (IntKind.i64.wrap ((IntKind.u64.wrap (IntKind.i64.wrap (s.a+s.b))).fdiv (2^1)))),false⟩,⟨[.fn 43 [.own 0 0,.own 1 0]],84,.cl,false⟩])))))) (.br ((decide ((IntKind.i64.wrap ((IntKind.u64.wrap (IntKind.i64.wrap (s.a+s.b))).fdiv (2^1)))<(IntKind.i64.wrap ((IntKind.i64.wrap ((IntKind.i64.wrap ((IntKind.u64.wrap (IntKind.i64.wrap (s.a+s.b))).fdiv (2^1)))+s.m))-(aA (aO s)).start))))&&(decide ((IntKind.i64.wrap ((IntKind.i64.wrap ((IntKind.i64.wrap ((IntKind.u64.wrap (IntKind.i64.wrap (s.a+s.b))).fdiv (2^1)))+s.m))-(aA (aO s)).start))<s.b))) (.rl s.data (.req (pR nn (RN s)) (.ok ((.v (.tuple #[]),[⟨[.xl jc s.b0],31,.cl,false⟩,⟨[.v (.int .i64 s.b1)],3,.cl,false⟩,⟨[],3,.vec (.int .i64) (fK (ltD s.b0 s.b1) s.data (IntKind.i64.wrap ((IntKind.u64.wrap (IntKind.i64.wrap (s.a+s.b))).fdiv (2^1))) s.b),false⟩,⟨[.fn 43 [.own 0 0,.own 1 0]],84,.cl,false⟩]))))) (.ok ((.v (.tuple #[]),[⟨[.xl jc s.b0],31,.cl,false⟩,⟨[.v (.int .i64 s.b1)],3,.cl,false⟩,⟨[],3,.vec (.int .i64) s.data,false⟩,⟨[.fn 43 [.own 0 0,.own 1 0]],84,.cl,false⟩])))))))) (.rl s.data (.req (aq8 (aN s)) (.br ((decide ((aA (aN s)).start<s.m))&&(decide (s.m<(IntKind.i64.wrap ((IntKind.i64.wrap ((IntKind.i64.wrap ((IntKind.u64.wrap (IntKind.i64.wrap (s.a+s.b))).fdiv (2^1)))+s.m))-(aA (aN s)).start))))) (.rl s.data (.req (aq7 (fA s)) (.rl (cZ (fA s)).data (.req (adf (dV s)) (.br ((decide (s.a<(aA (aN s)).start))&&(decide ((aA (aN s)).start<(IntKind.i64.wrap ((IntKind.u64.wrap (IntKind.i64.wrap (s.a+s.b))).fdiv (2^1)))))) (.req (0=0∧(List.length s.data)=List.length (bK (dV s)).data) (.req (pR nn (RJ s)) (.br ((decide ((IntKind.i64.wrap ((IntKind.u64.wrap (IntKind.i64.wrap (s.a+s.b))).fdiv (2^1)))<(IntKind.i64.wrap ((IntKind.i64.wrap ((IntKind.i64.wrap ((IntKind.u64.wrap (IntKind.i64.wrap (s.a+s.b))).fdiv (2^1)))+s.m))-(aA (aN s)).start))))&&(decide ((IntKind.i64.wrap ((IntKind.i64.wrap ((IntKind.i64.wrap ((IntKind.u64.wrap (IntKind.i64.wrap (s.a+s.b))).fdiv (2^1)))+s.m))-(aA (aN s)).start))<s.b))) (.req (0=0∧(List.length s.data)=List.length (fK (ltD s.b0 s.b1) (bK (dV s)).data s.a (IntKind.i64.wrap ((IntKind.u64.wrap (IntKind.i64.wrap (s.a+s.b))).fdiv (2^1))))) (.req (pR nn (RI s)) (.ok ((.v (.tuple #[]),[⟨[.xl jc s.b0],31,.cl,false⟩,⟨[.v (.int .i64 s.b1)],3,.cl,false⟩,⟨[],3,.vec (.int .i64) (fK (ltD s.b0 s.b1) (fK (ltD s.b0 s.b1) (bK (dV s)).data s.a (IntKind.i64.wrap ((IntKind.u64.wrap (IntKind.i64.wrap (s.a+s.b))).fdiv (2^1)))) (IntKind.i64.wrap ((IntKind.u64.wrap (IntKind.i64.wrap (s.a+s.b))).fdiv (2^1))) s.b),false⟩,⟨[.fn 43 [.own 0 0,.own 1 0]],84,.cl,false⟩]))))) (.ok ((.v (.tuple #[]),[⟨[.xl jc s.b0],31,.cl,false⟩,⟨[.v (.int .i64 s.b1)],3,.cl,false⟩,⟨[],3,.vec (.int .i64) (fK (ltD s.b0 s.b1) (bK (dV s)).data s.a (IntKind.i64.wrap ((IntKind.u64.wrap (IntKind.i64.wrap (s.a+s.b))).fdiv (2^1)))),false⟩,⟨[.fn 43 [.own 0 0,.own 1 0]],84,.cl,false⟩])))))) (.br ((decide ((IntKind.i64.wrap ((IntKind.u64.wrap (IntKind.i64.wrap (s.a+s.b))).fdiv (2^1)))<(IntKind.i64.wrap ((IntKind.i64.wrap ((IntKind.i64.wrap ((IntKind.u64.wrap (IntKind.i64.wrap (s.a+s.b))).fdiv (2^1)))+s.m))-(aA (aN s)).start))))&&(decide ((IntKind.i64.wrap ((IntKind.i64.wrap ((IntKind.i64.wrap ((IntKind.u64.wrap (IntKind.i64.wrap (s.a+s.b))).fdiv (2^1)))+s.m))-(aA (aN s)).start))<s.b))) (.req (0=0∧(List.length s.data)=List.length (bK (dV s)).data) (.req (pR nn (RH s)) (.ok ((.v (.tuple #[]),[⟨[.xl jc s.b0],31,.cl,false⟩,⟨[.v (.int .i64 s.b1)],3,.cl,false⟩,⟨[],3,.vec (.int .i64) (fK (ltD s.b0 s.b1) (bK (dV s)).data (IntKind.i64.wrap ((IntKind.u64.wrap (IntKind.i64.wrap (s.a+s.b))).fdiv (2^1))) s.b),false⟩,⟨[.fn 43 [.own 0 0,.own 1 0]],84,.cl,false⟩]))))) (.ok ((.v (.tuple #[]),[⟨[.xl jc s.b0],31,.cl,false⟩,⟨[.v (.int .i64 s.b1)],3,.cl,false⟩,⟨[],3,.vec (.int .i64) (bK (dV s)).data,false⟩,⟨[.fn 43 [.own 0 0,.own 1 0]],84,.cl,false⟩]))))))))) (.br ((decide (s.a<(aA (aN s)).start))&&(decide ((aA (aN s)).start<(IntKind.i64.wrap ((IntKind.u64.wrap (IntKind.i64.wrap (s.a+s.b))).fdiv (2^1)))))) (.rl s.data (.req (pR nn (RG s)) (.br ((decide ((IntKind.i64.wrap ((IntKind.u64.wrap (IntKind.i64.wrap (s.a+s.b))).fdiv (2^1)))<(IntKind.i64.wrap ((IntKind.i64.wrap ((IntKind.i64.wrap ((IntKind.u64.wrap (IntKind.i64.wrap (s.a+s.b))).fdiv (2^1)))+s.m))-(aA (aN s)).start))))&&(decide ((IntKind.i64.wrap ((IntKind.i64.wrap ((IntKind.i64.wrap ((IntKind.u64.wrap (IntKind.i64.wrap (s.a+s.b))).fdiv (2^1)))+s.m))-(aA (aN s)).start))<s.b))) (.req (0=0∧(List.length s.data)=List.length (fK (ltD s.b0 s.b1) s.data s.a (IntKind.i64.wrap ((IntKind.u64.wrap (IntKind.i64.wrap (s.a+s.b))).fdiv (2^1))))) (.req (pR nn (Rz s)) (.ok ((.v (.tuple #[]),[⟨[.xl jc s.b0],31,.cl,false⟩,⟨[.v (.int .i64 s.b1)],3,.cl,false⟩,⟨[],3,.vec (.int .i64) (fK (ltD s.b0 s.b1) (fK (ltD s.b0 s.b1) s.data s.a (IntKind.i64.wrap ((IntKind.u64.wrap (IntKind.i64.wrap (s.a+s.b))).fdiv (2^1)))) (IntKind.i64.wrap ((IntKind.u64.wrap (IntKind.i64.wrap (s.a+s.b))).fdiv (2^1))) s.b),false⟩,⟨[.fn 43 [.own 0 0,.own 1 0]],84,.cl,false⟩]))))) (.ok ((.v (.tuple #[]),[⟨[.xl jc s.b0],31,.cl,false⟩,⟨[.v (.int .i64 s.b1)],3,.cl,false⟩,⟨[],3,.vec (.int .i64) (fK (ltD s.b0 s.b1) s.data s.a (IntKind.i64.wrap ((IntKind.u64.wrap (IntKind.i64.wrap (s.a+s.b))).fdiv (2^1)))),false⟩,⟨[.fn 43 [.own 0 0,.own 1 0]],84,.cl,false⟩])))))) (.br ((decide ((IntKind.i64.wrap ((IntKind.u64.wrap (IntKind.i64.wrap (s.a+s.b))).fdiv (2^1)))<(IntKind.i64.wrap ((IntKind.i64.wrap ((IntKind.i64.wrap ((IntKind.u64.wrap (IntKind.i64.wrap (s.a+s.b))).fdiv (2^1)))+s.m))-(aA (aN s)).start))))&&(decide ((IntKind.i64.wrap ((IntKind.i64.wrap ((IntKind.i64.wrap ((IntKind.u64.wrap (IntKind.i64.wrap (s.a+s.b))).fdiv (2^1)))+s.m))-(aA (aN s)).start))<s.b))) (.rl s.data (.req (pR nn (Ry s)) (.ok ((.v (.tuple #[]),[⟨[.xl jc s.b0],31,.cl,false⟩,⟨[.v (.int .i64 s.b1)],3,.cl,false⟩,⟨[],3,.vec (.int .i64) (fK (ltD s.b0 s.b1) s.data (IntKind.i64.wrap ((IntKind.u64.wrap (IntKind.i64.wrap (s.a+s.b))).fdiv (2^1))) s.b),false⟩,⟨[.fn 43 [.own 0 0,.own 1 0]],84,.cl,false⟩]))))) (.ok ((.v (.tuple #[]),[⟨[.xl jc s.b0],31,.cl,false⟩,⟨[.v (.int .i64 s.b1)],3,.cl,false⟩,⟨[],3,.vec (.int .i64) s.data,false⟩,⟨[.fn 43 [.own 0 0,.own 1 0]],84,.cl,false⟩])))))))))):=by kernel_rfl
set_option maxRecDepth 100000 in
set_option maxHeartbeats 4000000 in
theorem aso:∀(nn:Nat) (s:dI),qZ.E s→qZ.mu s≤nn→awG (fun q=>q=(.v (.tuple #[]),qZ.B (qZ.r s))) ((yN Tryz.prog aT zx D8 (PE Tryz.prog aT zx D8 (CpD.one 121 (qZ.m nn)) 9)).k 121 (qZ.A s) (qZ.B s)):=by
 intro nn s hE hm
 refine ⟨?_⟩
 replace hE:nX s:=hE
 replace hm:Xd s≤nn:=hm
 rw [show qZ.A=J5 from rfl,show qZ.B=jW from rfl,atZ]
 obtain ⟨⟨e0,e1,e2,e3⟩,⟨⟨k0,k1⟩,k2,k3⟩,sA,sB⟩:=hE
 have hm:(s.b-s.a).toNat≤nn:=hm
 have w1:IntKind.i64.wrap (s.m-s.a)=s.m-s.a:=aF (by omega) (by omega)
 have w2:IntKind.i64.wrap (s.b-s.m)=s.b-s.m:=aF (by omega) (by omega)
 have hmid:(IntKind.i64.wrap ((IntKind.u64.wrap (IntKind.i64.wrap (s.a+s.b))).fdiv (2^1)))=(s.a+s.b) / 2:=hlf (by omega) (by omega)
 have hn:IntKind.i64.wrap ((s.a+s.b) / 2+s.m)=(s.a+s.b) / 2+s.m:=aF (by omega) (by omega)
 rw [w1,w2,hmid,hn]
 refine ⟨fun c1=>?_,fun c1=>⟨fun c2=>?_,fun c2=>⟨fun c0=>?_,fun c0=>?_⟩⟩⟩
 ·have c1:s.m-s.a=1:=by simpa using c1
  have hA:aoR ⟨s.a,s.m,s.b,s.b0,s.b1,s.data⟩:=⟨⟨⟨by show 0≤s.m;omega,by show s.m≤s.b;omega⟩,e3⟩,⟨⟨k0,k1⟩,k2,k3⟩,e0,by show s.a<(List.length s.data:Int);omega⟩
  have q:(Dj ⟨s.a,s.m,s.b,s.b0,s.b1,s.data⟩).i=wE (fun h=>ltD s.b0 s.b1 (gi s.data h) (gi s.data s.a)) s.m s.b:=(ari _ hA).2
  obtain ⟨g1,g2,g3⟩:=uo (F:=fun h=>ltD s.b0 s.b1 (gi s.data h) (gi s.data s.a)) _ (i:=s.m) (j:=s.b) (Nat.le_refl _) (by omega)
  rw [←q] at g1 g2 g3
  have hB:aoP (FM s):=⟨⟨e0,by show s.a≤(Dj ⟨s.a,s.m,s.b,s.b0,s.b1,s.data⟩).i-1;omega⟩,by show (Dj ⟨s.a,s.m,s.b,s.b0,s.b1,s.data⟩).i≤(List.length s.data:Int);omega,k1⟩
  have q2:(VQ (FM s)).data=fD s.data s.a (s.a+1) (Dj ⟨s.a,s.m,s.b,s.b0,s.b1,s.data⟩).i:=(arf _ hB).2
  have q3:=axm di (l:=s.data) e0 (show s.m=s.a+1 by omega) g1.1 g1.2 e3 sB g2 g3
  rw [show s.m=s.a+1 by omega] at q3
  refine ⟨⟨rfl,rfl⟩,⟨hA,rfl,rfl⟩,⟨rfl,rfl⟩,⟨hB,rfl,rfl⟩,?_⟩
  exact congrArg (fun z=>((.v (.tuple #[]):LV),jW {s with data:=z})) (q2.trans (by rw [show s.a+1=s.m by omega] at q3⊢;exact q3))
 ·have c2:s.b-s.m=1:=by simpa using c2
  have hA:aoQ ⟨s.m,s.a,s.m,s.b0,s.b1,s.data⟩:=⟨⟨⟨e0,by show s.a≤s.m;omega⟩,by show s.m≤(List.length s.data:Int);omega⟩,⟨⟨k0,k1⟩,k2,k3⟩,by show 0≤s.m;omega,by show s.m<(List.length s.data:Int);omega⟩
  have q:(G5 ⟨s.m,s.a,s.m,s.b0,s.b1,s.data⟩).i=wE (fun h=>!ltD s.b0 s.b1 (gi s.data s.m) (gi s.data h)) s.a s.m:=(arh _ hA).2
  obtain ⟨g1,g2,g3⟩:=uo (F:=fun h=>!ltD s.b0 s.b1 (gi s.data s.m) (gi s.data h)) _ (i:=s.a) (j:=s.m) (Nat.le_refl _) (by omega)
  rw [←q] at g1 g2 g3
  have hB:aoO (FK s):=⟨⟨by show 0≤(G5 ⟨s.m,s.a,s.m,s.b0,s.b1,s.data⟩).i;omega,g1.2⟩,by show s.m<(List.length s.data:Int);omega,k1⟩
  have q2:(VP (FK s)).data=fD s.data (G5 ⟨s.m,s.a,s.m,s.b0,s.b1,s.data⟩).i s.m (s.m+1):=(ard _ hB).2
  have q3:=axl di (l:=s.data) e0 (show s.b=s.m+1 by omega) g1.1 g1.2 e3 sA (g2.imp id fun h=>by simpa using h) (g3.imp id fun h=>by simpa using h)
  refine ⟨⟨rfl,rfl⟩,⟨hA,rfl,rfl⟩,⟨rfl,rfl⟩,⟨hB,rfl,rfl⟩,?_⟩
  exact congrArg (fun z=>((.v (.tuple #[]):LV),jW {s with data:=z})) (q2.trans (by rw [show s.m+1=s.b by omega];exact q3))
 ·have c0:(s.a+s.b) / 2<s.m:=by simpa using c0
  have hp:IntKind.i64.wrap ((s.a+s.b) / 2+s.m-1)=(s.a+s.b) / 2+s.m-1:=aF (by omega) (by omega)
  have hb':IntKind.i64.wrap ((s.a+s.b) / 2+s.m-s.b)=(s.a+s.b) / 2+s.m-s.b:=aF (by omega) (by omega)
  have hC:akc (aO s):=by
   show ((0≤(IntKind.i64.wrap ((IntKind.i64.wrap ((IntKind.i64.wrap ((IntKind.u64.wrap (IntKind.i64.wrap (s.a+s.b))).fdiv (2^1)))+s.m))-s.b))∧(IntKind.i64.wrap ((IntKind.i64.wrap ((IntKind.i64.wrap ((IntKind.u64.wrap (IntKind.i64.wrap (s.a+s.b))).fdiv (2^1)))+s.m))-s.b))≤(IntKind.i64.wrap ((IntKind.u64.wrap (IntKind.i64.wrap (s.a+s.b))).fdiv (2^1))))∧(IntKind.i64.wrap ((IntKind.u64.wrap (IntKind.i64.wrap (s.a+s.b))).fdiv (2^1)))≤(List.length s.data:Int))∧((s.data.length=s.b0.length∧(List.length s.data:Int)≤1000)∧vG s.data s.b0.length∧kL s.b0 s.b1)∧IntKind.i64.wrap ((IntKind.i64.wrap ((IntKind.i64.wrap ((IntKind.u64.wrap (IntKind.i64.wrap (s.a+s.b))).fdiv (2^1)))+s.m))-1)-(IntKind.i64.wrap ((IntKind.i64.wrap ((IntKind.i64.wrap ((IntKind.u64.wrap (IntKind.i64.wrap (s.a+s.b))).fdiv (2^1)))+s.m))-s.b))<(List.length s.data:Int)∧0≤IntKind.i64.wrap ((IntKind.i64.wrap ((IntKind.i64.wrap ((IntKind.u64.wrap (IntKind.i64.wrap (s.a+s.b))).fdiv (2^1)))+s.m))-1)-((IntKind.i64.wrap ((IntKind.u64.wrap (IntKind.i64.wrap (s.a+s.b))).fdiv (2^1)))-1)∧0≤IntKind.i64.wrap ((IntKind.i64.wrap ((IntKind.i64.wrap ((IntKind.u64.wrap (IntKind.i64.wrap (s.a+s.b))).fdiv (2^1)))+s.m))-1)∧IntKind.i64.wrap ((IntKind.i64.wrap ((IntKind.i64.wrap ((IntKind.u64.wrap (IntKind.i64.wrap (s.a+s.b))).fdiv (2^1)))+s.m))-1)≤2000
   rw [hmid,hn,hp]
   rw [hb']
   exact ⟨⟨⟨by omega,by omega⟩,by omega⟩,⟨⟨k0,k1⟩,k2,k3⟩,by omega,by omega,by omega,by omega⟩
  have q_eq:(aA (aO s)).start=wE (fun h=>!ltD s.b0 s.b1 (gi s.data (IntKind.i64.wrap ((IntKind.i64.wrap ((IntKind.i64.wrap ((IntKind.u64.wrap (IntKind.i64.wrap (s.a+s.b))).fdiv (2^1)))+s.m))-1)-h)) (gi s.data h)) (IntKind.i64.wrap ((IntKind.i64.wrap ((IntKind.i64.wrap ((IntKind.u64.wrap (IntKind.i64.wrap (s.a+s.b))).fdiv (2^1)))+s.m))-s.b)) (IntKind.i64.wrap ((IntKind.u64.wrap (IntKind.i64.wrap (s.a+s.b))).fdiv (2^1))):=(aeA _ hC).2
  rw [hmid,hn,hp] at q_eq
  rw [hb'] at q_eq
  have S:=asa e0 e1 e2 e3 sA sB c0 q_eq
  have u1:=S.aq;have u2:=S.qm;have u3:=S.me;have u4:=S.eb;have u5:=S.qd;have u6:=S.de
  have he:IntKind.i64.wrap ((s.a+s.b) / 2+s.m-(aA (aO s)).start)=(s.a+s.b) / 2+s.m-(aA (aO s)).start:=aF (by omega) (by omega)
  rw [he]
  refine ⟨⟨rfl,rfl⟩,⟨hC,rfl,rfl⟩,fun c2=>?_,fun c2=>?_⟩
  ·rw [Bool.and_eq_true,decide_eq_true_eq,decide_eq_true_eq] at c2
   have ei:(IntKind.i64.wrap (s.m-(aA (aO s)).start))=s.m-(aA (aO s)).start:=aF (by omega) (by omega)
   have ej:(IntKind.i64.wrap ((IntKind.i64.wrap ((IntKind.i64.wrap ((IntKind.i64.wrap ((IntKind.u64.wrap (IntKind.i64.wrap (s.a+s.b))).fdiv (2^1)))+s.m))-(aA (aO s)).start))-s.m))=(s.a+s.b) / 2-(aA (aO s)).start:=by
    rw [hmid,hn,he]
    exact (aF (by omega) (by omega)).trans (by omega)
   have hR:aem (fB s):=by
    show ((1≤(IntKind.i64.wrap (s.m-(aA (aO s)).start))∧1≤(IntKind.i64.wrap ((IntKind.i64.wrap ((IntKind.i64.wrap ((IntKind.i64.wrap ((IntKind.u64.wrap (IntKind.i64.wrap (s.a+s.b))).fdiv (2^1)))+s.m))-(aA (aO s)).start))-s.m)))∧0≤s.m-(IntKind.i64.wrap (s.m-(aA (aO s)).start)))∧s.m+(IntKind.i64.wrap ((IntKind.i64.wrap ((IntKind.i64.wrap ((IntKind.i64.wrap ((IntKind.u64.wrap (IntKind.i64.wrap (s.a+s.b))).fdiv (2^1)))+s.m))-(aA (aO s)).start))-s.m))≤(List.length s.data:Int)∧(List.length s.data:Int)≤1000
    rw [ei,ej]
    omega
   obtain ⟨_,_,_,r2,rI⟩:=aey _ hR
   have r3:fD (cZ (fB s)).data (s.m-(cZ (fB s)).i) s.m (s.m+(cZ (fB s)).j)=fD s.data (s.m-(IntKind.i64.wrap (s.m-(aA (aO s)).start))) s.m (s.m+(IntKind.i64.wrap ((IntKind.i64.wrap ((IntKind.i64.wrap ((IntKind.i64.wrap ((IntKind.u64.wrap (IntKind.i64.wrap (s.a+s.b))).fdiv (2^1)))+s.m))-(aA (aO s)).start))-s.m))):=(aex _ hR).2
   have rI:((1≤(cZ (fB s)).i∧1≤(cZ (fB s)).j)∧0≤s.m-(cZ (fB s)).i)∧s.m+(cZ (fB s)).j≤(List.length (cZ (fB s)).data:Int)∧(List.length (cZ (fB s)).data:Int)≤1000:=rI
   have ew:IntKind.i64.wrap (s.m-(cZ (fB s)).i)=s.m-(cZ (fB s)).i:=aF (by omega) (by omega)
   have hS:KC (dW s):=⟨⟨Int.le_refl 0,by show (0:Int)≤(cZ (fB s)).i;omega⟩,by show 0≤IntKind.i64.wrap (s.m-(cZ (fB s)).i)∧IntKind.i64.wrap (s.m-(cZ (fB s)).i)+(cZ (fB s)).i≤s.m∧s.m+(cZ (fB s)).i≤(List.length (cZ (fB s)).data:Int);rw [ew];omega,rI.2.2⟩
   have hD:(bK (dW s)).data=fD s.data (aA (aO s)).start s.m ((s.a+s.b) / 2+s.m-(aA (aO s)).start):=by
    refine (Ny _ hS rfl).2.trans ?_
    show J6 (cZ (fB s)).data (IntKind.i64.wrap (s.m-(cZ (fB s)).i)) s.m (cZ (fB s)).i=_
    rw [ew,VT,show s.m+(cZ (fB s)).i=s.m+(cZ (fB s)).j by omega,r3,ei,ej,show s.m-(s.m-(aA (aO s)).start)=(aA (aO s)).start by omega,show s.m+((s.a+s.b) / 2-(aA (aO s)).start)=(s.a+s.b) / 2+s.m-(aA (aO s)).start by omega]
   refine ⟨⟨rfl,rfl⟩,⟨hR,rfl,rfl⟩,⟨rfl,rfl⟩,⟨hS,rfl,rfl⟩,?_⟩
   have hl:(fD s.data (aA (aO s)).start s.m ((s.a+s.b) / 2+s.m-(aA (aO s)).start)).length=s.data.length:=dS
   have hpR:=tV (l:=s.data) (s:=(aA (aO s)).start) (m:=s.m) (e:=(s.a+s.b) / 2+s.m-(aA (aO s)).start) (by omega) S.qm S.me (by omega)
   have elR':=ja hpR k2
   have hpX:=gW (lt:=ltD s.b0 s.b1) (l:=fD s.data (aA (aO s)).start s.m ((s.a+s.b) / 2+s.m-(aA (aO s)).start)) (a:=s.a) (b:=(s.a+s.b) / 2) (by omega)
   have elX:=ja hpX elR'
   have hlX:=hpX.length_eq
   refine ⟨fun c3=>?_,fun c3=>?_⟩
   ·rw [Bool.and_eq_true,decide_eq_true_eq,decide_eq_true_eq] at c3
    have h1:nX (RV s):=by
     show (0≤s.a∧s.a<(aA (aO s)).start∧(aA (aO s)).start<(IntKind.i64.wrap ((IntKind.u64.wrap (IntKind.i64.wrap (s.a+s.b))).fdiv (2^1)))∧(IntKind.i64.wrap ((IntKind.u64.wrap (IntKind.i64.wrap (s.a+s.b))).fdiv (2^1)))≤(List.length (bK (dW s)).data:Int))∧(((bK (dW s)).data.length=s.b0.length∧(List.length (bK (dW s)).data:Int)≤1000)∧vG (bK (dW s)).data s.b0.length∧kL s.b0 s.b1)∧kU (ltD s.b0 s.b1) (bK (dW s)).data s.a (aA (aO s)).start∧kU (ltD s.b0 s.b1) (bK (dW s)).data (aA (aO s)).start (IntKind.i64.wrap ((IntKind.u64.wrap (IntKind.i64.wrap (s.a+s.b))).fdiv (2^1)))
     rw [hmid,hD]
     exact ⟨⟨e0,c3.1,c3.2,by omega⟩,⟨⟨by omega,by omega⟩,elR',k3⟩,S.r1,S.r2⟩
    refine ⟨⟨rfl,by rw [hD,dS]⟩,⟨h1,by show ((IntKind.i64.wrap ((IntKind.u64.wrap (IntKind.i64.wrap (s.a+s.b))).fdiv (2^1)))-s.a).toNat<nn;rw [hmid];omega,rfl,rfl⟩,fun c4=>?_,fun c4=>?_⟩
    ·rw [Bool.and_eq_true,decide_eq_true_eq,decide_eq_true_eq] at c4
     have h2:nX (RU s):=by
      show (0≤(IntKind.i64.wrap ((IntKind.u64.wrap (IntKind.i64.wrap (s.a+s.b))).fdiv (2^1)))∧(IntKind.i64.wrap ((IntKind.u64.wrap (IntKind.i64.wrap (s.a+s.b))).fdiv (2^1)))<(IntKind.i64.wrap ((IntKind.i64.wrap ((IntKind.i64.wrap ((IntKind.u64.wrap (IntKind.i64.wrap (s.a+s.b))).fdiv (2^1)))+s.m))-(aA (aO s)).start))∧(IntKind.i64.wrap ((IntKind.i64.wrap ((IntKind.i64.wrap ((IntKind.u64.wrap (IntKind.i64.wrap (s.a+s.b))).fdiv (2^1)))+s.m))-(aA (aO s)).start))<s.b∧s.b≤(List.length (fK (ltD s.b0 s.b1) (bK (dW s)).data s.a (IntKind.i64.wrap ((IntKind.u64.wrap (IntKind.i64.wrap (s.a+s.b))).fdiv (2^1)))):Int))∧(((fK (ltD s.b0 s.b1) (bK (dW s)).data s.a (IntKind.i64.wrap ((IntKind.u64.wrap (IntKind.i64.wrap (s.a+s.b))).fdiv (2^1)))).length=s.b0.length∧(List.length (fK (ltD s.b0 s.b1) (bK (dW s)).data s.a (IntKind.i64.wrap ((IntKind.u64.wrap (IntKind.i64.wrap (s.a+s.b))).fdiv (2^1)))):Int)≤1000)∧vG (fK (ltD s.b0 s.b1) (bK (dW s)).data s.a (IntKind.i64.wrap ((IntKind.u64.wrap (IntKind.i64.wrap (s.a+s.b))).fdiv (2^1)))) s.b0.length∧kL s.b0 s.b1)∧kU (ltD s.b0 s.b1) (fK (ltD s.b0 s.b1) (bK (dW s)).data s.a (IntKind.i64.wrap ((IntKind.u64.wrap (IntKind.i64.wrap (s.a+s.b))).fdiv (2^1)))) (IntKind.i64.wrap ((IntKind.u64.wrap (IntKind.i64.wrap (s.a+s.b))).fdiv (2^1))) (IntKind.i64.wrap ((IntKind.i64.wrap ((IntKind.i64.wrap ((IntKind.u64.wrap (IntKind.i64.wrap (s.a+s.b))).fdiv (2^1)))+s.m))-(aA (aO s)).start))∧kU (ltD s.b0 s.b1) (fK (ltD s.b0 s.b1) (bK (dW s)).data s.a (IntKind.i64.wrap ((IntKind.u64.wrap (IntKind.i64.wrap (s.a+s.b))).fdiv (2^1)))) (IntKind.i64.wrap ((IntKind.i64.wrap ((IntKind.i64.wrap ((IntKind.u64.wrap (IntKind.i64.wrap (s.a+s.b))).fdiv (2^1)))+s.m))-(aA (aO s)).start)) s.b
      rw [hmid,hn,he,hD]
      exact ⟨⟨by omega,c4.1,c4.2,by omega⟩,⟨⟨by omega,by omega⟩,elX,k3⟩,S.keep iZ S.r3 (Int.le_refl _),S.keep iZ S.r4 S.de⟩
     refine ⟨⟨rfl,by rw [hD,hlX,hl]⟩,⟨h2,by show (s.b-(IntKind.i64.wrap ((IntKind.u64.wrap (IntKind.i64.wrap (s.a+s.b))).fdiv (2^1)))).toNat<nn;rw [hmid];omega,rfl,rfl⟩,?_⟩
     exact congrArg (fun z=>((.v (.tuple #[]):LV),jW {s with data:=z})) ((congrArg (fun z=>fK (ltD s.b0 s.b1) (fK (ltD s.b0 s.b1) z s.a ((s.a+s.b) / 2)) ((s.a+s.b) / 2) s.b) hD).trans (S.main di))
    ·have c4:¬((s.a+s.b) / 2<(s.a+s.b) / 2+s.m-(aA (aO s)).start∧(s.a+s.b) / 2+s.m-(aA (aO s)).start<s.b):=fun h=>by
      rw [decide_eq_true h.1,decide_eq_true h.2] at c4
      cases c4
     exact congrArg (fun z=>((.v (.tuple #[]):LV),jW {s with data:=z})) ((congrArg (fun z=>fK (ltD s.b0 s.b1) z s.a ((s.a+s.b) / 2)) hD).trans ((S.n2 di c4).symm.trans (S.main di)))
   ·have c3:¬(s.a<(aA (aO s)).start∧(aA (aO s)).start<(s.a+s.b) / 2):=fun h=>by
     rw [decide_eq_true h.1,decide_eq_true h.2] at c3
     cases c3
    refine ⟨fun c4=>?_,fun c4=>?_⟩
    ·rw [Bool.and_eq_true,decide_eq_true_eq,decide_eq_true_eq] at c4
     have h2:nX (RS s):=by
      show (0≤(IntKind.i64.wrap ((IntKind.u64.wrap (IntKind.i64.wrap (s.a+s.b))).fdiv (2^1)))∧(IntKind.i64.wrap ((IntKind.u64.wrap (IntKind.i64.wrap (s.a+s.b))).fdiv (2^1)))<(IntKind.i64.wrap ((IntKind.i64.wrap ((IntKind.i64.wrap ((IntKind.u64.wrap (IntKind.i64.wrap (s.a+s.b))).fdiv (2^1)))+s.m))-(aA (aO s)).start))∧(IntKind.i64.wrap ((IntKind.i64.wrap ((IntKind.i64.wrap ((IntKind.u64.wrap (IntKind.i64.wrap (s.a+s.b))).fdiv (2^1)))+s.m))-(aA (aO s)).start))<s.b∧s.b≤(List.length (bK (dW s)).data:Int))∧(((bK (dW s)).data.length=s.b0.length∧(List.length (bK (dW s)).data:Int)≤1000)∧vG (bK (dW s)).data s.b0.length∧kL s.b0 s.b1)∧kU (ltD s.b0 s.b1) (bK (dW s)).data (IntKind.i64.wrap ((IntKind.u64.wrap (IntKind.i64.wrap (s.a+s.b))).fdiv (2^1))) (IntKind.i64.wrap ((IntKind.i64.wrap ((IntKind.i64.wrap ((IntKind.u64.wrap (IntKind.i64.wrap (s.a+s.b))).fdiv (2^1)))+s.m))-(aA (aO s)).start))∧kU (ltD s.b0 s.b1) (bK (dW s)).data (IntKind.i64.wrap ((IntKind.i64.wrap ((IntKind.i64.wrap ((IntKind.u64.wrap (IntKind.i64.wrap (s.a+s.b))).fdiv (2^1)))+s.m))-(aA (aO s)).start)) s.b
      rw [hmid,hn,he,hD]
      exact ⟨⟨by omega,c4.1,c4.2,by omega⟩,⟨⟨by omega,by omega⟩,elR',k3⟩,S.r3,S.r4⟩
     refine ⟨⟨rfl,by rw [hD,dS]⟩,⟨h2,by show (s.b-(IntKind.i64.wrap ((IntKind.u64.wrap (IntKind.i64.wrap (s.a+s.b))).fdiv (2^1)))).toNat<nn;rw [hmid];omega,rfl,rfl⟩,?_⟩
     exact congrArg (fun z=>((.v (.tuple #[]):LV),jW {s with data:=z})) ((congrArg (fun z=>fK (ltD s.b0 s.b1) z ((s.a+s.b) / 2) s.b) (hD.trans (S.n1 di c3).symm)).trans (S.main di))
    ·have c4:¬((s.a+s.b) / 2<(s.a+s.b) / 2+s.m-(aA (aO s)).start∧(s.a+s.b) / 2+s.m-(aA (aO s)).start<s.b):=fun h=>by
      rw [decide_eq_true h.1,decide_eq_true h.2] at c4
      cases c4
     exact congrArg (fun z=>((.v (.tuple #[]):LV),jW {s with data:=z})) (hD.trans ((S.n1 di c3).symm.trans ((S.n2 di c4).symm.trans (S.main di))))
  ·have c2:¬((aA (aO s)).start<s.m∧s.m<(s.a+s.b) / 2+s.m-(aA (aO s)).start):=fun h=>by
    rw [decide_eq_true h.1,decide_eq_true h.2] at c2
    cases c2
   have hD:s.data=fD s.data (aA (aO s)).start s.m ((s.a+s.b) / 2+s.m-(aA (aO s)).start):=(S.afp c2).symm
   have hl:(fD s.data (aA (aO s)).start s.m ((s.a+s.b) / 2+s.m-(aA (aO s)).start)).length=s.data.length:=dS
   have hpR:=tV (l:=s.data) (s:=(aA (aO s)).start) (m:=s.m) (e:=(s.a+s.b) / 2+s.m-(aA (aO s)).start) (by omega) S.qm S.me (by omega)
   have elR':=ja hpR k2
   have hpX:=gW (lt:=ltD s.b0 s.b1) (l:=fD s.data (aA (aO s)).start s.m ((s.a+s.b) / 2+s.m-(aA (aO s)).start)) (a:=s.a) (b:=(s.a+s.b) / 2) (by omega)
   have elX:=ja hpX elR'
   have hlX:=hpX.length_eq
   refine ⟨fun c3=>?_,fun c3=>?_⟩
   ·rw [Bool.and_eq_true,decide_eq_true_eq,decide_eq_true_eq] at c3
    have h1:nX (RQ s):=by
     show (0≤s.a∧s.a<(aA (aO s)).start∧(aA (aO s)).start<(IntKind.i64.wrap ((IntKind.u64.wrap (IntKind.i64.wrap (s.a+s.b))).fdiv (2^1)))∧(IntKind.i64.wrap ((IntKind.u64.wrap (IntKind.i64.wrap (s.a+s.b))).fdiv (2^1)))≤(List.length s.data:Int))∧((s.data.length=s.b0.length∧(List.length s.data:Int)≤1000)∧vG s.data s.b0.length∧kL s.b0 s.b1)∧kU (ltD s.b0 s.b1) s.data s.a (aA (aO s)).start∧kU (ltD s.b0 s.b1) s.data (aA (aO s)).start (IntKind.i64.wrap ((IntKind.u64.wrap (IntKind.i64.wrap (s.a+s.b))).fdiv (2^1)))
     rw [hmid,hD]
     exact ⟨⟨e0,c3.1,c3.2,by omega⟩,⟨⟨by omega,by omega⟩,elR',k3⟩,S.r1,S.r2⟩
    refine ⟨⟨rfl,rfl⟩,⟨h1,by show ((IntKind.i64.wrap ((IntKind.u64.wrap (IntKind.i64.wrap (s.a+s.b))).fdiv (2^1)))-s.a).toNat<nn;rw [hmid];omega,rfl,rfl⟩,fun c4=>?_,fun c4=>?_⟩
    ·rw [Bool.and_eq_true,decide_eq_true_eq,decide_eq_true_eq] at c4
     have h2:nX (RP s):=by
      show (0≤(IntKind.i64.wrap ((IntKind.u64.wrap (IntKind.i64.wrap (s.a+s.b))).fdiv (2^1)))∧(IntKind.i64.wrap ((IntKind.u64.wrap (IntKind.i64.wrap (s.a+s.b))).fdiv (2^1)))<(IntKind.i64.wrap ((IntKind.i64.wrap ((IntKind.i64.wrap ((IntKind.u64.wrap (IntKind.i64.wrap (s.a+s.b))).fdiv (2^1)))+s.m))-(aA (aO s)).start))∧(IntKind.i64.wrap ((IntKind.i64.wrap ((IntKind.i64.wrap ((IntKind.u64.wrap (IntKind.i64.wrap (s.a+s.b))).fdiv (2^1)))+s.m))-(aA (aO s)).start))<s.b∧s.b≤(List.length (fK (ltD s.b0 s.b1) s.data s.a (IntKind.i64.wrap ((IntKind.u64.wrap (IntKind.i64.wrap (s.a+s.b))).fdiv (2^1)))):Int))∧(((fK (ltD s.b0 s.b1) s.data s.a (IntKind.i64.wrap ((IntKind.u64.wrap (IntKind.i64.wrap (s.a+s.b))).fdiv (2^1)))).length=s.b0.length∧(List.length (fK (ltD s.b0 s.b1) s.data s.a (IntKind.i64.wrap ((IntKind.u64.wrap (IntKind.i64.wrap (s.a+s.b))).fdiv (2^1)))):Int)≤1000)∧vG (fK (ltD s.b0 s.b1) s.data s.a (IntKind.i64.wrap ((IntKind.u64.wrap (IntKind.i64.wrap (s.a+s.b))).fdiv (2^1)))) s.b0.length∧kL s.b0 s.b1)∧kU (ltD s.b0 s.b1) (fK (ltD s.b0 s.b1) s.data s.a (IntKind.i64.wrap ((IntKind.u64.wrap (IntKind.i64.wrap (s.a+s.b))).fdiv (2^1)))) (IntKind.i64.wrap ((IntKind.u64.wrap (IntKind.i64.wrap (s.a+s.b))).fdiv (2^1))) (IntKind.i64.wrap ((IntKind.i64.wrap ((IntKind.i64.wrap ((IntKind.u64.wrap (IntKind.i64.wrap (s.a+s.b))).fdiv (2^1)))+s.m))-(aA (aO s)).start))∧kU (ltD s.b0 s.b1) (fK (ltD s.b0 s.b1) s.data s.a (IntKind.i64.wrap ((IntKind.u64.wrap (IntKind.i64.wrap (s.a+s.b))).fdiv (2^1)))) (IntKind.i64.wrap ((IntKind.i64.wrap ((IntKind.i64.wrap ((IntKind.u64.wrap (IntKind.i64.wrap (s.a+s.b))).fdiv (2^1)))+s.m))-(aA (aO s)).start)) s.b
      rw [hmid,hn,he,hD]
      exact ⟨⟨by omega,c4.1,c4.2,by omega⟩,⟨⟨by omega,by omega⟩,elX,k3⟩,S.keep iZ S.r3 (Int.le_refl _),S.keep iZ S.r4 S.de⟩
     refine ⟨⟨rfl,by rw [hD,hlX,hl]⟩,⟨h2,by show (s.b-(IntKind.i64.wrap ((IntKind.u64.wrap (IntKind.i64.wrap (s.a+s.b))).fdiv (2^1)))).toNat<nn;rw [hmid];omega,rfl,rfl⟩,?_⟩
     exact congrArg (fun z=>((.v (.tuple #[]):LV),jW {s with data:=z})) ((congrArg (fun z=>fK (ltD s.b0 s.b1) (fK (ltD s.b0 s.b1) z s.a ((s.a+s.b) / 2)) ((s.a+s.b) / 2) s.b) hD).trans (S.main di))
    ·have c4:¬((s.a+s.b) / 2<(s.a+s.b) / 2+s.m-(aA (aO s)).start∧(s.a+s.b) / 2+s.m-(aA (aO s)).start<s.b):=fun h=>by
      rw [decide_eq_true h.1,decide_eq_true h.2] at c4
      cases c4
     exact congrArg (fun z=>((.v (.tuple #[]):LV),jW {s with data:=z})) ((congrArg (fun z=>fK (ltD s.b0 s.b1) z s.a ((s.a+s.b) / 2)) hD).trans ((S.n2 di c4).symm.trans (S.main di)))
   ·have c3:¬(s.a<(aA (aO s)).start∧(aA (aO s)).start<(s.a+s.b) / 2):=fun h=>by
     rw [decide_eq_true h.1,decide_eq_true h.2] at c3
     cases c3
    refine ⟨fun c4=>?_,fun c4=>?_⟩
    ·rw [Bool.and_eq_true,decide_eq_true_eq,decide_eq_true_eq] at c4
     have h2:nX (RN s):=by
      show (0≤(IntKind.i64.wrap ((IntKind.u64.wrap (IntKind.i64.wrap (s.a+s.b))).fdiv (2^1)))∧(IntKind.i64.wrap ((IntKind.u64.wrap (IntKind.i64.wrap (s.a+s.b))).fdiv (2^1)))<(IntKind.i64.wrap ((IntKind.i64.wrap ((IntKind.i64.wrap ((IntKind.u64.wrap (IntKind.i64.wrap (s.a+s.b))).fdiv (2^1)))+s.m))-(aA (aO s)).start))∧(IntKind.i64.wrap ((IntKind.i64.wrap ((IntKind.i64.wrap ((IntKind.u64.wrap (IntKind.i64.wrap (s.a+s.b))).fdiv (2^1)))+s.m))-(aA (aO s)).start))<s.b∧s.b≤(List.length s.data:Int))∧((s.data.length=s.b0.length∧(List.length s.data:Int)≤1000)∧vG s.data s.b0.length∧kL s.b0 s.b1)∧kU (ltD s.b0 s.b1) s.data (IntKind.i64.wrap ((IntKind.u64.wrap (IntKind.i64.wrap (s.a+s.b))).fdiv (2^1))) (IntKind.i64.wrap ((IntKind.i64.wrap ((IntKind.i64.wrap ((IntKind.u64.wrap (IntKind.i64.wrap (s.a+s.b))).fdiv (2^1)))+s.m))-(aA (aO s)).start))∧kU (ltD s.b0 s.b1) s.data (IntKind.i64.wrap ((IntKind.i64.wrap ((IntKind.i64.wrap ((IntKind.u64.wrap (IntKind.i64.wrap (s.a+s.b))).fdiv (2^1)))+s.m))-(aA (aO s)).start)) s.b
      rw [hmid,hn,he,hD]
      exact ⟨⟨by omega,c4.1,c4.2,by omega⟩,⟨⟨by omega,by omega⟩,elR',k3⟩,S.r3,S.r4⟩
     refine ⟨⟨rfl,rfl⟩,⟨h2,by show (s.b-(IntKind.i64.wrap ((IntKind.u64.wrap (IntKind.i64.wrap (s.a+s.b))).fdiv (2^1)))).toNat<nn;rw [hmid];omega,rfl,rfl⟩,?_⟩
     exact congrArg (fun z=>((.v (.tuple #[]):LV),jW {s with data:=z})) ((congrArg (fun z=>fK (ltD s.b0 s.b1) z ((s.a+s.b) / 2) s.b) (hD.trans (S.n1 di c3).symm)).trans (S.main di))
    ·have c4:¬((s.a+s.b) / 2<(s.a+s.b) / 2+s.m-(aA (aO s)).start∧(s.a+s.b) / 2+s.m-(aA (aO s)).start<s.b):=fun h=>by
      rw [decide_eq_true h.1,decide_eq_true h.2] at c4
      cases c4
     exact congrArg (fun z=>((.v (.tuple #[]):LV),jW {s with data:=z})) (hD.trans ((S.n1 di c3).symm.trans ((S.n2 di c4).symm.trans (S.main di))))
 ·have c0:s.m≤(s.a+s.b) / 2:=by simpa using c0
  have hp:IntKind.i64.wrap ((s.a+s.b) / 2+s.m-1)=(s.a+s.b) / 2+s.m-1:=aF (by omega) (by omega)
  have hb':IntKind.i64.wrap ((s.a+s.b) / 2+s.m-s.b)=(s.a+s.b) / 2+s.m-s.b:=aF (by omega) (by omega)
  have hC:akc (aN s):=by
   show ((0≤s.a∧s.a≤s.m)∧s.m≤(List.length s.data:Int))∧((s.data.length=s.b0.length∧(List.length s.data:Int)≤1000)∧vG s.data s.b0.length∧kL s.b0 s.b1)∧IntKind.i64.wrap ((IntKind.i64.wrap ((IntKind.i64.wrap ((IntKind.u64.wrap (IntKind.i64.wrap (s.a+s.b))).fdiv (2^1)))+s.m))-1)-s.a<(List.length s.data:Int)∧0≤IntKind.i64.wrap ((IntKind.i64.wrap ((IntKind.i64.wrap ((IntKind.u64.wrap (IntKind.i64.wrap (s.a+s.b))).fdiv (2^1)))+s.m))-1)-(s.m-1)∧0≤IntKind.i64.wrap ((IntKind.i64.wrap ((IntKind.i64.wrap ((IntKind.u64.wrap (IntKind.i64.wrap (s.a+s.b))).fdiv (2^1)))+s.m))-1)∧IntKind.i64.wrap ((IntKind.i64.wrap ((IntKind.i64.wrap ((IntKind.u64.wrap (IntKind.i64.wrap (s.a+s.b))).fdiv (2^1)))+s.m))-1)≤2000
   rw [hmid,hn,hp]
   exact ⟨⟨⟨by omega,by omega⟩,by omega⟩,⟨⟨k0,k1⟩,k2,k3⟩,by omega,by omega,by omega,by omega⟩
  have q_eq:(aA (aN s)).start=wE (fun h=>!ltD s.b0 s.b1 (gi s.data (IntKind.i64.wrap ((IntKind.i64.wrap ((IntKind.i64.wrap ((IntKind.u64.wrap (IntKind.i64.wrap (s.a+s.b))).fdiv (2^1)))+s.m))-1)-h)) (gi s.data h)) s.a s.m:=(aeA _ hC).2
  rw [hmid,hn,hp] at q_eq
  have S:=ar9 e0 e1 e2 e3 sA sB c0 q_eq
  have u1:=S.aq;have u2:=S.qm;have u3:=S.me;have u4:=S.eb;have u5:=S.qd;have u6:=S.de
  have he:IntKind.i64.wrap ((s.a+s.b) / 2+s.m-(aA (aN s)).start)=(s.a+s.b) / 2+s.m-(aA (aN s)).start:=aF (by omega) (by omega)
  rw [he]
  refine ⟨⟨rfl,rfl⟩,⟨hC,rfl,rfl⟩,fun c2=>?_,fun c2=>?_⟩
  ·rw [Bool.and_eq_true,decide_eq_true_eq,decide_eq_true_eq] at c2
   have ei:(IntKind.i64.wrap (s.m-(aA (aN s)).start))=s.m-(aA (aN s)).start:=aF (by omega) (by omega)
   have ej:(IntKind.i64.wrap ((IntKind.i64.wrap ((IntKind.i64.wrap ((IntKind.i64.wrap ((IntKind.u64.wrap (IntKind.i64.wrap (s.a+s.b))).fdiv (2^1)))+s.m))-(aA (aN s)).start))-s.m))=(s.a+s.b) / 2-(aA (aN s)).start:=by
    rw [hmid,hn,he]
    exact (aF (by omega) (by omega)).trans (by omega)
   have hR:aem (fA s):=by
    show ((1≤(IntKind.i64.wrap (s.m-(aA (aN s)).start))∧1≤(IntKind.i64.wrap ((IntKind.i64.wrap ((IntKind.i64.wrap ((IntKind.i64.wrap ((IntKind.u64.wrap (IntKind.i64.wrap (s.a+s.b))).fdiv (2^1)))+s.m))-(aA (aN s)).start))-s.m)))∧0≤s.m-(IntKind.i64.wrap (s.m-(aA (aN s)).start)))∧s.m+(IntKind.i64.wrap ((IntKind.i64.wrap ((IntKind.i64.wrap ((IntKind.i64.wrap ((IntKind.u64.wrap (IntKind.i64.wrap (s.a+s.b))).fdiv (2^1)))+s.m))-(aA (aN s)).start))-s.m))≤(List.length s.data:Int)∧(List.length s.data:Int)≤1000
    rw [ei,ej]
    omega
   obtain ⟨_,_,_,r2,rI⟩:=aey _ hR
   have r3:fD (cZ (fA s)).data (s.m-(cZ (fA s)).i) s.m (s.m+(cZ (fA s)).j)=fD s.data (s.m-(IntKind.i64.wrap (s.m-(aA (aN s)).start))) s.m (s.m+(IntKind.i64.wrap ((IntKind.i64.wrap ((IntKind.i64.wrap ((IntKind.i64.wrap ((IntKind.u64.wrap (IntKind.i64.wrap (s.a+s.b))).fdiv (2^1)))+s.m))-(aA (aN s)).start))-s.m))):=(aex _ hR).2
   have rI:((1≤(cZ (fA s)).i∧1≤(cZ (fA s)).j)∧0≤s.m-(cZ (fA s)).i)∧s.m+(cZ (fA s)).j≤(List.length (cZ (fA s)).data:Int)∧(List.length (cZ (fA s)).data:Int)≤1000:=rI
   have ew:IntKind.i64.wrap (s.m-(cZ (fA s)).i)=s.m-(cZ (fA s)).i:=aF (by omega) (by omega)
   have hS:KC (dV s):=⟨⟨Int.le_refl 0,by show (0:Int)≤(cZ (fA s)).i;omega⟩,by show 0≤IntKind.i64.wrap (s.m-(cZ (fA s)).i)∧IntKind.i64.wrap (s.m-(cZ (fA s)).i)+(cZ (fA s)).i≤s.m∧s.m+(cZ (fA s)).i≤(List.length (cZ (fA s)).data:Int);rw [ew];omega,rI.2.2⟩
   have hD:(bK (dV s)).data=fD s.data (aA (aN s)).start s.m ((s.a+s.b) / 2+s.m-(aA (aN s)).start):=by
    refine (Ny _ hS rfl).2.trans ?_
    show J6 (cZ (fA s)).data (IntKind.i64.wrap (s.m-(cZ (fA s)).i)) s.m (cZ (fA s)).i=_
    rw [ew,VT,show s.m+(cZ (fA s)).i=s.m+(cZ (fA s)).j by omega,r3,ei,ej,show s.m-(s.m-(aA (aN s)).start)=(aA (aN s)).start by omega,show s.m+((s.a+s.b) / 2-(aA (aN s)).start)=(s.a+s.b) / 2+s.m-(aA (aN s)).start by omega]
   refine ⟨⟨rfl,rfl⟩,⟨hR,rfl,rfl⟩,⟨rfl,rfl⟩,⟨hS,rfl,rfl⟩,?_⟩
   have hl:(fD s.data (aA (aN s)).start s.m ((s.a+s.b) / 2+s.m-(aA (aN s)).start)).length=s.data.length:=dS
   have hpR:=tV (l:=s.data) (s:=(aA (aN s)).start) (m:=s.m) (e:=(s.a+s.b) / 2+s.m-(aA (aN s)).start) (by omega) S.qm S.me (by omega)
   have elR':=ja hpR k2
   have hpX:=gW (lt:=ltD s.b0 s.b1) (l:=fD s.data (aA (aN s)).start s.m ((s.a+s.b) / 2+s.m-(aA (aN s)).start)) (a:=s.a) (b:=(s.a+s.b) / 2) (by omega)
   have elX:=ja hpX elR'
   have hlX:=hpX.length_eq
   refine ⟨fun c3=>?_,fun c3=>?_⟩
   ·rw [Bool.and_eq_true,decide_eq_true_eq,decide_eq_true_eq] at c3
    have h1:nX (RJ s):=by
     show (0≤s.a∧s.a<(aA (aN s)).start∧(aA (aN s)).start<(IntKind.i64.wrap ((IntKind.u64.wrap (IntKind.i64.wrap (s.a+s.b))).fdiv (2^1)))∧(IntKind.i64.wrap ((IntKind.u64.wrap (IntKind.i64.wrap (s.a+s.b))).fdiv (2^1)))≤(List.length (bK (dV s)).data:Int))∧(((bK (dV s)).data.length=s.b0.length∧(List.length (bK (dV s)).data:Int)≤1000)∧vG (bK (dV s)).data s.b0.length∧kL s.b0 s.b1)∧kU (ltD s.b0 s.b1) (bK (dV s)).data s.a (aA (aN s)).start∧kU (ltD s.b0 s.b1) (bK (dV s)).data (aA (aN s)).start (IntKind.i64.wrap ((IntKind.u64.wrap (IntKind.i64.wrap (s.a+s.b))).fdiv (2^1)))
     rw [hmid,hD]
     exact ⟨⟨e0,c3.1,c3.2,by omega⟩,⟨⟨by omega,by omega⟩,elR',k3⟩,S.r1,S.r2⟩
    refine ⟨⟨rfl,by rw [hD,dS]⟩,⟨h1,by show ((IntKind.i64.wrap ((IntKind.u64.wrap (IntKind.i64.wrap (s.a+s.b))).fdiv (2^1)))-s.a).toNat<nn;rw [hmid];omega,rfl,rfl⟩,fun c4=>?_,fun c4=>?_⟩
    ·rw [Bool.and_eq_true,decide_eq_true_eq,decide_eq_true_eq] at c4
     have h2:nX (RI s):=by
      show (0≤(IntKind.i64.wrap ((IntKind.u64.wrap (IntKind.i64.wrap (s.a+s.b))).fdiv (2^1)))∧(IntKind.i64.wrap ((IntKind.u64.wrap (IntKind.i64.wrap (s.a+s.b))).fdiv (2^1)))<(IntKind.i64.wrap ((IntKind.i64.wrap ((IntKind.i64.wrap ((IntKind.u64.wrap (IntKind.i64.wrap (s.a+s.b))).fdiv (2^1)))+s.m))-(aA (aN s)).start))∧(IntKind.i64.wrap ((IntKind.i64.wrap ((IntKind.i64.wrap ((IntKind.u64.wrap (IntKind.i64.wrap (s.a+s.b))).fdiv (2^1)))+s.m))-(aA (aN s)).start))<s.b∧s.b≤(List.length (fK (ltD s.b0 s.b1) (bK (dV s)).data s.a (IntKind.i64.wrap ((IntKind.u64.wrap (IntKind.i64.wrap (s.a+s.b))).fdiv (2^1)))):Int))∧(((fK (ltD s.b0 s.b1) (bK (dV s)).data s.a (IntKind.i64.wrap ((IntKind.u64.wrap (IntKind.i64.wrap (s.a+s.b))).fdiv (2^1)))).length=s.b0.length∧(List.length (fK (ltD s.b0 s.b1) (bK (dV s)).data s.a (IntKind.i64.wrap ((IntKind.u64.wrap (IntKind.i64.wrap (s.a+s.b))).fdiv (2^1)))):Int)≤1000)∧vG (fK (ltD s.b0 s.b1) (bK (dV s)).data s.a (IntKind.i64.wrap ((IntKind.u64.wrap (IntKind.i64.wrap (s.a+s.b))).fdiv (2^1)))) s.b0.length∧kL s.b0 s.b1)∧kU (ltD s.b0 s.b1) (fK (ltD s.b0 s.b1) (bK (dV s)).data s.a (IntKind.i64.wrap ((IntKind.u64.wrap (IntKind.i64.wrap (s.a+s.b))).fdiv (2^1)))) (IntKind.i64.wrap ((IntKind.u64.wrap (IntKind.i64.wrap (s.a+s.b))).fdiv (2^1))) (IntKind.i64.wrap ((IntKind.i64.wrap ((IntKind.i64.wrap ((IntKind.u64.wrap (IntKind.i64.wrap (s.a+s.b))).fdiv (2^1)))+s.m))-(aA (aN s)).start))∧kU (ltD s.b0 s.b1) (fK (ltD s.b0 s.b1) (bK (dV s)).data s.a (IntKind.i64.wrap ((IntKind.u64.wrap (IntKind.i64.wrap (s.a+s.b))).fdiv (2^1)))) (IntKind.i64.wrap ((IntKind.i64.wrap ((IntKind.i64.wrap ((IntKind.u64.wrap (IntKind.i64.wrap (s.a+s.b))).fdiv (2^1)))+s.m))-(aA (aN s)).start)) s.b
      rw [hmid,hn,he,hD]
      exact ⟨⟨by omega,c4.1,c4.2,by omega⟩,⟨⟨by omega,by omega⟩,elX,k3⟩,S.keep iZ S.r3 (Int.le_refl _),S.keep iZ S.r4 S.de⟩
     refine ⟨⟨rfl,by rw [hD,hlX,hl]⟩,⟨h2,by show (s.b-(IntKind.i64.wrap ((IntKind.u64.wrap (IntKind.i64.wrap (s.a+s.b))).fdiv (2^1)))).toNat<nn;rw [hmid];omega,rfl,rfl⟩,?_⟩
     exact congrArg (fun z=>((.v (.tuple #[]):LV),jW {s with data:=z})) ((congrArg (fun z=>fK (ltD s.b0 s.b1) (fK (ltD s.b0 s.b1) z s.a ((s.a+s.b) / 2)) ((s.a+s.b) / 2) s.b) hD).trans (S.main di))
    ·have c4:¬((s.a+s.b) / 2<(s.a+s.b) / 2+s.m-(aA (aN s)).start∧(s.a+s.b) / 2+s.m-(aA (aN s)).start<s.b):=fun h=>by
      rw [decide_eq_true h.1,decide_eq_true h.2] at c4
      cases c4
     exact congrArg (fun z=>((.v (.tuple #[]):LV),jW {s with data:=z})) ((congrArg (fun z=>fK (ltD s.b0 s.b1) z s.a ((s.a+s.b) / 2)) hD).trans ((S.n2 di c4).symm.trans (S.main di)))
   ·have c3:¬(s.a<(aA (aN s)).start∧(aA (aN s)).start<(s.a+s.b) / 2):=fun h=>by
     rw [decide_eq_true h.1,decide_eq_true h.2] at c3
     cases c3
    refine ⟨fun c4=>?_,fun c4=>?_⟩
    ·rw [Bool.and_eq_true,decide_eq_true_eq,decide_eq_true_eq] at c4
     have h2:nX (RH s):=by
      show (0≤(IntKind.i64.wrap ((IntKind.u64.wrap (IntKind.i64.wrap (s.a+s.b))).fdiv (2^1)))∧(IntKind.i64.wrap ((IntKind.u64.wrap (IntKind.i64.wrap (s.a+s.b))).fdiv (2^1)))<(IntKind.i64.wrap ((IntKind.i64.wrap ((IntKind.i64.wrap ((IntKind.u64.wrap (IntKind.i64.wrap (s.a+s.b))).fdiv (2^1)))+s.m))-(aA (aN s)).start))∧(IntKind.i64.wrap ((IntKind.i64.wrap ((IntKind.i64.wrap ((IntKind.u64.wrap (IntKind.i64.wrap (s.a+s.b))).fdiv (2^1)))+s.m))-(aA (aN s)).start))<s.b∧s.b≤(List.length (bK (dV s)).data:Int))∧(((bK (dV s)).data.length=s.b0.length∧(List.length (bK (dV s)).data:Int)≤1000)∧vG (bK (dV s)).data s.b0.length∧kL s.b0 s.b1)∧kU (ltD s.b0 s.b1) (bK (dV s)).data (IntKind.i64.wrap ((IntKind.u64.wrap (IntKind.i64.wrap (s.a+s.b))).fdiv (2^1))) (IntKind.i64.wrap ((IntKind.i64.wrap ((IntKind.i64.wrap ((IntKind.u64.wrap (IntKind.i64.wrap (s.a+s.b))).fdiv (2^1)))+s.m))-(aA (aN s)).start))∧kU (ltD s.b0 s.b1) (bK (dV s)).data (IntKind.i64.wrap ((IntKind.i64.wrap ((IntKind.i64.wrap ((IntKind.u64.wrap (IntKind.i64.wrap (s.a+s.b))).fdiv (2^1)))+s.m))-(aA (aN s)).start)) s.b
      rw [hmid,hn,he,hD]
      exact ⟨⟨by omega,c4.1,c4.2,by omega⟩,⟨⟨by omega,by omega⟩,elR',k3⟩,S.r3,S.r4⟩
     refine ⟨⟨rfl,by rw [hD,dS]⟩,⟨h2,by show (s.b-(IntKind.i64.wrap ((IntKind.u64.wrap (IntKind.i64.wrap (s.a+s.b))).fdiv (2^1)))).toNat<nn;rw [hmid];omega,rfl,rfl⟩,?_⟩
     exact congrArg (fun z=>((.v (.tuple #[]):LV),jW {s with data:=z})) ((congrArg (fun z=>fK (ltD s.b0 s.b1) z ((s.a+s.b) / 2) s.b) (hD.trans (S.n1 di c3).symm)).trans (S.main di))
    ·have c4:¬((s.a+s.b) / 2<(s.a+s.b) / 2+s.m-(aA (aN s)).start∧(s.a+s.b) / 2+s.m-(aA (aN s)).start<s.b):=fun h=>by
      rw [decide_eq_true h.1,decide_eq_true h.2] at c4
      cases c4
     exact congrArg (fun z=>((.v (.tuple #[]):LV),jW {s with data:=z})) (hD.trans ((S.n1 di c3).symm.trans ((S.n2 di c4).symm.trans (S.main di))))
  ·have c2:¬((aA (aN s)).start<s.m∧s.m<(s.a+s.b) / 2+s.m-(aA (aN s)).start):=fun h=>by
    rw [decide_eq_true h.1,decide_eq_true h.2] at c2
    cases c2
   have hD:s.data=fD s.data (aA (aN s)).start s.m ((s.a+s.b) / 2+s.m-(aA (aN s)).start):=(S.afp c2).symm
   have hl:(fD s.data (aA (aN s)).start s.m ((s.a+s.b) / 2+s.m-(aA (aN s)).start)).length=s.data.length:=dS
   have hpR:=tV (l:=s.data) (s:=(aA (aN s)).start) (m:=s.m) (e:=(s.a+s.b) / 2+s.m-(aA (aN s)).start) (by omega) S.qm S.me (by omega)
   have elR':=ja hpR k2
   have hpX:=gW (lt:=ltD s.b0 s.b1) (l:=fD s.data (aA (aN s)).start s.m ((s.a+s.b) / 2+s.m-(aA (aN s)).start)) (a:=s.a) (b:=(s.a+s.b) / 2) (by omega)
   have elX:=ja hpX elR'
   have hlX:=hpX.length_eq
   refine ⟨fun c3=>?_,fun c3=>?_⟩
   ·rw [Bool.and_eq_true,decide_eq_true_eq,decide_eq_true_eq] at c3
    have h1:nX (RG s):=by
     show (0≤s.a∧s.a<(aA (aN s)).start∧(aA (aN s)).start<(IntKind.i64.wrap ((IntKind.u64.wrap (IntKind.i64.wrap (s.a+s.b))).fdiv (2^1)))∧(IntKind.i64.wrap ((IntKind.u64.wrap (IntKind.i64.wrap (s.a+s.b))).fdiv (2^1)))≤(List.length s.data:Int))∧((s.data.length=s.b0.length∧(List.length s.data:Int)≤1000)∧vG s.data s.b0.length∧kL s.b0 s.b1)∧kU (ltD s.b0 s.b1) s.data s.a (aA (aN s)).start∧kU (ltD s.b0 s.b1) s.data (aA (aN s)).start (IntKind.i64.wrap ((IntKind.u64.wrap (IntKind.i64.wrap (s.a+s.b))).fdiv (2^1)))
     rw [hmid,hD]
     exact ⟨⟨e0,c3.1,c3.2,by omega⟩,⟨⟨by omega,by omega⟩,elR',k3⟩,S.r1,S.r2⟩
    refine ⟨⟨rfl,rfl⟩,⟨h1,by show ((IntKind.i64.wrap ((IntKind.u64.wrap (IntKind.i64.wrap (s.a+s.b))).fdiv (2^1)))-s.a).toNat<nn;rw [hmid];omega,rfl,rfl⟩,fun c4=>?_,fun c4=>?_⟩
    ·rw [Bool.and_eq_true,decide_eq_true_eq,decide_eq_true_eq] at c4
     have h2:nX (Rz s):=by
      show (0≤(IntKind.i64.wrap ((IntKind.u64.wrap (IntKind.i64.wrap (s.a+s.b))).fdiv (2^1)))∧(IntKind.i64.wrap ((IntKind.u64.wrap (IntKind.i64.wrap (s.a+s.b))).fdiv (2^1)))<(IntKind.i64.wrap ((IntKind.i64.wrap ((IntKind.i64.wrap ((IntKind.u64.wrap (IntKind.i64.wrap (s.a+s.b))).fdiv (2^1)))+s.m))-(aA (aN s)).start))∧(IntKind.i64.wrap ((IntKind.i64.wrap ((IntKind.i64.wrap ((IntKind.u64.wrap (IntKind.i64.wrap (s.a+s.b))).fdiv (2^1)))+s.m))-(aA (aN s)).start))<s.b∧s.b≤(List.length (fK (ltD s.b0 s.b1) s.data s.a (IntKind.i64.wrap ((IntKind.u64.wrap (IntKind.i64.wrap (s.a+s.b))).fdiv (2^1)))):Int))∧(((fK (ltD s.b0 s.b1) s.data s.a (IntKind.i64.wrap ((IntKind.u64.wrap (IntKind.i64.wrap (s.a+s.b))).fdiv (2^1)))).length=s.b0.length∧(List.length (fK (ltD s.b0 s.b1) s.data s.a (IntKind.i64.wrap ((IntKind.u64.wrap (IntKind.i64.wrap (s.a+s.b))).fdiv (2^1)))):Int)≤1000)∧vG (fK (ltD s.b0 s.b1) s.data s.a (IntKind.i64.wrap ((IntKind.u64.wrap (IntKind.i64.wrap (s.a+s.b))).fdiv (2^1)))) s.b0.length∧kL s.b0 s.b1)∧kU (ltD s.b0 s.b1) (fK (ltD s.b0 s.b1) s.data s.a (IntKind.i64.wrap ((IntKind.u64.wrap (IntKind.i64.wrap (s.a+s.b))).fdiv (2^1)))) (IntKind.i64.wrap ((IntKind.u64.wrap (IntKind.i64.wrap (s.a+s.b))).fdiv (2^1))) (IntKind.i64.wrap ((IntKind.i64.wrap ((IntKind.i64.wrap ((IntKind.u64.wrap (IntKind.i64.wrap (s.a+s.b))).fdiv (2^1)))+s.m))-(aA (aN s)).start))∧kU (ltD s.b0 s.b1) (fK (ltD s.b0 s.b1) s.data s.a (IntKind.i64.wrap ((IntKind.u64.wrap (IntKind.i64.wrap (s.a+s.b))).fdiv (2^1)))) (IntKind.i64.wrap ((IntKind.i64.wrap ((IntKind.i64.wrap ((IntKind.u64.wrap (IntKind.i64.wrap (s.a+s.b))).fdiv (2^1)))+s.m))-(aA (aN s)).start)) s.b
      rw [hmid,hn,he,hD]
      exact ⟨⟨by omega,c4.1,c4.2,by omega⟩,⟨⟨by omega,by omega⟩,elX,k3⟩,S.keep iZ S.r3 (Int.le_refl _),S.keep iZ S.r4 S.de⟩
     refine ⟨⟨rfl,by rw [hD,hlX,hl]⟩,⟨h2,by show (s.b-(IntKind.i64.wrap ((IntKind.u64.wrap (IntKind.i64.wrap (s.a+s.b))).fdiv (2^1)))).toNat<nn;rw [hmid];omega,rfl,rfl⟩,?_⟩
     exact congrArg (fun z=>((.v (.tuple #[]):LV),jW {s with data:=z})) ((congrArg (fun z=>fK (ltD s.b0 s.b1) (fK (ltD s.b0 s.b1) z s.a ((s.a+s.b) / 2)) ((s.a+s.b) / 2) s.b) hD).trans (S.main di))
    ·have c4:¬((s.a+s.b) / 2<(s.a+s.b) / 2+s.m-(aA (aN s)).start∧(s.a+s.b) / 2+s.m-(aA (aN s)).start<s.b):=fun h=>by
      rw [decide_eq_true h.1,decide_eq_true h.2] at c4
      cases c4
     exact congrArg (fun z=>((.v (.tuple #[]):LV),jW {s with data:=z})) ((congrArg (fun z=>fK (ltD s.b0 s.b1) z s.a ((s.a+s.b) / 2)) hD).trans ((S.n2 di c4).symm.trans (S.main di)))
   ·have c3:¬(s.a<(aA (aN s)).start∧(aA (aN s)).start<(s.a+s.b) / 2):=fun h=>by
     rw [decide_eq_true h.1,decide_eq_true h.2] at c3
     cases c3
    refine ⟨fun c4=>?_,fun c4=>?_⟩
    ·rw [Bool.and_eq_true,decide_eq_true_eq,decide_eq_true_eq] at c4
     have h2:nX (Ry s):=by
      show (0≤(IntKind.i64.wrap ((IntKind.u64.wrap (IntKind.i64.wrap (s.a+s.b))).fdiv (2^1)))∧(IntKind.i64.wrap ((IntKind.u64.wrap (IntKind.i64.wrap (s.a+s.b))).fdiv (2^1)))<(IntKind.i64.wrap ((IntKind.i64.wrap ((IntKind.i64.wrap ((IntKind.u64.wrap (IntKind.i64.wrap (s.a+s.b))).fdiv (2^1)))+s.m))-(aA (aN s)).start))∧(IntKind.i64.wrap ((IntKind.i64.wrap ((IntKind.i64.wrap ((IntKind.u64.wrap (IntKind.i64.wrap (s.a+s.b))).fdiv (2^1)))+s.m))-(aA (aN s)).start))<s.b∧s.b≤(List.length s.data:Int))∧((s.data.length=s.b0.length∧(List.length s.data:Int)≤1000)∧vG s.data s.b0.length∧kL s.b0 s.b1)∧kU (ltD s.b0 s.b1) s.data (IntKind.i64.wrap ((IntKind.u64.wrap (IntKind.i64.wrap (s.a+s.b))).fdiv (2^1))) (IntKind.i64.wrap ((IntKind.i64.wrap ((IntKind.i64.wrap ((IntKind.u64.wrap (IntKind.i64.wrap (s.a+s.b))).fdiv (2^1)))+s.m))-(aA (aN s)).start))∧kU (ltD s.b0 s.b1) s.data (IntKind.i64.wrap ((IntKind.i64.wrap ((IntKind.i64.wrap ((IntKind.u64.wrap (IntKind.i64.wrap (s.a+s.b))).fdiv (2^1)))+s.m))-(aA (aN s)).start)) s.b
      rw [hmid,hn,he,hD]
      exact ⟨⟨by omega,c4.1,c4.2,by omega⟩,⟨⟨by omega,by omega⟩,elR',k3⟩,S.r3,S.r4⟩
     refine ⟨⟨rfl,rfl⟩,⟨h2,by show (s.b-(IntKind.i64.wrap ((IntKind.u64.wrap (IntKind.i64.wrap (s.a+s.b))).fdiv (2^1)))).toNat<nn;rw [hmid];omega,rfl,rfl⟩,?_⟩
     exact congrArg (fun z=>((.v (.tuple #[]):LV),jW {s with data:=z})) ((congrArg (fun z=>fK (ltD s.b0 s.b1) z ((s.a+s.b) / 2) s.b) (hD.trans (S.n1 di c3).symm)).trans (S.main di))
    ·have c4:¬((s.a+s.b) / 2<(s.a+s.b) / 2+s.m-(aA (aN s)).start∧(s.a+s.b) / 2+s.m-(aA (aN s)).start<s.b):=fun h=>by
      rw [decide_eq_true h.1,decide_eq_true h.2] at c4
      cases c4
     exact congrArg (fun z=>((.v (.tuple #[]):LV),jW {s with data:=z})) (hD.trans ((S.n1 di c3).symm.trans ((S.n2 di c4).symm.trans (S.main di))))
set_option maxRecDepth 100000 in
theorem avq:∀n,ru Tryz.prog aT 121 (qZ.m n):=@CpD.sound Tryz.prog aT zx dI qZ D8 121 9 aie aj2 aso
theorem abU:ru Tryz.prog aT 121 qZ.mm:=CpD.ae0 avq
end Go.Proofs.YtlihnbimgclogaaGreatDoor
namespace Go.Proofs.YtlihnbimgclogaaGreatDoor
open Go.Sx
structure kV where
 n:Int
 ax:Int
 a:Int
 b:Int
 b0:List Dm
 b1:Int
 data:List Int
def aAJ (s:kV):List LV:=[.os 2 1 0 (List.length s.data),.v (.int .i64 s.n),.fn 45 [.own 0 0,.own 3 0],.v (.int .i64 s.ax),.v (.int .i64 s.a),.v (.int .i64 s.b)]
def azW (s:kV):List aS:=[⟨[.xl jc s.b0],31,.cl,false⟩,⟨[.v (.int .i64 s.b1)],3,.cl,false⟩,⟨[],3,.vec (.int .i64) s.data,false⟩,⟨[.fn 43 [.own 0 0,.own 1 0]],84,.cl,false⟩]
noncomputable def Jc:Code:=((ay (((ay (Tryz.f84.body.getD .skip))[1]?).getD .skip))[0]?).getD .skip
def Rx (s:kV):dI:=(⟨s.a,(IntKind.i64.wrap (s.a+s.ax)),s.b,s.b0,s.b1,s.data⟩:dI)
def QK (s:kV):T (Rd kV):=
 .br (decide (s.b≤s.n)) (.rl s.data (.req (akh (Rx s)) (.req (0=0∧(List.length s.data)=List.length (fK (ltD s.b0 s.b1) s.data s.a s.b)) (.ok (.next {s with a:=s.b,b:=(IntKind.i64.wrap (s.b+(IntKind.i64.wrap (2*s.ax)))),data:=(fK (ltD s.b0 s.b1) s.data s.a s.b)}))))) (.rl s.data (.ok (.stop (.exit 4) s)))
abbrev aa7 (s:kV):=(QK s).rd s
def U5 (s:kV):Prop:=(bsP s.ax∧s.a=0∧s.b=2*s.ax)∧s.n=(List.length s.data:Int)∧((s.data.length=s.b0.length∧(List.length s.data:Int)≤1000)∧vG s.data s.b0.length∧kL s.b0 s.b1)∧blk (ltD s.b0 s.b1) s.data s.ax s.n
def CS (s:kV):Prop:=(bsP s.ax∧(0≤s.a∧s.a%(2*s.ax)=0)∧s.a≤s.n∧s.b=s.a+2*s.ax)∧s.n=(List.length s.data:Int)∧((s.data.length=s.b0.length∧(List.length s.data:Int)≤1000)∧vG s.data s.b0.length∧kL s.b0 s.b1)∧mrI (ltD s.b0 s.b1) s.data s.ax s.a s.n
def Ot (s:kV):Nat:=(s.n-s.a).toNat
def ajx (x:Ex) (_ s':kV):Prop:=x=.exit 4∧CS s'∧s'.n<s'.b
theorem axo:∀s,U5 s→CS s:=by
 intro s h
 obtain ⟨⟨h0,h1,h2⟩,h3,h4,h5⟩:=h
 exact ⟨⟨h0,⟨by omega,by rw [h1];exact Int.zero_emod _⟩,by omega,by omega⟩,h3,h4,by rw [h1];exact ayk h5⟩
theorem ase (s:kV) (hI:CS s):s.a≤s.b:=by
 obtain ⟨⟨h0,⟨h1,h2⟩,h3,h4⟩,h5,⟨⟨k0,k1⟩,k2,k3⟩,h6⟩:=hI
 have hb:20≤s.ax∧s.ax≤80:=by rcases h0 with e|e|e<;>rw [e]<;>omega
 omega
theorem aeX (s:kV) (hI:CS s) (c1:s.b≤s.n):nX (Rx s):=by
 obtain ⟨⟨h0,⟨h1,h2⟩,h3,h4⟩,h5,⟨⟨k0,k1⟩,k2,k3⟩,h6⟩:=hI
 have hb:20≤s.ax∧s.ax≤80:=by rcases h0 with e|e|e<;>rw [e]<;>omega
 have ew:IntKind.i64.wrap (s.a+s.ax)=s.a+s.ax:=aF (by omega) (by omega)
 show (0≤s.a∧s.a<IntKind.i64.wrap (s.a+s.ax)∧IntKind.i64.wrap (s.a+s.ax)<s.b∧s.b≤(List.length s.data:Int))∧((s.data.length=s.b0.length∧(List.length s.data:Int)≤1000)∧vG s.data s.b0.length∧kL s.b0 s.b1)∧kU (ltD s.b0 s.b1) s.data s.a (IntKind.i64.wrap (s.a+s.ax))∧kU (ltD s.b0 s.b1) s.data (IntKind.i64.wrap (s.a+s.ax)) s.b
 rw [ew]
 exact ⟨⟨h1,by omega,by omega,by omega⟩,⟨⟨k0,k1⟩,k2,k3⟩,apG h0 h1 h2 (by omega) (Int.le_refl _) h6,apF h0 h1 h2 c1 (by omega) h6⟩
theorem asc (s:kV) (hI:CS s):bY (fun s'=>CS s'∧Ot s'<Ot s) (fun x s'=>ajx x s s') (aa7 s):=by
 unfold aa7 QK
 dsimp only [T.rd,T.rl]
 have hin:=fun c1=>aeX s hI c1
 have hI':=hI
 obtain ⟨⟨h0,⟨h1,h2⟩,h3,h4⟩,h5,⟨⟨k0,k1⟩,k2,k3⟩,h6⟩:=hI
 have hb:20≤s.ax∧s.ax≤80:=by rcases h0 with e|e|e<;>rw [e]<;>omega
 refine ai (fun c1=>?_) (fun c1=>⟨rfl,hI',by simpa using c1⟩)
 have c1:s.b≤s.n:=by simpa using c1
 rw [aF (x:=2*s.ax) (by omega) (by omega),aF (x:=s.b+2*s.ax) (by omega) (by omega)]
 have hp:=gW (lt:=ltD s.b0 s.b1) (l:=s.data) (a:=s.a) (b:=s.b) (by omega)
 have hm:s.b%(2*s.ax)=0:=by
  rw [h4,Int.add_emod_right]
  exact h2
 exact ⟨⟨⟨h0,⟨by simp only;omega,hm⟩,c1,by simp only⟩,by simp only [hp.length_eq];exact h5,⟨⟨by simp only [hp.length_eq];exact k0,by simp only [hp.length_eq];exact k1⟩,ja hp k2,k3⟩,(show mrI (ltD s.b0 s.b1) (fK (ltD s.b0 s.b1) s.data s.a s.b) s.ax s.b s.n from ahg iZ h0 h1 h2 c1 (by omega) h4 h6)⟩,by simp only [Ot];omega⟩
def JP:dn kV:=⟨4,63,[0,1,2,6,7,8],[],aAJ,azW,fun v b=>⟨gI (v.getD 1 .junk),gI (v.getD 3 .junk),gI (v.getD 4 .junk),gI (v.getD 5 .junk),bf jc (bC (aV b 0) 0),gI (bC (aV b 1) 0),jm (.int .i64) (aV b 2)⟩,QK,fun s r=> {r with n:=s.n,ax:=s.ax,b0:=s.b0,b1:=s.b1},fun s=>s,fun _ s=>s,[.exit 4],U5,CS,Ot⟩
abbrev bQ:=JP.run
abbrev abC:=JP.lU
abbrev avW:=JP.q
noncomputable def DK:Specs:=bn [(43,kE),(45,qU)]
theorem IL:∀g S,DK g=some S→Valid Tryz.prog aT g S:=aX (l:=[(43,kE),(45,qU)]) ⟨wH,Gw,trivial⟩
noncomputable def PG:Hand:=PE Tryz.prog aT DK (dG 143 4 2 (Qx.lp) (dG 158 4 1 (KD.lp) (dG 121 4 33 (JO.lp) (dG 121 4 21 (FH.lp) (dG 121 4 15 (Ea.lp) (dG 121 4 9 (CX.lp) (dG 121 4 3 (zN.lp) (dG 84 4 2 (qh.lp) (dG 120 4 1 (pz.lp) (jo Tryz.prog aT (DK) 20 2)))))))))) (CpD.one 121 qZ.mm) 9
theorem XD:cO Tryz.prog aT PG:=uZ IL (aP Tryz.func143 rfl (by kernel_rfl) VK (aP Tryz.func158 rfl (by kernel_rfl) NT (aP Tryz.func121 rfl (by kernel_rfl) GV (aP Tryz.func121 rfl (by kernel_rfl) Df (aP Tryz.func121 rfl (by kernel_rfl) zi (aP Tryz.func121 rfl (by kernel_rfl) wJ (aP Tryz.func121 rfl (by kernel_rfl) uO (aP Tryz.func84 rfl (by kernel_rfl) oG (aP Tryz.func120 rfl (by kernel_rfl) mW (dw IL)))))))))) (CpD.wS abU) 9
theorem asJ (s:kV) (hI:CS s):(QK s).all (fun _=>True):=by
 refine ⟨fun c1=>⟨⟨rfl,rfl⟩,?_,?_,trivial⟩,fun c1=>⟨⟨rfl,rfl⟩,trivial⟩⟩
 ·exact ⟨aeX s hI (by simpa using c1),rfl,rfl⟩
 ·(have hb:=ase s hI;refine ⟨rfl,?_⟩;exact (qo hb).symm)
theorem WJ:JP.Ok:=⟨fun s=>by kernel_rfl,fun s=>by kernel_rfl,fun s=>rfl,fun s t r=>rfl,fun s=>rfl,fun s=>by kernel_rfl⟩
theorem V7:JP.Pf (ajx):=⟨axo,fun _ _=>rfl,asc,asJ⟩
theorem ak1:bG Tryz.prog aT (AN 4) (.loop Jc) JP.lp:=dn.snd WJ V7 (aZ (Γ:=DK) (K:=PG) (L:=(mP Tryz.prog aT DK PG 20 2)) IL XD Jc (fun b _=>cu IL XD 20 2 b)) (fun s=>by kernel_rfl)
theorem akP (s:kV) (hE:U5 s):∃s',CS s'∧ajx (abC s) s' (bQ s):=dn.fin WJ V7 s hE
theorem akO (s:kV) (hE:U5 s):(fun (x:Ex) (s':kV) (v:List Int)=>x=.exit 4∧sortB (ltD s'.b0 s'.b1) s'.data=v) (abC s) (bQ s) ((fun s:kV=>sortB (ltD s.b0 s.b1) s.data) s):=by
 exact dn.rC WJ V7 (fun s:kV=>sortB (ltD s.b0 s.b1) s.data) (fun x s' v=>x=.exit 4∧sortB (ltD s'.b0 s'.b1) s'.data=v) (fun s hI=>by
  show bY _ _ (aa7 s)
  unfold aa7 QK
  dsimp only [T.rd,T.rl]
  obtain ⟨⟨h0,⟨h1,h2⟩,h3,h4⟩,h5,⟨⟨k0,k1⟩,k2,k3⟩,h6⟩:=hI
  have hb:20≤s.ax∧s.ax≤80:=by rcases h0 with e|e|e<;>rw [e]<;>omega
  refine ai (fun c1=>?_) (fun c1=>⟨rfl,rfl⟩)
  exact oD di (gW (by omega))) s hE
structure jU where
 n:Int
 ax:Int
 b0:List Dm
 b1:Int
 data:List Int
def aAK (s:jU):List LV:=[.os 2 1 0 (List.length s.data),.v (.int .i64 s.n),.fn 45 [.own 0 0,.own 3 0],.v (.int .i64 s.ax)]
def azX (s:jU):List aS:=[⟨[.xl jc s.b0],31,.cl,false⟩,⟨[.v (.int .i64 s.b1)],3,.cl,false⟩,⟨[],3,.vec (.int .i64) s.data,false⟩,⟨[.fn 43 [.own 0 0,.own 1 0]],84,.cl,false⟩]
noncomputable def Uf:Code:=((ay (Tryz.f84.body.getD .skip))[1]?).getD .skip
def bH (s:jU):kV:=(⟨s.n,s.ax,(0:Int),(IntKind.i64.wrap (2*s.ax)),s.b0,s.b1,s.data⟩:kV)
def Ru (s:jU):dI:=(⟨(bQ (bH s)).a,(IntKind.i64.wrap ((bQ (bH s)).a+s.ax)),s.n,s.b0,s.b1,(bQ (bH s)).data⟩:dI)
def QL (s:jU):T (Rd jU):=
 .br (decide (s.ax<s.n)) (.rl s.data (.req (avW (bH s)) (.br (decide ((IntKind.i64.wrap ((bQ (bH s)).a+s.ax))<s.n)) (.rl (bQ (bH s)).data (.req (akh (Ru s)) (.req (0=0∧(List.length (bQ (bH s)).data)=List.length (fK (ltD s.b0 s.b1) (bQ (bH s)).data (bQ (bH s)).a s.n)) (.ok (.next {s with ax:=(IntKind.i64.wrap (s.ax*2)),data:=(fK (ltD s.b0 s.b1) (bQ (bH s)).data (bQ (bH s)).a s.n)}))))) (.rl (bQ (bH s)).data (.ok (.next {s with ax:=(IntKind.i64.wrap (s.ax*2)),data:=(bQ (bH s)).data})))))) (.rl s.data (.ok (.stop (.exit 2) s)))
abbrev aa8 (s:jU):=(QL s).rd s
def U6 (s:jU):Prop:=s.ax=20∧(s.n=(List.length s.data:Int)∧s.n≤100)∧((s.data.length=s.b0.length∧(List.length s.data:Int)≤1000)∧vG s.data s.b0.length∧kL s.b0 s.b1)∧blk (ltD s.b0 s.b1) s.data 20 s.n
def yV (s:jU):Prop:=(bsP s.ax∨s.ax=160)∧(s.n=(List.length s.data:Int)∧s.n≤100)∧((s.data.length=s.b0.length∧(List.length s.data:Int)≤1000)∧vG s.data s.b0.length∧kL s.b0 s.b1)∧blk (ltD s.b0 s.b1) s.data s.ax s.n
def Ib (s:jU):Nat:=(s.n-s.ax).toNat
def ajy (x:Ex) (_ s':jU):Prop:=x=.exit 2∧kU (ltD s'.b0 s'.b1) s'.data 0 s'.n
theorem axq:∀s,U6 s→yV s:=by
 intro s h
 obtain ⟨h0,h1,h2,h3⟩:=h
 exact ⟨.inl (.inl h0),h1,h2,by rw [h0];exact h3⟩
theorem aeZ (s:jU) (hI:yV s) (c1:s.ax<s.n):bsP s.ax:=by
 obtain ⟨h0,⟨h1,h2⟩,_⟩:=hI
 rcases h0 with h0|h0
 ·exact h0
 ·omega
theorem aeY (s:jU) (hI:yV s) (c1:s.ax<s.n):U5 (bH s):=by
 have hb:=aeZ s hI c1
 obtain ⟨h0,⟨h1,h2⟩,hk,h3⟩:=hI
 exact ⟨⟨hb,rfl,by show IntKind.i64.wrap (2*s.ax)=2*s.ax;exact aF (by omega) (by omega)⟩,h1,hk,h3⟩
theorem ZN (s:jU) (hI:yV s) (c1:s.ax<s.n):bsP s.ax∧0≤(bQ (bH s)).a∧(bQ (bH s)).a%(2*s.ax)=0∧((bQ (bH s)).a≤s.n∧s.n<(bQ (bH s)).a+2*s.ax∧20≤s.ax∧s.ax≤80)∧(s.n=(List.length (bQ (bH s)).data:Int)∧(bQ (bH s)).data.length=s.b0.length∧s.n≤100)∧vG (bQ (bH s)).data s.b0.length∧sortB (ltD s.b0 s.b1) (bQ (bH s)).data=sortB (ltD s.b0 s.b1) s.data∧mrI (ltD s.b0 s.b1) (bQ (bH s)).data s.ax (bQ (bH s)).a s.n:=by
 have hb:=aeZ s hI c1
 have hb2:20≤s.ax∧s.ax≤80:=by rcases hb with e|e|e<;>rw [e]<;>omega
 have hE:=aeY s hI c1
 obtain ⟨_,_,_,g1,g2⟩:=akP _ hE
 have g3:sortB (ltD s.b0 s.b1) (bQ (bH s)).data=sortB (ltD s.b0 s.b1) s.data:=(akO _ hE).2
 obtain ⟨⟨g4,⟨g5,g6⟩,g7,g8⟩,g9,⟨⟨ga,gb⟩,gc,_⟩,gd⟩:=g1
 have g2:s.n<(bQ (bH s)).b:=g2
 have g7:(bQ (bH s)).a≤s.n:=g7
 have g8:(bQ (bH s)).b=(bQ (bH s)).a+2*s.ax:=g8
 exact ⟨hb,g5,g6,⟨g7,by omega,hb2.1,hb2.2⟩,⟨g9,ga,hI.2.1.2⟩,gc,g3,gd⟩
theorem axp (s:jU) (hI:yV s) (c1:s.ax<s.n) (c2:decide (IntKind.i64.wrap ((bQ (bH s)).a+s.ax)<s.n)=true):nX (Ru s):=by
 obtain ⟨q0,q1,q2,q3,q4,q5,q6,q7⟩:=ZN s hI c1
 have ea:IntKind.i64.wrap ((bQ (bH s)).a+s.ax)=(bQ (bH s)).a+s.ax:=aF (by omega) (by omega)
 rw [ea,decide_eq_true_eq] at c2
 show (0≤(bQ (bH s)).a∧(bQ (bH s)).a<IntKind.i64.wrap ((bQ (bH s)).a+s.ax)∧IntKind.i64.wrap ((bQ (bH s)).a+s.ax)<s.n∧s.n≤(List.length (bQ (bH s)).data:Int))∧(((bQ (bH s)).data.length=s.b0.length∧(List.length (bQ (bH s)).data:Int)≤1000)∧vG (bQ (bH s)).data s.b0.length∧kL s.b0 s.b1)∧kU (ltD s.b0 s.b1) (bQ (bH s)).data (bQ (bH s)).a (IntKind.i64.wrap ((bQ (bH s)).a+s.ax))∧kU (ltD s.b0 s.b1) (bQ (bH s)).data (IntKind.i64.wrap ((bQ (bH s)).a+s.ax)) s.n
 rw [ea]
 exact ⟨⟨q1,by omega,c2,by omega⟩,⟨⟨q4.2.1,by omega⟩,q5,hI.2.2.1.2.2⟩,apG q0 q1 q2 (by omega) (Int.le_refl _) q7,apF q0 q1 q2 (Int.le_refl _) (by omega) q7⟩
theorem asf (s:jU) (hI:yV s):bY (fun s'=>yV s'∧Ib s'<Ib s) (fun x s'=>ajy x s s') (aa8 s):=by
 unfold aa8 QL
 dsimp only [T.rd,T.rl]
 have ui:=fun c1=>ZN s hI c1
 obtain ⟨h0,⟨h1,h2⟩,⟨⟨k0,k1⟩,k2,k3⟩,h3⟩:=hI
 refine ai (fun c1=>?_) (fun c1=>?_)
 ·have c1:s.ax<s.n:=by simpa using c1
  obtain ⟨q0,q1,q2,q3,q4,q5,q6,q7⟩:=ui c1
  have hw:IntKind.i64.wrap (s.ax*2)=2*s.ax:=by
   rw [aF (x:=s.ax*2) (by omega) (by omega)]
   omega
  have hb2:bsP (2*s.ax)∨2*s.ax=160:=by
   show (2*s.ax=20∨2*s.ax=40∨2*s.ax=80)∨2*s.ax=160
   rcases q0 with e|e|e<;>omega
  have ea:IntKind.i64.wrap ((bQ (bH s)).a+s.ax)=(bQ (bH s)).a+s.ax:=aF (by omega) (by omega)
  rw [hw,ea]
  refine ai (fun c2=>?_) (fun c2=>?_)
  ·have hp:=gW (lt:=ltD s.b0 s.b1) (l:=(bQ (bH s)).data) (a:=(bQ (bH s)).a) (b:=s.n) (by omega)
   have hl:=hp.length_eq
   exact ⟨⟨hb2,⟨by simp only [hl];omega,h2⟩,⟨⟨by simp only [hl];omega,by simp only [hl];omega⟩,ja hp q5,k3⟩,ahh iZ q0 q1 q2 (by omega) (by omega) (by omega) q7⟩,by simp only [Ib];omega⟩
  ·have c2:s.n≤(bQ (bH s)).a+s.ax:=by simpa using c2
   exact ⟨⟨hb2,⟨by simp only;omega,h2⟩,⟨⟨by simp only;omega,by simp only;omega⟩,q5,k3⟩,ahi q0 q1 q2 c2 q7⟩,by simp only [Ib];omega⟩
 ·have c1:s.n≤s.ax:=by simpa using c1
  exact ⟨rfl,aoF h0 c1 h3⟩
def JQ:dn jU:=⟨4,63,[0,1,2,6],[],aAK,azX,fun v b=>⟨gI (v.getD 1 .junk),gI (v.getD 3 .junk),bf jc (bC (aV b 0) 0),gI (bC (aV b 1) 0),jm (.int .i64) (aV b 2)⟩,QL,fun s r=> {r with n:=s.n,b0:=s.b0,b1:=s.b1},fun s=>s,fun _ s=>s,[.exit 2],U6,yV,Ib⟩
abbrev oH:=JQ.run
abbrev abD:=JQ.lU
abbrev avX:=JQ.q
theorem asK (s:jU) (hI:yV s):(QL s).all (fun _=>True):=by
 refine ⟨fun c1=>⟨⟨rfl,rfl⟩,?_,fun c2=>⟨⟨rfl,rfl⟩,?_,?_,trivial⟩,fun c2=>⟨⟨rfl,rfl⟩,trivial⟩⟩,fun c1=>⟨⟨rfl,rfl⟩,trivial⟩⟩
 ·exact ⟨aeY s hI (by simpa using c1),rfl,rfl⟩
 ·exact ⟨axp s hI (by simpa using c1) c2,rfl,rfl⟩
 ·(obtain ⟨q0,q1,q2,q3,q4,q5,q6,q7⟩:=ZN s hI (by simpa using c1);refine ⟨rfl,?_⟩;exact (qo (by omega)).symm)
theorem WL:JQ.Ok:=⟨fun s=>by kernel_rfl,fun s=>by kernel_rfl,fun s=>rfl,fun s t r=>rfl,fun s=>rfl,fun s=>by kernel_rfl⟩
theorem V8:JQ.Pf (ajy):=⟨axq,fun _ _=>rfl,asf,asK⟩
theorem ak2:bG Tryz.prog aT (AN 4) (.loop Uf) JQ.lp:=dn.snd WL V8 (aZ (Γ:=DK) (K:=PG) (L:=(Ud (fun i=>if i=9 then JP.lp else aB i))) IL XD Uf (fun b hb=>by
 rw [show ay _=[Jc] by kernel_rfl] at hb
 simp only [List.mem_cons,List.not_mem_nil,or_false] at hb
 subst hb
 exact ak1)) (fun s=>by kernel_rfl)
theorem akR (s:jU) (hE:U6 s):∃s',yV s'∧ajy (abD s) s' (oH s):=dn.fin WL V8 s hE
theorem akQ (s:jU) (hE:U6 s):(fun (x:Ex) (s':jU) (v:List Int)=>x=.exit 2∧sortB (ltD s'.b0 s'.b1) s'.data=v) (abD s) (oH s) ((fun s:jU=>sortB (ltD s.b0 s.b1) s.data) s):=by
 exact dn.rC WL V8 (fun s:jU=>sortB (ltD s.b0 s.b1) s.data) (fun x s' v=>x=.exit 2∧sortB (ltD s'.b0 s'.b1) s'.data=v) (fun s hI=>by
  show bY _ _ (aa8 s)
  unfold aa8 QL
  dsimp only [T.rd,T.rl]
  have ui:=fun c1=>ZN s hI c1
  refine ai (fun c1=>?_) (fun c1=>⟨rfl,rfl⟩)
  have c1:s.ax<s.n:=by simpa using c1
  obtain ⟨q0,q1,q2,q3,q4,q5,q6,q7⟩:=ui c1
  refine ai (fun c2=>?_) (fun c2=>q6)
  exact (oD di (gW (by omega))).trans q6) s hE
end Go.Proofs.YtlihnbimgclogaaGreatDoor
namespace Go.Proofs.YtlihnbimgclogaaGreatDoor
open Go.Sx
def acE:List LV→T LV
 | [.xl (.pair .bool (.pair (.int .i64) (.pair (.int .i64) (.int .i64)))) d,.v (.int .i64 t)]=> .req (kL d t∧d.length≤100) (.ok (.xl (.int .i64) (iK d t)))
 |_=> .no
noncomputable def YC:List LV→T LV:=jR Tryz.prog Tryz.f19.params.toList acE
def fV (d:List Dm) (t:Int):kW:=(⟨((List.length (dJ (bW d t)).out:Nat):Int),(20:Int),(0:Int),(20:Int),d,t,(dJ (bW d t)).out⟩:kW)
def lD (d:List Dm) (t:Int):kJ:=(⟨(iy (fV d t)).a,((List.length (dJ (bW d t)).out:Nat):Int),(IntKind.i64.wrap ((iy (fV d t)).a+1)),d,t,(iy (fV d t)).data⟩:kJ)
def lC (d:List Dm) (t:Int):jU:=(⟨((List.length (dJ (bW d t)).out:Nat):Int),(20:Int),d,t,(iO (lD d t)).data⟩:jU)
noncomputable def PS:Specs:=bn [(43,kE),(45,qU)]
theorem XR:∀g S,PS g=some S→Valid Tryz.prog aT g S:=aX (l:=[(43,kE),(45,qU)]) ⟨wH,Gw,trivial⟩
noncomputable def ah3:Hand:=PE Tryz.prog aT PS (dG 84 4 7 (JQ.lp) (dG 143 4 2 (Qx.lp) (dG 158 4 1 (KD.lp) (dG 121 4 33 (JO.lp) (dG 121 4 21 (FH.lp) (dG 121 4 15 (Ea.lp) (dG 121 4 9 (CX.lp) (dG 121 4 3 (zN.lp) (dG 84 4 2 (qh.lp) (dG 120 4 1 (pz.lp) (jo Tryz.prog aT (PS) 20 2))))))))))) (CpD.one 121 qZ.mm) 9
theorem auL:cO Tryz.prog aT ah3:=uZ XR (aP Tryz.func84 rfl (by kernel_rfl) ak2 (aP Tryz.func143 rfl (by kernel_rfl) VK (aP Tryz.func158 rfl (by kernel_rfl) NT (aP Tryz.func121 rfl (by kernel_rfl) GV (aP Tryz.func121 rfl (by kernel_rfl) Df (aP Tryz.func121 rfl (by kernel_rfl) zi (aP Tryz.func121 rfl (by kernel_rfl) wJ (aP Tryz.func121 rfl (by kernel_rfl) uO (aP Tryz.func84 rfl (by kernel_rfl) oG (aP Tryz.func120 rfl (by kernel_rfl) mW (dw XR))))))))))) (CpD.wS abU) 9
theorem amI (d:List Dm) (t:Int):eX Tryz.prog aT (PS) ah3 (fun i=>if i=3 then yX.lp else aB i) Tryz.f19 [.xl jc d,.v (.int .i64 t)]=.req (0≤(List.length d:Int)∧(List.length d:Int)≤(List.length d:Int)∧8*(List.length d:Int)≤2^48∧(List.length d:Int)<2^63) (.req (0=0∧(List.length d:Int).toNat=List.length (List.replicate (List.length d:Int).toNat (0:Int))) (.req (akl (bW d t)) (.rl (dJ (bW d t)).out (.req (avY (fV d t)) (.rl (iy (fV d t)).data (.req (akn (lD d t)) (.req (0=0∧(List.length (iy (fV d t)).data)=List.length (iO (lD d t)).data) (.req (avX (lC d t)) (.req (0+(List.length (dJ (bW d t)).out)≤List.length (oH (lC d t)).data) (.ok (.xl (.int .i64) (((oH (lC d t)).data.drop 0).take (List.length (dJ (bW d t)).out))))))))))))):=by kernel_rfl
theorem arF:Valid Tryz.prog aT 19 YC:=aJ Tryz.func19 rfl XR auL (L:=(fun i=>if i=3 then yX.lp else aB i)) (fun b hb=>by
 rw [show ay _=[xA] by kernel_rfl] at hb
 simp only [List.mem_cons,List.not_mem_nil,or_false] at hb
 subst hb
 exact ZT) (fun args lv h=>by
 unfold acE at h
 split at h
 ·simp only [canL,canX]
  rw [amI]
  rename_i d t
  obtain ⟨⟨hw,hd⟩,rfl⟩:=h
  have hE:U9 (bW d t):=⟨rfl,by show List.replicate (List.length d:Int).toNat (0:Int)=List.replicate d.length 0;rw [Int.toNat_natCast],by show (((List.length d:Int).toNat:Nat):Int)=(List.length d:Int);omega,by show (((List.length d:Int).toNat:Nat):Int)≤1000;omega,by show (List.replicate _ (0:Int)).length=d.length;rw [List.length_replicate];omega⟩
  obtain ⟨_,_,_,q1⟩:=aaq _ hE
  have q1:(dJ (bW d t)).out=yJ d.length:=q1
  have hl:(dJ (bW d t)).out.length=d.length:=by rw [q1,oO]
  have hE2:U7 (fV d t):=⟨⟨rfl,rfl,rfl⟩,rfl,⟨hl,by show ((dJ (bW d t)).out.length:Int)≤1000;omega⟩,fun x hx=>He.1 (by have hx:x∈(dJ (bW d t)).out:=hx;rw [q1] at hx;exact hx),hw⟩
  obtain ⟨_,_,g0,g1,g2⟩:=akT _ hE2
  have q2:sortB (ltD d t) (iy (fV d t)).data=sortB (ltD d t) (dJ (bW d t)).out:=(akS _ hE2).2
  obtain ⟨⟨g3,g4,⟨g5,g6⟩,g7⟩,g8,⟨⟨ga,gb⟩,gc,_⟩,gd⟩:=g1
  have g7:(iy (fV d t)).a≤((List.length (dJ (bW d t)).out:Nat):Int):=g7
  have g8:((List.length (dJ (bW d t)).out:Nat):Int)=(List.length (iy (fV d t)).data:Int):=g8
  have g2:((List.length (dJ (bW d t)).out:Nat):Int)<(iy (fV d t)).b:=g2
  have ga:(iy (fV d t)).data.length=d.length:=ga
  have hE3:JK (lD d t):=⟨by show IntKind.i64.wrap ((iy (fV d t)).a+1)=(iy (fV d t)).a+1;exact aF (by omega) (by omega),⟨⟨g5,g7⟩,by show ((List.length (dJ (bW d t)).out:Nat):Int)≤(List.length (iy (fV d t)).data:Int);omega⟩,⟨ga,gb⟩,gc,hw⟩
  have q3:(iO (lD d t)).data=fK (ltD d t) (iy (fV d t)).data (iy (fV d t)).a ((List.length (dJ (bW d t)).out:Nat):Int):=(FZ _ hE3).2
  have hp:=gW (lt:=ltD d t) (l:=(iy (fV d t)).data) (a:=(iy (fV d t)).a) (b:=((List.length (dJ (bW d t)).out:Nat):Int)) g7
  rw [←q3] at hp
  have hl3:(iO (lD d t)).data.length=d.length:=hp.length_eq.trans ga
  have hE4:U6 (lC d t):=⟨rfl,⟨by show ((List.length (dJ (bW d t)).out:Nat):Int)=(List.length (iO (lD d t)).data:Int);omega,by show ((List.length (dJ (bW d t)).out:Nat):Int)≤100;omega⟩,⟨⟨hl3,by show ((iO (lD d t)).data.length:Int)≤1000;omega⟩,ja hp gc,hw⟩,by
   show blk (ltD d t) (iO (lD d t)).data 20 ((List.length (dJ (bW d t)).out:Nat):Int)
   rw [q3]
   exact aiW iZ g5 g6 g7 (by omega) (by omega) gd⟩
  obtain ⟨_,_,_,q4⟩:=akR _ hE4
  have q5:sortB (ltD d t) (oH (lC d t)).data=sortB (ltD d t) (iO (lD d t)).data:=(akQ _ hE4).2
  have hl5:(oH (lC d t)).data.length=d.length:=by
   have e:=congrArg List.length q5
   rw [tC,tC] at e
   omega
  have q4:kU (ltD d t) (oH (lC d t)).data 0 ((oH (lC d t)).data.length:Int):=by
   have q4:kU (ltD d t) (oH (lC d t)).data 0 ((List.length (dJ (bW d t)).out:Nat):Int):=q4
   rwa [hl,←hl5] at q4
  have q6:(oH (lC d t)).data=iK d t:=by
   rw [←adG di q4,q5,oD di hp,q2,q1]
   rfl
  refine ⟨⟨by omega,by omega,by omega,by omega⟩,⟨rfl,by simp⟩,⟨hE,rfl,rfl⟩,⟨rfl,rfl⟩,⟨hE2,rfl,rfl⟩,⟨rfl,rfl⟩,⟨hE3,rfl,rfl⟩,⟨rfl,by rw [ga,hl3]⟩,⟨hE4,rfl,rfl⟩,by omega,?_⟩
  show LV.xl _ _=_
  rw [List.drop_zero,hl,←hl5,List.take_length,q6]
 ·cases h)
end Go.Proofs.YtlihnbimgclogaaGreatDoor
namespace Go.Proofs.YtlihnbimgclogaaGreatDoor
open Go.Sx
theorem ntW {b:Bool}(h:(!b)=true):b=false:=by cases b<;>simp_all
theorem nfW {b:Bool}(h:(!b)=false):b=true:=by cases b<;>simp_all
def wt (n:Int):Int:=(n*1000000+999799) / 999800
def wtA (n:Int):Int:=if inB n 0 1000000=true then wt n else 0
def wtE (n:Int):Int:=if inB n 0 1000000=true then 0 else 1
theorem aeB {m n:Int}:m*999800 / 1000000≥n↔wt n≤m:=by
 unfold wt
 omega
theorem aBP {a b:Int}(a0:0≤a) (a1:a≤3000000) (b0:0≤b) (b1:b≤1000000):0≤a*b∧a*b≤3000000000000:=
 ⟨Int.mul_nonneg a0 b0,Int.le_trans (Int.mul_le_mul_of_nonneg_left b1 a0) (by omega)⟩
theorem aoW {n:Int}(h0:0≤n):0≤wt n∧wt n≤2*n+2:=by
 unfold wt
 omega
abbrev rG:Ty:=.pair (.int .i64) (.pair (.int .i64) (.pair (.int .i64) (.pair (.int .i64) (.int .i64))))
abbrev Le:=Int×Int×Int×Int×Int
def qB (l:List Le) (n:Int):Le:=l.getD n.toNat (0,0,0,0,0)
def leV (x:Le):Bool:=inB x.1 1 1000000&&(inB x.2.1 0 15&&(inB x.2.2.1 0 80&&(inB x.2.2.2.1 0 1000000&&inB x.2.2.2.2 1 1000)))
def anJ (b x:Le):Bool:=decide (x.1>b.1)&&decide (x.2.2.2.1≥b.2.2.2.1)
def vX (l:List Le) (j:Int):Bool:=leV (qB l j)&&(decide (j=0) ||anJ (qB l (j-1)) (qB l j))
def tY (l:List Le):Bool:=decide (l.length≤64)&&Kq l.length (vX l)
theorem PV {l:List Le}{n:Int}(h:n.toNat<l.length):qB l n=l[n.toNat]:=AO h
theorem IU {l:List Le}{i:Int}(h0:0≤i) (h:i<l.length):l.drop i.toNat=qB l i::l.drop (i+1).toNat∧l.take (i+1).toNat=l.take i.toNat++[qB l i]:=vk h0 h
theorem PU {l:List Le}{i:Int}(h0:0≤i) (h:i<l.length):qB l i∈l:=by
 rw [PV (by omega)]
 exact List.getElem_mem _
theorem aaE {x:Le}:leV x=true↔(1≤x.1∧x.1≤1000000)∧(0≤x.2.1∧x.2.1≤15)∧(0≤x.2.2.1∧x.2.2.1≤80)∧(0≤x.2.2.2.1∧x.2.2.2.1≤1000000)∧1≤x.2.2.2.2∧x.2.2.2.2≤1000:=by
 unfold leV
 simp only [Bool.and_eq_true,iP]
theorem Az {l:List Le}(h:tY l=true):l.length≤64∧∀x∈l,leV x=true:=by
 unfold tY at h
 rw [Bool.and_eq_true] at h
 refine ⟨of_decide_eq_true h.1,fun x hx=>?_⟩
 obtain ⟨k,hk,rfl⟩:=List.mem_iff_getElem.1 hx
 have:=iD.1 h.2 k (by omega)
 unfold vX at this
 rw [Bool.and_eq_true,PV (by simpa using hk)] at this
 simpa using this.1
def ad6 (x:Le):Int:=x.2.2.2.1+10+wt x.2.2.2.2
end Go.Proofs.YtlihnbimgclogaaGreatDoor
namespace Go.Proofs.YtlihnbimgclogaaGreatDoor
open Go.Sx
def ajp:List LV→T LV
 | [.v (.int .i64 r),.v (.int .i64 m)]=> .req ((0≤r∧r≤1000000)∧0≤m∧m≤3000000) (.ok (.v (.int .i64 (m*r / 1000000))))
 |_=> .no
noncomputable def ajc:List LV→T LV:=jR Tryz.prog Tryz.f156.params.toList ajp
noncomputable def aiq:Specs:=bn []
theorem aqa:∀g S,aiq g=some S→Valid Tryz.prog aT g S:=aX (l:=[]) trivial
theorem auf (r m:Int):eX Tryz.prog aT (aiq) iU aB Tryz.f156 [.v (.int .i64 r),.v (.int .i64 m)]=.req ((1000000:Int)≠0) (.ok (.v (.int .i64 (IntKind.i64.wrap ((IntKind.i64.wrap (m*r)).tdiv 1000000))))):=by kernel_rfl
theorem axg:Valid Tryz.prog aT 156 ajc:=aJ Tryz.func156 rfl aqa aC (bF (by kernel_rfl)) (fun args lv h=>by
 unfold ajp at h
 split at h
 ·simp only [canL,canX]
  rw [auf]
  rename_i r m
  obtain ⟨⟨hr,hm⟩,rfl⟩:=h
  have h1:=aBP (a:=m) (b:=r) hm.1 hm.2 hr.1 hr.2
  have h2:0≤m*r / 1000000∧m*r / 1000000≤m*r:=by omega
  refine ⟨by omega,congrArg (fun z=>LV.v (.int .i64 z)) ?_⟩
  rw [aF (x:=m*r) (by omega) (by omega),Int.tdiv_eq_ediv_of_nonneg h1.1,aF (by omega) (by omega)]
 ·cases h)
def acQ:List LV→T LV
 | [.v (.int .i64 n)]=> .ok (.v (.bool (inB n 0 1000000)))
 |_=> .no
noncomputable def YM:List LV→T LV:=jR Tryz.prog Tryz.f154.params.toList acQ
theorem amV (n:Int):eX Tryz.prog aT (aiq) iU aB Tryz.f154 [.v (.int .i64 n)]=.ok (.v (.bool ((decide (n≥0))&&(decide (n≤1000000))))):=by kernel_rfl
theorem arP:Valid Tryz.prog aT 154 YM:=aJ Tryz.func154 rfl aqa aC (bF (by kernel_rfl)) (fun args lv h=>by
 unfold acQ at h
 split at h
 ·simp only [canL,canX]
  rw [amV]
  exact h
 ·cases h)
structure qY where
 low:Int
 high:Int
 r:Int
 n:Int
def aA6 (s:qY):List LV:=[.v (.int .i64 s.low),.v (.int .i64 s.high),.fn 162 [.own 1 0,.own 0 0,.own 2 0]]
def aAj (s:qY):List aS:=[⟨[.v (.int .i64 s.r)],202,.cl,false⟩,⟨[.fn 156 []],203,.cl,false⟩,⟨[.v (.int .i64 s.n)],3,.cl,false⟩]
noncomputable def Ul:Code:=((ay (Tryz.f161.body.getD .skip))[0]?).getD .skip
def Zy (s:qY):T (Rd qY):=
 .br (decide (s.low<s.high)) (.req ((2:Int)≠0) (.req ((0≤s.r∧s.r≤1000000)∧0≤(IntKind.i64.wrap (s.low+(IntKind.i64.wrap ((IntKind.i64.wrap (s.high-s.low)).tdiv 2))))∧(IntKind.i64.wrap (s.low+(IntKind.i64.wrap ((IntKind.i64.wrap (s.high-s.low)).tdiv 2))))≤3000000) (.br (decide (((IntKind.i64.wrap (s.low+(IntKind.i64.wrap ((IntKind.i64.wrap (s.high-s.low)).tdiv 2))))*s.r / 1000000)≥s.n)) (.ok (.next {s with high:=(IntKind.i64.wrap (s.low+(IntKind.i64.wrap ((IntKind.i64.wrap (s.high-s.low)).tdiv 2))))})) (.ok (.next {s with low:=(IntKind.i64.wrap ((IntKind.i64.wrap (s.low+(IntKind.i64.wrap ((IntKind.i64.wrap (s.high-s.low)).tdiv 2))))+1))}))))) (.ok (.stop (.exit 0) s))
abbrev aqG (s:qY):=(Zy s).rd s
def adn (s:qY):Prop:=s.low=0∧s.high=2*s.n+2∧s.r=999800∧0≤s.n∧s.n≤1000000
def MR (s:qY):Prop:=(0≤s.low∧s.low≤wt s.n)∧(wt s.n≤s.high∧s.high≤2*s.n+2)∧s.r=999800∧0≤s.n∧s.n≤1000000
def Ig (s:qY):Nat:=(s.high-s.low).toNat
def ajM (x:Ex) (_ s':qY):Prop:=x=.exit 0∧s'.low=wt s'.n
theorem ayn:∀s,adn s→MR s:=by
 intro s h
 obtain ⟨h0,h1,h2,h3,h4⟩:=h
 have:=aoW h3
 exact ⟨by omega,by omega,h2,h3,h4⟩
theorem aur (s:qY) (hI:MR s):bY (fun s'=>MR s'∧Ig s'<Ig s) (fun x s'=>ajM x s s') (aqG s):=by
 unfold aqG Zy
 dsimp only [T.rd,T.rl]
 obtain ⟨⟨h0,h1⟩,⟨h2,h3⟩,h4,h5,h6⟩:=hI
 refine ai (fun c1=>?_) (fun c1=>?_)
 ·have c1:s.low<s.high:=by simpa using c1
  have hd:(s.high-s.low).tdiv 2=(s.high-s.low) / 2:=Int.tdiv_eq_ediv_of_nonneg (by omega)
  have hm:IntKind.i64.wrap (s.low+IntKind.i64.wrap ((IntKind.i64.wrap (s.high-s.low)).tdiv 2))=s.low+(s.high-s.low) / 2:=by
   rw [aF (x:=s.high-s.low) (by omega) (by omega),hd,aF (x:=(s.high-s.low) / 2) (by omega) (by omega),aF (by omega) (by omega)]
  rw [hm]
  refine ai (fun c2=>?_) (fun c2=>?_)
  ·rw [decide_eq_true_eq,h4,aeB] at c2
   exact ⟨⟨⟨h0,h1⟩,⟨by simp only;omega,by simp only;omega⟩,h4,h5,h6⟩,by simp only [Ig];omega⟩
  ·rw [decide_eq_false_iff_not,h4,aeB] at c2
   rw [aF (x:=s.low+(s.high-s.low) / 2+1) (by omega) (by omega)]
   exact ⟨⟨⟨by simp only;omega,by simp only;omega⟩,⟨h2,h3⟩,h4,h5,h6⟩,by simp only [Ig];omega⟩
 ·have c1:s.high≤s.low:=by simpa using c1
  exact ⟨rfl,by omega⟩
def JW:dn qY:=⟨3,24,[0,1,2],[],aA6,aAj,fun v b=>⟨gI (v.getD 0 .junk),gI (v.getD 1 .junk),gI (bC (aV b 0) 0),gI (bC (aV b 2) 0)⟩,Zy,fun s r=> {r with r:=s.r,n:=s.n},fun s=>s,fun _ s=>s,[.exit 0],adn,MR,Ig⟩
abbrev Z8:=JW.run
abbrev an6:=JW.lU
abbrev awi:=JW.q
noncomputable def Ey:Specs:=bn [(154,YM),(156,ajc)]
theorem II:∀g S,Ey g=some S→Valid Tryz.prog aT g S:=aX (l:=[(154,YM),(156,ajc)]) ⟨arP,axg,trivial⟩
noncomputable def ahU:Hand:=inl Tryz.prog aT Ey (jo Tryz.prog aT (Ey) 20 2) 9
theorem apM:cO Tryz.prog aT ahU:=bJ II (dw II) 9
theorem as8 (s:qY) (hI:MR s):(Zy s).all (fun _=>True):=by
 refine ⟨fun c1=>⟨?_,?_,fun _=>trivial,fun _=>trivial⟩,fun _=>trivial⟩
 all_goals ((obtain ⟨⟨h0,h1⟩,⟨h2,h3⟩,h4,h5,h6⟩:=hI;simp only [decide_eq_true_eq] at c1;first|decide|(have hd:(s.high-s.low).tdiv 2=(s.high-s.low) / 2:=Int.tdiv_eq_ediv_of_nonneg (by omega);have hm:IntKind.i64.wrap (s.low+IntKind.i64.wrap ((IntKind.i64.wrap (s.high-s.low)).tdiv 2))=s.low+(s.high-s.low) / 2:=(by rw [aF (x:=s.high-s.low) (by omega) (by omega),hd,aF (x:=(s.high-s.low) / 2) (by omega) (by omega),aF (by omega) (by omega)]);rw [hm];omega)))
theorem agE:JW.Ok:=⟨fun s=>by kernel_rfl,fun s=>by kernel_rfl,fun s=>rfl,fun s t r=>rfl,fun s=>rfl,fun s=>by kernel_rfl⟩
theorem afO:JW.Pf (ajM):=⟨ayn,fun _ _=>rfl,aur,as8⟩
theorem alk:bG Tryz.prog aT (AN 3) (.loop Ul) JW.lp:=dn.snd agE afO (aZ (Γ:=Ey) (K:=ahU) (L:=(mP Tryz.prog aT Ey ahU 20 2)) II apM Ul (fun b _=>cu II apM 20 2 b)) (fun s=>by kernel_rfl)
theorem ann (s:qY) (hE:adn s):∃s',MR s'∧ajM (an6 s) s' (Z8 s):=dn.fin agE afO s hE
def ack:List LV→T LV
 | [.v (.int .i64 n)]=> .ok (.v (.tuple #[.int .i64 (wtA n),.int .i64 (wtE n)]))
 |_=> .no
noncomputable def Yt:List LV→T LV:=jR Tryz.prog Tryz.f136.params.toList ack
noncomputable def apX:Hand:=inl Tryz.prog aT Ey (dG 161 3 1 (JW.lp) (jo Tryz.prog aT (Ey) 20 2)) 9
theorem ayE:cO Tryz.prog aT apX:=bJ II (aP Tryz.func161 rfl (by kernel_rfl) alk (dw II)) 9
theorem amo (n:Int):eX Tryz.prog aT (Ey) apX aB Tryz.f136 [.v (.int .i64 n)]=.br (!(inB n 0 1000000)) (.ok (.v (.tuple #[.int .i64 0,.int .i64 1]))) (.req (awi (⟨(0:Int),(IntKind.i64.wrap ((IntKind.i64.wrap (2*n))+2)),(999800:Int),n⟩:qY)) (.ok (.v (.tuple #[.int .i64 (Z8 (⟨(0:Int),(IntKind.i64.wrap ((IntKind.i64.wrap (2*n))+2)),(999800:Int),n⟩:qY)).low,.int .i64 0])))):=by kernel_rfl
theorem arv:Valid Tryz.prog aT 136 Yt:=aJ Tryz.func136 rfl II ayE (bF (by kernel_rfl)) (fun args lv h=>by
 unfold ack at h
 split at h
 ·simp only [canL,canX]
  rw [amo]
  rename_i n
  obtain rfl:=h
  refine ⟨fun c=>?_,fun c=>?_⟩
  ·have c:inB n 0 1000000=false:=ntW c
   unfold wtA wtE
   rw [c]
   rfl
  ·have c:inB n 0 1000000=true:=nfW c
   have hb:=iP.1 c
   have hE:adn ⟨0,IntKind.i64.wrap (IntKind.i64.wrap (2*n)+2),999800,n⟩:=⟨rfl,by
    show IntKind.i64.wrap (IntKind.i64.wrap (2*n)+2)=2*n+2
    rw [aF (x:=2*n) (by omega) (by omega),aF (by omega) (by omega)],rfl,hb.1,hb.2⟩
   obtain ⟨_,_,_,q⟩:=ann _ hE
   refine ⟨⟨hE,rfl,rfl⟩,?_⟩
   rw [q]
   unfold wtA wtE
   rw [if_pos c,if_pos c]
   exact rfl
 ·cases h)
end Go.Proofs.YtlihnbimgclogaaGreatDoor
namespace Go.Proofs.YtlihnbimgclogaaGreatDoor
open Go.Sx
def ajm:List LV→T LV
 | [.v (.int .i64 n),.v (.int .i64 a),.v (.int .i64 b)]=> .ok (.v (.bool (inB n a b)))
 |_=> .no
noncomputable def UG:List LV→T LV:=jR Tryz.prog Tryz.f108.params.toList ajm
noncomputable def aip:Specs:=bn []
theorem ap9:∀g S,aip g=some S→Valid Tryz.prog aT g S:=aX (l:=[]) trivial
theorem auc (n a b:Int):eX Tryz.prog aT (aip) iU aB Tryz.f108 [.v (.int .i64 n),.v (.int .i64 a),.v (.int .i64 b)]=.ok (.v (.bool ((decide (n≥a))&&(decide (n≤b))))):=by kernel_rfl
theorem aoY:Valid Tryz.prog aT 108 UG:=aJ Tryz.func108 rfl ap9 aC (bF (by kernel_rfl)) (fun args lv h=>by
 unfold ajm at h
 split at h
 ·simp only [canL,canX]
  rw [auc]
  exact h
 ·cases h)
def acM:List LV→T LV
 | [.v (.agg ⟨[.int .i64 nu,.int .i64 co,.int .i64 am,.int .i64 fr,.int .i64 tk]⟩)]=> .ok (.v (.bool (leV (nu,co,am,fr,tk))))
 |_=> .no
noncomputable def YI:List LV→T LV:=jR Tryz.prog Tryz.f63.params.toList acM
noncomputable def aqj:Specs:=bn [(108,UG)]
theorem ayT:∀g S,aqj g=some S→Valid Tryz.prog aT g S:=aX (l:=[(108,UG)]) ⟨aoY,trivial⟩
theorem amR (nu co am fr tk:Int):eX Tryz.prog aT (aqj) iU aB Tryz.f63 [.v (.agg #[.int .i64 nu,.int .i64 co,.int .i64 am,.int .i64 fr,.int .i64 tk])]=.ok (.v (.bool ((inB nu (1:Int) (1000000:Int))&&((inB co (0:Int) (15:Int))&&((inB am (0:Int) (80:Int))&&((inB fr (0:Int) (1000000:Int))&&(inB tk (1:Int) (1000:Int)))))))):=by kernel_rfl
theorem arL:Valid Tryz.prog aT 63 YI:=aJ Tryz.func63 rfl ayT aC (bF (by kernel_rfl)) (fun args lv h=>by
 unfold acM at h
 split at h
 ·simp only [canL,canX]
  rw [amR]
  exact h
 ·cases h)
def ajn:List LV→T LV
 | [.v (.agg ⟨[.int .i64 nu,.int .i64 co,.int .i64 am,.int .i64 fr,.int .i64 tk]⟩),.v (.agg ⟨[.int .i64 nu2,.int .i64 co2,.int .i64 am2,.int .i64 fr2,.int .i64 tk2]⟩)]=> .ok (.v (.bool (anJ (nu,co,am,fr,tk) (nu2,co2,am2,fr2,tk2))))
 |_=> .no
noncomputable def aja:List LV→T LV:=jR Tryz.prog Tryz.f64.params.toList ajn
theorem aud (nu co am fr tk nu2 co2 am2 fr2 tk2:Int):eX Tryz.prog aT (aip) iU aB Tryz.f64 [.v (.agg #[.int .i64 nu,.int .i64 co,.int .i64 am,.int .i64 fr,.int .i64 tk]),.v (.agg #[.int .i64 nu2,.int .i64 co2,.int .i64 am2,.int .i64 fr2,.int .i64 tk2])]=.ok (.v (.bool ((decide (nu2>nu))&&(decide (fr2≥fr))))):=by kernel_rfl
theorem axe:Valid Tryz.prog aT 64 aja:=aJ Tryz.func64 rfl ap9 aC (bF (by kernel_rfl)) (fun args lv h=>by
 unfold ajn at h
 split at h
 ·simp only [canL,canX]
  rw [aud]
  exact h
 ·cases h)
def acN:List LV→T LV
 | [.v (.agg ⟨[.int .i64 nu,.int .i64 co,.int .i64 am,.int .i64 fr,.int .i64 tk]⟩)]=> .req ((0≤fr∧fr≤1000000)∧0≤tk∧tk≤1000000) (.ok (.v (.int .i64 (ad6 (nu,co,am,fr,tk)))))
 |_=> .no
end Go.Proofs.YtlihnbimgclogaaGreatDoor
