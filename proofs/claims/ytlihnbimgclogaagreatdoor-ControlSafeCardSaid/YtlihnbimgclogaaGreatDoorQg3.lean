/- ControlSafe returns true for all arguments: what may be alive exceeds no limit after the new leases were granted, in this tick and in any later one, if it exceeded none before. Conditions: none; the table ramp.happens holds what its text says. -/
import Derived.Test.YtlihnbimgclogaaGreatDoorQg2
namespace Go.Proofs.YtlihnbimgclogaaGreatDoor
open Go.Sx
structure OkT (O:List (List Int)) (rows:List Rw) (gs:List Ch) (alive most order:List Int):Prop where
 ol:O.length=16
 ord:∀i∈order,(0≤i∧i<16)∧i<(gs.length:Int)∧i<(alive.length:Int)∧i<(most.length:Int)
 al:∀a∈alive,0≤a∧a≤80
 mo:∀a∈most,0≤a∧a≤80
 has:∀i∈order,nD (bD gs i).2.2.2.1 (bD gs i).2.2.2.2.1 (bD gs i).2.2.2.2.2.1=true
 row:∀o∈O,o.Nodup∧(o.length:Int)≤1000∧∀r∈o,0≤r∧r<(rows.length:Int)
 cap:∀r∈rows,r.1≤1000
structure OkS (rows:List Rw) (order sm lv:List Int):Prop where
 len:sm.length=rows.length
 bd:∀k:Nat,0≤sm.getD k 0∧sm.getD k 0≤2000
 lV:∀i∈order,i<(lv.length:Int)
 lvb:∀k:Nat,0≤lv.getD k 0∧lv.getD k 0≤80
theorem alF {mi st k:Int}(h:1≤mi∧mi≤80∧1≤st∧st≤80) (h0:0≤k) (h1:k≤81):0≤DN mi st k∧DN mi st k≤6480:=by
 unfold DN
 split
 ·omega
 ·have a1:0≤(k-1)*st:=Int.mul_nonneg (by omega) (by omega)
  have a2:(k-1)*st≤(k-1)*80:=Int.mul_le_mul_of_nonneg_left (by omega) (by omega)
  omega
theorem V7 {mi st j k:Int}(h:1≤mi∧1≤st) (h0:0≤j) (h1:j≤k):DN mi st j≤DN mi st k:=by
 unfold DN
 split
 ·split
  ·omega
  ·have a1:0≤(k-1)*st:=Int.mul_nonneg (by omega) (by omega)
   omega
 ·rw [if_neg (by omega)]
  have:(j-1)*st≤(k-1)*st:=Int.mul_le_mul_of_nonneg_right (by omega) (by omega)
  omega
theorem ajM {gs:List Ch}{alive:List Int}{i k:Int}(hh:nD (bD gs i).2.2.2.1 (bD gs i).2.2.2.2.1 (bD gs i).2.2.2.2.2.1=true) (ha:0≤gi alive i∧gi alive i≤80) (h0:1≤k) (h1:k≤81):0≤MV gs alive i k∧MV gs alive i k≤10000:=by
 obtain ⟨g1,g2,g3,g4,g5⟩:=fZ.1 hh
 have b1:=alF (mi:=(bD gs i).2.2.2.1) (st:=(bD gs i).2.2.2.2.2.1) (k:=k) ⟨g1,by omega,g4,g5⟩ (by omega) h1
 have b2:=alF (mi:=(bD gs i).2.2.2.1) (st:=(bD gs i).2.2.2.2.2.1) (k:=k-1) ⟨g1,by omega,g4,g5⟩ (by omega) (by omega)
 have b3:=V7 (mi:=(bD gs i).2.2.2.1) (st:=(bD gs i).2.2.2.2.2.1) (j:=k-1) (k:=k) ⟨g1,g4⟩ (by omega) (by omega)
 unfold MV mx yM
 split<;>split<;>omega
theorem qL {l:List Int}{i:Int}(h0:0≤i) (h:i<(l.length:Int)):gi l i∈l:=by
 rw [pX (by omega)];exact List.getElem_mem _
theorem ahb {O:List (List Int)}{rows:List Rw}{gs:List Ch}{alive most order:List Int}{level:Int}{t:Tr}{i:Int}(hT:OkT O rows gs alive most order) (hS:OkS rows order t.1 t.2.1) (hi:i∈order) (h0:1≤level) (h1:level≤81):OkS rows order (DX O rows gs alive most level t i).1 (DX O rows gs alive most level t i).2.1:=by
 unfold DX
 split
 ·split
  ·rename_i hc hf
   obtain ⟨⟨o0,o1⟩,o2,o3,o4⟩:=hT.ord i hi
   have hl80:=YI (mi:=(bD gs i).2.2.2.1) (ma:=(bD gs i).2.2.2.2.1) (st:=(bD gs i).2.2.2.2.2.1) (a:=gi most i)
   have hl81:=hc.2
   unfold yX at hl81
   have hm:=ajM (gs:=gs) (alive:=alive) (k:=level) (hT.has i hi) (hT.al _ (qL o0 o3)) h0 h1
   have ho:O.getD i.toNat []∈O:=by
    have hl:=hT.ol
    rw [List.getD_eq_getElem?_getD,List.getElem?_eq_getElem (by omega),Option.getD_some]
    exact List.getElem_mem _
   obtain ⟨r1,r2,r3⟩:=hT.row _ ho
   refine ⟨by simp only;rw [sJ];exact hS.len,fun k=>?_,fun j hj=>by simp only [List.length_set];exact hS.lV j hj,fun k=>by
    have:=hS.lvb k
    simp only
    rw [qM]
    split<;>omega⟩
   simp only
   by_cases hk:k<t.1.length
   ·rw [JW r1 (fun r hr=>(r3 r hr).1) hk]
    have hb:=hS.bd k
    split
    ·rename_i hkm
     have hfit:=List.all_eq_true.1 hf _ hkm
     unfold Bg at hfit
     rw [decide_eq_true_eq,Int.toNat_natCast] at hfit
     have hk2:=hS.len
     have:=hT.cap (su rows (k:Int)) (by rw [Ei (by omega)];exact List.getElem_mem _)
     omega
    ·omega
   ·rw [List.getD_eq_getElem?_getD,List.getElem?_eq_none (by rw [sJ];omega)]
    simp
  ·exact hS
 ·exact hS
theorem XD {O:List (List Int)}{rows:List Rw}{gs:List Ch}{alive most order:List Int}{level:Int}(hT:OkT O rows gs alive most order) (h0:1≤level) (h1:level≤81):∀(l:List Int) (t:Tr),(∀i∈l,i∈order)→OkS rows order t.1 t.2.1→OkS rows order (swp O rows gs alive most level t l).1 (swp O rows gs alive most level t l).2.1
 | [],t,_,h=>h
 |i::l,t,hl,h=>XD hT h0 h1 l _ (fun j hj=>hl j (by simp [hj])) (ahb hT h (hl i (by simp)) h0 h1)
theorem zX {O:List (List Int)}{rows:List Rw}{gs:List Ch}{alive most:List Int}{level:Int}:∀(l:List Int) (t:Tr),(swp O rows gs alive most level t l).2.2=true→t.2.2=true∨level≤80
 | [],t,h=> .inl h
 | i::l,t,h=>by
  rcases zX l _ h with h2|h2
  ·unfold DX at h2
   split at h2
   ·rename_i hc
    have:=YI (mi:=(bD gs i).2.2.2.1) (ma:=(bD gs i).2.2.2.2.1) (st:=(bD gs i).2.2.2.2.2.1) (a:=gi most i)
    have h3:=hc.2
    unfold yX at h3
    exact .inr (by omega)
   ·exact .inl h2
  ·exact .inr h2
end Go.Proofs.YtlihnbimgclogaaGreatDoor
namespace Go.Proofs.YtlihnbimgclogaaGreatDoor
open Go.Sx
theorem XH {O:List (List Int)}{rows:List Rw}{gs:List Ch}{alive most:List Int}{level:Int}{t:Tr}{i:Int}:(DX O rows gs alive most level t i).2.1.length=t.2.1.length:=by
 unfold DX
 split
 ·split
  ·simp only [List.length_set]
  ·rfl
 ·rfl
theorem Ip {O:List (List Int)}{rows:List Rw}{gs:List Ch}{alive most:List Int}{level:Int}:∀(l:List Int) (t:Tr),(swp O rows gs alive most level t l).2.1.length=t.2.1.length
 | [],_=>rfl
 |_::l,_=>(Ip l _).trans XH
theorem agW {O:List (List Int)}{rows:List Rw}{gs:List Ch}{alive most order:List Int}(hT:OkT O rows gs alive most order):∀(f:Nat) (level:Int) (sm lv:List Int),1≤level→level≤81→OkS rows order sm lv→(shl O rows gs alive most order f level sm lv).length=lv.length∧∀k:Nat,0≤(shl O rows gs alive most order f level sm lv).getD k 0∧(shl O rows gs alive most order f level sm lv).getD k 0≤80
 |0,_,_,lv,_,_,h=>⟨rfl,h.lvb⟩
 | f+1,level,sm,lv,h0,h1,h=>by
  have hk:=XD hT h0 h1 order (sm,lv,false) (fun _ h=>h) h
  have hl:=Ip (O:=O) (rows:=rows) (gs:=gs) (alive:=alive) (most:=most) (level:=level) order (sm,lv,false)
  have hs:=zX (O:=O) (rows:=rows) (gs:=gs) (alive:=alive) (most:=most) (level:=level) order (sm,lv,false)
  rw [shl]
  split
  ·rename_i hc
   have h80:level≤80:=by
    rcases hs hc with h|h
    ·cases h
    ·exact h
   obtain ⟨g1,g2⟩:=agW hT f (level+1) _ _ (by omega) (by omega) hk
   exact ⟨g1.trans hl,g2⟩
  ·exact ⟨hl,hk.lvb⟩
def ofF (i:Int):List Rw→Int→List Int
 | [],_=>[]
 |r::rs,j=>(if r.2.contains j then [i] else [])++ofF (i+1) rs j
theorem UZ {o:List (List Int)}{f:List Int→List Int}{j k:Nat}(h:k<o.length):(o.modify j f).getD k []=if j=k then f (o.getD k []) else o.getD k []:=by
 simp only [List.getD,List.getElem?_modify,List.getElem?_eq_getElem h]
 split<;>simp_all
theorem UM {i:Int}:∀ {l:List Int}{o:List (List Int)}{k:Nat},l.Nodup→(∀m∈l,0≤m)→k<o.length→(vZ i o l).getD k []=o.getD k []++(if l.contains (k:Int) then [i] else [])
 | [],o,k,_,_,_=>by simp [vZ]
 | m::l,o,k,hn,h0,hk=>by
  obtain ⟨n1,n2⟩:=List.nodup_cons.1 hn
  have hm:=h0 m (by simp)
  rw [yj,UM n2 (fun x hx=>h0 x (by simp [hx])) (by rw [List.length_modify];exact hk),UZ hk]
  by_cases e:m.toNat=k
  ·have e2:(k:Int)=m:=by omega
   have:¬(k:Int)∈l:=by rw [e2];exact n1
   rw [if_pos e]
   simp [e2,n1]
  ·rw [if_neg e]
   have:¬(k:Int)=m:=by omega
   simp [this]
def ajN (r:Rw):Prop:=r.2.Nodup∧∀m∈r.2,0≤m
theorem Io:∀ {rs:List Rw}{o:List (List Int)}{i:Int},(TI o i rs).length=o.length
 | [],_,_=>rfl
 |r::rs,o,i=>by rw [TI,Io,wK]
theorem aaB:∀ {rs:List Rw}{o:List (List Int)}{i:Int}{k:Nat},(∀r∈rs,ajN r)→k<o.length→(TI o i rs).getD k []=o.getD k []++ofF i rs k
 | [],o,i,k,_,_=>by simp [TI,ofF]
 |r::rs,o,i,k,h,hk=>by
  obtain ⟨h1,h2⟩:=h r (by simp)
  rw [TI,aaB (fun x hx=>h x (by simp [hx])) (by rw [wK];exact hk),UM h1 h2 hk,ofF,List.append_assoc]
theorem uQ:∀ {rs:List Rw}{i j x:Int},x∈ofF i rs j↔i≤x∧x<i+rs.length∧(su rs (x-i)).2.contains j=true
 | [],i,j,x=>by simp [ofF];omega
 | r ::rs,i,j,x=>by
  rw [ofF,List.mem_append,uQ]
  by_cases e:x=i
  ·subst e
   have g0:su (r::rs) (x-x)=r:=by simp [su]
   rw [g0]
   simp only [List.length_cons]
   constructor
   ·rintro (h|h)
    ·split at h
     ·rename_i hc
      exact ⟨by omega,by omega,hc⟩
     ·cases h
    ·omega
   ·rintro ⟨_,_,h⟩
    rw [if_pos h]
    simp
  ·have hn:¬x∈(if r.2.contains j then [i] else []):=by
    split
    ·simpa using e
    ·simp
   simp only [List.length_cons]
   constructor
   ·rintro (h|⟨h1,h2,h3⟩)
    ·exact absurd h hn
    ·refine ⟨by omega,by omega,?_⟩
     have:su (r::rs) (x-i)=su rs (x-(i+1)):=by
      unfold su
      rw [show (x-i).toNat=(x-(i+1)).toNat+1 by omega]
      simp
     rw [this];exact h3
   ·rintro ⟨h1,h2,h3⟩
    refine .inr ⟨by omega,by omega,?_⟩
    have:su (r::rs) (x-i)=su rs (x-(i+1)):=by
     unfold su
     rw [show (x-i).toNat=(x-(i+1)).toNat+1 by omega]
     simp
    rw [←this];exact h3
theorem yx:∀ {rs:List Rw}{i j:Int},(ofF i rs j).Nodup
 | [],_,_=>List.nodup_nil
 | r::rs,i,j=>by
  rw [ofF]
  split
  ·rw [List.singleton_append,List.nodup_cons]
   refine ⟨fun h=>?_,yx⟩
   have:=(uQ.1 h).1
   omega
  ·rw [List.nil_append];exact yx
theorem abQ:∀ {rs:List Rw}{i j:Int},(ofF i rs j).length≤rs.length
 | [],_,_=>Nat.le_refl _
 |r::rs,i,j=>by
  have:=abQ (rs:=rs) (i:=i+1) (j:=j)
  rw [ofF]
  split<;>simp only [List.length_append,List.length_cons,List.length_nil]<;>omega
theorem Il {alive:List Int}:∀ {rs:List Rw}{sm:List Int}{i:Int},(TG alive sm i rs).length=sm.length
 | [],_,_=>rfl
 |r::rs,sm,i=>by rw [TG,Il,List.length_set]
theorem aaA {alive:List Int}:∀ {rs:List Rw}{sm:List Int}{i:Int}{k:Nat},0≤i→k<sm.length→(TG alive sm i rs).getD k 0=sm.getD k 0+(if i≤(k:Int)∧(k:Int)<i+rs.length then smA alive (su rs ((k:Int)-i)).2 else 0)
 | [],sm,i,k,_,_=>by
  rw [if_neg (by simp only [List.length_nil];omega)]
  simp [TG]
 | r ::rs,sm,i,k,hi,hk=>by
  rw [TG,aaA (by omega) (by rw [List.length_set];exact hk),qM]
  by_cases e:i.toNat=k
  ·have e2:(k:Int)=i:=by omega
   rw [if_pos ⟨e,hk⟩,if_neg (by omega),if_pos (by simp only [List.length_cons];omega),e,e2]
   have:su (r::rs) (i-i)=r:=by simp [su]
   rw [this]
   omega
  ·rw [if_neg (fun c=>e c.1)]
   by_cases c:i+1≤(k:Int)∧(k:Int)<i+1+rs.length
   ·rw [if_pos c,if_pos (by simp only [List.length_cons];omega)]
    have:su (r::rs) ((k:Int)-i)=su rs ((k:Int)-(i+1)):=by
     unfold su
     rw [show ((k:Int)-i).toNat=((k:Int)-(i+1)).toNat+1 by omega]
     simp
    rw [this]
   ·rw [if_neg c,if_neg (by simp only [List.length_cons];omega)]
theorem agT {alive:List Int}(ha:∀a∈alive,0≤a∧a≤80):∀ {l:List Int},(∀m∈l,0≤m∧m<(alive.length:Int))→0≤smA alive l∧smA alive l≤80*l.length
 | [],_=>by simp [smA]
 |m::l,h=>by
  have h1:=agT ha (l:=l) (fun x hx=>h x (by simp [hx]))
  have hm:=h m (by simp)
  have:=ha (gi alive m) (qL hm.1 hm.2)
  rw [Ux]
  simp only [List.length_cons]
  omega
theorem Au {α:Type}{l:List α}(p:α→Bool) (h:l.Nodup):(l.filter p).Nodup:=List.Pairwise.filter p h
theorem Zm {cs:List Cd}{gs:List Ch}{o:Int}{k:Nat}:(jR cs gs o k).Nodup:=by
 unfold jR
 refine Au _ ?_
 exact List.Pairwise.map _ (fun a b h=>by omega) List.nodup_range
theorem asr {gs:List Ch}{p k:Int}{l:List Int}:k∈fP gs p l↔k∈l∧usA (bD gs k).2.2.1 p=true:=by simp [fP,List.mem_filter]
theorem Iw {cs:List Cd}{gs:List Ch}{c p:Int}{r:Rw}(h:r∈rowP cs gs c p):r=(bV (dY cs c),fP gs p (jR cs gs c gs.length))∧(fP gs p (jR cs gs c gs.length)).length>0:=by
 unfold rowP at h
 split at h
 ·simp only [List.mem_singleton] at h;exact ⟨h,by assumption⟩
 ·cases h
theorem Iz {cs:List Cd}{gs:List Ch}{r:Rw}:∀ {k:Nat},r∈jH cs gs k→∃c p:Int,(0≤c∧c<(k:Int))∧(p=0∨p=1∨p=2)∧r=(bV (dY cs c),fP gs p (jR cs gs c gs.length))∧r.2.length>0
 |0,h=>by cases h
 | k+1,h=>by
  rw [jH,List.mem_append] at h
  rcases h with h|h
  ·obtain ⟨c,p,h1,h2,h3⟩:=Iz h
   exact ⟨c,p,⟨h1.1,by omega⟩,h2,h3⟩
  ·unfold ahj at h
   rw [List.mem_append,List.mem_append] at h
   rcases h with (h|h) |h
   ·obtain ⟨h1,h2⟩:=Iw h
    exact ⟨k,0,⟨by omega,by omega⟩,by simp,h1,by rw [h1];exact h2⟩
   ·obtain ⟨h1,h2⟩:=Iw h
    exact ⟨k,1,⟨by omega,by omega⟩,by simp,h1,by rw [h1];exact h2⟩
   ·obtain ⟨h1,h2⟩:=Iw h
    exact ⟨k,2,⟨by omega,by omega⟩,by simp,h1,by rw [h1];exact h2⟩
theorem row_mem {cs:List Cd}{gs:List Ch}{r:Rw}{k:Nat}(h:r∈jH cs gs k):r.2.Nodup∧(∀m∈r.2,0≤m∧m<(gs.length:Int))∧r.2.length≤gs.length∧r.2.length>0:=by
 obtain ⟨c,p,h1,h2,h3,h4⟩:=Iz h
 subst h3
 refine ⟨Au _ Zm,fun m hm=>Dq (asr.1 hm).1,Nat.le_trans adD Dt,h4⟩
def pO (gs:List Ch) (lv:List Int):List Int:=(List.range gs.length).map (fun k:Nat=>yM gs (k:Int) (lv.getD k 0))
def OL (rows:List Rw):List (List Int):=TI (List.replicate 16 []) 0 rows
def SM (alive:List Int) (rows:List Rw):List Int:=TG alive (List.replicate rows.length 0) 0 rows
def sQ (cs:List Cd) (os:List ByteArray) (ks:List Ko) (gs:List Ch) (bs:List Ba) (al mo od:List Int):Bool:=dL cs os ks gs bs&&(decide (al.length=gs.length)&&(decide (mo.length=gs.length)&&(al.all vH&&(mo.all vH&&nC od gs.length))))
def shV (rows:List Rw) (gs:List Ch) (al mo od:List Int):List Int:=shl (OL rows) rows gs al mo od 81 1 (SM al rows) (List.replicate al.length 0)
def shE (cs:List Cd) (os:List ByteArray) (ks:List Ko) (gs:List Ch) (bs:List Ba) (al mo od:List Int):Int:=if sQ cs os ks gs bs al mo od=true then 0 else 1
def yP (cs:List Cd) (os:List ByteArray) (ks:List Ko) (gs:List Ch) (bs:List Ba) (al mo od:List Int):List Int:=if sQ cs os ks gs bs al mo od=true then pO gs (shV (jH cs gs cs.length) gs al mo od) else []
theorem jG {cs:List Cd}{os:List ByteArray}{ks:List Ko}{gs:List Ch}{bs:List Ba}{al mo od:List Int}:sQ cs os ks gs bs al mo od=true↔dL cs os ks gs bs=true∧al.length=gs.length∧mo.length=gs.length∧al.all vH=true∧mo.all vH=true∧nC od gs.length=true:=by
 simp [sQ]
theorem ajW:∀ {l:List Int}{f:Int},YA f l≤f
 | [],f=>Int.le_refl _
 |n::l,f=>by
  have:YA f (n::l)=YA (if n<f then n else f) l:=rfl
  rw [this]
  have:=ajW (l:=l) (f:=if n<f then n else f)
  split at this<;>rename_i h
  ·rw [if_pos h];omega
  ·rw [if_neg h];exact this
theorem aq1 {c:Cd}:bV c≤c.2.2.1:=by
 unfold bV
 split<;>exact ajW
theorem EC {rows:List Rw}:(OL rows).length=16:=by rw [OL,Io,List.length_replicate]
theorem aao {rows:List Rw}(h:∀r∈rows,ajN r) {k:Nat}(hk:k<16):(OL rows).getD k []=ofF 0 rows k:=by
 rw [OL,aaB h (by simpa using hk)]
 have:(List.replicate 16 ([]:List Int)).getD k []=[]:=by
  rw [List.getD_eq_getElem?_getD,List.getElem?_replicate]
  split<;>rfl
 rw [this,List.nil_append]
theorem ao9 {cs:List Cd}{gs:List Ch}{k:Nat}:∀r∈jH cs gs k,ajN r:=fun _ hr=>⟨(row_mem hr).1,fun m hm=>((row_mem hr).2.1 m hm).1⟩
theorem Ez {al:List Int}{rows:List Rw}:(SM al rows).length=rows.length:=by rw [SM,Il,List.length_replicate]
theorem alZ {al:List Int}{rows:List Rw}{k:Nat}(hk:k<rows.length):(SM al rows).getD k 0=smA al (su rows k).2:=by
 rw [SM,aaA (Int.le_refl _) (by simpa using hk),if_pos (by omega),Int.sub_zero]
 simp [List.getD,hk]
theorem Eb {od:List Int}{n i:Int}(h:nC od n=true) (hi:i∈od):0≤i∧i<n:=by
 unfold nC at h
 simp only [Bool.and_eq_true,List.all_eq_true] at h
 exact Am.1 (h.2.1 i hi)
theorem aCQ {cs:List Cd}{os:List ByteArray}{ks:List Ko}{gs:List Ch}{bs:List Ba}{al mo od:List Int}(h:sQ cs os ks gs bs al mo od=true):OkT (OL (jH cs gs cs.length)) (jH cs gs cs.length) gs al mo od∧OkS (jH cs gs cs.length) od (SM al (jH cs gs cs.length)) (List.replicate al.length 0):=by
 obtain ⟨hv,h1,h2,h3,h4,h5⟩:=jG.1 h
 have hl:=(fG.1 hv).1
 have ha:∀a∈al,0≤a∧a≤80:=fun a ha=>oZ.1 (List.all_eq_true.1 h3 a ha)
 refine ⟨⟨EC,fun i hi=>?_,ha,fun a ha=>oZ.1 (List.all_eq_true.1 h4 a ha),fun i hi=>?_,fun o ho=>?_,fun r hr=>?_⟩,⟨Ez,fun k=>?_,fun i hi=>?_,fun k=>?_⟩⟩
 ·have:=Eb h5 hi
  omega
 ·have hi:=Eb h5 hi
  have:=qE hv hi.1 hi.2
  unfold GV chW at this
  simp only [Bool.and_eq_true,dV] at this
  exact fZ.2 (by omega)
 ·obtain ⟨k,hk,rfl⟩:=List.mem_iff_getElem.1 ho
  rw [EC] at hk
  have e:=aao (rows:=jH cs gs cs.length) ao9 hk
  rw [List.getD_eq_getElem?_getD,List.getElem?_eq_getElem (by rw [EC];exact hk),Option.getD_some] at e
  rw [e]
  have hln:=abQ (rs:=jH cs gs cs.length) (i:=0) (j:=k)
  have hrn:=Ak (cs:=cs) (gs:=gs) (k:=cs.length)
  refine ⟨yx,by omega,fun r hr=>?_⟩
  have:=uQ.1 hr
  omega
 ·obtain ⟨c,p,hc,hp,rfl,_⟩:=Iz hr
  have hcv:=Uy hv hc.1 hc.2
  unfold Fb at hcv
  simp only [Bool.and_eq_true,dV] at hcv
  have:=aq1 (c:=dY cs c)
  simp only
  omega
 ·by_cases hk:k<(jH cs gs cs.length).length
  ·rw [alZ hk]
   have hr:su (jH cs gs cs.length) (k:Int)∈jH cs gs cs.length:=by rw [Ei (by simpa using hk)];exact List.getElem_mem _
   obtain ⟨m1,m2,m3,_⟩:=row_mem hr
   have:=agT ha (l:=(su (jH cs gs cs.length) (k:Int)).2) (fun m hm=>by have:=m2 m hm;omega)
   omega
  ·rw [List.getD_eq_getElem?_getD,List.getElem?_eq_none (by rw [Ez];omega)]
   simp
 ·have:=Eb h5 hi
  rw [List.length_replicate]
  omega
 ·have:(List.replicate al.length (0:Int)).getD k 0=0:=by
   simp only [List.getD,List.getElem?_replicate]
   split<;>rfl
  rw [this]
  omega
theorem abq {xs:List Int}{r:Nat}{v:Int}:(xs++List.replicate (r+1) 0).set xs.length v=xs++[v]++List.replicate r 0:=by
 rw [List.set_append_right _ _ (Nat.le_refl _),Nat.sub_self,List.replicate_succ,List.set_cons_zero,List.append_assoc,List.singleton_append]
def Zt (gs:List Ch) (lv:List Int) (n:Nat):List Int:=(List.range n).map (fun k:Nat=>yM gs (k:Int) (lv.getD k 0))
theorem af7 {gs:List Ch}{lv:List Int}{n:Nat}:Zt gs lv (n+1)=Zt gs lv n++[yM gs (n:Int) (lv.getD n 0)]:=by
 simp [Zt,List.range_succ]
theorem xw {gs:List Ch}{lv:List Int}{n:Nat}:(Zt gs lv n).length=n:=by simp [Zt]
end Go.Proofs.YtlihnbimgclogaaGreatDoor
namespace Go.Proofs.YtlihnbimgclogaaGreatDoor
open Go.Sx
theorem ntW {b:Bool}(h:(!b)=true):b=false:=by cases b<;>simp_all
theorem LJ {b:Bool}(h:(!b)=false):b=true:=by cases b<;>simp_all
def wt (n:Int):Int:=(n*1000000+999799) / 999800
def wtA (n:Int):Int:=if inB n 0 1000000=true then wt n else 0
def wtE (n:Int):Int:=if inB n 0 1000000=true then 0 else 1
theorem agt {m n:Int}:m*999800 / 1000000≥n↔wt n≤m:=by
 unfold wt
 omega
theorem aG2 {a b:Int}(a0:0≤a) (a1:a≤3000000) (b0:0≤b) (b1:b≤1000000):0≤a*b∧a*b≤3000000000000:=
 ⟨Int.mul_nonneg a0 b0,Int.le_trans (Int.mul_le_mul_of_nonneg_left b1 a0) (by omega)⟩
theorem asO {n:Int}(h0:0≤n):0≤wt n∧wt n≤2*n+2:=by
 unfold wt
 omega
abbrev iV:Ty:=.pair (.int .i64) (.pair (.int .i64) (.pair (.int .i64) (.pair (.int .i64) (.int .i64))))
abbrev Le:=Int×Int×Int×Int×Int
def gU (l:List Le) (n:Int):Le:=l.getD n.toNat (0,0,0,0,0)
def Ls (x:Le):Bool:=inB x.1 1 1000000&&(inB x.2.1 0 15&&(inB x.2.2.1 0 80&&(inB x.2.2.2.1 0 1000000&&inB x.2.2.2.2 1 1000)))
def Bf (b x:Le):Bool:=decide (x.1>b.1)&&decide (x.2.2.2.1≥b.2.2.2.1)
def jQ (l:List Le) (j:Int):Bool:=Ls (gU l j)&&(decide (j=0) ||Bf (gU l (j-1)) (gU l j))
def gJ (l:List Le):Bool:=decide (l.length≤64)&&Lr l.length (jQ l)
theorem vC {l:List Le}{n:Int}(h:n.toNat<l.length):gU l n=l[n.toNat]:=wV h
theorem wZ {l:List Le}{i:Int}(h0:0≤i) (h:i<l.length):l.drop i.toNat=gU l i::l.drop (i+1).toNat∧l.take (i+1).toNat=l.take i.toNat++[gU l i]:=vg h0 h
theorem yD {l:List Le}{i:Int}(h0:0≤i) (h:i<l.length):gU l i∈l:=by
 rw [vC (by omega)]
 exact List.getElem_mem _
theorem AO {x:Le}:Ls x=true↔(1≤x.1∧x.1≤1000000)∧(0≤x.2.1∧x.2.1≤15)∧(0≤x.2.2.1∧x.2.2.1≤80)∧(0≤x.2.2.2.1∧x.2.2.2.1≤1000000)∧1≤x.2.2.2.2∧x.2.2.2.2≤1000:=by
 unfold Ls
 simp only [Bool.and_eq_true,dV]
theorem jI {l:List Le}(h:gJ l=true):l.length≤64∧∀x∈l,Ls x=true:=by
 unfold gJ at h
 rw [Bool.and_eq_true] at h
 refine ⟨of_decide_eq_true h.1,fun x hx=>?_⟩
 obtain ⟨k,hk,rfl⟩:=List.mem_iff_getElem.1 hx
 have:=fU.1 h.2 k (by omega)
 unfold jQ at this
 rw [Bool.and_eq_true,vC (by simpa using hk)] at this
 simpa using this.1
def VB (x:Le):Int:=x.2.2.2.1+10+wt x.2.2.2.2
def af2 (t:Int) (x:Le):Bool:=decide (VB x>t)
def Bj (l:List Le) (t:Int):Bool:=gJ l&&inB t 0 1100000
def JJ (l:List Le) (t:Int):List Le:=if Bj l t=true then l.filter (af2 t) else []
def af0 (l:List Le) (t:Int):Int:=if Bj l t=true then 0 else 1
def AV (l:List Le) (x:Le):Int:=if (gJ l&&Ls x)=true then (if (decide (l.length>0)&&!Bf (gU l ((l.length:Int)-1)) x)=true then 12 else if l.length=64 then 10 else 0) else 1
def Ru (l:List Le) (x:Le):List Le:=if AV l x=0 then l++[x] else []
end Go.Proofs.YtlihnbimgclogaaGreatDoor
namespace Go.Proofs.YtlihnbimgclogaaGreatDoor
open Go.Sx
def NE (ph mn mx st fb:Int):Bool:=inB ph 1 7&&(inB mn 1 80&&(inB mx 1 80&&(inB st 1 80&&(decide (mn≤mx)&&(fb==0 ||inB fb mn mx)))))
theorem Hw {ph mn mx st fb:Int}:NE ph mn mx st fb=true↔1≤ph∧ph≤7∧1≤mn∧mn≤80∧1≤mx∧mx≤80∧1≤st∧st≤80∧mn≤mx∧(fb=0∨(mn≤fb∧fb≤mx)):=by
 simp [NE,inB];omega
def lV (mn mx st a:Int):Int:=if a<mn then 0 else min a mx-(min a mx-mn) %st
theorem vG {x s:Int}(hx:0≤x) (hs:1≤s):0≤x%s∧x%s≤x∧x%s<s:=by
 have h1:=Int.mul_ediv_add_emod x s
 have h2:0≤x / s:=Int.ediv_nonneg hx (by omega)
 have h3:0≤s*(x / s):=Int.mul_nonneg (by omega) h2
 have h4:=Int.emod_nonneg x (b:=s) (by omega)
 have h5:=Int.emod_lt_of_pos x (b:=s) (by omega)
 omega
theorem qK {mn mx st a:Int}(h1:1≤mn) (h2:mn≤mx) (h3:mx≤80) (h4:1≤st):0≤lV mn mx st a∧lV mn mx st a≤80∧(a<mn→lV mn mx st a=0)∧(mn≤a→mn≤lV mn mx st a∧lV mn mx st a≤a∧lV mn mx st a≤mx):=by
 unfold lV
 split
 ·omega
 ·have e1:=vG (x:=min a mx-mn) (s:=st) (by omega) h4
  omega
def vU (mn mx st:Int):Prop:=1≤mn∧mn≤mx∧mx≤80∧1≤st∧st≤80
theorem Ze {ph mn mx st fb:Int}(h:NE ph mn mx st fb=true):vU mn mx st:=by
 rw [Hw] at h;unfold vU;omega
def LH (ph mn mx st fb a s:Int):Bool:=NE ph mn mx st fb&&(decide (0≤s)&&(decide (s≤1000000)&&(decide (0≤a)&&(lV mn mx st a==a))))
def okB (ph mn mx st fb a s want:Int):Bool:=LH ph mn mx st fb a s&&(decide (0≤want)&&decide (want≤80))
def nE (ph mn mx st fb a s want:Int):Int:=if okB ph mn mx st fb a s want then 0 else 1
def nA (ph mn mx st fb a s want:Int):Int:=
 if okB ph mn mx st fb a s want then (if a=0 then (if lV mn mx st want≠0∧5≤s then mn else 0) else if lV mn mx st want=0 then 0 else min (lV mn mx st want) (a+st)) else 0
def nS (ph mn mx st fb a s want:Int):Int:=
 if okB ph mn mx st fb a s want then (if a=0 then (if lV mn mx st want≠0∧5≤s then 0 else min (s+1) 1000000) else if lV mn mx st want=0 then 0 else min (s+1) 1000000) else 0
theorem ab2 (x y:Int):(if y<x then y else x)=min x y:=by omega
theorem az7 {mn mx st am:Int}(h:am<mn):0=lV mn mx st am:=by rw [lV,if_pos h]
theorem az6 {mn mx st am:Int}(hc:vU mn mx st) (h:mn≤am):IntKind.i64.wrap ((if mx<am then mx else am)-(IntKind.i64.wrap ((if mx<am then mx else am)-mn)).tmod st)=lV mn mx st am:=by
 unfold vU at hc
 rw [ab2]
 have e1:=vG (x:=min am mx-mn) (s:=st) (by omega) (by omega)
 rw [aN (x:=min am mx-mn) (by omega) (by omega),Int.tmod_eq_emod_of_nonneg (by omega),aN (by omega) (by omega),lV,if_neg (by omega)]
theorem aGZ {ph mn mx st fb a s:Int}(h:((!NE ph mn mx st fb) ||(decide (s<0) ||(decide (s>1000000) ||decide (a<0))))=true):false=LH ph mn mx st fb a s:=by
 cases hr:LH ph mn mx st fb a s
 ·rfl
 ·simp [LH] at hr h
  rw [hr.1] at h
  simp at h
  omega
theorem aCG {ph mn mx st fb a s:Int}(h:((!NE ph mn mx st fb) ||(decide (s<0) ||(decide (s>1000000) ||decide (a<0))))=false):vU mn mx st∧(lV mn mx st a==a)=LH ph mn mx st fb a s:=by
 simp at h
 obtain ⟨h1,h2,h3,h4⟩:=h
 exact ⟨Ze h1,by simp [LH,h1,h2,h3,h4]⟩
theorem abO {ph mn mx st fb a s want:Int}(h:okB ph mn mx st fb a s want=true):(!LH ph mn mx st fb a s ||(decide (want<0) ||decide (want>80)))=false∧vU mn mx st∧(0≤s∧s≤1000000)∧(0≤want∧want≤80)∧0≤a∧a≤80∧1≤st∧st≤80:=by
 simp only [okB,LH,Bool.and_eq_true,decide_eq_true_eq,beq_iff_eq] at h
 obtain ⟨⟨h1,h2,h3,h4,h5⟩,h6,h7⟩:=h
 have hc:=Ze h1
 have hc':=hc
 unfold vU at hc'
 have:=qK (a:=a) hc'.1 hc'.2.1 hc'.2.2.1 hc'.2.2.2.1
 refine ⟨?_,hc,⟨h2,h3⟩,⟨h6,h7⟩,h4,by omega,hc'.2.2.2.1,hc'.2.2.2.2⟩
 simp [LH,h1,h2,h3,h4,h5];omega
theorem apx {ph mn mx st fb a s want:Int}(h:¬okB ph mn mx st fb a s want=true):(!LH ph mn mx st fb a s ||(decide (want<0) ||decide (want>80)))=true:=by
 cases hr:LH ph mn mx st fb a s
 ·rfl
 ·simp [okB,hr] at h⊢;omega
theorem aGY {ph mn mx st fb:Int}(h:(decide (ph<1) ||(decide (ph>7) ||(decide (mn<1) ||(decide (mx>80) ||(decide (mn>mx) ||(decide (st<1) ||decide (st>80)))))))=true):false=NE ph mn mx st fb:=by
 cases hc:NE ph mn mx st fb
 ·rfl
 ·rw [Hw] at hc;simp at h;omega
theorem aGX {ph mn mx st fb:Int}(h:(decide (ph<1) ||(decide (ph>7) ||(decide (mn<1) ||(decide (mx>80) ||(decide (mn>mx) ||(decide (st<1) ||decide (st>80)))))))=false):(fb==0 ||(decide (fb≥mn)&&decide (fb≤mx)))=NE ph mn mx st fb:=by
 simp at h
 cases hc:NE ph mn mx st fb
 ·cases hf:(fb==0 ||(decide (fb≥mn)&&decide (fb≤mx)))
  ·rfl
  ·have:NE ph mn mx st fb=true:=Hw.2 (by simp at hf;omega)
   rw [this] at hc;cases hc
 ·rw [Hw] at hc;simp;omega
def Q9 (mn mx st am lv x:Int):Prop:=
 vU mn mx st∧mn≤x∧x≤mx+st∧(x-mn) %st=0∧((lv=0∧(x=mn∨am<mn))∨(mn≤lv∧lv≤am∧lv+st≤x∧(lv-mn) %st=0∧(lv+st=x∨am<lv+st)))
theorem YJ {mn mx st am:Int}(h:vU mn mx st):Q9 mn mx st am 0 mn:=by
 unfold Q9
 refine ⟨h,Int.le_refl _,by unfold vU at h;omega,by simp,.inl ⟨rfl,.inl rfl⟩⟩
theorem afQ {mn mx st am lv x:Int}(h:Q9 mn mx st am lv x) (hx:x≤mx):Q9 mn mx st am (if x≤am then x else lv) (x+st):=by
 unfold Q9 at h⊢
 obtain ⟨h1,h2,h3,h4,h5⟩:=h
 have e:(x+st-mn) %st=0:=by rw [show x+st-mn=(x-mn)+st by omega,Int.add_emod_right];exact h4
 have h1':=h1
 unfold vU at h1'
 refine ⟨h1,by omega,by omega,e,?_⟩
 split
 ·exact .inr ⟨h2,by omega,by omega,h4,.inl rfl⟩
 ·rcases h5 with h5|h5
  ·refine .inl ⟨h5.1,.inr (by omega)⟩
  ·exact .inr ⟨h5.1,h5.2.1,by omega,h5.2.2.2.1,.inr (by omega)⟩
theorem aj0 {mn mx st am lv x:Int}(h:Q9 mn mx st am lv x) (hx:mx<x):lv=lV mn mx st am:=by
 unfold Q9 vU at h
 obtain ⟨h1,h2,h3,h4,h5⟩:=h
 unfold lV
 rcases h5 with ⟨h5,h6⟩ |⟨h5,h6,h7,h8,h9⟩
 ·rw [if_pos (by omega)];exact h5
 ·rw [if_neg (by omega)]
  have e:(min am mx-mn) %st=min am mx-lv:=by
   rw [show min am mx-mn=(min am mx-lv)+(lv-mn) by omega,Int.add_emod,h8,Int.add_zero,Int.emod_emod_of_dvd _ (Int.dvd_refl _)]
   exact Int.emod_eq_of_lt (by omega) (by omega)
  rw [e];omega
end Go.Proofs.YtlihnbimgclogaaGreatDoor
namespace Go.Proofs.YtlihnbimgclogaaGreatDoor
open Go.Sx
def YT:Nat→Int
 |0=>1
 |1=>1
 |2=>1
 |3=>0
 |4=>2
 |5=>2
 |_=>3
def aS:cO:=fun
 |0=>some (8,fun j=> .int .i64 (YT j))
 |_=>none
end Go.Proofs.YtlihnbimgclogaaGreatDoor
namespace Go.Proofs.YtlihnbimgclogaaGreatDoor
open Go.Sx
def NQ:List LV→T LV
 | [.v (.int .i64 n),.v (.int .i64 a),.v (.int .i64 b)]=> .ok (.v (.bool (inB n a b)))
 |_=> .no
noncomputable def xG:List LV→T LV:=gZ Tryz.prog Tryz.f140.params.toList NQ
noncomputable def y5:Specs:=bf []
theorem AX:∀g S,y5 g=some S→Valid Tryz.prog aS g S:=aT (l:=[]) trivial
theorem afL (n a b:Int):bW Tryz.prog aS (y5) fE aC Tryz.f140 [.v (.int .i64 n),.v (.int .i64 a),.v (.int .i64 b)]=.ok (.v (.bool ((decide (n≥a))&&(decide (n≤b))))):=by kernel_rfl
theorem TF:Valid Tryz.prog aS 140 xG:=aI Tryz.func140 rfl AX aG (aY (by kernel_rfl)) (fun args lv h=>by
 unfold NQ at h
 split at h
 ·simp only [canL,canX]
  rw [afL]
  exact h
 ·cases h)
def al1:List LV→T LV
 | [.v (.agg ⟨[.string _,.int .i64 _,.int .i64 ph,.int .i64 mn,.int .i64 mx,.int .i64 st,.int .i64 fb,.int .i64 _]⟩)]=> .ok (.v (.bool (NE ph mn mx st fb)))
 |_=> .no
noncomputable def alM:List LV→T LV:=gZ Tryz.prog Tryz.f139.params.toList al1
noncomputable def auq:Specs:=bf [(140,xG)]
theorem aDJ:∀g S,auq g=some S→Valid Tryz.prog aS g S:=aT (l:=[(140,xG)]) ⟨TF,trivial⟩
theorem ayr (nm:ByteArray) (at_ ph mn mx st fb ow:Int):bW Tryz.prog aS (auq) fE aC Tryz.f139 [.v (.agg #[.string nm,.int .i64 at_,.int .i64 ph,.int .i64 mn,.int .i64 mx,.int .i64 st,.int .i64 fb,.int .i64 ow])]=.ok (.v (.bool ((inB ph (1:Int) (7:Int))&&((inB mn (1:Int) (80:Int))&&((inB mx (1:Int) (80:Int))&&((inB st (1:Int) (80:Int))&&((decide (mn≤mx))&&((fb==0) ||(inB fb mn mx))))))))):=by kernel_rfl
theorem aBE:Valid Tryz.prog aS 139 alM:=aI Tryz.func139 rfl aDJ aG (aY (by kernel_rfl)) (fun args lv h=>by
 unfold al1 at h
 split at h
 ·simp only [canL,canX]
  rw [ayr]
  exact h
 ·cases h)
def Ws:List LV→T LV
 | []=> .ok (.v (.agg #[.int .i64 0,.int .i64 0,.int .i64 0,.bool false]))
 |_=> .no
noncomputable def Dw:List LV→T LV:=gZ Tryz.prog Tryz.f114.params.toList Ws
theorem ajz  :bW Tryz.prog aS (y5) fE aC Tryz.f114 []=.ok (.v (.agg #[.int .i64 0,.int .i64 0,.int .i64 0,.bool false])):=by kernel_rfl
theorem aaw:Valid Tryz.prog aS 114 Dw:=aI Tryz.func114 rfl AX aG (aY (by kernel_rfl)) (fun args lv h=>by
 unfold Ws at h
 split at h
 ·simp only [canL]
  rw [ajz]
  exact h
 ·cases h)
def amj:List LV→T LV
 | [.v (.agg ⟨[.string _,.int .i64 _,.int .i64 ph,.int .i64 mn,.int .i64 mx,.int .i64 st,.int .i64 fb,.int .i64 _]⟩),.v (.agg ⟨[.int .i64 0,.int .i64 0,.int .i64 0,.bool false]⟩)]=> .ok (.v (.bool (NE ph mn mx st fb)))
 |_=> .no
noncomputable def alY:List LV→T LV:=gZ Tryz.prog Tryz.f113.params.toList amj
noncomputable def aup:Specs:=bf [(114,Dw),(139,alM),(140,xG)]
theorem aDI:∀g S,aup g=some S→Valid Tryz.prog aS g S:=aT (l:=[(114,Dw),(139,alM),(140,xG)]) ⟨aaw,aBE,TF,trivial⟩
theorem ayJ (nm:ByteArray) (at_ ph mn mx st fb ow:Int):bW Tryz.prog aS (aup) fE aC Tryz.f113 [.v (.agg #[.string nm,.int .i64 at_,.int .i64 ph,.int .i64 mn,.int .i64 mx,.int .i64 st,.int .i64 fb,.int .i64 ow]),.v (.agg #[.int .i64 0,.int .i64 0,.int .i64 0,.bool false])]=.br (!(NE ph mn mx st fb)) (.ok (.v (.bool false))) (.br (((0:Int)==0)&&(((0:Int)==0)&&(((0:Int)==0)&&(false==false)))) (.ok (.v (.bool true))) (.ok (.v (.bool ((inB (0:Int) (0:Int) (5:Int))&&((inB (0:Int) (0:Int) (1000000:Int))&&((inB (0:Int) (0:Int) mx)&&(if (0:Int) !=0 then (!false) ||((0:Int)==5) else ((0:Int)==0)&&((!false) ||((0:Int)==5)))))))))):=by kernel_rfl
theorem aBQ:Valid Tryz.prog aS 113 alY:=aI Tryz.func113 rfl aDI aG (aY (by kernel_rfl)) (fun args lv h=>by
 unfold amj at h
 split at h
 ·simp only [canL,canX]
  rw [ayJ]
  obtain rfl:=h
  refine ⟨fun hb=>?_,fun hb=>⟨fun _=>?_,fun hf=>absurd hf (by decide)⟩⟩
  ·show LV.v (.bool false)=_
   rw [show NE _ _ _ _ _=false by simpa using hb]
  ·show LV.v (.bool true)=_
   rw [show NE _ _ _ _ _=true by simpa using hb]
 ·cases h)
def ad9:List LV→T LV
 | [.v (.agg ⟨[.string _,.int .i64 _,.int .i64 _,.int .i64 mn,.int .i64 mx,.int .i64 st,.int .i64 _,.int .i64 _]⟩),.v (.int .i64 am)]=> .req (vU mn mx st) (.ok (.v (.int .i64 (lV mn mx st am))))
 |_=> .no
noncomputable def J7:List LV→T LV:=gZ Tryz.prog Tryz.f73.params.toList ad9
theorem ap7 (nm:ByteArray) (at_ ph mn mx st fb ow am:Int):bW Tryz.prog aS (y5) fE aC Tryz.f73 [.v (.agg #[.string nm,.int .i64 at_,.int .i64 ph,.int .i64 mn,.int .i64 mx,.int .i64 st,.int .i64 fb,.int .i64 ow]),.v (.int .i64 am)]=.br (decide (am<mn)) (.ok (.v (.int .i64 0))) (.req (st≠0) (.ok (.v (.int .i64 (IntKind.i64.wrap ((if mx<am then mx else am)-((IntKind.i64.wrap ((if mx<am then mx else am)-mn)).tmod st))))))):=by kernel_rfl
theorem agD:Valid Tryz.prog aS 73 J7:=aI Tryz.func73 rfl AX aG (aY (by kernel_rfl)) (fun args lv h=>by
 unfold ad9 at h
 split at h
 ·simp only [canL,canX]
  rw [ap7]
  obtain ⟨hc,rfl⟩:=h
  refine ⟨fun hb=>?_,fun hb=>⟨by unfold vU at hc;omega,?_⟩⟩
  ·exact congrArg (fun z=>LV.v (.int .i64 z)) (az7 (by simpa using hb))
  ·exact congrArg (fun z=>LV.v (.int .i64 z)) (az6 hc (by simpa using hb))
 ·cases h)
def al5:List LV→T LV
 | [.v (.agg ⟨[.string _,.int .i64 _,.int .i64 ph,.int .i64 mn,.int .i64 mx,.int .i64 st,.int .i64 fb,.int .i64 _]⟩),.v (.agg ⟨[.int .i64 a,.int .i64 si]⟩)]=> .ok (.v (.bool (LH ph mn mx st fb a si)))
 |_=> .no
noncomputable def Wj:List LV→T LV:=gZ Tryz.prog Tryz.f69.params.toList al5
noncomputable def auo:Specs:=bf [(73,J7),(113,alY),(114,Dw)]
theorem aDH:∀g S,auo g=some S→Valid Tryz.prog aS g S:=aT (l:=[(73,J7),(113,alY),(114,Dw)]) ⟨agD,aBQ,aaw,trivial⟩
theorem ayv (nm:ByteArray) (at_ ph mn mx st fb ow a si:Int):bW Tryz.prog aS (auo) fE aC Tryz.f69 [.v (.agg #[.string nm,.int .i64 at_,.int .i64 ph,.int .i64 mn,.int .i64 mx,.int .i64 st,.int .i64 fb,.int .i64 ow]),.v (.agg #[.int .i64 a,.int .i64 si])]=.br ((!(NE ph mn mx st fb)) ||((decide (si<0)) ||((decide (si>1000000)) ||(decide (a<0))))) (.ok (.v (.bool false))) (.req (vU mn mx st) (.ok (.v (.bool ((lV mn mx st a)==a))))):=by kernel_rfl
theorem asQ:Valid Tryz.prog aS 69 Wj:=aI Tryz.func69 rfl aDH aG (aY (by kernel_rfl)) (fun args lv h=>by
 unfold al5 at h
 split at h
 ·simp only [canL,canX]
  rw [ayv]
  obtain rfl:=h
  refine ⟨fun hb=>?_,fun hb=>⟨?_,?_⟩⟩
  ·exact congrArg (fun z=>LV.v (.bool z)) (aGZ hb)
  ·exact (aCG hb).1
  ·exact congrArg (fun z=>LV.v (.bool z)) (aCG hb).2
 ·cases h)
def WC:List LV→T LV
 | [.v (.bool b)]=> .ok (.v (.int .i64 (if b then (1:Int) else 0)))
 |_=> .no
noncomputable def SS:List LV→T LV:=gZ Tryz.prog Tryz.f78.params.toList WC
theorem ajG (b:Bool):bW Tryz.prog aS (y5) fE aC Tryz.f78 [.v (.bool b)]=.br b (.ok (.v (.int .i64 1))) (.ok (.v (.int .i64 0))):=by kernel_rfl
theorem anJ:Valid Tryz.prog aS 78 SS:=aI Tryz.func78 rfl AX aG (aY (by kernel_rfl)) (fun args lv h=>by
 unfold WC at h
 split at h
 ·simp only [canL,canX]
  rw [ajG]
  rename_i b
  obtain rfl:=h
  cases b
  ·exact ⟨fun hb=>(by cases hb),fun _=>rfl⟩
  ·exact ⟨fun _=>rfl,fun hb=>(by cases hb)⟩
 ·cases h)
def ama:List LV→T LV
 | [.xq 8 q0]=>(match ([q0 0,q0 1,q0 2,q0 3,q0 4,q0 5,q0 6,q0 7]:List LV) with
  | [.v (.string _),.v (.int .i64 _),.v (.int .i64 _),.v (.int .i64 mn),.v (.int .i64 _),.v (.int .i64 _),.v (.int .i64 _),.v (.int .i64 _)]=> .ok (.v (.agg #[.int .i64 mn,.int .i64 0]))
  |_=> .no)
 |_=> .no
noncomputable def alU:List LV→T LV:=gZ Tryz.prog Tryz.f74.params.toList ama
theorem ayA (nm:ByteArray) (at_ ph mn mx st fb ow:Int):bW Tryz.prog aS (y5) fE aC Tryz.f74 [.xq 8 (fun j=>([.v (.string nm),.v (.int .i64 at_),.v (.int .i64 ph),.v (.int .i64 mn),.v (.int .i64 mx),.v (.int .i64 st),.v (.int .i64 fb),.v (.int .i64 ow)]:List LV).getD j .junk)]=.ok (.v (.agg #[.int .i64 mn,.int .i64 0])):=by kernel_rfl
theorem aBM:Valid Tryz.prog aS 74 alU:=aI Tryz.func74 rfl AX aG (aY (by kernel_rfl)) (fun args lv h=>by
 unfold ama at h
 split at h
 ·split at h
  case h_2=>cases h
  rename_i heq0
  simp only [canL,canX]
  rw [pM (n:=8) heq0]
  simp only [canL,canX]
  rw [ayA]
  exact h
 ·cases h)
def al9:List LV→T LV
 | [.xq 1 q0]=>(match ([q0 0]:List LV) with
  | [.v (.int .i64 lo)]=> .ok (.v (.agg #[.int .i64 0,.int .i64 lo]))
  |_=> .no)
 |_=> .no
noncomputable def alT:List LV→T LV:=gZ Tryz.prog Tryz.f75.params.toList al9
theorem ayz (lo:Int):bW Tryz.prog aS (y5) fE aC Tryz.f75 [.xq 1 (fun j=>([.v (.int .i64 lo)]:List LV).getD j .junk)]=.ok (.v (.agg #[.int .i64 0,.int .i64 lo])):=by kernel_rfl
theorem aBL:Valid Tryz.prog aS 75 alT:=aI Tryz.func75 rfl AX aG (aY (by kernel_rfl)) (fun args lv h=>by
 unfold al9 at h
 split at h
 ·split at h
  case h_2=>cases h
  rename_i heq0
  simp only [canL,canX]
  rw [pM (n:=1) heq0]
  simp only [canL,canX]
  rw [ayz]
  exact h
 ·cases h)
def al8:List LV→T LV
 | []=> .ok (.v (.agg #[.int .i64 0,.int .i64 0]))
 |_=> .no
noncomputable def alS:List LV→T LV:=gZ Tryz.prog Tryz.f76.params.toList al8
theorem ayy  :bW Tryz.prog aS (y5) fE aC Tryz.f76 []=.ok (.v (.agg #[.int .i64 0,.int .i64 0])):=by kernel_rfl
theorem aBK:Valid Tryz.prog aS 76 alS:=aI Tryz.func76 rfl AX aG (aY (by kernel_rfl)) (fun args lv h=>by
 unfold al8 at h
 split at h
 ·simp only [canL]
  rw [ayy]
  exact h
 ·cases h)
def al7:List LV→T LV
 | [.xq 1 q0,.xq 2 q1,.xq 8 q2,.xq 1 q3]=>(match ([q0 0]:List LV) with
  | [.v (.int .i64 lv)]=>(match ([q1 0,q1 1]:List LV) with
  | [.v (.int .i64 a),.v (.int .i64 _)]=>(match ([q2 0,q2 1,q2 2,q2 3,q2 4,q2 5,q2 6,q2 7]:List LV) with
  | [.v (.string _),.v (.int .i64 _),.v (.int .i64 _),.v (.int .i64 _),.v (.int .i64 _),.v (.int .i64 st),.v (.int .i64 _),.v (.int .i64 _)]=>(match ([q3 0]:List LV) with
  | [.v (.int .i64 lo)]=> .ok (.v (.agg #[.int .i64 (if IntKind.i64.wrap (a+st)<lv then IntKind.i64.wrap (a+st) else lv),.int .i64 lo]))
  |_=> .no)
  |_=> .no)
  |_=> .no)
  |_=> .no)
 |_=> .no
noncomputable def alR:List LV→T LV:=gZ Tryz.prog Tryz.f77.params.toList al7
theorem ayx (lv a si:Int) (nm:ByteArray) (at_ ph mn mx st fb ow lo:Int):bW Tryz.prog aS (y5) fE aC Tryz.f77 [.xq 1 (fun j=>([.v (.int .i64 lv)]:List LV).getD j .junk),.xq 2 (fun j=>([.v (.int .i64 a),.v (.int .i64 si)]:List LV).getD j .junk),.xq 8 (fun j=>([.v (.string nm),.v (.int .i64 at_),.v (.int .i64 ph),.v (.int .i64 mn),.v (.int .i64 mx),.v (.int .i64 st),.v (.int .i64 fb),.v (.int .i64 ow)]:List LV).getD j .junk),.xq 1 (fun j=>([.v (.int .i64 lo)]:List LV).getD j .junk)]=.ok (.v (.agg #[.int .i64 (if (IntKind.i64.wrap (a+st))<lv then IntKind.i64.wrap (a+st) else lv),.int .i64 lo])):=by kernel_rfl
theorem aBJ:Valid Tryz.prog aS 77 alR:=aI Tryz.func77 rfl AX aG (aY (by kernel_rfl)) (fun args lv h=>by
 unfold al7 at h
 split at h
 ·split at h
  case h_2=>cases h
  rename_i heq0
  split at h
  case h_2=>cases h
  rename_i heq1
  split at h
  case h_2=>cases h
  rename_i heq2
  split at h
  case h_2=>cases h
  rename_i heq3
  simp only [canL,canX]
  rw [pM (n:=1) heq0]
  simp only [canL,canX]
  rw [pM (n:=2) heq1]
  simp only [canL,canX]
  rw [pM (n:=8) heq2]
  simp only [canL,canX]
  rw [pM (n:=1) heq3]
  simp only [canL,canX]
  rw [ayx]
  exact h
 ·cases h)
theorem aze {a l si:Int}:YT ((if (a !=0) then (1:Int) else 0).toNat*4+((if (l !=0) then (1:Int) else 0).toNat*2+((if (decide (si≥5)) then (1:Int) else 0).toNat*1+0)))=if a=0 then (if l=0 then 1 else if 5≤si then 0 else 1) else if l=0 then 2 else 3:=by
 by_cases c1:a=0<;>by_cases c2:l=0<;>by_cases c3:5≤si<;>simp [c1,c2,c3,YT]
def aek:List LV→T LV
 | [.v (.agg ⟨[.string _,.int .i64 _,.int .i64 ph,.int .i64 mn,.int .i64 mx,.int .i64 st,.int .i64 fb,.int .i64 _]⟩),.v (.agg ⟨[.int .i64 a,.int .i64 si]⟩),.v (.int .i64 want)]=> .ok (.v (.tuple #[.agg #[.int .i64 (nA ph mn mx st fb a si want),.int .i64 (nS ph mn mx st fb a si want)],.int .i64 (nE ph mn mx st fb a si want)]))
 |_=> .no
noncomputable def ZT:List LV→T LV:=gZ Tryz.prog Tryz.f37.params.toList aek
noncomputable def aun:Specs:=bf [(69,Wj),(73,J7),(74,alU),(75,alT),(76,alS),(77,alR),(78,SS)]
theorem aDG:∀g S,aun g=some S→Valid Tryz.prog aS g S:=aT (l:=[(69,Wj),(73,J7),(74,alU),(75,alT),(76,alS),(77,alR),(78,SS)]) ⟨asQ,agD,aBM,aBL,aBK,aBJ,anJ,trivial⟩
theorem aqi (nm:ByteArray) (at_ ph mn mx st fb ow a si want:Int):bW Tryz.prog aS (aun) fE aC Tryz.f37 [.v (.agg #[.string nm,.int .i64 at_,.int .i64 ph,.int .i64 mn,.int .i64 mx,.int .i64 st,.int .i64 fb,.int .i64 ow]),.v (.agg #[.int .i64 a,.int .i64 si]),.v (.int .i64 want)]=.br ((!(LH ph mn mx st fb a si)) ||((decide (want<0)) ||(decide (want>80)))) (.ok (.v (.tuple #[.agg #[.int .i64 0,.int .i64 0],.int .i64 1]))) (.req (vU mn mx st) (.req (0≤(if (a !=0) then (1:Int) else 0)∧(if (a !=0) then (1:Int) else 0)<(2:Int)) (.req (0≤(if ((lV mn mx st want) !=0) then (1:Int) else 0)∧(if ((lV mn mx st want) !=0) then (1:Int) else 0)<(2:Int)) (.req (0≤(if (decide (si≥5)) then (1:Int) else 0)∧(if (decide (si≥5)) then (1:Int) else 0)<(2:Int)) (.br ((YT ((if (a !=0) then (1:Int) else 0).toNat*4+((if ((lV mn mx st want) !=0) then (1:Int) else 0).toNat*2+((if (decide (si≥5)) then (1:Int) else 0).toNat*1+0))))==0) (.ok (.v (.tuple #[.agg #[.int .i64 mn,.int .i64 0],.int .i64 0]))) (.br ((YT ((if (a !=0) then (1:Int) else 0).toNat*4+((if ((lV mn mx st want) !=0) then (1:Int) else 0).toNat*2+((if (decide (si≥5)) then (1:Int) else 0).toNat*1+0))))==1) (.ok (.v (.tuple #[.agg #[.int .i64 0,.int .i64 (if (1000000:Int)<(IntKind.i64.wrap (si+1)) then 1000000 else IntKind.i64.wrap (si+1))],.int .i64 0]))) (.br ((YT ((if (a !=0) then (1:Int) else 0).toNat*4+((if ((lV mn mx st want) !=0) then (1:Int) else 0).toNat*2+((if (decide (si≥5)) then (1:Int) else 0).toNat*1+0))))==2) (.ok (.v (.tuple #[.agg #[.int .i64 0,.int .i64 0],.int .i64 0]))) (.br ((YT ((if (a !=0) then (1:Int) else 0).toNat*4+((if ((lV mn mx st want) !=0) then (1:Int) else 0).toNat*2+((if (decide (si≥5)) then (1:Int) else 0).toNat*1+0))))==3) (.ok (.v (.tuple #[.agg #[.int .i64 (if IntKind.i64.wrap (a+st)<(lV mn mx st want) then IntKind.i64.wrap (a+st) else (lV mn mx st want)),.int .i64 (if (1000000:Int)<(IntKind.i64.wrap (si+1)) then 1000000 else IntKind.i64.wrap (si+1))],.int .i64 0]))) (.no))))))))):=by kernel_rfl
theorem av2:Valid Tryz.prog aS 37 ZT:=aI Tryz.func37 rfl aDG aG (aY (by kernel_rfl)) (fun args lv h=>by
 unfold aek at h
 split at h
 ·simp only [canL,canX]
  rw [aqi]
  rename_i nm at_ ph mn mx st fb ow a si want
  obtain rfl:=h
  by_cases hk:okB ph mn mx st fb a si want=true
  ·obtain ⟨k1,k2,k3,k4,k5⟩:=abO hk
   have w1:IntKind.i64.wrap (si+1)=si+1:=aN (by omega) (by omega)
   have w2:IntKind.i64.wrap (a+st)=a+st:=aN (by omega) (by omega)
   have i0:∀b:Bool,0≤(if b=true then (1:Int) else 0)∧(if b=true then (1:Int) else 0)<2:=fun b=>by cases b<;>simp
   simp only [T.all,nA,nS,nE,k1,w1,w2,hk,ab2,if_true,aze,i0,true_and]
   by_cases c1:a=0<;>by_cases c2:lV mn mx st want=0<;>by_cases c3:5≤si<;>simp [c1,c2,c3,k2]
  ·have hn:(!LH ph mn mx st fb a si ||(decide (want<0) ||decide (want>80)))=true:=apx hk
   simp only [T.all,nA,nS,nE,hk,hn]
   simp
 ·cases h)
def al4:List LV→T LV
 | [.v (.agg ⟨[.string _,.int .i64 _,.int .i64 ph,.int .i64 mn,.int .i64 mx,.int .i64 st,.int .i64 fb,.int .i64 _]⟩)]=> .ok (.v (.bool (NE ph mn mx st fb)))
 |_=> .no
noncomputable def alP:List LV→T LV:=gZ Tryz.prog Tryz.f91.params.toList al4
theorem ayu (nm:ByteArray) (at_ ph mn mx st fb ow:Int):bW Tryz.prog aS (y5) fE aC Tryz.f91 [.v (.agg #[.string nm,.int .i64 at_,.int .i64 ph,.int .i64 mn,.int .i64 mx,.int .i64 st,.int .i64 fb,.int .i64 ow])]=.br ((decide (ph<1)) ||((decide (ph>7)) ||((decide (mn<1)) ||((decide (mx>80)) ||((decide (mn>mx)) ||((decide (st<1)) ||(decide (st>80)))))))) (.ok (.v (.bool false))) (.ok (.v (.bool ((fb==0) ||((decide (fb≥mn))&&(decide (fb≤mx))))))):=by kernel_rfl
theorem aBH:Valid Tryz.prog aS 91 alP:=aI Tryz.func91 rfl AX aG (aY (by kernel_rfl)) (fun args lv h=>by
 unfold al4 at h
 split at h
 ·simp only [canL,canX]
  rw [ayu]
  obtain rfl:=h
  refine ⟨fun hb=>?_,fun hb=>?_⟩
  ·exact congrArg (fun z=>LV.v (.bool z)) (aGY hb)
  ·exact congrArg (fun z=>LV.v (.bool z)) (aGX hb)
 ·cases h)
end Go.Proofs.YtlihnbimgclogaaGreatDoor
namespace Go.Proofs.YtlihnbimgclogaaGreatDoor
open Go.Sx
def al6:List LV→T LV
 | [.v (.agg ⟨[.int .i64 nu,.int .i64 co,.int .i64 am,.int .i64 fr,.int .i64 tk]⟩)]=> .ok (.v (.bool (Ls (nu,co,am,fr,tk))))
 |_=> .no
noncomputable def alQ:List LV→T LV:=gZ Tryz.prog Tryz.f90.params.toList al6
noncomputable def RH:Specs:=bf []
theorem Y1:∀g S,RH g=some S→Valid Tryz.prog aS g S:=aT (l:=[]) trivial
theorem ayw (nu co am fr tk:Int):bW Tryz.prog aS (RH) fE aC Tryz.f90 [.v (.agg #[.int .i64 nu,.int .i64 co,.int .i64 am,.int .i64 fr,.int .i64 tk])]=.ok (.v (.bool ((decide (nu≥1))&&((decide (nu≤1000000))&&((decide (co≥0))&&((decide (co<16))&&((decide (am≥0))&&((decide (am≤80))&&((decide (fr≥0))&&((decide (fr≤1000000))&&((decide (tk≥1))&&(decide (tk≤1000))))))))))))):=by kernel_rfl
theorem aBI:Valid Tryz.prog aS 90 alQ:=aI Tryz.func90 rfl Y1 aG (aY (by kernel_rfl)) (fun args lv h=>by
 unfold al6 at h
 split at h
 ·simp only [canL,canX]
  rw [ayw]
  obtain rfl:=h
  refine congrArg (fun z=>LV.v (.bool z)) ?_
  unfold Ls
  rw [Bool.eq_iff_iff]
  simp only [Bool.and_eq_true,decide_eq_true_eq,dV]
  omega
 ·cases h)
structure pY where
 l:List Le
 r:Bool
 i:Int
def aF2 (s:pY):List LV:=[.xl iV s.l,.v (.bool s.r),.v (.int .i64 s.i)]
def aEZ (_:pY):List aW:=[]
noncomputable def Cb:Code:=((aB (Tryz.f50.body.getD .skip))[0]?).getD .skip
def aaS (s:pY):T (Rd pY):=
 .br (decide (s.i<(List.length s.l:Int))) (.req (0≤s.i∧s.i<(List.length s.l:Int)) (.br (!(Ls (gU s.l s.i))) (.ok (.stop (.ret) {s with r:=false})) (.br (decide (s.i>0)) (.req (0≤s.i∧s.i<(List.length s.l:Int)) (.req (0≤(IntKind.i64.wrap (s.i-1))∧(IntKind.i64.wrap (s.i-1))<(List.length s.l:Int)) (.br (decide ((gU s.l s.i).1≤(gU s.l (IntKind.i64.wrap (s.i-1))).1)) (.ok (.stop (.ret) {s with r:=false})) (.req (0≤s.i∧s.i<(List.length s.l:Int)) (.req (0≤(IntKind.i64.wrap (s.i-1))∧(IntKind.i64.wrap (s.i-1))<(List.length s.l:Int)) (.br (decide ((gU s.l s.i).2.2.2.1<(gU s.l (IntKind.i64.wrap (s.i-1))).2.2.2.1)) (.ok (.stop (.ret) {s with r:=false})) (.ok (.next {s with i:=(IntKind.i64.wrap (s.i+1))})))))))) (.ok (.next {s with i:=(IntKind.i64.wrap (s.i+1))}))))) (.ok (.stop (.exit 0) s))
abbrev auM (s:pY):=(aaS s).rd s
def ae1 (s:pY):Prop:=s.i=0∧(List.length s.l:Int)≤1000
def Oe (s:pY):Prop:=(0≤s.i∧s.i≤(List.length s.l:Int))∧(List.length s.l:Int)≤1000∧∀j:Nat,(j:Int)<s.i→jQ s.l j=true
def I4 (s:pY):Nat:=((List.length s.l:Int)-s.i).toNat
def amw (x:Ex) (_ s':pY):Prop:=(x=.exit 0∧∀j:Nat,(j:Int)<(List.length s'.l:Int)→jQ s'.l j=true)∨(x=.ret∧s'.r=false∧∃j:Nat,(j:Int)<(List.length s'.l:Int)∧jQ s'.l j=false)
theorem aCM:∀s,ae1 s→Oe s:=by
 intro s h
 obtain ⟨h0,h3⟩:=h
 exact ⟨by omega,h3,fun j hj=>by omega⟩
theorem ax6 (s:pY) (hI:Oe s):bP (fun s'=>Oe s'∧I4 s'<I4 s) (fun x s'=>amw x s s') (auM s):=by
 unfold auM aaS
 dsimp only [T.rd,T.rl]
 obtain ⟨⟨h0,h1⟩,h3,hA⟩:=hI
 refine au (fun c1=>?_) (fun c1=>?_)
 ·refine au (fun c2=>?_) (fun c2=>?_)
  ·have c1:s.i<(List.length s.l:Int):=by simpa using c1
   refine .inr ⟨rfl,rfl,s.i.toNat,by simp only;omega,?_⟩
   rw [Int.toNat_of_nonneg h0]
   show jQ s.l s.i=false
   unfold jQ Bf
   rw [ntW c2]
   rfl
  ·refine au (fun c3=>?_) (fun c3=>?_)
   ·refine au (fun c4=>?_) (fun c4=>?_)
    ·have c1:s.i<(List.length s.l:Int):=by simpa using c1
     have c3:0<s.i:=by simpa using c3
     rw [aN (x:=s.i-1) (by omega) (by omega)] at c4
     refine .inr ⟨rfl,rfl,s.i.toNat,by simp only;omega,?_⟩
     rw [Int.toNat_of_nonneg h0]
     show jQ s.l s.i=false
     unfold jQ Bf
     rw [LJ c2,decide_eq_false (p:=s.i=0) (by omega)]
     simp only [decide_eq_true_eq] at c4
     rw [decide_eq_false (p:=(gU s.l s.i).1>(gU s.l (s.i-1)).1) (by omega)]
     simp
    ·refine au (fun c5=>?_) (fun c5=>?_)
     ·have c1:s.i<(List.length s.l:Int):=by simpa using c1
      have c3:0<s.i:=by simpa using c3
      rw [aN (x:=s.i-1) (by omega) (by omega)] at c4
      rw [aN (x:=s.i-1) (by omega) (by omega)] at c5
      refine .inr ⟨rfl,rfl,s.i.toNat,by simp only;omega,?_⟩
      rw [Int.toNat_of_nonneg h0]
      show jQ s.l s.i=false
      unfold jQ Bf
      rw [LJ c2,decide_eq_false (p:=s.i=0) (by omega)]
      simp only [decide_eq_true_eq] at c5
      rw [decide_eq_false (p:=(gU s.l s.i).2.2.2.1≥(gU s.l (s.i-1)).2.2.2.1) (by omega)]
      simp
     ·have c1:s.i<(List.length s.l:Int):=by simpa using c1
      have c3:0<s.i:=by simpa using c3
      rw [aN (x:=s.i-1) (by omega) (by omega)] at c4
      rw [aN (x:=s.i-1) (by omega) (by omega)] at c5
      have hg:jQ s.l s.i=true:=by
        unfold jQ Bf
        simp only [decide_eq_false_iff_not] at c4 c5
        rw [LJ c2,decide_eq_true (p:=(gU s.l s.i).1>(gU s.l (s.i-1)).1) (by omega),decide_eq_true (p:=(gU s.l s.i).2.2.2.1≥(gU s.l (s.i-1)).2.2.2.1) (by omega)]
        simp
      rw [aN (x:=s.i+1) (by omega) (by omega)]
      exact ⟨⟨⟨by simp only;omega,by simp only;omega⟩,h3,fun j hj=>by
       by_cases e:(j:Int)<s.i
       ·exact hA j e
       ·have e:(j:Int)=s.i:=by simp only at hj;omega
        show jQ s.l j=true
        rw [e];exact hg⟩,by simp only [I4];omega⟩
   ·have c1:s.i<(List.length s.l:Int):=by simpa using c1
    have hg:jQ s.l s.i=true:=by
      unfold jQ
      rw [LJ c2,decide_eq_true (p:=s.i=0) (by simp at c3;omega)]
      rfl
    rw [aN (x:=s.i+1) (by omega) (by omega)]
    exact ⟨⟨⟨by simp only;omega,by simp only;omega⟩,h3,fun j hj=>by
     by_cases e:(j:Int)<s.i
     ·exact hA j e
     ·have e:(j:Int)=s.i:=by simp only at hj;omega
      show jQ s.l j=true
      rw [e];exact hg⟩,by simp only [I4];omega⟩
 ·have c1:(List.length s.l:Int)≤s.i:=by simpa using c1
  exact .inl ⟨rfl,fun j hj=>hA j (by omega)⟩
def FQ:bQ pY:=⟨0,51,[0,2,3],[],aF2,aEZ,fun v _=>⟨aQ iV (v.getD 0 .junk),yF (v.getD 1 .junk),gI (v.getD 2 .junk)⟩,aaS,fun s r=> {r with l:=s.l},fun s=>s,fun _ s=>s,[.ret,.exit 0],ae1,Oe,I4⟩
abbrev abw:=FQ.run
abbrev adk:=FQ.jU
abbrev aAJ:=FQ.q
theorem axf (s:pY) (hI:Oe s):(aaS s).all (fun _=>True):=by
 refine ⟨fun c1=>⟨?_,fun _=>trivial,fun c2=>⟨fun c3=>⟨?_,?_,fun _=>trivial,fun c4=>⟨?_,?_,fun _=>trivial,fun _=>trivial⟩⟩,fun _=>trivial⟩⟩,fun _=>trivial⟩
 all_goals ((obtain ⟨⟨h0,h1⟩,h3,hA⟩:=hI;simp only [decide_eq_true_eq] at c1;first|omega|(simp only [decide_eq_true_eq,gt_iff_lt] at c3;rw [aN (x:=s.i-1) (by omega) (by omega)];omega)))
noncomputable def Y7:Specs:=bf [(90,alQ)]
theorem akP:∀g S,Y7 g=some S→Valid Tryz.prog aS g S:=aT (l:=[(90,alQ)]) ⟨aBI,trivial⟩
theorem aiS:FQ.Ok:=⟨fun s=>by kernel_rfl,fun s=>by kernel_rfl,fun s=>rfl,fun s t r=>rfl,fun s=>rfl,fun s=>by kernel_rfl⟩
theorem ahK:FQ.Pf (amw):=⟨aCM,fun _ _=>rfl,ax6,axf⟩
theorem aoi:bn Tryz.prog aS (AN 0) (.loop Cb) FQ.lp:=bQ.snd aiS ahK (aU (Γ:=Y7) (K:=fE) (L:=aC) akP aG Cb (fun b hb=>by rw [show aB Cb=[] by kernel_rfl] at hb;cases hb)) (fun s=>by kernel_rfl)
theorem apm (s:pY) (hE:ae1 s):∃s',Oe s'∧amw (adk s) s' (abw s):=bQ.fin aiS ahK s hE
def aea:List LV→T LV
 | [.xl (.pair (.int .i64) (.pair (.int .i64) (.pair (.int .i64) (.pair (.int .i64) (.int .i64))))) l]=> .req ((List.length l:Int)≤1000) (.ok (.v (.bool (gJ l))))
 |_=> .no
noncomputable def ZJ:List LV→T LV:=gZ Tryz.prog Tryz.f50.params.toList aea
theorem ap8 (l:List Le):bW Tryz.prog aS (Y7) fE (fun i=>if i=2 then FQ.lp else aC i) Tryz.f50 [.xl iV l]=.req (aAJ (⟨l,false,(0:Int)⟩:pY)) (.br (iE (adk (⟨l,false,(0:Int)⟩:pY)) (.ret)) (.ok (.v (.bool (abw (⟨l,false,(0:Int)⟩:pY)).r))) (.ok (.v (.bool (decide ((List.length l:Int)≤64)))))):=by kernel_rfl
theorem avT:Valid Tryz.prog aS 50 ZJ:=aI Tryz.func50 rfl akP aG (L:=(fun i=>if i=2 then FQ.lp else aC i)) (fun b hb=>by
 rw [show aB _=[Cb] by kernel_rfl] at hb
 simp only [List.mem_cons,List.not_mem_nil,or_false] at hb
 subst hb
 exact aoi) (fun args lv h=>by
 unfold aea at h
 split at h
 ·simp only [canL,canX]
  rw [ap8]
  rename_i l
  obtain ⟨hn,rfl⟩:=h
  have hE:ae1 ⟨l,false,0⟩:=⟨rfl,hn⟩
  refine ⟨⟨hE,rfl,rfl⟩,?_⟩
  obtain ⟨_,_,hq⟩:=apm _ hE
  unfold gJ
  rcases hq with ⟨q1,q2⟩ |⟨q1,q2,j,q3,q4⟩<;>rw [q1]
  ·have e:Lr l.length (jQ l)=true:=fU.2 q2
   rw [e,Bool.and_true]
   refine ⟨fun h=>(by cases h),fun _=>congrArg (fun z=>LV.v (.bool z)) ?_⟩
   by_cases h:l.length≤64
   ·rw [decide_eq_true h,decide_eq_true (by omega)]
   ·rw [decide_eq_false h,decide_eq_false (by omega)]
  ·have e:Lr l.length (jQ l)=false:=uP j q3 q4
   rw [q2,e,Bool.and_false]
   exact ⟨fun _=>rfl,fun h=>by cases h⟩
 ·cases h)
structure qZ where
 qy:Int
 level:Int
 x:Int
 qQ:ByteArray
 Zk:Int
 qP:Int
 mn:Int
 mx:Int
 st:Int
 lN:Int
 nH:Int
def aF3 (s:qZ):List LV:=[.v (.int .i64 s.qy),.own 0 0,.v (.int .i64 s.level),.v (.int .i64 s.x)]
def aE0 (s:qZ):List aW:=[⟨[.v (.string s.qQ),.v (.int .i64 s.Zk),.v (.int .i64 s.qP),.v (.int .i64 s.mn),.v (.int .i64 s.mx),.v (.int .i64 s.st),.v (.int .i64 s.lN),.v (.int .i64 s.nH)],58,.cl,false⟩]
noncomputable def Cc:Code:=((aB (Tryz.f83.body.getD .skip))[0]?).getD .skip
def aaT (s:qZ):T (Rd qZ):=
 .br (decide (s.x≤s.mx)) (.br (decide (s.x≤s.qy)) (.ok (.next {s with level:=s.x,x:=(IntKind.i64.wrap (s.x+s.st))})) (.ok (.next {s with x:=(IntKind.i64.wrap (s.x+s.st))}))) (.ok (.stop (.exit 0) s))
abbrev auN (s:qZ):=(aaT s).rd s
def ann (s:qZ):Prop:=s.level=0∧s.x=s.mn∧vU s.mn s.mx s.st
def KA (s:qZ):Prop:=Q9 s.mn s.mx s.st s.qy s.level s.x
def I5 (s:qZ):Nat:=(s.mx+1-s.x).toNat
def amx (x:Ex) (_ s':qZ):Prop:=x=.exit 0∧s'.level=lV s'.mn s'.mx s'.st s'.qy
theorem aCN:∀s,ann s→KA s:=by
 intro s h
 obtain ⟨h0,h1,h2⟩:=h
 unfold KA
 rw [h0,h1]
 exact YJ h2
theorem ax7 (s:qZ) (hI:KA s):bP (fun s'=>KA s'∧I5 s'<I5 s) (fun x s'=>amx x s s') (auN s):=by
 unfold auN aaT
 dsimp only [T.rd,T.rl]
 have hI':Q9 s.mn s.mx s.st s.qy s.level s.x:=hI
 have hc:=hI'.1
 unfold vU at hc
 refine au (fun c1=>?_) (fun c1=>⟨rfl,aj0 hI' (by simpa using c1)⟩)
 have c1:s.x≤s.mx:=by simpa using c1
 have hs:=afQ hI' c1
 have hx:=hI'.2.1
 rw [aN (x:=s.x+s.st) (by omega) (by omega)]
 refine au (fun c2=>?_) (fun c2=>?_)
 ·rw [if_pos (by simpa using c2)] at hs
  exact ⟨hs,by simp only [I5];omega⟩
 ·rw [if_neg (by simpa using c2)] at hs
  exact ⟨hs,by simp only [I5];omega⟩
def FT:bQ qZ:=⟨0,22,[1,2,5,6],[],aF3,aE0,fun v b=>⟨gI (v.getD 0 .junk),gI (v.getD 2 .junk),gI (v.getD 3 .junk),gSr (aV (aO b 0) 0),gI (aV (aO b 0) 1),gI (aV (aO b 0) 2),gI (aV (aO b 0) 3),gI (aV (aO b 0) 4),gI (aV (aO b 0) 5),gI (aV (aO b 0) 6),gI (aV (aO b 0) 7)⟩,aaT,fun s r=> {r with qy:=s.qy,qQ:=s.qQ,Zk:=s.Zk,qP:=s.qP,mn:=s.mn,mx:=s.mx,st:=s.st,lN:=s.lN,nH:=s.nH},fun s=>s,fun _ s=>s,[.exit 0],ann,KA,I5⟩
abbrev abx:=FT.run
abbrev arE:=FT.jU
abbrev aAK:=FT.q
theorem axg (s:qZ) (_:KA s):(aaT s).all (fun _=>True):=by
 exact ⟨fun c1=>⟨fun _=>trivial,fun _=>trivial⟩,fun _=>trivial⟩
theorem aiT:FT.Ok:=⟨fun s=>by kernel_rfl,fun s=>by kernel_rfl,fun s=>rfl,fun s t r=>rfl,fun s=>rfl,fun s=>by kernel_rfl⟩
theorem ahL:FT.Pf (amx):=⟨aCN,fun _ _=>rfl,ax7,axg⟩
theorem aoj:bn Tryz.prog aS (AN 0) (.loop Cc) FT.lp:=bQ.snd aiT ahL (aU (Γ:=RH) (K:=fE) (L:=aC) Y1 aG Cc (fun b hb=>by rw [show aB Cc=[] by kernel_rfl] at hb;cases hb)) (fun s=>by kernel_rfl)
theorem apn (s:qZ) (hE:ann s):∃s',KA s'∧amx (arE s) s' (abx s):=bQ.fin aiT ahL s hE
def aee:List LV→T LV
 | [.v (.agg ⟨[.string _,.int .i64 _,.int .i64 _,.int .i64 mn,.int .i64 mx,.int .i64 st,.int .i64 _,.int .i64 _]⟩),.v (.int .i64 a)]=> .req (vU mn mx st) (.ok (.v (.int .i64 (lV mn mx st a))))
 |_=> .no
noncomputable def ZN:List LV→T LV:=gZ Tryz.prog Tryz.f83.params.toList aee
theorem aqc (nm:ByteArray) (at_ ph mn mx st fb ow a:Int):bW Tryz.prog aS (RH) fE (fun i=>if i=3 then FT.lp else aC i) Tryz.f83 [.v (.agg #[.string nm,.int .i64 at_,.int .i64 ph,.int .i64 mn,.int .i64 mx,.int .i64 st,.int .i64 fb,.int .i64 ow]),.v (.int .i64 a)]=.req (aAK (⟨a,(0:Int),mn,nm,at_,ph,mn,mx,st,fb,ow⟩:qZ)) (.ok (.v (.int .i64 (abx (⟨a,(0:Int),mn,nm,at_,ph,mn,mx,st,fb,ow⟩:qZ)).level))):=by kernel_rfl
theorem avX:Valid Tryz.prog aS 83 ZN:=aI Tryz.func83 rfl Y1 aG (L:=(fun i=>if i=3 then FT.lp else aC i)) (fun b hb=>by
 rw [show aB _=[Cc] by kernel_rfl] at hb
 simp only [List.mem_cons,List.not_mem_nil,or_false] at hb
 subst hb
 exact aoj) (fun args lv h=>by
 unfold aee at h
 split at h
 ·simp only [canL,canX]
  rw [aqc]
  obtain ⟨hc,rfl⟩:=h
  refine oH ⟨⟨rfl,rfl,hc⟩,rfl,rfl⟩ (fun hE=>?_)
  obtain ⟨_,_,_,q⟩:=apn _ hE.1
  rw [q]
  exact rfl
 ·cases h)
def aed:List LV→T LV
 | [.v (.agg ⟨[.string _,.int .i64 _,.int .i64 ph,.int .i64 mn,.int .i64 mx,.int .i64 st,.int .i64 fb,.int .i64 _]⟩),.v (.agg ⟨[.int .i64 a,.int .i64 si]⟩)]=> .ok (.v (.bool (LH ph mn mx st fb a si)))
 |_=> .no
noncomputable def ZM:List LV→T LV:=gZ Tryz.prog Tryz.f51.params.toList aed
noncomputable def ak8:Specs:=bf [(83,ZN),(91,alP)]
theorem azq:∀g S,ak8 g=some S→Valid Tryz.prog aS g S:=aT (l:=[(83,ZN),(91,alP)]) ⟨avX,aBH,trivial⟩
theorem aqb (nm:ByteArray) (at_ ph mn mx st fb ow a si:Int):bW Tryz.prog aS (ak8) fE aC Tryz.f51 [.v (.agg #[.string nm,.int .i64 at_,.int .i64 ph,.int .i64 mn,.int .i64 mx,.int .i64 st,.int .i64 fb,.int .i64 ow]),.v (.agg #[.int .i64 a,.int .i64 si])]=.br (NE ph mn mx st fb) (.br (decide (a≥0)) (.br (decide (si≥0)) (.br (decide (si≤1000000)) (.req (vU mn mx st) (.ok (.v (.bool ((lV mn mx st a)==a))))) (.ok (.v (.bool false)))) (.ok (.v (.bool false)))) (.ok (.v (.bool false)))) (.ok (.v (.bool false))):=by kernel_rfl
theorem avW:Valid Tryz.prog aS 51 ZM:=aI Tryz.func51 rfl azq aG (aY (by kernel_rfl)) (fun args lv h=>by
 unfold aed at h
 split at h
 ·simp only [canL,canX]
  rw [aqb]
  rename_i nm at_ ph mn mx st fb ow a si
  obtain rfl:=h
  unfold LH
  cases hc:NE ph mn mx st fb with
  |false=>simp [T.all]
  |true=>
   have hp:=Ze hc
   by_cases h1:0≤a<;>by_cases h2:0≤si<;>by_cases h3:si≤1000000<;>simp [T.all,h1,h2,h3,hp]
 ·cases h)
end Go.Proofs.YtlihnbimgclogaaGreatDoor
namespace Go.Proofs.YtlihnbimgclogaaGreatDoor
open Go.Sx
def inG (n:Int):List ByteArray→ByteArray→Int
 | [],_=>-1
 |x::xs,w=>if (x==w)=true then n else inG (n+1) xs w
def inI (l:List ByteArray) (w:ByteArray):Int:=inG 0 l w
theorem ab9 {w:ByteArray}:∀ {l:List ByteArray}{n:Int},0≤n→(0≤inG n l w↔isIn l w=true)
 | [],n,_=>by simp [inG,isIn]
 | x::xs,n,h=>by
  rw [inG]
  have e:isIn (x::xs) w=(w==x ||isIn xs w):=rfl
  rw [e]
  split
  ·rename_i hx
   have:x=w:=by simpa using hx
   subst this
   simp [h]
  ·rename_i hx
   have hx:¬x=w:=by simpa using hx
   have:(w==x)=false:=by simpa using fun e=>hx e.symm
   rw [this,Bool.false_or]
   exact ab9 (by omega)
theorem Hf {l:List ByteArray}{w:ByteArray}:decide (inI l w≥0)=isIn l w:=by
 rw [Bool.eq_iff_iff,decide_eq_true_eq]
 exact ab9 (Int.le_refl _)
theorem LP {l:List ByteArray}{w:ByteArray}:isIn l w=l.contains w:=by
 unfold isIn
 rw [List.contains_eq_any_beq]
def yY (b j:Int):Bool:=chA b ||(!(j==0)&&((decide (b≥48)&&decide (b≤57)) ||b==95))
theorem acn {b:Int}:yY b 0=chA b:=by simp [yY]
theorem Nj {b j:Int}(h:j≠0):yY b j=chB b:=by
 unfold yY chB
 rw [show (j==0)=false by simpa using h]
 rfl
theorem ajL {w:ByteArray}:nameB w=(Lr w.size (fun j=>yY (tC w j) j)&&(decide ((w.size:Int)≥1)&&(decide ((w.size:Int)≤12)&&!GL w))):=by
 unfold nameB gwB
 by_cases h1:1≤w.size
 ·by_cases h2:w.size≤12
  ·rw [decide_eq_true (show 1≤w.size∧w.size≤12 from ⟨h1,h2⟩),decide_eq_true (show (w.size:Int)≥1 by omega),decide_eq_true (show (w.size:Int)≤12 by omega),Bool.true_and,Bool.true_and,Bool.true_and]
   congr 1
   rw [Bool.eq_iff_iff,Bool.and_eq_true,List.all_eq_true,fU]
   constructor
   ·rintro ⟨a,b⟩ j hj
    by_cases e:j=0
    ·subst e;exact (acn (b:=tC w 0)).trans a
    ·have:=b j (List.mem_range.2 (by omega))
     rw [Nj (by omega)]
     simpa [e] using this
   ·intro h
    refine ⟨(acn (b:=tC w 0)).symm.trans (h 0 (by omega)),fun j hj=>?_⟩
    by_cases e:j=0
    ·simp [e]
    ·have:=h j (by have:=List.mem_range.1 hj;omega)
     rw [Nj (by omega)] at this
     simp [this]
  ·rw [decide_eq_false (show ¬(1≤w.size∧w.size≤12) by omega),decide_eq_false (show ¬(w.size:Int)≤12 by omega)]
   simp
 ·rw [decide_eq_false (show ¬(1≤w.size∧w.size≤12) by omega),decide_eq_false (show ¬(w.size:Int)≥1 by omega)]
  simp
def nmR (l:List ByteArray):Prop:=∀w∈l,(w.size:Int)≤9223372036854775807
def nmB (l:List ByteArray):Bool:=l.all nameB&&once l
theorem agU {cs:List Cd}{os:List ByteArray}{ks:List Ko}{gs:List Ch}{bs:List Ba}(hd:1≤cs.length∧cs.length≤16∧os.length≤8∧ks.length≤32∧gs.length≤16∧bs.length≤24):dL cs os ks gs bs=(nmB (gY cs os ks gs bs)&&Xp cs os ks gs bs):=by
 unfold dL nmB
 rw [decide_eq_true hd,Bool.true_and,Bool.and_assoc]
theorem akk {n a b:Int}:inB n a b=false↔¬(a≤n∧n≤b):=by
 rw [←dV]
 simp
theorem afv {ks:List Ko}{i c:Int}(h0:0≤i) (h:i≤(ks.length:Int)):((ks.take i.toNat).map (·.2.2.2)).contains c=true↔∃j:Nat,(j:Int)<i∧(nR ks j).2.2.2=c:=by
 rw [List.contains_iff_mem,List.mem_map]
 constructor
 ·rintro ⟨x,hx,rfl⟩
  obtain ⟨j,hj,rfl⟩:=List.mem_iff_getElem.1 hx
  rw [List.length_take] at hj
  exact ⟨j,by omega,by rw [alc (by simp only [Int.toNat_natCast];omega)];simp⟩
 ·rintro ⟨j,hj,rfl⟩
  refine ⟨nR ks j,?_,rfl⟩
  rw [alc (by simp only [Int.toNat_natCast];omega),List.mem_iff_getElem]
  exact ⟨j,by rw [List.length_take];omega,by simp⟩
end Go.Proofs.YtlihnbimgclogaaGreatDoor
namespace Go.Proofs.YtlihnbimgclogaaGreatDoor
open Go.Sx
structure nM where
 l:List ByteArray
 w:ByteArray
 r:Int
 i:Int
def aGo (s:nM):List LV:=[.xl .str s.l,.v (.string s.w),.v (.int .i64 s.r),.v (.int .i64 s.i)]
def aFl (_:nM):List aW:=[]
noncomputable def CV:Code:=((aB (Tryz.f144.body.getD .skip))[0]?).getD .skip
def Uh (s:nM):T (Rd nM):=
 .br (decide (s.i<(List.length s.l:Int))) (.req (0≤s.i∧s.i<(List.length s.l:Int)) (.br ((gS s.l s.i).toList==s.w.toList) (.ok (.stop (.ret) {s with r:=s.i})) (.ok (.next {s with i:=(IntKind.i64.wrap (s.i+1))})))) (.ok (.stop (.exit 0) s))
abbrev acZ (s:nM):=(Uh s).rd s
def anr (s:nM):Prop:=s.i=0∧(List.length s.l:Int)≤1000∧True
def WU (s:nM):Prop:=0≤s.i∧s.i≤(List.length s.l:Int)∧(List.length s.l:Int)≤1000∧True
def QB (s:nM):Nat:=((List.length s.l:Int)-s.i).toNat
def avr (_:Ex) (_ _:nM):Prop:=True
theorem aDk:∀s,anr s→WU s:=by
 intro s h
 obtain ⟨h0,h1,h2⟩:=h
 exact ⟨by omega,by omega,h1,h2⟩
theorem ay6 (s:nM) (hI:WU s):bP (fun s'=>WU s'∧QB s'<QB s) (fun x s'=>avr x s s') (acZ s):=by
 unfold acZ Uh
 dsimp only [T.rd,T.rl]
 obtain ⟨h0,h1,h2,h3⟩:=hI
 refine au (fun c1=>?_) (fun c1=>?_)
 ·refine au (fun c2=>?_) (fun c2=>?_)
  ·trivial
  ·have c1:s.i<(List.length s.l:Int):=by simpa using c1
   rw [aN (x:=s.i+1) (by omega) (by omega)]
   exact ⟨⟨by simp only;omega,by simp only;omega,h2,h3⟩,by simp only [QB];omega⟩
 ·trivial
def Gj:bQ nM:=⟨0,19,[0,1,4,5],[],aGo,aFl,fun v _=>⟨aQ .str (v.getD 0 .junk),gSr (v.getD 1 .junk),gI (v.getD 2 .junk),gI (v.getD 3 .junk)⟩,Uh,fun s r=> {r with l:=s.l,w:=s.w},fun s=>s,fun _ s=>s,[.ret,.exit 0],anr,WU,QB⟩
abbrev abB:=Gj.run
abbrev adp:=Gj.jU
abbrev aA3:=Gj.q
theorem axB (s:nM) (hI:WU s):(Uh s).all (fun _=>True):=by
 refine ⟨fun c1=>⟨?_,fun _=>trivial,fun _=>trivial⟩,fun _=>trivial⟩
 ·(obtain ⟨h0,h1,h2,h3⟩:=hI;simp only [decide_eq_true_eq] at c1;omega)
noncomputable def JA:Specs:=bf []
theorem Nl:∀g S,JA g=some S→Valid Tryz.prog aS g S:=aT (l:=[]) trivial
theorem ai4:Gj.Ok:=⟨fun s=>by kernel_rfl,fun s=>by kernel_rfl,fun s=>rfl,fun s t r=>rfl,fun s=>rfl,fun s=>by kernel_rfl⟩
theorem ahW:Gj.Pf (avr):=⟨aDk,fun _ _=>rfl,ay6,axB⟩
theorem aoB:bn Tryz.prog aS (AN 0) (.loop CV) Gj.lp:=bQ.snd ai4 ahW (aU (Γ:=JA) (K:=fE) (L:=aC) Nl aG CV (fun b hb=>by rw [show aB CV=[] by kernel_rfl] at hb;cases hb)) (fun s=>by kernel_rfl)
theorem ara (s:nM) (hE:anr s):(fun (x:Ex) (s':nM) (v:Int)=>(x=.ret∧s'.r=v)∨(x=.exit 0∧v=-1)) (adp s) (abB s) ((fun s:nM=>inG s.i (s.l.drop s.i.toNat) s.w) s):=by
 exact bQ.ul ai4 ahW (fun s:nM=>inG s.i (s.l.drop s.i.toNat) s.w) (fun x s' v=>(x=.ret∧s'.r=v)∨(x=.exit 0∧v=-1)) (fun s hI=>by
  show bP _ _ (acZ s)
  unfold acZ Uh
  dsimp only [T.rd,T.rl]
  obtain ⟨h0,h1,h2,h3⟩:=hI
  refine au (fun c1=>au (fun c2=>?_) (fun c2=>?_)) (fun c1=>?_)
  ·have c1:s.i<(List.length s.l:Int):=by simpa using c1
   rw [uI] at c2
   refine .inl ⟨rfl,?_⟩
   try simp only
   rw [(vz h0 c1).1,inG,if_pos c2]
  ·have c1:s.i<(List.length s.l:Int):=by simpa using c1
   rw [uI] at c2
   rw [aN (x:=s.i+1) (by omega) (by omega)]
   show inG _ _ _=inG _ _ _
   rw [(vz h0 c1).1,inG,if_neg (by rw [c2];simp)]
  ·have c1:(List.length s.l:Int)≤s.i:=by simpa using c1
   refine .inr ⟨rfl,?_⟩
   rw [List.drop_eq_nil_of_le (by omega)]
   rfl) s hE
def al2:List LV→T LV
 | [.xl (.str) l,.v (.string w)]=> .req ((List.length l:Int)≤1000) (.ok (.v (.int .i64 (inI l w))))
 |_=> .no
noncomputable def alN:List LV→T LV:=gZ Tryz.prog Tryz.f144.params.toList al2
theorem ays (l:List ByteArray) (w:ByteArray):bW Tryz.prog aS (JA) fE (fun i=>if i=2 then Gj.lp else aC i) Tryz.f144 [.xl .str l,.v (.string w)]=.req (aA3 (⟨l,w,(0:Int),(0:Int)⟩:nM)) (.br (iE (adp (⟨l,w,(0:Int),(0:Int)⟩:nM)) (.ret)) (.ok (.v (.int .i64 (abB (⟨l,w,(0:Int),(0:Int)⟩:nM)).r))) (.ok (.v (.int .i64 (-1))))):=by kernel_rfl
theorem aBF:Valid Tryz.prog aS 144 alN:=aI Tryz.func144 rfl Nl aG (L:=(fun i=>if i=2 then Gj.lp else aC i)) (fun b hb=>by
 rw [show aB _=[CV] by kernel_rfl] at hb
 simp only [List.mem_cons,List.not_mem_nil,or_false] at hb
 subst hb
 exact aoB) (fun args lv h=>by
 unfold al2 at h
 split at h
 ·simp only [canL,canX]
  rw [ays]
  obtain ⟨hl,rfl⟩:=h
  refine oH ⟨⟨rfl,hl,trivial⟩,rfl,rfl⟩ (fun hE=>?_)
  rcases ara _ hE.1 with ⟨q1,q2⟩ |⟨q1,q2⟩
  ·rw [q1,q2]
   exact ⟨fun _=>rfl,fun h=>by cases h⟩
  ·rw [q1]
   refine ⟨fun h=>(by cases h),fun _=>congrArg (fun z=>LV.v (.int .i64 z)) ?_⟩
   exact q2.symm
 ·cases h)
def NK:List LV→T LV
 | []=> .ok (.xl .str kinds)
 |_=> .no
noncomputable def J5:List LV→T LV:=gZ Tryz.prog Tryz.f145.params.toList NK
theorem afI  :bW Tryz.prog aS (JA) fE aC Tryz.f145 []=.ok (.xl .str ([(ByteArray.mk #[102,101,101,100,101,114]),(ByteArray.mk #[99,97,98,108,101]),(ByteArray.mk #[111,119,110,101,114]),(ByteArray.mk #[99,111,110,116,114,97,99,116]),(ByteArray.mk #[99,104,97,114,103,101,114]),(ByteArray.mk #[98,97,121]),(ByteArray.mk #[116,97,114,105,102,102])])):=by kernel_rfl
theorem agB:Valid Tryz.prog aS 145 J5:=aI Tryz.func145 rfl Nl aG (aY (by kernel_rfl)) (fun args lv h=>by
 unfold NK at h
 split at h
 ·simp only [canL]
  rw [afI]
  exact h
 ·cases h)
def NM:List LV→T LV
 | []=> .ok (.xl .str Fe)
 |_=> .no
noncomputable def J8:List LV→T LV:=gZ Tryz.prog Tryz.f146.params.toList NM
theorem afJ  :bW Tryz.prog aS (JA) fE aC Tryz.f146 []=.ok (.xl .str ([(ByteArray.mk #[108,105,109,105,116]),(ByteArray.mk #[110,101,117,116,114,97,108]),(ByteArray.mk #[102,117,115,101]),(ByteArray.mk #[116,104,101,114,109,97,108]),(ByteArray.mk #[102,114,111,109]),(ByteArray.mk #[97,116]),(ByteArray.mk #[112,104,97,115,101,115]),(ByteArray.mk #[97,109,112,115]),(ByteArray.mk #[102,97,108,108,98,97,99,107]),(ByteArray.mk #[111,119,110,101,114]),(ByteArray.mk #[99,97,114,100]),(ByteArray.mk #[114,97,110,107]),(ByteArray.mk #[99,104,97,114,103,101,114])])):=by kernel_rfl
theorem agE:Valid Tryz.prog aS 146 J8:=aI Tryz.func146 rfl Nl aG (aY (by kernel_rfl)) (fun args lv h=>by
 unfold NM at h
 split at h
 ·simp only [canL]
  rw [afJ]
  exact h
 ·cases h)
def Dz:List LV→T LV
 | []=> .ok (.xl .str o6)
 |_=> .no
noncomputable def xC:List LV→T LV:=gZ Tryz.prog Tryz.f147.params.toList Dz
theorem PW  :bW Tryz.prog aS (JA) fE aC Tryz.f147 []=.ok (.xl .str ([(ByteArray.mk #[115,116,97,114,116]),(ByteArray.mk #[101,110,101,114,103,121]),(ByteArray.mk #[116,105,109,101]),(ByteArray.mk #[105,100,108,101]),(ByteArray.mk #[99,97,112]),(ByteArray.mk #[116,97,120])])):=by kernel_rfl
theorem TB:Valid Tryz.prog aS 147 xC:=aI Tryz.func147 rfl Nl aG (aY (by kernel_rfl)) (fun args lv h=>by
 unfold Dz at h
 split at h
 ·simp only [canL]
  rw [PW]
  exact h
 ·cases h)
def NJ:List LV→T LV
 | []=> .ok (.xl .str words)
 |_=> .no
noncomputable def J3:List LV→T LV:=gZ Tryz.prog Tryz.f148.params.toList NJ
theorem afH  :bW Tryz.prog aS (JA) fE aC Tryz.f148 []=.ok (.xl .str ([(ByteArray.mk #[111,110]),(ByteArray.mk #[119,111,114,107]),(ByteArray.mk #[115,97,116,117,114,100,97,121]),(ByteArray.mk #[115,117,110,100,97,121]),(ByteArray.mk #[98,101,116,119,101,101,110]),(ByteArray.mk #[112,101,114]),(ByteArray.mk #[102,114,101,101])])):=by kernel_rfl
theorem agz:Valid Tryz.prog aS 148 J3:=aI Tryz.func148 rfl Nl aG (aY (by kernel_rfl)) (fun args lv h=>by
 unfold NJ at h
 split at h
 ·simp only [canL]
  rw [afH]
  exact h
 ·cases h)
structure pq where
 w:ByteArray
 r:Bool
 i:Int
def aFV (s:pq):List LV:=[.v (.string s.w),.v (.bool s.r),.v (.int .i64 s.i)]
def aES (_:pq):List aW:=[]
noncomputable def BP:Code:=((aB (Tryz.f122.body.getD .skip))[0]?).getD .skip
def aaQ (s:pq):T (Rd pq):=
 .br (decide (s.i<(s.w.size:Int))) (.req (0≤s.i∧s.i<(s.w.size:Int)) (.br (if decide ((tC s.w s.i)<97) then (s.i==0) ||(if decide ((tC s.w s.i)<48) then (tC s.w s.i) !=95 else (decide ((tC s.w s.i)>57))&&((tC s.w s.i) !=95)) else (decide ((tC s.w s.i)>122))&&((s.i==0) ||(if decide ((tC s.w s.i)<48) then (tC s.w s.i) !=95 else (decide ((tC s.w s.i)>57))&&((tC s.w s.i) !=95)))) (.ok (.stop (.ret) {s with r:=false})) (.ok (.next {s with i:=(IntKind.i64.wrap (s.i+1))})))) (.ok (.stop (.exit 0) s))
abbrev auK (s:pq):=(aaQ s).rd s
def KN (s:pq) (j:Int):Bool:=yY (tC s.w j) j
def ang (s:pq):Prop:=s.i=0∧0≤(s.w.size:Int)∧(s.w.size:Int)≤9223372036854775807∧True
def Ob (s:pq):Prop:=0≤s.i∧s.i≤(s.w.size:Int)∧(s.w.size:Int)≤9223372036854775807∧(True)∧∀j:Nat,(j:Int)<s.i→KN s j=true
def Qd (s:pq):Nat:=((s.w.size:Int)-s.i).toNat
def amv (x:Ex) (_ s':pq):Prop:=(x=.exit 0∧∀j:Nat,(j:Int)<(s'.w.size:Int)→KN s' j=true)∨(x=.ret∧s'.r=false∧∃j:Nat,(j:Int)<(s'.w.size:Int)∧KN s' j=false)
theorem aCr:∀s,ang s→Ob s:=by
 intro s h
 obtain ⟨h0,h1,h2,h3⟩:=h
 exact ⟨by omega,by omega,h2,h3,fun j hj=>by omega⟩
theorem axW (s:pq) (hI:Ob s):bP (fun s'=>Ob s'∧Qd s'<Qd s) (fun x s'=>amv x s s') (auK s):=by
 unfold auK aaQ
 dsimp only [T.rd,T.rl]
 obtain ⟨h0,h1,h2,h3,h4⟩:=hI
 refine au (fun c1=>au (fun c2=>?_) (fun c2=>?_)) (fun c1=>?_)
 ·have c1:s.i<(s.w.size:Int):=by simpa using c1
  refine .inr ⟨rfl,rfl,s.i.toNat,by simp only;omega,?_⟩
  rw [Int.toNat_of_nonneg (by omega)]
  have hg:KN s s.i=false:=by unfold KN;(revert c2;unfold yY chA;generalize tC s.w s.i=b;intro c2;by_cases h1:b<97<;>by_cases h2:b≤122<;>by_cases h3:b<48<;>by_cases h4:b≤57<;>by_cases h5:b=95<;>by_cases h6:s.i=0<;>simp_all<;>omega)
  exact hg
 ·have c1:s.i<(s.w.size:Int):=by simpa using c1
  have hg:KN s s.i=true:=by unfold KN;(revert c2;unfold yY chA;generalize tC s.w s.i=b;intro c2;by_cases h1:b<97<;>by_cases h2:b≤122<;>by_cases h3:b<48<;>by_cases h4:b≤57<;>by_cases h5:b=95<;>by_cases h6:s.i=0<;>simp_all<;>omega)
  rw [aN (x:=s.i+1) (by omega) (by omega)]
  refine ⟨⟨by simp only;omega,by simp only;omega,h2,h3,fun j hj=>?_⟩,by simp only [Qd];omega⟩
  by_cases hji:(j:Int)<s.i
  ·exact h4 j hji
  ·have:(j:Int)=s.i:=by simp only at hj;omega
   rw [this];exact hg
 ·have c1:(s.w.size:Int)≤s.i:=by simpa using c1
  exact .inl ⟨rfl,fun j hj=>h4 j (by omega)⟩
def FH:bQ pq:=⟨0,71,[0,2,3],[],aFV,aES,fun v _=>⟨gSr (v.getD 0 .junk),yF (v.getD 1 .junk),gI (v.getD 2 .junk)⟩,aaQ,fun s r=> {r with w:=s.w},fun s=>s,fun _ s=>s,[.ret,.exit 0],ang,Ob,Qd⟩
abbrev abu:=FH.run
abbrev adh:=FH.jU
abbrev aAB:=FH.q
theorem aw8 (s:pq) (hI:Ob s):(aaQ s).all (fun _=>True):=by
 refine ⟨fun c1=>⟨?_,fun _=>trivial,fun _=>trivial⟩,fun _=>trivial⟩
 ·(obtain ⟨h0,h1,h2,h3,h4⟩:=hI;simp at c1;omega)
noncomputable def ak1:Specs:=bf [(144,alN),(145,J5),(146,J8),(147,xC),(148,J3)]
theorem aue:∀g S,ak1 g=some S→Valid Tryz.prog aS g S:=aT (l:=[(144,alN),(145,J5),(146,J8),(147,xC),(148,J3)]) ⟨aBF,agB,agE,TB,agz,trivial⟩
theorem aiL:FH.Ok:=⟨fun s=>by kernel_rfl,fun s=>by kernel_rfl,fun s=>rfl,fun s t r=>rfl,fun s=>rfl,fun s=>by kernel_rfl⟩
theorem ahD:FH.Pf (amv):=⟨aCr,fun _ _=>rfl,axW,aw8⟩
theorem aob:bn Tryz.prog aS (AN 0) (.loop BP) FH.lp:=bQ.snd aiL ahD (aU (Γ:=ak1) (K:=fE) (L:=aC) aue aG BP (fun b hb=>by rw [show aB BP=[] by kernel_rfl] at hb;cases hb)) (fun s=>by kernel_rfl)
theorem apc (s:pq) (hE:ang s):∃s',Ob s'∧amv (adh s) s' (abu s):=bQ.fin aiL ahD s hE
def Wu:List LV→T LV
 | [.v (.string w)]=> .req ((w.size:Int)≤9223372036854775807) (.ok (.v (.bool (nameB w))))
 |_=> .no
noncomputable def SK:List LV→T LV:=gZ Tryz.prog Tryz.f122.params.toList Wu
theorem ajA (w:ByteArray):bW Tryz.prog aS (ak1) fE (fun i=>if i=2 then FH.lp else aC i) Tryz.f122 [.v (.string w)]=.req (aAB (⟨w,false,(0:Int)⟩:pq)) (.br (iE (adh (⟨w,false,(0:Int)⟩:pq)) (.ret)) (.ok (.v (.bool (abu (⟨w,false,(0:Int)⟩:pq)).r))) (.req ((List.length kinds:Int)≤1000) (.br (decide ((inI kinds w)≥0)) (.ok (.v (.bool false))) (.req ((List.length Fe:Int)≤1000) (.br (decide ((inI Fe w)≥0)) (.ok (.v (.bool false))) (.req ((List.length o6:Int)≤1000) (.br (decide ((inI o6 w)≥0)) (.ok (.v (.bool false))) (.req ((List.length words:Int)≤1000) (.ok (.v (.bool ((decide ((w.size:Int)≥1))&&((decide ((w.size:Int)≤12))&&(!(decide ((inI words w)≥0)))))))))))))))):=by kernel_rfl
theorem anF:Valid Tryz.prog aS 122 SK:=aI Tryz.func122 rfl aue aG (L:=(fun i=>if i=2 then FH.lp else aC i)) (fun b hb=>by
 rw [show aB _=[BP] by kernel_rfl] at hb
 simp only [List.mem_cons,List.not_mem_nil,or_false] at hb
 subst hb
 exact aob) (fun args lv h=>by
 unfold Wu at h
 split at h
 ·simp only [canL,canX]
  rw [ajA]
  rename_i w
  obtain ⟨hl,rfl⟩:=h
  refine oH ⟨⟨rfl,Int.natCast_nonneg _,hl,trivial⟩,rfl,rfl⟩ (fun hE=>?_)
  obtain ⟨s',_,hq⟩:=apc _ hE.1
  rw [ajL]
  rcases hq with ⟨q1,q2⟩ |⟨q1,q2,j,q3,q4⟩
  ·have q2:Lr w.size (fun j=>yY (tC w j) j)=true:=fU.2 q2
   rw [q1,q2,Bool.true_and]
   have k1:=Hf (l:=kinds) (w:=w)
   have k2:=Hf (l:=Fe) (w:=w)
   have k3:=Hf (l:=o6) (w:=w)
   have k4:=Hf (l:=words) (w:=w)
   refine ⟨fun h=>(by cases h),fun _=>⟨by decide,fun c1=>?_,fun c1=>⟨by decide,fun c2=>?_,fun c2=>⟨by decide,fun c3=>?_,fun c3=>⟨by decide,?_⟩⟩⟩⟩⟩
   ·have:GL w=true:=by unfold GL;rw [←k1,c1];rfl
    rw [this]
    simp
    exact rfl
   ·have:GL w=true:=by unfold GL;rw [←k1,c1,←k2,c2];rfl
    rw [this]
    simp
    exact rfl
   ·have:GL w=true:=by unfold GL;rw [←k1,c1,←k2,c2,←k3,c3];rfl
    rw [this]
    simp
    exact rfl
   ·have:GL w=decide (inI words w≥0):=by unfold GL;rw [←k1,c1,←k2,c2,←k3,c3,←k4];rfl
    rw [this]
    exact rfl
  ·rw [q1,q2]
   refine ⟨fun _=>congrArg (fun z=>LV.v (.bool z)) ?_,fun h=>by cases h⟩
   rw [uP (n:=w.size) (f:=fun j=>yY (tC w j) j) j q3 q4]
   rfl
 ·cases h)
end Go.Proofs.YtlihnbimgclogaaGreatDoor
namespace Go.Proofs.YtlihnbimgclogaaGreatDoor
open Go.Sx
def ad5:List LV→T LV
 | [.v (.int .i64 n),.v (.int .i64 a),.v (.int .i64 b)]=> .ok (.v (.bool (inB n a b)))
 |_=> .no
noncomputable def J6:List LV→T LV:=gZ Tryz.prog Tryz.f86.params.toList ad5
noncomputable def Vm:Specs:=bf []
theorem acp:∀g S,Vm g=some S→Valid Tryz.prog aS g S:=aT (l:=[]) trivial
theorem ap3 (n a b:Int):bW Tryz.prog aS (Vm) fE aC Tryz.f86 [.v (.int .i64 n),.v (.int .i64 a),.v (.int .i64 b)]=.ok (.v (.bool ((decide (n≥a))&&(decide (n≤b))))):=by kernel_rfl
theorem agC:Valid Tryz.prog aS 86 J6:=aI Tryz.func86 rfl acp aG (aY (by kernel_rfl)) (fun args lv h=>by
 unfold ad5 at h
 split at h
 ·simp only [canL,canX]
  rw [ap3]
  exact h
 ·cases h)
def ad8:List LV→T LV
 | [.v (.agg ⟨[.string nm,.int .i64 at_,.int .i64 ph,.int .i64 mi,.int .i64 ma,.int .i64 st,.int .i64 fb,.int .i64 ow]⟩)]=> .ok (.v (.bool (chW (nm,at_,ph,mi,ma,st,fb,ow))))
 |_=> .no
noncomputable def ZI:List LV→T LV:=gZ Tryz.prog Tryz.f89.params.toList ad8
noncomputable def ak0:Specs:=bf [(86,J6)]
theorem aud:∀g S,ak0 g=some S→Valid Tryz.prog aS g S:=aT (l:=[(86,J6)]) ⟨agC,trivial⟩
theorem ap6 (nm:ByteArray) (at_ ph mi ma st fb ow:Int):bW Tryz.prog aS (ak0) fE aC Tryz.f89 [.v (.agg #[.string nm,.int .i64 at_,.int .i64 ph,.int .i64 mi,.int .i64 ma,.int .i64 st,.int .i64 fb,.int .i64 ow])]=.ok (.v (.bool ((inB ph (1:Int) (7:Int))&&((inB mi (1:Int) (80:Int))&&((inB ma mi (80:Int))&&((inB st (1:Int) (80:Int))&&((fb==0) ||(inB fb mi ma)))))))):=by kernel_rfl
theorem avS:Valid Tryz.prog aS 89 ZI:=aI Tryz.func89 rfl aud aG (aY (by kernel_rfl)) (fun args lv h=>by
 unfold ad8 at h
 split at h
 ·simp only [canL,canX]
  rw [ap6]
  exact h
 ·cases h)
def ad6:List LV→T LV
 | [.agg [.xl (.pair .str (.pair (.int .i64) (.pair (.int .i64) (.pair (.int .i64) (.pair (.pair (.int .i64) (.int .i64)) (.pair (.int .i64) (.pair (.int .i64) (.pair (.int .i64) (.pair (.int .i64) (.int .i64)))))))))) cs,.xl (.str) os,.xl (.pair .str (.pair (.int .i64) (.pair (.int .i64) (.int .i64)))) ks,.xl (.pair .str (.pair (.int .i64) (.pair (.int .i64) (.pair (.int .i64) (.pair (.int .i64) (.pair (.int .i64) (.pair (.int .i64) (.int .i64)))))))) gs,.xl (.pair .str (.int .i64)) bs]]=> .ok (.v (.bool (decide (List.length cs≤40∧List.length os≤40∧List.length ks≤40∧List.length gs≤40∧List.length bs≤40))))
 |_=> .no
noncomputable def ZG:List LV→T LV:=gZ Tryz.prog Tryz.f34.params.toList ad6
theorem ap4 (cs:List Cd) (os:List ByteArray) (ks:List Ko) (gs:List Ch) (bs:List Ba):bW Tryz.prog aS (Vm) fE aC Tryz.f34 [.agg [.xl eu cs,.xl .str os,.xl eG ks,.xl dK gs,.xl eP bs]]=.ok (.v (.bool ((decide ((List.length cs:Int)≤40))&&((decide ((List.length os:Int)≤40))&&((decide ((List.length ks:Int)≤40))&&((decide ((List.length gs:Int)≤40))&&(decide ((List.length bs:Int)≤40)))))))):=by kernel_rfl
theorem avQ:Valid Tryz.prog aS 34 ZG:=aI Tryz.func34 rfl acp aG (aY (by kernel_rfl)) (fun args lv h=>by
 unfold ad6 at h
 split at h
 ·simp only [canL,canX]
  rw [ap4]
  obtain rfl:=h
  refine congrArg (fun z=>LV.v (.bool z)) ?_
  rw [Bool.eq_iff_iff]
  simp only [Bool.and_eq_true,decide_eq_true_eq]
  omega
 ·cases h)
def ad7:List LV→T LV
 | [.v (.agg ⟨[.string nm,.int .i64 up_,.int .i64 li,.int .i64 ne,.int .i64 ra,.int .i64 he,.int .i64 am,.int .i64 mo,.int .i64 ga,.int .i64 lo,.int .i64 de]⟩),.v (.int .i64 i)]=> .req (0≤i∧i≤1000) (.ok (.v (.bool (Fb i (nm,up_,li,ne,(ra,he),am,mo,ga,lo,de)))))
 |_=> .no
noncomputable def ZH:List LV→T LV:=gZ Tryz.prog Tryz.f88.params.toList ad7
theorem ap5 (nm:ByteArray) (up_ li ne ra he am mo ga lo de i:Int):bW Tryz.prog aS (ak0) fE aC Tryz.f88 [.v (.agg #[.string nm,.int .i64 up_,.int .i64 li,.int .i64 ne,.int .i64 ra,.int .i64 he,.int .i64 am,.int .i64 mo,.int .i64 ga,.int .i64 lo,.int .i64 de]),.v (.int .i64 i)]=.br ((!(inB li (1:Int) (1000:Int))) ||((!(inB ne (1:Int) (1000:Int))) ||(if i==0 then (up_ !=(-1)) ||((decide (i>0))&&(!(inB up_ (0:Int) (IntKind.i64.wrap (i-1))))) else (decide (i>0))&&(!(inB up_ (0:Int) (IntKind.i64.wrap (i-1))))))) (.ok (.v (.bool false))) (.br ((!((ra==0)&&(he==0)))&&((!(inB ra (1:Int) (1000:Int))) ||(!(inB he (0:Int) (1000000:Int))))) (.ok (.v (.bool false))) (.ok (.v (.bool (((am==0)&&((mo==0)&&((ga==0)&&((lo==0)&&(de==0))))) ||((inB am (0:Int) (200000:Int))&&((inB mo (IntKind.i64.wrap (am+1)) (200000:Int))&&((inB ga (0:Int) (1000:Int))&&((inB lo (0:Int) (1000:Int))&&(inB de (1:Int) (1000000:Int))))))))))):=by kernel_rfl
theorem avR:Valid Tryz.prog aS 88 ZH:=aI Tryz.func88 rfl aud aG (aY (by kernel_rfl)) (fun args lv h=>by
 unfold ad7 at h
 split at h
 ·simp only [canL,canX]
  rw [ap5]
  rename_i nm up_ li ne ra he am mo ga lo de i
  obtain ⟨⟨h0,h1⟩,rfl⟩:=h
  have hw:IntKind.i64.wrap (i-1)=i-1:=aN (by omega) (by omega)
  rw [hw]
  have hU:(if i==0 then (up_ !=(-1)) ||((decide (i>0))&&(!(inB up_ (0:Int) (i-1)))) else (decide (i>0))&&(!(inB up_ (0:Int) (i-1))))=!(if i=0 then up_==-1 else inB up_ 0 (i-1)):=by
   by_cases e:i=0
   ·subst e
    simp
    rfl
   ·rw [if_neg (by simpa using e),if_neg e,decide_eq_true (by omega),Bool.true_and]
  rw [hU]
  unfold Fb
  simp only
  generalize (if i=0 then up_==-1 else inB up_ 0 (i-1))=u
  generalize inB li 1 1000=a
  generalize inB ne 1 1000=b
  have hC:((((am==0)&&((mo==0)&&((ga==0)&&((lo==0)&&(de==0))))) ||((inB am (0:Int) (200000:Int))&&((inB mo (IntKind.i64.wrap (am+1)) (200000:Int))&&((inB ga (0:Int) (1000:Int))&&((inB lo (0:Int) (1000:Int))&&(inB de (1:Int) (1000000:Int))))))))=Sj (am,mo,ga,lo,de):=by
   unfold Sj cbZ
   simp only
   congr 1
   by_cases ha:inB am 0 200000=true
   ·have:=dV.1 ha
    rw [aN (x:=am+1) (by omega) (by omega),ha,Bool.true_and,Bool.eq_iff_iff]
    simp only [Bool.and_eq_true,dV,decide_eq_true_eq]
    omega
   ·have ha:inB am 0 200000=false:=by simpa using ha
    rw [ha,Bool.false_and,eq_comm,Bool.eq_false_iff]
    have:=akk.1 ha
    simp only [ne_eq,Bool.and_eq_true,dV,decide_eq_true_eq]
    omega
  rw [hC]
  generalize Sj (am,mo,ga,lo,de)=z
  generalize ((ra==0)&&(he==0))=f
  generalize inB ra 1 1000=r
  generalize inB he 0 1000000=q
  cases u<;>cases a<;>cases b<;>cases z<;>cases f<;>cases r<;>cases q<;>simp [T.all]
 ·cases h)
structure vO where
 l:List ByteArray
 w:ByteArray
 r:Bool
 i:Int
def aHu (s:vO):List LV:=[.xl .str s.l,.v (.string s.w),.v (.bool s.r),.v (.int .i64 s.i)]
def aHm (_:vO):List aW:=[]
noncomputable def Hz:Code:=((aB (Tryz.f123.body.getD .skip))[0]?).getD .skip
def agN (s:vO):T (Rd vO):=
 .br (decide (s.i<(List.length s.l:Int))) (.req (0≤s.i∧s.i<(List.length s.l:Int)) (.br ((gS s.l s.i).toList==s.w.toList) (.ok (.stop (.ret) {s with r:=true})) (.ok (.next {s with i:=(IntKind.i64.wrap (s.i+1))})))) (.ok (.stop (.exit 0) s))
abbrev ars (s:vO):=(agN s).rd s
def aAI (s:vO):Prop:=s.i=0∧(List.length s.l:Int)≤1000∧True
def am5 (s:vO):Prop:=0≤s.i∧s.i≤(List.length s.l:Int)∧(List.length s.l:Int)≤1000∧True
def abV (s:vO):Nat:=((List.length s.l:Int)-s.i).toNat
def aEv (_:Ex) (_ _:vO):Prop:=True
theorem aGV:∀s,aAI s→am5 s:=by
 intro s h
 obtain ⟨h0,h1,h2⟩:=h
 exact ⟨by omega,by omega,h1,h2⟩
theorem aCz (s:vO) (hI:am5 s):bP (fun s'=>am5 s'∧abV s'<abV s) (fun x s'=>aEv x s s') (ars s):=by
 unfold ars agN
 dsimp only [T.rd,T.rl]
 obtain ⟨h0,h1,h2,h3⟩:=hI
 refine au (fun c1=>?_) (fun c1=>?_)
 ·refine au (fun c2=>?_) (fun c2=>?_)
  ·trivial
  ·have c1:s.i<(List.length s.l:Int):=by simpa using c1
   rw [aN (x:=s.i+1) (by omega) (by omega)]
   exact ⟨⟨by simp only;omega,by simp only;omega,h2,h3⟩,by simp only [abV];omega⟩
 ·trivial
def Xm:bQ vO:=⟨0,18,[0,1,4,5],[],aHu,aHm,fun v _=>⟨aQ .str (v.getD 0 .junk),gSr (v.getD 1 .junk),yF (v.getD 2 .junk),gI (v.getD 3 .junk)⟩,agN,fun s r=> {r with l:=s.l,w:=s.w},fun s=>s,fun _ s=>s,[.ret,.exit 0],aAI,am5,abV⟩
abbrev ag8:=Xm.run
abbrev alj:=Xm.jU
abbrev aEz:=Xm.q
theorem aCi (s:vO) (hI:am5 s):(agN s).all (fun _=>True):=by
 refine ⟨fun c1=>⟨?_,fun _=>trivial,fun _=>trivial⟩,fun _=>trivial⟩
 ·(obtain ⟨h0,h1,h2,h3⟩:=hI;simp only [decide_eq_true_eq] at c1;omega)
theorem ati:Xm.Ok:=⟨fun s=>by kernel_rfl,fun s=>by kernel_rfl,fun s=>rfl,fun s t r=>rfl,fun s=>rfl,fun s=>by kernel_rfl⟩
theorem ata:Xm.Pf (aEv):=⟨aGV,fun _ _=>rfl,aCz,aCi⟩
theorem awE:bn Tryz.prog aS (AN 0) (.loop Hz) Xm.lp:=bQ.snd ati ata (aU (Γ:=Vm) (K:=fE) (L:=aC) acp aG Hz (fun b hb=>by rw [show aB Hz=[] by kernel_rfl] at hb;cases hb)) (fun s=>by kernel_rfl)
theorem ax4 (s:vO) (hE:aAI s):(fun (x:Ex) (s':vO) (v:Bool)=>(x=.ret∧s'.r=true∧v=true)∨(x=.exit 0∧v=false)) (alj s) (ag8 s) ((fun s:vO=>isIn (s.l.drop s.i.toNat) s.w) s):=by
 exact bQ.ul ati ata (fun s:vO=>isIn (s.l.drop s.i.toNat) s.w) (fun x s' v=>(x=.ret∧s'.r=true∧v=true)∨(x=.exit 0∧v=false)) (fun s hI=>by
  show bP _ _ (ars s)
  unfold ars agN
  dsimp only [T.rd,T.rl]
  obtain ⟨h0,h1,h2,h3⟩:=hI
  have ic:∀(x:ByteArray) xs,isIn (x::xs) s.w=(s.w==x ||isIn xs s.w):=fun _ _=>rfl
  refine au (fun c1=>au (fun c2=>?_) (fun c2=>?_)) (fun c1=>?_)
  ·have c1:s.i<(List.length s.l:Int):=by simpa using c1
   rw [uI] at c2
   have c2:s.w==gS s.l s.i:=by simpa using (eq_of_beq c2).symm
   refine .inl ⟨rfl,rfl,?_⟩
   try simp only
   rw [(vz h0 c1).1,ic,c2]
   rfl
  ·have c1:s.i<(List.length s.l:Int):=by simpa using c1
   rw [uI] at c2
   have c2:(s.w==gS s.l s.i)=false:=by
    have:¬gS s.l s.i=s.w:=by simpa using c2
    simpa using fun e=>this e.symm
   rw [aN (x:=s.i+1) (by omega) (by omega)]
   show isIn _ _=isIn _ _
   rw [(vz h0 c1).1,ic,c2,Bool.false_or]
  ·have c1:(List.length s.l:Int)≤s.i:=by simpa using c1
   refine .inr ⟨rfl,?_⟩
   rw [List.drop_eq_nil_of_le (by omega)]
   rfl) s hE
def al3:List LV→T LV
 | [.xl (.str) l,.v (.string w)]=> .req ((List.length l:Int)≤1000) (.ok (.v (.bool (isIn l w))))
 |_=> .no
noncomputable def alO:List LV→T LV:=gZ Tryz.prog Tryz.f123.params.toList al3
theorem ayt (l:List ByteArray) (w:ByteArray):bW Tryz.prog aS (Vm) fE (fun i=>if i=2 then Xm.lp else aC i) Tryz.f123 [.xl .str l,.v (.string w)]=.req (aEz (⟨l,w,false,(0:Int)⟩:vO)) (.br (iE (alj (⟨l,w,false,(0:Int)⟩:vO)) (.ret)) (.ok (.v (.bool (ag8 (⟨l,w,false,(0:Int)⟩:vO)).r))) (.ok (.v (.bool false)))):=by kernel_rfl
theorem aBG:Valid Tryz.prog aS 123 alO:=aI Tryz.func123 rfl acp aG (L:=(fun i=>if i=2 then Xm.lp else aC i)) (fun b hb=>by
 rw [show aB _=[Hz] by kernel_rfl] at hb
 simp only [List.mem_cons,List.not_mem_nil,or_false] at hb
 subst hb
 exact awE) (fun args lv h=>by
 unfold al3 at h
 split at h
 ·simp only [canL,canX]
  rw [ayt]
  obtain ⟨hl,rfl⟩:=h
  refine oH ⟨⟨rfl,hl,trivial⟩,rfl,rfl⟩ (fun hE=>?_)
  rcases ax4 _ hE.1 with ⟨q1,q2,q3⟩ |⟨q1,q2⟩
  ·rw [q1,q2]
   exact ⟨fun _=>congrArg (fun z=>LV.v (.bool z)) q3.symm,fun h=>by cases h⟩
  ·rw [q1]
   exact ⟨fun h=>(by cases h),fun _=>congrArg (fun z=>LV.v (.bool z)) q2.symm⟩
 ·cases h)
structure iO where
 r:Bool
 i:Int
 af:List Cd
 aA:List ByteArray
 ai:List Ko
 ak:List Ch
 aJ:List Ba
 l:List ByteArray
def aF1 (s:iO):List LV:=[.own 0 0,.v (.bool s.r),.os 1 1 0 (List.length s.l),.v (.int .i64 s.i)]
def aEY (s:iO):List aW:=[⟨[.xl eu s.af,.xl .str s.aA,.xl eG s.ai,.xl dK s.ak,.xl eP s.aJ],28,.cl,false⟩,⟨[],9,.vec .str s.l,false⟩]
noncomputable def BZ:Code:=((aB (Tryz.f87.body.getD .skip))[0]?).getD .skip
def TS (s:iO):T (Rd iO):=
 .br (decide (s.i<(List.length s.af:Int))) (.req (0≤s.i∧s.i<(List.length s.af:Int)) (.req (0+(List.length s.l)=List.length s.l∧((List.length s.l+List.length ([(dY s.af s.i).1]):Nat):Int)*16≤2^47∧((List.length s.l+List.length ([(dY s.af s.i).1]):Nat):Int)<2^62) (.req (0=0∧(List.length s.l+List.length ([(dY s.af s.i).1]))=List.length (s.l++([(dY s.af s.i).1]))) (.ok (.next {s with i:=(IntKind.i64.wrap (s.i+1)),l:=(s.l++([(dY s.af s.i).1]))}))))) (.rl s.l (.ok (.stop (.exit 0) s)))
abbrev acM (s:iO):=(TS s).rd s
def anm (s:iO):Prop:=s.i=0∧(List.length s.af:Int)≤1000∧(s.l.length:Int)≤5000+s.i
def WQ (s:iO):Prop:=0≤s.i∧s.i≤(List.length s.af:Int)∧(List.length s.af:Int)≤1000∧(s.l.length:Int)≤5000+s.i
def Qk (s:iO):Nat:=((List.length s.af:Int)-s.i).toNat
def avm (_:Ex) (_ _:iO):Prop:=True
theorem aCy:∀s,anm s→WQ s:=by
 intro s h
 obtain ⟨h0,h1,h2⟩:=h
 exact ⟨by omega,by omega,h1,h2⟩
theorem ax2 (s:iO) (hI:WQ s):bP (fun s'=>WQ s'∧Qk s'<Qk s) (fun x s'=>avm x s s') (acM s):=by
 unfold acM TS
 dsimp only [T.rd,T.rl]
 obtain ⟨h0,h1,h2,h3⟩:=hI
 refine au (fun c1=>?_) (fun c1=>?_)
 ·have c1:s.i<(List.length s.af:Int):=by simpa using c1
  rw [aN (x:=s.i+1) (by omega) (by omega)]
  exact ⟨⟨by simp only;omega,by simp only;omega,h2,by simp only [List.length_append,List.length_cons,List.length_nil];omega⟩,by simp only [Qk];omega⟩
 ·trivial
def FP:bQ iO:=⟨0,112,[1,2,3,4],[.nl 3 9 .str],aF1,aEY,fun v b=>⟨yF (v.getD 1 .junk),gI (v.getD 3 .junk),aQ eu (aV (aO b 0) 0),aQ .str (aV (aO b 0) 1),aQ eG (aV (aO b 0) 2),aQ dK (aV (aO b 0) 3),aQ eP (aV (aO b 0) 4),jd .str (aO b 1)⟩,TS,fun s r=> {r with r:=s.r,af:=s.af,aA:=s.aA,ai:=s.ai,ak:=s.ak,aJ:=s.aJ},fun s=>s,fun _ s=>s,[.exit 0],anm,WQ,Qk⟩
abbrev jS:=FP.run
abbrev arD:=FP.jU
abbrev aAH:=FP.q
theorem axe (s:iO) (hI:WQ s):(TS s).all (fun _=>True):=by
 refine ⟨fun c1=>⟨?_,?_,?_,trivial⟩,fun c1=>⟨⟨rfl,rfl⟩,trivial⟩⟩
 iterate 2 · (obtain ⟨h0,h1,h2,h3⟩:=hI;simp only [decide_eq_true_eq] at c1;first|omega|(refine ⟨by omega,?_,?_⟩<;>simp only [List.length_cons,List.length_nil]<;>omega))
 ·exact ⟨rfl,by simp⟩
noncomputable def EW:Specs:=bf [(122,SK),(123,alO)]
theorem Jt:∀g S,EW g=some S→Valid Tryz.prog aS g S:=aT (l:=[(122,SK),(123,alO)]) ⟨anF,aBG,trivial⟩
theorem aiR:FP.Ok:=⟨fun s=>by kernel_rfl,fun s=>by kernel_rfl,fun s=>rfl,fun s t r=>rfl,fun s=>rfl,fun s=>by kernel_rfl⟩
theorem ahJ:FP.Pf (avm):=⟨aCy,fun _ _=>rfl,ax2,axe⟩
theorem aoh:bn Tryz.prog aS (AN 0) (.loop BZ) FP.lp:=bQ.snd aiR ahJ (aU (Γ:=EW) (K:=fE) (L:=aC) Jt aG BZ (fun b hb=>by rw [show aB BZ=[] by kernel_rfl] at hb;cases hb)) (fun s=>by kernel_rfl)
theorem apj (s:iO) (hE:anm s):(fun (x:Ex) (s':iO) (v:List ByteArray)=>x=.exit 0∧s'.l=v) (arD s) (jS s) ((fun s:iO=>s.l++(s.af.drop s.i.toNat).map (·.1)) s):=by
 exact bQ.ul aiR ahJ (fun s:iO=>s.l++(s.af.drop s.i.toNat).map (·.1)) (fun x s' v=>x=.exit 0∧s'.l=v) (fun s hI=>by
  show bP _ _ (acM s)
  unfold acM TS
  dsimp only [T.rd,T.rl]
  obtain ⟨h0,h1,h2,h3⟩:=hI
  refine au (fun c1=>?_) (fun c1=>?_)
  ·have c1:s.i<(List.length s.af:Int):=by simpa using c1
   rw [aN (x:=s.i+1) (by omega) (by omega)]
   show _++_=_++_
   try simp only
   rw [(Vt h0 c1).1]
   simp
  ·have c1:(List.length s.af:Int)≤s.i:=by simpa using c1
   refine ⟨rfl,?_⟩
   rw [List.drop_eq_nil_of_le (by omega)]
   simp) s hE
structure jb where
 r:Bool
 i:Int
 af:List Cd
 aA:List ByteArray
 ai:List Ko
 ak:List Ch
 aJ:List Ba
 l:List ByteArray
def aF0 (s:jb):List LV:=[.own 0 0,.v (.bool s.r),.os 1 1 0 (List.length s.l),.v (.int .i64 s.i)]
def aEX (s:jb):List aW:=[⟨[.xl eu s.af,.xl .str s.aA,.xl eG s.ai,.xl dK s.ak,.xl eP s.aJ],28,.cl,false⟩,⟨[],9,.vec .str s.l,false⟩]
noncomputable def BX:Code:=((aB (Tryz.f87.body.getD .skip))[1]?).getD .skip
def TQ (s:jb):T (Rd jb):=
 .br (decide (s.i<(List.length s.aA:Int))) (.req (0≤s.i∧s.i<(List.length s.aA:Int)) (.req (0+(List.length s.l)=List.length s.l∧((List.length s.l+List.length ([(gS s.aA s.i)]):Nat):Int)*16≤2^47∧((List.length s.l+List.length ([(gS s.aA s.i)]):Nat):Int)<2^62) (.req (0=0∧(List.length s.l+List.length ([(gS s.aA s.i)]))=List.length (s.l++([(gS s.aA s.i)]))) (.ok (.next {s with i:=(IntKind.i64.wrap (s.i+1)),l:=(s.l++([(gS s.aA s.i)]))}))))) (.rl s.l (.ok (.stop (.exit 2) s)))
abbrev acL (s:jb):=(TQ s).rd s
def anl (s:jb):Prop:=s.i=0∧(List.length s.aA:Int)≤1000∧(s.l.length:Int)≤5000+s.i
def WO (s:jb):Prop:=0≤s.i∧s.i≤(List.length s.aA:Int)∧(List.length s.aA:Int)≤1000∧(s.l.length:Int)≤5000+s.i
def Qj (s:jb):Nat:=((List.length s.aA:Int)-s.i).toNat
def avl (_:Ex) (_ _:jb):Prop:=True
theorem aCx:∀s,anl s→WO s:=by
 intro s h
 obtain ⟨h0,h1,h2⟩:=h
 exact ⟨by omega,by omega,h1,h2⟩
theorem ax1 (s:jb) (hI:WO s):bP (fun s'=>WO s'∧Qj s'<Qj s) (fun x s'=>avl x s s') (acL s):=by
 unfold acL TQ
 dsimp only [T.rd,T.rl]
 obtain ⟨h0,h1,h2,h3⟩:=hI
 refine au (fun c1=>?_) (fun c1=>?_)
 ·have c1:s.i<(List.length s.aA:Int):=by simpa using c1
  rw [aN (x:=s.i+1) (by omega) (by omega)]
  exact ⟨⟨by simp only;omega,by simp only;omega,h2,by simp only [List.length_append,List.length_cons,List.length_nil];omega⟩,by simp only [Qj];omega⟩
 ·trivial
def FO:bQ jb:=⟨0,112,[1,2,3,5],[],aF0,aEX,fun v b=>⟨yF (v.getD 1 .junk),gI (v.getD 3 .junk),aQ eu (aV (aO b 0) 0),aQ .str (aV (aO b 0) 1),aQ eG (aV (aO b 0) 2),aQ dK (aV (aO b 0) 3),aQ eP (aV (aO b 0) 4),jd .str (aO b 1)⟩,TQ,fun s r=> {r with r:=s.r,af:=s.af,aA:=s.aA,ai:=s.ai,ak:=s.ak,aJ:=s.aJ},fun s=>s,fun _ s=>s,[.exit 2],anl,WO,Qj⟩
abbrev lG:=FO.run
abbrev arC:=FO.jU
abbrev aAG:=FO.q
theorem axd (s:jb) (hI:WO s):(TQ s).all (fun _=>True):=by
 refine ⟨fun c1=>⟨?_,?_,?_,trivial⟩,fun c1=>⟨⟨rfl,rfl⟩,trivial⟩⟩
 iterate 2 · (obtain ⟨h0,h1,h2,h3⟩:=hI;simp only [decide_eq_true_eq] at c1;first|omega|(refine ⟨by omega,?_,?_⟩<;>simp only [List.length_cons,List.length_nil]<;>omega))
 ·exact ⟨rfl,by simp⟩
theorem aiQ:FO.Ok:=⟨fun s=>by kernel_rfl,fun s=>by kernel_rfl,fun s=>rfl,fun s t r=>rfl,fun s=>rfl,fun s=>by kernel_rfl⟩
theorem ahI:FO.Pf (avl):=⟨aCx,fun _ _=>rfl,ax1,axd⟩
theorem aog:bn Tryz.prog aS (AN 0) (.loop BX) FO.lp:=bQ.snd aiQ ahI (aU (Γ:=EW) (K:=fE) (L:=aC) Jt aG BX (fun b hb=>by rw [show aB BX=[] by kernel_rfl] at hb;cases hb)) (fun s=>by kernel_rfl)
theorem aph (s:jb) (hE:anl s):(fun (x:Ex) (s':jb) (v:List ByteArray)=>x=.exit 2∧s'.l=v) (arC s) (lG s) ((fun s:jb=>s.l++(s.aA.drop s.i.toNat)) s):=by
 exact bQ.ul aiQ ahI (fun s:jb=>s.l++(s.aA.drop s.i.toNat)) (fun x s' v=>x=.exit 2∧s'.l=v) (fun s hI=>by
  show bP _ _ (acL s)
  unfold acL TQ
  dsimp only [T.rd,T.rl]
  obtain ⟨h0,h1,h2,h3⟩:=hI
  refine au (fun c1=>?_) (fun c1=>?_)
  ·have c1:s.i<(List.length s.aA:Int):=by simpa using c1
   rw [aN (x:=s.i+1) (by omega) (by omega)]
   show _++_=_++_
   try simp only
   rw [(vz h0 c1).1]
   simp
  ·have c1:(List.length s.aA:Int)≤s.i:=by simpa using c1
   refine ⟨rfl,?_⟩
   rw [List.drop_eq_nil_of_le (by omega)]
   simp) s hE
structure jK where
 r:Bool
 i:Int
 af:List Cd
 aA:List ByteArray
 ai:List Ko
 ak:List Ch
 aJ:List Ba
 l:List ByteArray
def aFZ (s:jK):List LV:=[.own 0 0,.v (.bool s.r),.os 1 1 0 (List.length s.l),.v (.int .i64 s.i)]
def aEW (s:jK):List aW:=[⟨[.xl eu s.af,.xl .str s.aA,.xl eG s.ai,.xl dK s.ak,.xl eP s.aJ],28,.cl,false⟩,⟨[],9,.vec .str s.l,false⟩]
noncomputable def BV:Code:=((aB (Tryz.f87.body.getD .skip))[2]?).getD .skip
def TP (s:jK):T (Rd jK):=
 .br (decide (s.i<(List.length s.ai:Int))) (.req (0≤s.i∧s.i<(List.length s.ai:Int)) (.req (0+(List.length s.l)=List.length s.l∧((List.length s.l+List.length ([(nR s.ai s.i).1]):Nat):Int)*16≤2^47∧((List.length s.l+List.length ([(nR s.ai s.i).1]):Nat):Int)<2^62) (.req (0=0∧(List.length s.l+List.length ([(nR s.ai s.i).1]))=List.length (s.l++([(nR s.ai s.i).1]))) (.ok (.next {s with i:=(IntKind.i64.wrap (s.i+1)),l:=(s.l++([(nR s.ai s.i).1]))}))))) (.rl s.l (.ok (.stop (.exit 4) s)))
abbrev acK (s:jK):=(TP s).rd s
def ank (s:jK):Prop:=s.i=0∧(List.length s.ai:Int)≤1000∧(s.l.length:Int)≤5000+s.i
def WN (s:jK):Prop:=0≤s.i∧s.i≤(List.length s.ai:Int)∧(List.length s.ai:Int)≤1000∧(s.l.length:Int)≤5000+s.i
def Qi (s:jK):Nat:=((List.length s.ai:Int)-s.i).toNat
def avk (_:Ex) (_ _:jK):Prop:=True
theorem aCw:∀s,ank s→WN s:=by
 intro s h
 obtain ⟨h0,h1,h2⟩:=h
 exact ⟨by omega,by omega,h1,h2⟩
theorem ax0 (s:jK) (hI:WN s):bP (fun s'=>WN s'∧Qi s'<Qi s) (fun x s'=>avk x s s') (acK s):=by
 unfold acK TP
 dsimp only [T.rd,T.rl]
 obtain ⟨h0,h1,h2,h3⟩:=hI
 refine au (fun c1=>?_) (fun c1=>?_)
 ·have c1:s.i<(List.length s.ai:Int):=by simpa using c1
  rw [aN (x:=s.i+1) (by omega) (by omega)]
  exact ⟨⟨by simp only;omega,by simp only;omega,h2,by simp only [List.length_append,List.length_cons,List.length_nil];omega⟩,by simp only [Qi];omega⟩
 ·trivial
def FN:bQ jK:=⟨0,112,[1,2,3,6],[],aFZ,aEW,fun v b=>⟨yF (v.getD 1 .junk),gI (v.getD 3 .junk),aQ eu (aV (aO b 0) 0),aQ .str (aV (aO b 0) 1),aQ eG (aV (aO b 0) 2),aQ dK (aV (aO b 0) 3),aQ eP (aV (aO b 0) 4),jd .str (aO b 1)⟩,TP,fun s r=> {r with r:=s.r,af:=s.af,aA:=s.aA,ai:=s.ai,ak:=s.ak,aJ:=s.aJ},fun s=>s,fun _ s=>s,[.exit 4],ank,WN,Qi⟩
abbrev oJ:=FN.run
abbrev arB:=FN.jU
abbrev aAF:=FN.q
theorem axc (s:jK) (hI:WN s):(TP s).all (fun _=>True):=by
 refine ⟨fun c1=>⟨?_,?_,?_,trivial⟩,fun c1=>⟨⟨rfl,rfl⟩,trivial⟩⟩
 iterate 2 · (obtain ⟨h0,h1,h2,h3⟩:=hI;simp only [decide_eq_true_eq] at c1;first|omega|(refine ⟨by omega,?_,?_⟩<;>simp only [List.length_cons,List.length_nil]<;>omega))
 ·exact ⟨rfl,by simp⟩
theorem aiP:FN.Ok:=⟨fun s=>by kernel_rfl,fun s=>by kernel_rfl,fun s=>rfl,fun s t r=>rfl,fun s=>rfl,fun s=>by kernel_rfl⟩
theorem ahH:FN.Pf (avk):=⟨aCw,fun _ _=>rfl,ax0,axc⟩
theorem aof:bn Tryz.prog aS (AN 0) (.loop BV) FN.lp:=bQ.snd aiP ahH (aU (Γ:=EW) (K:=fE) (L:=aC) Jt aG BV (fun b hb=>by rw [show aB BV=[] by kernel_rfl] at hb;cases hb)) (fun s=>by kernel_rfl)
theorem apg (s:jK) (hE:ank s):(fun (x:Ex) (s':jK) (v:List ByteArray)=>x=.exit 4∧s'.l=v) (arB s) (oJ s) ((fun s:jK=>s.l++(s.ai.drop s.i.toNat).map (·.1)) s):=by
 exact bQ.ul aiP ahH (fun s:jK=>s.l++(s.ai.drop s.i.toNat).map (·.1)) (fun x s' v=>x=.exit 4∧s'.l=v) (fun s hI=>by
  show bP _ _ (acK s)
  unfold acK TP
  dsimp only [T.rd,T.rl]
  obtain ⟨h0,h1,h2,h3⟩:=hI
  refine au (fun c1=>?_) (fun c1=>?_)
  ·have c1:s.i<(List.length s.ai:Int):=by simpa using c1
   rw [aN (x:=s.i+1) (by omega) (by omega)]
   show _++_=_++_
   try simp only
   rw [(JC h0 c1).1]
   simp
  ·have c1:(List.length s.ai:Int)≤s.i:=by simpa using c1
   refine ⟨rfl,?_⟩
   rw [List.drop_eq_nil_of_le (by omega)]
   simp) s hE
structure kD where
 r:Bool
 i:Int
 af:List Cd
 aA:List ByteArray
 ai:List Ko
 ak:List Ch
 aJ:List Ba
 l:List ByteArray
def aFY (s:kD):List LV:=[.own 0 0,.v (.bool s.r),.os 1 1 0 (List.length s.l),.v (.int .i64 s.i)]
def aEV (s:kD):List aW:=[⟨[.xl eu s.af,.xl .str s.aA,.xl eG s.ai,.xl dK s.ak,.xl eP s.aJ],28,.cl,false⟩,⟨[],9,.vec .str s.l,false⟩]
noncomputable def BU:Code:=((aB (Tryz.f87.body.getD .skip))[3]?).getD .skip
def TN (s:kD):T (Rd kD):=
 .br (decide (s.i<(List.length s.ak:Int))) (.req (0≤s.i∧s.i<(List.length s.ak:Int)) (.req (0+(List.length s.l)=List.length s.l∧((List.length s.l+List.length ([(bD s.ak s.i).1]):Nat):Int)*16≤2^47∧((List.length s.l+List.length ([(bD s.ak s.i).1]):Nat):Int)<2^62) (.req (0=0∧(List.length s.l+List.length ([(bD s.ak s.i).1]))=List.length (s.l++([(bD s.ak s.i).1]))) (.ok (.next {s with i:=(IntKind.i64.wrap (s.i+1)),l:=(s.l++([(bD s.ak s.i).1]))}))))) (.rl s.l (.ok (.stop (.exit 6) s)))
abbrev acJ (s:kD):=(TN s).rd s
def anj (s:kD):Prop:=s.i=0∧(List.length s.ak:Int)≤1000∧(s.l.length:Int)≤5000+s.i
def WM (s:kD):Prop:=0≤s.i∧s.i≤(List.length s.ak:Int)∧(List.length s.ak:Int)≤1000∧(s.l.length:Int)≤5000+s.i
def Qh (s:kD):Nat:=((List.length s.ak:Int)-s.i).toNat
def avj (_:Ex) (_ _:kD):Prop:=True
theorem aCv:∀s,anj s→WM s:=by
 intro s h
 obtain ⟨h0,h1,h2⟩:=h
 exact ⟨by omega,by omega,h1,h2⟩
theorem axZ (s:kD) (hI:WM s):bP (fun s'=>WM s'∧Qh s'<Qh s) (fun x s'=>avj x s s') (acJ s):=by
 unfold acJ TN
 dsimp only [T.rd,T.rl]
 obtain ⟨h0,h1,h2,h3⟩:=hI
 refine au (fun c1=>?_) (fun c1=>?_)
 ·have c1:s.i<(List.length s.ak:Int):=by simpa using c1
  rw [aN (x:=s.i+1) (by omega) (by omega)]
  exact ⟨⟨by simp only;omega,by simp only;omega,h2,by simp only [List.length_append,List.length_cons,List.length_nil];omega⟩,by simp only [Qh];omega⟩
 ·trivial
def FM:bQ kD:=⟨0,112,[1,2,3,7],[],aFY,aEV,fun v b=>⟨yF (v.getD 1 .junk),gI (v.getD 3 .junk),aQ eu (aV (aO b 0) 0),aQ .str (aV (aO b 0) 1),aQ eG (aV (aO b 0) 2),aQ dK (aV (aO b 0) 3),aQ eP (aV (aO b 0) 4),jd .str (aO b 1)⟩,TN,fun s r=> {r with r:=s.r,af:=s.af,aA:=s.aA,ai:=s.ai,ak:=s.ak,aJ:=s.aJ},fun s=>s,fun _ s=>s,[.exit 6],anj,WM,Qh⟩
abbrev rO:=FM.run
abbrev arA:=FM.jU
abbrev aAE:=FM.q
theorem axb (s:kD) (hI:WM s):(TN s).all (fun _=>True):=by
 refine ⟨fun c1=>⟨?_,?_,?_,trivial⟩,fun c1=>⟨⟨rfl,rfl⟩,trivial⟩⟩
 iterate 2 · (obtain ⟨h0,h1,h2,h3⟩:=hI;simp only [decide_eq_true_eq] at c1;first|omega|(refine ⟨by omega,?_,?_⟩<;>simp only [List.length_cons,List.length_nil]<;>omega))
 ·exact ⟨rfl,by simp⟩
theorem aiO:FM.Ok:=⟨fun s=>by kernel_rfl,fun s=>by kernel_rfl,fun s=>rfl,fun s t r=>rfl,fun s=>rfl,fun s=>by kernel_rfl⟩
theorem ahG:FM.Pf (avj):=⟨aCv,fun _ _=>rfl,axZ,axb⟩
theorem aoe:bn Tryz.prog aS (AN 0) (.loop BU) FM.lp:=bQ.snd aiO ahG (aU (Γ:=EW) (K:=fE) (L:=aC) Jt aG BU (fun b hb=>by rw [show aB BU=[] by kernel_rfl] at hb;cases hb)) (fun s=>by kernel_rfl)
theorem apf (s:kD) (hE:anj s):(fun (x:Ex) (s':kD) (v:List ByteArray)=>x=.exit 6∧s'.l=v) (arA s) (rO s) ((fun s:kD=>s.l++(s.ak.drop s.i.toNat).map (·.1)) s):=by
 exact bQ.ul aiO ahG (fun s:kD=>s.l++(s.ak.drop s.i.toNat).map (·.1)) (fun x s' v=>x=.exit 6∧s'.l=v) (fun s hI=>by
  show bP _ _ (acJ s)
  unfold acJ TN
  dsimp only [T.rd,T.rl]
  obtain ⟨h0,h1,h2,h3⟩:=hI
  refine au (fun c1=>?_) (fun c1=>?_)
  ·have c1:s.i<(List.length s.ak:Int):=by simpa using c1
   rw [aN (x:=s.i+1) (by omega) (by omega)]
   show _++_=_++_
   try simp only
   rw [(Vr h0 c1).1]
   simp
  ·have c1:(List.length s.ak:Int)≤s.i:=by simpa using c1
   refine ⟨rfl,?_⟩
   rw [List.drop_eq_nil_of_le (by omega)]
   simp) s hE
structure lq where
 r:Bool
 i:Int
 af:List Cd
 aA:List ByteArray
 ai:List Ko
 ak:List Ch
 aJ:List Ba
 l:List ByteArray
def aFX (s:lq):List LV:=[.own 0 0,.v (.bool s.r),.os 1 1 0 (List.length s.l),.v (.int .i64 s.i)]
def aEU (s:lq):List aW:=[⟨[.xl eu s.af,.xl .str s.aA,.xl eG s.ai,.xl dK s.ak,.xl eP s.aJ],28,.cl,false⟩,⟨[],9,.vec .str s.l,false⟩]
noncomputable def BR:Code:=((aB (Tryz.f87.body.getD .skip))[4]?).getD .skip
def TM (s:lq):T (Rd lq):=
 .br (decide (s.i<(List.length s.aJ:Int))) (.req (0≤s.i∧s.i<(List.length s.aJ:Int)) (.req (0+(List.length s.l)=List.length s.l∧((List.length s.l+List.length ([(DL s.aJ s.i).1]):Nat):Int)*16≤2^47∧((List.length s.l+List.length ([(DL s.aJ s.i).1]):Nat):Int)<2^62) (.req (0=0∧(List.length s.l+List.length ([(DL s.aJ s.i).1]))=List.length (s.l++([(DL s.aJ s.i).1]))) (.ok (.next {s with i:=(IntKind.i64.wrap (s.i+1)),l:=(s.l++([(DL s.aJ s.i).1]))}))))) (.rl s.l (.ok (.stop (.exit 8) s)))
abbrev acI (s:lq):=(TM s).rd s
def ani (s:lq):Prop:=s.i=0∧(List.length s.aJ:Int)≤1000∧(s.l.length:Int)≤5000+s.i
def WL (s:lq):Prop:=0≤s.i∧s.i≤(List.length s.aJ:Int)∧(List.length s.aJ:Int)≤1000∧(s.l.length:Int)≤5000+s.i
def Qg (s:lq):Nat:=((List.length s.aJ:Int)-s.i).toNat
def avi (_:Ex) (_ _:lq):Prop:=True
theorem aCu:∀s,ani s→WL s:=by
 intro s h
 obtain ⟨h0,h1,h2⟩:=h
 exact ⟨by omega,by omega,h1,h2⟩
theorem axY (s:lq) (hI:WL s):bP (fun s'=>WL s'∧Qg s'<Qg s) (fun x s'=>avi x s s') (acI s):=by
 unfold acI TM
 dsimp only [T.rd,T.rl]
 obtain ⟨h0,h1,h2,h3⟩:=hI
 refine au (fun c1=>?_) (fun c1=>?_)
 ·have c1:s.i<(List.length s.aJ:Int):=by simpa using c1
  rw [aN (x:=s.i+1) (by omega) (by omega)]
  exact ⟨⟨by simp only;omega,by simp only;omega,h2,by simp only [List.length_append,List.length_cons,List.length_nil];omega⟩,by simp only [Qg];omega⟩
 ·trivial
def FK:bQ lq:=⟨0,112,[1,2,3,8],[],aFX,aEU,fun v b=>⟨yF (v.getD 1 .junk),gI (v.getD 3 .junk),aQ eu (aV (aO b 0) 0),aQ .str (aV (aO b 0) 1),aQ eG (aV (aO b 0) 2),aQ dK (aV (aO b 0) 3),aQ eP (aV (aO b 0) 4),jd .str (aO b 1)⟩,TM,fun s r=> {r with r:=s.r,af:=s.af,aA:=s.aA,ai:=s.ai,ak:=s.ak,aJ:=s.aJ},fun s=>s,fun _ s=>s,[.exit 8],ani,WL,Qg⟩
abbrev xU:=FK.run
abbrev arz:=FK.jU
abbrev aAD:=FK.q
theorem axa (s:lq) (hI:WL s):(TM s).all (fun _=>True):=by
 refine ⟨fun c1=>⟨?_,?_,?_,trivial⟩,fun c1=>⟨⟨rfl,rfl⟩,trivial⟩⟩
 iterate 2 · (obtain ⟨h0,h1,h2,h3⟩:=hI;simp only [decide_eq_true_eq] at c1;first|omega|(refine ⟨by omega,?_,?_⟩<;>simp only [List.length_cons,List.length_nil]<;>omega))
 ·exact ⟨rfl,by simp⟩
theorem aiN:FK.Ok:=⟨fun s=>by kernel_rfl,fun s=>by kernel_rfl,fun s=>rfl,fun s t r=>rfl,fun s=>rfl,fun s=>by kernel_rfl⟩
theorem ahF:FK.Pf (avi):=⟨aCu,fun _ _=>rfl,axY,axa⟩
theorem aod:bn Tryz.prog aS (AN 0) (.loop BR) FK.lp:=bQ.snd aiN ahF (aU (Γ:=EW) (K:=fE) (L:=aC) Jt aG BR (fun b hb=>by rw [show aB BR=[] by kernel_rfl] at hb;cases hb)) (fun s=>by kernel_rfl)
theorem ape (s:lq) (hE:ani s):(fun (x:Ex) (s':lq) (v:List ByteArray)=>x=.exit 8∧s'.l=v) (arz s) (xU s) ((fun s:lq=>s.l++(s.aJ.drop s.i.toNat).map (·.1)) s):=by
 exact bQ.ul aiN ahF (fun s:lq=>s.l++(s.aJ.drop s.i.toNat).map (·.1)) (fun x s' v=>x=.exit 8∧s'.l=v) (fun s hI=>by
  show bP _ _ (acI s)
  unfold acI TM
  dsimp only [T.rd,T.rl]
  obtain ⟨h0,h1,h2,h3⟩:=hI
  refine au (fun c1=>?_) (fun c1=>?_)
  ·have c1:s.i<(List.length s.aJ:Int):=by simpa using c1
   rw [aN (x:=s.i+1) (by omega) (by omega)]
   show _++_=_++_
   try simp only
   rw [(Vu h0 c1).1]
   simp
  ·have c1:(List.length s.aJ:Int)≤s.i:=by simpa using c1
   refine ⟨rfl,?_⟩
   rw [List.drop_eq_nil_of_le (by omega)]
   simp) s hE
structure nV where
 r:Bool
 i:Int
 l:List ByteArray
def aFW (s:nV):List LV:=[.v (.bool s.r),.os 0 1 0 (List.length s.l),.v (.int .i64 s.i)]
def aET (s:nV):List aW:=[⟨[],9,.vec .str s.l,false⟩]
noncomputable def BQ:Code:=((aB (Tryz.f87.body.getD .skip))[5]?).getD .skip
def aaR (s:nV):T (Rd nV):=
 .br (decide (s.i<((List.length s.l:Nat):Int))) (.req (0≤s.i∧s.i<((List.length s.l:Nat):Int)) (.req (s.i.toNat<List.length s.l) (.req (((s.l.getD s.i.toNat (Ty.dflt .str)).size:Int)≤9223372036854775807) (.br (!(nameB (s.l.getD s.i.toNat (Ty.dflt .str)))) (.rl s.l (.ok (.stop (.ret) {s with r:=false}))) (.req (0≤(0:Int)∧(0:Int)≤s.i∧s.i≤((List.length s.l:Nat):Int)) (.req (0≤s.i∧s.i<((List.length s.l:Nat):Int)) (.req (s.i.toNat<List.length s.l) (.req ((0+(0:Int).toNat)+(s.i.toNat-(0:Int).toNat)≤List.length s.l) (.req ((List.length ((s.l.drop (0+(0:Int).toNat)).take (s.i.toNat-(0:Int).toNat)):Int)≤1000) (.br (isIn ((s.l.drop (0+(0:Int).toNat)).take (s.i.toNat-(0:Int).toNat)) (s.l.getD s.i.toNat (Ty.dflt .str))) (.rl s.l (.ok (.stop (.ret) {s with r:=false}))) (.rl s.l (.ok (.next {s with i:=(IntKind.i64.wrap (s.i+1))}))))))))))))) (.rl s.l (.ok (.stop (.exit 10) s)))
abbrev auL (s:nV):=(aaR s).rd s
def OW (s:nV) (j:Int):Bool:=nameB (gS s.l j)&&!(((s.l.take j.toNat).map id).contains (id (gS s.l j)))
theorem aCs (s:nV) (_:0≤s.i):OW s s.i=(nameB (s.l.getD s.i.toNat (Ty.dflt .str))&&!(isIn ((s.l.drop (0+(0:Int).toNat)).take (s.i.toNat-(0:Int).toNat)) (s.l.getD s.i.toNat (Ty.dflt .str)))):=by
 unfold OW
 rw [List.map_id,LP]
 rfl
def anh (s:nV):Prop:=s.i=0∧(List.length s.l:Int)≤1000∧nmR s.l
def Oc (s:nV):Prop:=(0≤s.i∧s.i≤(List.length s.l:Int))∧(∀j:Nat,(j:Int)<s.i→OW s j=true)∧(List.length s.l:Int)≤1000∧nmR s.l
def Qe (s:nV):Nat:=((List.length s.l:Int)-s.i).toNat
def aeU (x:Ex) (_ s':nV):Prop:=(x=.exit 10∧∀j:Nat,(j:Int)<(List.length s'.l:Int)→OW s' j=true)∨(x=.ret∧s'.r=false∧∃j:Nat,(j:Int)<(List.length s'.l:Int)∧OW s' j=false)
theorem aCt:∀s,anh s→Oc s:=by
 intro s h
 obtain ⟨h0,h1,h2⟩:=h
 exact ⟨by omega,fun j hj=>by omega,h1,h2⟩
theorem axX (s:nV) (hI:Oc s):bP (fun s'=>Oc s'∧Qe s'<Qe s) (fun x s'=>aeU x s s') (auL s):=by
 unfold auL aaR
 dsimp only [T.rd,T.rl]
 obtain ⟨⟨h0,h1⟩,h2,h3,h4⟩:=hI
 have hg:=aCs s h0
 refine au (fun c1=>?_) (fun c1=>?_)
 rotate_left
 ·have c1:(List.length s.l:Int)≤s.i:=by simpa using c1
  exact .inl ⟨rfl,fun j hj=>h2 j (by omega)⟩
 have c1:s.i<(List.length s.l:Int):=by simpa using c1
 have bad:OW s s.i=false→aeU .ret s {s with r:=false}:=fun hg=> .inr ⟨rfl,rfl,s.i.toNat,by simp only;omega,by rw [Int.toNat_of_nonneg h0];exact hg⟩
 refine au (fun c2=>bad ?_) (fun c2=>au (fun c3=>bad ?_) (fun c3=>?_))
 ·rw [hg]
  simp only [Bool.not_eq_true'] at c2
  rw [c2]
  rfl
 ·rw [hg,c3]
  simp
 ·rw [c3] at hg
  simp only [Bool.not_eq_false'] at c2
  rw [c2] at hg
  rw [aN (x:=s.i+1) (by omega) (by omega)]
  refine ⟨⟨⟨by simp only;omega,by simp only;omega⟩,fun j hj=>?_,h3,h4⟩,by simp only [Qe];omega⟩
  by_cases hji:(j:Int)<s.i
  ·exact h2 j hji
  ·have:(j:Int)=s.i:=by simp only at hj;omega
   rw [this];exact hg
def FI:bQ nV:=⟨0,112,[2,3,9],[],aFW,aET,fun v b=>⟨yF (v.getD 0 .junk),gI (v.getD 2 .junk),jd .str (aO b 0)⟩,aaR,fun s r=> {r with l:=s.l},fun s=>s,fun _ s=>s,[.ret,.exit 10],anh,Oc,Qe⟩
abbrev abv:=FI.run
abbrev adi:=FI.jU
abbrev aAC:=FI.q
theorem aw9 (s:nV) (hI:Oc s):(aaR s).all (fun _=>True):=by
 refine ⟨fun c1=>⟨?_,?_,?_,fun c2=>⟨⟨rfl,rfl⟩,trivial⟩,fun c2=>⟨?_,?_,?_,?_,?_,fun c3=>⟨⟨rfl,rfl⟩,trivial⟩,fun c3=>⟨⟨rfl,rfl⟩,trivial⟩⟩⟩,fun c1=>⟨⟨rfl,rfl⟩,trivial⟩⟩
 iterate 2 · (obtain ⟨⟨h0,h1⟩,h2,h3,h4⟩:=hI;simp only [decide_eq_true_eq] at c1;first|omega|(simp only [List.length_take,List.length_drop];omega))
 ·(obtain ⟨⟨h0,h1⟩,h2,h3,h4⟩:=hI;simp only [decide_eq_true_eq] at c1;have hm:gS s.l s.i∈s.l:=(by rw [aDT (by omega)];exact List.getElem_mem _);exact h4 _ hm)
 iterate 5 · (obtain ⟨⟨h0,h1⟩,h2,h3,h4⟩:=hI;simp only [decide_eq_true_eq] at c1;first|omega|(simp only [List.length_take,List.length_drop];omega))
theorem aiM:FI.Ok:=⟨fun s=>by kernel_rfl,fun s=>by kernel_rfl,fun s=>rfl,fun s t r=>rfl,fun s=>rfl,fun s=>by kernel_rfl⟩
theorem ahE:FI.Pf (aeU):=⟨aCt,fun _ _=>rfl,axX,aw9⟩
theorem aoc:bn Tryz.prog aS (AN 0) (.loop BQ) FI.lp:=bQ.snd aiM ahE (aU (Γ:=EW) (K:=fE) (L:=aC) Jt aG BQ (fun b hb=>by rw [show aB BQ=[] by kernel_rfl] at hb;cases hb)) (fun s=>by kernel_rfl)
theorem apd (s:nV) (hE:anh s):∃s',Oc s'∧aeU (adi s) s' (abv s):=bQ.fin aiM ahE s hE
def ad4:List LV→T LV
 | [.agg [.xl (.pair .str (.pair (.int .i64) (.pair (.int .i64) (.pair (.int .i64) (.pair (.pair (.int .i64) (.int .i64)) (.pair (.int .i64) (.pair (.int .i64) (.pair (.int .i64) (.pair (.int .i64) (.int .i64)))))))))) cs,.xl (.str) os,.xl (.pair .str (.pair (.int .i64) (.pair (.int .i64) (.int .i64)))) ks,.xl (.pair .str (.pair (.int .i64) (.pair (.int .i64) (.pair (.int .i64) (.pair (.int .i64) (.pair (.int .i64) (.pair (.int .i64) (.int .i64)))))))) gs,.xl (.pair .str (.int .i64)) bs]]=> .req (((List.length cs:Int)≤100∧(List.length os:Int)≤100∧(List.length ks:Int)≤100∧(List.length gs:Int)≤100∧(List.length bs:Int)≤100)∧nmR (gY cs os ks gs bs)) (.ok (.v (.bool (nmB (gY cs os ks gs bs)))))
 |_=> .no
noncomputable def ZF:List LV→T LV:=gZ Tryz.prog Tryz.f87.params.toList ad4
theorem ap2 (cs:List Cd) (os:List ByteArray) (ks:List Ko) (gs:List Ch) (bs:List Ba):bW Tryz.prog aS (EW) fE (fun i=>if i=3 then FP.lp else if i=7 then FO.lp else if i=11 then FN.lp else if i=15 then FM.lp else if i=19 then FK.lp else if i=23 then FI.lp else aC i) Tryz.f87 [.agg [.xl eu cs,.xl .str os,.xl eG ks,.xl dK gs,.xl eP bs]]=.req (0=0∧0=List.length ([]:List ByteArray)) (.req (aAH (⟨false,(0:Int),cs,os,ks,gs,bs,([]:List ByteArray)⟩:iO)) (.rl (jS (⟨false,(0:Int),cs,os,ks,gs,bs,([]:List ByteArray)⟩:iO)).l (.req (aAG (⟨false,(0:Int),cs,os,ks,gs,bs,(jS (⟨false,(0:Int),cs,os,ks,gs,bs,([]:List ByteArray)⟩:iO)).l⟩:jb)) (.rl (lG (⟨false,(0:Int),cs,os,ks,gs,bs,(jS (⟨false,(0:Int),cs,os,ks,gs,bs,([]:List ByteArray)⟩:iO)).l⟩:jb)).l (.req (aAF (⟨false,(0:Int),cs,os,ks,gs,bs,(lG (⟨false,(0:Int),cs,os,ks,gs,bs,(jS (⟨false,(0:Int),cs,os,ks,gs,bs,([]:List ByteArray)⟩:iO)).l⟩:jb)).l⟩:jK)) (.rl (oJ (⟨false,(0:Int),cs,os,ks,gs,bs,(lG (⟨false,(0:Int),cs,os,ks,gs,bs,(jS (⟨false,(0:Int),cs,os,ks,gs,bs,([]:List ByteArray)⟩:iO)).l⟩:jb)).l⟩:jK)).l (.req (aAE (⟨false,(0:Int),cs,os,ks,gs,bs,(oJ (⟨false,(0:Int),cs,os,ks,gs,bs,(lG (⟨false,(0:Int),cs,os,ks,gs,bs,(jS (⟨false,(0:Int),cs,os,ks,gs,bs,([]:List ByteArray)⟩:iO)).l⟩:jb)).l⟩:jK)).l⟩:kD)) (.rl (rO (⟨false,(0:Int),cs,os,ks,gs,bs,(oJ (⟨false,(0:Int),cs,os,ks,gs,bs,(lG (⟨false,(0:Int),cs,os,ks,gs,bs,(jS (⟨false,(0:Int),cs,os,ks,gs,bs,([]:List ByteArray)⟩:iO)).l⟩:jb)).l⟩:jK)).l⟩:kD)).l (.req (aAD (⟨false,(0:Int),cs,os,ks,gs,bs,(rO (⟨false,(0:Int),cs,os,ks,gs,bs,(oJ (⟨false,(0:Int),cs,os,ks,gs,bs,(lG (⟨false,(0:Int),cs,os,ks,gs,bs,(jS (⟨false,(0:Int),cs,os,ks,gs,bs,([]:List ByteArray)⟩:iO)).l⟩:jb)).l⟩:jK)).l⟩:kD)).l⟩:lq)) (.rl (xU (⟨false,(0:Int),cs,os,ks,gs,bs,(rO (⟨false,(0:Int),cs,os,ks,gs,bs,(oJ (⟨false,(0:Int),cs,os,ks,gs,bs,(lG (⟨false,(0:Int),cs,os,ks,gs,bs,(jS (⟨false,(0:Int),cs,os,ks,gs,bs,([]:List ByteArray)⟩:iO)).l⟩:jb)).l⟩:jK)).l⟩:kD)).l⟩:lq)).l (.req (aAC (⟨false,(0:Int),(xU (⟨false,(0:Int),cs,os,ks,gs,bs,(rO (⟨false,(0:Int),cs,os,ks,gs,bs,(oJ (⟨false,(0:Int),cs,os,ks,gs,bs,(lG (⟨false,(0:Int),cs,os,ks,gs,bs,(jS (⟨false,(0:Int),cs,os,ks,gs,bs,([]:List ByteArray)⟩:iO)).l⟩:jb)).l⟩:jK)).l⟩:kD)).l⟩:lq)).l⟩:nV)) (.br (iE (adi (⟨false,(0:Int),(xU (⟨false,(0:Int),cs,os,ks,gs,bs,(rO (⟨false,(0:Int),cs,os,ks,gs,bs,(oJ (⟨false,(0:Int),cs,os,ks,gs,bs,(lG (⟨false,(0:Int),cs,os,ks,gs,bs,(jS (⟨false,(0:Int),cs,os,ks,gs,bs,([]:List ByteArray)⟩:iO)).l⟩:jb)).l⟩:jK)).l⟩:kD)).l⟩:lq)).l⟩:nV)) (.ret)) (.ok (.v (.bool (abv (⟨false,(0:Int),(xU (⟨false,(0:Int),cs,os,ks,gs,bs,(rO (⟨false,(0:Int),cs,os,ks,gs,bs,(oJ (⟨false,(0:Int),cs,os,ks,gs,bs,(lG (⟨false,(0:Int),cs,os,ks,gs,bs,(jS (⟨false,(0:Int),cs,os,ks,gs,bs,([]:List ByteArray)⟩:iO)).l⟩:jb)).l⟩:jK)).l⟩:kD)).l⟩:lq)).l⟩:nV)).r))) (.ok (.v (.bool true))))))))))))))):=by kernel_rfl
theorem avP:Valid Tryz.prog aS 87 ZF:=aI Tryz.func87 rfl Jt aG (L:=(fun i=>if i=3 then FP.lp else if i=7 then FO.lp else if i=11 then FN.lp else if i=15 then FM.lp else if i=19 then FK.lp else if i=23 then FI.lp else aC i)) (fun b hb=>by
 rw [show aB _=[BZ,BX,BV,BU,BR,BQ] by kernel_rfl] at hb
 simp only [List.mem_cons,List.not_mem_nil,or_false] at hb
 rcases hb with rfl|rfl|rfl|rfl|rfl|rfl
 ·exact aoh
 ·exact aog
 ·exact aof
 ·exact aoe
 ·exact aod
 ·exact aoc) (fun args lv h=>by
 unfold ad4 at h
 split at h
 ·simp only [canL,canX]
  rw [ap2]
  rename_i cs os ks gs bs
  obtain ⟨⟨⟨hc,ho,hk,hg,hb⟩,hn⟩,rfl⟩:=h
  refine ⟨⟨rfl,rfl⟩,oH ⟨⟨rfl,by simp only;omega,by simp only;decide⟩,rfl,rfl⟩ (fun hE0=>?_)⟩
  have o0:=(apj _ hE0.1).2
  generalize (jS ⟨false,(0:Int),cs,os,ks,gs,bs,([]:List ByteArray)⟩).l=r0 at o0⊢
  have o0:r0=([]:List ByteArray)++cs.map (·.1):=o0
  have l0:(List.length r0:Int)≤100:=by rw [o0];simp only [List.length_append,List.length_map,List.length_nil];omega
  refine ⟨⟨rfl,rfl⟩,oH ⟨⟨rfl,by simp only;omega,by simp only;omega⟩,rfl,rfl⟩ (fun hE1=>?_)⟩
  have o1:=(aph _ hE1.1).2
  generalize (lG ⟨false,(0:Int),cs,os,ks,gs,bs,r0⟩).l=r1 at o1⊢
  have o1:r1=r0++os:=o1
  have l1:(List.length r1:Int)≤200:=by rw [o1];simp only [List.length_append];omega
  refine ⟨⟨rfl,rfl⟩,oH ⟨⟨rfl,by simp only;omega,by simp only;omega⟩,rfl,rfl⟩ (fun hE2=>?_)⟩
  have o2:=(apg _ hE2.1).2
  generalize (oJ ⟨false,(0:Int),cs,os,ks,gs,bs,r1⟩).l=r2 at o2⊢
  have o2:r2=r1++ks.map (·.1):=o2
  have l2:(List.length r2:Int)≤300:=by rw [o2];simp only [List.length_append,List.length_map];omega
  refine ⟨⟨rfl,rfl⟩,oH ⟨⟨rfl,by simp only;omega,by simp only;omega⟩,rfl,rfl⟩ (fun hE3=>?_)⟩
  have o3:=(apf _ hE3.1).2
  generalize (rO ⟨false,(0:Int),cs,os,ks,gs,bs,r2⟩).l=r3 at o3⊢
  have o3:r3=r2++gs.map (·.1):=o3
  have l3:(List.length r3:Int)≤400:=by rw [o3];simp only [List.length_append,List.length_map];omega
  refine ⟨⟨rfl,rfl⟩,oH ⟨⟨rfl,by simp only;omega,by simp only;omega⟩,rfl,rfl⟩ (fun hE4=>?_)⟩
  have o4:=(ape _ hE4.1).2
  generalize (xU ⟨false,(0:Int),cs,os,ks,gs,bs,r3⟩).l=r4 at o4⊢
  have o4:r4=r3++bs.map (·.1):=o4
  have l4:(List.length r4:Int)≤500:=by rw [o4];simp only [List.length_append,List.length_map];omega
  have e:r4=gY cs os ks gs bs:=by rw [o4,o3,o2,o1,o0,List.nil_append];rfl
  subst e
  refine ⟨⟨rfl,rfl⟩,oH ⟨⟨rfl,by simp only;omega,hn⟩,rfl,rfl⟩ (fun hE=>?_)⟩
  obtain ⟨s',_,hq⟩:=apd _ hE.1
  unfold nmB
  generalize gY cs os ks gs bs=l at*
  rcases hq with ⟨q1,q2⟩ |⟨q1,q2,j,q3,q4⟩
  ·rw [q1]
   have hk:=(kZ (d:=emp) (p:=nameB) (k:=id)).1 q2
   rw [List.map_id] at hk
   rw [show (l.all nameB&&once l)=true from hk]
   exact ⟨fun h=>(by cases h),fun _=>rfl⟩
  ·rw [q1,q2]
   refine ⟨fun _=>congrArg (fun z=>LV.v (.bool z)) ?_,fun h=>by cases h⟩
   rw [eq_comm,Bool.eq_false_iff]
   intro hx
   have:=(kZ (d:=emp) (p:=nameB) (k:=id)).2 (by rw [List.map_id];exact hx) j q3
   exact Bool.noConfusion (this.symm.trans q4)
 ·cases h)
end Go.Proofs.YtlihnbimgclogaaGreatDoor
namespace Go.Proofs.YtlihnbimgclogaaGreatDoor
open Go.Sx
structure jg where
 r:Bool
 i:Int
 af:List Cd
 aA:List ByteArray
 ai:List Ko
 ak:List Ch
 aJ:List Ba
def aFU (s:jg):List LV:=[.own 0 0,.v (.bool s.r),.v (.int .i64 s.i)]
def aER (s:jg):List aW:=[⟨[.xl eu s.af,.xl .str s.aA,.xl eG s.ai,.xl dK s.ak,.xl eP s.aJ],28,.cl,false⟩]
noncomputable def BO:Code:=((aB (Tryz.f49.body.getD .skip))[0]?).getD .skip
def aaP (s:jg):T (Rd jg):=
 .br (decide (s.i<(List.length s.af:Int))) (.req (0≤s.i∧s.i<(List.length s.af:Int)) (.req (0≤s.i∧s.i≤1000) (.br (!(Fb s.i (dY s.af s.i))) (.ok (.stop (.ret) {s with r:=false})) (.ok (.next {s with i:=(IntKind.i64.wrap (s.i+1))}))))) (.ok (.stop (.exit 0) s))
abbrev auJ (s:jg):=(aaP s).rd s
def KL (s:jg) (j:Int):Bool:=Fb j (dY s.af j)
def anf (s:jg):Prop:=s.i=0∧0≤(List.length s.af:Int)∧(List.length s.af:Int)≤1000∧True
def Oa (s:jg):Prop:=0≤s.i∧s.i≤(List.length s.af:Int)∧(List.length s.af:Int)≤1000∧(True)∧∀j:Nat,(j:Int)<s.i→KL s j=true
def Qc (s:jg):Nat:=((List.length s.af:Int)-s.i).toNat
def amu (x:Ex) (_ s':jg):Prop:=(x=.exit 0∧∀j:Nat,(j:Int)<(List.length s'.af:Int)→KL s' j=true)∨(x=.ret∧s'.r=false∧∃j:Nat,(j:Int)<(List.length s'.af:Int)∧KL s' j=false)
theorem aCd:∀s,anf s→Oa s:=by
 intro s h
 obtain ⟨h0,h1,h2,h3⟩:=h
 exact ⟨by omega,by omega,h2,h3,fun j hj=>by omega⟩
theorem awR (s:jg) (hI:Oa s):bP (fun s'=>Oa s'∧Qc s'<Qc s) (fun x s'=>amu x s s') (auJ s):=by
 unfold auJ aaP
 dsimp only [T.rd,T.rl]
 obtain ⟨h0,h1,h2,h3,h4⟩:=hI
 refine au (fun c1=>au (fun c2=>?_) (fun c2=>?_)) (fun c1=>?_)
 ·have c1:s.i<(List.length s.af:Int):=by simpa using c1
  refine .inr ⟨rfl,rfl,s.i.toNat,by simp only;omega,?_⟩
  rw [Int.toNat_of_nonneg (by omega)]
  have hg:KL s s.i=false:=by unfold KL;(first|(have c2:(!(Fb s.i (dY s.af s.i)))=false:=c2;simpa using c2) |(have c2:(!(Fb s.i (dY s.af s.i)))=true:=c2;simpa using c2))
  exact hg
 ·have c1:s.i<(List.length s.af:Int):=by simpa using c1
  have hg:KL s s.i=true:=by unfold KL;(first|(have c2:(!(Fb s.i (dY s.af s.i)))=false:=c2;simpa using c2) |(have c2:(!(Fb s.i (dY s.af s.i)))=true:=c2;simpa using c2))
  rw [aN (x:=s.i+1) (by omega) (by omega)]
  refine ⟨⟨by simp only;omega,by simp only;omega,h2,h3,fun j hj=>?_⟩,by simp only [Qc];omega⟩
  by_cases hji:(j:Int)<s.i
  ·exact h4 j hji
  ·have:(j:Int)=s.i:=by simp only at hj;omega
   rw [this];exact hg
 ·have c1:(List.length s.af:Int)≤s.i:=by simpa using c1
  exact .inl ⟨rfl,fun j hj=>h4 j (by omega)⟩
def FD:bQ jg:=⟨0,159,[1,2,3],[],aFU,aER,fun v b=>⟨yF (v.getD 1 .junk),gI (v.getD 2 .junk),aQ eu (aV (aO b 0) 0),aQ .str (aV (aO b 0) 1),aQ eG (aV (aO b 0) 2),aQ dK (aV (aO b 0) 3),aQ eP (aV (aO b 0) 4)⟩,aaP,fun s r=> {r with af:=s.af,aA:=s.aA,ai:=s.ai,ak:=s.ak,aJ:=s.aJ},fun s=>s,fun _ s=>s,[.ret,.exit 0],anf,Oa,Qc⟩
abbrev mW:=FD.run
abbrev adg:=FD.jU
abbrev aAA:=FD.q
theorem aw7 (s:jg) (hI:Oa s):(aaP s).all (fun _=>True):=by
 refine ⟨fun c1=>⟨?_,?_,fun _=>trivial,fun _=>trivial⟩,fun _=>trivial⟩
 all_goals ((obtain ⟨h0,h1,h2,h3,h4⟩:=hI;simp at c1;omega))
noncomputable def Jz:Specs:=bf [(86,J6),(87,ZF),(88,ZH),(89,ZI)]
theorem Nk:∀g S,Jz g=some S→Valid Tryz.prog aS g S:=aT (l:=[(86,J6),(87,ZF),(88,ZH),(89,ZI)]) ⟨agC,avP,avR,avS,trivial⟩
theorem aiJ:FD.Ok:=⟨fun s=>by kernel_rfl,fun s=>by kernel_rfl,fun s=>rfl,fun s t r=>rfl,fun s=>rfl,fun s=>by kernel_rfl⟩
theorem ahB:FD.Pf (amu):=⟨aCd,fun _ _=>rfl,awR,aw7⟩
theorem aoa:bn Tryz.prog aS (AN 0) (.loop BO) FD.lp:=bQ.snd aiJ ahB (aU (Γ:=Jz) (K:=fE) (L:=aC) Nk aG BO (fun b hb=>by rw [show aB BO=[] by kernel_rfl] at hb;cases hb)) (fun s=>by kernel_rfl)
theorem ao4 (s:jg) (hE:anf s):∃s',Oa s'∧amu (adg s) s' (mW s):=bQ.fin aiJ ahB s hE
structure o8 where
 r:Bool
 i:Int
 k:Int
 af:List Cd
 aA:List ByteArray
 ai:List Ko
 ak:List Ch
 aJ:List Ba
 qQ:ByteArray
 nH:Int
 Zj:Int
 tu:Int
def aFQ (s:o8):List LV:=[.own 0 0,.v (.bool s.r),.v (.int .i64 s.i),.own 1 0,.v (.int .i64 s.k)]
def aEN (s:o8):List aW:=[⟨[.xl eu s.af,.xl .str s.aA,.xl eG s.ai,.xl dK s.ak,.xl eP s.aJ],28,.cl,false⟩,⟨[.v (.string s.qQ),.v (.int .i64 s.nH),.v (.int .i64 s.Zj),.v (.int .i64 s.tu)],139,.cl,false⟩]
noncomputable def BL:Code:=((aB (((aB (Tryz.f49.body.getD .skip))[1]?).getD .skip))[0]?).getD .skip
def aaL (s:o8):T (Rd o8):=
 .br (decide (s.k<s.i)) (.req (0≤s.k∧s.k<(List.length s.ai:Int)) (.br ((nR s.ai s.k).2.2.2==s.tu) (.ok (.stop (.ret) {s with r:=false})) (.ok (.next {s with k:=(IntKind.i64.wrap (s.k+1))})))) (.ok (.stop (.exit 4) s))
abbrev auF (s:o8):=(aaL s).rd s
def KH (s:o8) (j:Int):Bool:=!((nR s.ai j).2.2.2==s.tu)
def Xa (s:o8):Prop:=s.k=0∧0≤s.i∧s.i≤1000∧s.i≤(List.length s.ai:Int)
def N7 (s:o8):Prop:=0≤s.k∧s.k≤s.i∧s.i≤1000∧(s.i≤(List.length s.ai:Int))∧∀j:Nat,(j:Int)<s.k→KH s j=true
def P8 (s:o8):Nat:=(s.i-s.k).toNat
def amq (x:Ex) (_ s':o8):Prop:=(x=.exit 4∧∀j:Nat,(j:Int)<s'.i→KH s' j=true)∨(x=.ret∧s'.r=false∧∃j:Nat,(j:Int)<s'.i∧KH s' j=false)
theorem aB9:∀s,Xa s→N7 s:=by
 intro s h
 obtain ⟨h0,h1,h2,h3⟩:=h
 exact ⟨by omega,by omega,h2,h3,fun j hj=>by omega⟩
theorem awN (s:o8) (hI:N7 s):bP (fun s'=>N7 s'∧P8 s'<P8 s) (fun x s'=>amq x s s') (auF s):=by
 unfold auF aaL
 dsimp only [T.rd,T.rl]
 obtain ⟨h0,h1,h2,h3,h4⟩:=hI
 refine au (fun c1=>au (fun c2=>?_) (fun c2=>?_)) (fun c1=>?_)
 ·have c1:s.k<s.i:=by simpa using c1
  refine .inr ⟨rfl,rfl,s.k.toNat,by simp only;omega,?_⟩
  rw [Int.toNat_of_nonneg (by omega)]
  have hg:KH s s.k=false:=by unfold KH;(simpa using c2)
  exact hg
 ·have c1:s.k<s.i:=by simpa using c1
  have hg:KH s s.k=true:=by unfold KH;(simpa using c2)
  rw [aN (x:=s.k+1) (by omega) (by omega)]
  refine ⟨⟨by simp only;omega,by simp only;omega,h2,h3,fun j hj=>?_⟩,by simp only [P8];omega⟩
  by_cases hji:(j:Int)<s.k
  ·exact h4 j hji
  ·have:(j:Int)=s.k:=by simp only at hj;omega
   rw [this];exact hg
 ·have c1:s.i≤s.k:=by simpa using c1
  exact .inl ⟨rfl,fun j hj=>h4 j (by omega)⟩
def KY:bQ o8:=⟨0,159,[1,2,4,5,6],[],aFQ,aEN,fun v b=>⟨yF (v.getD 1 .junk),gI (v.getD 2 .junk),gI (v.getD 4 .junk),aQ eu (aV (aO b 0) 0),aQ .str (aV (aO b 0) 1),aQ eG (aV (aO b 0) 2),aQ dK (aV (aO b 0) 3),aQ eP (aV (aO b 0) 4),gSr (aV (aO b 1) 0),gI (aV (aO b 1) 1),gI (aV (aO b 1) 2),gI (aV (aO b 1) 3)⟩,aaL,fun s r=> {r with i:=s.i,af:=s.af,aA:=s.aA,ai:=s.ai,ak:=s.ak,aJ:=s.aJ,qQ:=s.qQ,nH:=s.nH,Zj:=s.Zj,tu:=s.tu},fun s=>s,fun _ s=>s,[.ret,.exit 4],Xa,N7,P8⟩
abbrev Ag:=KY.run
abbrev yH:=KY.jU
abbrev aAw:=KY.q
theorem aw3 (s:o8) (hI:N7 s):(aaL s).all (fun _=>True):=by
 refine ⟨fun c1=>⟨?_,fun _=>trivial,fun _=>trivial⟩,fun _=>trivial⟩
 ·(obtain ⟨h0,h1,h2,h3,h4⟩:=hI;simp at c1;omega)
theorem aiF:KY.Ok:=⟨fun s=>by kernel_rfl,fun s=>by kernel_rfl,fun s=>rfl,fun s t r=>rfl,fun s=>rfl,fun s=>by kernel_rfl⟩
theorem ahx:KY.Pf (amq):=⟨aB9,fun _ _=>rfl,awN,aw3⟩
theorem an6:bn Tryz.prog aS (AN 0) (.loop BL) KY.lp:=bQ.snd aiF ahx (aU (Γ:=Jz) (K:=fE) (L:=aC) Nk aG BL (fun b hb=>by rw [show aB BL=[] by kernel_rfl] at hb;cases hb)) (fun s=>by kernel_rfl)
theorem ao0 (s:o8) (hE:Xa s):∃s',N7 s'∧amq (yH s) s' (Ag s):=bQ.fin aiF ahx s hE
theorem aoZ (s:o8) (hE:Xa s):(yH s=.exit 4∧((s.ai.take s.i.toNat).map (·.2.2.2)).contains s.tu=false)∨(yH s=.ret∧(Ag s).r=false∧((s.ai.take s.i.toNat).map (·.2.2.2)).contains s.tu=true):=by
 obtain ⟨s',_,hq⟩:=ao0 s hE
 obtain ⟨h0,h1,h2,h3⟩:=hE
 have hc:=afv (c:=s.tu) h1 h3
 rcases hq with ⟨q1,q2⟩ |⟨q1,q2,j,q3,q4⟩
 ·refine .inl ⟨q1,?_⟩
  rw [Bool.eq_false_iff,ne_eq,hc]
  rintro ⟨j,hj,e⟩
  have:(!((nR s.ai j).2.2.2==s.tu))=true:=q2 j hj
  rw [e] at this
  simp at this
 ·refine .inr ⟨q1,q2,hc.2 ⟨j,q3,?_⟩⟩
  have q4:(!((nR s.ai j).2.2.2==s.tu))=false:=q4
  simpa using q4
structure jf where
 r:Bool
 i:Int
 af:List Cd
 aA:List ByteArray
 ai:List Ko
 ak:List Ch
 aJ:List Ba
def aFT (s:jf):List LV:=[.own 0 0,.v (.bool s.r),.v (.int .i64 s.i)]
def aEQ (s:jf):List aW:=[⟨[.xl eu s.af,.xl .str s.aA,.xl eG s.ai,.xl dK s.ak,.xl eP s.aJ],28,.cl,false⟩]
noncomputable def JO:Code:=((aB (Tryz.f49.body.getD .skip))[1]?).getD .skip
def rH (s:jf):o8:=(⟨s.r,s.i,(0:Int),s.af,s.aA,s.ai,s.ak,s.aJ,(nR s.ai s.i).1,(nR s.ai s.i).2.1,(nR s.ai s.i).2.2.1,(nR s.ai s.i).2.2.2⟩:o8)
def aaO (s:jf):T (Rd jf):=
 .br (decide (s.i<(List.length s.ai:Int))) (.req (0≤s.i∧s.i<(List.length s.ai:Int)) (.br ((!(inB (nR s.ai s.i).2.1 (0:Int) (IntKind.i64.wrap ((List.length s.aA:Int)-1)))) ||((!(inB (nR s.ai s.i).2.2.1 (1:Int) (9:Int))) ||(!(inB (nR s.ai s.i).2.2.2 (1:Int) (1000000:Int))))) (.ok (.stop (.ret) {s with r:=false})) (.req (aAw (rH s)) (.br (iE (yH (rH s)) (.ret)) (.ok (.stop (.ret) {s with r:=(Ag (rH s)).r})) (.ok (.next {s with r:=(Ag (rH s)).r,i:=(IntKind.i64.wrap (s.i+1))})))))) (.ok (.stop (.exit 2) s))
abbrev auI (s:jf):=(aaO s).rd s
def OV (s:jf) (j:Int):Bool:=koV (List.length s.aA:Int) (nR s.ai j)&&!(((s.ai.take j.toNat).map (·.2.2.2)).contains (nR s.ai j).2.2.2)
def ane (s:jf):Prop:=s.i=0∧(List.length s.ai:Int)≤1000∧(List.length s.aA:Int)≤1000
def Kz (s:jf):Prop:=(0≤s.i∧s.i≤(List.length s.ai:Int))∧(∀j:Nat,(j:Int)<s.i→OV s j=true)∧(List.length s.ai:Int)≤1000∧(List.length s.aA:Int)≤1000
def Qb (s:jf):Nat:=((List.length s.ai:Int)-s.i).toNat
def aeT (x:Ex) (_ s':jf):Prop:=(x=.exit 2∧∀j:Nat,(j:Int)<(List.length s'.ai:Int)→OV s' j=true)∨(x=.ret∧s'.r=false∧∃j:Nat,(j:Int)<(List.length s'.ai:Int)∧OV s' j=false)
theorem aCc:∀s,ane s→Kz s:=by
 intro s h
 obtain ⟨h0,h1,h2⟩:=h
 exact ⟨by omega,fun j hj=>by omega,h1,h2⟩
theorem ag6 (s:jf) (hI:Kz s) (c1:s.i<(List.length s.ai:Int)):Xa (rH s):=by
 obtain ⟨⟨h0,h1⟩,h2,h3,h4⟩:=hI
 exact ⟨rfl,h0,by show s.i≤1000;omega,h1⟩
theorem awQ (s:jf) (hI:Kz s):bP (fun s'=>Kz s'∧Qb s'<Qb s) (fun x s'=>aeT x s s') (auI s):=by
 unfold auI aaO
 dsimp only [T.rd,T.rl]
 have hin:=fun c1=>ag6 s hI c1
 obtain ⟨⟨h0,h1⟩,h2,h3,h4⟩:=hI
 refine au (fun c1=>?_) (fun c1=>?_)
 rotate_left
 ·have c1:(List.length s.ai:Int)≤s.i:=by simpa using c1
  exact .inl ⟨rfl,fun j hj=>h2 j (by omega)⟩
 have c1:s.i<(List.length s.ai:Int):=by simpa using c1
 have bad:∀s2:jf,s2.r=false→s2.ai=s.ai→s2.aA=s.aA→OV s s.i=false→aeT .ret s s2:=fun s2 e1 e2 e3 hg=> .inr ⟨rfl,e1,s.i.toNat,by rw [e2];omega,by
  unfold OV at hg⊢
  rw [Int.toNat_of_nonneg h0,e2,e3]
  exact hg⟩
 rw [aN (x:=(List.length s.aA:Int)-1) (by omega) (by omega)]
 have hk:=aoZ _ (hin c1)
 have hk:(yH (rH s)=.exit 4∧((s.ai.take s.i.toNat).map (·.2.2.2)).contains (nR s.ai s.i).2.2.2=false)∨(yH (rH s)=.ret∧(Ag (rH s)).r=false∧((s.ai.take s.i.toNat).map (·.2.2.2)).contains (nR s.ai s.i).2.2.2=true):=hk
 have hg:OV s s.i=(koV (List.length s.aA:Int) (nR s.ai s.i)&&!(((s.ai.take s.i.toNat).map (·.2.2.2)).contains (nR s.ai s.i).2.2.2)):=rfl
 have hkv:koV (List.length s.aA:Int) (nR s.ai s.i)=(inB (nR s.ai s.i).2.1 0 ((List.length s.aA:Int)-1)&&(inB (nR s.ai s.i).2.2.1 1 9&&inB (nR s.ai s.i).2.2.2 1 1000000)):=rfl
 refine au (fun c2=>bad _ rfl rfl rfl ?_) (fun c2=>?_)
 ·rw [hg,hkv]
  revert c2
  generalize inB (nR s.ai s.i).2.1 _ _=a
  generalize inB (nR s.ai s.i).2.2.1 _ _=b
  generalize inB (nR s.ai s.i).2.2.2 _ _=c
  cases a<;>cases b<;>cases c<;>simp
 have hkt:koV (List.length s.aA:Int) (nR s.ai s.i)=true:=by
  rw [hkv]
  revert c2
  generalize inB (nR s.ai s.i).2.1 _ _=a
  generalize inB (nR s.ai s.i).2.2.1 _ _=b
  generalize inB (nR s.ai s.i).2.2.2 _ _=c
  cases a<;>cases b<;>cases c<;>simp
 rw [hkt,Bool.true_and] at hg
 rcases hk with ⟨q1,q2⟩ |⟨q1,q2,q3⟩
 ·rw [q1]
  refine au (fun c3=>by cases c3) (fun _=>?_)
  rw [aN (x:=s.i+1) (by omega) (by omega)]
  rw [q2] at hg
  refine ⟨⟨⟨by simp only;omega,by simp only;omega⟩,fun j hj=>?_,h3,h4⟩,by simp only [Qb];omega⟩
  by_cases hji:(j:Int)<s.i
  ·exact h2 j hji
  ·have:(j:Int)=s.i:=by simp only at hj;omega
   rw [this];exact hg
 ·rw [q1]
  refine au (fun _=>bad _ q2 rfl rfl ?_) (fun c3=>by cases c3)
  rw [hg,q3]
  rfl
def FC:bQ jf:=⟨0,159,[1,2,4],[],aFT,aEQ,fun v b=>⟨yF (v.getD 1 .junk),gI (v.getD 2 .junk),aQ eu (aV (aO b 0) 0),aQ .str (aV (aO b 0) 1),aQ eG (aV (aO b 0) 2),aQ dK (aV (aO b 0) 3),aQ eP (aV (aO b 0) 4)⟩,aaO,fun s r=> {r with af:=s.af,aA:=s.aA,ai:=s.ai,ak:=s.ak,aJ:=s.aJ},fun s=>s,fun _ s=>s,[.ret,.exit 2],ane,Kz,Qb⟩
abbrev rM:=FC.run
abbrev adf:=FC.jU
abbrev aAz:=FC.q
theorem aw6 (s:jf) (hI:Kz s):(aaO s).all (fun _=>True):=by
 refine ⟨fun c1=>⟨?_,fun _=>trivial,fun c2=>⟨?_,fun _=>trivial,fun _=>trivial⟩⟩,fun _=>trivial⟩
 ·(obtain ⟨⟨h0,h1⟩,h2,h3,h4⟩:=hI;simp only [decide_eq_true_eq] at c1;omega)
 ·exact ⟨ag6 s hI (by simpa using c1),rfl,rfl⟩
theorem aiI:FC.Ok:=⟨fun s=>by kernel_rfl,fun s=>by kernel_rfl,fun s=>rfl,fun s t r=>rfl,fun s=>rfl,fun s=>by kernel_rfl⟩
theorem ahA:FC.Pf (aeT):=⟨aCc,fun _ _=>rfl,awQ,aw6⟩
theorem an9:bn Tryz.prog aS (AN 0) (.loop JO) FC.lp:=bQ.snd aiI ahA (aU (Γ:=Jz) (K:=fE) (L:=(fun i=>if i=15 then KY.lp else aC i)) Nk aG JO (fun b hb=>by
 rw [show aB _=[BL] by kernel_rfl] at hb
 simp only [List.mem_cons,List.not_mem_nil,or_false] at hb
 subst hb
 exact an6)) (fun s=>by kernel_rfl)
theorem ao3 (s:jf) (hE:ane s):∃s',Kz s'∧aeT (adf s) s' (rM s):=bQ.fin aiI ahA s hE
structure lZ where
 r:Bool
 i:Int
 af:List Cd
 aA:List ByteArray
 ai:List Ko
 ak:List Ch
 aJ:List Ba
def aFS (s:lZ):List LV:=[.own 0 0,.v (.bool s.r),.v (.int .i64 s.i)]
def aEP (s:lZ):List aW:=[⟨[.xl eu s.af,.xl .str s.aA,.xl eG s.ai,.xl dK s.ak,.xl eP s.aJ],28,.cl,false⟩]
noncomputable def BN:Code:=((aB (Tryz.f49.body.getD .skip))[2]?).getD .skip
def aaN (s:lZ):T (Rd lZ):=
 .br (decide (s.i<(List.length s.ak:Int))) (.req (0≤s.i∧s.i<(List.length s.ak:Int)) (.br ((!(chW (bD s.ak s.i))) ||((!(inB (bD s.ak s.i).2.1 (0:Int) (IntKind.i64.wrap ((List.length s.af:Int)-1)))) ||(!(inB (bD s.ak s.i).2.2.2.2.2.2.2 (0:Int) (IntKind.i64.wrap ((List.length s.aA:Int)-1)))))) (.ok (.stop (.ret) {s with r:=false})) (.ok (.next {s with i:=(IntKind.i64.wrap (s.i+1))})))) (.ok (.stop (.exit 6) s))
abbrev auH (s:lZ):=(aaN s).rd s
def KJ (s:lZ) (j:Int):Bool:=GV s.af.length s.aA.length (bD s.ak j)
def anc (s:lZ):Prop:=s.i=0∧0≤(List.length s.ak:Int)∧(List.length s.ak:Int)≤1000∧(s.af.length:Int)≤1000∧(s.aA.length:Int)≤1000
def N9 (s:lZ):Prop:=0≤s.i∧s.i≤(List.length s.ak:Int)∧(List.length s.ak:Int)≤1000∧((s.af.length:Int)≤1000∧(s.aA.length:Int)≤1000)∧∀j:Nat,(j:Int)<s.i→KJ s j=true
def Qa (s:lZ):Nat:=((List.length s.ak:Int)-s.i).toNat
def ams (x:Ex) (_ s':lZ):Prop:=(x=.exit 6∧∀j:Nat,(j:Int)<(List.length s'.ak:Int)→KJ s' j=true)∨(x=.ret∧s'.r=false∧∃j:Nat,(j:Int)<(List.length s'.ak:Int)∧KJ s' j=false)
theorem aCb:∀s,anc s→N9 s:=by
 intro s h
 obtain ⟨h0,h1,h2,h3⟩:=h
 exact ⟨by omega,by omega,h2,h3,fun j hj=>by omega⟩
theorem awP (s:lZ) (hI:N9 s):bP (fun s'=>N9 s'∧Qa s'<Qa s) (fun x s'=>ams x s s') (auH s):=by
 unfold auH aaN
 dsimp only [T.rd,T.rl]
 obtain ⟨h0,h1,h2,h3,h4⟩:=hI
 refine au (fun c1=>au (fun c2=>?_) (fun c2=>?_)) (fun c1=>?_)
 ·have c1:s.i<(List.length s.ak:Int):=by simpa using c1
  refine .inr ⟨rfl,rfl,s.i.toNat,by simp only;omega,?_⟩
  rw [Int.toNat_of_nonneg (by omega)]
  have hg:KJ s s.i=false:=by unfold KJ;(obtain ⟨e1,e2⟩:=h3;rw [aN (x:=(List.length s.af:Int)-1) (by omega) (by omega),aN (x:=(List.length s.aA:Int)-1) (by omega) (by omega)] at c2;unfold GV;revert c2;generalize chW (bD s.ak s.i)=a;generalize inB (bD s.ak s.i).2.1 _ _=b;generalize inB (bD s.ak s.i).2.2.2.2.2.2.2 _ _=c;cases a<;>cases b<;>cases c<;>simp)
  exact hg
 ·have c1:s.i<(List.length s.ak:Int):=by simpa using c1
  have hg:KJ s s.i=true:=by unfold KJ;(obtain ⟨e1,e2⟩:=h3;rw [aN (x:=(List.length s.af:Int)-1) (by omega) (by omega),aN (x:=(List.length s.aA:Int)-1) (by omega) (by omega)] at c2;unfold GV;revert c2;generalize chW (bD s.ak s.i)=a;generalize inB (bD s.ak s.i).2.1 _ _=b;generalize inB (bD s.ak s.i).2.2.2.2.2.2.2 _ _=c;cases a<;>cases b<;>cases c<;>simp)
  rw [aN (x:=s.i+1) (by omega) (by omega)]
  refine ⟨⟨by simp only;omega,by simp only;omega,h2,h3,fun j hj=>?_⟩,by simp only [Qa];omega⟩
  by_cases hji:(j:Int)<s.i
  ·exact h4 j hji
  ·have:(j:Int)=s.i:=by simp only at hj;omega
   rw [this];exact hg
 ·have c1:(List.length s.ak:Int)≤s.i:=by simpa using c1
  exact .inl ⟨rfl,fun j hj=>h4 j (by omega)⟩
def FB:bQ lZ:=⟨0,159,[1,2,7],[],aFS,aEP,fun v b=>⟨yF (v.getD 1 .junk),gI (v.getD 2 .junk),aQ eu (aV (aO b 0) 0),aQ .str (aV (aO b 0) 1),aQ eG (aV (aO b 0) 2),aQ dK (aV (aO b 0) 3),aQ eP (aV (aO b 0) 4)⟩,aaN,fun s r=> {r with af:=s.af,aA:=s.aA,ai:=s.ai,ak:=s.ak,aJ:=s.aJ},fun s=>s,fun _ s=>s,[.ret,.exit 6],anc,N9,Qa⟩
abbrev Ah:=FB.run
abbrev ade:=FB.jU
abbrev aAy:=FB.q
theorem aw5 (s:lZ) (hI:N9 s):(aaN s).all (fun _=>True):=by
 refine ⟨fun c1=>⟨?_,fun _=>trivial,fun _=>trivial⟩,fun _=>trivial⟩
 ·(obtain ⟨h0,h1,h2,h3,h4⟩:=hI;simp at c1;omega)
theorem aiH:FB.Ok:=⟨fun s=>by kernel_rfl,fun s=>by kernel_rfl,fun s=>rfl,fun s t r=>rfl,fun s=>rfl,fun s=>by kernel_rfl⟩
theorem ahz:FB.Pf (ams):=⟨aCb,fun _ _=>rfl,awP,aw5⟩
theorem an8:bn Tryz.prog aS (AN 0) (.loop BN) FB.lp:=bQ.snd aiH ahz (aU (Γ:=Jz) (K:=fE) (L:=aC) Nk aG BN (fun b hb=>by rw [show aB BN=[] by kernel_rfl] at hb;cases hb)) (fun s=>by kernel_rfl)
theorem ao2 (s:lZ) (hE:anc s):∃s',N9 s'∧ams (ade s) s' (Ah s):=bQ.fin aiH ahz s hE
structure o9 where
 r:Bool
 i:Int
 af:List Cd
 aA:List ByteArray
 ai:List Ko
 ak:List Ch
 aJ:List Ba
def aFR (s:o9):List LV:=[.own 0 0,.v (.bool s.r),.v (.int .i64 s.i)]
def aEO (s:o9):List aW:=[⟨[.xl eu s.af,.xl .str s.aA,.xl eG s.ai,.xl dK s.ak,.xl eP s.aJ],28,.cl,false⟩]
noncomputable def BM:Code:=((aB (Tryz.f49.body.getD .skip))[3]?).getD .skip
def aaM (s:o9):T (Rd o9):=
 .br (decide (s.i<(List.length s.aJ:Int))) (.req (0≤s.i∧s.i<(List.length s.aJ:Int)) (.br (!(inB (DL s.aJ s.i).2 (0:Int) (IntKind.i64.wrap ((List.length s.ak:Int)-1)))) (.ok (.stop (.ret) {s with r:=false})) (.ok (.next {s with i:=(IntKind.i64.wrap (s.i+1))})))) (.ok (.stop (.exit 8) s))
abbrev auG (s:o9):=(aaM s).rd s
def KI (s:o9) (j:Int):Bool:=inB (DL s.aJ j).2 0 (IntKind.i64.wrap ((List.length s.ak:Int)-1))
def anb (s:o9):Prop:=s.i=0∧0≤(List.length s.aJ:Int)∧(List.length s.aJ:Int)≤1000∧True
def N8 (s:o9):Prop:=0≤s.i∧s.i≤(List.length s.aJ:Int)∧(List.length s.aJ:Int)≤1000∧(True)∧∀j:Nat,(j:Int)<s.i→KI s j=true
def P9 (s:o9):Nat:=((List.length s.aJ:Int)-s.i).toNat
def amr (x:Ex) (_ s':o9):Prop:=(x=.exit 8∧∀j:Nat,(j:Int)<(List.length s'.aJ:Int)→KI s' j=true)∨(x=.ret∧s'.r=false∧∃j:Nat,(j:Int)<(List.length s'.aJ:Int)∧KI s' j=false)
theorem aCa:∀s,anb s→N8 s:=by
 intro s h
 obtain ⟨h0,h1,h2,h3⟩:=h
 exact ⟨by omega,by omega,h2,h3,fun j hj=>by omega⟩
theorem awO (s:o9) (hI:N8 s):bP (fun s'=>N8 s'∧P9 s'<P9 s) (fun x s'=>amr x s s') (auG s):=by
 unfold auG aaM
 dsimp only [T.rd,T.rl]
 obtain ⟨h0,h1,h2,h3,h4⟩:=hI
 refine au (fun c1=>au (fun c2=>?_) (fun c2=>?_)) (fun c1=>?_)
 ·have c1:s.i<(List.length s.aJ:Int):=by simpa using c1
  refine .inr ⟨rfl,rfl,s.i.toNat,by simp only;omega,?_⟩
  rw [Int.toNat_of_nonneg (by omega)]
  have hg:KI s s.i=false:=by unfold KI;(first|(have c2:(!(inB (DL s.aJ s.i).2 0 (IntKind.i64.wrap ((List.length s.ak:Int)-1))))=false:=c2;simpa using c2) |(have c2:(!(inB (DL s.aJ s.i).2 0 (IntKind.i64.wrap ((List.length s.ak:Int)-1))))=true:=c2;simpa using c2))
  exact hg
 ·have c1:s.i<(List.length s.aJ:Int):=by simpa using c1
  have hg:KI s s.i=true:=by unfold KI;(first|(have c2:(!(inB (DL s.aJ s.i).2 0 (IntKind.i64.wrap ((List.length s.ak:Int)-1))))=false:=c2;simpa using c2) |(have c2:(!(inB (DL s.aJ s.i).2 0 (IntKind.i64.wrap ((List.length s.ak:Int)-1))))=true:=c2;simpa using c2))
  rw [aN (x:=s.i+1) (by omega) (by omega)]
  refine ⟨⟨by simp only;omega,by simp only;omega,h2,h3,fun j hj=>?_⟩,by simp only [P9];omega⟩
  by_cases hji:(j:Int)<s.i
  ·exact h4 j hji
  ·have:(j:Int)=s.i:=by simp only at hj;omega
   rw [this];exact hg
 ·have c1:(List.length s.aJ:Int)≤s.i:=by simpa using c1
  exact .inl ⟨rfl,fun j hj=>h4 j (by omega)⟩
def Fz:bQ o9:=⟨0,159,[1,2,9],[],aFR,aEO,fun v b=>⟨yF (v.getD 1 .junk),gI (v.getD 2 .junk),aQ eu (aV (aO b 0) 0),aQ .str (aV (aO b 0) 1),aQ eG (aV (aO b 0) 2),aQ dK (aV (aO b 0) 3),aQ eP (aV (aO b 0) 4)⟩,aaM,fun s r=> {r with af:=s.af,aA:=s.aA,ai:=s.ai,ak:=s.ak,aJ:=s.aJ},fun s=>s,fun _ s=>s,[.ret,.exit 8],anb,N8,P9⟩
abbrev abt:=Fz.run
abbrev adb:=Fz.jU
abbrev aAx:=Fz.q
theorem aw4 (s:o9) (hI:N8 s):(aaM s).all (fun _=>True):=by
 refine ⟨fun c1=>⟨?_,fun _=>trivial,fun _=>trivial⟩,fun _=>trivial⟩
 ·(obtain ⟨h0,h1,h2,h3,h4⟩:=hI;simp at c1;omega)
theorem aiG:Fz.Ok:=⟨fun s=>by kernel_rfl,fun s=>by kernel_rfl,fun s=>rfl,fun s t r=>rfl,fun s=>rfl,fun s=>by kernel_rfl⟩
theorem ahy:Fz.Pf (amr):=⟨aCa,fun _ _=>rfl,awO,aw4⟩
theorem an7:bn Tryz.prog aS (AN 0) (.loop BM) Fz.lp:=bQ.snd aiG ahy (aU (Γ:=Jz) (K:=fE) (L:=aC) Nk aG BM (fun b hb=>by rw [show aB BM=[] by kernel_rfl] at hb;cases hb)) (fun s=>by kernel_rfl)
theorem ao1 (s:o9) (hE:anb s):∃s',N8 s'∧amr (adb s) s' (abt s):=bQ.fin aiG ahy s hE
def ad1:List LV→T LV
 | [.agg [.xl (.pair .str (.pair (.int .i64) (.pair (.int .i64) (.pair (.int .i64) (.pair (.pair (.int .i64) (.int .i64)) (.pair (.int .i64) (.pair (.int .i64) (.pair (.int .i64) (.pair (.int .i64) (.int .i64)))))))))) cs,.xl (.str) os,.xl (.pair .str (.pair (.int .i64) (.pair (.int .i64) (.int .i64)))) ks,.xl (.pair .str (.pair (.int .i64) (.pair (.int .i64) (.pair (.int .i64) (.pair (.int .i64) (.pair (.int .i64) (.pair (.int .i64) (.int .i64)))))))) gs,.xl (.pair .str (.int .i64)) bs]]=> .req (nmR (gY cs os ks gs bs)) (.ok (.v (.bool (dL cs os ks gs bs))))
 |_=> .no
noncomputable def ZE:List LV→T LV:=gZ Tryz.prog Tryz.f49.params.toList ad1
theorem apZ (cs:List Cd) (os:List ByteArray) (ks:List Ko) (gs:List Ch) (bs:List Ba):bW Tryz.prog aS (Jz) fE (fun i=>if i=4 then FD.lp else if i=9 then FC.lp else if i=20 then FB.lp else if i=26 then Fz.lp else aC i) Tryz.f49 [.agg [.xl eu cs,.xl .str os,.xl eG ks,.xl dK gs,.xl eP bs]]=.br (!(inB (List.length cs:Int) (1:Int) (16:Int))) (.ok (.v (.bool false))) (.br (decide ((List.length os:Int)>8)) (.ok (.v (.bool false))) (.br (decide ((List.length ks:Int)>32)) (.ok (.v (.bool false))) (.br (decide ((List.length gs:Int)>16)) (.ok (.v (.bool false))) (.br (decide ((List.length bs:Int)>24)) (.ok (.v (.bool false))) (.req (((List.length cs:Int)≤100∧(List.length os:Int)≤100∧(List.length ks:Int)≤100∧(List.length gs:Int)≤100∧(List.length bs:Int)≤100)∧nmR (gY cs os ks gs bs)) (.br (!(nmB (gY cs os ks gs bs))) (.ok (.v (.bool false))) (.req (aAA (⟨false,(0:Int),cs,os,ks,gs,bs⟩:jg)) (.br (iE (adg (⟨false,(0:Int),cs,os,ks,gs,bs⟩:jg)) (.ret)) (.ok (.v (.bool (mW (⟨false,(0:Int),cs,os,ks,gs,bs⟩:jg)).r))) (.req (aAz (⟨(mW (⟨false,(0:Int),cs,os,ks,gs,bs⟩:jg)).r,(0:Int),cs,os,ks,gs,bs⟩:jf)) (.br (iE (adf (⟨(mW (⟨false,(0:Int),cs,os,ks,gs,bs⟩:jg)).r,(0:Int),cs,os,ks,gs,bs⟩:jf)) (.ret)) (.ok (.v (.bool (rM (⟨(mW (⟨false,(0:Int),cs,os,ks,gs,bs⟩:jg)).r,(0:Int),cs,os,ks,gs,bs⟩:jf)).r))) (.req (aAy (⟨(rM (⟨(mW (⟨false,(0:Int),cs,os,ks,gs,bs⟩:jg)).r,(0:Int),cs,os,ks,gs,bs⟩:jf)).r,(0:Int),cs,os,ks,gs,bs⟩:lZ)) (.br (iE (ade (⟨(rM (⟨(mW (⟨false,(0:Int),cs,os,ks,gs,bs⟩:jg)).r,(0:Int),cs,os,ks,gs,bs⟩:jf)).r,(0:Int),cs,os,ks,gs,bs⟩:lZ)) (.ret)) (.ok (.v (.bool (Ah (⟨(rM (⟨(mW (⟨false,(0:Int),cs,os,ks,gs,bs⟩:jg)).r,(0:Int),cs,os,ks,gs,bs⟩:jf)).r,(0:Int),cs,os,ks,gs,bs⟩:lZ)).r))) (.req (aAx (⟨(Ah (⟨(rM (⟨(mW (⟨false,(0:Int),cs,os,ks,gs,bs⟩:jg)).r,(0:Int),cs,os,ks,gs,bs⟩:jf)).r,(0:Int),cs,os,ks,gs,bs⟩:lZ)).r,(0:Int),cs,os,ks,gs,bs⟩:o9)) (.br (iE (adb (⟨(Ah (⟨(rM (⟨(mW (⟨false,(0:Int),cs,os,ks,gs,bs⟩:jg)).r,(0:Int),cs,os,ks,gs,bs⟩:jf)).r,(0:Int),cs,os,ks,gs,bs⟩:lZ)).r,(0:Int),cs,os,ks,gs,bs⟩:o9)) (.ret)) (.ok (.v (.bool (abt (⟨(Ah (⟨(rM (⟨(mW (⟨false,(0:Int),cs,os,ks,gs,bs⟩:jg)).r,(0:Int),cs,os,ks,gs,bs⟩:jf)).r,(0:Int),cs,os,ks,gs,bs⟩:lZ)).r,(0:Int),cs,os,ks,gs,bs⟩:o9)).r))) (.ok (.v (.bool true))))))))))))))))):=by kernel_rfl
theorem avO:Valid Tryz.prog aS 49 ZE:=aI Tryz.func49 rfl Nk aG (L:=(fun i=>if i=4 then FD.lp else if i=9 then FC.lp else if i=20 then FB.lp else if i=26 then Fz.lp else aC i)) (fun b hb=>by
 rw [show aB _=[BO,JO,BN,BM] by kernel_rfl] at hb
 simp only [List.mem_cons,List.not_mem_nil,or_false] at hb
 rcases hb with rfl|rfl|rfl|rfl
 ·exact aoa
 ·exact an9
 ·exact an8
 ·exact an7) (fun args lv h=>by
 unfold ad1 at h
 split at h
 ·simp only [canL,canX]
  rw [apZ]
  rename_i cs os ks gs bs
  obtain ⟨hn,rfl⟩:=h
  have bad:¬(1≤cs.length∧cs.length≤16∧os.length≤8∧ks.length≤32∧gs.length≤16∧bs.length≤24)→LV.v (.bool false)=LV.v (.bool (dL cs os ks gs bs)):=fun hd=>congrArg (fun z=>LV.v (.bool z)) (by
   rw [eq_comm,Bool.eq_false_iff]
   intro hx
   exact hd (fG.1 hx).1)
  refine ⟨fun c=>bad (by simp only [Bool.not_eq_true',akk] at c;omega),fun c=>⟨fun c2=>bad (by simp at c2;omega),fun c2=>⟨fun c3=>bad (by simp at c3;omega),fun c3=>⟨fun c4=>bad (by simp at c4;omega),fun c4=>⟨fun c5=>bad (by simp at c5;omega),fun c5=>?_⟩⟩⟩⟩⟩
  have hd:1≤cs.length∧cs.length≤16∧os.length≤8∧ks.length≤32∧gs.length≤16∧bs.length≤24:=by
   simp only [Bool.not_eq_false',dV,decide_eq_false_iff_not] at c c2 c3 c4 c5
   omega
  rw [agU hd]
  refine ⟨⟨by omega,hn⟩,fun c6=>?_,fun c6=>?_⟩
  ·have c6:nmB (gY cs os ks gs bs)=false:=by simpa using c6
   rw [c6]
   exact rfl
  have c6:nmB (gY cs os ks gs bs)=true:=by simpa using c6
  rw [c6,Bool.true_and]
  refine oH ⟨⟨rfl,by simp only;omega,by simp only;omega,trivial⟩,rfl,rfl⟩ (fun hE0=>?_)
  obtain ⟨s',_,hq⟩:=ao4 _ hE0.1
  rcases hq with ⟨q1,q2⟩ |⟨q1,q2,j,q3,q4⟩
  rotate_left
  ·rw [q1,q2]
   refine ⟨fun _=>congrArg (fun z=>LV.v (.bool z)) ?_,fun h=>by cases h⟩
   unfold Xp
   rw [uP (n:=cs.length) (f:=fun j=>Fb j (dY cs j)) j q3 q4]
   rfl
  rw [q1]
  refine ⟨fun h=>(by cases h),fun _=>?_⟩
  have g0:Lr cs.length (fun j=>Fb j (dY cs j))=true:=fU.2 q2
  refine oH ⟨⟨rfl,by simp only;omega,by simp only;omega⟩,rfl,rfl⟩ (fun hE1=>?_)
  obtain ⟨s',_,hq⟩:=ao3 _ hE1.1
  rcases hq with ⟨q1,q2⟩ |⟨q1,q2,j,q3,q4⟩
  rotate_left
  ·rw [q1,q2]
   refine ⟨fun _=>congrArg (fun z=>LV.v (.bool z)) ?_,fun h=>by cases h⟩
   unfold Xp
   have hn:(ks.all (koV os.length)&&once (ks.map (·.2.2.2)))=false:=by
    rw [Bool.eq_false_iff];intro hx
    have:=(kZ (d:=(emp,0,0,0))).2 hx j q3
    exact Bool.noConfusion (this.symm.trans q4)
   rw [g0,Bool.true_and,←Bool.and_assoc,hn]
   rfl
  rw [q1]
  refine ⟨fun h=>(by cases h),fun _=>?_⟩
  have g1:(ks.all (koV os.length)&&once (ks.map (·.2.2.2)))=true:=(kZ (d:=(emp,0,0,0))).1 q2
  refine oH ⟨⟨rfl,by simp only;omega,by simp only;omega,by simp only;omega,by simp only;omega⟩,rfl,rfl⟩ (fun hE2=>?_)
  obtain ⟨s',_,hq⟩:=ao2 _ hE2.1
  rcases hq with ⟨q1,q2⟩ |⟨q1,q2,j,q3,q4⟩
  rotate_left
  ·rw [q1,q2]
   refine ⟨fun _=>congrArg (fun z=>LV.v (.bool z)) ?_,fun h=>by cases h⟩
   unfold Xp
   have hn:gs.all (GV cs.length os.length)=false:=by
    rw [Bool.eq_false_iff];intro hx
    have:=(jV (d:=(emp,0,0,0,0,0,0,0))).2 hx j q3
    exact Bool.noConfusion (this.symm.trans q4)
   rw [g0,Bool.true_and,←Bool.and_assoc,g1,hn]
   rfl
  rw [q1]
  refine ⟨fun h=>(by cases h),fun _=>?_⟩
  have g2:gs.all (GV cs.length os.length)=true:=(jV (d:=(emp,0,0,0,0,0,0,0))).1 q2
  have hw:=aN (x:=(List.length gs:Int)-1) (by omega) (by omega)
  refine oH ⟨⟨rfl,by simp only;omega,by simp only;omega,trivial⟩,rfl,rfl⟩ (fun hE3=>?_)
  obtain ⟨s',_,hq⟩:=ao1 _ hE3.1
  rcases hq with ⟨q1,q2⟩ |⟨q1,q2,j,q3,q4⟩
  rotate_left
  ·rw [q1,q2]
   refine ⟨fun _=>congrArg (fun z=>LV.v (.bool z)) ?_,fun h=>by cases h⟩
   unfold Xp
   have hn:bs.all (fun b=>inB b.2 0 ((gs.length:Int)-1))=false:=by
    rw [Bool.eq_false_iff];intro hx
    have:=(jV (d:=(emp,0))).2 hx j q3
    have q4:inB (DL bs j).2 0 (IntKind.i64.wrap ((List.length gs:Int)-1))=false:=q4
    rw [hw] at q4
    exact Bool.noConfusion (this.symm.trans q4)
   rw [g0,Bool.true_and,←Bool.and_assoc,g1,g2,hn]
   rfl
  rw [q1]
  refine ⟨fun h=>(by cases h),fun _=>?_⟩
  have g3:bs.all (fun b=>inB b.2 0 ((gs.length:Int)-1))=true:=(jV (d:=(emp,0))).1 (fun j hj=>by
   have:inB (DL bs j).2 0 (IntKind.i64.wrap ((List.length gs:Int)-1))=true:=q2 j hj
   rw [hw] at this
   exact this)
  refine congrArg (fun z=>LV.v (.bool z)) ?_
  unfold Xp
  rw [g0,Bool.true_and,←Bool.and_assoc,g1,g2,g3]
  rfl
 ·cases h)
end Go.Proofs.YtlihnbimgclogaaGreatDoor
namespace Go.Proofs.YtlihnbimgclogaaGreatDoor
open Go.Sx
section
variable {lt : Int → Int → Bool}
def GR (lt:Int→Int→Bool):List Int→Int→List Int
 | [],x=>[x]
 |y::q,x=>if lt x y=true then y::GR lt q x else x::y::q
theorem yC {x:Int}:∀ {q:List Int},(GR lt q x).Perm (x::q)
 | []=>List.Perm.refl _
 |y::q=>by
  unfold GR
  split
  ·exact (List.Perm.cons y yC).trans (List.Perm.swap x y q)
  ·exact List.Perm.refl _
theorem aki {q:List Int}{x:Int}:(GR lt q x).length=q.length+1:=by rw [yC.length_eq];rfl
theorem JE:∀ {l acc:List Int},(l.foldl (GR lt) acc).Perm (acc++l)
 | [],acc=>by simp
 |x::l,acc=>by
  rw [List.foldl_cons]
  refine JE.trans ?_
  refine (List.Perm.append_right l yC).trans ?_
  rw [List.cons_append]
  exact List.perm_middle.symm
def sortB (lt:Int→Int→Bool) (l:List Int):List Int:=(l.foldl (GR lt) []).reverse
theorem XE {l:List Int}:(sortB lt l).Perm l:=by
 unfold sortB
 exact (List.reverse_perm _).trans (by have:=JE (lt:=lt) (l:=l) (acc:=[]);simpa using this)
def exB (l:List Int) (j:Nat):List Int:=(l.set (j+1) (l.getD j 0)).set j (l.getD (j+1) 0)
def bub (lt:Int→Int→Bool):Nat→List Int→List Int
 |0,l=>l
 |j+1,l=>if lt (l.getD (j+1) 0) (l.getD j 0)=true then bub lt j (exB l j) else l
theorem ar1 {p post:List Int}{x y:Int}:exB (p++y::x::post) p.length=p++x::y::post:=by
 unfold exB
 have e1:(p++y::x::post).getD p.length 0=y:=by simp [List.getD]
 have e2:(p++y::x::post).getD (p.length+1) 0=x:=by simp [List.getD]
 rw [e1,e2,List.set_append_right _ _ (by omega),List.set_append_right _ _ (by omega)]
 simp
theorem Sm {post:List Int}{x:Int}:∀ {q:List Int},bub lt q.length (q.reverse++x::post)=(GR lt q x).reverse++post
 | []=>by simp [bub,GR]
 | y::q=>by
  have hl:q.length=q.reverse.length:=by simp
  have e1:((y::q).reverse++x::post)=q.reverse++y::x::post:=by simp
  rw [e1,List.length_cons,bub]
  have g1:(q.reverse++y::x::post).getD q.length 0=y:=by rw [hl];simp [List.getD]
  have g2:(q.reverse++y::x::post).getD (q.length+1) 0=x:=by rw [hl];simp [List.getD]
  rw [g1,g2]
  unfold GR
  split
  ·have e2:exB (q.reverse++y::x::post) q.length=q.reverse++x::y::post:=by
    have:=ar1 (p:=q.reverse) (x:=x) (y:=y) (post:=post)
    rwa [←hl] at this
   rw [e2,Sm]
   simp
  ·simp
theorem alD:∀ {j:Nat}{l:List Int},j<l.length→(bub lt j l).Perm l:=fun {j l} h=>by
 have e:l=(l.take j).reverse.reverse++l[j]::l.drop (j+1):=by rw [List.reverse_reverse,List.getElem_cons_drop,List.take_append_drop]
 have hj:(l.take j).reverse.length=j:=by simp;omega
 have h2:=Sm (lt:=lt) (q:=(l.take j).reverse) (x:=l[j]) (post:=l.drop (j+1))
 rw [hj,←e] at h2
 rw [h2]
 refine (List.Perm.append_right _ ((List.reverse_perm _).trans yC)).trans ?_
 rw [List.cons_append]
 refine (List.perm_middle.symm.trans ?_)
 refine (List.Perm.append_right _ (List.reverse_perm _)).trans ?_
 rw [List.getElem_cons_drop,List.take_append_drop]
def vS (lt:Int→Int→Bool) (l:List Int) (i:Nat):List Int:=((l.drop i).foldl (GR lt) (l.take i).reverse).reverse
theorem XM {l:List Int}{i:Nat}(h:i<l.length):vS lt (bub lt i l) (i+1)=vS lt l i:=by
 have e:l=(l.take i).reverse.reverse++l[i]::l.drop (i+1):=by rw [List.reverse_reverse,List.getElem_cons_drop,List.take_append_drop]
 have hi:(l.take i).reverse.length=i:=by simp;omega
 have h2:=Sm (lt:=lt) (q:=(l.take i).reverse) (x:=l[i]) (post:=l.drop (i+1))
 rw [hi,←e] at h2
 have hl:((GR lt (l.take i).reverse l[i]).reverse).length=i+1:=by rw [List.length_reverse,aki,hi]
 unfold vS
 rw [h2,List.drop_append_of_le_length (by omega),List.take_append_of_le_length (by omega),List.drop_of_length_le (by omega),List.take_of_length_le (by omega),List.nil_append,List.reverse_reverse]
 conv=>rhs;rw [←List.getElem_cons_drop h,List.foldl_cons]
theorem afz {l:List Int}:vS lt l 1=sortB lt l:=by
 cases l with
 |nil=>rfl
 |cons x l=>simp [vS,sortB,GR]
theorem afA {l:List Int}{i:Nat}(h:l.length≤i):vS lt l i=l:=by
 unfold vS
 rw [List.drop_of_length_le h,List.take_of_length_le h]
 simp
end
abbrev tJ:Ty:=.pair .bool (.pair (.int .i64) (.pair (.int .i64) (.int .i64)))
abbrev Dm:=Bool×Int×Int×Int
def uy (l:List Dm) (n:Int):Dm:=l.getD n.toNat (false,0,0,0)
def slk (d:List Dm) (t i:Int):Int:=(uy d i).2.2.1-t-(uy d i).2.1
def cm (a b:Int):Int:=if a<b then -1 else if a>b then 1 else 0
def orI:List Int→Int
 | []=>0
 |x::l=>if (x !=0)=true then x else orI l
def cmD (d:List Dm) (t a b:Int):Int:=orI [cm (uy d a).2.2.2 (uy d b).2.2.2,cm (slk d t a) (slk d t b),cm a b]
def ltD (d:List Dm) (t a b:Int):Bool:=decide (cmD d t a b<0)
def yS (d:List Dm) (t:Int):Prop:=(∀x∈d,(-2000000000≤x.2.1∧x.2.1≤2000000000)∧-2000000000≤x.2.2.1∧x.2.2.1≤2000000000)∧-2000000000≤t∧t≤2000000000
theorem arj {d:List Dm}{i:Int}(h0:0≤i) (h1:i<(d.length:Int)):uy d i∈d:=by
 unfold uy
 have h:i.toNat<d.length:=by omega
 simp [List.getD,h]
theorem avC {d:List Dm}{t i:Int}(h:yS d t) (h0:0≤i) (h1:i<(d.length:Int)):(-2000000000≤(uy d i).2.1∧(uy d i).2.1≤2000000000)∧-2000000000≤(uy d i).2.2.1∧(uy d i).2.2.1≤2000000000:=h.1 _ (arj h0 h1)
def zq (n:Nat):List Int:=(List.range n).map (fun k:Nat=>(k:Int))
def kM (d:List Dm) (t:Int):List Int:=sortB (ltD d t) (zq d.length)
theorem afy {n:Nat}:zq (n+1)=zq n++[(n:Int)]:=by simp [zq,List.range_succ]
theorem qF {n:Nat}:(zq n).length=n:=by simp [zq]
theorem UG {n:Nat}{x:Int}:x∈zq n↔0≤x∧x<(n:Int):=by
 unfold zq
 rw [List.mem_map]
 constructor
 ·rintro ⟨k,hk,rfl⟩
  rw [List.mem_range] at hk
  omega
 ·exact fun h=>⟨x.toNat,by rw [List.mem_range];omega,by omega⟩
theorem XK {n:Nat}:(zq n).Nodup:=List.Pairwise.map _ (fun a b h=>by omega) List.nodup_range
theorem DZ {d:List Dm}{t:Int}:(kM d t).Perm (zq d.length):=XE
theorem UQ {d:List Dm}{t:Int}:(kM d t).length=d.length:=by rw [DZ.length_eq,qF]
theorem aiq {d:List Dm}{t x:Int}:x∈kM d t↔0≤x∧x<(d.length:Int):=DZ.mem_iff.trans UG
theorem X9 {d:List Dm}{t:Int}:(kM d t).Nodup:=DZ.nodup_iff.2 XK
end Go.Proofs.YtlihnbimgclogaaGreatDoor
namespace Go.Proofs.YtlihnbimgclogaaGreatDoor
open Go.Sx
theorem Q8 {mi ma st a k:Int}(hh:nD mi ma st=true) (ha:0≤a) (h0:0≤k) (h1:k<D9 mi ma st):DN mi st k≤a↔k≤U6 mi ma st a:=by
 obtain ⟨g1,g2,g3,g4,g5⟩:=fZ.1 hh
 have hn:¬(nD mi ma st=false∨a<0):=by simp [hh];omega
 unfold U6
 rw [if_neg hn]
 unfold DN
 by_cases e:k=0
 ·subst e
  simp only [if_true]
  split
  ·omega
  ·have:=Eo (x:=a-mi) (st:=st) (by omega) (by omega)
   omega
 ·rw [if_neg e]
  have hp:0≤(k-1)*st:=Int.mul_nonneg (by omega) (by omega)
  split
  ·omega
  ·have:=(Int.le_ediv_iff_mul_le (a:=k-1) (b:=a-mi) (c:=st) (by omega))
   omega
theorem ajZ {mi ma st a:Int}(hh:nD mi ma st=true):U6 mi ma st a<D9 mi ma st:=by
 have:=Q5 hh
 unfold U6
 split
 ·omega
 ·split<;>omega
theorem YH {mi ma st a:Int}(hh:nD mi ma st=true) (ha:0≤a):0≤U6 mi ma st a:=by
 have:=Q5 hh
 obtain ⟨g1,g2,g3,g4,g5⟩:=fZ.1 hh
 have hn:¬(nD mi ma st=false∨a<0):=by simp [hh];omega
 unfold U6
 rw [if_neg hn]
 split
 ·omega
 ·have:=Eo (x:=a-mi) (st:=st) (by omega) (by omega)
  omega
theorem Yb {l:List Int}:once l=true↔l.Nodup:=by
 rw [IW,List.nodup_iff_pairwise_ne,List.pairwise_iff_getElem]
 constructor
 ·intro h i j hi hj hij e
  exact h j hj (by rw [←e,List.mem_iff_getElem];exact ⟨i,by rw [List.length_take];omega,by simp⟩)
 ·intro h j hj hm
  obtain ⟨i,hi,e⟩:=List.mem_iff_getElem.1 hm
  rw [List.length_take] at hi
  have:l[i]=l[j]:=by simpa using e
  exact h i j (by omega) hj (by omega) this
theorem wO:∀ {r l:List Int},r.Nodup→(∀x∈r,x∈l)→r.length=l.length→l.Nodup∧∀x∈l,x∈r
 | [],l,_,_,h=>by
  have:l=[]:=List.length_eq_zero_iff.1 h.symm
  subst this
  simp
 | x::r,l,hn,hs,h=>by
  obtain ⟨n1,n2⟩:=List.nodup_cons.1 hn
  have hx:=hs x (by simp)
  have hp:=List.perm_cons_erase hx
  have hl:(l.erase x).length=l.length-1:=List.length_erase_of_mem hx
  obtain ⟨i1,i2⟩:=wO (l:=l.erase x) n2 (fun y hy=>by
   have hy2:=hs y (by simp [hy])
   have hne:y≠x:=fun e=>n1 (e▸hy)
   exact (List.mem_erase_of_ne hne).2 hy2) (by rw [hl];simp only [List.length_cons] at h;omega)
  refine ⟨hp.nodup_iff.2 (List.nodup_cons.2 ⟨fun hm=>n1 (i2 x hm),i1⟩),fun y hy=>?_⟩
  by_cases e:y=x
  ·simp [e]
  ·exact List.mem_cons_of_mem _ (i2 y ((List.mem_erase_of_ne e).2 hy))
def ahk (n:Nat):List Int:=(List.range n).map (fun k:Nat=>(k:Int))
theorem UH {n:Nat}{x:Int}:x∈ahk n↔0≤x∧x<(n:Int):=by
 unfold ahk
 rw [List.mem_map]
 constructor
 ·rintro ⟨k,hk,rfl⟩
  have:=List.mem_range.1 hk
  omega
 ·rintro ⟨h1,h2⟩
  exact ⟨x.toNat,List.mem_range.2 (by omega),by omega⟩
theorem UI {n:Nat}:(ahk n).length=n:=by simp [ahk]
theorem Nc {l:List Int}{n:Nat}:nC l n=true↔l.length=n∧l.Nodup∧∀i∈l,0≤i∧i<(n:Int):=by
 unfold nC
 simp only [Bool.and_eq_true,decide_eq_true_eq,List.all_eq_true,Am,Yb]
 constructor
 ·rintro ⟨h1,h2,h3⟩;exact ⟨by omega,h3,h2⟩
 ·rintro ⟨h1,h2,h3⟩;exact ⟨by omega,h3,h2⟩
theorem afU {l:List Int}{n:Nat}(h:nC l n=true) {i:Int}(h0:0≤i) (h1:i<(n:Int)):i∈l:=by
 obtain ⟨g1,g2,g3⟩:=Nc.1 h
 exact (wO g2 (l:=ahk n) (fun x hx=>UH.2 (g3 x hx)) (by rw [UI];exact g1)).2 i (UH.2 ⟨h0,h1⟩)
def Xr (al am ms:List Int):Int:=(ms.map (fun m=>mx (gi al m) (gi am m))).sum
def rowB (al am:List Int) (r:Rw):Bool:=r.2.all (fun m=>gi am m==0) ||decide (Xr al am r.2≤r.1)
def Aq (rows:List Rw) (al am:List Int):Bool:=rows.all (rowB al am)
theorem qC {al am ms:List Int}{m:Int}:Xr al am (m::ms)=mx (gi al m) (gi am m)+Xr al am ms:=by simp [Xr]
end Go.Proofs.YtlihnbimgclogaaGreatDoor
namespace Go.Proofs.YtlihnbimgclogaaGreatDoor
open Go.Sx
def aEp (gs:List Ch) (i k:Int):Int:=amA (bD gs i).2.2.2.1 (bD gs i).2.2.2.2.1 (bD gs i).2.2.2.2.2.1 k
def aEo (gs:List Ch) (i k:Int):Int:=amE (bD gs i).2.2.2.1 (bD gs i).2.2.2.2.1 (bD gs i).2.2.2.2.2.1 k
structure aAm (gs:List Ch) (out:List Int):Prop where
 len:out.length=gs.length
 bd:∀a∈out,0≤a∧a≤1000000
theorem aAm.put {gs:List Ch}{out:List Int}(h:aAm gs out) {k:Nat}{v:Int}(hv:0≤v∧v≤1000000):aAm gs (out.set k v):=
 ⟨by rw [List.length_set];exact h.len,fun a ha=>by
  rcases List.mem_or_eq_of_mem_set ha with h2|h2
  ·exact h.bd a h2
  ·rw [h2];exact hv⟩
end Go.Proofs.YtlihnbimgclogaaGreatDoor
namespace Go.Proofs.YtlihnbimgclogaaGreatDoor
open Go.Sx
end Go.Proofs.YtlihnbimgclogaaGreatDoor
namespace Go.Proofs.YtlihnbimgclogaaGreatDoor
open Go.Sx
section
variable {P : List Int → Bool} {tp : Int → Int}
def Vf (P:List Int→Bool) (tp:Int→Int) (L:Int) (lv:List Int) (i:Int):List Int:=
 if gi lv i=L-1∧L≤tp i then (if P (lv.set i.toNat L)=true then lv.set i.toNat L else lv) else lv
def gsw (P:List Int→Bool) (tp:Int→Int) (L:Int) (lv l:List Int):List Int:=l.foldl (Vf P tp L) lv
def LQ (P:List Int→Bool) (tp:Int→Int) (od:List Int):Nat→Int→List Int→List Int
 |0,_,lv=>lv
 |f+1,L,lv=>LQ P tp od f (L+1) (gsw P tp L lv od)
theorem nG {l:List Int}{i j v:Int}(h0:0≤i) (h1:i<(l.length:Int)) (hj:0≤j):gi (l.set i.toNat v) j=if j=i then v else gi l j:=by
 unfold gi
 rw [qM]
 by_cases e:j=i
 ·subst e
  rw [if_pos ⟨rfl,by omega⟩,if_pos rfl]
 ·rw [if_neg (by omega),if_neg e]
def XL (n:Nat) (l:List Int):Prop:=∀i∈l,0≤i∧i<(n:Int)
theorem Rt {L i:Int}{lv:List Int}:(Vf P tp L lv i).length=lv.length:=by
 unfold Vf
 split
 ·split
  ·rw [List.length_set]
  ·rfl
 ·rfl
theorem azg {L i j:Int}{lv:List Int}(h:0≤i∧i<(lv.length:Int)) (hj:0≤j):gi lv j≤gi (Vf P tp L lv i) j:=by
 unfold Vf
 split
 ·rename_i hc
  split
  ·rw [nG h.1 h.2 hj]
   split
   ·rename_i e;subst e;omega
   ·exact Int.le_refl _
  ·exact Int.le_refl _
 ·exact Int.le_refl _
theorem azh {L i j:Int}{lv:List Int}(h:0≤i∧i<(lv.length:Int)) (hj:0≤j):gi (Vf P tp L lv i) j≤gi lv j∨(gi (Vf P tp L lv i) j=L∧L≤tp j):=by
 unfold Vf
 split
 ·rename_i hc
  split
  ·rw [nG h.1 h.2 hj]
   split
   ·rename_i e;subst e;exact .inr ⟨rfl,hc.2⟩
   ·exact .inl (Int.le_refl _)
  ·exact .inl (Int.le_refl _)
 ·exact .inl (Int.le_refl _)
theorem aDx {L i:Int}{lv:List Int}(h:P lv=true):P (Vf P tp L lv i)=true:=by
 unfold Vf
 split
 ·split
  ·rename_i hp;exact hp
  ·exact h
 ·exact h
theorem wW {L i:Int}{lv l:List Int}:gsw P tp L lv (i::l)=gsw P tp L (Vf P tp L lv i) l:=rfl
theorem Hg {L:Int}:∀ {l lv:List Int},(gsw P tp L lv l).length=lv.length
 | [],_=>rfl
 |i::l,lv=>by rw [wW,Hg (l:=l),Rt]
theorem akE {L j:Int}(hj:0≤j):∀ {l lv:List Int},XL lv.length l→gi lv j≤gi (gsw P tp L lv l) j
 | [],_,_=>Int.le_refl _
 |i::l,lv,h=>by
  rw [wW]
  have h1:=azg (P:=P) (tp:=tp) (L:=L) (h i (by simp)) hj
  have h2:=akE (L:=L) hj (l:=l) (lv:=Vf P tp L lv i) (by rw [Rt];exact fun x hx=>h x (by simp [hx]))
  omega
theorem YU {L j:Int}(hj:0≤j):∀ {l lv:List Int},XL lv.length l→gi (gsw P tp L lv l) j≤gi lv j∨(gi (gsw P tp L lv l) j≤L∧gi (gsw P tp L lv l) j≤tp j)
 | [],_,_=> .inl (Int.le_refl _)
 |i::l,lv,h=>by
  rw [wW]
  have h1:=azh (P:=P) (tp:=tp) (L:=L) (h i (by simp)) hj
  have h2:=YU (L:=L) hj (l:=l) (lv:=Vf P tp L lv i) (by rw [Rt];exact fun x hx=>h x (by simp [hx]))
  omega
theorem atW {L:Int}:∀ {l lv:List Int},P lv=true→P (gsw P tp L lv l)=true
 | [],_,h=>h
 |i::l,lv,h=>by rw [wW];exact atW (l:=l) (aDx h)
theorem ack {od:List Int}:∀ {f:Nat}{L:Int}{lv:List Int},(LQ P tp od f L lv).length=lv.length
 |0,_,_=>rfl
 |f+1,L,lv=>by rw [LQ,ack,Hg]
theorem akF {od:List Int}{j:Int}(hj:0≤j):∀ {f:Nat}{L:Int}{lv:List Int},XL lv.length od→gi lv j≤gi (LQ P tp od f L lv) j
 |0,_,_,_=>Int.le_refl _
 |f+1,L,lv,h=>by
  rw [LQ]
  have h1:=akE (P:=P) (tp:=tp) (L:=L) hj h
  have h2:=akF (f:=f) (L:=L+1) (lv:=gsw P tp L lv od) hj (by rw [Hg];exact h)
  omega
theorem akG {od:List Int}{j:Int}(hj:0≤j):∀ {f:Nat}{L:Int}{lv:List Int},XL lv.length od→gi (LQ P tp od f L lv) j≤gi lv j∨(gi (LQ P tp od f L lv) j≤L+f-1∧gi (LQ P tp od f L lv) j≤tp j)
 |0,_,_,_=> .inl (Int.le_refl _)
 |f+1,L,lv,h=>by
  rw [LQ]
  have h1:=YU (P:=P) (tp:=tp) (L:=L) hj h
  have h2:=akG (f:=f) (L:=L+1) (lv:=gsw P tp L lv od) hj (by rw [Hg];exact h)
  omega
theorem atX {od:List Int}:∀ {f:Nat}{L:Int}{lv:List Int},P lv=true→P (LQ P tp od f L lv)=true
 |0,_,_,h=>h
 |f+1,L,lv,h=>by rw [LQ];exact atX (atW h)
theorem Vg {od:List Int}:∀ {f:Nat}{L:Int}{lv:List Int},LQ P tp od (f+1) L lv=gsw P tp (L+f) (LQ P tp od f L lv) od
 |0,L,lv=>by simp [LQ]
 |f+1,L,lv=>by
  rw [LQ,Vg (f:=f) (L:=L+1),LQ,show L+1+(f:Int)=L+((f+1:Nat):Int) by omega]
theorem Ee {L:Int}:∀ {l lv:List Int},(∀i∈l,gi lv i≠L-1∨tp i<L)→gsw P tp L lv l=lv
 | [],_,_=>rfl
 | i::l,lv,h=>by
  have e:Vf P tp L lv i=lv:=by
   unfold Vf
   rw [if_neg (by have:=h i (by simp);omega)]
  rw [wW,e,Ee (fun j hj=>h j (by simp [hj]))]
theorem Nh {od:List Int}:∀ {f:Nat}{L:Int}{lv:List Int},(∀i∈od,gi lv i<L-1)→LQ P tp od f L lv=lv
 |0,_,_,_=>rfl
 |f+1,L,lv,h=>by
  rw [LQ,Ee (fun i hi=> .inl (by have:=h i hi;omega)),Nh (fun i hi=>by have:=h i hi;omega)]
end
end Go.Proofs.YtlihnbimgclogaaGreatDoor
namespace Go.Proofs.YtlihnbimgclogaaGreatDoor
open Go.Sx
structure wu (rows:List Rw) (gs:List Ch) (al mo od:List Int):Prop where
 mem:∀r∈rows,r.2.Nodup∧∀m∈r.2,0≤m∧m<(gs.length:Int)
 has:∀i:Int,0≤i→i<(gs.length:Int)→nD (bD gs i).2.2.2.1 (bD gs i).2.2.2.2.1 (bD gs i).2.2.2.2.2.1=true
 gl:gs.length≤16
 all:al.length=gs.length
 mol:mo.length=gs.length
 al:∀a∈al,0≤a∧a≤80
 mo:∀a∈mo,0≤a∧a≤80
 nd:od.Nodup
 ord:XL gs.length od
 cov:∀i:Int,0≤i→i<(gs.length:Int)→i∈od
theorem agZ {cs:List Cd}{os:List ByteArray}{ks:List Ko}{gs:List Ch}{bs:List Ba}{al mo od:List Int}(h:sQ cs os ks gs bs al mo od=true):wu (jH cs gs cs.length) gs al mo od:=by
 obtain ⟨hv,h1,h2,h3,h4,h5⟩:=jG.1 h
 have hl:=(fG.1 hv).1
 obtain ⟨o1,o2,o3⟩:=Nc.1 h5
 refine ⟨fun r hr=>⟨(row_mem hr).1,(row_mem hr).2.1⟩,fun i h0 h1=>?_,by omega,h1,h2,fun a ha=>oZ.1 (List.all_eq_true.1 h3 a ha),fun a ha=>oZ.1 (List.all_eq_true.1 h4 a ha),o2,o3,fun i h0 h1=>afU h5 h0 h1⟩
 have:=qE hv h0 h1
 unfold GV chW at this
 simp only [Bool.and_eq_true,dV] at this
 exact fZ.2 (by omega)
def PP (rows:List Rw) (gs:List Ch) (al lv:List Int):Bool:=Aq rows al (pO gs lv)
def tpO (gs:List Ch) (mo:List Int) (i:Int):Int:=yX gs i (gi mo i)
theorem V6 {gs:List Ch}{lv:List Int}:(pO gs lv).length=gs.length:=by simp [pO]
theorem vw {gs:List Ch}{lv:List Int}{i:Int}(h0:0≤i) (h1:i<(gs.length:Int)):gi (pO gs lv) i=yM gs i (gi lv i):=by
 rw [pX (by rw [V6];omega)]
 simp only [pO,List.getElem_map,List.getElem_range]
 rw [Int.toNat_of_nonneg h0]
 rfl
theorem alI {gs:List Ch}{i:Int}:yM gs i 0=0:=by simp [yM,DN]
theorem V8 {gs:List Ch}{i a b:Int}(hh:nD (bD gs i).2.2.2.1 (bD gs i).2.2.2.2.1 (bD gs i).2.2.2.2.2.1=true) (h0:0≤a) (h1:a≤b):yM gs i a≤yM gs i b:=by
 obtain ⟨g1,g2,g3,g4,g5⟩:=fZ.1 hh
 exact V7 ⟨g1,g4⟩ h0 h1
theorem alH {gs:List Ch}{i a b:Int}(hh:nD (bD gs i).2.2.2.1 (bD gs i).2.2.2.2.1 (bD gs i).2.2.2.2.2.1=true) (h0:0≤a) (h1:a<b):yM gs i a<yM gs i b:=by
 obtain ⟨g1,g2,g3,g4,g5⟩:=fZ.1 hh
 have h2:=V8 hh (show 0≤a+1 by omega) (show a+1≤b by omega)
 have h3:yM gs i a<yM gs i (a+1):=by
  unfold yM DN
  rw [if_neg (show ¬a+1=0 by omega)]
  split
  ·rename_i e;subst e;simp;omega
  ·have:(a+1-1)*(bD gs i).2.2.2.2.2.1=(a-1)*(bD gs i).2.2.2.2.2.1+(bD gs i).2.2.2.2.2.1:=by
    rw [show a+1-1=(a-1)+1 by omega,Int.add_mul,Int.one_mul]
   omega
 omega
theorem alG {gs:List Ch}{i a:Int}(hh:nD (bD gs i).2.2.2.1 (bD gs i).2.2.2.2.1 (bD gs i).2.2.2.2.2.1=true) (h0:0≤a):0≤yM gs i a:=by
 have:=V8 hh (Int.le_refl 0) h0
 rw [alI] at this
 exact this
theorem aqO {a b c:Int}(h:b≤c):mx a b≤mx a c:=by
 unfold mx
 split<;>split<;>omega
theorem Uw {al am bm:List Int}:∀ {ms:List Int},(∀m∈ms,gi am m≤gi bm m)→Xr al am ms≤Xr al bm ms
 | [],_=>Int.le_refl _
 |m::ms,h=>by
  have h1:=Uw (al:=al) (ms:=ms) (fun x hx=>h x (by simp [hx]))
  have h2:=aqO (a:=gi al m) (h m (by simp))
  rw [qC,qC]
  omega
theorem xR {al am bm:List Int}:∀ {ms:List Int},(∀m∈ms,gi am m=gi bm m)→Xr al am ms=Xr al bm ms
 | [],_=>rfl
 |m::ms,h=>by rw [qC,qC,xR (ms:=ms) (fun x hx=>h x (by simp [hx])),h m (by simp)]
theorem abm {al am bm:List Int}{i:Int}:∀ {ms:List Int},ms.Nodup→i∈ms→(∀m∈ms,m≠i→gi am m=gi bm m)→Xr al bm ms=Xr al am ms+(mx (gi al i) (gi bm i)-mx (gi al i) (gi am i))
 | [],_,h,_=>by cases h
 | m::ms,hn,hi,h=>by
  obtain ⟨n1,n2⟩:=List.nodup_cons.1 hn
  rw [qC,qC]
  by_cases e:m=i
  ·subst e
   rw [xR (am:=am) (bm:=bm) (fun x hx=>h x (by simp [hx]) (fun e=>n1 (e▸hx)))]
   omega
  ·have hi2:i∈ms:=by
    rcases List.mem_cons.1 hi with h|h
    ·exact absurd h.symm e
    ·exact h
   rw [abm n2 hi2 (fun x hx=>h x (by simp [hx])),h m (by simp) e]
   omega
theorem XI {al am bm:List Int}{r:Rw}(h:∀m∈r.2,gi am m=gi bm m):rowB al am r=rowB al bm r:=by
 unfold rowB
 rw [xR h]
 congr 1
 rw [Bool.eq_iff_iff,List.all_eq_true,List.all_eq_true]
 constructor
 ·intro g m hm;rw [←h m hm];exact g m hm
 ·intro g m hm;rw [h m hm];exact g m hm
structure Inv (rows:List Rw) (gs:List Ch) (al sm lv:List Int):Prop where
 sl:sm.length=rows.length
 sm:∀k:Nat,k<rows.length→sm.getD k 0=Xr al (pO gs lv) (su rows k).2
 ll:lv.length=gs.length
 nn:∀j,0≤j→0≤gi lv j
 pp:PP rows gs al lv=true
theorem Ho {rows:List Rw}{k:Int}(h0:0≤k) (h1:k<(rows.length:Int)):su rows k∈rows:=by
 rw [Ei (by omega)];exact List.getElem_mem _
theorem SE {rows:List Rw}{gs:List Ch}{al mo od lv:List Int}(H:wu rows gs al mo od) {i L:Int}(hl:lv.length=gs.length) (h0:0≤i) (h1:i<(gs.length:Int)) {r:Rw}(hr:r∈rows):
  (∀m∈r.2,m≠i→gi (pO gs lv) m=gi (pO gs (lv.set i.toNat L)) m)∧gi (pO gs (lv.set i.toNat L)) i=yM gs i L:=by
 refine ⟨fun m hm e=>?_,?_⟩
 ·obtain ⟨m0,m1⟩:=(H.mem r hr).2 m hm
  rw [vw m0 m1,vw m0 m1,nG h0 (by omega) m0,if_neg e]
 ·rw [vw h0 h1,nG h0 (by omega) h0,if_pos rfl]
theorem agP {rows:List Rw}{gs:List Ch}{al mo od lv:List Int}(H:wu rows gs al mo od) {i L:Int}(hl:lv.length=gs.length) (h0:0≤i) (h1:i<(gs.length:Int)) {r:Rw}(hr:r∈rows) (hc:gi lv i=L-1):
  Xr al (pO gs (lv.set i.toNat L)) r.2=Xr al (pO gs lv) r.2+(if i∈r.2 then MV gs al i L else 0):=by
 obtain ⟨p1,p2⟩:=SE (L:=L) H hl h0 h1 hr
 split
 ·rename_i hi
  rw [abm (am:=pO gs lv) (H.mem r hr).1 hi p1,p2,vw h0 h1,hc]
  rfl
 ·rename_i hi
  rw [←xR (am:=pO gs lv) (fun m hm=>p1 m hm (fun e=>hi (e▸hm)))]
  omega
theorem aro {rows:List Rw}{gs:List Ch}{al mo od sm lv:List Int}(H:wu rows gs al mo od) (hI:Inv rows gs al sm lv) {i L:Int}(h0:0≤i) (h1:i<(gs.length:Int)) (hL:1≤L) (hc:gi lv i=L-1):
  ((OL rows).getD i.toNat []).all (Bg rows sm (MV gs al i L))=PP rows gs al (lv.set i.toNat L):=by
 have hg:=H.gl
 rw [aao (fun r hr=>⟨(H.mem r hr).1,fun m hm=>((H.mem r hr).2 m hm).1⟩) (by omega),Bool.eq_iff_iff,List.all_eq_true]
 unfold PP Aq
 rw [List.all_eq_true]
 have hpp:=hI.pp
 unfold PP Aq at hpp
 rw [List.all_eq_true] at hpp
 have hpos:1≤yM gs i L:=by
  have:=alH (H.has i h0 h1) (Int.le_refl 0) (show 0<L by omega)
  rw [alI] at this
  omega
 have hfit:∀k:Int,0≤k→k<(rows.length:Int)→i∈(su rows k).2→(Bg rows sm (MV gs al i L) k=rowB al (pO gs (lv.set i.toNat L)) (su rows k)):=fun k k0 k1 hk=>by
  have hr:=Ho k0 k1
  have hs:=hI.sm k.toNat (by omega)
  rw [Int.toNat_of_nonneg k0] at hs
  have hp:=agP (L:=L) H hI.ll h0 h1 hr hc
  rw [if_pos hk] at hp
  have hz:(su rows k).2.all (fun m=>gi (pO gs (lv.set i.toNat L)) m==0)=false:=by
   rw [Bool.eq_false_iff]
   intro hz
   have:=List.all_eq_true.1 hz i hk
   rw [(SE (L:=L) H hI.ll h0 h1 hr).2,beq_iff_eq] at this
   omega
  unfold Bg rowB
  rw [hz,Bool.false_or,hp,hs]
 constructor
 ·intro h r hr
  obtain ⟨k,hk,rfl⟩:=List.mem_iff_getElem.1 hr
  have ek:su rows (k:Int)=rows[k]:=Ei (by simpa using hk)
  by_cases hi:i∈rows[k].2
  ·have:=h (k:Int) (uQ.2 ⟨by omega,by omega,by
    rw [Int.sub_zero,ek,Int.toNat_of_nonneg h0]
    simpa using hi⟩)
   rw [hfit k (by omega) (by omega) (by rw [ek];exact hi),ek] at this
   exact this
  ·rw [←XI (am:=pO gs lv) (fun m hm=>(SE (L:=L) H hI.ll h0 h1 hr).1 m hm (fun e=>hi (e▸hm)))]
   exact hpp _ hr
 ·intro h x hx
  obtain ⟨x0,x1,x2⟩:=uQ.1 hx
  rw [Int.sub_zero,Int.toNat_of_nonneg h0] at x2
  rw [hfit x x0 (by omega) (by simpa using x2)]
  exact h _ (Ho x0 (by omega))
theorem ao7 {rows:List Rw}{gs:List Ch}{al mo od sm lv:List Int}{b:Bool}(H:wu rows gs al mo od) (hI:Inv rows gs al sm lv) {i L:Int}(h0:0≤i) (h1:i<(gs.length:Int)) (hL:1≤L):
  (DX (OL rows) rows gs al mo L (sm,lv,b) i).2.1=Vf (PP rows gs al) (tpO gs mo) L lv i∧Inv rows gs al (DX (OL rows) rows gs al mo L (sm,lv,b) i).1 (DX (OL rows) rows gs al mo L (sm,lv,b) i).2.1∧((DX (OL rows) rows gs al mo L (sm,lv,b) i).2.2=false→b=false∧(DX (OL rows) rows gs al mo L (sm,lv,b) i).2.1=lv):=by
 unfold DX Vf
 simp only
 by_cases hc:gi lv i=L-1∧L≤tpO gs mo i
 ·have hf:=aro H hI h0 h1 hL hc.1
  rw [if_pos (show lv.getD i.toNat 0=L-1∧L≤yX gs i (gi mo i) from hc),if_pos hc,hf]
  by_cases hp:PP rows gs al (lv.set i.toNat L)=true
  ·rw [if_pos hp,if_pos hp]
   have hg:=H.gl
   refine ⟨rfl,⟨by rw [sJ];exact hI.sl,fun k hk=>?_,by rw [List.length_set];exact hI.ll,fun j hj=>?_,hp⟩,fun h=>by cases h⟩
   ·have hr:su rows (k:Int)∈rows:=Ho (by omega) (by omega)
    simp only
    rw [aao (fun r hr=>⟨(H.mem r hr).1,fun m hm=>((H.mem r hr).2 m hm).1⟩) (by omega),JW yx (fun r hr=>(uQ.1 hr).1) (by rw [hI.sl];exact hk),hI.sm k hk,agP (L:=L) H hI.ll h0 h1 hr hc.1]
    have:(k:Int)∈ofF 0 rows (i.toNat:Int)↔i∈(su rows (k:Int)).2:=by
     rw [uQ,Int.sub_zero,Int.toNat_of_nonneg h0]
     simp only [List.contains_iff_mem]
     constructor
     ·exact fun h=>h.2.2
     ·exact fun h=>⟨by omega,by omega,h⟩
    by_cases hm:i∈(su rows (k:Int)).2
    ·rw [if_pos (this.2 hm),if_pos hm]
    ·rw [if_neg (fun h=>hm (this.1 h)),if_neg hm]
   ·simp only
    rw [nG h0 (by rw [hI.ll];exact h1) hj]
    split
    ·omega
    ·exact hI.nn j hj
  ·rw [if_neg hp,if_neg hp]
   exact ⟨rfl,hI,fun h=>⟨h,rfl⟩⟩
 ·rw [if_neg (show ¬(lv.getD i.toNat 0=L-1∧L≤yX gs i (gi mo i)) from hc),if_neg hc]
  exact ⟨rfl,hI,fun h=>⟨h,rfl⟩⟩
theorem abg {rows:List Rw}{gs:List Ch}{al mo od:List Int}(H:wu rows gs al mo od) {L:Int}(hL:1≤L):∀ {l sm lv:List Int}{b:Bool},XL gs.length l→Inv rows gs al sm lv→
  (swp (OL rows) rows gs al mo L (sm,lv,b) l).2.1=gsw (PP rows gs al) (tpO gs mo) L lv l∧Inv rows gs al (swp (OL rows) rows gs al mo L (sm,lv,b) l).1 (swp (OL rows) rows gs al mo L (sm,lv,b) l).2.1∧((swp (OL rows) rows gs al mo L (sm,lv,b) l).2.2=false→b=false∧(swp (OL rows) rows gs al mo L (sm,lv,b) l).2.1=lv)
 | [],sm,lv,b,_,hI=>⟨rfl,hI,fun h=>⟨h,rfl⟩⟩
 |i::l,sm,lv,b,hr,hI=>by
  obtain ⟨i0,i1⟩:=hr i (by simp)
  obtain ⟨r1,r2,r3⟩:=ao7 (b:=b) H hI i0 i1 hL
  obtain ⟨s1,s2,s3⟩:=abg H hL (l:=l) (b:=(DX (OL rows) rows gs al mo L (sm,lv,b) i).2.2) (fun x hx=>hr x (by simp [hx])) r2
  refine ⟨s1.trans (by rw [r1];rfl),s2,fun h=>?_⟩
  obtain ⟨t1,t2⟩:=s3 h
  obtain ⟨t3,t4⟩:=r3 t1
  exact ⟨t3,t2.trans t4⟩
theorem abo {rows:List Rw}{gs:List Ch}{al mo od:List Int}(H:wu rows gs al mo od):∀ {f:Nat}{L:Int}{sm lv:List Int},1≤L→Inv rows gs al sm lv→(∀i∈od,gi lv i≤L-1)→shl (OL rows) rows gs al mo od f L sm lv=LQ (PP rows gs al) (tpO gs mo) od f L lv
 |0,_,_,_,_,_,_=>rfl
 | f+1,L,sm,lv,hL,hI,hb=>by
  obtain ⟨s1,s2,s3⟩:=abg (b:=false) H hL H.ord hI
  rw [shl,LQ]
  split
  ·rw [abo H (by omega) s2 (fun i hi=>by
    rw [s1]
    have h1:=YU (P:=PP rows gs al) (tp:=tpO gs mo) (L:=L) (H.ord i hi).1 (l:=od) (lv:=lv) (by rw [hI.ll];exact H.ord)
    have h2:=hb i hi
    omega),s1]
  ·rename_i hc
   have hc:(swp (OL rows) rows gs al mo L (sm,lv,false) od).2.2=false:=by simpa using hc
   have e:=(s3 hc).2
   rw [←s1,e,Nh (fun i hi=>by have:=hb i hi;omega)]
theorem vk {n:Nat}{j:Int}:gi (List.replicate n 0) j=0:=by
 unfold gi
 simp only [List.getD,List.getElem?_replicate]
 split<;>rfl
theorem atw {rows:List Rw}{gs:List Ch}{al mo od:List Int}(H:wu rows gs al mo od):Inv rows gs al (SM al rows) (List.replicate gs.length 0):=by
 have hz:∀r∈rows,∀m∈r.2,gi (pO gs (List.replicate gs.length 0)) m=0:=fun r hr m hm=>by
  obtain ⟨m0,m1⟩:=(H.mem r hr).2 m hm
  rw [vw m0 m1,vk,alI]
 refine ⟨Ez,fun k hk=>?_,List.length_replicate,fun j _=>by rw [vk];omega,?_⟩
 ·rw [alZ hk]
  have hr:su rows (k:Int)∈rows:=Ho (by omega) (by omega)
  unfold smA Xr
  congr 1
  refine List.map_congr_left (fun m hm=>?_)
  obtain ⟨m0,m1⟩:=(H.mem _ hr).2 m hm
  rw [hz _ hr m hm]
  have:=H.al _ (qL m0 (by rw [H.all];exact m1))
  unfold mx
  rw [if_neg (by omega)]
 ·unfold PP Aq
  rw [List.all_eq_true]
  intro r hr
  unfold rowB
  rw [Bool.or_eq_true,List.all_eq_true]
  exact .inl (fun m hm=>by rw [hz r hr m hm];rfl)
def lvF (rows:List Rw) (gs:List Ch) (al mo od:List Int):List Int:=LQ (PP rows gs al) (tpO gs mo) od 80 1 (List.replicate gs.length 0)
theorem XC {rows:List Rw}{gs:List Ch}{al mo od:List Int}(H:wu rows gs al mo od) {i:Int}(h0:0≤i) (h1:i<(gs.length:Int)):0≤tpO gs mo i∧tpO gs mo i≤80∧tpO gs mo i<D9 (bD gs i).2.2.2.1 (bD gs i).2.2.2.2.1 (bD gs i).2.2.2.2.2.1:=
 ⟨YH (H.has i h0 h1) (H.mo _ (qL h0 (by rw [H.mol];exact h1))).1,YI,ajZ (H.has i h0 h1)⟩
theorem awL {rows:List Rw}{gs:List Ch}{al mo od:List Int}(H:wu rows gs al mo od):shV rows gs al mo od=lvF rows gs al mo od:=by
 unfold shV lvF
 rw [H.all,abo H (by omega) (atw H) (fun i _=>by rw [vk];omega),Vg,Ee (fun i hi=> .inr ?_)]
 have:=XC H (H.ord i hi).1 (H.ord i hi).2
 omega
end Go.Proofs.YtlihnbimgclogaaGreatDoor
namespace Go.Proofs.YtlihnbimgclogaaGreatDoor
open Go.Sx
section
variable {rows : List Rw} {gs : List Ch} {al mo od : List Int}
theorem aqX:(lvF rows gs al mo od).length=gs.length:=by
 unfold lvF
 rw [ack,List.length_replicate]
theorem abM (H:wu rows gs al mo od):XL (List.replicate gs.length (0:Int)).length od:=by rw [List.length_replicate];exact H.ord
theorem ayT (H:wu rows gs al mo od) {j:Int}(hj:0≤j):0≤gi (lvF rows gs al mo od) j:=by
 have:=akF (P:=PP rows gs al) (tp:=tpO gs mo) (f:=80) (L:=1) hj (abM H)
 rw [vk] at this
 exact this
theorem ajT (H:wu rows gs al mo od) {j:Int}(h0:0≤j) (h1:j<(gs.length:Int)):gi (lvF rows gs al mo od) j≤tpO gs mo j:=by
 have h2:=akG (P:=PP rows gs al) (tp:=tpO gs mo) (f:=80) (L:=1) h0 (abM H)
 rw [vk] at h2
 have h3:=XC H h0 h1
 unfold lvF
 omega
theorem ayS (H:wu rows gs al mo od):PP rows gs al (lvF rows gs al mo od)=true:=atX (atw H).pp
theorem aq2 {i k:Int}(hh:nD (bD gs i).2.2.2.1 (bD gs i).2.2.2.2.1 (bD gs i).2.2.2.2.2.1=true) (h0:0≤k) (h1:k<D9 (bD gs i).2.2.2.1 (bD gs i).2.2.2.2.1 (bD gs i).2.2.2.2.2.1):yX gs i (yM gs i k)=k:=by
 have h2:=alG hh h0
 have h3:=(Q8 hh h2 h0 h1).1 (Int.le_refl _)
 have h4:=ajZ (a:=yM gs i k) hh
 have h5:=(Q8 hh h2 (k:=U6 (bD gs i).2.2.2.1 (bD gs i).2.2.2.2.1 (bD gs i).2.2.2.2.2.1 (yM gs i k)) (by omega) h4).2 (Int.le_refl _)
 by_cases e:k<U6 (bD gs i).2.2.2.1 (bD gs i).2.2.2.2.1 (bD gs i).2.2.2.2.2.1 (yM gs i k)
 ·have:=alH hh h0 e
  have h5:yM gs i (U6 (bD gs i).2.2.2.1 (bD gs i).2.2.2.2.1 (bD gs i).2.2.2.2.2.1 (yM gs i k))≤yM gs i k:=h5
  omega
 ·unfold yX
  omega
end
theorem asz {mi ma st k:Int}(hh:nD mi ma st=true) (_:0≤k) (h1:k<D9 mi ma st):DN mi st k≤ma:=by
 obtain ⟨g1,g2,g3,g4,g5⟩:=fZ.1 hh
 unfold DN
 split
 ·omega
 ·unfold D9 at h1
  rw [if_pos hh] at h1
  have h2:(k-1)≤(ma-mi) / st:=by omega
  have:=(Int.le_ediv_iff_mul_le (a:=k-1) (b:=ma-mi) (c:=st) (by omega)).1 h2
  omega
theorem aAb {mi ma st k:Int}(h0:0≤k) (h1:k<D9 mi ma st):amA mi ma st k=DN mi st k∧amE mi ma st k=0:=by
 unfold amA amE
 rw [if_neg (by omega),if_neg (by omega)]
 exact ⟨rfl,rfl⟩
end Go.Proofs.YtlihnbimgclogaaGreatDoor
namespace Go.Proofs.YtlihnbimgclogaaGreatDoor
open Go.Sx
section
variable {rows : List Rw} {gs : List Ch} {al mo od lv : List Int}
def lvR (gs:List Ch) (lv:List Int):Prop:=lv.length=gs.length∧∀j,0≤j→j<(gs.length:Int)→0≤gi lv j∧gi lv j<D9 (bD gs j).2.2.2.1 (bD gs j).2.2.2.2.1 (bD gs j).2.2.2.2.2.1
theorem ajU (H:wu rows gs al mo od):lvR gs (lvF rows gs al mo od):=⟨aqX,fun j h0 h1=>⟨ayT H h0,by
 have:=ajT H h0 h1
 have:=XC H h0 h1
 omega⟩⟩
theorem asA (H:wu rows gs al mo od) {j k:Int}(h0:0≤j) (h1:j<(gs.length:Int)) (k0:0≤k) (k1:k<D9 (bD gs j).2.2.2.1 (bD gs j).2.2.2.2.1 (bD gs j).2.2.2.2.2.1):(0≤yM gs j k∧yM gs j k≤80)∧aEo gs j k=0∧aEp gs j k=yM gs j k∧yX gs j (yM gs j k)=k:=by
 have hh:=H.has j h0 h1
 obtain ⟨g1,g2,g3,g4,g5⟩:=fZ.1 hh
 have h2:=asz hh k0 k1
 obtain ⟨e1,e2⟩:=aAb k0 k1
 refine ⟨⟨alG hh k0,?_⟩,e2,e1,aq2 hh k0 k1⟩
 unfold yM
 omega
theorem aAa (H:wu rows gs al mo od) (R:lvR gs lv) {j:Int}(h0:0≤j) (h1:j<(gs.length:Int)):yX gs j (gi (pO gs lv) j)=gi lv j∧aEo gs j (gi lv j)=0∧aEp gs j (gi lv j)=gi (pO gs lv) j∧0≤gi (pO gs lv) j∧gi (pO gs lv) j≤80:=by
 obtain ⟨r0,r1⟩:=R.2 j h0 h1
 obtain ⟨a1,a2,a3,a4⟩:=asA H h0 h1 r0 r1
 rw [vw h0 h1]
 exact ⟨a4,a2,a3,a1⟩
theorem aBW (H:wu rows gs al mo od) {j k:Int}(h0:0≤j) (h1:j<(gs.length:Int)) (k0:0≤k) (k1:k<D9 (bD gs j).2.2.2.1 (bD gs j).2.2.2.2.1 (bD gs j).2.2.2.2.2.1):yM gs j k≤gi mo j↔k≤tpO gs mo j:=
 Q8 (H.has j h0 h1) (H.mo _ (qL h0 (by rw [H.mol];exact h1))).1 k0 k1
theorem wX {a b:List Int}(hl:a.length=b.length) (h:∀j:Int,0≤j→j<(b.length:Int)→gi a j=gi b j):a=b:=List.ext_getElem hl fun k h1 h2=>by
 have:=h (k:Int) (by omega) (by omega)
 rw [pX (by simpa using h1),pX (by simpa using h2)] at this
 simpa using this
def g4 (gs:List Ch) (mo b am:List Int) (j:Int):Prop:=(0≤gi b j∧gi b j<D9 (bD gs j).2.2.2.1 (bD gs j).2.2.2.2.1 (bD gs j).2.2.2.2.2.1)∧gi am j=yM gs j (gi b j)∧gi am j≤gi mo j
end
section
variable {cs : List Cd} {os : List ByteArray} {ks : List Ko} {gs : List Ch} {bs : List Ba} {al mo od : List Int}
theorem ag1 (h:sQ cs os ks gs bs al mo od=true):yP cs os ks gs bs al mo od=pO gs (lvF (jH cs gs cs.length) gs al mo od):=by
 unfold yP
 rw [if_pos h,awL (agZ h)]
theorem as3 (h:sQ cs os ks gs bs al mo od=true):shE cs os ks gs bs al mo od=0:=by unfold shE;rw [if_pos h]
end
end Go.Proofs.YtlihnbimgclogaaGreatDoor
namespace Go.Proofs.YtlihnbimgclogaaGreatDoor
open Go.Sx
abbrev oP:Ty:=.pair (.int .i64) (.int .i64)
abbrev Ra:=Int×Int
def mM (l:List Ra) (n:Int):Ra:=l.getD n.toNat (0,0)
theorem Y8 {l:List Ra}{n:Int}(h:n.toNat<l.length):mM l n=l[n.toNat]:=wV h
theorem akR {l:List Int}{j:Int}(h:l.length≤j.toNat):gi l j=0:=by
 unfold gi
 rw [List.getD_eq_getElem?_getD,List.getElem?_eq_none h]
 rfl
theorem ayN {l:List Int}{a:Int}(h:a∈l):∃j:Int,(0≤j∧j<(l.length:Int))∧gi l j=a:=by
 obtain ⟨k,hk,e⟩:=List.mem_iff_getElem.1 h
 exact ⟨k,by omega,by rw [pX (by simpa using hk)];simpa using e⟩
theorem neN {a b:Nat}:((a:Int) !=(b:Int))=!decide (a=b):=by
 by_cases h:a=b
 ·simp [h]
 ·have h':(a:Int)≠(b:Int):=by omega
  simp [h,h']
def Eu (t:Int) (x:Le):Bool:=decide (x.2.2.2.1≤t)&&decide (VB x>t)
def YN (o:List Int) (x:Le):List Int:=o.set x.2.1.toNat (mx (gi o x.2.1) x.2.2.1)
def vJ (n:Nat) (l:List Le) (t:Int):List Int:=(l.filter (Eu t)).foldl YN (List.replicate n 0)
def below (n:Int) (l:List Le):Bool:=l.all (fun x=>decide (x.2.1<n))
def qR (l:List Le) (n t:Int):Bool:=(gJ l&&(inB n 0 16&&inB t 0 1100000))&&below n l
def iH (l:List Le) (n t:Int):List Int:=if qR l n t=true then vJ n.toNat l t else []
def JU (l:List Le) (n t:Int):Int:=if qR l n t=true then 0 else 1
theorem Rj {o:List Int}{x:Le}:(YN o x).length=o.length:=by simp [YN]
theorem abZ:∀ {l:List Le}{o:List Int},(l.foldl YN o).length=o.length
 | [],_=>rfl
 |x::l,o=>by rw [List.foldl_cons,abZ,Rj]
theorem xA {n:Nat}{l:List Le}{t:Int}:(vJ n l t).length=n:=by rw [vJ,abZ,List.length_replicate]
theorem Ea {l:List Le}(h:gJ l=true):l.Pairwise (fun a b=>a.1<b.1∧a.2.2.2.1≤b.2.2.2.1):=by
 unfold gJ at h
 rw [Bool.and_eq_true] at h
 have hs:∀k:Nat,(hk:k+1<l.length)→l[k].1<l[k+1].1∧l[k].2.2.2.1≤l[k+1].2.2.2.1:=fun k hk=>by
  have:=fU.1 h.2 (k+1) (by omega)
  unfold jQ Bf at this
  rw [vC (n:=((k+1:Nat):Int)) (by simpa using hk),vC (n:=((k+1:Nat):Int)-1) (by omega)] at this
  simp only [Bool.and_eq_true,Bool.or_eq_true,decide_eq_true_eq] at this
  obtain ⟨_,h1|h1⟩:=this
  ·omega
  ·have e:(((k+1:Nat):Int)-1).toNat=k:=by omega
   simp only [e,Int.toNat_natCast] at h1
   omega
 rw [List.pairwise_iff_getElem]
 intro i j hi hj hij
 induction j with
 |zero=>omega
 | succ j ih=>
  have h1:=hs j (by omega)
  by_cases e:i=j
  ·subst e;exact h1
  ·have h2:=ih (by omega) (by omega)
   omega
def zD (c:Ch):Int:=c.2.2.2.2.2.2.1
def UL (c:Ch) (r:Ra):Bool:=LH c.2.2.1 c.2.2.2.1 c.2.2.2.2.1 c.2.2.2.2.2.1 (zD c) r.1 r.2
def Xu (x:Dm):Bool:=inB x.2.1 0 1000000000&&(inB x.2.2.1 0 1000000&&inB x.2.2.2 1 9)
def Ie (cs:List Cd) (os:List ByteArray) (ks:List Ko) (gs:List Ch) (bs:List Ba) (l:List Le) (rs:List Ra) (d:List Dm) (t n:Int):Bool:=
 (dL cs os ks gs bs&&gJ l)&&((decide (rs.length=gs.length)&&(decide (d.length=gs.length)&&(inB t 0 1000000&&inB n 1 999900)))&&(below gs.length l&&Lr gs.length (fun j=>UL (bD gs j) (mM rs j)&&Xu (uy d j))))
def uU (n:Nat) (f:Int→Int):List Int:=(List.range n).map (fun k:Nat=>f (k:Int))
theorem ay8 {x a b:Int}:(decide (x<a) ||decide (x>b))=!inB x a b:=by
 unfold inB
 by_cases h1:x<a
 ·rw [decide_eq_true h1,decide_eq_false (p:=x≥a) (by omega)];rfl
 ·rw [decide_eq_false h1,decide_eq_true (p:=x≥a) (by omega)]
  by_cases h2:x>b
  ·rw [decide_eq_true h2,decide_eq_false (p:=x≤b) (by omega)];rfl
  ·rw [decide_eq_false h2,decide_eq_true (p:=x≤b) (by omega)];rfl
theorem ay7 {x a b:Int}{y:Bool}:(decide (x<a) ||(decide (x>b) ||y))=(!inB x a b ||y):=by rw [←Bool.or_assoc,ay8]
theorem vbE {c:Ch}{r:Ra}{x:Dm}:((!LH c.2.2.1 c.2.2.2.1 c.2.2.2.2.1 c.2.2.2.2.2.1 c.2.2.2.2.2.2.1 r.1 r.2) ||(decide (x.2.1<0) ||(decide (x.2.1>1000000000) ||(decide (x.2.2.1<0) ||(decide (x.2.2.1>1000000) ||(decide (x.2.2.2<1) ||decide (x.2.2.2>9)))))))=!(UL c r&&Xu x):=by
 unfold UL zD Xu
 rw [ay7,ay7,ay8,Bool.not_and,Bool.not_and,Bool.not_and]
def arp (cs:List Cd) (os:List ByteArray) (ks:List Ko) (gs:List Ch) (bs:List Ba) (l:List Le) (rs:List Ra) (d:List Dm):Bool:=decide (cs.length≤40∧os.length≤40∧ks.length≤40∧gs.length≤40∧bs.length≤40)&&(decide ((l.length:Int)≤100)&&(decide ((rs.length:Int)≤40)&&decide ((d.length:Int)≤40)))
theorem dZ {n:Nat}{f:Int→Int}:(uU n f).length=n:=by simp [uU]
theorem jE {n:Nat}{f:Int→Int}{j:Int}(h0:0≤j) (h1:j<(n:Int)):gi (uU n f) j=f j:=by
 rw [pX (by rw [dZ];omega)]
 simp only [uU,List.getElem_map,List.getElem_range]
 rw [Int.toNat_of_nonneg h0]
theorem Jf {n:Nat}{f:Int→Int}{x:Int}(h:x∈uU n f):∃j,(0≤j∧j<(n:Int))∧f j=x:=by
 obtain ⟨k,hk,e⟩:=List.mem_map.1 h
 exact ⟨k,⟨by omega,by have:=List.mem_range.1 hk;omega⟩,e⟩
def nT (gs:List Ch):List Int:=uU gs.length (fun k=>zD (bD gs k))
def qh (gs:List Ch) (d:List Dm):List Int:=uU gs.length (fun k=>if (uy d k).1=true then (bD gs k).2.2.2.2.1 else 0)
def kW (gs:List Ch) (l:List Le) (t:Int):List Int:=uU gs.length (fun k=>mx (zD (bD gs k)) (gi (vJ gs.length l t) k))
def tgL (cs:List Cd) (os:List ByteArray) (ks:List Ko) (gs:List Ch) (bs:List Ba) (d:List Dm) (t:Int):List Int:=yP cs os ks gs bs (nT gs) (qh gs d) (kM d t)
def MR (cs:List Cd) (os:List ByteArray) (ks:List Ko) (gs:List Ch) (bs:List Ba) (l:List Le) (d:List Dm) (t:Int):List Int:=yP cs os ks gs bs (kW gs l t) (tgL cs os ks gs bs d t) (kM d t)
theorem acB {l:List Ra}{i j:Int}{v:Ra}(h0:0≤i) (h1:i<(l.length:Int)) (hj:0≤j):mM (l.set i.toNat v) j=if j=i then v else mM l j:=by
 unfold mM
 rw [List.getD_eq_getElem?_getD,List.getD_eq_getElem?_getD,List.getElem?_set]
 by_cases e:j=i
 ·subst e
  rw [if_pos rfl,if_pos rfl,if_pos (by omega)]
  rfl
 ·rw [if_neg (by omega),if_neg e]
theorem arh {a b:List Ra}(hl:a.length=b.length) (h:∀j:Int,0≤j→j<(b.length:Int)→mM a j=mM b j):a=b:=List.ext_getElem hl fun k h1 h2=>by
 have:=h (k:Int) (by omega) (by omega)
 rw [Y8 (by simpa using h1),Y8 (by simpa using h2)] at this
 simpa using this
def PU (cs:List Cd) (os:List ByteArray) (ks:List Ko) (gs:List Ch) (bs:List Ba) (l:List Le) (d:List Dm) (t:Int) (od:List Int):List Int:=yP cs os ks gs bs (kW gs l t) (yP cs os ks gs bs (nT gs) (qh gs d) od) od
def nwO (a t:Int):Option Le→Bool
 |none=>true
 |some x=>x.2.2.1 !=a ||decide (x.2.2.2.1≤t-6)
def nwB (gs:List Ch) (l:List Le) (t i a:Int):Bool:=!decide (a≤zD (bD gs i))&&nwO a t (l.reverse.find? (fun x=>x.2.1==i))
def nxA (c:Ch) (r:Ra) (w:Int):Int:=nA c.2.2.1 c.2.2.2.1 c.2.2.2.2.1 c.2.2.2.2.2.1 (zD c) r.1 r.2 w
def nxS (c:Ch) (r:Ra) (w:Int):Int:=nS c.2.2.1 c.2.2.2.1 c.2.2.2.2.1 c.2.2.2.2.2.1 (zD c) r.1 r.2 w
def LU (gs:List Ch) (rs:List Ra) (w:List Int) (k:Nat):List Int:=uU k (fun k=>nxA (bD gs k) (mM rs k) (gi w k))
def dcR (gs:List Ch) (rs:List Ra) (w:List Int) (k:Nat):List Ra:=(List.range k).map (fun k:Nat=>(nxA (bD gs k) (mM rs k) (gi w k),nxS (bD gs k) (mM rs k) (gi w k)))
def RX (gs:List Ch) (l:List Le) (t n:Int) (am:List Int):Nat→List Le
 |0=>[]
 |k+1=>RX gs l t n am k++(if nwB gs l t k (gi am k)=true then [(n+(RX gs l t n am k).length,(k:Int),gi am k,t,12)] else [])
theorem RV {gs:List Ch}{rs:List Ra}{w:List Int}{k:Nat}:(dcR gs rs w k).length=k:=by simp [dcR]
theorem azT {gs:List Ch}{rs:List Ra}{w:List Int}{k:Nat}{j:Int}(h0:0≤j) (h1:j<(k:Int)):mM (dcR gs rs w k) j=(nxA (bD gs j) (mM rs j) (gi w j),nxS (bD gs j) (mM rs j) (gi w j)):=by
 rw [Y8 (by rw [RV];omega)]
 simp only [dcR,List.getElem_map,List.getElem_range]
 rw [Int.toNat_of_nonneg h0]
def okC (c:Ch) (r:Ra) (w:Int):Bool:=okB c.2.2.1 c.2.2.2.1 c.2.2.2.2.1 c.2.2.2.2.2.1 (zD c) r.1 r.2 w
def dcK (gs:List Ch) (rs:List Ra) (w:List Int):Prop:=∀j,0≤j→j<(gs.length:Int)→okC (bD gs j) (mM rs j) (gi w j)=true
theorem Bo {gs:List Ch}{l:List Le}{t n:Int}{am:List Int}:∀ {k:Nat},(RX gs l t n am k).length≤k
 |0=>by simp [RX]
 |k+1=>by
  have:=Bo (gs:=gs) (l:=l) (t:=t) (n:=n) (am:=am) (k:=k)
  rw [RX,List.length_append]
  split
  ·simp only [List.length_cons,List.length_nil];omega
  ·simp only [List.length_nil];omega
section
variable (cs : List Cd) (os : List ByteArray) (ks : List Ko) (gs : List Ch) (bs : List Ba) (l : List Le) (rs : List Ra) (d : List Dm) (t n : Int)
def deA:List Int:=if Ie cs os ks gs bs l rs d t n=true then LU gs rs (MR cs os ks gs bs l d t) gs.length else []
def deR:List Ra:=if Ie cs os ks gs bs l rs d t n=true then dcR gs rs (MR cs os ks gs bs l d t) gs.length else []
def Hu:List Le:=if Ie cs os ks gs bs l rs d t n=true then RX gs l t n (LU gs rs (MR cs os ks gs bs l d t) gs.length) gs.length else []
def deE:Int:=if Ie cs os ks gs bs l rs d t n=true then 0 else 1
end
section
variable {cs : List Cd} {os : List ByteArray} {ks : List Ko} {gs : List Ch} {bs : List Ba} {l : List Le} {rs : List Ra} {d : List Dm} {t n : Int}
structure Vd (cs:List Cd) (os:List ByteArray) (ks:List Ko) (gs:List Ch) (bs:List Ba) (l:List Le) (rs:List Ra) (d:List Dm) (t n:Int):Prop where
 site:dL cs os ks gs bs=true
 les:gJ l=true
 rl:rs.length=gs.length
 dl:d.length=gs.length
 gl:gs.length≤16
 tb:0≤t∧t≤1000000
 nb:1≤n∧n≤999900
 co:below gs.length l=true
 ra:∀j:Int,0≤j→j<(gs.length:Int)→UL (bD gs j) (mM rs j)=true
 dm:∀j:Int,0≤j→j<(gs.length:Int)→Xu (uy d j)=true
 ch:∀j:Int,0≤j→j<(gs.length:Int)→chW (bD gs j)=true
theorem asP (h:Ie cs os ks gs bs l rs d t n=true):Vd cs os ks gs bs l rs d t n:=by
 unfold Ie at h
 simp only [Bool.and_eq_true,decide_eq_true_eq,dV] at h
 obtain ⟨⟨h1,h2⟩,⟨h3,h4,h5,h6⟩,h7,h8⟩:=h
 have hj:∀j:Int,0≤j→j<(gs.length:Int)→UL (bD gs j) (mM rs j)=true∧Xu (uy d j)=true:=fun j h0 hj=>by
  have:=fU.1 h8 j.toNat (by omega)
  rw [Int.toNat_of_nonneg h0,Bool.and_eq_true] at this
  exact this
 exact ⟨h1,h2,h3,h4,(fG.1 h1).1.2.2.2.2.1,h5,h6,h7,fun j h0 h1=>(hj j h0 h1).1,fun j h0 h1=>(hj j h0 h1).2,fun j h0 hj=>by
  have:=qE h1 h0 hj
  unfold GV at this
  simp only [Bool.and_eq_true] at this
  exact this.2.2⟩
theorem RZ {c:Ch}(h:chW c=true):(1≤c.2.2.1∧c.2.2.1≤7)∧(1≤c.2.2.2.1∧c.2.2.2.1≤c.2.2.2.2.1)∧c.2.2.2.2.1≤80∧(1≤c.2.2.2.2.2.1∧c.2.2.2.2.2.1≤80)∧0≤zD c∧zD c≤c.2.2.2.2.1:=by
 unfold chW at h
 unfold zD
 simp only [Bool.and_eq_true,Bool.or_eq_true,dV,beq_iff_eq] at h
 omega
theorem SI (hv:gJ l=true) {m:Nat}:∀a∈vJ m l t,0≤a∧a≤80:=by
 have key:∀(l:List Le) (o:List Int),(∀x∈l,Ls x=true)→(∀a∈o,0≤a∧a≤80)→∀a∈l.foldl YN o,0≤a∧a≤80:=fun l=>by
  induction l with
  |nil=>exact fun o _ h=>h
  | cons x l ih=>
   intro o hl ho
   rw [List.foldl_cons]
   refine ih _ (fun y hy=>hl y (by simp [hy])) fun a ha=>?_
   have hx:=AO.1 (hl x (by simp))
   rcases List.mem_or_eq_of_mem_set ha with ha|rfl
   ·exact ho a ha
   ·have:0≤gi o x.2.1∧gi o x.2.1≤80:=by
     by_cases h:x.2.1.toNat<o.length
     ·rw [pX h];exact ho _ (List.getElem_mem _)
     ·rw [akR (by omega)];omega
    unfold mx
    split<;>omega
 refine key _ _ (fun x hx=>(jI hv).2 x (List.mem_filter.1 hx).1) fun a ha=>?_
 rw [List.eq_of_mem_replicate ha]
 omega
theorem ab5 (hd:d.length=gs.length):nC (kM d t) gs.length=true:=by
 unfold nC
 rw [UQ,hd,decide_eq_true rfl,Bool.true_and,Bool.and_eq_true,List.all_eq_true]
 refine ⟨fun x hx=>Am.2 (by have:=aiq.1 hx;rw [hd] at this;exact this),IW.2 fun j hj hm=>?_⟩
 obtain ⟨k,hk,e⟩:=List.mem_iff_getElem.1 hm
 rw [List.length_take] at hk
 rw [List.getElem_take] at e
 have:=(List.pairwise_iff_getElem.1 (X9 (d:=d) (t:=t))) k j (by omega) hj (by omega)
 exact this e
theorem acu {l:List Int}{a b:Int}(hz:a≤0∧0≤b) (h:∀x∈l,a≤x∧x≤b) {j:Int}:a≤gi l j∧gi l j≤b:=by
 by_cases hj:j.toNat<l.length
 ·rw [pX hj];exact h _ (List.getElem_mem _)
 ·rw [akR (by omega)];exact hz
structure Si (cs:List Cd) (os:List ByteArray) (ks:List Ko) (gs:List Ch) (bs:List Ba) (d:List Dm):Prop where
 site:dL cs os ks gs bs=true
 dl:d.length=gs.length
theorem Si.ch (h:Si cs os ks gs bs d) {j:Int}(h0:0≤j) (hj:j<(gs.length:Int)):chW (bD gs j)=true:=by
 have:=qE h.site h0 hj
 unfold GV at this
 simp only [Bool.and_eq_true] at this
 exact this.2.2
theorem Vd.si (h:Vd cs os ks gs bs l rs d t n):Si cs os ks gs bs d:=⟨h.site,h.dl⟩
theorem az9 (h:Si cs os ks gs bs d):∀a∈nT gs,0≤a∧a≤80:=fun a ha=>by
 obtain ⟨j,⟨h0,h1⟩,rfl⟩:=Jf ha
 have:=RZ (h.ch h0 h1)
 omega
theorem avA (h:Si cs os ks gs bs d):∀a∈qh gs d,0≤a∧a≤80:=fun a ha=>by
 obtain ⟨j,⟨h0,h1⟩,rfl⟩:=Jf ha
 have:=RZ (h.ch h0 h1)
 split<;>omega
theorem aAc (h:Vd cs os ks gs bs l rs d t n):∀a∈kW gs l t,0≤a∧a≤80:=fun a ha=>by
 obtain ⟨j,⟨h0,h1⟩,rfl⟩:=Jf ha
 have:=RZ (h.ch j h0 h1)
 have:=acu (j:=j) ⟨Int.le_refl 0,by decide⟩ (SI h.les (m:=gs.length) (t:=t))
 unfold mx
 split<;>omega
theorem ag2 {al mo od:List Int}(hk:sQ cs os ks gs bs al mo od=true):(yP cs os ks gs bs al mo od).length=gs.length∧∀j,0≤j→j<(gs.length:Int)→(0≤gi (yP cs os ks gs bs al mo od) j∧gi (yP cs os ks gs bs al mo od) j≤80)∧gi (yP cs os ks gs bs al mo od) j≤gi mo j:=by
 have H:=agZ hk
 rw [ag1 hk]
 refine ⟨V6,fun j h0 h1=>?_⟩
 obtain ⟨_,_,_,e4,e5⟩:=aAa H (ajU H) h0 h1
 have h3:=(aBW H h0 h1 ((ajU H).2 j h0 h1).1 ((ajU H).2 j h0 h1).2).2 (ajT H h0 h1)
 rw [vw h0 h1] at e4 e5⊢
 exact ⟨⟨e4,e5⟩,h3⟩
theorem abp {al mo od:List Int}(hk:sQ cs os ks gs bs al mo od=true):(yP cs os ks gs bs al mo od).length=gs.length∧∀a∈yP cs os ks gs bs al mo od,0≤a∧a≤80:=by
 obtain ⟨h1,h2⟩:=ag2 hk
 refine ⟨h1,fun a ha=>?_⟩
 obtain ⟨j,hj,rfl⟩:=ayN ha
 rw [h1] at hj
 exact (h2 j hj.1 hj.2).1
theorem asX (h:Si cs os ks gs bs d):sQ cs os ks gs bs (nT gs) (qh gs d) (kM d t)=true:=
 jG.2 ⟨h.site,dZ,dZ,List.all_eq_true.2 fun a ha=>oZ.2 (az9 h a ha),List.all_eq_true.2 fun a ha=>oZ.2 (avA h a ha),ab5 h.dl⟩
theorem asY (h:Si cs os ks gs bs d):(tgL cs os ks gs bs d t).length=gs.length∧∀a∈tgL cs os ks gs bs d t,0≤a∧a≤80:=by
 exact abp (asX (t:=t) h)
theorem abP (h:Vd cs os ks gs bs l rs d t n):sQ cs os ks gs bs (kW gs l t) (tgL cs os ks gs bs d t) (kM d t)=true:=
 jG.2 ⟨h.site,dZ,(asY h.si).1,List.all_eq_true.2 fun a ha=>oZ.2 (aAc h a ha),List.all_eq_true.2 fun a ha=>oZ.2 ((asY h.si).2 a ha),ab5 h.dl⟩
theorem ato (h:Vd cs os ks gs bs l rs d t n):(MR cs os ks gs bs l d t).length=gs.length∧∀a∈MR cs os ks gs bs l d t,0≤a∧a≤80:=by
 exact abp (abP h)
theorem aCS (h:Vd cs os ks gs bs l rs d t n) {j:Int}:0≤gi (MR cs os ks gs bs l d t) j∧gi (MR cs os ks gs bs l d t) j≤80:=acu ⟨Int.le_refl 0,by decide⟩ (ato h).2
theorem alu (h:Vd cs os ks gs bs l rs d t n):dcK gs rs (MR cs os ks gs bs l d t):=fun j j0 j1=>by
 have hr:=h.ra j j0 j1
 have hb:=aCS h (j:=j)
 unfold UL at hr
 unfold okC okB
 rw [hr,decide_eq_true hb.1,decide_eq_true hb.2]
 rfl
theorem adN (h:Vd cs os ks gs bs l rs d t n):qR l gs.length t=true:=by
 have:=h.gl
 have:=h.tb
 unfold qR
 rw [h.les,dV.2 ⟨by omega,by omega⟩,dV.2 ⟨by omega,by omega⟩,h.co]
 rfl
theorem aBy (h:Vd cs os ks gs bs l rs d t n):yS d t∧d.length≤19:=by
 refine ⟨⟨fun x hx=>?_,by have:=h.tb;omega,by have:=h.tb;omega⟩,by have:=h.gl;have:=h.dl;omega⟩
 obtain ⟨k,hk,rfl⟩:=List.mem_iff_getElem.1 hx
 have:=h.dm k (by omega) (by rw [←h.dl];omega)
 unfold Xu uy at this
 rw [wV (by simpa using hk)] at this
 simp only [Bool.and_eq_true,dV,Int.toNat_natCast] at this
 omega
end
end Go.Proofs.YtlihnbimgclogaaGreatDoor
namespace Go.Proofs.YtlihnbimgclogaaGreatDoor
open Go.Sx
def aec:List LV→T LV
 | [.agg [.xl (.pair .str (.pair (.int .i64) (.pair (.int .i64) (.pair (.int .i64) (.pair (.pair (.int .i64) (.int .i64)) (.pair (.int .i64) (.pair (.int .i64) (.pair (.int .i64) (.pair (.int .i64) (.int .i64)))))))))) cs,.xl (.str) os,.xl (.pair .str (.pair (.int .i64) (.pair (.int .i64) (.int .i64)))) ks,.xl (.pair .str (.pair (.int .i64) (.pair (.int .i64) (.pair (.int .i64) (.pair (.int .i64) (.pair (.int .i64) (.pair (.int .i64) (.int .i64)))))))) gs,.xl (.pair .str (.int .i64)) bs],.xl (.pair (.int .i64) (.pair (.int .i64) (.pair (.int .i64) (.pair (.int .i64) (.int .i64))))) l,.xl (.pair (.int .i64) (.int .i64)) rs,.xl (.pair .bool (.pair (.int .i64) (.pair (.int .i64) (.int .i64)))) d]=> .ok (.v (.bool (arp cs os ks gs bs l rs d)))
 |_=> .no
noncomputable def ZL:List LV→T LV:=gZ Tryz.prog Tryz.f12.params.toList aec
noncomputable def ak7:Specs:=bf [(34,ZG)]
theorem azp:∀g S,ak7 g=some S→Valid Tryz.prog aS g S:=aT (l:=[(34,ZG)]) ⟨avQ,trivial⟩
theorem aqa (cs:List Cd) (os:List ByteArray) (ks:List Ko) (gs:List Ch) (bs:List Ba) (l:List Le) (rs:List Ra) (d:List Dm):bW Tryz.prog aS (ak7) fE aC Tryz.f12 [.agg [.xl eu cs,.xl .str os,.xl eG ks,.xl dK gs,.xl eP bs],.xl iV l,.xl oP rs,.xl tJ d]=.ok (.v (.bool ((decide (List.length cs≤40∧List.length os≤40∧List.length ks≤40∧List.length gs≤40∧List.length bs≤40))&&((decide ((List.length l:Int)≤100))&&((decide ((List.length rs:Int)≤40))&&(decide ((List.length d:Int)≤40))))))):=by kernel_rfl
theorem avV:Valid Tryz.prog aS 12 ZL:=aI Tryz.func12 rfl azp aG (aY (by kernel_rfl)) (fun args lv h=>by
 unfold aec at h
 split at h
 ·simp only [canL,canX]
  rw [aqa]
  exact h
 ·cases h)
structure mg where
 m:List Le
 IB:List Ra
 d:List Dm
 r:Bool
 n:Int
 i:Int
 af:List Cd
 aA:List ByteArray
 ai:List Ko
 ak:List Ch
 aJ:List Ba
def aGu (s:mg):List LV:=[.xl iV s.m,.xl oP s.IB,.xl tJ s.d,.own 0 0,.v (.bool s.r),.v (.int .i64 s.n),.v (.int .i64 s.i)]
def aFr (s:mg):List aW:=[⟨[.xl eu s.af,.xl .str s.aA,.xl eG s.ai,.xl dK s.ak,.xl eP s.aJ],28,.cl,false⟩]
noncomputable def CZ:Code:=((aB (Tryz.f22.body.getD .skip))[0]?).getD .skip
def aa5 (s:mg):T (Rd mg):=
 .br (decide (s.i<(List.length s.m:Int))) (.req (0≤s.i∧s.i<(List.length s.m:Int)) (.br (decide ((gU s.m s.i).2.1≥s.n)) (.ok (.stop (.ret) {s with r:=false})) (.ok (.next {s with i:=(IntKind.i64.wrap (s.i+1))})))) (.ok (.stop (.exit 0) s))
abbrev auZ (s:mg):=(aa5 s).rd s
def KR (s:mg) (j:Int):Bool:=decide ((gU s.m j).2.1<s.n)
def afg (s:mg):Prop:=s.i=0∧0≤(List.length s.m:Int)∧(List.length s.m:Int)≤1000∧True
def OE (s:mg):Prop:=0≤s.i∧s.i≤(List.length s.m:Int)∧(List.length s.m:Int)≤1000∧(True)∧∀j:Nat,(j:Int)<s.i→KR s j=true
def QH (s:mg):Nat:=((List.length s.m:Int)-s.i).toNat
def amU (x:Ex) (_ s':mg):Prop:=(x=.exit 0∧∀j:Nat,(j:Int)<(List.length s'.m:Int)→KR s' j=true)∨(x=.ret∧s'.r=false∧∃j:Nat,(j:Int)<(List.length s'.m:Int)∧KR s' j=false)
theorem aD6:∀s,afg s→OE s:=by
 intro s h
 obtain ⟨h0,h1,h2,h3⟩:=h
 exact ⟨by omega,by omega,h2,h3,fun j hj=>by omega⟩
theorem azG (s:mg) (hI:OE s):bP (fun s'=>OE s'∧QH s'<QH s) (fun x s'=>amU x s s') (auZ s):=by
 unfold auZ aa5
 dsimp only [T.rd,T.rl]
 obtain ⟨h0,h1,h2,h3,h4⟩:=hI
 refine au (fun c1=>au (fun c2=>?_) (fun c2=>?_)) (fun c1=>?_)
 ·have c1:s.i<(List.length s.m:Int):=by simpa using c1
  refine .inr ⟨rfl,rfl,s.i.toNat,by simp only;omega,?_⟩
  rw [Int.toNat_of_nonneg (by omega)]
  have hg:KR s s.i=false:=by unfold KR;(simp only [decide_eq_true_eq,decide_eq_false_iff_not] at c2⊢;omega)
  exact hg
 ·have c1:s.i<(List.length s.m:Int):=by simpa using c1
  have hg:KR s s.i=true:=by unfold KR;(simp only [decide_eq_true_eq,decide_eq_false_iff_not] at c2⊢;omega)
  rw [aN (x:=s.i+1) (by omega) (by omega)]
  refine ⟨⟨by simp only;omega,by simp only;omega,h2,h3,fun j hj=>?_⟩,by simp only [QH];omega⟩
  by_cases hji:(j:Int)<s.i
  ·exact h4 j hji
  ·have:(j:Int)=s.i:=by simp only at hj;omega
   rw [this];exact hg
 ·have c1:(List.length s.m:Int)≤s.i:=by simpa using c1
  exact .inl ⟨rfl,fun j hj=>h4 j (by omega)⟩
def Gp:bQ mg:=⟨0,119,[1,2,3,6,12,13,14],[],aGu,aFr,fun v b=>⟨aQ iV (v.getD 0 .junk),aQ oP (v.getD 1 .junk),aQ tJ (v.getD 2 .junk),yF (v.getD 4 .junk),gI (v.getD 5 .junk),gI (v.getD 6 .junk),aQ eu (aV (aO b 0) 0),aQ .str (aV (aO b 0) 1),aQ eG (aV (aO b 0) 2),aQ dK (aV (aO b 0) 3),aQ eP (aV (aO b 0) 4)⟩,aa5,fun s r=> {r with m:=s.m,IB:=s.IB,d:=s.d,n:=s.n,af:=s.af,aA:=s.aA,ai:=s.ai,ak:=s.ak,aJ:=s.aJ},fun s=>s,fun _ s=>s,[.ret,.exit 0],afg,OE,QH⟩
abbrev x9:=Gp.run
abbrev adr:=Gp.jU
abbrev aA9:=Gp.q
theorem axH (s:mg) (hI:OE s):(aa5 s).all (fun _=>True):=by
 refine ⟨fun c1=>⟨?_,fun _=>trivial,fun _=>trivial⟩,fun _=>trivial⟩
 ·(obtain ⟨h0,h1,h2,h3,h4⟩:=hI;simp at c1;omega)
noncomputable def RG:Specs:=bf [(49,ZE),(50,ZJ),(51,ZM)]
theorem Y0:∀g S,RG g=some S→Valid Tryz.prog aS g S:=aT (l:=[(49,ZE),(50,ZJ),(51,ZM)]) ⟨avO,avT,avW,trivial⟩
theorem aja:Gp.Ok:=⟨fun s=>by kernel_rfl,fun s=>by kernel_rfl,fun s=>rfl,fun s t r=>rfl,fun s=>rfl,fun s=>by kernel_rfl⟩
theorem ah2:Gp.Pf (amU):=⟨aD6,fun _ _=>rfl,azG,axH⟩
theorem aoF:bn Tryz.prog aS (AN 0) (.loop CZ) Gp.lp:=bQ.snd aja ah2 (aU (Γ:=RG) (K:=fE) (L:=aC) Y0 aG CZ (fun b hb=>by rw [show aB CZ=[] by kernel_rfl] at hb;cases hb)) (fun s=>by kernel_rfl)
theorem ar6 (s:mg) (hE:afg s):∃s',OE s'∧amU (adr s) s' (x9 s):=bQ.fin aja ah2 s hE
structure pG where
 rs:List Ra
 d:List Dm
 r:Bool
 n:Int
 i:Int
 af:List Cd
 aA:List ByteArray
 ai:List Ko
 ak:List Ch
 aJ:List Ba
def aGt (s:pG):List LV:=[.xl oP s.rs,.xl tJ s.d,.own 0 0,.v (.bool s.r),.v (.int .i64 s.n),.v (.int .i64 s.i)]
def aFq (s:pG):List aW:=[⟨[.xl eu s.af,.xl .str s.aA,.xl eG s.ai,.xl dK s.ak,.xl eP s.aJ],28,.cl,false⟩]
noncomputable def CY:Code:=((aB (Tryz.f22.body.getD .skip))[1]?).getD .skip
def aa4 (s:pG):T (Rd pG):=
 .br (decide (s.i<s.n)) (.req (0≤s.i∧s.i<(List.length s.d:Int)) (.req (0≤s.i∧s.i<(List.length s.ak:Int)) (.req (0≤s.i∧s.i<(List.length s.rs:Int)) (.br ((!(LH (bD s.ak s.i).2.2.1 (bD s.ak s.i).2.2.2.1 (bD s.ak s.i).2.2.2.2.1 (bD s.ak s.i).2.2.2.2.2.1 (bD s.ak s.i).2.2.2.2.2.2.1 (mM s.rs s.i).1 (mM s.rs s.i).2)) ||((decide ((uy s.d s.i).2.1<0)) ||((decide ((uy s.d s.i).2.1>1000000000)) ||((decide ((uy s.d s.i).2.2.1<0)) ||((decide ((uy s.d s.i).2.2.1>1000000)) ||((decide ((uy s.d s.i).2.2.2<1)) ||(decide ((uy s.d s.i).2.2.2>9)))))))) (.ok (.stop (.ret) {s with r:=false})) (.ok (.next {s with i:=(IntKind.i64.wrap (s.i+1))})))))) (.ok (.stop (.exit 2) s))
abbrev auY (s:pG):=(aa4 s).rd s
def KQ (s:pG) (j:Int):Bool:=UL (bD s.ak j) (mM s.rs j)&&Xu (uy s.d j)
def aff (s:pG):Prop:=s.i=0∧0≤s.n∧s.n≤1000∧s.n=(s.ak.length:Int)∧s.rs.length=s.ak.length∧s.d.length=s.ak.length
def OD (s:pG):Prop:=0≤s.i∧s.i≤s.n∧s.n≤1000∧(s.n=(s.ak.length:Int)∧s.rs.length=s.ak.length∧s.d.length=s.ak.length)∧∀j:Nat,(j:Int)<s.i→KQ s j=true
def QG (s:pG):Nat:=(s.n-s.i).toNat
def amT (x:Ex) (_ s':pG):Prop:=(x=.exit 2∧∀j:Nat,(j:Int)<s'.n→KQ s' j=true)∨(x=.ret∧s'.r=false∧∃j:Nat,(j:Int)<s'.n∧KQ s' j=false)
theorem aD5:∀s,aff s→OD s:=by
 intro s h
 obtain ⟨h0,h1,h2,h3⟩:=h
 exact ⟨by omega,by omega,h2,h3,fun j hj=>by omega⟩
theorem azF (s:pG) (hI:OD s):bP (fun s'=>OD s'∧QG s'<QG s) (fun x s'=>amT x s s') (auY s):=by
 unfold auY aa4
 dsimp only [T.rd,T.rl]
 obtain ⟨h0,h1,h2,h3,h4⟩:=hI
 refine au (fun c1=>au (fun c2=>?_) (fun c2=>?_)) (fun c1=>?_)
 ·have c1:s.i<s.n:=by simpa using c1
  refine .inr ⟨rfl,rfl,s.i.toNat,by simp only;omega,?_⟩
  rw [Int.toNat_of_nonneg (by omega)]
  have hg:KQ s s.i=false:=by unfold KQ;(rw [vbE] at c2;first|exact LJ c2|exact ntW c2)
  exact hg
 ·have c1:s.i<s.n:=by simpa using c1
  have hg:KQ s s.i=true:=by unfold KQ;(rw [vbE] at c2;first|exact LJ c2|exact ntW c2)
  rw [aN (x:=s.i+1) (by omega) (by omega)]
  refine ⟨⟨by simp only;omega,by simp only;omega,h2,h3,fun j hj=>?_⟩,by simp only [QG];omega⟩
  by_cases hji:(j:Int)<s.i
  ·exact h4 j hji
  ·have:(j:Int)=s.i:=by simp only at hj;omega
   rw [this];exact hg
 ·have c1:s.n≤s.i:=by simpa using c1
  exact .inl ⟨rfl,fun j hj=>h4 j (by omega)⟩
def Gn:bQ pG:=⟨0,119,[2,3,6,12,13,15],[],aGt,aFq,fun v b=>⟨aQ oP (v.getD 0 .junk),aQ tJ (v.getD 1 .junk),yF (v.getD 3 .junk),gI (v.getD 4 .junk),gI (v.getD 5 .junk),aQ eu (aV (aO b 0) 0),aQ .str (aV (aO b 0) 1),aQ eG (aV (aO b 0) 2),aQ dK (aV (aO b 0) 3),aQ eP (aV (aO b 0) 4)⟩,aa4,fun s r=> {r with rs:=s.rs,d:=s.d,n:=s.n,af:=s.af,aA:=s.aA,ai:=s.ai,ak:=s.ak,aJ:=s.aJ},fun s=>s,fun _ s=>s,[.ret,.exit 2],aff,OD,QG⟩
abbrev abC:=Gn.run
abbrev adq:=Gn.jU
abbrev aA8:=Gn.q
theorem axG (s:pG) (hI:OD s):(aa4 s).all (fun _=>True):=by
 refine ⟨fun c1=>⟨?_,?_,?_,fun _=>trivial,fun _=>trivial⟩,fun _=>trivial⟩
 all_goals ((obtain ⟨h0,h1,h2,h3,h4⟩:=hI;obtain ⟨h3,h5,h6⟩:=h3;simp at c1;omega))
theorem ai9:Gn.Ok:=⟨fun s=>by kernel_rfl,fun s=>by kernel_rfl,fun s=>rfl,fun s t r=>rfl,fun s=>rfl,fun s=>by kernel_rfl⟩
theorem ah1:Gn.Pf (amT):=⟨aD5,fun _ _=>rfl,azF,axG⟩
theorem aoE:bn Tryz.prog aS (AN 0) (.loop CY) Gn.lp:=bQ.snd ai9 ah1 (aU (Γ:=RG) (K:=fE) (L:=aC) Y0 aG CY (fun b hb=>by rw [show aB CY=[] by kernel_rfl] at hb;cases hb)) (fun s=>by kernel_rfl)
theorem ar5 (s:pG) (hE:aff s):∃s',OD s'∧amT (adq s) s' (abC s):=bQ.fin ai9 ah1 s hE
def aeb:List LV→T LV
 | [.agg [.xl (.pair .str (.pair (.int .i64) (.pair (.int .i64) (.pair (.int .i64) (.pair (.pair (.int .i64) (.int .i64)) (.pair (.int .i64) (.pair (.int .i64) (.pair (.int .i64) (.pair (.int .i64) (.int .i64)))))))))) cs,.xl (.str) os,.xl (.pair .str (.pair (.int .i64) (.pair (.int .i64) (.int .i64)))) ks,.xl (.pair .str (.pair (.int .i64) (.pair (.int .i64) (.pair (.int .i64) (.pair (.int .i64) (.pair (.int .i64) (.pair (.int .i64) (.int .i64)))))))) gs,.xl (.pair .str (.int .i64)) bs],.xl (.pair (.int .i64) (.pair (.int .i64) (.pair (.int .i64) (.pair (.int .i64) (.int .i64))))) l,.xl (.pair (.int .i64) (.int .i64)) rs,.xl (.pair .bool (.pair (.int .i64) (.pair (.int .i64) (.int .i64)))) d,.v (.int .i64 t),.v (.int .i64 n)]=> .req (nmR (gY cs os ks gs bs)∧(List.length l:Int)≤1000) (.ok (.v (.bool (Ie cs os ks gs bs l rs d t n))))
 |_=> .no
noncomputable def ZK:List LV→T LV:=gZ Tryz.prog Tryz.f22.params.toList aeb
theorem ap9 (cs:List Cd) (os:List ByteArray) (ks:List Ko) (gs:List Ch) (bs:List Ba) (l:List Le) (rs:List Ra) (d:List Dm) (t n:Int):bW Tryz.prog aS (RG) fE (fun i=>if i=5 then Gp.lp else if i=10 then Gn.lp else aC i) Tryz.f22 [.agg [.xl eu cs,.xl .str os,.xl eG ks,.xl dK gs,.xl eP bs],.xl iV l,.xl oP rs,.xl tJ d,.v (.int .i64 t),.v (.int .i64 n)]=.req (nmR (gY cs os ks gs bs)) (.br (!(dL cs os ks gs bs)) (.ok (.v (.bool false))) (.req ((List.length l:Int)≤1000) (.br ((!(gJ l)) ||(((List.length rs:Int) !=(List.length gs:Int)) ||(((List.length d:Int) !=(List.length gs:Int)) ||((decide (t<0)) ||((decide (t>1000000)) ||((decide (n<1)) ||(decide (n>999900)))))))) (.ok (.v (.bool false))) (.req (aA9 (⟨l,rs,d,false,(List.length gs:Int),(0:Int),cs,os,ks,gs,bs⟩:mg)) (.br (iE (adr (⟨l,rs,d,false,(List.length gs:Int),(0:Int),cs,os,ks,gs,bs⟩:mg)) (.ret)) (.ok (.v (.bool (x9 (⟨l,rs,d,false,(List.length gs:Int),(0:Int),cs,os,ks,gs,bs⟩:mg)).r))) (.req (aA8 (⟨rs,d,(x9 (⟨l,rs,d,false,(List.length gs:Int),(0:Int),cs,os,ks,gs,bs⟩:mg)).r,(List.length gs:Int),(0:Int),cs,os,ks,gs,bs⟩:pG)) (.br (iE (adq (⟨rs,d,(x9 (⟨l,rs,d,false,(List.length gs:Int),(0:Int),cs,os,ks,gs,bs⟩:mg)).r,(List.length gs:Int),(0:Int),cs,os,ks,gs,bs⟩:pG)) (.ret)) (.ok (.v (.bool (abC (⟨rs,d,(x9 (⟨l,rs,d,false,(List.length gs:Int),(0:Int),cs,os,ks,gs,bs⟩:mg)).r,(List.length gs:Int),(0:Int),cs,os,ks,gs,bs⟩:pG)).r))) (.ok (.v (.bool true)))))))))):=by kernel_rfl
theorem avU:Valid Tryz.prog aS 22 ZK:=aI Tryz.func22 rfl Y0 aG (L:=(fun i=>if i=5 then Gp.lp else if i=10 then Gn.lp else aC i)) (fun b hb=>by
 rw [show aB _=[CZ,CY] by kernel_rfl] at hb
 simp only [List.mem_cons,List.not_mem_nil,or_false] at hb
 rcases hb with rfl|rfl
 ·exact aoF
 ·exact aoE) (fun args lv h=>by
 unfold aeb at h
 split at h
 ·simp only [canL,canX]
  rw [ap9]
  rename_i cs os ks gs bs l rs d t n
  obtain ⟨⟨hn,hl⟩,rfl⟩:=h
  have bad:Ie cs os ks gs bs l rs d t n=false→LV.v (.bool false)=LV.v (.bool (Ie cs os ks gs bs l rs d t n)):=fun h=>by rw [h]
  refine ⟨hn,fun c=>bad (by unfold Ie;rw [ntW c];rfl),fun c=>⟨hl,?_⟩⟩
  have c:=LJ c
  rw [neN,neN,ay7,ay8,←Bool.not_and,←Bool.not_and,←Bool.not_and,←Bool.not_and]
  refine ⟨fun c2=>bad ?_,fun c2=>?_⟩
  ·unfold Ie
   rw [c,Bool.true_and,←Bool.and_assoc,ntW c2,Bool.false_and]
  have c2:=LJ c2
  have c2':=c2
  simp only [Bool.and_eq_true,decide_eq_true_eq] at c2'
  have hg:=(fG.1 c).1.2.2.2.2.1
  have hE:afg ⟨l,rs,d,false,(List.length gs:Int),0,cs,os,ks,gs,bs⟩:=⟨rfl,by simp only;omega,hl,trivial⟩
  have ev:Ie cs os ks gs bs l rs d t n=(below gs.length l&&Lr gs.length (fun j=>UL (bD gs j) (mM rs j)&&Xu (uy d j))):=by
   unfold Ie
   rw [c,Bool.true_and,←Bool.and_assoc,c2,Bool.true_and]
  refine ⟨⟨hE,rfl,rfl⟩,?_⟩
  obtain ⟨_,_,hq⟩:=ar6 _ hE
  have eb:below gs.length l=Lr l.length (fun j=>decide ((gU l j).2.1<(gs.length:Int))):=by
   rw [Bool.eq_iff_iff,fU]
   exact (jV (d:=(0,0,0,0,0)) (p:=fun x:Le=>decide (x.2.1<(gs.length:Int)))).symm
  rcases hq with ⟨q1,q2⟩ |⟨q1,q2,j,q3,q4⟩<;>rw [q1]
  rotate_left
  ·rw [q2]
   exact ⟨fun _=>bad (by rw [ev,eb,uP (n:=l.length) (f:=fun j=>decide ((gU l j).2.1<(gs.length:Int))) j q3 q4];rfl),fun h=>by cases h⟩
  refine ⟨fun h=>(by cases h),fun _=>?_⟩
  have g0:below gs.length l=true:=by rw [eb];exact fU.2 q2
  have hE2:aff ⟨rs,d,(x9 ⟨l,rs,d,false,(List.length gs:Int),0,cs,os,ks,gs,bs⟩).r,(List.length gs:Int),0,cs,os,ks,gs,bs⟩:=⟨rfl,by simp only;omega,by simp only;omega,rfl,c2'.2.1,c2'.2.2.1⟩
  refine ⟨⟨hE2,rfl,rfl⟩,?_⟩
  obtain ⟨_,_,hq⟩:=ar5 _ hE2
  rcases hq with ⟨q5,q6⟩ |⟨q5,q6,j,q7,q8⟩<;>rw [q5]
  ·exact ⟨fun h=>(by cases h),fun _=>by rw [ev,g0,(fU (f:=fun j=>UL (bD gs j) (mM rs j)&&Xu (uy d j))).2 q6];rfl⟩
  ·rw [q6]
   exact ⟨fun _=>bad (by rw [ev,uP (n:=gs.length) (f:=fun j=>UL (bD gs j) (mM rs j)&&Xu (uy d j)) j q7 q8,Bool.and_false]),fun h=>by cases h⟩
 ·cases h)
end Go.Proofs.YtlihnbimgclogaaGreatDoor
namespace Go.Proofs.YtlihnbimgclogaaGreatDoor
open Go.Sx
def amg:List LV→T LV
 | [.v (.int .i64 r),.v (.int .i64 m)]=> .req ((0≤r∧r≤1000000)∧0≤m∧m≤3000000) (.ok (.v (.int .i64 (m*r / 1000000))))
 |_=> .no
noncomputable def alX:List LV→T LV:=gZ Tryz.prog Tryz.f156.params.toList amg
noncomputable def akY:Specs:=bf []
theorem aub:∀g S,akY g=some S→Valid Tryz.prog aS g S:=aT (l:=[]) trivial
theorem ayG (r m:Int):bW Tryz.prog aS (akY) fE aC Tryz.f156 [.v (.int .i64 r),.v (.int .i64 m)]=.req ((1000000:Int)≠0) (.ok (.v (.int .i64 (IntKind.i64.wrap ((IntKind.i64.wrap (m*r)).tdiv 1000000))))):=by kernel_rfl
theorem aBP:Valid Tryz.prog aS 156 alX:=aI Tryz.func156 rfl aub aG (aY (by kernel_rfl)) (fun args lv h=>by
 unfold amg at h
 split at h
 ·simp only [canL,canX]
  rw [ayG]
  rename_i r m
  obtain ⟨⟨hr,hm⟩,rfl⟩:=h
  have h1:=aG2 (a:=m) (b:=r) hm.1 hm.2 hr.1 hr.2
  have h2:0≤m*r / 1000000∧m*r / 1000000≤m*r:=by omega
  refine ⟨by omega,congrArg (fun z=>LV.v (.int .i64 z)) ?_⟩
  rw [aN (x:=m*r) (by omega) (by omega),Int.tdiv_eq_ediv_of_nonneg h1.1,aN (by omega) (by omega)]
 ·cases h)
def aex:List LV→T LV
 | [.v (.int .i64 n)]=> .ok (.v (.bool (inB n 0 1000000)))
 |_=> .no
noncomputable def Z4:List LV→T LV:=gZ Tryz.prog Tryz.f154.params.toList aex
theorem aqu (n:Int):bW Tryz.prog aS (akY) fE aC Tryz.f154 [.v (.int .i64 n)]=.ok (.v (.bool ((decide (n≥0))&&(decide (n≤1000000))))):=by kernel_rfl
theorem av8:Valid Tryz.prog aS 154 Z4:=aI Tryz.func154 rfl aub aG (aY (by kernel_rfl)) (fun args lv h=>by
 unfold aex at h
 split at h
 ·simp only [canL,canX]
  rw [aqu]
  exact h
 ·cases h)
structure rC where
 low:Int
 high:Int
 r:Int
 n:Int
def aGi (s:rC):List LV:=[.v (.int .i64 s.low),.v (.int .i64 s.high),.fn 162 [.own 1 0,.own 0 0,.own 2 0]]
def aFf (s:rC):List aW:=[⟨[.v (.int .i64 s.r)],202,.cl,false⟩,⟨[.fn 156 []],203,.cl,false⟩,⟨[.v (.int .i64 s.n)],3,.cl,false⟩]
noncomputable def VS:Code:=((aB (Tryz.f161.body.getD .skip))[0]?).getD .skip
def aaZ (s:rC):T (Rd rC):=
 .br (decide (s.low<s.high)) (.req ((2:Int)≠0) (.req ((0≤s.r∧s.r≤1000000)∧0≤(IntKind.i64.wrap (s.low+(IntKind.i64.wrap ((IntKind.i64.wrap (s.high-s.low)).tdiv 2))))∧(IntKind.i64.wrap (s.low+(IntKind.i64.wrap ((IntKind.i64.wrap (s.high-s.low)).tdiv 2))))≤3000000) (.br (decide (((IntKind.i64.wrap (s.low+(IntKind.i64.wrap ((IntKind.i64.wrap (s.high-s.low)).tdiv 2))))*s.r / 1000000)≥s.n)) (.ok (.next {s with high:=(IntKind.i64.wrap (s.low+(IntKind.i64.wrap ((IntKind.i64.wrap (s.high-s.low)).tdiv 2))))})) (.ok (.next {s with low:=(IntKind.i64.wrap ((IntKind.i64.wrap (s.low+(IntKind.i64.wrap ((IntKind.i64.wrap (s.high-s.low)).tdiv 2))))+1))}))))) (.ok (.stop (.exit 0) s))
abbrev auT (s:rC):=(aaZ s).rd s
def ae7 (s:rC):Prop:=s.low=0∧s.high=2*s.n+2∧s.r=999800∧0≤s.n∧s.n≤1000000
def Ov (s:rC):Prop:=(0≤s.low∧s.low≤wt s.n)∧(wt s.n≤s.high∧s.high≤2*s.n+2)∧s.r=999800∧0≤s.n∧s.n≤1000000
def I8 (s:rC):Nat:=(s.high-s.low).toNat
def amO (x:Ex) (_ s':rC):Prop:=x=.exit 0∧s'.low=wt s'.n
theorem aC7:∀s,ae7 s→Ov s:=by
 intro s h
 obtain ⟨h0,h1,h2,h3,h4⟩:=h
 have:=asO h3
 exact ⟨by omega,by omega,h2,h3,h4⟩
theorem ayU (s:rC) (hI:Ov s):bP (fun s'=>Ov s'∧I8 s'<I8 s) (fun x s'=>amO x s s') (auT s):=by
 unfold auT aaZ
 dsimp only [T.rd,T.rl]
 obtain ⟨⟨h0,h1⟩,⟨h2,h3⟩,h4,h5,h6⟩:=hI
 refine au (fun c1=>?_) (fun c1=>?_)
 ·have c1:s.low<s.high:=by simpa using c1
  have hd:(s.high-s.low).tdiv 2=(s.high-s.low) / 2:=Int.tdiv_eq_ediv_of_nonneg (by omega)
  have hm:IntKind.i64.wrap (s.low+IntKind.i64.wrap ((IntKind.i64.wrap (s.high-s.low)).tdiv 2))=s.low+(s.high-s.low) / 2:=by
   rw [aN (x:=s.high-s.low) (by omega) (by omega),hd,aN (x:=(s.high-s.low) / 2) (by omega) (by omega),aN (by omega) (by omega)]
  rw [hm]
  refine au (fun c2=>?_) (fun c2=>?_)
  ·rw [decide_eq_true_eq,h4,agt] at c2
   exact ⟨⟨⟨h0,h1⟩,⟨by simp only;omega,by simp only;omega⟩,h4,h5,h6⟩,by simp only [I8];omega⟩
  ·rw [decide_eq_false_iff_not,h4,agt] at c2
   rw [aN (x:=s.low+(s.high-s.low) / 2+1) (by omega) (by omega)]
   exact ⟨⟨⟨by simp only;omega,by simp only;omega⟩,⟨h2,h3⟩,h4,h5,h6⟩,by simp only [I8];omega⟩
 ·have c1:s.high≤s.low:=by simpa using c1
  exact ⟨rfl,by omega⟩
def La:bQ rC:=⟨3,24,[0,1,2],[],aGi,aFf,fun v b=>⟨gI (v.getD 0 .junk),gI (v.getD 1 .junk),gI (aV (aO b 0) 0),gI (aV (aO b 2) 0)⟩,aaZ,fun s r=> {r with r:=s.r,n:=s.n},fun s=>s,fun _ s=>s,[.exit 0],ae7,Ov,I8⟩
abbrev abz:=La.run
abbrev arO:=La.jU
abbrev aAY:=La.q
noncomputable def EU:Specs:=bf [(154,Z4),(156,alX)]
theorem Js:∀g S,EU g=some S→Valid Tryz.prog aS g S:=aT (l:=[(154,Z4),(156,alX)]) ⟨av8,aBP,trivial⟩
noncomputable def aks:Hand:=inl Tryz.prog aS EU (kH Tryz.prog aS (EU) 20 2) 9
theorem atA:cZ Tryz.prog aS aks:=bM Js (dI Js) 9
theorem axv (s:rC) (hI:Ov s):(aaZ s).all (fun _=>True):=by
 refine ⟨fun c1=>⟨?_,?_,fun _=>trivial,fun _=>trivial⟩,fun _=>trivial⟩
 all_goals ((obtain ⟨⟨h0,h1⟩,⟨h2,h3⟩,h4,h5,h6⟩:=hI;simp only [decide_eq_true_eq] at c1;first|decide|(have hd:(s.high-s.low).tdiv 2=(s.high-s.low) / 2:=Int.tdiv_eq_ediv_of_nonneg (by omega);have hm:IntKind.i64.wrap (s.low+IntKind.i64.wrap ((IntKind.i64.wrap (s.high-s.low)).tdiv 2))=s.low+(s.high-s.low) / 2:=(by rw [aN (x:=s.high-s.low) (by omega) (by omega),hd,aN (x:=(s.high-s.low) / 2) (by omega) (by omega),aN (by omega) (by omega)]);rw [hm];omega)))
theorem aiZ:La.Ok:=⟨fun s=>by kernel_rfl,fun s=>by kernel_rfl,fun s=>rfl,fun s t r=>rfl,fun s=>rfl,fun s=>by kernel_rfl⟩
theorem ahR:La.Pf (amO):=⟨aC7,fun _ _=>rfl,ayU,axv⟩
theorem aow:bn Tryz.prog aS (AN 3) (.loop VS) La.lp:=bQ.snd aiZ ahR (bF (Γ:=EU) (K:=aks) (L:=(sO Tryz.prog aS EU aks 20 2)) Js atA VS (fun b _=>dN Js atA 20 2 b)) (fun s=>by kernel_rfl)
theorem aqY (s:rC) (hE:ae7 s):∃s',Ov s'∧amO (arO s) s' (abz s):=bQ.fin aiZ ahR s hE
def adT:List LV→T LV
 | [.v (.int .i64 n)]=> .ok (.v (.tuple #[.int .i64 (wtA n),.int .i64 (wtE n)]))
 |_=> .no
noncomputable def Zy:List LV→T LV:=gZ Tryz.prog Tryz.f136.params.toList adT
noncomputable def atM:Hand:=inl Tryz.prog aS EU (jX 161 3 1 (La.lp) (kH Tryz.prog aS (EU) 20 2)) 9
theorem aDn:cZ Tryz.prog aS atM:=bM Js (dF Tryz.func161 rfl (by kernel_rfl) aow (dI Js)) 9
theorem apS (n:Int):bW Tryz.prog aS (EU) atM aC Tryz.f136 [.v (.int .i64 n)]=.br (!(inB n 0 1000000)) (.ok (.v (.tuple #[.int .i64 0,.int .i64 1]))) (.req (aAY (⟨(0:Int),(IntKind.i64.wrap ((IntKind.i64.wrap (2*n))+2)),(999800:Int),n⟩:rC)) (.ok (.v (.tuple #[.int .i64 (abz (⟨(0:Int),(IntKind.i64.wrap ((IntKind.i64.wrap (2*n))+2)),(999800:Int),n⟩:rC)).low,.int .i64 0])))):=by kernel_rfl
theorem avJ:Valid Tryz.prog aS 136 Zy:=aI Tryz.func136 rfl Js aDn (aY (by kernel_rfl)) (fun args lv h=>by
 unfold adT at h
 split at h
 ·simp only [canL,canX]
  rw [apS]
  rename_i n
  obtain rfl:=h
  refine ⟨fun c=>?_,fun c=>?_⟩
  ·have c:inB n 0 1000000=false:=ntW c
   unfold wtA wtE
   rw [c]
   rfl
  ·have c:inB n 0 1000000=true:=LJ c
   have hb:=dV.1 c
   have hE:ae7 ⟨0,IntKind.i64.wrap (IntKind.i64.wrap (2*n)+2),999800,n⟩:=⟨rfl,by
    show IntKind.i64.wrap (IntKind.i64.wrap (2*n)+2)=2*n+2
    rw [aN (x:=2*n) (by omega) (by omega),aN (by omega) (by omega)],rfl,hb.1,hb.2⟩
   obtain ⟨_,_,_,q⟩:=aqY _ hE
   refine ⟨⟨hE,rfl,rfl⟩,?_⟩
   rw [q]
   unfold wtA wtE
   rw [if_pos c,if_pos c]
   exact rfl
 ·cases h)
end Go.Proofs.YtlihnbimgclogaaGreatDoor
namespace Go.Proofs.YtlihnbimgclogaaGreatDoor
open Go.Sx
def amb:List LV→T LV
 | [.v (.int .i64 n),.v (.int .i64 a),.v (.int .i64 b)]=> .ok (.v (.bool (inB n a b)))
 |_=> .no
noncomputable def Kq:List LV→T LV:=gZ Tryz.prog Tryz.f108.params.toList amb
noncomputable def akX:Specs:=bf []
theorem aua:∀g S,akX g=some S→Valid Tryz.prog aS g S:=aT (l:=[]) trivial
theorem ayB (n a b:Int):bW Tryz.prog aS (akX) fE aC Tryz.f108 [.v (.int .i64 n),.v (.int .i64 a),.v (.int .i64 b)]=.ok (.v (.bool ((decide (n≥a))&&(decide (n≤b))))):=by kernel_rfl
theorem agG:Valid Tryz.prog aS 108 Kq:=aI Tryz.func108 rfl aua aG (aY (by kernel_rfl)) (fun args lv h=>by
 unfold amb at h
 split at h
 ·simp only [canL,canX]
  rw [ayB]
  exact h
 ·cases h)
def aep:List LV→T LV
 | [.v (.agg ⟨[.int .i64 nu,.int .i64 co,.int .i64 am,.int .i64 fr,.int .i64 tk]⟩)]=> .ok (.v (.bool (Ls (nu,co,am,fr,tk))))
 |_=> .no
noncomputable def Kr:List LV→T LV:=gZ Tryz.prog Tryz.f63.params.toList aep
noncomputable def aum:Specs:=bf [(108,Kq)]
theorem aDF:∀g S,aum g=some S→Valid Tryz.prog aS g S:=aT (l:=[(108,Kq)]) ⟨agG,trivial⟩
theorem aqn (nu co am fr tk:Int):bW Tryz.prog aS (aum) fE aC Tryz.f63 [.v (.agg #[.int .i64 nu,.int .i64 co,.int .i64 am,.int .i64 fr,.int .i64 tk])]=.ok (.v (.bool ((inB nu (1:Int) (1000000:Int))&&((inB co (0:Int) (15:Int))&&((inB am (0:Int) (80:Int))&&((inB fr (0:Int) (1000000:Int))&&(inB tk (1:Int) (1000:Int)))))))):=by kernel_rfl
theorem agH:Valid Tryz.prog aS 63 Kr:=aI Tryz.func63 rfl aDF aG (aY (by kernel_rfl)) (fun args lv h=>by
 unfold aep at h
 split at h
 ·simp only [canL,canX]
  rw [aqn]
  exact h
 ·cases h)
def amc:List LV→T LV
 | [.v (.agg ⟨[.int .i64 nu,.int .i64 co,.int .i64 am,.int .i64 fr,.int .i64 tk]⟩),.v (.agg ⟨[.int .i64 nu2,.int .i64 co2,.int .i64 am2,.int .i64 fr2,.int .i64 tk2]⟩)]=> .ok (.v (.bool (Bf (nu,co,am,fr,tk) (nu2,co2,am2,fr2,tk2))))
 |_=> .no
noncomputable def Wl:List LV→T LV:=gZ Tryz.prog Tryz.f64.params.toList amc
theorem ayC (nu co am fr tk nu2 co2 am2 fr2 tk2:Int):bW Tryz.prog aS (akX) fE aC Tryz.f64 [.v (.agg #[.int .i64 nu,.int .i64 co,.int .i64 am,.int .i64 fr,.int .i64 tk]),.v (.agg #[.int .i64 nu2,.int .i64 co2,.int .i64 am2,.int .i64 fr2,.int .i64 tk2])]=.ok (.v (.bool ((decide (nu2>nu))&&(decide (fr2≥fr))))):=by kernel_rfl
theorem asR:Valid Tryz.prog aS 64 Wl:=aI Tryz.func64 rfl aua aG (aY (by kernel_rfl)) (fun args lv h=>by
 unfold amc at h
 split at h
 ·simp only [canL,canX]
  rw [ayC]
  exact h
 ·cases h)
def aer:List LV→T LV
 | [.v (.agg ⟨[.int .i64 nu,.int .i64 co,.int .i64 am,.int .i64 fr,.int .i64 tk]⟩)]=> .req ((0≤fr∧fr≤1000000)∧0≤tk∧tk≤1000000) (.ok (.v (.int .i64 (VB (nu,co,am,fr,tk)))))
 |_=> .no
noncomputable def Kt:List LV→T LV:=gZ Tryz.prog Tryz.f109.params.toList aer
noncomputable def aul:Specs:=bf [(136,Zy)]
theorem aDE:∀g S,aul g=some S→Valid Tryz.prog aS g S:=aT (l:=[(136,Zy)]) ⟨avJ,trivial⟩
theorem aqo (nu co am fr tk:Int):bW Tryz.prog aS (aul) fE aC Tryz.f109 [.v (.agg #[.int .i64 nu,.int .i64 co,.int .i64 am,.int .i64 fr,.int .i64 tk])]=.br ((wtE tk) !=0) (.ok (.v (.int .i64 fr))) (.ok (.v (.int .i64 (IntKind.i64.wrap ((IntKind.i64.wrap (fr+10))+(wtA tk)))))):=by kernel_rfl
theorem agI:Valid Tryz.prog aS 109 Kt:=aI Tryz.func109 rfl aDE aG (aY (by kernel_rfl)) (fun args lv h=>by
 unfold aer at h
 split at h
 ·simp only [canL,canX]
  rw [aqo]
  rename_i nu co am fr tk
  obtain ⟨⟨hf,ht⟩,rfl⟩:=h
  have c:inB tk 0 1000000=true:=dV.2 ht
  have hw:=asO ht.1
  have ea:wtA tk=wt tk:=by unfold wtA;rw [if_pos c]
  have ee:wtE tk=0:=by unfold wtE;rw [if_pos c]
  rw [ea,ee,aN (x:=fr+10) (by omega) (by omega),aN (by omega) (by omega)]
  exact ⟨fun h=>(by cases h),fun _=>rfl⟩
 ·cases h)
structure qf where
 l:List Le
 r:Bool
 m:List Le
 n:Int
 i:Int
def aGh (s:qf):List LV:=[.xl iV s.l,.v (.bool s.r),.xl iV s.m,.v (.int .i64 s.n),.v (.int .i64 s.i)]
def aFe (_:qf):List aW:=[]
noncomputable def CP:Code:=((aB (Tryz.f62.body.getD .skip))[0]?).getD .skip
def aaY (s:qf):T (Rd qf):=
 .br (decide (s.i<s.n)) (.req (0≤s.i∧s.i<(List.length s.m:Int)) (.br (!(Ls (gU s.m s.i))) (.ok (.stop (.ret) {s with r:=false})) (.br (decide (s.i>0)) (.req (0≤(IntKind.i64.wrap (s.i-1))∧(IntKind.i64.wrap (s.i-1))<(List.length s.l:Int)) (.br (!(Bf (gU s.l (IntKind.i64.wrap (s.i-1))) (gU s.m s.i))) (.ok (.stop (.ret) {s with r:=false})) (.ok (.next {s with i:=(IntKind.i64.wrap (s.i+1))})))) (.ok (.next {s with i:=(IntKind.i64.wrap (s.i+1))}))))) (.ok (.stop (.exit 0) s))
abbrev auS (s:qf):=(aaY s).rd s
def ae6 (s:qf):Prop:=s.i=0∧s.n=(List.length s.l:Int)∧s.n≤1000∧s.m=s.l
def Ou (s:qf):Prop:=(0≤s.i∧s.i≤s.n)∧s.n=(List.length s.l:Int)∧s.n≤1000∧s.m=s.l∧∀j:Nat,(j:Int)<s.i→jQ s.l j=true
def I7 (s:qf):Nat:=(s.n-s.i).toNat
def amN (x:Ex) (_ s':qf):Prop:=(x=.exit 0∧∀j:Nat,(j:Int)<s'.n→jQ s'.l j=true)∨(x=.ret∧s'.r=false∧∃j:Nat,(j:Int)<s'.n∧jQ s'.l j=false)
theorem aC6:∀s,ae6 s→Ou s:=by
 intro s h
 obtain ⟨h0,h2,h3,h4⟩:=h
 exact ⟨by omega,h2,h3,h4,fun j hj=>by omega⟩
theorem ayR (s:qf) (hI:Ou s):bP (fun s'=>Ou s'∧I7 s'<I7 s) (fun x s'=>amN x s s') (auS s):=by
 unfold auS aaY
 dsimp only [T.rd,T.rl]
 obtain ⟨⟨h0,h1⟩,h2,h3,h4,hA⟩:=hI
 refine au (fun c1=>?_) (fun c1=>?_)
 ·refine au (fun c2=>?_) (fun c2=>?_)
  ·have c1:s.i<s.n:=by simpa using c1
   rw [h4] at c2
   refine .inr ⟨rfl,rfl,s.i.toNat,by simp only;omega,?_⟩
   rw [Int.toNat_of_nonneg h0]
   show jQ s.l s.i=false
   unfold jQ
   rw [ntW c2]
   rfl
  ·refine au (fun c3=>?_) (fun c3=>?_)
   ·refine au (fun c4=>?_) (fun c4=>?_)
    ·have c1:s.i<s.n:=by simpa using c1
     rw [h4] at c2
     have c3:0<s.i:=by simpa using c3
     rw [aN (x:=s.i-1) (by omega) (by omega),h4] at c4
     refine .inr ⟨rfl,rfl,s.i.toNat,by simp only;omega,?_⟩
     rw [Int.toNat_of_nonneg h0]
     show jQ s.l s.i=false
     unfold jQ
     rw [LJ c2,decide_eq_false (by omega),ntW c4]
     rfl
    ·have c1:s.i<s.n:=by simpa using c1
     rw [h4] at c2
     have c3:0<s.i:=by simpa using c3
     rw [aN (x:=s.i-1) (by omega) (by omega),h4] at c4
     have hg:jQ s.l s.i=true:=by unfold jQ;rw [LJ c2,decide_eq_false (by omega),LJ c4];rfl
     rw [aN (x:=s.i+1) (by omega) (by omega)]
     exact ⟨⟨⟨by simp only;omega,by simp only;omega⟩,h2,h3,h4,fun j hj=>by
      by_cases e:(j:Int)<s.i
      ·exact hA j e
      ·have e:(j:Int)=s.i:=by simp only at hj;omega
       show jQ s.l j=true
       rw [e];exact hg⟩,by simp only [I7];omega⟩
   ·have c1:s.i<s.n:=by simpa using c1
    rw [h4] at c2
    have hg:jQ s.l s.i=true:=by unfold jQ;rw [LJ c2,decide_eq_true (by simp at c3;omega)];rfl
    rw [aN (x:=s.i+1) (by omega) (by omega)]
    exact ⟨⟨⟨by simp only;omega,by simp only;omega⟩,h2,h3,h4,fun j hj=>by
     by_cases e:(j:Int)<s.i
     ·exact hA j e
     ·have e:(j:Int)=s.i:=by simp only at hj;omega
      show jQ s.l j=true
      rw [e];exact hg⟩,by simp only [I7];omega⟩
 ·have c1:s.n≤s.i:=by simpa using c1
  exact .inl ⟨rfl,fun j hj=>hA j (by omega)⟩
def F9:bQ qf:=⟨0,33,[0,2,8,9,10],[],aGh,aFe,fun v _=>⟨aQ iV (v.getD 0 .junk),yF (v.getD 1 .junk),aQ iV (v.getD 2 .junk),gI (v.getD 3 .junk),gI (v.getD 4 .junk)⟩,aaY,fun s r=> {r with l:=s.l,m:=s.m,n:=s.n},fun s=>s,fun _ s=>s,[.ret,.exit 0],ae6,Ou,I7⟩
abbrev aby:=F9.run
abbrev adn:=F9.jU
abbrev aAX:=F9.q
theorem axu (s:qf) (hI:Ou s):(aaY s).all (fun _=>True):=by
 refine ⟨fun c1=>⟨?_,fun _=>trivial,fun c2=>⟨fun c3=>⟨?_,fun _=>trivial,fun _=>trivial⟩,fun _=>trivial⟩⟩,fun _=>trivial⟩
 all_goals ((obtain ⟨⟨h0,h1⟩,h2,h3,h4,hA⟩:=hI;simp only [decide_eq_true_eq] at c1;have hl:s.m.length=s.l.length:=congrArg List.length h4;first|omega|(simp only [decide_eq_true_eq,gt_iff_lt] at c3;rw [aN (x:=s.i-1) (by omega) (by omega)];omega)))
noncomputable def akW:Specs:=bf [(63,Kr),(64,Wl)]
theorem at7:∀g S,akW g=some S→Valid Tryz.prog aS g S:=aT (l:=[(63,Kr),(64,Wl)]) ⟨agH,asR,trivial⟩
theorem aiY:F9.Ok:=⟨fun s=>by kernel_rfl,fun s=>by kernel_rfl,fun s=>rfl,fun s t r=>rfl,fun s=>rfl,fun s=>by kernel_rfl⟩
theorem ahQ:F9.Pf (amN):=⟨aC6,fun _ _=>rfl,ayR,axu⟩
theorem aov:bn Tryz.prog aS (AN 0) (.loop CP) F9.lp:=bQ.snd aiY ahQ (aU (Γ:=akW) (K:=fE) (L:=aC) at7 aG CP (fun b hb=>by rw [show aB CP=[] by kernel_rfl] at hb;cases hb)) (fun s=>by kernel_rfl)
theorem aqW (s:qf) (hE:ae6 s):∃s',Ou s'∧amN (adn s) s' (aby s):=bQ.fin aiY ahQ s hE
def aem:List LV→T LV
 | [.xl (.pair (.int .i64) (.pair (.int .i64) (.pair (.int .i64) (.pair (.int .i64) (.int .i64))))) l]=> .ok (.v (.bool (gJ l)))
 |_=> .no
noncomputable def vM:List LV→T LV:=gZ Tryz.prog Tryz.f62.params.toList aem
theorem aqk (l:List Le):bW Tryz.prog aS (akW) fE (fun i=>if i=4 then F9.lp else aC i) Tryz.f62 [.xl iV l]=.br (decide ((List.length l:Int)>64)) (.ok (.v (.bool false))) (.req (aAX (⟨l,false,l,(List.length l:Int),(0:Int)⟩:qf)) (.br (iE (adn (⟨l,false,l,(List.length l:Int),(0:Int)⟩:qf)) (.ret)) (.ok (.v (.bool (aby (⟨l,false,l,(List.length l:Int),(0:Int)⟩:qf)).r))) (.ok (.v (.bool true))))):=by kernel_rfl
theorem O5:Valid Tryz.prog aS 62 vM:=aI Tryz.func62 rfl at7 aG (L:=(fun i=>if i=4 then F9.lp else aC i)) (fun b hb=>by
 rw [show aB _=[CP] by kernel_rfl] at hb
 simp only [List.mem_cons,List.not_mem_nil,or_false] at hb
 subst hb
 exact aov) (fun args lv h=>by
 unfold aem at h
 split at h
 ·simp only [canL,canX]
  rw [aqk]
  rename_i l
  obtain rfl:=h
  refine ⟨fun c=>congrArg (fun z=>LV.v (.bool z)) ?_,fun c=>?_⟩
  ·have c:64<(List.length l:Int):=by simpa using c
   unfold gJ
   rw [decide_eq_false (by omega)]
   rfl
  ·have c:(List.length l:Int)≤64:=by simpa using c
   have hE:ae6 ⟨l,false,l,(List.length l:Int),0⟩:=⟨rfl,rfl,by simp only;omega,rfl⟩
   refine ⟨⟨hE,rfl,rfl⟩,?_⟩
   obtain ⟨_,_,hq⟩:=aqW _ hE
   rcases hq with ⟨q1,q2⟩ |⟨q1,q2,j,q3,q4⟩<;>rw [q1]
   ·have e:Lr l.length (jQ l)=true:=fU.2 (fun j hj=>q2 j (by show (j:Int)<(List.length l:Int);omega))
    unfold gJ
    rw [decide_eq_true (by omega),e]
    exact ⟨fun h=>(by cases h),fun _=>rfl⟩
   ·have e:Lr l.length (jQ l)=false:=uP j (by have q3:(j:Int)<(List.length l:Int):=q3;omega) q4
    rw [q2]
    unfold gJ
    rw [decide_eq_true (by omega),e]
    exact ⟨fun _=>rfl,fun h=>by cases h⟩
 ·cases h)
structure nZ where
 tick:Int
 l:List Le
 n:Int
 i:Int
 out:List Le
def aGq (s:nZ):List LV:=[.v (.int .i64 s.tick),.os 0 5 0 (List.length s.out),.xl iV s.l,.v (.int .i64 s.n),.v (.int .i64 s.i)]
def aFn (s:nZ):List aW:=[⟨[],63,.vec iV s.out,false⟩]
noncomputable def CX:Code:=((aB (Tryz.f65.body.getD .skip))[0]?).getD .skip
def aa1 (s:nZ):T (Rd nZ):=
 .br (decide (s.i<s.n)) (.req (0≤s.i∧s.i<(List.length s.l:Int)) (.req ((0≤(gU s.l s.i).2.2.2.1∧(gU s.l s.i).2.2.2.1≤1000000)∧0≤(gU s.l s.i).2.2.2.2∧(gU s.l s.i).2.2.2.2≤1000000) (.br (decide ((VB (gU s.l s.i))>s.tick)) (.req (0+(List.length s.out)=List.length s.out∧((List.length s.out+List.length ([(gU s.l s.i)]):Nat):Int)*40≤2^47∧((List.length s.out+List.length ([(gU s.l s.i)]):Nat):Int)<2^62) (.req (0=0∧(List.length s.out+List.length ([(gU s.l s.i)]))=List.length (s.out++([(gU s.l s.i)]))) (.ok (.next {s with i:=(IntKind.i64.wrap (s.i+1)),out:=(s.out++([(gU s.l s.i)]))})))) (.rl s.out (.ok (.next {s with i:=(IntKind.i64.wrap (s.i+1))})))))) (.rl s.out (.ok (.stop (.exit 0) s)))
abbrev auV (s:nZ):=(aa1 s).rd s
def afd (s:nZ):Prop:=s.i=0∧s.out=[]∧s.n=(List.length s.l:Int)∧s.n≤1000∧∀x∈s.l,Ls x=true
def OA (s:nZ):Prop:=(0≤s.i∧s.i≤s.n)∧s.out=(s.l.take s.i.toNat).filter (af2 s.tick)∧s.n=(List.length s.l:Int)∧s.n≤1000∧∀x∈s.l,Ls x=true
def QD (s:nZ):Nat:=(s.n-s.i).toNat
def amQ (x:Ex) (_ s':nZ):Prop:=x=.exit 0∧s'.out=s'.l.filter (af2 s'.tick)
theorem aD2:∀s,afd s→OA s:=by
 intro s h
 obtain ⟨h0,h1,h2⟩:=h
 exact ⟨by omega,by rw [h0,h1];rfl,h2⟩
theorem azx (s:nZ) (hI:OA s):bP (fun s'=>OA s'∧QD s'<QD s) (fun x s'=>amQ x s s') (auV s):=by
 unfold auV aa1
 dsimp only [T.rd,T.rl]
 obtain ⟨⟨h0,h1⟩,hA,h2,h3,h4⟩:=hI
 refine au (fun c1=>?_) (fun c1=>?_)
 ·have c1:s.i<s.n:=by simpa using c1
  have e:=(wZ h0 (show s.i<s.l.length by omega)).2
  rw [aN (x:=s.i+1) (by omega) (by omega)]
  refine au (fun c2=>?_) (fun c2=>?_)
  all_goals
   refine ⟨⟨⟨by simp only;omega,by simp only;omega⟩,?_,h2,h3,h4⟩,by simp only [QD];omega⟩
   simp only
   have c2:af2 s.tick (gU s.l s.i)=_:=c2
   rw [e,List.filter_append,hA,List.filter_cons,c2]
   simp
 ·have c1:s.n≤s.i:=by simpa using c1
  refine ⟨rfl,?_⟩
  rw [hA,List.take_of_length_le (by omega)]
def Gm:bQ nZ:=⟨0,33,[1,6,17,18,19],[.nl 6 63 iV],aGq,aFn,fun v b=>⟨gI (v.getD 0 .junk),aQ iV (v.getD 2 .junk),gI (v.getD 3 .junk),gI (v.getD 4 .junk),jd iV (aO b 0)⟩,aa1,fun s r=> {r with tick:=s.tick,l:=s.l,n:=s.n},fun s=>s,fun _ s=>s,[.exit 0],afd,OA,QD⟩
abbrev xZ:=Gm.run
abbrev arU:=Gm.jU
abbrev aA6:=Gm.q
theorem axD (s:nZ) (hI:OA s):(aa1 s).all (fun _=>True):=by
 refine ⟨fun c1=>⟨?_,?_,fun c2=>⟨?_,?_,trivial⟩,fun c2=>⟨⟨rfl,rfl⟩,trivial⟩⟩,fun c1=>⟨⟨rfl,rfl⟩,trivial⟩⟩
 all_goals ((obtain ⟨⟨h0,h1⟩,hA,h2,h3,h4⟩:=hI;simp only [decide_eq_true_eq] at c1;have hv:=AO.1 (h4 _ (yD h0 (show s.i<s.l.length by omega)));have hl:s.out.length≤s.i.toNat:=(by rw [hA];exact Nat.le_trans (List.length_filter_le _ _) (by rw [List.length_take];omega));first|omega|(refine ⟨by omega,?_,?_⟩<;>simp only [List.length_cons,List.length_nil]<;>omega) |exact ⟨rfl,by simp⟩))
noncomputable def akV:Specs:=bf [(62,vM),(108,Kq),(109,Kt)]
theorem at6:∀g S,akV g=some S→Valid Tryz.prog aS g S:=aT (l:=[(62,vM),(108,Kq),(109,Kt)]) ⟨O5,agG,agI,trivial⟩
theorem ai6:Gm.Ok:=⟨fun s=>by kernel_rfl,fun s=>by kernel_rfl,fun s=>rfl,fun s t r=>rfl,fun s=>rfl,fun s=>by kernel_rfl⟩
theorem ahY:Gm.Pf (amQ):=⟨aD2,fun _ _=>rfl,azx,axD⟩
theorem aoD:bn Tryz.prog aS (AN 0) (.loop CX) Gm.lp:=bQ.snd ai6 ahY (aU (Γ:=akV) (K:=fE) (L:=aC) at6 aG CX (fun b hb=>by rw [show aB CX=[] by kernel_rfl] at hb;cases hb)) (fun s=>by kernel_rfl)
theorem aru (s:nZ) (hE:afd s):∃s',OA s'∧amQ (arU s) s' (xZ s):=bQ.fin ai6 ahY s hE
def aeE:List LV→T LV
 | [.xl (.pair (.int .i64) (.pair (.int .i64) (.pair (.int .i64) (.pair (.int .i64) (.int .i64))))) l,.v (.int .i64 t)]=> .ok (.gQ [.xl iV (JJ l t),.v (.int .i64 (af0 l t))])
 |_=> .no
noncomputable def aad:List LV→T LV:=gZ Tryz.prog Tryz.f65.params.toList aeE
theorem aqB (l:List Le) (t:Int):bW Tryz.prog aS (akV) fE (fun i=>if i=5 then Gm.lp else aC i) Tryz.f65 [.xl iV l,.v (.int .i64 t)]=.br ((!(gJ l)) ||(!(inB t (0:Int) (1100000:Int)))) (.ok (.gQ [.xl iV ([]:List Le),.v (.int .i64 1)])) (.req (0=0∧0=List.length ([]:List Le)) (.req (aA6 (⟨t,l,(List.length l:Int),(0:Int),([]:List Le)⟩:nZ)) (.req (0+(List.length (xZ (⟨t,l,(List.length l:Int),(0:Int),([]:List Le)⟩:nZ)).out)≤List.length (xZ (⟨t,l,(List.length l:Int),(0:Int),([]:List Le)⟩:nZ)).out) (.ok (.gQ [.xl iV (((xZ (⟨t,l,(List.length l:Int),(0:Int),([]:List Le)⟩:nZ)).out.drop 0).take (List.length (xZ (⟨t,l,(List.length l:Int),(0:Int),([]:List Le)⟩:nZ)).out)),.v (.int .i64 0)]))))):=by kernel_rfl
theorem awg:Valid Tryz.prog aS 65 aad:=aI Tryz.func65 rfl at6 aG (L:=(fun i=>if i=5 then Gm.lp else aC i)) (fun b hb=>by
 rw [show aB _=[CX] by kernel_rfl] at hb
 simp only [List.mem_cons,List.not_mem_nil,or_false] at hb
 subst hb
 exact aoD) (fun args lv h=>by
 unfold aeE at h
 split at h
 ·simp only [canL,canX]
  rw [aqB]
  rename_i l t
  obtain rfl:=h
  refine ⟨fun c=>?_,fun c=>?_⟩
  ·have c:Bj l t=false:=by unfold Bj;cases e1:gJ l<;>cases e2:inB t 0 1100000<;>simp_all
   show LV.gQ _=_
   unfold JJ af0
   rw [c]
   rfl
  ·have c:Bj l t=true:=by unfold Bj;cases e1:gJ l<;>cases e2:inB t 0 1100000<;>simp_all
   have hv:gJ l=true:=by unfold Bj at c;rw [Bool.and_eq_true] at c;exact c.1
   have hl:=jI hv
   have hE:afd ⟨t,l,(List.length l:Int),0,[]⟩:=⟨rfl,rfl,rfl,by simp only;omega,hl.2⟩
   obtain ⟨_,_,q1,q2⟩:=aru _ hE
   have q2:(xZ ⟨t,l,(List.length l:Int),0,[]⟩).out=l.filter (af2 t):=q2
   refine ⟨⟨rfl,rfl⟩,⟨hE,rfl,rfl⟩,by omega,?_⟩
   show LV.gQ [LV.xl _ _,_]=_
   rw [List.drop_zero,List.take_length,q2]
   unfold JJ af0
   rw [if_pos c,if_pos c]
 ·cases h)
end Go.Proofs.YtlihnbimgclogaaGreatDoor
namespace Go.Proofs.YtlihnbimgclogaaGreatDoor
open Go.Sx
structure qg where
 l:List Le
 qO:Int
 tick:Int
 e:Int
 m:List Le
 k:Int
 i:Int
def aGI (s:qg):List LV:=[.xl iV s.l,.v (.int .i64 s.qO),.v (.int .i64 s.tick),.v (.slice none 0 0),.v (.int .i64 s.e),.xl iV s.m,.v (.int .i64 s.k),.v (.int .i64 s.i)]
def aFF (_:qg):List aW:=[]
noncomputable def Dn:Code:=((aB (Tryz.f66.body.getD .skip))[0]?).getD .skip
def abf (s:qg):T (Rd qg):=
 .br (decide (s.i<s.k)) (.req (0≤s.i∧s.i<(List.length s.m:Int)) (.br (decide ((gU s.m s.i).2.1≥s.qO)) (.ok (.stop (.ret) {s with e:=(1:Int)})) (.ok (.next {s with i:=(IntKind.i64.wrap (s.i+1))})))) (.ok (.stop (.exit 0) s))
abbrev au6 (s:qg):=(abf s).rd s
def afs (s:qg):Prop:=s.i=0∧s.k=(List.length s.m:Int)∧s.k≤1000
def OU (s:qg):Prop:=(0≤s.i∧s.i≤s.k)∧s.k=(List.length s.m:Int)∧s.k≤1000∧∀x∈s.m.take s.i.toNat,x.2.1<s.qO
def QS (s:qg):Nat:=(s.k-s.i).toNat
def am3 (x:Ex) (_ s':qg):Prop:=(x=.exit 0∧below s'.qO s'.m=true)∨(x=.ret∧s'.e=1∧below s'.qO s'.m=false)
theorem aEr:∀s,afs s→OU s:=by
 intro s h
 obtain ⟨h0,h1,h2⟩:=h
 exact ⟨by omega,h1,h2,by rw [h0];intro x hx;cases hx⟩
theorem aAe (s:qg) (hI:OU s):bP (fun s'=>OU s'∧QS s'<QS s) (fun x s'=>am3 x s s') (au6 s):=by
 unfold au6 abf
 dsimp only [T.rd,T.rl]
 obtain ⟨⟨h0,h1⟩,h2,h3,h4⟩:=hI
 refine au (fun c1=>?_) (fun c1=>?_)
 ·have c1:s.i<s.k:=by simpa using c1
  refine au (fun c2=>?_) (fun c2=>?_)
  ·refine .inr ⟨rfl,rfl,?_⟩
   unfold below
   rw [List.all_eq_false]
   exact ⟨gU s.m s.i,yD h0 (by simp only;omega),by simpa using c2⟩
  ·rw [aN (x:=s.i+1) (by omega) (by omega)]
   refine ⟨⟨⟨by simp only;omega,by simp only;omega⟩,h2,h3,fun x hx=>?_⟩,by simp only [QS];omega⟩
   rw [(wZ h0 (by simp only;omega)).2,List.mem_append,List.mem_singleton] at hx
   rcases hx with hx|rfl
   ·exact h4 x hx
   ·simpa using c2
 ·have c1:s.k≤s.i:=by simpa using c1
  refine .inl ⟨rfl,?_⟩
  rw [List.take_of_length_le (by omega)] at h4
  unfold below
  rw [List.all_eq_true]
  exact fun x hx=>decide_eq_true (h4 x hx)
def GH:bQ qg:=⟨0,48,[0,1,2,6,7,26,27,28],[],aGI,aFF,fun v _=>⟨aQ iV (v.getD 0 .junk),gI (v.getD 1 .junk),gI (v.getD 2 .junk),gI (v.getD 4 .junk),aQ iV (v.getD 5 .junk),gI (v.getD 6 .junk),gI (v.getD 7 .junk)⟩,abf,fun s r=> {r with l:=s.l,qO:=s.qO,tick:=s.tick,m:=s.m,k:=s.k},fun s=>s,fun _ s=>s,[.ret,.exit 0],afs,OU,QS⟩
abbrev abH:=GH.run
abbrev adw:=GH.jU
abbrev aBo:=GH.q
theorem axV (s:qg) (hI:OU s):(abf s).all (fun _=>True):=by
 refine ⟨fun c1=>⟨?_,fun _=>trivial,fun _=>trivial⟩,fun _=>trivial⟩
 ·(obtain ⟨⟨h0,h1⟩,h2,h3,h4⟩:=hI;simp only [decide_eq_true_eq] at c1;omega)
noncomputable def A7:Specs:=bf [(62,vM),(108,Kq),(109,Kt)]
theorem EP:∀g S,A7 g=some S→Valid Tryz.prog aS g S:=aT (l:=[(62,vM),(108,Kq),(109,Kt)]) ⟨O5,agG,agI,trivial⟩
noncomputable def ace:Hand:=inl Tryz.prog aS A7 (kH Tryz.prog aS (A7) 20 2) 9
theorem akl:cZ Tryz.prog aS ace:=bM EP (dI EP) 9
theorem ajm:GH.Ok:=⟨fun s=>by kernel_rfl,fun s=>by kernel_rfl,fun s=>rfl,fun s t r=>rfl,fun s=>rfl,fun s=>by kernel_rfl⟩
theorem aie:GH.Pf (am3):=⟨aEr,fun _ _=>rfl,aAe,axV⟩
theorem aoT:bn Tryz.prog aS (AN 0) (.loop Dn) GH.lp:=bQ.snd ajm aie (aU (Γ:=A7) (K:=ace) (L:=aC) EP akl Dn (fun b hb=>by rw [show aB Dn=[] by kernel_rfl] at hb;cases hb)) (fun s=>by kernel_rfl)
theorem asF (s:qg) (hE:afs s):∃s',OU s'∧am3 (adw s) s' (abH s):=bQ.fin ajm aie s hE
noncomputable def ahf:Array Tmp×Code×Code:=((ja (Tryz.f66.body.getD .skip))[0]?).getD (#[],.skip,.skip)
noncomputable def aCo:Array Tmp:=ahf.1
noncomputable def aCJ:Code:=ahf.2.1
noncomputable def aCD:Code:=ahf.2.2
structure lF where
 m:List Le
 k:Int
 i:Int
 o:List Int
 q:List Le
 t:Int
 st:LS
def aGH (s:lF):List LV:=[.tN 5,.own 4 0,.xl iV s.m,.v (.int .i64 s.k),.v (.int .i64 s.i)]
noncomputable def aFE (s:lF):List aW:=[⟨[],3,.vec (.int .i64) s.o,false⟩,⟨[.os 0 1 0 (List.length s.o)],35,.cl,false⟩,⟨[.fn 110 [.own 1 0]],160,.cl,false⟩,⟨[.xl iV s.q],29,.cl,false⟩,⟨[.v (.int .i64 s.t)],3,.cl,false⟩,⟨[.junk,.junk,.junk,.junk,.junk,.junk,.junk,.junk,.junk,.junk,.junk,.own 2 0,.junk,.junk,.junk,.junk,.junk,.junk,.junk,.junk,.junk,.junk,.junk,.junk,.junk,.junk,.junk,.junk,.junk,.junk,.junk,.junk,.junk,.junk,.junk,.junk,.junk,.junk,.junk,.junk,.junk,.junk,.junk,.junk,.junk,.junk,.junk,.junk],0,.jZ aCo aCJ aCD s.st,false⟩]
noncomputable def V3:Code:=((aB (Tryz.f137.body.getD .skip))[0]?).getD .skip
def Uo (s:lF):T (Rd lF):=
 .br (decide (s.i<s.k)) (.req (0≤s.i∧s.i<(List.length s.m:Int)) (.br (decide ((gU s.m s.i).2.2.2.1>s.t)) (.rl s.o (.ok (.stop (.exit 0) s))) (.req ((0≤(gU s.m s.i).2.2.2.1∧(gU s.m s.i).2.2.2.1≤1000000)∧0≤(gU s.m s.i).2.2.2.2∧(gU s.m s.i).2.2.2.2≤1000000) (.br (decide ((VB (gU s.m s.i))≤s.t)) (.rl s.o (.ok (.next {s with i:=(IntKind.i64.wrap (s.i+1))}))) (.req (0≤(gU s.m s.i).2.1∧(gU s.m s.i).2.1<((List.length s.o:Nat):Int)) (.req ((gU s.m s.i).2.1.toNat<List.length s.o) (.req (0≤(gU s.m s.i).2.1∧(gU s.m s.i).2.1<((List.length s.o:Nat):Int)) (.req ((gU s.m s.i).2.1.toNat<List.length s.o) (.req (0=0∧(List.length s.o)=List.length (s.o.set (gU s.m s.i).2.1.toNat (if (s.o.getD (gU s.m s.i).2.1.toNat (Ty.dflt (.int .i64)))<(gU s.m s.i).2.2.1 then (gU s.m s.i).2.2.1 else (s.o.getD (gU s.m s.i).2.1.toNat (Ty.dflt (.int .i64)))))) (.ok (.next {s with i:=(IntKind.i64.wrap (s.i+1)),o:=(s.o.set (gU s.m s.i).2.1.toNat (if (s.o.getD (gU s.m s.i).2.1.toNat (Ty.dflt (.int .i64)))<(gU s.m s.i).2.2.1 then (gU s.m s.i).2.2.1 else (s.o.getD (gU s.m s.i).2.1.toNat (Ty.dflt (.int .i64)))))}))))))))))) (.rl s.o (.ok (.stop (.exit 0) s)))
abbrev ac6 (s:lF):=(Uo s).rd s
def afr (s:lF):Prop:=s.st=.ready∧s.i=0∧s.k=(List.length s.m:Int)∧s.k≤1000∧(∀x∈s.m,Ls x=true∧x.2.1<(s.o.length:Int))∧s.m.Pairwise (fun a b=>a.1<b.1∧a.2.2.2.1≤b.2.2.2.1)
def WZ (s:lF):Prop:=s.st=.ready∧(0≤s.i∧s.i≤s.k)∧s.k=(List.length s.m:Int)∧s.k≤1000∧(∀x∈s.m,Ls x=true∧x.2.1<(s.o.length:Int))∧s.m.Pairwise (fun a b=>a.1<b.1∧a.2.2.2.1≤b.2.2.2.1)
def Jb (s:lF):Nat:=(s.k-s.i).toNat
def avx (x:Ex) (_ _:lF):Prop:=x=.exit 0
theorem aEq:∀s,afr s→WZ s:=by
 intro s h
 obtain ⟨h0,h1,h2⟩:=h
 exact ⟨h0,by omega,h2⟩
theorem aAd (s:lF) (hI:WZ s):bP (fun s'=>WZ s'∧Jb s'<Jb s) (fun x s'=>avx x s s') (ac6 s):=by
 unfold ac6 Uo
 dsimp only [T.rd,T.rl]
 obtain ⟨hs,⟨h0,h1⟩,h2,h3,h4,h5⟩:=hI
 refine au (fun c1=>?_) (fun c1=>rfl)
 have c1:s.i<s.k:=by simpa using c1
 rw [aN (x:=s.i+1) (by omega) (by omega)]
 refine au (fun c2=>rfl) (fun c2=>au (fun c3=>?_) (fun c3=>?_))
 ·exact ⟨⟨hs,⟨by simp only;omega,by simp only;omega⟩,h2,h3,h4,h5⟩,by simp only [Jb];omega⟩
 ·exact ⟨⟨hs,⟨by simp only;omega,by simp only;omega⟩,h2,h3,fun x hx=>by simp only [List.length_set];exact h4 x hx,h5⟩,by simp only [Jb];omega⟩
noncomputable def Lp:bQ lF:=⟨6,27,[0,2,6,7,8],[],aGH,aFE,fun v b=>⟨aQ iV (v.getD 2 .junk),gI (v.getD 3 .junk),gI (v.getD 4 .junk),jd (.int .i64) (aO b 0),aQ iV (aV (aO b 3) 0),gI (aV (aO b 4) 0),.ready⟩,Uo,fun s r=> {r with m:=s.m,k:=s.k,q:=s.q,t:=s.t,st:=s.st},fun s=> {s with st:=.ready},fun x s=> {s with st:=(match x with| .exit 0=> .ready|_=> .ready)},[.exit 0],afr,WZ,Jb⟩
noncomputable abbrev yh:=Lp.run
noncomputable abbrev ar0:=Lp.jU
abbrev aBn:=Lp.q
theorem axU (s:lF) (hI:WZ s):(Uo s).all (fun _=>True):=by
 refine ⟨fun c1=>⟨?_,fun c2=>⟨⟨rfl,rfl⟩,trivial⟩,fun c2=>⟨?_,fun c3=>⟨⟨rfl,rfl⟩,trivial⟩,fun c3=>⟨?_,?_,?_,?_,?_,trivial⟩⟩⟩,fun c1=>⟨⟨rfl,rfl⟩,trivial⟩⟩
 all_goals ((obtain ⟨hs,⟨h0,h1⟩,h2,h3,h4,h5⟩:=hI;simp only [decide_eq_true_eq] at c1;have hv:=(h4 _ (yD h0 (show s.i<s.m.length by omega))).2;have hl:=AO.1 (h4 _ (yD h0 (show s.i<s.m.length by omega))).1;first|omega|exact ⟨rfl,by simp⟩))
theorem ajl:Lp.Ok:=⟨fun s=>by kernel_rfl,fun s=>by kernel_rfl,fun s=>rfl,fun s t r=>rfl,fun s=>rfl,fun s=>by kernel_rfl⟩
theorem aid:Lp.Pf (avx):=⟨aEq,fun s h=>by
 obtain ⟨m,k,i,o,q,t,st⟩:=s
 have e:st=.ready:=h.1
 subst e
 rfl,aAd,axU⟩
theorem aoS:bn Tryz.prog aS (AN 6) (.loop V3) Lp.lp:=bQ.snd ajl aid (bF (Γ:=A7) (K:=ace) (L:=(sO Tryz.prog aS A7 ace 20 2)) EP akl V3 (fun b _=>dN EP akl 20 2 b)) (fun s=>by kernel_rfl)
theorem asE (s:lF) (hE:afr s):(fun (x:Ex) (s':lF) (v:List Int)=>x=.exit 0∧s'.o=v) (ar0 s) (yh s) ((fun s:lF=>((s.m.drop s.i.toNat).filter (Eu s.t)).foldl YN s.o) s):=by
 exact bQ.ul ajl aid (fun s:lF=>((s.m.drop s.i.toNat).filter (Eu s.t)).foldl YN s.o) (fun x s' v=>x=.exit 0∧s'.o=v) (fun s hI=>by
  show bP _ _ (ac6 s)
  unfold ac6 Uo
  dsimp only [T.rd,T.rl]
  obtain ⟨hs,⟨h0,h1⟩,h2,h3,h4,h5⟩:=hI
  refine au (fun c1=>?_) (fun c1=>?_)
  ·have c1:s.i<s.k:=by simpa using c1
   have e:=(wZ h0 (show s.i<(List.length s.m:Int) by omega)).1
   rw [aN (x:=s.i+1) (by omega) (by omega)]
   refine au (fun c2=>?_) (fun c2=>au (fun c3=>?_) (fun c3=>?_))
   ·refine ⟨rfl,?_⟩
    have c2:(gU s.m s.i).2.2.2.1>s.t:=by simpa using c2
    have hp:(s.m.drop s.i.toNat).Pairwise (fun a b=>a.1<b.1∧a.2.2.2.1≤b.2.2.2.1):=List.Pairwise.sublist (List.drop_sublist _ _) h5
    rw [e,List.pairwise_cons] at hp
    rw [List.filter_eq_nil_iff.2]
    ·rfl
    ·rw [e]
     intro x hx
     unfold Eu
     rw [decide_eq_false,Bool.false_and]
     ·decide
     ·rcases List.mem_cons.1 hx with rfl|hx
      ·omega
      ·have:=(hp.1 x hx).2
       omega
   ·show List.foldl _ _ _=List.foldl _ _ _
    have c3:VB (gU s.m s.i)≤s.t:=by simpa using c3
    have hb:¬Eu s.t (gU s.m s.i)=true:=by
     unfold Eu
     rw [decide_eq_false (p:=VB _>_) (by omega),Bool.and_false]
     decide
    simp only
    rw [e,List.filter_cons,if_neg hb]
   ·show List.foldl _ _ _=List.foldl _ _ _
    have c2:(gU s.m s.i).2.2.2.1≤s.t:=by simpa using c2
    have c3:s.t<VB (gU s.m s.i):=by simpa using c3
    have hb:Eu s.t (gU s.m s.i)=true:=by
     unfold Eu
     rw [decide_eq_true c2,decide_eq_true c3]
     rfl
    simp only
    rw [e,List.filter_cons,if_pos hb,List.foldl_cons]
    rfl
  ·have c1:s.k≤s.i:=by simpa using c1
   refine ⟨rfl,?_⟩
   rw [List.drop_eq_nil_of_le (by omega)]
   rfl) s hE
def aeQ:List LV→T LV
 | [.xl (.pair (.int .i64) (.pair (.int .i64) (.pair (.int .i64) (.pair (.int .i64) (.int .i64))))) l,.v (.int .i64 n),.v (.int .i64 t)]=> .ok (.gQ [.xl (.int .i64) (iH l n t),.v (.int .i64 (JU l n t))])
 |_=> .no
noncomputable def Kv:List LV→T LV:=gZ Tryz.prog Tryz.f66.params.toList aeQ
noncomputable def atL:Hand:=inl Tryz.prog aS A7 (jX 137 6 1 (Lp.lp) (kH Tryz.prog aS (A7) 20 2)) 9
theorem aDm:cZ Tryz.prog aS atL:=bM EP (dF Tryz.func137 rfl (by kernel_rfl) aoS (dI EP)) 9
theorem aqN (l:List Le) (n t:Int):bW Tryz.prog aS (A7) atL (fun i=>if i=4 then GH.lp else aC i) Tryz.f66 [.xl iV l,.v (.int .i64 n),.v (.int .i64 t)]=.br ((!(gJ l)) ||((!(inB n (0:Int) (16:Int))) ||(!(inB t (0:Int) (1100000:Int))))) (.ok (.gQ [.xl (.int .i64) ([]:List Int),.v (.int .i64 1)])) (.req (aBo (⟨l,n,t,(0:Int),l,(List.length l:Int),(0:Int)⟩:qg)) (.br (iE (adw (⟨l,n,t,(0:Int),l,(List.length l:Int),(0:Int)⟩:qg)) (.ret)) (.ok (.gQ [.xl (.int .i64) ([]:List Int),.v (.int .i64 (abH (⟨l,n,t,(0:Int),l,(List.length l:Int),(0:Int)⟩:qg)).e)])) (.req (0≤n∧n≤n∧8*n≤2^48∧n<2^63) (.req (0=0∧n.toNat=List.length (List.replicate n.toNat (0:Int))) (.req (aBn (⟨l,(List.length l:Int),(0:Int),(List.replicate n.toNat (0:Int)),l,t,.ready⟩:lF)) (.req (0+(List.length (yh (⟨l,(List.length l:Int),(0:Int),(List.replicate n.toNat (0:Int)),l,t,.ready⟩:lF)).o)≤List.length (yh (⟨l,(List.length l:Int),(0:Int),(List.replicate n.toNat (0:Int)),l,t,.ready⟩:lF)).o) (.ok (.gQ [.xl (.int .i64) (((yh (⟨l,(List.length l:Int),(0:Int),(List.replicate n.toNat (0:Int)),l,t,.ready⟩:lF)).o.drop 0).take (List.length (yh (⟨l,(List.length l:Int),(0:Int),(List.replicate n.toNat (0:Int)),l,t,.ready⟩:lF)).o)),.v (.int .i64 0)])))))))):=by kernel_rfl
theorem agK:Valid Tryz.prog aS 66 Kv:=aI Tryz.func66 rfl EP aDm (L:=(fun i=>if i=4 then GH.lp else aC i)) (fun b hb=>by
 rw [show aB _=[Dn] by kernel_rfl] at hb
 simp only [List.mem_cons,List.not_mem_nil,or_false] at hb
 subst hb
 exact aoT) (fun args lv h=>by
 unfold aeQ at h
 split at h
 ·simp only [canL,canX]
  rw [aqN]
  rename_i l n t
  obtain rfl:=h
  have bad:qR l n t=false→LV.gQ [.xl (.int .i64) ([]:List Int),.v (.int .i64 1)]=LV.gQ [.xl (.int .i64) (iH l n t),.v (.int .i64 (JU l n t))]:=fun c=>by
   unfold iH JU
   rw [c]
   rfl
  refine ⟨fun c=>bad ?_,fun c=>?_⟩
  ·unfold qR
   cases e1:gJ l<;>cases e2:inB n 0 16<;>cases e3:inB t 0 1100000<;>simp_all
  have c:(gJ l&&(inB n 0 16&&inB t 0 1100000))=true:=by cases e1:gJ l<;>cases e2:inB n 0 16<;>cases e3:inB t 0 1100000<;>simp_all
  have c':=c
  rw [Bool.and_eq_true,Bool.and_eq_true,dV,dV] at c'
  obtain ⟨hv,hn,ht⟩:=c'
  have hl:=jI hv
  have hE:afs ⟨l,n,t,0,l,(List.length l:Int),0⟩:=⟨rfl,rfl,by simp only;omega⟩
  refine ⟨⟨hE,rfl,rfl⟩,?_⟩
  obtain ⟨_,_,hq⟩:=asF _ hE
  rcases hq with ⟨q1,q2⟩ |⟨q1,q2,q3⟩<;>rw [q1]
  ·refine ⟨fun h=>(by cases h),fun _=>?_⟩
   have q2:below n l=true:=q2
   have hE2:afr ⟨l,(List.length l:Int),0,List.replicate n.toNat 0,l,t,.ready⟩:=⟨rfl,rfl,rfl,by simp only;omega,fun x hx=>⟨hl.2 x hx,by
    have:=of_decide_eq_true (List.all_eq_true.1 q2 x hx)
    simp only [List.length_replicate]
    omega⟩,Ea hv⟩
   obtain ⟨_,q4⟩:=asE _ hE2
   have q4:(yh ⟨l,(List.length l:Int),0,List.replicate n.toNat 0,l,t,.ready⟩).o=vJ n.toNat l t:=q4
   refine ⟨by omega,⟨rfl,by simp⟩,⟨hE2,rfl,rfl⟩,by omega,?_⟩
   show LV.gQ [LV.xl _ _,_]=_
   rw [List.drop_zero,List.take_length,q4]
   unfold iH JU qR
   rw [c,q2]
   rfl
  ·have q3:below n l=false:=q3
   rw [q2]
   exact ⟨fun _=>bad (by unfold qR;rw [q3,Bool.and_false]),fun h=>by cases h⟩
 ·cases h)
end Go.Proofs.YtlihnbimgclogaaGreatDoor
namespace Go.Proofs.YtlihnbimgclogaaGreatDoor
open Go.Sx
def ael:List LV→T LV
 | [.v (.agg ⟨[.string _,.int .i64 _,.int .i64 _,.int .i64 mi,.int .i64 ma,.int .i64 st,.int .i64 _,.int .i64 _]⟩)]=> .ok (.v (.int .i64 (D9 mi ma st)))
 |_=> .no
noncomputable def ZU:List LV→T LV:=gZ Tryz.prog Tryz.f28.params.toList ael
noncomputable def azr:Specs:=bf []
theorem aDP:∀g S,azr g=some S→Valid Tryz.prog aS g S:=aT (l:=[]) trivial
theorem aqj (nm:ByteArray) (at_ ph mi ma st fb ow:Int):bW Tryz.prog aS (azr) fE aC Tryz.f28 [.v (.agg #[.string nm,.int .i64 at_,.int .i64 ph,.int .i64 mi,.int .i64 ma,.int .i64 st,.int .i64 fb,.int .i64 ow])]=.br ((decide (mi<1)) ||((decide (mi>ma)) ||((decide (ma>80)) ||((decide (st<1)) ||(decide (st>80)))))) (.ok (.v (.int .i64 0))) (.req (st≠0) (.ok (.v (.int .i64 (IntKind.i64.wrap ((IntKind.i64.wrap ((IntKind.i64.wrap (ma-mi)).tdiv st))+2)))))):=by kernel_rfl
theorem av3:Valid Tryz.prog aS 28 ZU:=aI Tryz.func28 rfl aDP aG (aY (by kernel_rfl)) (fun args lv h=>by
 unfold ael at h
 split at h
 ·simp only [canL,canX]
  rw [aqj]
  rename_i mi ma st _ _
  obtain rfl:=h
  refine ⟨fun c=>congrArg (fun z=>LV.v (.int .i64 z)) ?_,fun c=>⟨?_,congrArg (fun z=>LV.v (.int .i64 z)) ?_⟩⟩
  ·have:nD mi ma st=false:=by
    rw [Bool.eq_false_iff];intro h;have:=fZ.1 h;simp at c;omega
   rw [U2 this]
  ·simp at c;omega
  ·have hh:nD mi ma st=true:=fZ.2 (by simp at c;omega)
   obtain ⟨h1,h2,h3,h4,h5⟩:=fZ.1 hh
   have:=Eo (x:=ma-mi) (st:=st) (by omega) (by omega)
   rw [aN (x:=ma-mi) (by omega) (by omega),Int.tdiv_eq_ediv_of_nonneg (by omega),aN (x:=(ma-mi) / st) (by omega) (by omega),aN (by omega) (by omega)]
   simp [D9,hh]
 ·cases h)
def aeP:List LV→T LV
 | [.v (.agg ⟨[.string _,.int .i64 _,.int .i64 _,.int .i64 mi,.int .i64 _,.int .i64 st,.int .i64 _,.int .i64 _]⟩),.v (.int .i64 k)]=> .req ((1≤mi∧mi≤80∧1≤st∧st≤80)∧0≤k∧k≤1000) (.ok (.v (.int .i64 (DN mi st k))))
 |_=> .no
noncomputable def qX:List LV→T LV:=gZ Tryz.prog Tryz.f61.params.toList aeP
theorem aqM (nm:ByteArray) (at_ ph mi ma st fb ow k:Int):bW Tryz.prog aS (azr) fE aC Tryz.f61 [.v (.agg #[.string nm,.int .i64 at_,.int .i64 ph,.int .i64 mi,.int .i64 ma,.int .i64 st,.int .i64 fb,.int .i64 ow]),.v (.int .i64 k)]=.br (k==0) (.ok (.v (.int .i64 0))) (.ok (.v (.int .i64 (IntKind.i64.wrap (mi+(IntKind.i64.wrap ((IntKind.i64.wrap (k-1))*st))))))):=by kernel_rfl
theorem Ij:Valid Tryz.prog aS 61 qX:=aI Tryz.func61 rfl aDP aG (aY (by kernel_rfl)) (fun args lv h=>by
 unfold aeP at h
 split at h
 ·simp only [canL,canX]
  rw [aqM]
  rename_i mi _ st _ _ k
  obtain ⟨⟨⟨h1,h2,h3,h4⟩,h5,h6⟩,rfl⟩:=h
  refine ⟨fun c=>congrArg (fun z=>LV.v (.int .i64 z)) ?_,fun c=>congrArg (fun z=>LV.v (.int .i64 z)) ?_⟩
  ·have c:k=0:=by simpa using c
   simp [DN,c]
  ·have c:k≠0:=by simpa using c
   have:=ayM (a:=k-1) (b:=st) (by omega) (by omega) (by omega) (by omega)
   rw [aN (x:=k-1) (by omega) (by omega),aN (x:=(k-1)*st) (by omega) (by omega),aN (by omega) (by omega)]
   simp [DN,c]
 ·cases h)
def aeo:List LV→T LV
 | [.v (.agg ⟨[.string _,.int .i64 _,.int .i64 _,.int .i64 mi,.int .i64 ma,.int .i64 st,.int .i64 _,.int .i64 _]⟩),.v (.int .i64 a)]=> .req (a≤9223372036854775807) (.ok (.v (.int .i64 (U6 mi ma st a))))
 |_=> .no
noncomputable def qV:List LV→T LV:=gZ Tryz.prog Tryz.f96.params.toList aeo
noncomputable def aDS:Specs:=bf [(28,ZU)]
theorem aHa:∀g S,aDS g=some S→Valid Tryz.prog aS g S:=aT (l:=[(28,ZU)]) ⟨av3,trivial⟩
theorem aqm (nm:ByteArray) (at_ ph mi ma st fb ow a:Int):bW Tryz.prog aS (aDS) fE aC Tryz.f96 [.v (.agg #[.string nm,.int .i64 at_,.int .i64 ph,.int .i64 mi,.int .i64 ma,.int .i64 st,.int .i64 fb,.int .i64 ow]),.v (.int .i64 a)]=.br (((D9 mi ma st)==0) ||(decide (a<0))) (.ok (.v (.int .i64 (-1)))) (.br (decide (a<mi)) (.ok (.v (.int .i64 0))) (.req (st≠0) (.ok (.v (.int .i64 (if (IntKind.i64.wrap ((IntKind.i64.wrap ((IntKind.i64.wrap (a-mi)).tdiv st))+1))<(IntKind.i64.wrap ((D9 mi ma st)-1)) then IntKind.i64.wrap ((IntKind.i64.wrap ((IntKind.i64.wrap (a-mi)).tdiv st))+1) else IntKind.i64.wrap ((D9 mi ma st)-1))))))):=by kernel_rfl
theorem Ih:Valid Tryz.prog aS 96 qV:=aI Tryz.func96 rfl aHa aG (aY (by kernel_rfl)) (fun args lv h=>by
 unfold aeo at h
 split at h
 ·simp only [canL,canX]
  rw [aqm]
  rename_i mi ma st _ _ a
  obtain ⟨ha,rfl⟩:=h
  have hb:=ajS (mi:=mi) (ma:=ma) (st:=st)
  refine ⟨fun c=>congrArg (fun z=>LV.v (.int .i64 z)) ?_,fun c=>⟨fun c2=>congrArg (fun z=>LV.v (.int .i64 z)) ?_,fun c2=>?_⟩⟩
  ·have c:nD mi ma st=false∨a<0:=by
    simp at c
    rcases c with c|c
    ·left
     cases e:nD mi ma st with
     |false=>rfl
     |true=>have:=Q5 e;omega
    ·exact .inr c
   simp only [U6,if_pos c]
  all_goals
   simp at c c2
   have hh:nD mi ma st=true:=by
    cases e:nD mi ma st with
    |true=>rfl
    |false=>exact absurd (U2 e) c.1
   have hn:¬(nD mi ma st=false∨a<0):=by simp [hh];omega
   have:=fZ.1 hh
  ·simp only [U6,if_neg hn,if_pos c2]
  ·have:=Eo (x:=a-mi) (st:=st) (by omega) (by omega)
   refine ⟨by omega,congrArg (fun z=>LV.v (.int .i64 z)) ?_⟩
   rw [aN (x:=a-mi) (by omega) (by omega),Int.tdiv_eq_ediv_of_nonneg (by omega),aN (x:=(a-mi) / st) (by omega) (by omega),aN (x:=(a-mi) / st+1) (by omega) (by omega),aN (x:=D9 mi ma st-1) (by omega) (by omega)]
   simp only [U6,if_neg hn,if_neg (show ¬a<mi by omega)]
   split<;>omega
 ·cases h)
end Go.Proofs.YtlihnbimgclogaaGreatDoor
namespace Go.Proofs.YtlihnbimgclogaaGreatDoor
open Go.Sx
def NP:List LV→T LV
 | [.v (.string w)]=> .ok (.v (.bool (isIn Fe w)))
 |_=> .no
noncomputable def xE:List LV→T LV:=gZ Tryz.prog Tryz.f165.params.toList NP
noncomputable def Y3:Specs:=bf []
theorem afY:∀g S,Y3 g=some S→Valid Tryz.prog aS g S:=aT (l:=[]) trivial
theorem afK (w:ByteArray):bW Tryz.prog aS (Y3) fE aC Tryz.f165 [.v (.string w)]=.br (w.toList==(ByteArray.mk #[108,105,109,105,116]).toList) (.ok (.v (.bool true))) (.br (w.toList==(ByteArray.mk #[110,101,117,116,114,97,108]).toList) (.ok (.v (.bool true))) (.br (w.toList==(ByteArray.mk #[102,117,115,101]).toList) (.ok (.v (.bool true))) (.br (w.toList==(ByteArray.mk #[116,104,101,114,109,97,108]).toList) (.ok (.v (.bool true))) (.br (w.toList==(ByteArray.mk #[102,114,111,109]).toList) (.ok (.v (.bool true))) (.br (w.toList==(ByteArray.mk #[97,116]).toList) (.ok (.v (.bool true))) (.br (w.toList==(ByteArray.mk #[112,104,97,115,101,115]).toList) (.ok (.v (.bool true))) (.br (w.toList==(ByteArray.mk #[97,109,112,115]).toList) (.ok (.v (.bool true))) (.br (w.toList==(ByteArray.mk #[102,97,108,108,98,97,99,107]).toList) (.ok (.v (.bool true))) (.br (w.toList==(ByteArray.mk #[111,119,110,101,114]).toList) (.ok (.v (.bool true))) (.br (w.toList==(ByteArray.mk #[99,97,114,100]).toList) (.ok (.v (.bool true))) (.br (w.toList==(ByteArray.mk #[114,97,110,107]).toList) (.ok (.v (.bool true))) (.br (w.toList==(ByteArray.mk #[99,104,97,114,103,101,114]).toList) (.ok (.v (.bool true))) (.ok (.v (.bool false))))))))))))))):=by kernel_rfl
theorem TD:Valid Tryz.prog aS 165 xE:=aI Tryz.func165 rfl afY aG (aY (by kernel_rfl)) (fun args lv h=>by
 unfold NP at h
 split at h
 ·simp only [canL,canX]
  rw [afK]
  obtain rfl:=h
  simp only [uI]
  unfold isIn Fe
  simp only [List.any_cons,List.any_nil]
  refine ⟨fun c0=>by simp [c0,T.all],fun c0=>?_⟩
  rw [c0,Bool.false_or]
  refine ⟨fun c1=>by simp [c1,T.all],fun c1=>?_⟩
  rw [c1,Bool.false_or]
  refine ⟨fun c2=>by simp [c2,T.all],fun c2=>?_⟩
  rw [c2,Bool.false_or]
  refine ⟨fun c3=>by simp [c3,T.all],fun c3=>?_⟩
  rw [c3,Bool.false_or]
  refine ⟨fun c4=>by simp [c4,T.all],fun c4=>?_⟩
  rw [c4,Bool.false_or]
  refine ⟨fun c5=>by simp [c5,T.all],fun c5=>?_⟩
  rw [c5,Bool.false_or]
  refine ⟨fun c6=>by simp [c6,T.all],fun c6=>?_⟩
  rw [c6,Bool.false_or]
  refine ⟨fun c7=>by simp [c7,T.all],fun c7=>?_⟩
  rw [c7,Bool.false_or]
  refine ⟨fun c8=>by simp [c8,T.all],fun c8=>?_⟩
  rw [c8,Bool.false_or]
  refine ⟨fun c9=>by simp [c9,T.all],fun c9=>?_⟩
  rw [c9,Bool.false_or]
  refine ⟨fun c10=>by simp [c10,T.all],fun c10=>?_⟩
  rw [c10,Bool.false_or]
  refine ⟨fun c11=>by simp [c11,T.all],fun c11=>?_⟩
  rw [c11,Bool.false_or]
  refine ⟨fun c12=>by simp [c12,T.all],fun c12=>?_⟩
  rw [c12,Bool.false_or]
  rfl
 ·cases h)
def WB:List LV→T LV
 | [.v (.string w)]=> .ok (.v (.bool (isIn o6 w)))
 |_=> .no
noncomputable def Dy:List LV→T LV:=gZ Tryz.prog Tryz.f166.params.toList WB
theorem ajF (w:ByteArray):bW Tryz.prog aS (Y3) fE aC Tryz.f166 [.v (.string w)]=.br (w.toList==(ByteArray.mk #[115,116,97,114,116]).toList) (.ok (.v (.bool true))) (.br (w.toList==(ByteArray.mk #[101,110,101,114,103,121]).toList) (.ok (.v (.bool true))) (.br (w.toList==(ByteArray.mk #[116,105,109,101]).toList) (.ok (.v (.bool true))) (.br (w.toList==(ByteArray.mk #[105,100,108,101]).toList) (.ok (.v (.bool true))) (.br (w.toList==(ByteArray.mk #[99,97,112]).toList) (.ok (.v (.bool true))) (.br (w.toList==(ByteArray.mk #[116,97,120]).toList) (.ok (.v (.bool true))) (.ok (.v (.bool false)))))))):=by kernel_rfl
theorem aay:Valid Tryz.prog aS 166 Dy:=aI Tryz.func166 rfl afY aG (aY (by kernel_rfl)) (fun args lv h=>by
 unfold WB at h
 split at h
 ·simp only [canL,canX]
  rw [ajF]
  obtain rfl:=h
  simp only [uI]
  unfold isIn o6
  simp only [List.any_cons,List.any_nil]
  refine ⟨fun c0=>by simp [c0,T.all],fun c0=>?_⟩
  rw [c0,Bool.false_or]
  refine ⟨fun c1=>by simp [c1,T.all],fun c1=>?_⟩
  rw [c1,Bool.false_or]
  refine ⟨fun c2=>by simp [c2,T.all],fun c2=>?_⟩
  rw [c2,Bool.false_or]
  refine ⟨fun c3=>by simp [c3,T.all],fun c3=>?_⟩
  rw [c3,Bool.false_or]
  refine ⟨fun c4=>by simp [c4,T.all],fun c4=>?_⟩
  rw [c4,Bool.false_or]
  refine ⟨fun c5=>by simp [c5,T.all],fun c5=>?_⟩
  rw [c5,Bool.false_or]
  rfl
 ·cases h)
def Wy:List LV→T LV
 | [.v (.string w)]=> .ok (.v (.bool (isIn words w)))
 |_=> .no
noncomputable def Dx:List LV→T LV:=gZ Tryz.prog Tryz.f169.params.toList Wy
theorem ajD (w:ByteArray):bW Tryz.prog aS (Y3) fE aC Tryz.f169 [.v (.string w)]=.br (w.toList==(ByteArray.mk #[111,110]).toList) (.ok (.v (.bool true))) (.br (w.toList==(ByteArray.mk #[119,111,114,107]).toList) (.ok (.v (.bool true))) (.br (w.toList==(ByteArray.mk #[115,97,116,117,114,100,97,121]).toList) (.ok (.v (.bool true))) (.br (w.toList==(ByteArray.mk #[115,117,110,100,97,121]).toList) (.ok (.v (.bool true))) (.br (w.toList==(ByteArray.mk #[98,101,116,119,101,101,110]).toList) (.ok (.v (.bool true))) (.br (w.toList==(ByteArray.mk #[112,101,114]).toList) (.ok (.v (.bool true))) (.br (w.toList==(ByteArray.mk #[102,114,101,101]).toList) (.ok (.v (.bool true))) (.ok (.v (.bool false))))))))):=by kernel_rfl
theorem aax:Valid Tryz.prog aS 169 Dx:=aI Tryz.func169 rfl afY aG (aY (by kernel_rfl)) (fun args lv h=>by
 unfold Wy at h
 split at h
 ·simp only [canL,canX]
  rw [ajD]
  obtain rfl:=h
  simp only [uI]
  unfold isIn words
  simp only [List.any_cons,List.any_nil]
  refine ⟨fun c0=>by simp [c0,T.all],fun c0=>?_⟩
  rw [c0,Bool.false_or]
  refine ⟨fun c1=>by simp [c1,T.all],fun c1=>?_⟩
  rw [c1,Bool.false_or]
  refine ⟨fun c2=>by simp [c2,T.all],fun c2=>?_⟩
  rw [c2,Bool.false_or]
  refine ⟨fun c3=>by simp [c3,T.all],fun c3=>?_⟩
  rw [c3,Bool.false_or]
  refine ⟨fun c4=>by simp [c4,T.all],fun c4=>?_⟩
  rw [c4,Bool.false_or]
  refine ⟨fun c5=>by simp [c5,T.all],fun c5=>?_⟩
  rw [c5,Bool.false_or]
  refine ⟨fun c6=>by simp [c6,T.all],fun c6=>?_⟩
  rw [c6,Bool.false_or]
  rfl
 ·cases h)
def aev:List LV→T LV
 | [.v (.string w)]=> .ok (.v (.int .i64 (afT 1 kinds w)))
 |_=> .no
noncomputable def ZX:List LV→T LV:=gZ Tryz.prog Tryz.f168.params.toList aev
theorem aqs (w:ByteArray):bW Tryz.prog aS (Y3) fE aC Tryz.f168 [.v (.string w)]=.br (w.toList==(ByteArray.mk #[102,101,101,100,101,114]).toList) (.ok (.v (.int .i64 1))) (.br (w.toList==(ByteArray.mk #[99,97,98,108,101]).toList) (.ok (.v (.int .i64 2))) (.br (w.toList==(ByteArray.mk #[111,119,110,101,114]).toList) (.ok (.v (.int .i64 3))) (.br (w.toList==(ByteArray.mk #[99,111,110,116,114,97,99,116]).toList) (.ok (.v (.int .i64 4))) (.br (w.toList==(ByteArray.mk #[99,104,97,114,103,101,114]).toList) (.ok (.v (.int .i64 5))) (.br (w.toList==(ByteArray.mk #[98,97,121]).toList) (.ok (.v (.int .i64 6))) (.br (w.toList==(ByteArray.mk #[116,97,114,105,102,102]).toList) (.ok (.v (.int .i64 7))) (.ok (.v (.int .i64 0))))))))):=by kernel_rfl
theorem av6:Valid Tryz.prog aS 168 ZX:=aI Tryz.func168 rfl afY aG (aY (by kernel_rfl)) (fun args lv h=>by
 unfold aev at h
 split at h
 ·simp only [canL,canX]
  rw [aqs]
  obtain rfl:=h
  simp only [uI]
  simp only [afT,kinds]
  refine ⟨fun c0=>by rw [if_pos c0];rfl,fun c0=>?_⟩
  rw [if_neg (by simp [c0])]
  refine ⟨fun c1=>by rw [if_pos c1];rfl,fun c1=>?_⟩
  rw [if_neg (by simp [c1])]
  refine ⟨fun c2=>by rw [if_pos c2];rfl,fun c2=>?_⟩
  rw [if_neg (by simp [c2])]
  refine ⟨fun c3=>by rw [if_pos c3];rfl,fun c3=>?_⟩
  rw [if_neg (by simp [c3])]
  refine ⟨fun c4=>by rw [if_pos c4];rfl,fun c4=>?_⟩
  rw [if_neg (by simp [c4])]
  refine ⟨fun c5=>by rw [if_pos c5];rfl,fun c5=>?_⟩
  rw [if_neg (by simp [c5])]
  refine ⟨fun c6=>by rw [if_pos c6];rfl,fun c6=>?_⟩
  rw [if_neg (by simp [c6])]
  rfl
 ·cases h)
def WA:List LV→T LV
 | [.v (.string w)]=> .ok (.v (.bool (GL w)))
 |_=> .no
noncomputable def SQ:List LV→T LV:=gZ Tryz.prog Tryz.f164.params.toList WA
noncomputable def aDR:Specs:=bf [(165,xE),(166,Dy),(168,ZX),(169,Dx)]
theorem aG9:∀g S,aDR g=some S→Valid Tryz.prog aS g S:=aT (l:=[(165,xE),(166,Dy),(168,ZX),(169,Dx)]) ⟨TD,aay,av6,aax,trivial⟩
theorem ajE (w:ByteArray):bW Tryz.prog aS (aDR) fE aC Tryz.f164 [.v (.string w)]=.ok (.v (.bool (((afT 1 kinds w) !=0) ||((isIn Fe w) ||((isIn o6 w) ||(isIn words w)))))):=by kernel_rfl
theorem anI:Valid Tryz.prog aS 164 SQ:=aI Tryz.func164 rfl aG9 aG (aY (by kernel_rfl)) (fun args lv h=>by
 unfold WA at h
 split at h
 ·simp only [canL,canX]
  rw [ajE]
  obtain rfl:=h
  show LV.v (.bool _)=_
  rw [Va 1 kinds _ (by decide)]
  rfl
 ·cases h)
structure xJ where
 text:ByteArray
 r:Bool
 i:Int
def aHv (s:xJ):List LV:=[.v (.string s.text),.v (.bool s.r),.v (.int .i64 s.i)]
def aHn (_:xJ):List aW:=[]
noncomputable def HY:Code:=((aB (Tryz.f163.body.getD .skip))[0]?).getD .skip
def anR (s:xJ):T (Rd xJ):=
 .br (decide (s.i<(s.text.size:Int))) (.req (0≤s.i∧s.i<(s.text.size:Int)) (.br (if decide ((tC s.text s.i)≥97) then !(decide ((tC s.text s.i)≤122))&&(if decide ((tC s.text s.i)≥48) then !(decide ((tC s.text s.i)≤57))&&(!((tC s.text s.i)==95)) else !((tC s.text s.i)==95)) else if decide ((tC s.text s.i)≥48) then !(decide ((tC s.text s.i)≤57))&&(!((tC s.text s.i)==95)) else !((tC s.text s.i)==95)) (.ok (.stop (.ret) {s with r:=false})) (.ok (.next {s with i:=(IntKind.i64.wrap (s.i+1))})))) (.ok (.stop (.exit 0) s))
abbrev aDZ (s:xJ):=(anR s).rd s
def LZ (s:xJ) (j:Int):Bool:=decide (j<1) ||(chB (tC s.text j))
def asM (s:xJ):Prop:=s.i=1∧1≤(s.text.size:Int)∧(s.text.size:Int)≤1000∧True
def agh (s:xJ):Prop:=1≤s.i∧s.i≤(s.text.size:Int)∧(s.text.size:Int)≤1000∧(True)∧∀j:Nat,(j:Int)<s.i→LZ s j=true
def abW (s:xJ):Nat:=((s.text.size:Int)-s.i).toNat
def aAj (x:Ex) (_ s':xJ):Prop:=(x=.exit 0∧∀j:Nat,(j:Int)<(s'.text.size:Int)→LZ s' j=true)∨(x=.ret∧s'.r=false∧∃j:Nat,(j:Int)<(s'.text.size:Int)∧LZ s' j=false)
theorem aG6:∀s,asM s→agh s:=by
 intro s h
 obtain ⟨h0,h1,h2,h3⟩:=h
 exact ⟨by omega,by omega,h2,h3,fun j hj=>by unfold LZ;rw [decide_eq_true (by omega)];rfl⟩
theorem aDw (s:xJ) (hI:agh s):bP (fun s'=>agh s'∧abW s'<abW s) (fun x s'=>aAj x s s') (aDZ s):=by
 unfold aDZ anR
 dsimp only [T.rd,T.rl]
 obtain ⟨h0,h1,h2,h3,h4⟩:=hI
 refine au (fun c1=>au (fun c2=>?_) (fun c2=>?_)) (fun c1=>?_)
 ·have c1:s.i<(s.text.size:Int):=by simpa using c1
  refine .inr ⟨rfl,rfl,s.i.toNat,by simp only;omega,?_⟩
  rw [Int.toNat_of_nonneg (by omega)]
  have hg:LZ s s.i=false:=by unfold LZ;(simp only [show decide (s.i<1)=false from decide_eq_false (by omega),Bool.false_or];(simp only [chB,chA];revert c2;generalize tC s.text s.i=b;intro c2;by_cases h1:b≥97<;>by_cases h2:b≤122<;>by_cases h3:b≥48<;>by_cases h4:b≤57<;>simp_all))
  exact hg
 ·have c1:s.i<(s.text.size:Int):=by simpa using c1
  have hg:LZ s s.i=true:=by unfold LZ;(simp only [show decide (s.i<1)=false from decide_eq_false (by omega),Bool.false_or];(simp only [chB,chA];revert c2;generalize tC s.text s.i=b;intro c2;by_cases h1:b≥97<;>by_cases h2:b≤122<;>by_cases h3:b≥48<;>by_cases h4:b≤57<;>simp_all))
  rw [aN (x:=s.i+1) (by omega) (by omega)]
  refine ⟨⟨by simp only;omega,by simp only;omega,h2,h3,fun j hj=>?_⟩,by simp only [abW];omega⟩
  by_cases hji:(j:Int)<s.i
  ·exact h4 j hji
  ·have:(j:Int)=s.i:=by simp only at hj;omega
   rw [this];exact hg
 ·have c1:(s.text.size:Int)≤s.i:=by simpa using c1
  exact .inl ⟨rfl,fun j hj=>h4 j (by omega)⟩
def Xn:bQ xJ:=⟨0,51,[0,2,3],[],aHv,aHn,fun v _=>⟨gSr (v.getD 0 .junk),yF (v.getD 1 .junk),gI (v.getD 2 .junk)⟩,anR,fun s r=> {r with text:=s.text},fun s=>s,fun _ s=>s,[.ret,.exit 0],asM,agh,abW⟩
abbrev PE:=Xn.run
abbrev alk:=Xn.jU
abbrev aEA:=Xn.q
theorem aCj (s:xJ) (hI:agh s):(anR s).all (fun _=>True):=by
 refine ⟨fun c1=>⟨?_,fun _=>trivial,fun _=>trivial⟩,fun _=>trivial⟩
 ·(obtain ⟨h0,h1,h2,h3,h4⟩:=hI;simp at c1;omega)
theorem atj:Xn.Ok:=⟨fun s=>by kernel_rfl,fun s=>by kernel_rfl,fun s=>rfl,fun s t r=>rfl,fun s=>rfl,fun s=>by kernel_rfl⟩
theorem atb:Xn.Pf (aAj):=⟨aG6,fun _ _=>rfl,aDw,aCj⟩
theorem awF:bn Tryz.prog aS (AN 0) (.loop HY) Xn.lp:=bQ.snd atj atb (aU (Γ:=Y3) (K:=fE) (L:=aC) afY aG HY (fun b hb=>by rw [show aB HY=[] by kernel_rfl] at hb;cases hb)) (fun s=>by kernel_rfl)
theorem azf (s:xJ) (hE:asM s):∃s',agh s'∧aAj (alk s) s' (PE s):=bQ.fin atj atb s hE
def WG:List LV→T LV
 | [.v (.string w)]=> .ok (.v (.bool (gwB w)))
 |_=> .no
noncomputable def SV:List LV→T LV:=gZ Tryz.prog Tryz.f163.params.toList WG
theorem ajI (w:ByteArray):bW Tryz.prog aS (Y3) fE (fun i=>if i=4 then Xn.lp else aC i) Tryz.f163 [.v (.string w)]=.br (decide ((w.size:Int)<1)) (.ok (.v (.bool false))) (.br (decide ((w.size:Int)>12)) (.ok (.v (.bool false))) (.req (0≤(0:Int)∧(0:Int)<(w.size:Int)) (.br (decide ((tC w (0:Int))<97)) (.ok (.v (.bool false))) (.req (0≤(0:Int)∧(0:Int)<(w.size:Int)) (.br (decide ((tC w (0:Int))>122)) (.ok (.v (.bool false))) (.req (aEA (⟨w,false,(1:Int)⟩:xJ)) (.br (iE (alk (⟨w,false,(1:Int)⟩:xJ)) (.ret)) (.ok (.v (.bool (PE (⟨w,false,(1:Int)⟩:xJ)).r))) (.ok (.v (.bool true)))))))))):=by kernel_rfl
theorem anK:Valid Tryz.prog aS 163 SV:=aI Tryz.func163 rfl afY aG (L:=(fun i=>if i=4 then Xn.lp else aC i)) (fun b hb=>by
 rw [show aB _=[HY] by kernel_rfl] at hb
 simp only [List.mem_cons,List.not_mem_nil,or_false] at hb
 subst hb
 exact awF) (fun args lv h=>by
 unfold WG at h
 split at h
 ·simp only [canL,canX]
  rw [ajI]
  rename_i w
  obtain rfl:=h
  have bad:¬(((1≤w.size∧w.size≤12)∧(97≤tC w 0∧tC w 0≤122)))→LV.v (.bool false)=LV.v (.bool (gwB w)):=fun hn=>congrArg (fun z=>LV.v (.bool z)) (by
   rw [eq_comm,Bool.eq_false_iff];intro h
   simp only [gwB,chA,Bool.and_eq_true,decide_eq_true_eq] at h
   exact hn ⟨h.1,by omega,by omega⟩)
  refine ⟨fun c=>bad (by simp at c;omega),fun c=>⟨fun c2=>bad (by simp at c2;omega),fun c2=>⟨by simp at c;omega,fun c3=>bad (by simp at c3;omega),fun c3=>⟨by simp at c;omega,fun c4=>bad (by simp at c4;omega),fun c4=>?_⟩⟩⟩⟩
  simp only [decide_eq_false_iff_not] at c c2 c3 c4
  have hE:asM ⟨w,false,1⟩:=⟨rfl,by simp only;omega,by simp only;omega,trivial⟩
  have key:gwB w=(List.range w.size).all fun i=>i==0 ||chB (tC w i):=by
   simp only [gwB,chA]
   rw [decide_eq_true (by omega),decide_eq_true (by omega),decide_eq_true (by omega)]
   rfl
  obtain ⟨s',_,hq⟩:=azf _ hE
  refine ⟨⟨hE,rfl,rfl⟩,?_⟩
  rw [key]
  rcases hq with ⟨h1,h2⟩ |⟨h1,h2,j,h3,h4⟩
  ·rw [h1]
   refine ⟨fun h=>(by cases h),fun _=>congrArg (fun z=>LV.v (.bool z)) ?_⟩
   rw [eq_comm,List.all_eq_true]
   intro i hi
   have:=h2 i (by show (i:Int)<(w.size:Int);have:=List.mem_range.1 hi;omega)
   simp only [LZ] at this
   rw [show (PE ⟨w,false,1⟩).text=w from rfl] at this
   rw [Bool.or_eq_true] at this
   rcases this with h|h
   ·have:i=0:=by simp at h;omega
    simp [this]
   ·rw [h];simp
  ·rw [h1,h2]
   refine ⟨fun _=>congrArg (fun z=>LV.v (.bool z)) ?_,fun h=>by cases h⟩
   rw [eq_comm,Bool.eq_false_iff]
   intro hx
   rw [List.all_eq_true] at hx
   have h3:(j:Int)<(w.size:Int):=h3
   have:=hx j (List.mem_range.2 (by omega))
   simp only [LZ] at h4
   rw [show (PE ⟨w,false,1⟩).text=w from rfl] at h4
   rw [Bool.or_eq_false_iff] at h4
   have h5:=h4.1
   simp at h5
   rw [h4.2] at this
   simp at this
   omega
 ·cases h)
def WH:List LV→T LV
 | [.v (.string w)]=> .ok (.v (.bool (nameB w)))
 |_=> .no
noncomputable def SX:List LV→T LV:=gZ Tryz.prog Tryz.f159.params.toList WH
noncomputable def aDQ:Specs:=bf [(163,SV),(164,SQ)]
theorem aG8:∀g S,aDQ g=some S→Valid Tryz.prog aS g S:=aT (l:=[(163,SV),(164,SQ)]) ⟨anK,anI,trivial⟩
theorem ajJ (w:ByteArray):bW Tryz.prog aS (aDQ) fE aC Tryz.f159 [.v (.string w)]=.ok (.v (.bool ((gwB w)&&(!(GL w))))):=by kernel_rfl
theorem anL:Valid Tryz.prog aS 159 SX:=aI Tryz.func159 rfl aG8 aG (aY (by kernel_rfl)) (fun args lv h=>by
 unfold WH at h
 split at h
 ·simp only [canL,canX]
  rw [ajJ]
  exact h
 ·cases h)
def aeB:List LV→T LV
 | [.v (.string w)]=> .ok (.v (.bool (nameB w)))
 |_=> .no
noncomputable def Z8:List LV→T LV:=gZ Tryz.prog Tryz.f99.params.toList aeB
noncomputable def arf:Specs:=bf [(159,SX),(165,xE),(166,Dy),(169,Dx)]
theorem azm:∀g S,arf g=some S→Valid Tryz.prog aS g S:=aT (l:=[(159,SX),(165,xE),(166,Dy),(169,Dx)]) ⟨anL,TD,aay,aax,trivial⟩
noncomputable def aDv:Hand:=inl Tryz.prog aS arf (kH Tryz.prog aS (arf) 20 2) 9
theorem aG5:cZ Tryz.prog aS aDv:=bM azm (dI azm) 9
theorem aqy (w:ByteArray):bW Tryz.prog aS (arf) aDv aC Tryz.f99 [.v (.string w)]=.br (((1:Int) !=1) ||((!(ByteArray.empty.toList==(ByteArray.mk #[]).toList)) ||((0:Int) !=0))) (.ok (.v (.bool false))) (.br (((2:Int) !=2) ||((decide ((3:Int)<1)) ||((decide ((3:Int)>7)) ||(!(nameB w))))) (.br (!false) (.ok (.v (.bool false))) (.ok (.v (.bool true)))) (.br (!true) (.ok (.v (.bool false))) (.ok (.v (.bool true))))):=by kernel_rfl
theorem awd:Valid Tryz.prog aS 99 Z8:=aI Tryz.func99 rfl azm aG5 (aY (by kernel_rfl)) (fun args lv h=>by
 unfold aeB at h
 split at h
 ·simp only [canL,canX]
  rw [aqy]
  rename_i w
  obtain rfl:=h
  refine ⟨fun c=>?_,fun _=>?_⟩
  ·exfalso
   rw [uI] at c
   revert c
   decide
  ·cases nameB w<;>simp [T.all]
 ·cases h)
end Go.Proofs.YtlihnbimgclogaaGreatDoor
namespace Go.Proofs.YtlihnbimgclogaaGreatDoor
open Go.Sx
def WE:List LV→T LV
 | [.v (.agg ⟨[.int .i64 a,.int .i64 b]⟩),.v (.int .i64 n)]=> .ok (.v (.bool (inB n a b)))
 |_=> .no
noncomputable def vN:List LV→T LV:=gZ Tryz.prog Tryz.f127.params.toList WE
noncomputable def ard:Specs:=bf []
theorem azl:∀g S,ard g=some S→Valid Tryz.prog aS g S:=aT (l:=[]) trivial
theorem ajH (a b n:Int):bW Tryz.prog aS (ard) fE aC Tryz.f127 [.v (.agg #[.int .i64 a,.int .i64 b]),.v (.int .i64 n)]=.ok (.v (.bool ((decide (n≥a))&&(decide (n≤b))))):=by kernel_rfl
theorem O6:Valid Tryz.prog aS 127 vN:=aI Tryz.func127 rfl azl aG (aY (by kernel_rfl)) (fun args lv h=>by
 unfold WE at h
 split at h
 ·simp only [canL,canX]
  rw [ajH]
  exact h
 ·cases h)
def aeC:List LV→T LV
 | [.v (.agg ⟨[.int .i64 am,.int .i64 mo,.int .i64 _,.int .i64 _,.int .i64 _]⟩)]=> .ok (.v (.bool (decide (mo>am))))
 |_=> .no
noncomputable def Z9:List LV→T LV:=gZ Tryz.prog Tryz.f150.params.toList aeC
theorem aqz (am mo ga lo de:Int):bW Tryz.prog aS (ard) fE aC Tryz.f150 [.v (.agg #[.int .i64 am,.int .i64 mo,.int .i64 ga,.int .i64 lo,.int .i64 de])]=.ok (.v (.bool (decide (mo>am)))):=by kernel_rfl
theorem awe:Valid Tryz.prog aS 150 Z9:=aI Tryz.func150 rfl azl aG (aY (by kernel_rfl)) (fun args lv h=>by
 unfold aeC at h
 split at h
 ·simp only [canL,canX]
  rw [aqz]
  exact h
 ·cases h)
def aeD:List LV→T LV
 | [.v (.agg ⟨[.string _,.int .i64 _,.int .i64 _,.int .i64 mi,.int .i64 ma,.int .i64 _,.int .i64 fb,.int .i64 _]⟩)]=> .ok (.v (.bool (decide (mi≤ma)&&((fb==0) ||inB fb mi ma))))
 |_=> .no
noncomputable def aac:List LV→T LV:=gZ Tryz.prog Tryz.f151.params.toList aeD
theorem aqA (nm:ByteArray) (at_ ph mi ma st fb ow:Int):bW Tryz.prog aS (ard) fE aC Tryz.f151 [.v (.agg #[.string nm,.int .i64 at_,.int .i64 ph,.int .i64 mi,.int .i64 ma,.int .i64 st,.int .i64 fb,.int .i64 ow])]=.ok (.v (.bool ((decide (mi≤ma))&&((fb==0) ||((decide (fb≥mi))&&(decide (fb≤ma))))))):=by kernel_rfl
theorem awf:Valid Tryz.prog aS 151 aac:=aI Tryz.func151 rfl azl aG (aY (by kernel_rfl)) (fun args lv h=>by
 unfold aeD at h
 split at h
 ·simp only [canL,canX]
  rw [aqA]
  exact h
 ·cases h)
def adV:List LV→T LV
 | [.v (.agg ⟨[.string nm,.int .i64 up_,.int .i64 li,.int .i64 ne,.int .i64 ra,.int .i64 he,.int .i64 am,.int .i64 mo,.int .i64 ga,.int .i64 lo,.int .i64 de]⟩),.v (.int .i64 i)]=> .req (0≤i) (.ok (.v (.bool (Fb i (nm,up_,li,ne,(ra,he),am,mo,ga,lo,de)))))
 |_=> .no
noncomputable def ZA:List LV→T LV:=gZ Tryz.prog Tryz.f126.params.toList adV
noncomputable def auv:Specs:=bf [(127,vN),(150,Z9)]
theorem aDO:∀g S,auv g=some S→Valid Tryz.prog aS g S:=aT (l:=[(127,vN),(150,Z9)]) ⟨O6,awe,trivial⟩
theorem apU (nm:ByteArray) (up_ li ne ra he am mo ga lo de i:Int):bW Tryz.prog aS (auv) fE aC Tryz.f126 [.v (.agg #[.string nm,.int .i64 up_,.int .i64 li,.int .i64 ne,.int .i64 ra,.int .i64 he,.int .i64 am,.int .i64 mo,.int .i64 ga,.int .i64 lo,.int .i64 de]),.v (.int .i64 i)]=.br (if i==0 then (up_ !=(-1)) ||((decide (i>0))&&((decide (up_<0)) ||(decide (up_≥i)))) else (decide (i>0))&&((decide (up_<0)) ||(decide (up_≥i)))) (.ok (.v (.bool false))) (.br ((!(inB li (1:Int) (1000:Int))) ||(!(inB ne (1:Int) (1000:Int)))) (.ok (.v (.bool false))) (.br ((!((ra==0)&&(he==0)))&&(!(inB ra (1:Int) (1000:Int)) ||(!(inB he (0:Int) (1000000:Int))))) (.ok (.v (.bool false))) (.br ((am==0)&&((mo==0)&&((ga==0)&&((lo==0)&&(de==0))))) (.ok (.v (.bool true))) (.ok (.v (.bool ((inB am (0:Int) (200000:Int))&&((inB mo (0:Int) (200000:Int))&&((inB ga (0:Int) (1000:Int))&&((inB lo (0:Int) (1000:Int))&&((inB de (1:Int) (1000000:Int))&&(decide (mo>am))))))))))))):=by kernel_rfl
theorem avL:Valid Tryz.prog aS 126 ZA:=aI Tryz.func126 rfl aDO aG (aY (by kernel_rfl)) (fun args lv h=>by
 unfold adV at h
 split at h
 ·simp only [canL,canX]
  rw [apU]
  obtain ⟨hi,h⟩:=h
  exact az3 (K:=fun z=>LV.v (.bool z)=lv) hi h
 ·cases h)
def adW:List LV→T LV
 | [.agg [.xl (.pair .str (.pair (.int .i64) (.pair (.int .i64) (.pair (.int .i64) (.pair (.pair (.int .i64) (.int .i64)) (.pair (.int .i64) (.pair (.int .i64) (.pair (.int .i64) (.pair (.int .i64) (.int .i64)))))))))) cs,.xl (.str) os,.xl (.pair .str (.pair (.int .i64) (.pair (.int .i64) (.int .i64)))) _,.xl (.pair .str (.pair (.int .i64) (.pair (.int .i64) (.pair (.int .i64) (.pair (.int .i64) (.pair (.int .i64) (.pair (.int .i64) (.int .i64)))))))) _,.xl (.pair .str (.int .i64)) _],.v (.agg ⟨[.string nm,.int .i64 at_,.int .i64 ph,.int .i64 mi,.int .i64 ma,.int .i64 st,.int .i64 fb,.int .i64 ow]⟩)]=> .req ((List.length cs:Int)≤1000∧(List.length os:Int)≤1000) (.ok (.v (.bool (GV cs.length os.length (nm,at_,ph,mi,ma,st,fb,ow)))))
 |_=> .no
noncomputable def ZB:List LV→T LV:=gZ Tryz.prog Tryz.f128.params.toList adW
noncomputable def auu:Specs:=bf [(127,vN),(151,aac)]
theorem aDN:∀g S,auu g=some S→Valid Tryz.prog aS g S:=aT (l:=[(127,vN),(151,aac)]) ⟨O6,awf,trivial⟩
theorem apV (cs:List Cd) (os:List ByteArray) (ks:List Ko) (gs:List Ch) (bs:List Ba) (nm:ByteArray) (at_ ph mi ma st fb ow:Int):bW Tryz.prog aS (auu) fE aC Tryz.f128 [.agg [.xl eu cs,.xl .str os,.xl eG ks,.xl dK gs,.xl eP bs],.v (.agg #[.string nm,.int .i64 at_,.int .i64 ph,.int .i64 mi,.int .i64 ma,.int .i64 st,.int .i64 fb,.int .i64 ow])]=.ok (.v (.bool ((inB at_ (0:Int) (IntKind.i64.wrap ((List.length cs:Int)-1)))&&((inB ow (0:Int) (IntKind.i64.wrap ((List.length os:Int)-1)))&&((inB ph (1:Int) (7:Int))&&((inB mi (1:Int) (80:Int))&&((inB ma (1:Int) (80:Int))&&((inB st (1:Int) (80:Int))&&((inB fb (0:Int) (80:Int))&&(decide (mi≤ma)&&((fb==0) ||inB fb mi ma))))))))))):=by kernel_rfl
theorem avM:Valid Tryz.prog aS 128 ZB:=aI Tryz.func128 rfl aDN aG (aY (by kernel_rfl)) (fun args lv h=>by
 unfold adW at h
 split at h
 ·simp only [canL,canX]
  rw [apV]
  rename_i cs os _ _ _ _ at_ ph mi ma st fb ow
  obtain ⟨⟨h1,h2⟩,rfl⟩:=h
  refine congrArg (fun z=>LV.v (.bool z)) ?_
  rw [aN (x:=(List.length cs:Int)-1) (by omega) (by omega),aN (x:=(List.length os:Int)-1) (by omega) (by omega)]
  unfold GV chW
  rw [Bool.eq_iff_iff]
  simp only [Bool.and_eq_true,Bool.or_eq_true,dV,decide_eq_true_eq,beq_iff_eq]
  omega
 ·cases h)
end Go.Proofs.YtlihnbimgclogaaGreatDoor
namespace Go.Proofs.YtlihnbimgclogaaGreatDoor
open Go.Sx
structure jc where
 l:List Cd
 n:Int
 i:Int
 af:List Cd
 aA:List ByteArray
 ai:List Ko
 ak:List Ch
 aJ:List Ba
 out:List ByteArray
def aGd (s:jc):List LV:=[.own 0 0,.os 1 1 0 (List.length s.out),.xl eu s.l,.v (.int .i64 s.n),.v (.int .i64 s.i)]
def aFa (s:jc):List aW:=[⟨[.xl eu s.af,.xl .str s.aA,.xl eG s.ai,.xl dK s.ak,.xl eP s.aJ],28,.cl,false⟩,⟨[],9,.vec .str s.out,false⟩]
noncomputable def CG:Code:=((aB (Tryz.f98.body.getD .skip))[0]?).getD .skip
def Ub (s:jc):T (Rd jc):=
 .br (decide (s.i<s.n)) (.req (0≤s.i∧s.i<(List.length s.l:Int)) (.req (0+(List.length s.out)=List.length s.out∧((List.length s.out+List.length ([(dY s.l s.i).1]):Nat):Int)*16≤2^47∧((List.length s.out+List.length ([(dY s.l s.i).1]):Nat):Int)<2^62) (.req (0=0∧(List.length s.out+List.length ([(dY s.l s.i).1]))=List.length (s.out++([(dY s.l s.i).1]))) (.ok (.next {s with i:=(IntKind.i64.wrap (s.i+1)),out:=(s.out++([(dY s.l s.i).1]))}))))) (.rl s.out (.ok (.stop (.exit 0) s)))
abbrev acT (s:jc):=(Ub s).rd s
def Xg (s:jc):Prop:=s.i=0∧s.n=(s.l.length:Int)∧s.n≤1000∧(s.out.length:Int)≤10000
def Oo (s:jc):Prop:=0≤s.i∧s.i≤s.n∧s.n=(s.l.length:Int)∧s.n≤1000∧(s.out.length:Int)≤10000+s.i
def Qs (s:jc):Nat:=(s.n-s.i).toNat
def amI (x:Ex) (_ s':jc):Prop:=x=.exit 0∧s'.i=s'.n
theorem aCZ:∀s,Xg s→Oo s:=by
 intro s h
 obtain ⟨h0,h1,h2,h3⟩:=h
 exact ⟨by omega,by omega,h1,h2,by omega⟩
theorem ayo (s:jc) (hI:Oo s):bP (fun s'=>Oo s'∧Qs s'<Qs s) (fun x s'=>amI x s s') (acT s):=by
 unfold acT Ub
 dsimp only [T.rd,T.rl]
 obtain ⟨h0,h1,h2,h3,h4⟩:=hI
 refine au (fun c1=>?_) (fun c1=>?_)
 ·have c1:s.i<s.n:=by simpa using c1
  rw [aN (x:=s.i+1) (by omega) (by omega)]
  exact ⟨⟨by simp only;omega,by simp only;omega,h2,h3,by simp only [List.length_append,List.length_cons,List.length_nil];omega⟩,by simp only [Qs];omega⟩
 ·have c1:s.n≤s.i:=by simpa using c1
  exact ⟨rfl,by omega⟩
def F5:bQ jc:=⟨0,80,[1,3,15,16,17],[.nl 3 9 .str],aGd,aFa,fun v b=>⟨aQ eu (v.getD 2 .junk),gI (v.getD 3 .junk),gI (v.getD 4 .junk),aQ eu (aV (aO b 0) 0),aQ .str (aV (aO b 0) 1),aQ eG (aV (aO b 0) 2),aQ dK (aV (aO b 0) 3),aQ eP (aV (aO b 0) 4),jd .str (aO b 1)⟩,Ub,fun s r=> {r with l:=s.l,n:=s.n,af:=s.af,aA:=s.aA,ai:=s.ai,ak:=s.ak,aJ:=s.aJ},fun s=>s,fun _ s=>s,[.exit 0],Xg,Oo,Qs⟩
abbrev ig:=F5.run
abbrev arM:=F5.jU
abbrev aAT:=F5.q
theorem axq (s:jc) (hI:Oo s):(Ub s).all (fun _=>True):=by
 refine ⟨fun c1=>⟨?_,?_,?_,trivial⟩,fun c1=>⟨⟨rfl,rfl⟩,trivial⟩⟩
 all_goals ((obtain ⟨h0,h1,h2,h3,h4⟩:=hI;(try simp only [decide_eq_true_eq] at c1);first|omega|(refine ⟨by omega,?_,?_⟩<;>simp only [List.length_cons,List.length_nil]<;>omega) |(simp only [List.length_append,List.length_cons,List.length_nil];omega) |exact ⟨rfl,by simp⟩ |exact ⟨rfl,rfl⟩))
noncomputable def JB:Specs:=bf []
theorem Np:∀g S,JB g=some S→Valid Tryz.prog aS g S:=aT (l:=[]) trivial
theorem Yk:F5.Ok:=⟨fun s=>by kernel_rfl,fun s=>by kernel_rfl,fun s=>rfl,fun s t r=>rfl,fun s=>rfl,fun s=>by kernel_rfl⟩
theorem X0:F5.Pf (amI):=⟨aCZ,fun _ _=>rfl,ayo,axq⟩
theorem aos:bn Tryz.prog aS (AN 0) (.loop CG) F5.lp:=bQ.snd Yk X0 (aU (Γ:=JB) (K:=fE) (L:=aC) Np aG CG (fun b hb=>by rw [show aB CG=[] by kernel_rfl] at hb;cases hb)) (fun s=>by kernel_rfl)
theorem apO (s:jc) (hE:Xg s):∃s',Oo s'∧amI (arM s) s' (ig s):=bQ.fin Yk X0 s hE
theorem apN (s:jc) (hE:Xg s):(ig s).out=s.out++s.l.map (·.1):=by
 have hk:=bQ.uf Yk X0 (fun s=>s.out++(s.l.drop s.i.toNat).map (·.1)) (fun s hI=>by
  obtain ⟨h0,h1,h2,h3,h4⟩:=hI
  show bP _ _ (acT s)
  unfold acT Ub
  dsimp only [T.rd,T.rl]
  refine au (fun c1=>?_) (fun c1=>?_)
  ·have c1:s.i<s.n:=by simpa using c1
   rw [aN (x:=s.i+1) (by omega) (by omega)]
   show _++_=_++_
   simp only
   rw [(Vt h0 (show s.i<s.l.length by omega)).1]
   simp
  ·rfl) s hE
 obtain ⟨s',hI,q1,q2⟩:=apO s hE
 have q3:(ig s).i=(ig s).n:=q2
 have hn:(ig s).n=(s.l.length:Int):=hE.2.1
 have hl:(ig s).l=s.l:=rfl
 rw [q3,hn,hl,List.drop_eq_nil_of_le (by omega),hE.1] at hk
 simpa using hk
structure jL where
 l:List ByteArray
 n:Int
 i:Int
 af:List Cd
 aA:List ByteArray
 ai:List Ko
 ak:List Ch
 aJ:List Ba
 out:List ByteArray
def aGc (s:jL):List LV:=[.own 0 0,.os 1 1 0 (List.length s.out),.xl .str s.l,.v (.int .i64 s.n),.v (.int .i64 s.i)]
def aE9 (s:jL):List aW:=[⟨[.xl eu s.af,.xl .str s.aA,.xl eG s.ai,.xl dK s.ak,.xl eP s.aJ],28,.cl,false⟩,⟨[],9,.vec .str s.out,false⟩]
noncomputable def CB:Code:=((aB (Tryz.f98.body.getD .skip))[1]?).getD .skip
def Ua (s:jL):T (Rd jL):=
 .br (decide (s.i<s.n)) (.req (0≤s.i∧s.i<(List.length s.l:Int)) (.req (0+(List.length s.out)=List.length s.out∧((List.length s.out+List.length ([(gS s.l s.i)]):Nat):Int)*16≤2^47∧((List.length s.out+List.length ([(gS s.l s.i)]):Nat):Int)<2^62) (.req (0=0∧(List.length s.out+List.length ([(gS s.l s.i)]))=List.length (s.out++([(gS s.l s.i)]))) (.ok (.next {s with i:=(IntKind.i64.wrap (s.i+1)),out:=(s.out++([(gS s.l s.i)]))}))))) (.rl s.out (.ok (.stop (.exit 2) s)))
abbrev acS (s:jL):=(Ua s).rd s
def Xf (s:jL):Prop:=s.i=0∧s.n=(s.l.length:Int)∧s.n≤1000∧(s.out.length:Int)≤10000
def Om (s:jL):Prop:=0≤s.i∧s.i≤s.n∧s.n=(s.l.length:Int)∧s.n≤1000∧(s.out.length:Int)≤10000+s.i
def Qr (s:jL):Nat:=(s.n-s.i).toNat
def amH (x:Ex) (_ s':jL):Prop:=x=.exit 2∧s'.i=s'.n
theorem aCY:∀s,Xf s→Om s:=by
 intro s h
 obtain ⟨h0,h1,h2,h3⟩:=h
 exact ⟨by omega,by omega,h1,h2,by omega⟩
theorem ayn (s:jL) (hI:Om s):bP (fun s'=>Om s'∧Qr s'<Qr s) (fun x s'=>amH x s s') (acS s):=by
 unfold acS Ua
 dsimp only [T.rd,T.rl]
 obtain ⟨h0,h1,h2,h3,h4⟩:=hI
 refine au (fun c1=>?_) (fun c1=>?_)
 ·have c1:s.i<s.n:=by simpa using c1
  rw [aN (x:=s.i+1) (by omega) (by omega)]
  exact ⟨⟨by simp only;omega,by simp only;omega,h2,h3,by simp only [List.length_append,List.length_cons,List.length_nil];omega⟩,by simp only [Qr];omega⟩
 ·have c1:s.n≤s.i:=by simpa using c1
  exact ⟨rfl,by omega⟩
def FZ:bQ jL:=⟨0,80,[1,3,28,29,30],[],aGc,aE9,fun v b=>⟨aQ .str (v.getD 2 .junk),gI (v.getD 3 .junk),gI (v.getD 4 .junk),aQ eu (aV (aO b 0) 0),aQ .str (aV (aO b 0) 1),aQ eG (aV (aO b 0) 2),aQ dK (aV (aO b 0) 3),aQ eP (aV (aO b 0) 4),jd .str (aO b 1)⟩,Ua,fun s r=> {r with l:=s.l,n:=s.n,af:=s.af,aA:=s.aA,ai:=s.ai,ak:=s.ak,aJ:=s.aJ},fun s=>s,fun _ s=>s,[.exit 2],Xf,Om,Qr⟩
abbrev iK:=FZ.run
abbrev arL:=FZ.jU
abbrev aAS:=FZ.q
theorem axp (s:jL) (hI:Om s):(Ua s).all (fun _=>True):=by
 refine ⟨fun c1=>⟨?_,?_,?_,trivial⟩,fun c1=>⟨⟨rfl,rfl⟩,trivial⟩⟩
 all_goals ((obtain ⟨h0,h1,h2,h3,h4⟩:=hI;(try simp only [decide_eq_true_eq] at c1);first|omega|(refine ⟨by omega,?_,?_⟩<;>simp only [List.length_cons,List.length_nil]<;>omega) |(simp only [List.length_append,List.length_cons,List.length_nil];omega) |exact ⟨rfl,by simp⟩ |exact ⟨rfl,rfl⟩))
theorem Yj:FZ.Ok:=⟨fun s=>by kernel_rfl,fun s=>by kernel_rfl,fun s=>rfl,fun s t r=>rfl,fun s=>rfl,fun s=>by kernel_rfl⟩
theorem XZ:FZ.Pf (amH):=⟨aCY,fun _ _=>rfl,ayn,axp⟩
end Go.Proofs.YtlihnbimgclogaaGreatDoor
