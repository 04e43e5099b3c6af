/- ControlSettles returns true for all arguments: if the demands remain as they are, after 200 ticks the currents are the targets. Conditions: none; the table ramp.happens holds what its text says. -/
import Derived.Test.YtlihnbimgclogaaGreatDoorQh2
namespace Go.Proofs.YtlihnbimgclogaaGreatDoor
open Go.Sx
structure OkT (O:List (List Int)) (rows:List Rw) (gs:List Ch) (alive most order:List Int):Prop where
 ol:O.length=16
 ord:∀i∈order,(0≤i∧i<16)∧i<(gs.length:Int)∧i<(alive.length:Int)∧i<(most.length:Int)
 al:∀a∈alive,0≤a∧a≤80
 mo:∀a∈most,0≤a∧a≤80
 has:∀i∈order,lU (bn gs i).2.2.2.1 (bn gs i).2.2.2.2.1 (bn gs i).2.2.2.2.2.1=true
 row:∀o∈O,o.Nodup∧(o.length:Int)≤1000∧∀r∈o,0≤r∧r<(rows.length:Int)
 cap:∀r∈rows,r.1≤1000
structure OkS (rows:List Rw) (order sm lv:List Int):Prop where
 len:sm.length=rows.length
 bd:∀k:Nat,0≤sm.getD k 0∧sm.getD k 0≤2000
 kV:∀i∈order,i<(lv.length:Int)
 lvb:∀k:Nat,0≤lv.getD k 0∧lv.getD k 0≤80
theorem aj9 {mi st k:Int}(h:1≤mi∧mi≤80∧1≤st∧st≤80) (h0:0≤k) (h1:k≤81):0≤Cj mi st k∧Cj mi st k≤6480:=by
 unfold Cj
 split
 ·omega
 ·have a1:0≤(k-1)*st:=Int.mul_nonneg (by omega) (by omega)
  have a2:(k-1)*st≤(k-1)*80:=Int.mul_le_mul_of_nonneg_left (by omega) (by omega)
  omega
theorem U1 {mi st j k:Int}(h:1≤mi∧1≤st) (h0:0≤j) (h1:j≤k):Cj mi st j≤Cj mi st k:=by
 unfold Cj
 split
 ·split
  ·omega
  ·have a1:0≤(k-1)*st:=Int.mul_nonneg (by omega) (by omega)
   omega
 ·rw [if_neg (by omega)]
  have:(j-1)*st≤(k-1)*st:=Int.mul_le_mul_of_nonneg_right (by omega) (by omega)
  omega
theorem aiz {gs:List Ch}{alive:List Int}{i k:Int}(hh:lU (bn gs i).2.2.2.1 (bn gs i).2.2.2.2.1 (bn gs i).2.2.2.2.2.1=true) (ha:0≤gi alive i∧gi alive i≤80) (h0:1≤k) (h1:k≤81):0≤LD gs alive i k∧LD gs alive i k≤10000:=by
 obtain ⟨g1,g2,g3,g4,g5⟩:=eX.1 hh
 have b1:=aj9 (mi:=(bn gs i).2.2.2.1) (st:=(bn gs i).2.2.2.2.2.1) (k:=k) ⟨g1,by omega,g4,g5⟩ (by omega) h1
 have b2:=aj9 (mi:=(bn gs i).2.2.2.1) (st:=(bn gs i).2.2.2.2.2.1) (k:=k-1) ⟨g1,by omega,g4,g5⟩ (by omega) (by omega)
 have b3:=U1 (mi:=(bn gs i).2.2.2.1) (st:=(bn gs i).2.2.2.2.2.1) (j:=k-1) (k:=k) ⟨g1,g4⟩ (by omega) (by omega)
 unfold LD mx vw
 split<;>split<;>omega
theorem qp {l:List Int}{i:Int}(h0:0≤i) (h:i<(l.length:Int)):gi l i∈l:=by
 rw [oK (by omega)];exact List.getElem_mem _
theorem afY {O:List (List Int)}{rows:List Rw}{gs:List Ch}{alive most order:List Int}{level:Int}{t:Tr}{i:Int}(hT:OkT O rows gs alive most order) (hS:OkS rows order t.1 t.2.1) (hi:i∈order) (h0:1≤level) (h1:level≤81):OkS rows order (Dj O rows gs alive most level t i).1 (Dj O rows gs alive most level t i).2.1:=by
 unfold Dj
 split
 ·split
  ·rename_i hc hf
   obtain ⟨⟨o0,o1⟩,o2,o3,o4⟩:=hT.ord i hi
   have hl80:=XD (mi:=(bn gs i).2.2.2.1) (ma:=(bn gs i).2.2.2.2.1) (st:=(bn gs i).2.2.2.2.2.1) (a:=gi most i)
   have hl81:=hc.2
   unfold yx at hl81
   have hm:=aiz (gs:=gs) (alive:=alive) (k:=level) (hT.has i hi) (hT.al _ (qp o0 o3)) h0 h1
   have ho:O.getD i.toNat []∈O:=by
    have hl:=hT.ol
    rw [List.getD_eq_getElem?_getD,List.getElem?_eq_getElem (by omega),Option.getD_some]
    exact List.getElem_mem _
   obtain ⟨r1,r2,r3⟩:=hT.row _ ho
   refine ⟨by simp only;rw [rJ];exact hS.len,fun k=>?_,fun j hj=>by simp only [List.length_set];exact hS.kV j hj,fun k=>by
    have:=hS.lvb k
    simp only
    rw [qw]
    split<;>omega⟩
   simp only
   by_cases hk:k<t.1.length
   ·rw [Jw r1 (fun r hr=>(r3 r hr).1) hk]
    have hb:=hS.bd k
    split
    ·rename_i hkm
     have hfit:=List.all_eq_true.1 hf _ hkm
     unfold Am at hfit
     rw [decide_eq_true_eq,Int.toNat_natCast] at hfit
     have hk2:=hS.len
     have:=hT.cap (rE rows (k:Int)) (by rw [DC (by omega)];exact List.getElem_mem _)
     omega
    ·omega
   ·rw [List.getD_eq_getElem?_getD,List.getElem?_eq_none (by rw [rJ];omega)]
    simp
  ·exact hS
 ·exact hS
theorem Wn {O:List (List Int)}{rows:List Rw}{gs:List Ch}{alive most order:List Int}{level:Int}(hT:OkT O rows gs alive most order) (h0:1≤level) (h1:level≤81):∀(l:List Int) (t:Tr),(∀i∈l,i∈order)→OkS rows order t.1 t.2.1→OkS rows order (swp O rows gs alive most level t l).1 (swp O rows gs alive most level t l).2.1
 | [],t,_,h=>h
 |i::l,t,hl,h=>Wn hT h0 h1 l _ (fun j hj=>hl j (by simp [hj])) (afY hT h (hl i (by simp)) h0 h1)
theorem zx {O:List (List Int)}{rows:List Rw}{gs:List Ch}{alive most:List Int}{level:Int}:∀(l:List Int) (t:Tr),(swp O rows gs alive most level t l).2.2=true→t.2.2=true∨level≤80
 | [],t,h=> .inl h
 | i::l,t,h=>by
  rcases zx l _ h with h2|h2
  ·unfold Dj at h2
   split at h2
   ·rename_i hc
    have:=XD (mi:=(bn gs i).2.2.2.1) (ma:=(bn gs i).2.2.2.2.1) (st:=(bn gs i).2.2.2.2.2.1) (a:=gi most i)
    have h3:=hc.2
    unfold yx at h3
    exact .inr (by omega)
   ·exact .inl h2
  ·exact .inr h2
end Go.Proofs.YtlihnbimgclogaaGreatDoor
namespace Go.Proofs.YtlihnbimgclogaaGreatDoor
open Go.Sx
theorem Wv {O:List (List Int)}{rows:List Rw}{gs:List Ch}{alive most:List Int}{level:Int}{t:Tr}{i:Int}:(Dj O rows gs alive most level t i).2.1.length=t.2.1.length:=by
 unfold Dj
 split
 ·split
  ·simp only [List.length_set]
  ·rfl
 ·rfl
theorem G7 {O:List (List Int)}{rows:List Rw}{gs:List Ch}{alive most:List Int}{level:Int}:∀(l:List Int) (t:Tr),(swp O rows gs alive most level t l).2.1.length=t.2.1.length
 | [],_=>rfl
 |_::l,_=>(G7 l _).trans Wv
theorem afL {O:List (List Int)}{rows:List Rw}{gs:List Ch}{alive most order:List Int}(hT:OkT O rows gs alive most order):∀(f:Nat) (level:Int) (sm lv:List Int),1≤level→level≤81→OkS rows order sm lv→(shl O rows gs alive most order f level sm lv).length=lv.length∧∀k:Nat,0≤(shl O rows gs alive most order f level sm lv).getD k 0∧(shl O rows gs alive most order f level sm lv).getD k 0≤80
 |0,_,_,lv,_,_,h=>⟨rfl,h.lvb⟩
 | f+1,level,sm,lv,h0,h1,h=>by
  have hk:=Wn hT h0 h1 order (sm,lv,false) (fun _ h=>h) h
  have hl:=G7 (O:=O) (rows:=rows) (gs:=gs) (alive:=alive) (most:=most) (level:=level) order (sm,lv,false)
  have hs:=zx (O:=O) (rows:=rows) (gs:=gs) (alive:=alive) (most:=most) (level:=level) order (sm,lv,false)
  rw [shl]
  split
  ·rename_i hc
   have h80:level≤80:=by
    rcases hs hc with h|h
    ·cases h
    ·exact h
   obtain ⟨g1,g2⟩:=afL hT f (level+1) _ _ (by omega) (by omega) hk
   exact ⟨g1.trans hl,g2⟩
  ·exact ⟨hl,hk.lvb⟩
def ofF (i:Int):List Rw→Int→List Int
 | [],_=>[]
 |r::rs,j=>(if r.2.contains j then [i] else [])++ofF (i+1) rs j
theorem TQ {o:List (List Int)}{f:List Int→List Int}{j k:Nat}(h:k<o.length):(o.modify j f).getD k []=if j=k then f (o.getD k []) else o.getD k []:=by
 simp only [List.getD,List.getElem?_modify,List.getElem?_eq_getElem h]
 split<;>simp_all
theorem TD {i:Int}:∀ {l:List Int}{o:List (List Int)}{k:Nat},l.Nodup→(∀m∈l,0≤m)→k<o.length→(vg i o l).getD k []=o.getD k []++(if l.contains (k:Int) then [i] else [])
 | [],o,k,_,_,_=>by simp [vg]
 | m::l,o,k,hn,h0,hk=>by
  obtain ⟨n1,n2⟩:=List.nodup_cons.1 hn
  have hm:=h0 m (by simp)
  rw [xu,TD n2 (fun x hx=>h0 x (by simp [hx])) (by rw [List.length_modify];exact hk),TQ hk]
  by_cases e:m.toNat=k
  ·have e2:(k:Int)=m:=by omega
   have:¬(k:Int)∈l:=by rw [e2];exact n1
   rw [if_pos e]
   simp [e2,n1]
  ·rw [if_neg e]
   have:¬(k:Int)=m:=by omega
   simp [this]
def aiA (r:Rw):Prop:=r.2.Nodup∧∀m∈r.2,0≤m
theorem GZ:∀ {rs:List Rw}{o:List (List Int)}{i:Int},(RI o i rs).length=o.length
 | [],_,_=>rfl
 |r::rs,o,i=>by rw [RI,GZ,vO]
theorem Zm:∀ {rs:List Rw}{o:List (List Int)}{i:Int}{k:Nat},(∀r∈rs,aiA r)→k<o.length→(RI o i rs).getD k []=o.getD k []++ofF i rs k
 | [],o,i,k,_,_=>by simp [RI,ofF]
 |r::rs,o,i,k,h,hk=>by
  obtain ⟨h1,h2⟩:=h r (by simp)
  rw [RI,Zm (fun x hx=>h x (by simp [hx])) (by rw [vO];exact hk),TD h1 h2 hk,ofF,List.append_assoc]
theorem uj:∀ {rs:List Rw}{i j x:Int},x∈ofF i rs j↔i≤x∧x<i+rs.length∧(rE rs (x-i)).2.contains j=true
 | [],i,j,x=>by simp [ofF];omega
 | r ::rs,i,j,x=>by
  rw [ofF,List.mem_append,uj]
  by_cases e:x=i
  ·subst e
   have g0:rE (r::rs) (x-x)=r:=by simp [rE]
   rw [g0]
   simp only [List.length_cons]
   constructor
   ·rintro (h|h)
    ·split at h
     ·rename_i hc
      exact ⟨by omega,by omega,hc⟩
     ·cases h
    ·omega
   ·rintro ⟨_,_,h⟩
    rw [if_pos h]
    simp
  ·have hn:¬x∈(if r.2.contains j then [i] else []):=by
    split
    ·simpa using e
    ·simp
   simp only [List.length_cons]
   constructor
   ·rintro (h|⟨h1,h2,h3⟩)
    ·exact absurd h hn
    ·refine ⟨by omega,by omega,?_⟩
     have:rE (r::rs) (x-i)=rE rs (x-(i+1)):=by
      unfold rE
      rw [show (x-i).toNat=(x-(i+1)).toNat+1 by omega]
      simp
     rw [this];exact h3
   ·rintro ⟨h1,h2,h3⟩
    refine .inr ⟨by omega,by omega,?_⟩
    have:rE (r::rs) (x-i)=rE rs (x-(i+1)):=by
     unfold rE
     rw [show (x-i).toNat=(x-(i+1)).toNat+1 by omega]
     simp
    rw [←this];exact h3
theorem xC:∀ {rs:List Rw}{i j:Int},(ofF i rs j).Nodup
 | [],_,_=>List.nodup_nil
 | r::rs,i,j=>by
  rw [ofF]
  split
  ·rw [List.singleton_append,List.nodup_cons]
   refine ⟨fun h=>?_,xC⟩
   have:=(uj.1 h).1
   omega
  ·rw [List.nil_append];exact xC
theorem aaH:∀ {rs:List Rw}{i j:Int},(ofF i rs j).length≤rs.length
 | [],_,_=>Nat.le_refl _
 |r::rs,i,j=>by
  have:=aaH (rs:=rs) (i:=i+1) (j:=j)
  rw [ofF]
  split<;>simp only [List.length_append,List.length_cons,List.length_nil]<;>omega
theorem GY {alive:List Int}:∀ {rs:List Rw}{sm:List Int}{i:Int},(RH alive sm i rs).length=sm.length
 | [],_,_=>rfl
 |r::rs,sm,i=>by rw [RH,GY,List.length_set]
theorem Zl {alive:List Int}:∀ {rs:List Rw}{sm:List Int}{i:Int}{k:Nat},0≤i→k<sm.length→(RH alive sm i rs).getD k 0=sm.getD k 0+(if i≤(k:Int)∧(k:Int)<i+rs.length then smA alive (rE rs ((k:Int)-i)).2 else 0)
 | [],sm,i,k,_,_=>by
  rw [if_neg (by simp only [List.length_nil];omega)]
  simp [RH]
 | r ::rs,sm,i,k,hi,hk=>by
  rw [RH,Zl (by omega) (by rw [List.length_set];exact hk),qw]
  by_cases e:i.toNat=k
  ·have e2:(k:Int)=i:=by omega
   rw [if_pos ⟨e,hk⟩,if_neg (by omega),if_pos (by simp only [List.length_cons];omega),e,e2]
   have:rE (r::rs) (i-i)=r:=by simp [rE]
   rw [this]
   omega
  ·rw [if_neg (fun c=>e c.1)]
   by_cases c:i+1≤(k:Int)∧(k:Int)<i+1+rs.length
   ·rw [if_pos c,if_pos (by simp only [List.length_cons];omega)]
    have:rE (r::rs) ((k:Int)-i)=rE rs ((k:Int)-(i+1)):=by
     unfold rE
     rw [show ((k:Int)-i).toNat=((k:Int)-(i+1)).toNat+1 by omega]
     simp
    rw [this]
   ·rw [if_neg c,if_neg (by simp only [List.length_cons];omega)]
theorem afG {alive:List Int}(ha:∀a∈alive,0≤a∧a≤80):∀ {l:List Int},(∀m∈l,0≤m∧m<(alive.length:Int))→0≤smA alive l∧smA alive l≤80*l.length
 | [],_=>by simp [smA]
 |m::l,h=>by
  have h1:=afG ha (l:=l) (fun x hx=>h x (by simp [hx]))
  have hm:=h m (by simp)
  have:=ha (gi alive m) (qp hm.1 hm.2)
  rw [SY]
  simp only [List.length_cons]
  omega
theorem zO {α:Type}{l:List α}(p:α→Bool) (h:l.Nodup):(l.filter p).Nodup:=List.Pairwise.filter p h
theorem Ye {cs:List Cd}{gs:List Ch}{o:Int}{k:Nat}:(sW cs gs o k).Nodup:=by
 unfold sW
 refine zO _ ?_
 exact List.Pairwise.map _ (fun a b h=>by omega) List.nodup_range
theorem aqD {gs:List Ch}{p k:Int}{l:List Int}:k∈gX gs p l↔k∈l∧usA (bn gs k).2.2.1 p=true:=by simp [gX,List.mem_filter]
theorem Hf {cs:List Cd}{gs:List Ch}{c p:Int}{r:Rw}(h:r∈rowP cs gs c p):r=(dN (fP cs c),gX gs p (sW cs gs c gs.length))∧(gX gs p (sW cs gs c gs.length)).length>0:=by
 unfold rowP at h
 split at h
 ·simp only [List.mem_singleton] at h;exact ⟨h,by assumption⟩
 ·cases h
theorem Hl {cs:List Cd}{gs:List Ch}{r:Rw}:∀ {k:Nat},r∈jC cs gs k→∃c p:Int,(0≤c∧c<(k:Int))∧(p=0∨p=1∨p=2)∧r=(dN (fP cs c),gX gs p (sW cs gs c gs.length))∧r.2.length>0
 |0,h=>by cases h
 | k+1,h=>by
  rw [jC,List.mem_append] at h
  rcases h with h|h
  ·obtain ⟨c,p,h1,h2,h3⟩:=Hl h
   exact ⟨c,p,⟨h1.1,by omega⟩,h2,h3⟩
  ·unfold anI at h
   rw [List.mem_append,List.mem_append] at h
   rcases h with (h|h) |h
   ·obtain ⟨h1,h2⟩:=Hf h
    exact ⟨k,0,⟨by omega,by omega⟩,by simp,h1,by rw [h1];exact h2⟩
   ·obtain ⟨h1,h2⟩:=Hf h
    exact ⟨k,1,⟨by omega,by omega⟩,by simp,h1,by rw [h1];exact h2⟩
   ·obtain ⟨h1,h2⟩:=Hf h
    exact ⟨k,2,⟨by omega,by omega⟩,by simp,h1,by rw [h1];exact h2⟩
theorem row_mem {cs:List Cd}{gs:List Ch}{r:Rw}{k:Nat}(h:r∈jC cs gs k):r.2.Nodup∧(∀m∈r.2,0≤m∧m<(gs.length:Int))∧r.2.length≤gs.length∧r.2.length>0:=by
 obtain ⟨c,p,h1,h2,h3,h4⟩:=Hl h
 subst h3
 refine ⟨zO _ Ye,fun m hm=>UY (aqD.1 hm).1,Nat.le_trans aqE Jq,h4⟩
def lV (gs:List Ch) (lv:List Int):List Int:=(List.range gs.length).map (fun k:Nat=>vw gs (k:Int) (lv.getD k 0))
def OL (rows:List Rw):List (List Int):=RI (List.replicate 16 []) 0 rows
def SM (alive:List Int) (rows:List Rw):List Int:=RH alive (List.replicate rows.length 0) 0 rows
def rP (cs:List Cd) (os:List ByteArray) (ks:List Ko) (gs:List Ch) (bs:List Ba) (al mo od:List Int):Bool:=fO cs os ks gs bs&&(decide (al.length=gs.length)&&(decide (mo.length=gs.length)&&(al.all uJ&&(mo.all uJ&&mJ od gs.length))))
def shV (rows:List Rw) (gs:List Ch) (al mo od:List Int):List Int:=shl (OL rows) rows gs al mo od 81 1 (SM al rows) (List.replicate al.length 0)
def shE (cs:List Cd) (os:List ByteArray) (ks:List Ko) (gs:List Ch) (bs:List Ba) (al mo od:List Int):Int:=if rP cs os ks gs bs al mo od=true then 0 else 1
def vI (cs:List Cd) (os:List ByteArray) (ks:List Ko) (gs:List Ch) (bs:List Ba) (al mo od:List Int):List Int:=if rP cs os ks gs bs al mo od=true then lV gs (shV (jC cs gs cs.length) gs al mo od) else []
theorem jr {cs:List Cd}{os:List ByteArray}{ks:List Ko}{gs:List Ch}{bs:List Ba}{al mo od:List Int}:rP cs os ks gs bs al mo od=true↔fO cs os ks gs bs=true∧al.length=gs.length∧mo.length=gs.length∧al.all uJ=true∧mo.all uJ=true∧mJ od gs.length=true:=by
 simp [rP]
theorem aiG:∀ {l:List Int}{f:Int},Xv f l≤f
 | [],f=>Int.le_refl _
 |n::l,f=>by
  have:Xv f (n::l)=Xv (if n<f then n else f) l:=rfl
  rw [this]
  have:=aiG (l:=l) (f:=if n<f then n else f)
  split at this<;>rename_i h
  ·rw [if_pos h];omega
  ·rw [if_neg h];exact this
theorem apt {c:Cd}:dN c≤c.2.2.1:=by
 unfold dN
 split<;>exact aiG
theorem DX {rows:List Rw}:(OL rows).length=16:=by rw [OL,GZ,List.length_replicate]
theorem Y8 {rows:List Rw}(h:∀r∈rows,aiA r) {k:Nat}(hk:k<16):(OL rows).getD k []=ofF 0 rows k:=by
 rw [OL,Zm h (by simpa using hk)]
 have:(List.replicate 16 ([]:List Int)).getD k []=[]:=by
  rw [List.getD_eq_getElem?_getD,List.getElem?_replicate]
  split<;>rfl
 rw [this,List.nil_append]
theorem anG {cs:List Cd}{gs:List Ch}{k:Nat}:∀r∈jC cs gs k,aiA r:=fun _ hr=>⟨(row_mem hr).1,fun m hm=>((row_mem hr).2.1 m hm).1⟩
theorem DW {al:List Int}{rows:List Rw}:(SM al rows).length=rows.length:=by rw [SM,GY,List.length_replicate]
theorem aks {al:List Int}{rows:List Rw}{k:Nat}(hk:k<rows.length):(SM al rows).getD k 0=smA al (rE rows k).2:=by
 rw [SM,Zl (Int.le_refl _) (by simpa using hk),if_pos (by omega),Int.sub_zero]
 simp [List.getD,hk]
theorem Du {od:List Int}{n i:Int}(h:mJ od n=true) (hi:i∈od):0≤i∧i<n:=by
 unfold mJ at h
 simp only [Bool.and_eq_true,List.all_eq_true] at h
 exact zK.1 (h.2.1 i hi)
theorem aAI {cs:List Cd}{os:List ByteArray}{ks:List Ko}{gs:List Ch}{bs:List Ba}{al mo od:List Int}(h:rP cs os ks gs bs al mo od=true):OkT (OL (jC cs gs cs.length)) (jC cs gs cs.length) gs al mo od∧OkS (jC cs gs cs.length) od (SM al (jC cs gs cs.length)) (List.replicate al.length 0):=by
 obtain ⟨hv,h1,h2,h3,h4,h5⟩:=jr.1 h
 have hl:=(gW.1 hv).1
 have ha:∀a∈al,0≤a∧a≤80:=fun a ha=>oL.1 (List.all_eq_true.1 h3 a ha)
 refine ⟨⟨DX,fun i hi=>?_,ha,fun a ha=>oL.1 (List.all_eq_true.1 h4 a ha),fun i hi=>?_,fun o ho=>?_,fun r hr=>?_⟩,⟨DW,fun k=>?_,fun i hi=>?_,fun k=>?_⟩⟩
 ·have:=Du h5 hi
  omega
 ·have hi:=Du h5 hi
  have:=sH hv hi.1 hi.2
  unfold Gt chW at this
  simp only [Bool.and_eq_true,dB] at this
  exact eX.2 (by omega)
 ·obtain ⟨k,hk,rfl⟩:=List.mem_iff_getElem.1 ho
  rw [DX] at hk
  have e:=Y8 (rows:=jC cs gs cs.length) anG hk
  rw [List.getD_eq_getElem?_getD,List.getElem?_eq_getElem (by rw [DX];exact hk),Option.getD_some] at e
  rw [e]
  have hln:=aaH (rs:=jC cs gs cs.length) (i:=0) (j:=k)
  have hrn:=zJ (cs:=cs) (gs:=gs) (k:=cs.length)
  refine ⟨xC,by omega,fun r hr=>?_⟩
  have:=uj.1 hr
  omega
 ·obtain ⟨c,p,hc,hp,rfl,_⟩:=Hl hr
  have hcv:=S9 hv hc.1 hc.2
  unfold Ew at hcv
  simp only [Bool.and_eq_true,dB] at hcv
  have:=apt (c:=fP cs c)
  simp only
  omega
 ·by_cases hk:k<(jC cs gs cs.length).length
  ·rw [aks hk]
   have hr:rE (jC cs gs cs.length) (k:Int)∈jC cs gs cs.length:=by rw [DC (by simpa using hk)];exact List.getElem_mem _
   obtain ⟨m1,m2,m3,_⟩:=row_mem hr
   have:=afG ha (l:=(rE (jC cs gs cs.length) (k:Int)).2) (fun m hm=>by have:=m2 m hm;omega)
   omega
  ·rw [List.getD_eq_getElem?_getD,List.getElem?_eq_none (by rw [DW];omega)]
   simp
 ·have:=Du h5 hi
  rw [List.length_replicate]
  omega
 ·have:(List.replicate al.length (0:Int)).getD k 0=0:=by
   simp only [List.getD,List.getElem?_replicate]
   split<;>rfl
  rw [this]
  omega
theorem aak {xs:List Int}{r:Nat}{v:Int}:(xs++List.replicate (r+1) 0).set xs.length v=xs++[v]++List.replicate r 0:=by
 rw [List.set_append_right _ _ (Nat.le_refl _),Nat.sub_self,List.replicate_succ,List.set_cons_zero,List.append_assoc,List.singleton_append]
def Yk (gs:List Ch) (lv:List Int) (n:Nat):List Int:=(List.range n).map (fun k:Nat=>vw gs (k:Int) (lv.getD k 0))
theorem aeZ {gs:List Ch}{lv:List Int}{n:Nat}:Yk gs lv (n+1)=Yk gs lv n++[vw gs (n:Int) (lv.getD n 0)]:=by
 simp [Yk,List.range_succ]
theorem wH {gs:List Ch}{lv:List Int}{n:Nat}:(Yk gs lv n).length=n:=by simp [Yk]
end Go.Proofs.YtlihnbimgclogaaGreatDoor
namespace Go.Proofs.YtlihnbimgclogaaGreatDoor
open Go.Sx
theorem ntW {b:Bool}(h:(!b)=true):b=false:=by cases b<;>simp_all
theorem OY {b:Bool}(h:(!b)=false):b=true:=by cases b<;>simp_all
def wt (n:Int):Int:=(n*1000000+999799) / 999800
def wtA (n:Int):Int:=if inB n 0 1000000=true then wt n else 0
def wtE (n:Int):Int:=if inB n 0 1000000=true then 0 else 1
theorem afh {m n:Int}:m*999800 / 1000000≥n↔wt n≤m:=by
 unfold wt
 omega
theorem aEJ {a b:Int}(a0:0≤a) (a1:a≤3000000) (b0:0≤b) (b1:b≤1000000):0≤a*b∧a*b≤3000000000000:=
 ⟨Int.mul_nonneg a0 b0,Int.le_trans (Int.mul_le_mul_of_nonneg_left b1 a0) (by omega)⟩
theorem aqY {n:Int}(h0:0≤n):0≤wt n∧wt n≤2*n+2:=by
 unfold wt
 omega
abbrev ig:Ty:=.pair (.int .i64) (.pair (.int .i64) (.pair (.int .i64) (.pair (.int .i64) (.int .i64))))
abbrev Le:=Int×Int×Int×Int×Int
def fQ (l:List Le) (n:Int):Le:=l.getD n.toNat (0,0,0,0,0)
def KA (x:Le):Bool:=inB x.1 1 1000000&&(inB x.2.1 0 15&&(inB x.2.2.1 0 80&&(inB x.2.2.2.1 0 1000000&&inB x.2.2.2.2 1 1000)))
def Ak (b x:Le):Bool:=decide (x.1>b.1)&&decide (x.2.2.2.1≥b.2.2.2.1)
def jD (l:List Le) (j:Int):Bool:=KA (fQ l j)&&(decide (j=0) ||Ak (fQ l (j-1)) (fQ l j))
def gK (l:List Le):Bool:=decide (l.length≤64)&&KE l.length (jD l)
theorem uF {l:List Le}{n:Int}(h:n.toNat<l.length):fQ l n=l[n.toNat]:=vZ h
theorem wz {l:List Le}{i:Int}(h0:0≤i) (h:i<l.length):l.drop i.toNat=fQ l i::l.drop (i+1).toNat∧l.take (i+1).toNat=l.take i.toNat++[fQ l i]:=uz h0 h
theorem xM {l:List Le}{i:Int}(h0:0≤i) (h:i<l.length):fQ l i∈l:=by
 rw [uF (by omega)]
 exact List.getElem_mem _
theorem Gl {x:Le}:KA x=true↔(1≤x.1∧x.1≤1000000)∧(0≤x.2.1∧x.2.1≤15)∧(0≤x.2.2.1∧x.2.2.1≤80)∧(0≤x.2.2.2.1∧x.2.2.2.1≤1000000)∧1≤x.2.2.2.2∧x.2.2.2.2≤1000:=by
 unfold KA
 simp only [Bool.and_eq_true,dB]
theorem kH {l:List Le}(h:gK l=true):l.length≤64∧∀x∈l,KA x=true:=by
 unfold gK at h
 rw [Bool.and_eq_true] at h
 refine ⟨of_decide_eq_true h.1,fun x hx=>?_⟩
 obtain ⟨k,hk,rfl⟩:=List.mem_iff_getElem.1 hx
 have:=fE.1 h.2 k (by omega)
 unfold jD at this
 rw [Bool.and_eq_true,uF (by simpa using hk)] at this
 simpa using this.1
def QF (x:Le):Int:=x.2.2.2.1+10+wt x.2.2.2.2
def aeS (t:Int) (x:Le):Bool:=decide (QF x>t)
def Jf (l:List Le) (t:Int):Bool:=gK l&&inB t 0 1100000
def Jg (l:List Le) (t:Int):List Le:=if Jf l t=true then l.filter (aeS t) else []
def aeR (l:List Le) (t:Int):Int:=if Jf l t=true then 0 else 1
def Ac (l:List Le) (x:Le):Int:=if (gK l&&KA x)=true then (if (decide (l.length>0)&&!Ak (fQ l ((l.length:Int)-1)) x)=true then 12 else if l.length=64 then 10 else 0) else 1
def Qw (l:List Le) (x:Le):List Le:=if Ac l x=0 then l++[x] else []
end Go.Proofs.YtlihnbimgclogaaGreatDoor
namespace Go.Proofs.YtlihnbimgclogaaGreatDoor
open Go.Sx
def KJ (ph mn mx st fb:Int):Bool:=inB ph 1 7&&(inB mn 1 80&&(inB mx 1 80&&(inB st 1 80&&(decide (mn≤mx)&&(fb==0 ||inB fb mn mx)))))
theorem Gu {ph mn mx st fb:Int}:KJ ph mn mx st fb=true↔1≤ph∧ph≤7∧1≤mn∧mn≤80∧1≤mx∧mx≤80∧1≤st∧st≤80∧mn≤mx∧(fb=0∨(mn≤fb∧fb≤mx)):=by
 simp [KJ,inB];omega
def kV (mn mx st a:Int):Int:=if a<mn then 0 else min a mx-(min a mx-mn) %st
theorem uH {x s:Int}(hx:0≤x) (hs:1≤s):0≤x%s∧x%s≤x∧x%s<s:=by
 have h1:=Int.mul_ediv_add_emod x s
 have h2:0≤x / s:=Int.ediv_nonneg hx (by omega)
 have h3:0≤s*(x / s):=Int.mul_nonneg (by omega) h2
 have h4:=Int.emod_nonneg x (b:=s) (by omega)
 have h5:=Int.emod_lt_of_pos x (b:=s) (by omega)
 omega
theorem nR {mn mx st a:Int}(h1:1≤mn) (h2:mn≤mx) (h3:mx≤80) (h4:1≤st):0≤kV mn mx st a∧kV mn mx st a≤80∧(a<mn→kV mn mx st a=0)∧(mn≤a→mn≤kV mn mx st a∧kV mn mx st a≤a∧kV mn mx st a≤mx):=by
 unfold kV
 split
 ·omega
 ·have e1:=uH (x:=min a mx-mn) (s:=st) (by omega) h4
  omega
def sU (mn mx st:Int):Prop:=1≤mn∧mn≤mx∧mx≤80∧1≤st∧st≤80
theorem X7 {ph mn mx st fb:Int}(h:KJ ph mn mx st fb=true):sU mn mx st:=by
 rw [Gu] at h;unfold sU;omega
def D5 (ph mn mx st fb a s:Int):Bool:=KJ ph mn mx st fb&&(decide (0≤s)&&(decide (s≤1000000)&&(decide (0≤a)&&(kV mn mx st a==a))))
def okB (ph mn mx st fb a s want:Int):Bool:=D5 ph mn mx st fb a s&&(decide (0≤want)&&decide (want≤80))
def nE (ph mn mx st fb a s want:Int):Int:=if okB ph mn mx st fb a s want then 0 else 1
def nA (ph mn mx st fb a s want:Int):Int:=
 if okB ph mn mx st fb a s want then (if a=0 then (if kV mn mx st want≠0∧5≤s then mn else 0) else if kV mn mx st want=0 then 0 else min (kV mn mx st want) (a+st)) else 0
def nS (ph mn mx st fb a s want:Int):Int:=
 if okB ph mn mx st fb a s want then (if a=0 then (if kV mn mx st want≠0∧5≤s then 0 else min (s+1) 1000000) else if kV mn mx st want=0 then 0 else min (s+1) 1000000) else 0
theorem aaW (x y:Int):(if y<x then y else x)=min x y:=by omega
theorem ax2 {mn mx st am:Int}(h:am<mn):0=kV mn mx st am:=by rw [kV,if_pos h]
theorem ax1 {mn mx st am:Int}(hc:sU mn mx st) (h:mn≤am):IntKind.i64.wrap ((if mx<am then mx else am)-(IntKind.i64.wrap ((if mx<am then mx else am)-mn)).tmod st)=kV mn mx st am:=by
 unfold sU at hc
 rw [aaW]
 have e1:=uH (x:=min am mx-mn) (s:=st) (by omega) (by omega)
 rw [aK (x:=min am mx-mn) (by omega) (by omega),Int.tmod_eq_emod_of_nonneg (by omega),aK (by omega) (by omega),kV,if_neg (by omega)]
theorem aEG {ph mn mx st fb a s:Int}(h:((!KJ ph mn mx st fb) ||(decide (s<0) ||(decide (s>1000000) ||decide (a<0))))=true):false=D5 ph mn mx st fb a s:=by
 cases hr:D5 ph mn mx st fb a s
 ·rfl
 ·simp [D5] at hr h
  rw [hr.1] at h
  simp at h
  omega
theorem aAz {ph mn mx st fb a s:Int}(h:((!KJ ph mn mx st fb) ||(decide (s<0) ||(decide (s>1000000) ||decide (a<0))))=false):sU mn mx st∧(kV mn mx st a==a)=D5 ph mn mx st fb a s:=by
 simp at h
 obtain ⟨h1,h2,h3,h4⟩:=h
 exact ⟨X7 h1,by simp [D5,h1,h2,h3,h4]⟩
theorem aaG {ph mn mx st fb a s want:Int}(h:okB ph mn mx st fb a s want=true):(!D5 ph mn mx st fb a s ||(decide (want<0) ||decide (want>80)))=false∧sU mn mx st∧(0≤s∧s≤1000000)∧(0≤want∧want≤80)∧0≤a∧a≤80∧1≤st∧st≤80:=by
 simp only [okB,D5,Bool.and_eq_true,decide_eq_true_eq,beq_iff_eq] at h
 obtain ⟨⟨h1,h2,h3,h4,h5⟩,h6,h7⟩:=h
 have hc:=X7 h1
 have hc':=hc
 unfold sU at hc'
 have:=nR (a:=a) hc'.1 hc'.2.1 hc'.2.2.1 hc'.2.2.2.1
 refine ⟨?_,hc,⟨h2,h3⟩,⟨h6,h7⟩,h4,by omega,hc'.2.2.2.1,hc'.2.2.2.2⟩
 simp [D5,h1,h2,h3,h4,h5];omega
theorem an4 {ph mn mx st fb a s want:Int}(h:¬okB ph mn mx st fb a s want=true):(!D5 ph mn mx st fb a s ||(decide (want<0) ||decide (want>80)))=true:=by
 cases hr:D5 ph mn mx st fb a s
 ·rfl
 ·simp [okB,hr] at h⊢;omega
theorem aEF {ph mn mx st fb:Int}(h:(decide (ph<1) ||(decide (ph>7) ||(decide (mn<1) ||(decide (mx>80) ||(decide (mn>mx) ||(decide (st<1) ||decide (st>80)))))))=true):false=KJ ph mn mx st fb:=by
 cases hc:KJ ph mn mx st fb
 ·rfl
 ·rw [Gu] at hc;simp at h;omega
theorem aEE {ph mn mx st fb:Int}(h:(decide (ph<1) ||(decide (ph>7) ||(decide (mn<1) ||(decide (mx>80) ||(decide (mn>mx) ||(decide (st<1) ||decide (st>80)))))))=false):(fb==0 ||(decide (fb≥mn)&&decide (fb≤mx)))=KJ ph mn mx st fb:=by
 simp at h
 cases hc:KJ ph mn mx st fb
 ·cases hf:(fb==0 ||(decide (fb≥mn)&&decide (fb≤mx)))
  ·rfl
  ·have:KJ ph mn mx st fb=true:=Gu.2 (by simp at hf;omega)
   rw [this] at hc;cases hc
 ·rw [Gu] at hc;simp;omega
def Qs (mn mx st am lv x:Int):Prop:=
 sU mn mx st∧mn≤x∧x≤mx+st∧(x-mn) %st=0∧((lv=0∧(x=mn∨am<mn))∨(mn≤lv∧lv≤am∧lv+st≤x∧(lv-mn) %st=0∧(lv+st=x∨am<lv+st)))
theorem XE {mn mx st am:Int}(h:sU mn mx st):Qs mn mx st am 0 mn:=by
 unfold Qs
 refine ⟨h,Int.le_refl _,by unfold sU at h;omega,by simp,.inl ⟨rfl,.inl rfl⟩⟩
theorem aeG {mn mx st am lv x:Int}(h:Qs mn mx st am lv x) (hx:x≤mx):Qs mn mx st am (if x≤am then x else lv) (x+st):=by
 unfold Qs at h⊢
 obtain ⟨h1,h2,h3,h4,h5⟩:=h
 have e:(x+st-mn) %st=0:=by rw [show x+st-mn=(x-mn)+st by omega,Int.add_emod_right];exact h4
 have h1':=h1
 unfold sU at h1'
 refine ⟨h1,by omega,by omega,e,?_⟩
 split
 ·exact .inr ⟨h2,by omega,by omega,h4,.inl rfl⟩
 ·rcases h5 with h5|h5
  ·refine .inl ⟨h5.1,.inr (by omega)⟩
  ·exact .inr ⟨h5.1,h5.2.1,by omega,h5.2.2.2.1,.inr (by omega)⟩
theorem aiK {mn mx st am lv x:Int}(h:Qs mn mx st am lv x) (hx:mx<x):lv=kV mn mx st am:=by
 unfold Qs sU at h
 obtain ⟨h1,h2,h3,h4,h5⟩:=h
 unfold kV
 rcases h5 with ⟨h5,h6⟩ |⟨h5,h6,h7,h8,h9⟩
 ·rw [if_pos (by omega)];exact h5
 ·rw [if_neg (by omega)]
  have e:(min am mx-mn) %st=min am mx-lv:=by
   rw [show min am mx-mn=(min am mx-lv)+(lv-mn) by omega,Int.add_emod,h8,Int.add_zero,Int.emod_emod_of_dvd _ (Int.dvd_refl _)]
   exact Int.emod_eq_of_lt (by omega) (by omega)
  rw [e];omega
end Go.Proofs.YtlihnbimgclogaaGreatDoor
namespace Go.Proofs.YtlihnbimgclogaaGreatDoor
open Go.Sx
def XK:Nat→Int
 |0=>1
 |1=>1
 |2=>1
 |3=>0
 |4=>2
 |5=>2
 |_=>3
def aS:bW:=fun
 |0=>some (8,fun j=> .int .i64 (XK j))
 |_=>none
end Go.Proofs.YtlihnbimgclogaaGreatDoor
namespace Go.Proofs.YtlihnbimgclogaaGreatDoor
open Go.Sx
def MR:List LV→T LV
 | [.v (.int .i64 n),.v (.int .i64 a),.v (.int .i64 b)]=> .ok (.v (.bool (inB n a b)))
 |_=> .no
noncomputable def wL:List LV→T LV:=gQ Tryz.prog Tryz.f140.params.toList MR
noncomputable def yC:Specs:=aZ []
theorem Ad:∀g S,yC g=some S→Valid Tryz.prog aS g S:=aT (l:=[]) trivial
theorem aeA (n a b:Int):bV Tryz.prog aS (yC) dZ aC Tryz.f140 [.v (.int .i64 n),.v (.int .i64 a),.v (.int .i64 b)]=.ok (.v (.bool ((decide (n≥a))&&(decide (n≤b))))):=by kernel_rfl
theorem RG:Valid Tryz.prog aS 140 wL:=aH Tryz.func140 rfl Ad aF (aX (by kernel_rfl)) (fun args lv h=>by
 unfold MR at h
 split at h
 ·simp only [canL,canX]
  rw [aeA]
  exact h
 ·cases h)
def aku:List LV→T LV
 | [.v (.agg ⟨[.string _,.int .i64 _,.int .i64 ph,.int .i64 mn,.int .i64 mx,.int .i64 st,.int .i64 fb,.int .i64 _]⟩)]=> .ok (.v (.bool (KJ ph mn mx st fb)))
 |_=> .no
noncomputable def akf:List LV→T LV:=gQ Tryz.prog Tryz.f139.params.toList aku
noncomputable def asu:Specs:=aZ [(140,wL)]
theorem aBy:∀g S,asu g=some S→Valid Tryz.prog aS g S:=aT (l:=[(140,wL)]) ⟨RG,trivial⟩
theorem awz (nm:ByteArray) (at_ ph mn mx st fb ow:Int):bV Tryz.prog aS (asu) dZ aC Tryz.f139 [.v (.agg #[.string nm,.int .i64 at_,.int .i64 ph,.int .i64 mn,.int .i64 mx,.int .i64 st,.int .i64 fb,.int .i64 ow])]=.ok (.v (.bool ((inB ph (1:Int) (7:Int))&&((inB mn (1:Int) (80:Int))&&((inB mx (1:Int) (80:Int))&&((inB st (1:Int) (80:Int))&&((decide (mn≤mx))&&((fb==0) ||(inB fb mn mx))))))))):=by kernel_rfl
theorem azz:Valid Tryz.prog aS 139 akf:=aH Tryz.func139 rfl aBy aF (aX (by kernel_rfl)) (fun args lv h=>by
 unfold aku at h
 split at h
 ·simp only [canL,canX]
  rw [awz]
  exact h
 ·cases h)
def U8:List LV→T LV
 | []=> .ok (.v (.agg #[.int .i64 0,.int .i64 0,.int .i64 0,.bool false]))
 |_=> .no
noncomputable def CB:List LV→T LV:=gQ Tryz.prog Tryz.f114.params.toList U8
theorem ail  :bV Tryz.prog aS (yC) dZ aC Tryz.f114 []=.ok (.v (.agg #[.int .i64 0,.int .i64 0,.int .i64 0,.bool false])):=by kernel_rfl
theorem Zg:Valid Tryz.prog aS 114 CB:=aH Tryz.func114 rfl Ad aF (aX (by kernel_rfl)) (fun args lv h=>by
 unfold U8 at h
 split at h
 ·simp only [canL]
  rw [ail]
  exact h
 ·cases h)
def akL:List LV→T LV
 | [.v (.agg ⟨[.string _,.int .i64 _,.int .i64 ph,.int .i64 mn,.int .i64 mx,.int .i64 st,.int .i64 fb,.int .i64 _]⟩),.v (.agg ⟨[.int .i64 0,.int .i64 0,.int .i64 0,.bool false]⟩)]=> .ok (.v (.bool (KJ ph mn mx st fb)))
 |_=> .no
noncomputable def akr:List LV→T LV:=gQ Tryz.prog Tryz.f113.params.toList akL
noncomputable def ast:Specs:=aZ [(114,CB),(139,akf),(140,wL)]
theorem aBx:∀g S,ast g=some S→Valid Tryz.prog aS g S:=aT (l:=[(114,CB),(139,akf),(140,wL)]) ⟨Zg,azz,RG,trivial⟩
theorem awS (nm:ByteArray) (at_ ph mn mx st fb ow:Int):bV Tryz.prog aS (ast) dZ aC Tryz.f113 [.v (.agg #[.string nm,.int .i64 at_,.int .i64 ph,.int .i64 mn,.int .i64 mx,.int .i64 st,.int .i64 fb,.int .i64 ow]),.v (.agg #[.int .i64 0,.int .i64 0,.int .i64 0,.bool false])]=.br (!(KJ ph mn mx st fb)) (.ok (.v (.bool false))) (.br (((0:Int)==0)&&(((0:Int)==0)&&(((0:Int)==0)&&(false==false)))) (.ok (.v (.bool true))) (.ok (.v (.bool ((inB (0:Int) (0:Int) (5:Int))&&((inB (0:Int) (0:Int) (1000000:Int))&&((inB (0:Int) (0:Int) mx)&&(if (0:Int) !=0 then (!false) ||((0:Int)==5) else ((0:Int)==0)&&((!false) ||((0:Int)==5)))))))))):=by kernel_rfl
theorem azL:Valid Tryz.prog aS 113 akr:=aH Tryz.func113 rfl aBx aF (aX (by kernel_rfl)) (fun args lv h=>by
 unfold akL at h
 split at h
 ·simp only [canL,canX]
  rw [awS]
  obtain rfl:=h
  refine ⟨fun hb=>?_,fun hb=>⟨fun _=>?_,fun hf=>absurd hf (by decide)⟩⟩
  ·show LV.v (.bool false)=_
   rw [show KJ _ _ _ _ _=false by simpa using hb]
  ·show LV.v (.bool true)=_
   rw [show KJ _ _ _ _ _=true by simpa using hb]
 ·cases h)
def acW:List LV→T LV
 | [.v (.agg ⟨[.string _,.int .i64 _,.int .i64 _,.int .i64 mn,.int .i64 mx,.int .i64 st,.int .i64 _,.int .i64 _]⟩),.v (.int .i64 am)]=> .req (sU mn mx st) (.ok (.v (.int .i64 (kV mn mx st am))))
 |_=> .no
noncomputable def JF:List LV→T LV:=gQ Tryz.prog Tryz.f73.params.toList acW
theorem aoD (nm:ByteArray) (at_ ph mn mx st fb ow am:Int):bV Tryz.prog aS (yC) dZ aC Tryz.f73 [.v (.agg #[.string nm,.int .i64 at_,.int .i64 ph,.int .i64 mn,.int .i64 mx,.int .i64 st,.int .i64 fb,.int .i64 ow]),.v (.int .i64 am)]=.br (decide (am<mn)) (.ok (.v (.int .i64 0))) (.req (st≠0) (.ok (.v (.int .i64 (IntKind.i64.wrap ((if mx<am then mx else am)-((IntKind.i64.wrap ((if mx<am then mx else am)-mn)).tmod st))))))):=by kernel_rfl
theorem afs:Valid Tryz.prog aS 73 JF:=aH Tryz.func73 rfl Ad aF (aX (by kernel_rfl)) (fun args lv h=>by
 unfold acW at h
 split at h
 ·simp only [canL,canX]
  rw [aoD]
  obtain ⟨hc,rfl⟩:=h
  refine ⟨fun hb=>?_,fun hb=>⟨by unfold sU at hc;omega,?_⟩⟩
  ·exact congrArg (fun z=>LV.v (.int .i64 z)) (ax2 (by simpa using hb))
  ·exact congrArg (fun z=>LV.v (.int .i64 z)) (ax1 hc (by simpa using hb))
 ·cases h)
def aky:List LV→T LV
 | [.v (.agg ⟨[.string _,.int .i64 _,.int .i64 ph,.int .i64 mn,.int .i64 mx,.int .i64 st,.int .i64 fb,.int .i64 _]⟩),.v (.agg ⟨[.int .i64 a,.int .i64 si]⟩)]=> .ok (.v (.bool (D5 ph mn mx st fb a si)))
 |_=> .no
noncomputable def U4:List LV→T LV:=gQ Tryz.prog Tryz.f69.params.toList aky
noncomputable def asr:Specs:=aZ [(73,JF),(113,akr),(114,CB)]
theorem aBw:∀g S,asr g=some S→Valid Tryz.prog aS g S:=aT (l:=[(73,JF),(113,akr),(114,CB)]) ⟨afs,azL,Zg,trivial⟩
theorem awF (nm:ByteArray) (at_ ph mn mx st fb ow a si:Int):bV Tryz.prog aS (asr) dZ aC Tryz.f69 [.v (.agg #[.string nm,.int .i64 at_,.int .i64 ph,.int .i64 mn,.int .i64 mx,.int .i64 st,.int .i64 fb,.int .i64 ow]),.v (.agg #[.int .i64 a,.int .i64 si])]=.br ((!(KJ ph mn mx st fb)) ||((decide (si<0)) ||((decide (si>1000000)) ||(decide (a<0))))) (.ok (.v (.bool false))) (.req (sU mn mx st) (.ok (.v (.bool ((kV mn mx st a)==a))))):=by kernel_rfl
theorem aq1:Valid Tryz.prog aS 69 U4:=aH Tryz.func69 rfl aBw aF (aX (by kernel_rfl)) (fun args lv h=>by
 unfold aky at h
 split at h
 ·simp only [canL,canX]
  rw [awF]
  obtain rfl:=h
  refine ⟨fun hb=>?_,fun hb=>⟨?_,?_⟩⟩
  ·exact congrArg (fun z=>LV.v (.bool z)) (aEG hb)
  ·exact (aAz hb).1
  ·exact congrArg (fun z=>LV.v (.bool z)) (aAz hb).2
 ·cases h)
def Vh:List LV→T LV
 | [.v (.bool b)]=> .ok (.v (.int .i64 (if b then (1:Int) else 0)))
 |_=> .no
noncomputable def QZ:List LV→T LV:=gQ Tryz.prog Tryz.f78.params.toList Vh
theorem ais (b:Bool):bV Tryz.prog aS (yC) dZ aC Tryz.f78 [.v (.bool b)]=.br b (.ok (.v (.int .i64 1))) (.ok (.v (.int .i64 0))):=by kernel_rfl
theorem al3:Valid Tryz.prog aS 78 QZ:=aH Tryz.func78 rfl Ad aF (aX (by kernel_rfl)) (fun args lv h=>by
 unfold Vh at h
 split at h
 ·simp only [canL,canX]
  rw [ais]
  rename_i b
  obtain rfl:=h
  cases b
  ·exact ⟨fun hb=>(by cases hb),fun _=>rfl⟩
  ·exact ⟨fun _=>rfl,fun hb=>(by cases hb)⟩
 ·cases h)
def akD:List LV→T LV
 | [.xq 8 q0]=>(match ([q0 0,q0 1,q0 2,q0 3,q0 4,q0 5,q0 6,q0 7]:List LV) with
  | [.v (.string _),.v (.int .i64 _),.v (.int .i64 _),.v (.int .i64 mn),.v (.int .i64 _),.v (.int .i64 _),.v (.int .i64 _),.v (.int .i64 _)]=> .ok (.v (.agg #[.int .i64 mn,.int .i64 0]))
  |_=> .no)
 |_=> .no
noncomputable def akn:List LV→T LV:=gQ Tryz.prog Tryz.f74.params.toList akD
theorem awK (nm:ByteArray) (at_ ph mn mx st fb ow:Int):bV Tryz.prog aS (yC) dZ aC Tryz.f74 [.xq 8 (fun j=>([.v (.string nm),.v (.int .i64 at_),.v (.int .i64 ph),.v (.int .i64 mn),.v (.int .i64 mx),.v (.int .i64 st),.v (.int .i64 fb),.v (.int .i64 ow)]:List LV).getD j .junk)]=.ok (.v (.agg #[.int .i64 mn,.int .i64 0])):=by kernel_rfl
theorem azH:Valid Tryz.prog aS 74 akn:=aH Tryz.func74 rfl Ad aF (aX (by kernel_rfl)) (fun args lv h=>by
 unfold akD at h
 split at h
 ·split at h
  case h_2=>cases h
  rename_i heq0
  simp only [canL,canX]
  rw [pq (n:=8) heq0]
  simp only [canL,canX]
  rw [awK]
  exact h
 ·cases h)
def akC:List LV→T LV
 | [.xq 1 q0]=>(match ([q0 0]:List LV) with
  | [.v (.int .i64 lo)]=> .ok (.v (.agg #[.int .i64 0,.int .i64 lo]))
  |_=> .no)
 |_=> .no
noncomputable def akm:List LV→T LV:=gQ Tryz.prog Tryz.f75.params.toList akC
theorem awJ (lo:Int):bV Tryz.prog aS (yC) dZ aC Tryz.f75 [.xq 1 (fun j=>([.v (.int .i64 lo)]:List LV).getD j .junk)]=.ok (.v (.agg #[.int .i64 0,.int .i64 lo])):=by kernel_rfl
theorem azG:Valid Tryz.prog aS 75 akm:=aH Tryz.func75 rfl Ad aF (aX (by kernel_rfl)) (fun args lv h=>by
 unfold akC at h
 split at h
 ·split at h
  case h_2=>cases h
  rename_i heq0
  simp only [canL,canX]
  rw [pq (n:=1) heq0]
  simp only [canL,canX]
  rw [awJ]
  exact h
 ·cases h)
def akB:List LV→T LV
 | []=> .ok (.v (.agg #[.int .i64 0,.int .i64 0]))
 |_=> .no
noncomputable def akl:List LV→T LV:=gQ Tryz.prog Tryz.f76.params.toList akB
theorem awI  :bV Tryz.prog aS (yC) dZ aC Tryz.f76 []=.ok (.v (.agg #[.int .i64 0,.int .i64 0])):=by kernel_rfl
theorem azF:Valid Tryz.prog aS 76 akl:=aH Tryz.func76 rfl Ad aF (aX (by kernel_rfl)) (fun args lv h=>by
 unfold akB at h
 split at h
 ·simp only [canL]
  rw [awI]
  exact h
 ·cases h)
def akA:List LV→T LV
 | [.xq 1 q0,.xq 2 q1,.xq 8 q2,.xq 1 q3]=>(match ([q0 0]:List LV) with
  | [.v (.int .i64 lv)]=>(match ([q1 0,q1 1]:List LV) with
  | [.v (.int .i64 a),.v (.int .i64 _)]=>(match ([q2 0,q2 1,q2 2,q2 3,q2 4,q2 5,q2 6,q2 7]:List LV) with
  | [.v (.string _),.v (.int .i64 _),.v (.int .i64 _),.v (.int .i64 _),.v (.int .i64 _),.v (.int .i64 st),.v (.int .i64 _),.v (.int .i64 _)]=>(match ([q3 0]:List LV) with
  | [.v (.int .i64 lo)]=> .ok (.v (.agg #[.int .i64 (if IntKind.i64.wrap (a+st)<lv then IntKind.i64.wrap (a+st) else lv),.int .i64 lo]))
  |_=> .no)
  |_=> .no)
  |_=> .no)
  |_=> .no)
 |_=> .no
noncomputable def akk:List LV→T LV:=gQ Tryz.prog Tryz.f77.params.toList akA
theorem awH (lv a si:Int) (nm:ByteArray) (at_ ph mn mx st fb ow lo:Int):bV Tryz.prog aS (yC) dZ aC Tryz.f77 [.xq 1 (fun j=>([.v (.int .i64 lv)]:List LV).getD j .junk),.xq 2 (fun j=>([.v (.int .i64 a),.v (.int .i64 si)]:List LV).getD j .junk),.xq 8 (fun j=>([.v (.string nm),.v (.int .i64 at_),.v (.int .i64 ph),.v (.int .i64 mn),.v (.int .i64 mx),.v (.int .i64 st),.v (.int .i64 fb),.v (.int .i64 ow)]:List LV).getD j .junk),.xq 1 (fun j=>([.v (.int .i64 lo)]:List LV).getD j .junk)]=.ok (.v (.agg #[.int .i64 (if (IntKind.i64.wrap (a+st))<lv then IntKind.i64.wrap (a+st) else lv),.int .i64 lo])):=by kernel_rfl
theorem azE:Valid Tryz.prog aS 77 akk:=aH Tryz.func77 rfl Ad aF (aX (by kernel_rfl)) (fun args lv h=>by
 unfold akA at h
 split at h
 ·split at h
  case h_2=>cases h
  rename_i heq0
  split at h
  case h_2=>cases h
  rename_i heq1
  split at h
  case h_2=>cases h
  rename_i heq2
  split at h
  case h_2=>cases h
  rename_i heq3
  simp only [canL,canX]
  rw [pq (n:=1) heq0]
  simp only [canL,canX]
  rw [pq (n:=2) heq1]
  simp only [canL,canX]
  rw [pq (n:=8) heq2]
  simp only [canL,canX]
  rw [pq (n:=1) heq3]
  simp only [canL,canX]
  rw [awH]
  exact h
 ·cases h)
theorem axg {a l si:Int}:XK ((if (a !=0) then (1:Int) else 0).toNat*4+((if (l !=0) then (1:Int) else 0).toNat*2+((if (decide (si≥5)) then (1:Int) else 0).toNat*1+0)))=if a=0 then (if l=0 then 1 else if 5≤si then 0 else 1) else if l=0 then 2 else 3:=by
 by_cases c1:a=0<;>by_cases c2:l=0<;>by_cases c3:5≤si<;>simp [c1,c2,c3,XK]
def ac7:List LV→T LV
 | [.v (.agg ⟨[.string _,.int .i64 _,.int .i64 ph,.int .i64 mn,.int .i64 mx,.int .i64 st,.int .i64 fb,.int .i64 _]⟩),.v (.agg ⟨[.int .i64 a,.int .i64 si]⟩),.v (.int .i64 want)]=> .ok (.v (.tuple #[.agg #[.int .i64 (nA ph mn mx st fb a si want),.int .i64 (nS ph mn mx st fb a si want)],.int .i64 (nE ph mn mx st fb a si want)]))
 |_=> .no
noncomputable def YJ:List LV→T LV:=gQ Tryz.prog Tryz.f37.params.toList ac7
noncomputable def asq:Specs:=aZ [(69,U4),(73,JF),(74,akn),(75,akm),(76,akl),(77,akk),(78,QZ)]
theorem aBv:∀g S,asq g=some S→Valid Tryz.prog aS g S:=aT (l:=[(69,U4),(73,JF),(74,akn),(75,akm),(76,akl),(77,akk),(78,QZ)]) ⟨aq1,afs,azH,azG,azF,azE,al3,trivial⟩
theorem aoO (nm:ByteArray) (at_ ph mn mx st fb ow a si want:Int):bV Tryz.prog aS (asq) dZ aC Tryz.f37 [.v (.agg #[.string nm,.int .i64 at_,.int .i64 ph,.int .i64 mn,.int .i64 mx,.int .i64 st,.int .i64 fb,.int .i64 ow]),.v (.agg #[.int .i64 a,.int .i64 si]),.v (.int .i64 want)]=.br ((!(D5 ph mn mx st fb a si)) ||((decide (want<0)) ||(decide (want>80)))) (.ok (.v (.tuple #[.agg #[.int .i64 0,.int .i64 0],.int .i64 1]))) (.req (sU mn mx st) (.req (0≤(if (a !=0) then (1:Int) else 0)∧(if (a !=0) then (1:Int) else 0)<(2:Int)) (.req (0≤(if ((kV mn mx st want) !=0) then (1:Int) else 0)∧(if ((kV mn mx st want) !=0) then (1:Int) else 0)<(2:Int)) (.req (0≤(if (decide (si≥5)) then (1:Int) else 0)∧(if (decide (si≥5)) then (1:Int) else 0)<(2:Int)) (.br ((XK ((if (a !=0) then (1:Int) else 0).toNat*4+((if ((kV mn mx st want) !=0) then (1:Int) else 0).toNat*2+((if (decide (si≥5)) then (1:Int) else 0).toNat*1+0))))==0) (.ok (.v (.tuple #[.agg #[.int .i64 mn,.int .i64 0],.int .i64 0]))) (.br ((XK ((if (a !=0) then (1:Int) else 0).toNat*4+((if ((kV mn mx st want) !=0) then (1:Int) else 0).toNat*2+((if (decide (si≥5)) then (1:Int) else 0).toNat*1+0))))==1) (.ok (.v (.tuple #[.agg #[.int .i64 0,.int .i64 (if (1000000:Int)<(IntKind.i64.wrap (si+1)) then 1000000 else IntKind.i64.wrap (si+1))],.int .i64 0]))) (.br ((XK ((if (a !=0) then (1:Int) else 0).toNat*4+((if ((kV mn mx st want) !=0) then (1:Int) else 0).toNat*2+((if (decide (si≥5)) then (1:Int) else 0).toNat*1+0))))==2) (.ok (.v (.tuple #[.agg #[.int .i64 0,.int .i64 0],.int .i64 0]))) (.br ((XK ((if (a !=0) then (1:Int) else 0).toNat*4+((if ((kV mn mx st want) !=0) then (1:Int) else 0).toNat*2+((if (decide (si≥5)) then (1:Int) else 0).toNat*1+0))))==3) (.ok (.v (.tuple #[.agg #[.int .i64 (if IntKind.i64.wrap (a+st)<(kV mn mx st want) then IntKind.i64.wrap (a+st) else (kV mn mx st want)),.int .i64 (if (1000000:Int)<(IntKind.i64.wrap (si+1)) then 1000000 else IntKind.i64.wrap (si+1))],.int .i64 0]))) (.no))))))))):=by kernel_rfl
theorem aub:Valid Tryz.prog aS 37 YJ:=aH Tryz.func37 rfl aBv aF (aX (by kernel_rfl)) (fun args lv h=>by
 unfold ac7 at h
 split at h
 ·simp only [canL,canX]
  rw [aoO]
  rename_i nm at_ ph mn mx st fb ow a si want
  obtain rfl:=h
  by_cases hk:okB ph mn mx st fb a si want=true
  ·obtain ⟨k1,k2,k3,k4,k5⟩:=aaG hk
   have w1:IntKind.i64.wrap (si+1)=si+1:=aK (by omega) (by omega)
   have w2:IntKind.i64.wrap (a+st)=a+st:=aK (by omega) (by omega)
   have i0:∀b:Bool,0≤(if b=true then (1:Int) else 0)∧(if b=true then (1:Int) else 0)<2:=fun b=>by cases b<;>simp
   simp only [T.all,nA,nS,nE,k1,w1,w2,hk,aaW,if_true,axg,i0,true_and]
   by_cases c1:a=0<;>by_cases c2:kV mn mx st want=0<;>by_cases c3:5≤si<;>simp [c1,c2,c3,k2]
  ·have hn:(!D5 ph mn mx st fb a si ||(decide (want<0) ||decide (want>80)))=true:=an4 hk
   simp only [T.all,nA,nS,nE,hk,hn]
   simp
 ·cases h)
def akx:List LV→T LV
 | [.v (.agg ⟨[.string _,.int .i64 _,.int .i64 ph,.int .i64 mn,.int .i64 mx,.int .i64 st,.int .i64 fb,.int .i64 _]⟩)]=> .ok (.v (.bool (KJ ph mn mx st fb)))
 |_=> .no
noncomputable def aki:List LV→T LV:=gQ Tryz.prog Tryz.f91.params.toList akx
theorem awE (nm:ByteArray) (at_ ph mn mx st fb ow:Int):bV Tryz.prog aS (yC) dZ aC Tryz.f91 [.v (.agg #[.string nm,.int .i64 at_,.int .i64 ph,.int .i64 mn,.int .i64 mx,.int .i64 st,.int .i64 fb,.int .i64 ow])]=.br ((decide (ph<1)) ||((decide (ph>7)) ||((decide (mn<1)) ||((decide (mx>80)) ||((decide (mn>mx)) ||((decide (st<1)) ||(decide (st>80)))))))) (.ok (.v (.bool false))) (.ok (.v (.bool ((fb==0) ||((decide (fb≥mn))&&(decide (fb≤mx))))))):=by kernel_rfl
theorem azC:Valid Tryz.prog aS 91 aki:=aH Tryz.func91 rfl Ad aF (aX (by kernel_rfl)) (fun args lv h=>by
 unfold akx at h
 split at h
 ·simp only [canL,canX]
  rw [awE]
  obtain rfl:=h
  refine ⟨fun hb=>?_,fun hb=>?_⟩
  ·exact congrArg (fun z=>LV.v (.bool z)) (aEF hb)
  ·exact congrArg (fun z=>LV.v (.bool z)) (aEE hb)
 ·cases h)
end Go.Proofs.YtlihnbimgclogaaGreatDoor
namespace Go.Proofs.YtlihnbimgclogaaGreatDoor
open Go.Sx
def akz:List LV→T LV
 | [.v (.agg ⟨[.int .i64 nu,.int .i64 co,.int .i64 am,.int .i64 fr,.int .i64 tk]⟩)]=> .ok (.v (.bool (KA (nu,co,am,fr,tk))))
 |_=> .no
noncomputable def akj:List LV→T LV:=gQ Tryz.prog Tryz.f90.params.toList akz
noncomputable def Qz:Specs:=aZ []
theorem XP:∀g S,Qz g=some S→Valid Tryz.prog aS g S:=aT (l:=[]) trivial
theorem awG (nu co am fr tk:Int):bV Tryz.prog aS (Qz) dZ aC Tryz.f90 [.v (.agg #[.int .i64 nu,.int .i64 co,.int .i64 am,.int .i64 fr,.int .i64 tk])]=.ok (.v (.bool ((decide (nu≥1))&&((decide (nu≤1000000))&&((decide (co≥0))&&((decide (co<16))&&((decide (am≥0))&&((decide (am≤80))&&((decide (fr≥0))&&((decide (fr≤1000000))&&((decide (tk≥1))&&(decide (tk≤1000))))))))))))):=by kernel_rfl
theorem azD:Valid Tryz.prog aS 90 akj:=aH Tryz.func90 rfl XP aF (aX (by kernel_rfl)) (fun args lv h=>by
 unfold akz at h
 split at h
 ·simp only [canL,canX]
  rw [awG]
  obtain rfl:=h
  refine congrArg (fun z=>LV.v (.bool z)) ?_
  unfold KA
  rw [Bool.eq_iff_iff]
  simp only [Bool.and_eq_true,decide_eq_true_eq,dB]
  omega
 ·cases h)
structure pJ where
 l:List Le
 r:Bool
 i:Int
def aDM (s:pJ):List LV:=[.xl ig s.l,.v (.bool s.r),.v (.int .i64 s.i)]
def aCM (_:pJ):List aU:=[]
noncomputable def Bl:Code:=((aB (Tryz.f50.body.getD .skip))[0]?).getD .skip
def ZI (s:pJ):T (Rd pJ):=
 .br (decide (s.i<(List.length s.l:Int))) (.req (0≤s.i∧s.i<(List.length s.l:Int)) (.br (!(KA (fQ s.l s.i))) (.ok (.stop (.ret) {s with r:=false})) (.br (decide (s.i>0)) (.req (0≤s.i∧s.i<(List.length s.l:Int)) (.req (0≤(IntKind.i64.wrap (s.i-1))∧(IntKind.i64.wrap (s.i-1))<(List.length s.l:Int)) (.br (decide ((fQ s.l s.i).1≤(fQ s.l (IntKind.i64.wrap (s.i-1))).1)) (.ok (.stop (.ret) {s with r:=false})) (.req (0≤s.i∧s.i<(List.length s.l:Int)) (.req (0≤(IntKind.i64.wrap (s.i-1))∧(IntKind.i64.wrap (s.i-1))<(List.length s.l:Int)) (.br (decide ((fQ s.l s.i).2.2.2.1<(fQ s.l (IntKind.i64.wrap (s.i-1))).2.2.2.1)) (.ok (.stop (.ret) {s with r:=false})) (.ok (.next {s with i:=(IntKind.i64.wrap (s.i+1))})))))))) (.ok (.next {s with i:=(IntKind.i64.wrap (s.i+1))}))))) (.ok (.stop (.exit 0) s))
abbrev asR (s:pJ):=(ZI s).rd s
def adQ (s:pJ):Prop:=s.i=0∧(List.length s.l:Int)≤1000
def Nu (s:pJ):Prop:=(0≤s.i∧s.i≤(List.length s.l:Int))∧(List.length s.l:Int)≤1000∧∀j:Nat,(j:Int)<s.i→jD s.l j=true
def Ie (s:pJ):Nat:=((List.length s.l:Int)-s.i).toNat
def akY (x:Ex) (_ s':pJ):Prop:=(x=.exit 0∧∀j:Nat,(j:Int)<(List.length s'.l:Int)→jD s'.l j=true)∨(x=.ret∧s'.r=false∧∃j:Nat,(j:Int)<(List.length s'.l:Int)∧jD s'.l j=false)
theorem aAE:∀s,adQ s→Nu s:=by
 intro s h
 obtain ⟨h0,h3⟩:=h
 exact ⟨by omega,h3,fun j hj=>by omega⟩
theorem awe (s:pJ) (hI:Nu s):bJ (fun s'=>Nu s'∧Ie s'<Ie s) (fun x s'=>akY x s s') (asR s):=by
 unfold asR ZI
 dsimp only [T.rd,T.rl]
 obtain ⟨⟨h0,h1⟩,h3,hA⟩:=hI
 refine au (fun c1=>?_) (fun c1=>?_)
 ·refine au (fun c2=>?_) (fun c2=>?_)
  ·have c1:s.i<(List.length s.l:Int):=by simpa using c1
   refine .inr ⟨rfl,rfl,s.i.toNat,by simp only;omega,?_⟩
   rw [Int.toNat_of_nonneg h0]
   show jD s.l s.i=false
   unfold jD Ak
   rw [ntW c2]
   rfl
  ·refine au (fun c3=>?_) (fun c3=>?_)
   ·refine au (fun c4=>?_) (fun c4=>?_)
    ·have c1:s.i<(List.length s.l:Int):=by simpa using c1
     have c3:0<s.i:=by simpa using c3
     rw [aK (x:=s.i-1) (by omega) (by omega)] at c4
     refine .inr ⟨rfl,rfl,s.i.toNat,by simp only;omega,?_⟩
     rw [Int.toNat_of_nonneg h0]
     show jD s.l s.i=false
     unfold jD Ak
     rw [OY c2,decide_eq_false (p:=s.i=0) (by omega)]
     simp only [decide_eq_true_eq] at c4
     rw [decide_eq_false (p:=(fQ s.l s.i).1>(fQ s.l (s.i-1)).1) (by omega)]
     simp
    ·refine au (fun c5=>?_) (fun c5=>?_)
     ·have c1:s.i<(List.length s.l:Int):=by simpa using c1
      have c3:0<s.i:=by simpa using c3
      rw [aK (x:=s.i-1) (by omega) (by omega)] at c4
      rw [aK (x:=s.i-1) (by omega) (by omega)] at c5
      refine .inr ⟨rfl,rfl,s.i.toNat,by simp only;omega,?_⟩
      rw [Int.toNat_of_nonneg h0]
      show jD s.l s.i=false
      unfold jD Ak
      rw [OY c2,decide_eq_false (p:=s.i=0) (by omega)]
      simp only [decide_eq_true_eq] at c5
      rw [decide_eq_false (p:=(fQ s.l s.i).2.2.2.1≥(fQ s.l (s.i-1)).2.2.2.1) (by omega)]
      simp
     ·have c1:s.i<(List.length s.l:Int):=by simpa using c1
      have c3:0<s.i:=by simpa using c3
      rw [aK (x:=s.i-1) (by omega) (by omega)] at c4
      rw [aK (x:=s.i-1) (by omega) (by omega)] at c5
      have hg:jD s.l s.i=true:=by
        unfold jD Ak
        simp only [decide_eq_false_iff_not] at c4 c5
        rw [OY c2,decide_eq_true (p:=(fQ s.l s.i).1>(fQ s.l (s.i-1)).1) (by omega),decide_eq_true (p:=(fQ s.l s.i).2.2.2.1≥(fQ s.l (s.i-1)).2.2.2.1) (by omega)]
        simp
      rw [aK (x:=s.i+1) (by omega) (by omega)]
      exact ⟨⟨⟨by simp only;omega,by simp only;omega⟩,h3,fun j hj=>by
       by_cases e:(j:Int)<s.i
       ·exact hA j e
       ·have e:(j:Int)=s.i:=by simp only at hj;omega
        show jD s.l j=true
        rw [e];exact hg⟩,by simp only [Ie];omega⟩
   ·have c1:s.i<(List.length s.l:Int):=by simpa using c1
    have hg:jD s.l s.i=true:=by
      unfold jD
      rw [OY c2,decide_eq_true (p:=s.i=0) (by simp at c3;omega)]
      rfl
    rw [aK (x:=s.i+1) (by omega) (by omega)]
    exact ⟨⟨⟨by simp only;omega,by simp only;omega⟩,h3,fun j hj=>by
     by_cases e:(j:Int)<s.i
     ·exact hA j e
     ·have e:(j:Int)=s.i:=by simp only at hj;omega
      show jD s.l j=true
      rw [e];exact hg⟩,by simp only [Ie];omega⟩
 ·have c1:(List.length s.l:Int)≤s.i:=by simpa using c1
  exact .inl ⟨rfl,fun j hj=>hA j (by omega)⟩
def EX:bM pJ:=⟨0,51,[0,2,3],[],aDM,aCM,fun v _=>⟨aQ ig (v.getD 0 .junk),vF (v.getD 1 .junk),gI (v.getD 2 .junk)⟩,ZI,fun s r=> {r with l:=s.l},fun s=>s,fun _ s=>s,[.ret,.exit 0],adQ,Nu,Ie⟩
abbrev aap:=EX.run
abbrev ab5:=EX.jJ
abbrev ayJ:=EX.q
theorem avo (s:pJ) (hI:Nu s):(ZI s).all (fun _=>True):=by
 refine ⟨fun c1=>⟨?_,fun _=>trivial,fun c2=>⟨fun c3=>⟨?_,?_,fun _=>trivial,fun c4=>⟨?_,?_,fun _=>trivial,fun _=>trivial⟩⟩,fun _=>trivial⟩⟩,fun _=>trivial⟩
 all_goals ((obtain ⟨⟨h0,h1⟩,h3,hA⟩:=hI;simp only [decide_eq_true_eq] at c1;first|omega|(simp only [decide_eq_true_eq,gt_iff_lt] at c3;rw [aK (x:=s.i-1) (by omega) (by omega)];omega)))
noncomputable def XW:Specs:=aZ [(90,akj)]
theorem ajo:∀g S,XW g=some S→Valid Tryz.prog aS g S:=aT (l:=[(90,akj)]) ⟨azD,trivial⟩
theorem ahG:EX.Ok:=⟨fun s=>by kernel_rfl,fun s=>by kernel_rfl,fun s=>rfl,fun s t r=>rfl,fun s=>rfl,fun s=>by kernel_rfl⟩
theorem agD:EX.Pf (akY):=⟨aAE,fun _ _=>rfl,awe,avo⟩
theorem amP:bg Tryz.prog aS (AN 0) (.loop Bl) EX.lp:=bM.snd ahG agD (aP (Γ:=XW) (K:=dZ) (L:=aC) ajo aF Bl (fun b hb=>by rw [show aB Bl=[] by kernel_rfl] at hb;cases hb)) (fun s=>by kernel_rfl)
theorem anU (s:pJ) (hE:adQ s):∃s',Nu s'∧akY (ab5 s) s' (aap s):=bM.fin ahG agD s hE
def acX:List LV→T LV
 | [.xl (.pair (.int .i64) (.pair (.int .i64) (.pair (.int .i64) (.pair (.int .i64) (.int .i64))))) l]=> .req ((List.length l:Int)≤1000) (.ok (.v (.bool (gK l))))
 |_=> .no
noncomputable def YA:List LV→T LV:=gQ Tryz.prog Tryz.f50.params.toList acX
theorem aoE (l:List Le):bV Tryz.prog aS (XW) dZ (fun i=>if i=2 then EX.lp else aC i) Tryz.f50 [.xl ig l]=.req (ayJ (⟨l,false,(0:Int)⟩:pJ)) (.br (iG (ab5 (⟨l,false,(0:Int)⟩:pJ)) (.ret)) (.ok (.v (.bool (aap (⟨l,false,(0:Int)⟩:pJ)).r))) (.ok (.v (.bool (decide ((List.length l:Int)≤64)))))):=by kernel_rfl
theorem atV:Valid Tryz.prog aS 50 YA:=aH Tryz.func50 rfl ajo aF (L:=(fun i=>if i=2 then EX.lp else aC i)) (fun b hb=>by
 rw [show aB _=[Bl] by kernel_rfl] at hb
 simp only [List.mem_cons,List.not_mem_nil,or_false] at hb
 subst hb
 exact amP) (fun args lv h=>by
 unfold acX at h
 split at h
 ·simp only [canL,canX]
  rw [aoE]
  rename_i l
  obtain ⟨hn,rfl⟩:=h
  have hE:adQ ⟨l,false,0⟩:=⟨rfl,hn⟩
  refine ⟨⟨hE,rfl,rfl⟩,?_⟩
  obtain ⟨_,_,hq⟩:=anU _ hE
  unfold gK
  rcases hq with ⟨q1,q2⟩ |⟨q1,q2,j,q3,q4⟩<;>rw [q1]
  ·have e:KE l.length (jD l)=true:=fE.2 q2
   rw [e,Bool.and_true]
   refine ⟨fun h=>(by cases h),fun _=>congrArg (fun z=>LV.v (.bool z)) ?_⟩
   by_cases h:l.length≤64
   ·rw [decide_eq_true h,decide_eq_true (by omega)]
   ·rw [decide_eq_false h,decide_eq_false (by omega)]
  ·have e:KE l.length (jD l)=false:=uh j q3 q4
   rw [q2,e,Bool.and_false]
   exact ⟨fun _=>rfl,fun h=>by cases h⟩
 ·cases h)
structure qI where
 yh:Int
 level:Int
 x:Int
 qB:ByteArray
 Yd:Int
 qA:Int
 mn:Int
 mx:Int
 st:Int
 lq:Int
 mM:Int
def aDN (s:qI):List LV:=[.v (.int .i64 s.yh),.own 0 0,.v (.int .i64 s.level),.v (.int .i64 s.x)]
def aCN (s:qI):List aU:=[⟨[.v (.string s.qB),.v (.int .i64 s.Yd),.v (.int .i64 s.qA),.v (.int .i64 s.mn),.v (.int .i64 s.mx),.v (.int .i64 s.st),.v (.int .i64 s.lq),.v (.int .i64 s.mM)],58,.cl,false⟩]
noncomputable def Bo:Code:=((aB (Tryz.f83.body.getD .skip))[0]?).getD .skip
def ZJ (s:qI):T (Rd qI):=
 .br (decide (s.x≤s.mx)) (.br (decide (s.x≤s.yh)) (.ok (.next {s with level:=s.x,x:=(IntKind.i64.wrap (s.x+s.st))})) (.ok (.next {s with x:=(IntKind.i64.wrap (s.x+s.st))}))) (.ok (.stop (.exit 0) s))
abbrev asT (s:qI):=(ZJ s).rd s
def alL (s:qI):Prop:=s.level=0∧s.x=s.mn∧sU s.mn s.mx s.st
def JP (s:qI):Prop:=Qs s.mn s.mx s.st s.yh s.level s.x
def Ig (s:qI):Nat:=(s.mx+1-s.x).toNat
def akZ (x:Ex) (_ s':qI):Prop:=x=.exit 0∧s'.level=kV s'.mn s'.mx s'.st s'.yh
theorem aAF:∀s,alL s→JP s:=by
 intro s h
 obtain ⟨h0,h1,h2⟩:=h
 unfold JP
 rw [h0,h1]
 exact XE h2
theorem awf (s:qI) (hI:JP s):bJ (fun s'=>JP s'∧Ig s'<Ig s) (fun x s'=>akZ x s s') (asT s):=by
 unfold asT ZJ
 dsimp only [T.rd,T.rl]
 have hI':Qs s.mn s.mx s.st s.yh s.level s.x:=hI
 have hc:=hI'.1
 unfold sU at hc
 refine au (fun c1=>?_) (fun c1=>⟨rfl,aiK hI' (by simpa using c1)⟩)
 have c1:s.x≤s.mx:=by simpa using c1
 have hs:=aeG hI' c1
 have hx:=hI'.2.1
 rw [aK (x:=s.x+s.st) (by omega) (by omega)]
 refine au (fun c2=>?_) (fun c2=>?_)
 ·rw [if_pos (by simpa using c2)] at hs
  exact ⟨hs,by simp only [Ig];omega⟩
 ·rw [if_neg (by simpa using c2)] at hs
  exact ⟨hs,by simp only [Ig];omega⟩
def EY:bM qI:=⟨0,22,[1,2,5,6],[],aDN,aCN,fun v b=>⟨gI (v.getD 0 .junk),gI (v.getD 2 .junk),gI (v.getD 3 .junk),gSr (aY (aO b 0) 0),gI (aY (aO b 0) 1),gI (aY (aO b 0) 2),gI (aY (aO b 0) 3),gI (aY (aO b 0) 4),gI (aY (aO b 0) 5),gI (aY (aO b 0) 6),gI (aY (aO b 0) 7)⟩,ZJ,fun s r=> {r with yh:=s.yh,qB:=s.qB,Yd:=s.Yd,qA:=s.qA,mn:=s.mn,mx:=s.mx,st:=s.st,lq:=s.lq,mM:=s.mM},fun s=>s,fun _ s=>s,[.exit 0],alL,JP,Ig⟩
abbrev aaq:=EY.run
abbrev ap0:=EY.jJ
abbrev ayK:=EY.q
theorem avp (s:qI) (_:JP s):(ZJ s).all (fun _=>True):=by
 exact ⟨fun c1=>⟨fun _=>trivial,fun _=>trivial⟩,fun _=>trivial⟩
theorem ahH:EY.Ok:=⟨fun s=>by kernel_rfl,fun s=>by kernel_rfl,fun s=>rfl,fun s t r=>rfl,fun s=>rfl,fun s=>by kernel_rfl⟩
theorem agE:EY.Pf (akZ):=⟨aAF,fun _ _=>rfl,awf,avp⟩
theorem amQ:bg Tryz.prog aS (AN 0) (.loop Bo) EY.lp:=bM.snd ahH agE (aP (Γ:=Qz) (K:=dZ) (L:=aC) XP aF Bo (fun b hb=>by rw [show aB Bo=[] by kernel_rfl] at hb;cases hb)) (fun s=>by kernel_rfl)
theorem anV (s:qI) (hE:alL s):∃s',JP s'∧akZ (ap0 s) s' (aaq s):=bM.fin ahH agE s hE
def ac1:List LV→T LV
 | [.v (.agg ⟨[.string _,.int .i64 _,.int .i64 _,.int .i64 mn,.int .i64 mx,.int .i64 st,.int .i64 _,.int .i64 _]⟩),.v (.int .i64 a)]=> .req (sU mn mx st) (.ok (.v (.int .i64 (kV mn mx st a))))
 |_=> .no
noncomputable def YE:List LV→T LV:=gQ Tryz.prog Tryz.f83.params.toList ac1
theorem aoI (nm:ByteArray) (at_ ph mn mx st fb ow a:Int):bV Tryz.prog aS (Qz) dZ (fun i=>if i=3 then EY.lp else aC i) Tryz.f83 [.v (.agg #[.string nm,.int .i64 at_,.int .i64 ph,.int .i64 mn,.int .i64 mx,.int .i64 st,.int .i64 fb,.int .i64 ow]),.v (.int .i64 a)]=.req (ayK (⟨a,(0:Int),mn,nm,at_,ph,mn,mx,st,fb,ow⟩:qI)) (.ok (.v (.int .i64 (aaq (⟨a,(0:Int),mn,nm,at_,ph,mn,mx,st,fb,ow⟩:qI)).level))):=by kernel_rfl
theorem atZ:Valid Tryz.prog aS 83 YE:=aH Tryz.func83 rfl XP aF (L:=(fun i=>if i=3 then EY.lp else aC i)) (fun b hb=>by
 rw [show aB _=[Bo] by kernel_rfl] at hb
 simp only [List.mem_cons,List.not_mem_nil,or_false] at hb
 subst hb
 exact amQ) (fun args lv h=>by
 unfold ac1 at h
 split at h
 ·simp only [canL,canX]
  rw [aoI]
  obtain ⟨hc,rfl⟩:=h
  refine nV ⟨⟨rfl,rfl,hc⟩,rfl,rfl⟩ (fun hE=>?_)
  obtain ⟨_,_,_,q⟩:=anV _ hE.1
  rw [q]
  exact rfl
 ·cases h)
def ac0:List LV→T LV
 | [.v (.agg ⟨[.string _,.int .i64 _,.int .i64 ph,.int .i64 mn,.int .i64 mx,.int .i64 st,.int .i64 fb,.int .i64 _]⟩),.v (.agg ⟨[.int .i64 a,.int .i64 si]⟩)]=> .ok (.v (.bool (D5 ph mn mx st fb a si)))
 |_=> .no
noncomputable def YD:List LV→T LV:=gQ Tryz.prog Tryz.f51.params.toList ac0
noncomputable def ajG:Specs:=aZ [(83,YE),(91,aki)]
theorem axq:∀g S,ajG g=some S→Valid Tryz.prog aS g S:=aT (l:=[(83,YE),(91,aki)]) ⟨atZ,azC,trivial⟩
theorem aoH (nm:ByteArray) (at_ ph mn mx st fb ow a si:Int):bV Tryz.prog aS (ajG) dZ aC Tryz.f51 [.v (.agg #[.string nm,.int .i64 at_,.int .i64 ph,.int .i64 mn,.int .i64 mx,.int .i64 st,.int .i64 fb,.int .i64 ow]),.v (.agg #[.int .i64 a,.int .i64 si])]=.br (KJ ph mn mx st fb) (.br (decide (a≥0)) (.br (decide (si≥0)) (.br (decide (si≤1000000)) (.req (sU mn mx st) (.ok (.v (.bool ((kV mn mx st a)==a))))) (.ok (.v (.bool false)))) (.ok (.v (.bool false)))) (.ok (.v (.bool false)))) (.ok (.v (.bool false))):=by kernel_rfl
theorem atY:Valid Tryz.prog aS 51 YD:=aH Tryz.func51 rfl axq aF (aX (by kernel_rfl)) (fun args lv h=>by
 unfold ac0 at h
 split at h
 ·simp only [canL,canX]
  rw [aoH]
  rename_i nm at_ ph mn mx st fb ow a si
  obtain rfl:=h
  unfold D5
  cases hc:KJ ph mn mx st fb with
  |false=>simp [T.all]
  |true=>
   have hp:=X7 hc
   by_cases h1:0≤a<;>by_cases h2:0≤si<;>by_cases h3:si≤1000000<;>simp [T.all,h1,h2,h3,hp]
 ·cases h)
end Go.Proofs.YtlihnbimgclogaaGreatDoor
namespace Go.Proofs.YtlihnbimgclogaaGreatDoor
open Go.Sx
def inG (n:Int):List ByteArray→ByteArray→Int
 | [],_=>-1
 |x::xs,w=>if (x==w)=true then n else inG (n+1) xs w
def inI (l:List ByteArray) (w:ByteArray):Int:=inG 0 l w
theorem aa3 {w:ByteArray}:∀ {l:List ByteArray}{n:Int},0≤n→(0≤inG n l w↔isIn l w=true)
 | [],n,_=>by simp [inG,isIn]
 | x::xs,n,h=>by
  rw [inG]
  have e:isIn (x::xs) w=(w==x ||isIn xs w):=rfl
  rw [e]
  split
  ·rename_i hx
   have:x=w:=by simpa using hx
   subst this
   simp [h]
  ·rename_i hx
   have hx:¬x=w:=by simpa using hx
   have:(w==x)=false:=by simpa using fun e=>hx e.symm
   rw [this,Bool.false_or]
   exact aa3 (by omega)
theorem Gm {l:List ByteArray}{w:ByteArray}:decide (inI l w≥0)=isIn l w:=by
 rw [Bool.eq_iff_iff,decide_eq_true_eq]
 exact aa3 (Int.le_refl _)
theorem KI {l:List ByteArray}{w:ByteArray}:isIn l w=l.contains w:=by
 unfold isIn
 rw [List.contains_eq_any_beq]
def yA (b j:Int):Bool:=chA b ||(!(j==0)&&((decide (b≥48)&&decide (b≤57)) ||b==95))
theorem abd {b:Int}:yA b 0=chA b:=by simp [yA]
theorem LZ {b j:Int}(h:j≠0):yA b j=chB b:=by
 unfold yA chB
 rw [show (j==0)=false by simpa using h]
 rfl
theorem aix {w:ByteArray}:nameB w=(KE w.size (fun j=>yA (sD w j) j)&&(decide ((w.size:Int)≥1)&&(decide ((w.size:Int)≤12)&&!FW w))):=by
 unfold nameB gwB
 by_cases h1:1≤w.size
 ·by_cases h2:w.size≤12
  ·rw [decide_eq_true (show 1≤w.size∧w.size≤12 from ⟨h1,h2⟩),decide_eq_true (show (w.size:Int)≥1 by omega),decide_eq_true (show (w.size:Int)≤12 by omega),Bool.true_and,Bool.true_and,Bool.true_and]
   congr 1
   rw [Bool.eq_iff_iff,Bool.and_eq_true,List.all_eq_true,fE]
   constructor
   ·rintro ⟨a,b⟩ j hj
    by_cases e:j=0
    ·subst e;exact (abd (b:=sD w 0)).trans a
    ·have:=b j (List.mem_range.2 (by omega))
     rw [LZ (by omega)]
     simpa [e] using this
   ·intro h
    refine ⟨(abd (b:=sD w 0)).symm.trans (h 0 (by omega)),fun j hj=>?_⟩
    by_cases e:j=0
    ·simp [e]
    ·have:=h j (by have:=List.mem_range.1 hj;omega)
     rw [LZ (by omega)] at this
     simp [this]
  ·rw [decide_eq_false (show ¬(1≤w.size∧w.size≤12) by omega),decide_eq_false (show ¬(w.size:Int)≤12 by omega)]
   simp
 ·rw [decide_eq_false (show ¬(1≤w.size∧w.size≤12) by omega),decide_eq_false (show ¬(w.size:Int)≥1 by omega)]
  simp
def nmR (l:List ByteArray):Prop:=∀w∈l,(w.size:Int)≤9223372036854775807
def nmB (l:List ByteArray):Bool:=l.all nameB&&once l
theorem afI {cs:List Cd}{os:List ByteArray}{ks:List Ko}{gs:List Ch}{bs:List Ba}(hd:1≤cs.length∧cs.length≤16∧os.length≤8∧ks.length≤32∧gs.length≤16∧bs.length≤24):fO cs os ks gs bs=(nmB (gB cs os ks gs bs)&&VX cs os ks gs bs):=by
 unfold fO nmB
 rw [decide_eq_true hd,Bool.true_and,Bool.and_assoc]
theorem aiW {n a b:Int}:inB n a b=false↔¬(a≤n∧n≤b):=by
 rw [←dB]
 simp
theorem aeh {ks:List Ko}{i c:Int}(h0:0≤i) (h:i≤(ks.length:Int)):((ks.take i.toNat).map (·.2.2.2)).contains c=true↔∃j:Nat,(j:Int)<i∧(ni ks j).2.2.2=c:=by
 rw [List.contains_iff_mem,List.mem_map]
 constructor
 ·rintro ⟨x,hx,rfl⟩
  obtain ⟨j,hj,rfl⟩:=List.mem_iff_getElem.1 hx
  rw [List.length_take] at hj
  exact ⟨j,by omega,by rw [ajI (by simp only [Int.toNat_natCast];omega)];simp⟩
 ·rintro ⟨j,hj,rfl⟩
  refine ⟨ni ks j,?_,rfl⟩
  rw [ajI (by simp only [Int.toNat_natCast];omega),List.mem_iff_getElem]
  exact ⟨j,by rw [List.length_take];omega,by simp⟩
end Go.Proofs.YtlihnbimgclogaaGreatDoor
namespace Go.Proofs.YtlihnbimgclogaaGreatDoor
open Go.Sx
structure mW where
 l:List ByteArray
 w:ByteArray
 r:Int
 i:Int
def aD5 (s:mW):List LV:=[.xl .str s.l,.v (.string s.w),.v (.int .i64 s.r),.v (.int .i64 s.i)]
def aC5 (_:mW):List aU:=[]
noncomputable def BL:Code:=((aB (Tryz.f144.body.getD .skip))[0]?).getD .skip
def SE (s:mW):T (Rd mW):=
 .br (decide (s.i<(List.length s.l:Int))) (.req (0≤s.i∧s.i<(List.length s.l:Int)) (.br ((gS s.l s.i).toList==s.w.toList) (.ok (.stop (.ret) {s with r:=s.i})) (.ok (.next {s with i:=(IntKind.i64.wrap (s.i+1))})))) (.ok (.stop (.exit 0) s))
abbrev abM (s:mW):=(SE s).rd s
def alP (s:mW):Prop:=s.i=0∧(List.length s.l:Int)≤1000∧True
def Vz (s:mW):Prop:=0≤s.i∧s.i≤(List.length s.l:Int)∧(List.length s.l:Int)≤1000∧True
def PX (s:mW):Nat:=((List.length s.l:Int)-s.i).toNat
def atu (_:Ex) (_ _:mW):Prop:=True
theorem aA8:∀s,alP s→Vz s:=by
 intro s h
 obtain ⟨h0,h1,h2⟩:=h
 exact ⟨by omega,by omega,h1,h2⟩
theorem axb (s:mW) (hI:Vz s):bJ (fun s'=>Vz s'∧PX s'<PX s) (fun x s'=>atu x s s') (abM s):=by
 unfold abM SE
 dsimp only [T.rd,T.rl]
 obtain ⟨h0,h1,h2,h3⟩:=hI
 refine au (fun c1=>?_) (fun c1=>?_)
 ·refine au (fun c2=>?_) (fun c2=>?_)
  ·trivial
  ·have c1:s.i<(List.length s.l:Int):=by simpa using c1
   rw [aK (x:=s.i+1) (by omega) (by omega)]
   exact ⟨⟨by simp only;omega,by simp only;omega,h2,h3⟩,by simp only [PX];omega⟩
 ·trivial
def Fq:bM mW:=⟨0,19,[0,1,4,5],[],aD5,aC5,fun v _=>⟨aQ .str (v.getD 0 .junk),gSr (v.getD 1 .junk),gI (v.getD 2 .junk),gI (v.getD 3 .junk)⟩,SE,fun s r=> {r with l:=s.l,w:=s.w},fun s=>s,fun _ s=>s,[.ret,.exit 0],alP,Vz,PX⟩
abbrev aau:=Fq.run
abbrev ab8:=Fq.jJ
abbrev ay0:=Fq.q
theorem avI (s:mW) (hI:Vz s):(SE s).all (fun _=>True):=by
 refine ⟨fun c1=>⟨?_,fun _=>trivial,fun _=>trivial⟩,fun _=>trivial⟩
 ·(obtain ⟨h0,h1,h2,h3⟩:=hI;simp only [decide_eq_true_eq] at c1;omega)
noncomputable def I5:Specs:=aZ []
theorem L8:∀g S,I5 g=some S→Valid Tryz.prog aS g S:=aT (l:=[]) trivial
theorem ahQ:Fq.Ok:=⟨fun s=>by kernel_rfl,fun s=>by kernel_rfl,fun s=>rfl,fun s t r=>rfl,fun s=>rfl,fun s=>by kernel_rfl⟩
theorem agN:Fq.Pf (atu):=⟨aA8,fun _ _=>rfl,axb,avI⟩
theorem am7:bg Tryz.prog aS (AN 0) (.loop BL) Fq.lp:=bM.snd ahQ agN (aP (Γ:=I5) (K:=dZ) (L:=aC) L8 aF BL (fun b hb=>by rw [show aB BL=[] by kernel_rfl] at hb;cases hb)) (fun s=>by kernel_rfl)
theorem apC (s:mW) (hE:alP s):(fun (x:Ex) (s':mW) (v:Int)=>(x=.ret∧s'.r=v)∨(x=.exit 0∧v=-1)) (ab8 s) (aau s) ((fun s:mW=>inG s.i (s.l.drop s.i.toNat) s.w) s):=by
 exact bM.wC ahQ agN (fun s:mW=>inG s.i (s.l.drop s.i.toNat) s.w) (fun x s' v=>(x=.ret∧s'.r=v)∨(x=.exit 0∧v=-1)) (fun s hI=>by
  show bJ _ _ (abM s)
  unfold abM SE
  dsimp only [T.rd,T.rl]
  obtain ⟨h0,h1,h2,h3⟩:=hI
  refine au (fun c1=>au (fun c2=>?_) (fun c2=>?_)) (fun c1=>?_)
  ·have c1:s.i<(List.length s.l:Int):=by simpa using c1
   rw [tX] at c2
   refine .inl ⟨rfl,?_⟩
   try simp only
   rw [(uD h0 c1).1,inG,if_pos c2]
  ·have c1:s.i<(List.length s.l:Int):=by simpa using c1
   rw [tX] at c2
   rw [aK (x:=s.i+1) (by omega) (by omega)]
   show inG _ _ _=inG _ _ _
   rw [(uD h0 c1).1,inG,if_neg (by rw [c2];simp)]
  ·have c1:(List.length s.l:Int)≤s.i:=by simpa using c1
   refine .inr ⟨rfl,?_⟩
   rw [List.drop_eq_nil_of_le (by omega)]
   rfl) s hE
def akv:List LV→T LV
 | [.xl (.str) l,.v (.string w)]=> .req ((List.length l:Int)≤1000) (.ok (.v (.int .i64 (inI l w))))
 |_=> .no
noncomputable def akg:List LV→T LV:=gQ Tryz.prog Tryz.f144.params.toList akv
theorem awC (l:List ByteArray) (w:ByteArray):bV Tryz.prog aS (I5) dZ (fun i=>if i=2 then Fq.lp else aC i) Tryz.f144 [.xl .str l,.v (.string w)]=.req (ay0 (⟨l,w,(0:Int),(0:Int)⟩:mW)) (.br (iG (ab8 (⟨l,w,(0:Int),(0:Int)⟩:mW)) (.ret)) (.ok (.v (.int .i64 (aau (⟨l,w,(0:Int),(0:Int)⟩:mW)).r))) (.ok (.v (.int .i64 (-1))))):=by kernel_rfl
theorem azA:Valid Tryz.prog aS 144 akg:=aH Tryz.func144 rfl L8 aF (L:=(fun i=>if i=2 then Fq.lp else aC i)) (fun b hb=>by
 rw [show aB _=[BL] by kernel_rfl] at hb
 simp only [List.mem_cons,List.not_mem_nil,or_false] at hb
 subst hb
 exact am7) (fun args lv h=>by
 unfold akv at h
 split at h
 ·simp only [canL,canX]
  rw [awC]
  obtain ⟨hl,rfl⟩:=h
  refine nV ⟨⟨rfl,hl,trivial⟩,rfl,rfl⟩ (fun hE=>?_)
  rcases apC _ hE.1 with ⟨q1,q2⟩ |⟨q1,q2⟩
  ·rw [q1,q2]
   exact ⟨fun _=>rfl,fun h=>by cases h⟩
  ·rw [q1]
   refine ⟨fun h=>(by cases h),fun _=>congrArg (fun z=>LV.v (.int .i64 z)) ?_⟩
   exact q2.symm
 ·cases h)
def MO:List LV→T LV
 | []=> .ok (.xl .str kinds)
 |_=> .no
noncomputable def JD:List LV→T LV:=gQ Tryz.prog Tryz.f145.params.toList MO
theorem aex  :bV Tryz.prog aS (I5) dZ aC Tryz.f145 []=.ok (.xl .str ([(ByteArray.mk #[102,101,101,100,101,114]),(ByteArray.mk #[99,97,98,108,101]),(ByteArray.mk #[111,119,110,101,114]),(ByteArray.mk #[99,111,110,116,114,97,99,116]),(ByteArray.mk #[99,104,97,114,103,101,114]),(ByteArray.mk #[98,97,121]),(ByteArray.mk #[116,97,114,105,102,102])])):=by kernel_rfl
theorem afq:Valid Tryz.prog aS 145 JD:=aH Tryz.func145 rfl L8 aF (aX (by kernel_rfl)) (fun args lv h=>by
 unfold MO at h
 split at h
 ·simp only [canL]
  rw [aex]
  exact h
 ·cases h)
def MP:List LV→T LV
 | []=> .ok (.xl .str Ey)
 |_=> .no
noncomputable def JG:List LV→T LV:=gQ Tryz.prog Tryz.f146.params.toList MP
theorem aey  :bV Tryz.prog aS (I5) dZ aC Tryz.f146 []=.ok (.xl .str ([(ByteArray.mk #[108,105,109,105,116]),(ByteArray.mk #[110,101,117,116,114,97,108]),(ByteArray.mk #[102,117,115,101]),(ByteArray.mk #[116,104,101,114,109,97,108]),(ByteArray.mk #[102,114,111,109]),(ByteArray.mk #[97,116]),(ByteArray.mk #[112,104,97,115,101,115]),(ByteArray.mk #[97,109,112,115]),(ByteArray.mk #[102,97,108,108,98,97,99,107]),(ByteArray.mk #[111,119,110,101,114]),(ByteArray.mk #[99,97,114,100]),(ByteArray.mk #[114,97,110,107]),(ByteArray.mk #[99,104,97,114,103,101,114])])):=by kernel_rfl
theorem aft:Valid Tryz.prog aS 146 JG:=aH Tryz.func146 rfl L8 aF (aX (by kernel_rfl)) (fun args lv h=>by
 unfold MP at h
 split at h
 ·simp only [canL]
  rw [aey]
  exact h
 ·cases h)
def CP:List LV→T LV
 | []=> .ok (.xl .str oN)
 |_=> .no
noncomputable def wJ:List LV→T LV:=gQ Tryz.prog Tryz.f147.params.toList CP
theorem OX  :bV Tryz.prog aS (I5) dZ aC Tryz.f147 []=.ok (.xl .str ([(ByteArray.mk #[115,116,97,114,116]),(ByteArray.mk #[101,110,101,114,103,121]),(ByteArray.mk #[116,105,109,101]),(ByteArray.mk #[105,100,108,101]),(ByteArray.mk #[99,97,112]),(ByteArray.mk #[116,97,120])])):=by kernel_rfl
theorem Ry:Valid Tryz.prog aS 147 wJ:=aH Tryz.func147 rfl L8 aF (aX (by kernel_rfl)) (fun args lv h=>by
 unfold CP at h
 split at h
 ·simp only [canL]
  rw [OX]
  exact h
 ·cases h)
def MN:List LV→T LV
 | []=> .ok (.xl .str words)
 |_=> .no
noncomputable def JB:List LV→T LV:=gQ Tryz.prog Tryz.f148.params.toList MN
theorem aew  :bV Tryz.prog aS (I5) dZ aC Tryz.f148 []=.ok (.xl .str ([(ByteArray.mk #[111,110]),(ByteArray.mk #[119,111,114,107]),(ByteArray.mk #[115,97,116,117,114,100,97,121]),(ByteArray.mk #[115,117,110,100,97,121]),(ByteArray.mk #[98,101,116,119,101,101,110]),(ByteArray.mk #[112,101,114]),(ByteArray.mk #[102,114,101,101])])):=by kernel_rfl
theorem afo:Valid Tryz.prog aS 148 JB:=aH Tryz.func148 rfl L8 aF (aX (by kernel_rfl)) (fun args lv h=>by
 unfold MN at h
 split at h
 ·simp only [canL]
  rw [aew]
  exact h
 ·cases h)
structure oV where
 w:ByteArray
 r:Bool
 i:Int
def aDF (s:oV):List LV:=[.v (.string s.w),.v (.bool s.r),.v (.int .i64 s.i)]
def aCF (_:oV):List aU:=[]
noncomputable def Bc:Code:=((aB (Tryz.f122.body.getD .skip))[0]?).getD .skip
def ZG (s:oV):T (Rd oV):=
 .br (decide (s.i<(s.w.size:Int))) (.req (0≤s.i∧s.i<(s.w.size:Int)) (.br (if decide ((sD s.w s.i)<97) then (s.i==0) ||(if decide ((sD s.w s.i)<48) then (sD s.w s.i) !=95 else (decide ((sD s.w s.i)>57))&&((sD s.w s.i) !=95)) else (decide ((sD s.w s.i)>122))&&((s.i==0) ||(if decide ((sD s.w s.i)<48) then (sD s.w s.i) !=95 else (decide ((sD s.w s.i)>57))&&((sD s.w s.i) !=95)))) (.ok (.stop (.ret) {s with r:=false})) (.ok (.next {s with i:=(IntKind.i64.wrap (s.i+1))})))) (.ok (.stop (.exit 0) s))
abbrev asP (s:oV):=(ZG s).rd s
def JZ (s:oV) (j:Int):Bool:=yA (sD s.w j) j
def alE (s:oV):Prop:=s.i=0∧0≤(s.w.size:Int)∧(s.w.size:Int)≤9223372036854775807∧True
def Nr (s:oV):Prop:=0≤s.i∧s.i≤(s.w.size:Int)∧(s.w.size:Int)≤9223372036854775807∧(True)∧∀j:Nat,(j:Int)<s.i→JZ s j=true
def Pm (s:oV):Nat:=((s.w.size:Int)-s.i).toNat
def akX (x:Ex) (_ s':oV):Prop:=(x=.exit 0∧∀j:Nat,(j:Int)<(s'.w.size:Int)→JZ s' j=true)∨(x=.ret∧s'.r=false∧∃j:Nat,(j:Int)<(s'.w.size:Int)∧JZ s' j=false)
theorem aAk:∀s,alE s→Nr s:=by
 intro s h
 obtain ⟨h0,h1,h2,h3⟩:=h
 exact ⟨by omega,by omega,h2,h3,fun j hj=>by omega⟩
theorem av2 (s:oV) (hI:Nr s):bJ (fun s'=>Nr s'∧Pm s'<Pm s) (fun x s'=>akX x s s') (asP s):=by
 unfold asP ZG
 dsimp only [T.rd,T.rl]
 obtain ⟨h0,h1,h2,h3,h4⟩:=hI
 refine au (fun c1=>au (fun c2=>?_) (fun c2=>?_)) (fun c1=>?_)
 ·have c1:s.i<(s.w.size:Int):=by simpa using c1
  refine .inr ⟨rfl,rfl,s.i.toNat,by simp only;omega,?_⟩
  rw [Int.toNat_of_nonneg (by omega)]
  have hg:JZ s s.i=false:=by unfold JZ;(revert c2;unfold yA chA;generalize sD s.w s.i=b;intro c2;by_cases h1:b<97<;>by_cases h2:b≤122<;>by_cases h3:b<48<;>by_cases h4:b≤57<;>by_cases h5:b=95<;>by_cases h6:s.i=0<;>simp_all<;>omega)
  exact hg
 ·have c1:s.i<(s.w.size:Int):=by simpa using c1
  have hg:JZ s s.i=true:=by unfold JZ;(revert c2;unfold yA chA;generalize sD s.w s.i=b;intro c2;by_cases h1:b<97<;>by_cases h2:b≤122<;>by_cases h3:b<48<;>by_cases h4:b≤57<;>by_cases h5:b=95<;>by_cases h6:s.i=0<;>simp_all<;>omega)
  rw [aK (x:=s.i+1) (by omega) (by omega)]
  refine ⟨⟨by simp only;omega,by simp only;omega,h2,h3,fun j hj=>?_⟩,by simp only [Pm];omega⟩
  by_cases hji:(j:Int)<s.i
  ·exact h4 j hji
  ·have:(j:Int)=s.i:=by simp only at hj;omega
   rw [this];exact hg
 ·have c1:(s.w.size:Int)≤s.i:=by simpa using c1
  exact .inl ⟨rfl,fun j hj=>h4 j (by omega)⟩
def EP:bM oV:=⟨0,71,[0,2,3],[],aDF,aCF,fun v _=>⟨gSr (v.getD 0 .junk),vF (v.getD 1 .junk),gI (v.getD 2 .junk)⟩,ZG,fun s r=> {r with w:=s.w},fun s=>s,fun _ s=>s,[.ret,.exit 0],alE,Nr,Pm⟩
abbrev aan:=EP.run
abbrev ab3:=EP.jJ
abbrev ayB:=EP.q
theorem avh (s:oV) (hI:Nr s):(ZG s).all (fun _=>True):=by
 refine ⟨fun c1=>⟨?_,fun _=>trivial,fun _=>trivial⟩,fun _=>trivial⟩
 ·(obtain ⟨h0,h1,h2,h3,h4⟩:=hI;simp at c1;omega)
noncomputable def ajA:Specs:=aZ [(144,akg),(145,JD),(146,JG),(147,wJ),(148,JB)]
theorem asc:∀g S,ajA g=some S→Valid Tryz.prog aS g S:=aT (l:=[(144,akg),(145,JD),(146,JG),(147,wJ),(148,JB)]) ⟨azA,afq,aft,Ry,afo,trivial⟩
theorem ahz:EP.Ok:=⟨fun s=>by kernel_rfl,fun s=>by kernel_rfl,fun s=>rfl,fun s t r=>rfl,fun s=>rfl,fun s=>by kernel_rfl⟩
theorem agw:EP.Pf (akX):=⟨aAk,fun _ _=>rfl,av2,avh⟩
theorem amH:bg Tryz.prog aS (AN 0) (.loop Bc) EP.lp:=bM.snd ahz agw (aP (Γ:=ajA) (K:=dZ) (L:=aC) asc aF Bc (fun b hb=>by rw [show aB Bc=[] by kernel_rfl] at hb;cases hb)) (fun s=>by kernel_rfl)
theorem anJ (s:oV) (hE:alE s):∃s',Nr s'∧akX (ab3 s) s' (aan s):=bM.fin ahz agw s hE
def U9:List LV→T LV
 | [.v (.string w)]=> .req ((w.size:Int)≤9223372036854775807) (.ok (.v (.bool (nameB w))))
 |_=> .no
noncomputable def QW:List LV→T LV:=gQ Tryz.prog Tryz.f122.params.toList U9
theorem aim (w:ByteArray):bV Tryz.prog aS (ajA) dZ (fun i=>if i=2 then EP.lp else aC i) Tryz.f122 [.v (.string w)]=.req (ayB (⟨w,false,(0:Int)⟩:oV)) (.br (iG (ab3 (⟨w,false,(0:Int)⟩:oV)) (.ret)) (.ok (.v (.bool (aan (⟨w,false,(0:Int)⟩:oV)).r))) (.req ((List.length kinds:Int)≤1000) (.br (decide ((inI kinds w)≥0)) (.ok (.v (.bool false))) (.req ((List.length Ey:Int)≤1000) (.br (decide ((inI Ey w)≥0)) (.ok (.v (.bool false))) (.req ((List.length oN:Int)≤1000) (.br (decide ((inI oN w)≥0)) (.ok (.v (.bool false))) (.req ((List.length words:Int)≤1000) (.ok (.v (.bool ((decide ((w.size:Int)≥1))&&((decide ((w.size:Int)≤12))&&(!(decide ((inI words w)≥0)))))))))))))))):=by kernel_rfl
theorem al0:Valid Tryz.prog aS 122 QW:=aH Tryz.func122 rfl asc aF (L:=(fun i=>if i=2 then EP.lp else aC i)) (fun b hb=>by
 rw [show aB _=[Bc] by kernel_rfl] at hb
 simp only [List.mem_cons,List.not_mem_nil,or_false] at hb
 subst hb
 exact amH) (fun args lv h=>by
 unfold U9 at h
 split at h
 ·simp only [canL,canX]
  rw [aim]
  rename_i w
  obtain ⟨hl,rfl⟩:=h
  refine nV ⟨⟨rfl,Int.natCast_nonneg _,hl,trivial⟩,rfl,rfl⟩ (fun hE=>?_)
  obtain ⟨s',_,hq⟩:=anJ _ hE.1
  rw [aix]
  rcases hq with ⟨q1,q2⟩ |⟨q1,q2,j,q3,q4⟩
  ·have q2:KE w.size (fun j=>yA (sD w j) j)=true:=fE.2 q2
   rw [q1,q2,Bool.true_and]
   have k1:=Gm (l:=kinds) (w:=w)
   have k2:=Gm (l:=Ey) (w:=w)
   have k3:=Gm (l:=oN) (w:=w)
   have k4:=Gm (l:=words) (w:=w)
   refine ⟨fun h=>(by cases h),fun _=>⟨by decide,fun c1=>?_,fun c1=>⟨by decide,fun c2=>?_,fun c2=>⟨by decide,fun c3=>?_,fun c3=>⟨by decide,?_⟩⟩⟩⟩⟩
   ·have:FW w=true:=by unfold FW;rw [←k1,c1];rfl
    rw [this]
    simp
    exact rfl
   ·have:FW w=true:=by unfold FW;rw [←k1,c1,←k2,c2];rfl
    rw [this]
    simp
    exact rfl
   ·have:FW w=true:=by unfold FW;rw [←k1,c1,←k2,c2,←k3,c3];rfl
    rw [this]
    simp
    exact rfl
   ·have:FW w=decide (inI words w≥0):=by unfold FW;rw [←k1,c1,←k2,c2,←k3,c3,←k4];rfl
    rw [this]
    exact rfl
  ·rw [q1,q2]
   refine ⟨fun _=>congrArg (fun z=>LV.v (.bool z)) ?_,fun h=>by cases h⟩
   rw [uh (n:=w.size) (f:=fun j=>yA (sD w j) j) j q3 q4]
   rfl
 ·cases h)
end Go.Proofs.YtlihnbimgclogaaGreatDoor
namespace Go.Proofs.YtlihnbimgclogaaGreatDoor
open Go.Sx
def acS:List LV→T LV
 | [.v (.int .i64 n),.v (.int .i64 a),.v (.int .i64 b)]=> .ok (.v (.bool (inB n a b)))
 |_=> .no
noncomputable def JE:List LV→T LV:=gQ Tryz.prog Tryz.f86.params.toList acS
noncomputable def Ul:Specs:=aZ []
theorem abf:∀g S,Ul g=some S→Valid Tryz.prog aS g S:=aT (l:=[]) trivial
theorem aoz (n a b:Int):bV Tryz.prog aS (Ul) dZ aC Tryz.f86 [.v (.int .i64 n),.v (.int .i64 a),.v (.int .i64 b)]=.ok (.v (.bool ((decide (n≥a))&&(decide (n≤b))))):=by kernel_rfl
theorem afr:Valid Tryz.prog aS 86 JE:=aH Tryz.func86 rfl abf aF (aX (by kernel_rfl)) (fun args lv h=>by
 unfold acS at h
 split at h
 ·simp only [canL,canX]
  rw [aoz]
  exact h
 ·cases h)
def acV:List LV→T LV
 | [.v (.agg ⟨[.string nm,.int .i64 at_,.int .i64 ph,.int .i64 mi,.int .i64 ma,.int .i64 st,.int .i64 fb,.int .i64 ow]⟩)]=> .ok (.v (.bool (chW (nm,at_,ph,mi,ma,st,fb,ow))))
 |_=> .no
noncomputable def Yz:List LV→T LV:=gQ Tryz.prog Tryz.f89.params.toList acV
noncomputable def ajz:Specs:=aZ [(86,JE)]
theorem asb:∀g S,ajz g=some S→Valid Tryz.prog aS g S:=aT (l:=[(86,JE)]) ⟨afr,trivial⟩
theorem aoC (nm:ByteArray) (at_ ph mi ma st fb ow:Int):bV Tryz.prog aS (ajz) dZ aC Tryz.f89 [.v (.agg #[.string nm,.int .i64 at_,.int .i64 ph,.int .i64 mi,.int .i64 ma,.int .i64 st,.int .i64 fb,.int .i64 ow])]=.ok (.v (.bool ((inB ph (1:Int) (7:Int))&&((inB mi (1:Int) (80:Int))&&((inB ma mi (80:Int))&&((inB st (1:Int) (80:Int))&&((fb==0) ||(inB fb mi ma)))))))):=by kernel_rfl
theorem atU:Valid Tryz.prog aS 89 Yz:=aH Tryz.func89 rfl asb aF (aX (by kernel_rfl)) (fun args lv h=>by
 unfold acV at h
 split at h
 ·simp only [canL,canX]
  rw [aoC]
  exact h
 ·cases h)
def acT:List LV→T LV
 | [.agg [.xl (.pair .str (.pair (.int .i64) (.pair (.int .i64) (.pair (.int .i64) (.pair (.pair (.int .i64) (.int .i64)) (.pair (.int .i64) (.pair (.int .i64) (.pair (.int .i64) (.pair (.int .i64) (.int .i64)))))))))) cs,.xl (.str) os,.xl (.pair .str (.pair (.int .i64) (.pair (.int .i64) (.int .i64)))) ks,.xl (.pair .str (.pair (.int .i64) (.pair (.int .i64) (.pair (.int .i64) (.pair (.int .i64) (.pair (.int .i64) (.pair (.int .i64) (.int .i64)))))))) gs,.xl (.pair .str (.int .i64)) bs]]=> .ok (.v (.bool (decide (List.length cs≤40∧List.length os≤40∧List.length ks≤40∧List.length gs≤40∧List.length bs≤40))))
 |_=> .no
noncomputable def Yx:List LV→T LV:=gQ Tryz.prog Tryz.f34.params.toList acT
theorem aoA (cs:List Cd) (os:List ByteArray) (ks:List Ko) (gs:List Ch) (bs:List Ba):bV Tryz.prog aS (Ul) dZ aC Tryz.f34 [.agg [.xl dU cs,.xl .str os,.xl dV ks,.xl dP gs,.xl dW bs]]=.ok (.v (.bool ((decide ((List.length cs:Int)≤40))&&((decide ((List.length os:Int)≤40))&&((decide ((List.length ks:Int)≤40))&&((decide ((List.length gs:Int)≤40))&&(decide ((List.length bs:Int)≤40)))))))):=by kernel_rfl
theorem atS:Valid Tryz.prog aS 34 Yx:=aH Tryz.func34 rfl abf aF (aX (by kernel_rfl)) (fun args lv h=>by
 unfold acT at h
 split at h
 ·simp only [canL,canX]
  rw [aoA]
  obtain rfl:=h
  refine congrArg (fun z=>LV.v (.bool z)) ?_
  rw [Bool.eq_iff_iff]
  simp only [Bool.and_eq_true,decide_eq_true_eq]
  omega
 ·cases h)
def acU:List LV→T LV
 | [.v (.agg ⟨[.string nm,.int .i64 uQ,.int .i64 li,.int .i64 ne,.int .i64 ra,.int .i64 he,.int .i64 am,.int .i64 mo,.int .i64 ga,.int .i64 lo,.int .i64 de]⟩),.v (.int .i64 i)]=> .req (0≤i∧i≤1000) (.ok (.v (.bool (Ew i (nm,uQ,li,ne,(ra,he),am,mo,ga,lo,de)))))
 |_=> .no
noncomputable def Yy:List LV→T LV:=gQ Tryz.prog Tryz.f88.params.toList acU
theorem aoB (nm:ByteArray) (uQ li ne ra he am mo ga lo de i:Int):bV Tryz.prog aS (ajz) dZ aC Tryz.f88 [.v (.agg #[.string nm,.int .i64 uQ,.int .i64 li,.int .i64 ne,.int .i64 ra,.int .i64 he,.int .i64 am,.int .i64 mo,.int .i64 ga,.int .i64 lo,.int .i64 de]),.v (.int .i64 i)]=.br ((!(inB li (1:Int) (1000:Int))) ||((!(inB ne (1:Int) (1000:Int))) ||(if i==0 then (uQ !=(-1)) ||((decide (i>0))&&(!(inB uQ (0:Int) (IntKind.i64.wrap (i-1))))) else (decide (i>0))&&(!(inB uQ (0:Int) (IntKind.i64.wrap (i-1))))))) (.ok (.v (.bool false))) (.br ((!((ra==0)&&(he==0)))&&((!(inB ra (1:Int) (1000:Int))) ||(!(inB he (0:Int) (1000000:Int))))) (.ok (.v (.bool false))) (.ok (.v (.bool (((am==0)&&((mo==0)&&((ga==0)&&((lo==0)&&(de==0))))) ||((inB am (0:Int) (200000:Int))&&((inB mo (IntKind.i64.wrap (am+1)) (200000:Int))&&((inB ga (0:Int) (1000:Int))&&((inB lo (0:Int) (1000:Int))&&(inB de (1:Int) (1000000:Int))))))))))):=by kernel_rfl
theorem atT:Valid Tryz.prog aS 88 Yy:=aH Tryz.func88 rfl asb aF (aX (by kernel_rfl)) (fun args lv h=>by
 unfold acU at h
 split at h
 ·simp only [canL,canX]
  rw [aoB]
  rename_i nm uQ li ne ra he am mo ga lo de i
  obtain ⟨⟨h0,h1⟩,rfl⟩:=h
  have hw:IntKind.i64.wrap (i-1)=i-1:=aK (by omega) (by omega)
  rw [hw]
  have hU:(if i==0 then (uQ !=(-1)) ||((decide (i>0))&&(!(inB uQ (0:Int) (i-1)))) else (decide (i>0))&&(!(inB uQ (0:Int) (i-1))))=!(if i=0 then uQ==-1 else inB uQ 0 (i-1)):=by
   by_cases e:i=0
   ·subst e
    simp
    rfl
   ·rw [if_neg (by simpa using e),if_neg e,decide_eq_true (by omega),Bool.true_and]
  rw [hU]
  unfold Ew
  simp only
  generalize (if i=0 then uQ==-1 else inB uQ 0 (i-1))=u
  generalize inB li 1 1000=a
  generalize inB ne 1 1000=b
  have hC:((((am==0)&&((mo==0)&&((ga==0)&&((lo==0)&&(de==0))))) ||((inB am (0:Int) (200000:Int))&&((inB mo (IntKind.i64.wrap (am+1)) (200000:Int))&&((inB ga (0:Int) (1000:Int))&&((inB lo (0:Int) (1000:Int))&&(inB de (1:Int) (1000000:Int))))))))=QL (am,mo,ga,lo,de):=by
   unfold QL cbZ
   simp only
   congr 1
   by_cases ha:inB am 0 200000=true
   ·have:=dB.1 ha
    rw [aK (x:=am+1) (by omega) (by omega),ha,Bool.true_and,Bool.eq_iff_iff]
    simp only [Bool.and_eq_true,dB,decide_eq_true_eq]
    omega
   ·have ha:inB am 0 200000=false:=by simpa using ha
    rw [ha,Bool.false_and,eq_comm,Bool.eq_false_iff]
    have:=aiW.1 ha
    simp only [ne_eq,Bool.and_eq_true,dB,decide_eq_true_eq]
    omega
  rw [hC]
  generalize QL (am,mo,ga,lo,de)=z
  generalize ((ra==0)&&(he==0))=f
  generalize inB ra 1 1000=r
  generalize inB he 0 1000000=q
  cases u<;>cases a<;>cases b<;>cases z<;>cases f<;>cases r<;>cases q<;>simp [T.all]
 ·cases h)
structure uO where
 l:List ByteArray
 w:ByteArray
 r:Bool
 i:Int
def aFb (s:uO):List LV:=[.xl .str s.l,.v (.string s.w),.v (.bool s.r),.v (.int .i64 s.i)]
def aE3 (_:uO):List aU:=[]
noncomputable def Gw:Code:=((aB (Tryz.f123.body.getD .skip))[0]?).getD .skip
def afB (s:uO):T (Rd uO):=
 .br (decide (s.i<(List.length s.l:Int))) (.req (0≤s.i∧s.i<(List.length s.l:Int)) (.br ((gS s.l s.i).toList==s.w.toList) (.ok (.stop (.ret) {s with r:=true})) (.ok (.next {s with i:=(IntKind.i64.wrap (s.i+1))})))) (.ok (.stop (.exit 0) s))
abbrev apQ (s:uO):=(afB s).rd s
def ayI (s:uO):Prop:=s.i=0∧(List.length s.l:Int)≤1000∧True
def alr (s:uO):Prop:=0≤s.i∧s.i≤(List.length s.l:Int)∧(List.length s.l:Int)≤1000∧True
def aaN (s:uO):Nat:=((List.length s.l:Int)-s.i).toNat
def aCh (_:Ex) (_ _:uO):Prop:=True
theorem aEC:∀s,ayI s→alr s:=by
 intro s h
 obtain ⟨h0,h1,h2⟩:=h
 exact ⟨by omega,by omega,h1,h2⟩
theorem aAt (s:uO) (hI:alr s):bJ (fun s'=>alr s'∧aaN s'<aaN s) (fun x s'=>aCh x s s') (apQ s):=by
 unfold apQ afB
 dsimp only [T.rd,T.rl]
 obtain ⟨h0,h1,h2,h3⟩:=hI
 refine au (fun c1=>?_) (fun c1=>?_)
 ·refine au (fun c2=>?_) (fun c2=>?_)
  ·trivial
  ·have c1:s.i<(List.length s.l:Int):=by simpa using c1
   rw [aK (x:=s.i+1) (by omega) (by omega)]
   exact ⟨⟨by simp only;omega,by simp only;omega,h2,h3⟩,by simp only [aaN];omega⟩
 ·trivial
def VT:bM uO:=⟨0,18,[0,1,4,5],[],aFb,aE3,fun v _=>⟨aQ .str (v.getD 0 .junk),gSr (v.getD 1 .junk),vF (v.getD 2 .junk),gI (v.getD 3 .junk)⟩,afB,fun s r=> {r with l:=s.l,w:=s.w},fun s=>s,fun _ s=>s,[.ret,.exit 0],ayI,alr,aaN⟩
abbrev afV:=VT.run
abbrev ajP:=VT.jJ
abbrev aCk:=VT.q
theorem aAc (s:uO) (hI:alr s):(afB s).all (fun _=>True):=by
 refine ⟨fun c1=>⟨?_,fun _=>trivial,fun _=>trivial⟩,fun _=>trivial⟩
 ·(obtain ⟨h0,h1,h2,h3⟩:=hI;simp only [decide_eq_true_eq] at c1;omega)
theorem aro:VT.Ok:=⟨fun s=>by kernel_rfl,fun s=>by kernel_rfl,fun s=>rfl,fun s t r=>rfl,fun s=>rfl,fun s=>by kernel_rfl⟩
theorem ard:VT.Pf (aCh):=⟨aEC,fun _ _=>rfl,aAt,aAc⟩
theorem auL:bg Tryz.prog aS (AN 0) (.loop Gw) VT.lp:=bM.snd aro ard (aP (Γ:=Ul) (K:=dZ) (L:=aC) abf aF Gw (fun b hb=>by rw [show aB Gw=[] by kernel_rfl] at hb;cases hb)) (fun s=>by kernel_rfl)
theorem awc (s:uO) (hE:ayI s):(fun (x:Ex) (s':uO) (v:Bool)=>(x=.ret∧s'.r=true∧v=true)∨(x=.exit 0∧v=false)) (ajP s) (afV s) ((fun s:uO=>isIn (s.l.drop s.i.toNat) s.w) s):=by
 exact bM.wC aro ard (fun s:uO=>isIn (s.l.drop s.i.toNat) s.w) (fun x s' v=>(x=.ret∧s'.r=true∧v=true)∨(x=.exit 0∧v=false)) (fun s hI=>by
  show bJ _ _ (apQ s)
  unfold apQ afB
  dsimp only [T.rd,T.rl]
  obtain ⟨h0,h1,h2,h3⟩:=hI
  have ic:∀(x:ByteArray) xs,isIn (x::xs) s.w=(s.w==x ||isIn xs s.w):=fun _ _=>rfl
  refine au (fun c1=>au (fun c2=>?_) (fun c2=>?_)) (fun c1=>?_)
  ·have c1:s.i<(List.length s.l:Int):=by simpa using c1
   rw [tX] at c2
   have c2:s.w==gS s.l s.i:=by simpa using (eq_of_beq c2).symm
   refine .inl ⟨rfl,rfl,?_⟩
   try simp only
   rw [(uD h0 c1).1,ic,c2]
   rfl
  ·have c1:s.i<(List.length s.l:Int):=by simpa using c1
   rw [tX] at c2
   have c2:(s.w==gS s.l s.i)=false:=by
    have:¬gS s.l s.i=s.w:=by simpa using c2
    simpa using fun e=>this e.symm
   rw [aK (x:=s.i+1) (by omega) (by omega)]
   show isIn _ _=isIn _ _
   rw [(uD h0 c1).1,ic,c2,Bool.false_or]
  ·have c1:(List.length s.l:Int)≤s.i:=by simpa using c1
   refine .inr ⟨rfl,?_⟩
   rw [List.drop_eq_nil_of_le (by omega)]
   rfl) s hE
def akw:List LV→T LV
 | [.xl (.str) l,.v (.string w)]=> .req ((List.length l:Int)≤1000) (.ok (.v (.bool (isIn l w))))
 |_=> .no
noncomputable def akh:List LV→T LV:=gQ Tryz.prog Tryz.f123.params.toList akw
theorem awD (l:List ByteArray) (w:ByteArray):bV Tryz.prog aS (Ul) dZ (fun i=>if i=2 then VT.lp else aC i) Tryz.f123 [.xl .str l,.v (.string w)]=.req (aCk (⟨l,w,false,(0:Int)⟩:uO)) (.br (iG (ajP (⟨l,w,false,(0:Int)⟩:uO)) (.ret)) (.ok (.v (.bool (afV (⟨l,w,false,(0:Int)⟩:uO)).r))) (.ok (.v (.bool false)))):=by kernel_rfl
theorem azB:Valid Tryz.prog aS 123 akh:=aH Tryz.func123 rfl abf aF (L:=(fun i=>if i=2 then VT.lp else aC i)) (fun b hb=>by
 rw [show aB _=[Gw] by kernel_rfl] at hb
 simp only [List.mem_cons,List.not_mem_nil,or_false] at hb
 subst hb
 exact auL) (fun args lv h=>by
 unfold akw at h
 split at h
 ·simp only [canL,canX]
  rw [awD]
  obtain ⟨hl,rfl⟩:=h
  refine nV ⟨⟨rfl,hl,trivial⟩,rfl,rfl⟩ (fun hE=>?_)
  rcases awc _ hE.1 with ⟨q1,q2,q3⟩ |⟨q1,q2⟩
  ·rw [q1,q2]
   exact ⟨fun _=>congrArg (fun z=>LV.v (.bool z)) q3.symm,fun h=>by cases h⟩
  ·rw [q1]
   exact ⟨fun h=>(by cases h),fun _=>congrArg (fun z=>LV.v (.bool z)) q2.symm⟩
 ·cases h)
structure iD where
 r:Bool
 i:Int
 ah:List Cd
 aA:List ByteArray
 ai:List Ko
 aj:List Ch
 aI:List Ba
 l:List ByteArray
def aDL (s:iD):List LV:=[.own 0 0,.v (.bool s.r),.os 1 1 0 (List.length s.l),.v (.int .i64 s.i)]
def aCL (s:iD):List aU:=[⟨[.xl dU s.ah,.xl .str s.aA,.xl dV s.ai,.xl dP s.aj,.xl dW s.aI],28,.cl,false⟩,⟨[],9,.vec .str s.l,false⟩]
noncomputable def Bj:Code:=((aB (Tryz.f87.body.getD .skip))[0]?).getD .skip
def RY (s:iD):T (Rd iD):=
 .br (decide (s.i<(List.length s.ah:Int))) (.req (0≤s.i∧s.i<(List.length s.ah:Int)) (.req (0+(List.length s.l)=List.length s.l∧((List.length s.l+List.length ([(fP s.ah s.i).1]):Nat):Int)*16≤2^47∧((List.length s.l+List.length ([(fP s.ah s.i).1]):Nat):Int)<2^62) (.req (0=0∧(List.length s.l+List.length ([(fP s.ah s.i).1]))=List.length (s.l++([(fP s.ah s.i).1]))) (.ok (.next {s with i:=(IntKind.i64.wrap (s.i+1)),l:=(s.l++([(fP s.ah s.i).1]))}))))) (.rl s.l (.ok (.stop (.exit 0) s)))
abbrev abA (s:iD):=(RY s).rd s
def alK (s:iD):Prop:=s.i=0∧(List.length s.ah:Int)≤1000∧(s.l.length:Int)≤5000+s.i
def Vu (s:iD):Prop:=0≤s.i∧s.i≤(List.length s.ah:Int)∧(List.length s.ah:Int)≤1000∧(s.l.length:Int)≤5000+s.i
def Pz (s:iD):Nat:=((List.length s.ah:Int)-s.i).toNat
def atp (_:Ex) (_ _:iD):Prop:=True
theorem aAr:∀s,alK s→Vu s:=by
 intro s h
 obtain ⟨h0,h1,h2⟩:=h
 exact ⟨by omega,by omega,h1,h2⟩
theorem av8 (s:iD) (hI:Vu s):bJ (fun s'=>Vu s'∧Pz s'<Pz s) (fun x s'=>atp x s s') (abA s):=by
 unfold abA RY
 dsimp only [T.rd,T.rl]
 obtain ⟨h0,h1,h2,h3⟩:=hI
 refine au (fun c1=>?_) (fun c1=>?_)
 ·have c1:s.i<(List.length s.ah:Int):=by simpa using c1
  rw [aK (x:=s.i+1) (by omega) (by omega)]
  exact ⟨⟨by simp only;omega,by simp only;omega,h2,by simp only [List.length_append,List.length_cons,List.length_nil];omega⟩,by simp only [Pz];omega⟩
 ·trivial
def EW:bM iD:=⟨0,112,[1,2,3,4],[.nl 3 9 .str],aDL,aCL,fun v b=>⟨vF (v.getD 1 .junk),gI (v.getD 3 .junk),aQ dU (aY (aO b 0) 0),aQ .str (aY (aO b 0) 1),aQ dV (aY (aO b 0) 2),aQ dP (aY (aO b 0) 3),aQ dW (aY (aO b 0) 4),iR .str (aO b 1)⟩,RY,fun s r=> {r with r:=s.r,ah:=s.ah,aA:=s.aA,ai:=s.ai,aj:=s.aj,aI:=s.aI},fun s=>s,fun _ s=>s,[.exit 0],alK,Vu,Pz⟩
abbrev jE:=EW.run
abbrev apZ:=EW.jJ
abbrev ayH:=EW.q
theorem avn (s:iD) (hI:Vu s):(RY s).all (fun _=>True):=by
 refine ⟨fun c1=>⟨?_,?_,?_,trivial⟩,fun c1=>⟨⟨rfl,rfl⟩,trivial⟩⟩
 iterate 2 · (obtain ⟨h0,h1,h2,h3⟩:=hI;simp only [decide_eq_true_eq] at c1;first|omega|(refine ⟨by omega,?_,?_⟩<;>simp only [List.length_cons,List.length_nil]<;>omega))
 ·exact ⟨rfl,by simp⟩
noncomputable def Em:Specs:=aZ [(122,QW),(123,akh)]
theorem IX:∀g S,Em g=some S→Valid Tryz.prog aS g S:=aT (l:=[(122,QW),(123,akh)]) ⟨al0,azB,trivial⟩
theorem ahF:EW.Ok:=⟨fun s=>by kernel_rfl,fun s=>by kernel_rfl,fun s=>rfl,fun s t r=>rfl,fun s=>rfl,fun s=>by kernel_rfl⟩
theorem agC:EW.Pf (atp):=⟨aAr,fun _ _=>rfl,av8,avn⟩
theorem amO:bg Tryz.prog aS (AN 0) (.loop Bj) EW.lp:=bM.snd ahF agC (aP (Γ:=Em) (K:=dZ) (L:=aC) IX aF Bj (fun b hb=>by rw [show aB Bj=[] by kernel_rfl] at hb;cases hb)) (fun s=>by kernel_rfl)
theorem anP (s:iD) (hE:alK s):(fun (x:Ex) (s':iD) (v:List ByteArray)=>x=.exit 0∧s'.l=v) (apZ s) (jE s) ((fun s:iD=>s.l++(s.ah.drop s.i.toNat).map (·.1)) s):=by
 exact bM.wC ahF agC (fun s:iD=>s.l++(s.ah.drop s.i.toNat).map (·.1)) (fun x s' v=>x=.exit 0∧s'.l=v) (fun s hI=>by
  show bJ _ _ (abA s)
  unfold abA RY
  dsimp only [T.rd,T.rl]
  obtain ⟨h0,h1,h2,h3⟩:=hI
  refine au (fun c1=>?_) (fun c1=>?_)
  ·have c1:s.i<(List.length s.ah:Int):=by simpa using c1
   rw [aK (x:=s.i+1) (by omega) (by omega)]
   show _++_=_++_
   try simp only
   rw [(Us h0 c1).1]
   simp
  ·have c1:(List.length s.ah:Int)≤s.i:=by simpa using c1
   refine ⟨rfl,?_⟩
   rw [List.drop_eq_nil_of_le (by omega)]
   simp) s hE
structure iP where
 r:Bool
 i:Int
 ah:List Cd
 aA:List ByteArray
 ai:List Ko
 aj:List Ch
 aI:List Ba
 l:List ByteArray
def aDK (s:iP):List LV:=[.own 0 0,.v (.bool s.r),.os 1 1 0 (List.length s.l),.v (.int .i64 s.i)]
def aCK (s:iP):List aU:=[⟨[.xl dU s.ah,.xl .str s.aA,.xl dV s.ai,.xl dP s.aj,.xl dW s.aI],28,.cl,false⟩,⟨[],9,.vec .str s.l,false⟩]
noncomputable def Bh:Code:=((aB (Tryz.f87.body.getD .skip))[1]?).getD .skip
def RX (s:iP):T (Rd iP):=
 .br (decide (s.i<(List.length s.aA:Int))) (.req (0≤s.i∧s.i<(List.length s.aA:Int)) (.req (0+(List.length s.l)=List.length s.l∧((List.length s.l+List.length ([(gS s.aA s.i)]):Nat):Int)*16≤2^47∧((List.length s.l+List.length ([(gS s.aA s.i)]):Nat):Int)<2^62) (.req (0=0∧(List.length s.l+List.length ([(gS s.aA s.i)]))=List.length (s.l++([(gS s.aA s.i)]))) (.ok (.next {s with i:=(IntKind.i64.wrap (s.i+1)),l:=(s.l++([(gS s.aA s.i)]))}))))) (.rl s.l (.ok (.stop (.exit 2) s)))
abbrev abz (s:iP):=(RX s).rd s
def alJ (s:iP):Prop:=s.i=0∧(List.length s.aA:Int)≤1000∧(s.l.length:Int)≤5000+s.i
def Vt (s:iP):Prop:=0≤s.i∧s.i≤(List.length s.aA:Int)∧(List.length s.aA:Int)≤1000∧(s.l.length:Int)≤5000+s.i
def Py (s:iP):Nat:=((List.length s.aA:Int)-s.i).toNat
def ato (_:Ex) (_ _:iP):Prop:=True
theorem aAq:∀s,alJ s→Vt s:=by
 intro s h
 obtain ⟨h0,h1,h2⟩:=h
 exact ⟨by omega,by omega,h1,h2⟩
theorem av7 (s:iP) (hI:Vt s):bJ (fun s'=>Vt s'∧Py s'<Py s) (fun x s'=>ato x s s') (abz s):=by
 unfold abz RX
 dsimp only [T.rd,T.rl]
 obtain ⟨h0,h1,h2,h3⟩:=hI
 refine au (fun c1=>?_) (fun c1=>?_)
 ·have c1:s.i<(List.length s.aA:Int):=by simpa using c1
  rw [aK (x:=s.i+1) (by omega) (by omega)]
  exact ⟨⟨by simp only;omega,by simp only;omega,h2,by simp only [List.length_append,List.length_cons,List.length_nil];omega⟩,by simp only [Py];omega⟩
 ·trivial
def EU:bM iP:=⟨0,112,[1,2,3,5],[],aDK,aCK,fun v b=>⟨vF (v.getD 1 .junk),gI (v.getD 3 .junk),aQ dU (aY (aO b 0) 0),aQ .str (aY (aO b 0) 1),aQ dV (aY (aO b 0) 2),aQ dP (aY (aO b 0) 3),aQ dW (aY (aO b 0) 4),iR .str (aO b 1)⟩,RX,fun s r=> {r with r:=s.r,ah:=s.ah,aA:=s.aA,ai:=s.ai,aj:=s.aj,aI:=s.aI},fun s=>s,fun _ s=>s,[.exit 2],alJ,Vt,Py⟩
abbrev kS:=EU.run
abbrev apY:=EU.jJ
abbrev ayG:=EU.q
theorem avm (s:iP) (hI:Vt s):(RX s).all (fun _=>True):=by
 refine ⟨fun c1=>⟨?_,?_,?_,trivial⟩,fun c1=>⟨⟨rfl,rfl⟩,trivial⟩⟩
 iterate 2 · (obtain ⟨h0,h1,h2,h3⟩:=hI;simp only [decide_eq_true_eq] at c1;first|omega|(refine ⟨by omega,?_,?_⟩<;>simp only [List.length_cons,List.length_nil]<;>omega))
 ·exact ⟨rfl,by simp⟩
theorem ahE:EU.Ok:=⟨fun s=>by kernel_rfl,fun s=>by kernel_rfl,fun s=>rfl,fun s t r=>rfl,fun s=>rfl,fun s=>by kernel_rfl⟩
theorem agB:EU.Pf (ato):=⟨aAq,fun _ _=>rfl,av7,avm⟩
theorem amN:bg Tryz.prog aS (AN 0) (.loop Bh) EU.lp:=bM.snd ahE agB (aP (Γ:=Em) (K:=dZ) (L:=aC) IX aF Bh (fun b hb=>by rw [show aB Bh=[] by kernel_rfl] at hb;cases hb)) (fun s=>by kernel_rfl)
theorem anO (s:iP) (hE:alJ s):(fun (x:Ex) (s':iP) (v:List ByteArray)=>x=.exit 2∧s'.l=v) (apY s) (kS s) ((fun s:iP=>s.l++(s.aA.drop s.i.toNat)) s):=by
 exact bM.wC ahE agB (fun s:iP=>s.l++(s.aA.drop s.i.toNat)) (fun x s' v=>x=.exit 2∧s'.l=v) (fun s hI=>by
  show bJ _ _ (abz s)
  unfold abz RX
  dsimp only [T.rd,T.rl]
  obtain ⟨h0,h1,h2,h3⟩:=hI
  refine au (fun c1=>?_) (fun c1=>?_)
  ·have c1:s.i<(List.length s.aA:Int):=by simpa using c1
   rw [aK (x:=s.i+1) (by omega) (by omega)]
   show _++_=_++_
   try simp only
   rw [(uD h0 c1).1]
   simp
  ·have c1:(List.length s.aA:Int)≤s.i:=by simpa using c1
   refine ⟨rfl,?_⟩
   rw [List.drop_eq_nil_of_le (by omega)]
   simp) s hE
structure jy where
 r:Bool
 i:Int
 ah:List Cd
 aA:List ByteArray
 ai:List Ko
 aj:List Ch
 aI:List Ba
 l:List ByteArray
def aDJ (s:jy):List LV:=[.own 0 0,.v (.bool s.r),.os 1 1 0 (List.length s.l),.v (.int .i64 s.i)]
def aCJ (s:jy):List aU:=[⟨[.xl dU s.ah,.xl .str s.aA,.xl dV s.ai,.xl dP s.aj,.xl dW s.aI],28,.cl,false⟩,⟨[],9,.vec .str s.l,false⟩]
noncomputable def Bg:Code:=((aB (Tryz.f87.body.getD .skip))[2]?).getD .skip
def RV (s:jy):T (Rd jy):=
 .br (decide (s.i<(List.length s.ai:Int))) (.req (0≤s.i∧s.i<(List.length s.ai:Int)) (.req (0+(List.length s.l)=List.length s.l∧((List.length s.l+List.length ([(ni s.ai s.i).1]):Nat):Int)*16≤2^47∧((List.length s.l+List.length ([(ni s.ai s.i).1]):Nat):Int)<2^62) (.req (0=0∧(List.length s.l+List.length ([(ni s.ai s.i).1]))=List.length (s.l++([(ni s.ai s.i).1]))) (.ok (.next {s with i:=(IntKind.i64.wrap (s.i+1)),l:=(s.l++([(ni s.ai s.i).1]))}))))) (.rl s.l (.ok (.stop (.exit 4) s)))
abbrev aby (s:jy):=(RV s).rd s
def alI (s:jy):Prop:=s.i=0∧(List.length s.ai:Int)≤1000∧(s.l.length:Int)≤5000+s.i
def Vr (s:jy):Prop:=0≤s.i∧s.i≤(List.length s.ai:Int)∧(List.length s.ai:Int)≤1000∧(s.l.length:Int)≤5000+s.i
def Px (s:jy):Nat:=((List.length s.ai:Int)-s.i).toNat
def atn (_:Ex) (_ _:jy):Prop:=True
theorem aAp:∀s,alI s→Vr s:=by
 intro s h
 obtain ⟨h0,h1,h2⟩:=h
 exact ⟨by omega,by omega,h1,h2⟩
theorem av6 (s:jy) (hI:Vr s):bJ (fun s'=>Vr s'∧Px s'<Px s) (fun x s'=>atn x s s') (aby s):=by
 unfold aby RV
 dsimp only [T.rd,T.rl]
 obtain ⟨h0,h1,h2,h3⟩:=hI
 refine au (fun c1=>?_) (fun c1=>?_)
 ·have c1:s.i<(List.length s.ai:Int):=by simpa using c1
  rw [aK (x:=s.i+1) (by omega) (by omega)]
  exact ⟨⟨by simp only;omega,by simp only;omega,h2,by simp only [List.length_append,List.length_cons,List.length_nil];omega⟩,by simp only [Px];omega⟩
 ·trivial
def ET:bM jy:=⟨0,112,[1,2,3,6],[],aDJ,aCJ,fun v b=>⟨vF (v.getD 1 .junk),gI (v.getD 3 .junk),aQ dU (aY (aO b 0) 0),aQ .str (aY (aO b 0) 1),aQ dV (aY (aO b 0) 2),aQ dP (aY (aO b 0) 3),aQ dW (aY (aO b 0) 4),iR .str (aO b 1)⟩,RV,fun s r=> {r with r:=s.r,ah:=s.ah,aA:=s.aA,ai:=s.ai,aj:=s.aj,aI:=s.aI},fun s=>s,fun _ s=>s,[.exit 4],alI,Vr,Px⟩
abbrev nZ:=ET.run
abbrev apX:=ET.jJ
abbrev ayF:=ET.q
theorem avl (s:jy) (hI:Vr s):(RV s).all (fun _=>True):=by
 refine ⟨fun c1=>⟨?_,?_,?_,trivial⟩,fun c1=>⟨⟨rfl,rfl⟩,trivial⟩⟩
 iterate 2 · (obtain ⟨h0,h1,h2,h3⟩:=hI;simp only [decide_eq_true_eq] at c1;first|omega|(refine ⟨by omega,?_,?_⟩<;>simp only [List.length_cons,List.length_nil]<;>omega))
 ·exact ⟨rfl,by simp⟩
theorem ahD:ET.Ok:=⟨fun s=>by kernel_rfl,fun s=>by kernel_rfl,fun s=>rfl,fun s t r=>rfl,fun s=>rfl,fun s=>by kernel_rfl⟩
theorem agA:ET.Pf (atn):=⟨aAp,fun _ _=>rfl,av6,avl⟩
theorem amM:bg Tryz.prog aS (AN 0) (.loop Bg) ET.lp:=bM.snd ahD agA (aP (Γ:=Em) (K:=dZ) (L:=aC) IX aF Bg (fun b hb=>by rw [show aB Bg=[] by kernel_rfl] at hb;cases hb)) (fun s=>by kernel_rfl)
theorem anN (s:jy) (hE:alI s):(fun (x:Ex) (s':jy) (v:List ByteArray)=>x=.exit 4∧s'.l=v) (apX s) (nZ s) ((fun s:jy=>s.l++(s.ai.drop s.i.toNat).map (·.1)) s):=by
 exact bM.wC ahD agA (fun s:jy=>s.l++(s.ai.drop s.i.toNat).map (·.1)) (fun x s' v=>x=.exit 4∧s'.l=v) (fun s hI=>by
  show bJ _ _ (aby s)
  unfold aby RV
  dsimp only [T.rd,T.rl]
  obtain ⟨h0,h1,h2,h3⟩:=hI
  refine au (fun c1=>?_) (fun c1=>?_)
  ·have c1:s.i<(List.length s.ai:Int):=by simpa using c1
   rw [aK (x:=s.i+1) (by omega) (by omega)]
   show _++_=_++_
   try simp only
   rw [(I8 h0 c1).1]
   simp
  ·have c1:(List.length s.ai:Int)≤s.i:=by simpa using c1
   refine ⟨rfl,?_⟩
   rw [List.drop_eq_nil_of_le (by omega)]
   simp) s hE
structure jO where
 r:Bool
 i:Int
 ah:List Cd
 aA:List ByteArray
 ai:List Ko
 aj:List Ch
 aI:List Ba
 l:List ByteArray
def aDI (s:jO):List LV:=[.own 0 0,.v (.bool s.r),.os 1 1 0 (List.length s.l),.v (.int .i64 s.i)]
def aCI (s:jO):List aU:=[⟨[.xl dU s.ah,.xl .str s.aA,.xl dV s.ai,.xl dP s.aj,.xl dW s.aI],28,.cl,false⟩,⟨[],9,.vec .str s.l,false⟩]
noncomputable def Bf:Code:=((aB (Tryz.f87.body.getD .skip))[3]?).getD .skip
def RU (s:jO):T (Rd jO):=
 .br (decide (s.i<(List.length s.aj:Int))) (.req (0≤s.i∧s.i<(List.length s.aj:Int)) (.req (0+(List.length s.l)=List.length s.l∧((List.length s.l+List.length ([(bn s.aj s.i).1]):Nat):Int)*16≤2^47∧((List.length s.l+List.length ([(bn s.aj s.i).1]):Nat):Int)<2^62) (.req (0=0∧(List.length s.l+List.length ([(bn s.aj s.i).1]))=List.length (s.l++([(bn s.aj s.i).1]))) (.ok (.next {s with i:=(IntKind.i64.wrap (s.i+1)),l:=(s.l++([(bn s.aj s.i).1]))}))))) (.rl s.l (.ok (.stop (.exit 6) s)))
abbrev abx (s:jO):=(RU s).rd s
def alH (s:jO):Prop:=s.i=0∧(List.length s.aj:Int)≤1000∧(s.l.length:Int)≤5000+s.i
def Vq (s:jO):Prop:=0≤s.i∧s.i≤(List.length s.aj:Int)∧(List.length s.aj:Int)≤1000∧(s.l.length:Int)≤5000+s.i
def Pv (s:jO):Nat:=((List.length s.aj:Int)-s.i).toNat
def atm (_:Ex) (_ _:jO):Prop:=True
theorem aAo:∀s,alH s→Vq s:=by
 intro s h
 obtain ⟨h0,h1,h2⟩:=h
 exact ⟨by omega,by omega,h1,h2⟩
theorem av5 (s:jO) (hI:Vq s):bJ (fun s'=>Vq s'∧Pv s'<Pv s) (fun x s'=>atm x s s') (abx s):=by
 unfold abx RU
 dsimp only [T.rd,T.rl]
 obtain ⟨h0,h1,h2,h3⟩:=hI
 refine au (fun c1=>?_) (fun c1=>?_)
 ·have c1:s.i<(List.length s.aj:Int):=by simpa using c1
  rw [aK (x:=s.i+1) (by omega) (by omega)]
  exact ⟨⟨by simp only;omega,by simp only;omega,h2,by simp only [List.length_append,List.length_cons,List.length_nil];omega⟩,by simp only [Pv];omega⟩
 ·trivial
def ES:bM jO:=⟨0,112,[1,2,3,7],[],aDI,aCI,fun v b=>⟨vF (v.getD 1 .junk),gI (v.getD 3 .junk),aQ dU (aY (aO b 0) 0),aQ .str (aY (aO b 0) 1),aQ dV (aY (aO b 0) 2),aQ dP (aY (aO b 0) 3),aQ dW (aY (aO b 0) 4),iR .str (aO b 1)⟩,RU,fun s r=> {r with r:=s.r,ah:=s.ah,aA:=s.aA,ai:=s.ai,aj:=s.aj,aI:=s.aI},fun s=>s,fun _ s=>s,[.exit 6],alH,Vq,Pv⟩
abbrev qR:=ES.run
abbrev apW:=ES.jJ
abbrev ayE:=ES.q
theorem avk (s:jO) (hI:Vq s):(RU s).all (fun _=>True):=by
 refine ⟨fun c1=>⟨?_,?_,?_,trivial⟩,fun c1=>⟨⟨rfl,rfl⟩,trivial⟩⟩
 iterate 2 · (obtain ⟨h0,h1,h2,h3⟩:=hI;simp only [decide_eq_true_eq] at c1;first|omega|(refine ⟨by omega,?_,?_⟩<;>simp only [List.length_cons,List.length_nil]<;>omega))
 ·exact ⟨rfl,by simp⟩
theorem ahC:ES.Ok:=⟨fun s=>by kernel_rfl,fun s=>by kernel_rfl,fun s=>rfl,fun s t r=>rfl,fun s=>rfl,fun s=>by kernel_rfl⟩
theorem agz:ES.Pf (atm):=⟨aAo,fun _ _=>rfl,av5,avk⟩
theorem amK:bg Tryz.prog aS (AN 0) (.loop Bf) ES.lp:=bM.snd ahC agz (aP (Γ:=Em) (K:=dZ) (L:=aC) IX aF Bf (fun b hb=>by rw [show aB Bf=[] by kernel_rfl] at hb;cases hb)) (fun s=>by kernel_rfl)
theorem anM (s:jO) (hE:alH s):(fun (x:Ex) (s':jO) (v:List ByteArray)=>x=.exit 6∧s'.l=v) (apW s) (qR s) ((fun s:jO=>s.l++(s.aj.drop s.i.toNat).map (·.1)) s):=by
 exact bM.wC ahC agz (fun s:jO=>s.l++(s.aj.drop s.i.toNat).map (·.1)) (fun x s' v=>x=.exit 6∧s'.l=v) (fun s hI=>by
  show bJ _ _ (abx s)
  unfold abx RU
  dsimp only [T.rd,T.rl]
  obtain ⟨h0,h1,h2,h3⟩:=hI
  refine au (fun c1=>?_) (fun c1=>?_)
  ·have c1:s.i<(List.length s.aj:Int):=by simpa using c1
   rw [aK (x:=s.i+1) (by omega) (by omega)]
   show _++_=_++_
   try simp only
   rw [(Ur h0 c1).1]
   simp
  ·have c1:(List.length s.aj:Int)≤s.i:=by simpa using c1
   refine ⟨rfl,?_⟩
   rw [List.drop_eq_nil_of_le (by omega)]
   simp) s hE
structure kN where
 r:Bool
 i:Int
 ah:List Cd
 aA:List ByteArray
 ai:List Ko
 aj:List Ch
 aI:List Ba
 l:List ByteArray
def aDH (s:kN):List LV:=[.own 0 0,.v (.bool s.r),.os 1 1 0 (List.length s.l),.v (.int .i64 s.i)]
def aCH (s:kN):List aU:=[⟨[.xl dU s.ah,.xl .str s.aA,.xl dV s.ai,.xl dP s.aj,.xl dW s.aI],28,.cl,false⟩,⟨[],9,.vec .str s.l,false⟩]
noncomputable def Be:Code:=((aB (Tryz.f87.body.getD .skip))[4]?).getD .skip
def RS (s:kN):T (Rd kN):=
 .br (decide (s.i<(List.length s.aI:Int))) (.req (0≤s.i∧s.i<(List.length s.aI:Int)) (.req (0+(List.length s.l)=List.length s.l∧((List.length s.l+List.length ([(CX s.aI s.i).1]):Nat):Int)*16≤2^47∧((List.length s.l+List.length ([(CX s.aI s.i).1]):Nat):Int)<2^62) (.req (0=0∧(List.length s.l+List.length ([(CX s.aI s.i).1]))=List.length (s.l++([(CX s.aI s.i).1]))) (.ok (.next {s with i:=(IntKind.i64.wrap (s.i+1)),l:=(s.l++([(CX s.aI s.i).1]))}))))) (.rl s.l (.ok (.stop (.exit 8) s)))
abbrev abw (s:kN):=(RS s).rd s
def alG (s:kN):Prop:=s.i=0∧(List.length s.aI:Int)≤1000∧(s.l.length:Int)≤5000+s.i
def Vp (s:kN):Prop:=0≤s.i∧s.i≤(List.length s.aI:Int)∧(List.length s.aI:Int)≤1000∧(s.l.length:Int)≤5000+s.i
def Pq (s:kN):Nat:=((List.length s.aI:Int)-s.i).toNat
def atj (_:Ex) (_ _:kN):Prop:=True
theorem aAn:∀s,alG s→Vp s:=by
 intro s h
 obtain ⟨h0,h1,h2⟩:=h
 exact ⟨by omega,by omega,h1,h2⟩
theorem av4 (s:kN) (hI:Vp s):bJ (fun s'=>Vp s'∧Pq s'<Pq s) (fun x s'=>atj x s s') (abw s):=by
 unfold abw RS
 dsimp only [T.rd,T.rl]
 obtain ⟨h0,h1,h2,h3⟩:=hI
 refine au (fun c1=>?_) (fun c1=>?_)
 ·have c1:s.i<(List.length s.aI:Int):=by simpa using c1
  rw [aK (x:=s.i+1) (by omega) (by omega)]
  exact ⟨⟨by simp only;omega,by simp only;omega,h2,by simp only [List.length_append,List.length_cons,List.length_nil];omega⟩,by simp only [Pq];omega⟩
 ·trivial
def ER:bM kN:=⟨0,112,[1,2,3,8],[],aDH,aCH,fun v b=>⟨vF (v.getD 1 .junk),gI (v.getD 3 .junk),aQ dU (aY (aO b 0) 0),aQ .str (aY (aO b 0) 1),aQ dV (aY (aO b 0) 2),aQ dP (aY (aO b 0) 3),aQ dW (aY (aO b 0) 4),iR .str (aO b 1)⟩,RS,fun s r=> {r with r:=s.r,ah:=s.ah,aA:=s.aA,ai:=s.ai,aj:=s.aj,aI:=s.aI},fun s=>s,fun _ s=>s,[.exit 8],alG,Vp,Pq⟩
abbrev wV:=ER.run
abbrev apV:=ER.jJ
abbrev ayD:=ER.q
theorem avj (s:kN) (hI:Vp s):(RS s).all (fun _=>True):=by
 refine ⟨fun c1=>⟨?_,?_,?_,trivial⟩,fun c1=>⟨⟨rfl,rfl⟩,trivial⟩⟩
 iterate 2 · (obtain ⟨h0,h1,h2,h3⟩:=hI;simp only [decide_eq_true_eq] at c1;first|omega|(refine ⟨by omega,?_,?_⟩<;>simp only [List.length_cons,List.length_nil]<;>omega))
 ·exact ⟨rfl,by simp⟩
theorem ahB:ER.Ok:=⟨fun s=>by kernel_rfl,fun s=>by kernel_rfl,fun s=>rfl,fun s t r=>rfl,fun s=>rfl,fun s=>by kernel_rfl⟩
theorem agy:ER.Pf (atj):=⟨aAn,fun _ _=>rfl,av4,avj⟩
theorem amJ:bg Tryz.prog aS (AN 0) (.loop Be) ER.lp:=bM.snd ahB agy (aP (Γ:=Em) (K:=dZ) (L:=aC) IX aF Be (fun b hb=>by rw [show aB Be=[] by kernel_rfl] at hb;cases hb)) (fun s=>by kernel_rfl)
theorem anL (s:kN) (hE:alG s):(fun (x:Ex) (s':kN) (v:List ByteArray)=>x=.exit 8∧s'.l=v) (apV s) (wV s) ((fun s:kN=>s.l++(s.aI.drop s.i.toNat).map (·.1)) s):=by
 exact bM.wC ahB agy (fun s:kN=>s.l++(s.aI.drop s.i.toNat).map (·.1)) (fun x s' v=>x=.exit 8∧s'.l=v) (fun s hI=>by
  show bJ _ _ (abw s)
  unfold abw RS
  dsimp only [T.rd,T.rl]
  obtain ⟨h0,h1,h2,h3⟩:=hI
  refine au (fun c1=>?_) (fun c1=>?_)
  ·have c1:s.i<(List.length s.aI:Int):=by simpa using c1
   rw [aK (x:=s.i+1) (by omega) (by omega)]
   show _++_=_++_
   try simp only
   rw [(Ut h0 c1).1]
   simp
  ·have c1:(List.length s.aI:Int)≤s.i:=by simpa using c1
   refine ⟨rfl,?_⟩
   rw [List.drop_eq_nil_of_le (by omega)]
   simp) s hE
structure nG where
 r:Bool
 i:Int
 l:List ByteArray
def aDG (s:nG):List LV:=[.v (.bool s.r),.os 0 1 0 (List.length s.l),.v (.int .i64 s.i)]
def aCG (s:nG):List aU:=[⟨[],9,.vec .str s.l,false⟩]
noncomputable def Bd:Code:=((aB (Tryz.f87.body.getD .skip))[5]?).getD .skip
def ZH (s:nG):T (Rd nG):=
 .br (decide (s.i<((List.length s.l:Nat):Int))) (.req (0≤s.i∧s.i<((List.length s.l:Nat):Int)) (.req (s.i.toNat<List.length s.l) (.req (((s.l.getD s.i.toNat (Ty.dflt .str)).size:Int)≤9223372036854775807) (.br (!(nameB (s.l.getD s.i.toNat (Ty.dflt .str)))) (.rl s.l (.ok (.stop (.ret) {s with r:=false}))) (.req (0≤(0:Int)∧(0:Int)≤s.i∧s.i≤((List.length s.l:Nat):Int)) (.req (0≤s.i∧s.i<((List.length s.l:Nat):Int)) (.req (s.i.toNat<List.length s.l) (.req ((0+(0:Int).toNat)+(s.i.toNat-(0:Int).toNat)≤List.length s.l) (.req ((List.length ((s.l.drop (0+(0:Int).toNat)).take (s.i.toNat-(0:Int).toNat)):Int)≤1000) (.br (isIn ((s.l.drop (0+(0:Int).toNat)).take (s.i.toNat-(0:Int).toNat)) (s.l.getD s.i.toNat (Ty.dflt .str))) (.rl s.l (.ok (.stop (.ret) {s with r:=false}))) (.rl s.l (.ok (.next {s with i:=(IntKind.i64.wrap (s.i+1))}))))))))))))) (.rl s.l (.ok (.stop (.exit 10) s)))
abbrev asQ (s:nG):=(ZH s).rd s
def Oa (s:nG) (j:Int):Bool:=nameB (gS s.l j)&&!(((s.l.take j.toNat).map id).contains (id (gS s.l j)))
theorem aAl (s:nG) (_:0≤s.i):Oa s s.i=(nameB (s.l.getD s.i.toNat (Ty.dflt .str))&&!(isIn ((s.l.drop (0+(0:Int).toNat)).take (s.i.toNat-(0:Int).toNat)) (s.l.getD s.i.toNat (Ty.dflt .str)))):=by
 unfold Oa
 rw [List.map_id,KI]
 rfl
def alF (s:nG):Prop:=s.i=0∧(List.length s.l:Int)≤1000∧nmR s.l
def Ns (s:nG):Prop:=(0≤s.i∧s.i≤(List.length s.l:Int))∧(∀j:Nat,(j:Int)<s.i→Oa s j=true)∧(List.length s.l:Int)≤1000∧nmR s.l
def Po (s:nG):Nat:=((List.length s.l:Int)-s.i).toNat
def adH (x:Ex) (_ s':nG):Prop:=(x=.exit 10∧∀j:Nat,(j:Int)<(List.length s'.l:Int)→Oa s' j=true)∨(x=.ret∧s'.r=false∧∃j:Nat,(j:Int)<(List.length s'.l:Int)∧Oa s' j=false)
theorem aAm:∀s,alF s→Ns s:=by
 intro s h
 obtain ⟨h0,h1,h2⟩:=h
 exact ⟨by omega,fun j hj=>by omega,h1,h2⟩
theorem av3 (s:nG) (hI:Ns s):bJ (fun s'=>Ns s'∧Po s'<Po s) (fun x s'=>adH x s s') (asQ s):=by
 unfold asQ ZH
 dsimp only [T.rd,T.rl]
 obtain ⟨⟨h0,h1⟩,h2,h3,h4⟩:=hI
 have hg:=aAl s h0
 refine au (fun c1=>?_) (fun c1=>?_)
 rotate_left
 ·have c1:(List.length s.l:Int)≤s.i:=by simpa using c1
  exact .inl ⟨rfl,fun j hj=>h2 j (by omega)⟩
 have c1:s.i<(List.length s.l:Int):=by simpa using c1
 have bad:Oa s s.i=false→adH .ret s {s with r:=false}:=fun hg=> .inr ⟨rfl,rfl,s.i.toNat,by simp only;omega,by rw [Int.toNat_of_nonneg h0];exact hg⟩
 refine au (fun c2=>bad ?_) (fun c2=>au (fun c3=>bad ?_) (fun c3=>?_))
 ·rw [hg]
  simp only [Bool.not_eq_true'] at c2
  rw [c2]
  rfl
 ·rw [hg,c3]
  simp
 ·rw [c3] at hg
  simp only [Bool.not_eq_false'] at c2
  rw [c2] at hg
  rw [aK (x:=s.i+1) (by omega) (by omega)]
  refine ⟨⟨⟨by simp only;omega,by simp only;omega⟩,fun j hj=>?_,h3,h4⟩,by simp only [Po];omega⟩
  by_cases hji:(j:Int)<s.i
  ·exact h2 j hji
  ·have:(j:Int)=s.i:=by simp only at hj;omega
   rw [this];exact hg
def EQ:bM nG:=⟨0,112,[2,3,9],[],aDG,aCG,fun v b=>⟨vF (v.getD 0 .junk),gI (v.getD 2 .junk),iR .str (aO b 0)⟩,ZH,fun s r=> {r with l:=s.l},fun s=>s,fun _ s=>s,[.ret,.exit 10],alF,Ns,Po⟩
abbrev aao:=EQ.run
abbrev ab4:=EQ.jJ
abbrev ayC:=EQ.q
theorem avi (s:nG) (hI:Ns s):(ZH s).all (fun _=>True):=by
 refine ⟨fun c1=>⟨?_,?_,?_,fun c2=>⟨⟨rfl,rfl⟩,trivial⟩,fun c2=>⟨?_,?_,?_,?_,?_,fun c3=>⟨⟨rfl,rfl⟩,trivial⟩,fun c3=>⟨⟨rfl,rfl⟩,trivial⟩⟩⟩,fun c1=>⟨⟨rfl,rfl⟩,trivial⟩⟩
 iterate 2 · (obtain ⟨⟨h0,h1⟩,h2,h3,h4⟩:=hI;simp only [decide_eq_true_eq] at c1;first|omega|(simp only [List.length_take,List.length_drop];omega))
 ·(obtain ⟨⟨h0,h1⟩,h2,h3,h4⟩:=hI;simp only [decide_eq_true_eq] at c1;have hm:gS s.l s.i∈s.l:=(by rw [aBI (by omega)];exact List.getElem_mem _);exact h4 _ hm)
 iterate 5 · (obtain ⟨⟨h0,h1⟩,h2,h3,h4⟩:=hI;simp only [decide_eq_true_eq] at c1;first|omega|(simp only [List.length_take,List.length_drop];omega))
theorem ahA:EQ.Ok:=⟨fun s=>by kernel_rfl,fun s=>by kernel_rfl,fun s=>rfl,fun s t r=>rfl,fun s=>rfl,fun s=>by kernel_rfl⟩
theorem agx:EQ.Pf (adH):=⟨aAm,fun _ _=>rfl,av3,avi⟩
theorem amI:bg Tryz.prog aS (AN 0) (.loop Bd) EQ.lp:=bM.snd ahA agx (aP (Γ:=Em) (K:=dZ) (L:=aC) IX aF Bd (fun b hb=>by rw [show aB Bd=[] by kernel_rfl] at hb;cases hb)) (fun s=>by kernel_rfl)
theorem anK (s:nG) (hE:alF s):∃s',Ns s'∧adH (ab4 s) s' (aao s):=bM.fin ahA agx s hE
def acR:List LV→T LV
 | [.agg [.xl (.pair .str (.pair (.int .i64) (.pair (.int .i64) (.pair (.int .i64) (.pair (.pair (.int .i64) (.int .i64)) (.pair (.int .i64) (.pair (.int .i64) (.pair (.int .i64) (.pair (.int .i64) (.int .i64)))))))))) cs,.xl (.str) os,.xl (.pair .str (.pair (.int .i64) (.pair (.int .i64) (.int .i64)))) ks,.xl (.pair .str (.pair (.int .i64) (.pair (.int .i64) (.pair (.int .i64) (.pair (.int .i64) (.pair (.int .i64) (.pair (.int .i64) (.int .i64)))))))) gs,.xl (.pair .str (.int .i64)) bs]]=> .req (((List.length cs:Int)≤100∧(List.length os:Int)≤100∧(List.length ks:Int)≤100∧(List.length gs:Int)≤100∧(List.length bs:Int)≤100)∧nmR (gB cs os ks gs bs)) (.ok (.v (.bool (nmB (gB cs os ks gs bs)))))
 |_=> .no
noncomputable def Yw:List LV→T LV:=gQ Tryz.prog Tryz.f87.params.toList acR
theorem aoy (cs:List Cd) (os:List ByteArray) (ks:List Ko) (gs:List Ch) (bs:List Ba):bV Tryz.prog aS (Em) dZ (fun i=>if i=3 then EW.lp else if i=7 then EU.lp else if i=11 then ET.lp else if i=15 then ES.lp else if i=19 then ER.lp else if i=23 then EQ.lp else aC i) Tryz.f87 [.agg [.xl dU cs,.xl .str os,.xl dV ks,.xl dP gs,.xl dW bs]]=.req (0=0∧0=List.length ([]:List ByteArray)) (.req (ayH (⟨false,(0:Int),cs,os,ks,gs,bs,([]:List ByteArray)⟩:iD)) (.rl (jE (⟨false,(0:Int),cs,os,ks,gs,bs,([]:List ByteArray)⟩:iD)).l (.req (ayG (⟨false,(0:Int),cs,os,ks,gs,bs,(jE (⟨false,(0:Int),cs,os,ks,gs,bs,([]:List ByteArray)⟩:iD)).l⟩:iP)) (.rl (kS (⟨false,(0:Int),cs,os,ks,gs,bs,(jE (⟨false,(0:Int),cs,os,ks,gs,bs,([]:List ByteArray)⟩:iD)).l⟩:iP)).l (.req (ayF (⟨false,(0:Int),cs,os,ks,gs,bs,(kS (⟨false,(0:Int),cs,os,ks,gs,bs,(jE (⟨false,(0:Int),cs,os,ks,gs,bs,([]:List ByteArray)⟩:iD)).l⟩:iP)).l⟩:jy)) (.rl (nZ (⟨false,(0:Int),cs,os,ks,gs,bs,(kS (⟨false,(0:Int),cs,os,ks,gs,bs,(jE (⟨false,(0:Int),cs,os,ks,gs,bs,([]:List ByteArray)⟩:iD)).l⟩:iP)).l⟩:jy)).l (.req (ayE (⟨false,(0:Int),cs,os,ks,gs,bs,(nZ (⟨false,(0:Int),cs,os,ks,gs,bs,(kS (⟨false,(0:Int),cs,os,ks,gs,bs,(jE (⟨false,(0:Int),cs,os,ks,gs,bs,([]:List ByteArray)⟩:iD)).l⟩:iP)).l⟩:jy)).l⟩:jO)) (.rl (qR (⟨false,(0:Int),cs,os,ks,gs,bs,(nZ (⟨false,(0:Int),cs,os,ks,gs,bs,(kS (⟨false,(0:Int),cs,os,ks,gs,bs,(jE (⟨false,(0:Int),cs,os,ks,gs,bs,([]:List ByteArray)⟩:iD)).l⟩:iP)).l⟩:jy)).l⟩:jO)).l (.req (ayD (⟨false,(0:Int),cs,os,ks,gs,bs,(qR (⟨false,(0:Int),cs,os,ks,gs,bs,(nZ (⟨false,(0:Int),cs,os,ks,gs,bs,(kS (⟨false,(0:Int),cs,os,ks,gs,bs,(jE (⟨false,(0:Int),cs,os,ks,gs,bs,([]:List ByteArray)⟩:iD)).l⟩:iP)).l⟩:jy)).l⟩:jO)).l⟩:kN)) (.rl (wV (⟨false,(0:Int),cs,os,ks,gs,bs,(qR (⟨false,(0:Int),cs,os,ks,gs,bs,(nZ (⟨false,(0:Int),cs,os,ks,gs,bs,(kS (⟨false,(0:Int),cs,os,ks,gs,bs,(jE (⟨false,(0:Int),cs,os,ks,gs,bs,([]:List ByteArray)⟩:iD)).l⟩:iP)).l⟩:jy)).l⟩:jO)).l⟩:kN)).l (.req (ayC (⟨false,(0:Int),(wV (⟨false,(0:Int),cs,os,ks,gs,bs,(qR (⟨false,(0:Int),cs,os,ks,gs,bs,(nZ (⟨false,(0:Int),cs,os,ks,gs,bs,(kS (⟨false,(0:Int),cs,os,ks,gs,bs,(jE (⟨false,(0:Int),cs,os,ks,gs,bs,([]:List ByteArray)⟩:iD)).l⟩:iP)).l⟩:jy)).l⟩:jO)).l⟩:kN)).l⟩:nG)) (.br (iG (ab4 (⟨false,(0:Int),(wV (⟨false,(0:Int),cs,os,ks,gs,bs,(qR (⟨false,(0:Int),cs,os,ks,gs,bs,(nZ (⟨false,(0:Int),cs,os,ks,gs,bs,(kS (⟨false,(0:Int),cs,os,ks,gs,bs,(jE (⟨false,(0:Int),cs,os,ks,gs,bs,([]:List ByteArray)⟩:iD)).l⟩:iP)).l⟩:jy)).l⟩:jO)).l⟩:kN)).l⟩:nG)) (.ret)) (.ok (.v (.bool (aao (⟨false,(0:Int),(wV (⟨false,(0:Int),cs,os,ks,gs,bs,(qR (⟨false,(0:Int),cs,os,ks,gs,bs,(nZ (⟨false,(0:Int),cs,os,ks,gs,bs,(kS (⟨false,(0:Int),cs,os,ks,gs,bs,(jE (⟨false,(0:Int),cs,os,ks,gs,bs,([]:List ByteArray)⟩:iD)).l⟩:iP)).l⟩:jy)).l⟩:jO)).l⟩:kN)).l⟩:nG)).r))) (.ok (.v (.bool true))))))))))))))):=by kernel_rfl
theorem atQ:Valid Tryz.prog aS 87 Yw:=aH Tryz.func87 rfl IX aF (L:=(fun i=>if i=3 then EW.lp else if i=7 then EU.lp else if i=11 then ET.lp else if i=15 then ES.lp else if i=19 then ER.lp else if i=23 then EQ.lp else aC i)) (fun b hb=>by
 rw [show aB _=[Bj,Bh,Bg,Bf,Be,Bd] by kernel_rfl] at hb
 simp only [List.mem_cons,List.not_mem_nil,or_false] at hb
 rcases hb with rfl|rfl|rfl|rfl|rfl|rfl
 ·exact amO
 ·exact amN
 ·exact amM
 ·exact amK
 ·exact amJ
 ·exact amI) (fun args lv h=>by
 unfold acR at h
 split at h
 ·simp only [canL,canX]
  rw [aoy]
  rename_i cs os ks gs bs
  obtain ⟨⟨⟨hc,ho,hk,hg,hb⟩,hn⟩,rfl⟩:=h
  refine ⟨⟨rfl,rfl⟩,nV ⟨⟨rfl,by simp only;omega,by simp only;decide⟩,rfl,rfl⟩ (fun hE0=>?_)⟩
  have o0:=(anP _ hE0.1).2
  generalize (jE ⟨false,(0:Int),cs,os,ks,gs,bs,([]:List ByteArray)⟩).l=r0 at o0⊢
  have o0:r0=([]:List ByteArray)++cs.map (·.1):=o0
  have l0:(List.length r0:Int)≤100:=by rw [o0];simp only [List.length_append,List.length_map,List.length_nil];omega
  refine ⟨⟨rfl,rfl⟩,nV ⟨⟨rfl,by simp only;omega,by simp only;omega⟩,rfl,rfl⟩ (fun hE1=>?_)⟩
  have o1:=(anO _ hE1.1).2
  generalize (kS ⟨false,(0:Int),cs,os,ks,gs,bs,r0⟩).l=r1 at o1⊢
  have o1:r1=r0++os:=o1
  have l1:(List.length r1:Int)≤200:=by rw [o1];simp only [List.length_append];omega
  refine ⟨⟨rfl,rfl⟩,nV ⟨⟨rfl,by simp only;omega,by simp only;omega⟩,rfl,rfl⟩ (fun hE2=>?_)⟩
  have o2:=(anN _ hE2.1).2
  generalize (nZ ⟨false,(0:Int),cs,os,ks,gs,bs,r1⟩).l=r2 at o2⊢
  have o2:r2=r1++ks.map (·.1):=o2
  have l2:(List.length r2:Int)≤300:=by rw [o2];simp only [List.length_append,List.length_map];omega
  refine ⟨⟨rfl,rfl⟩,nV ⟨⟨rfl,by simp only;omega,by simp only;omega⟩,rfl,rfl⟩ (fun hE3=>?_)⟩
  have o3:=(anM _ hE3.1).2
  generalize (qR ⟨false,(0:Int),cs,os,ks,gs,bs,r2⟩).l=r3 at o3⊢
  have o3:r3=r2++gs.map (·.1):=o3
  have l3:(List.length r3:Int)≤400:=by rw [o3];simp only [List.length_append,List.length_map];omega
  refine ⟨⟨rfl,rfl⟩,nV ⟨⟨rfl,by simp only;omega,by simp only;omega⟩,rfl,rfl⟩ (fun hE4=>?_)⟩
  have o4:=(anL _ hE4.1).2
  generalize (wV ⟨false,(0:Int),cs,os,ks,gs,bs,r3⟩).l=r4 at o4⊢
  have o4:r4=r3++bs.map (·.1):=o4
  have l4:(List.length r4:Int)≤500:=by rw [o4];simp only [List.length_append,List.length_map];omega
  have e:r4=gB cs os ks gs bs:=by rw [o4,o3,o2,o1,o0,List.nil_append];rfl
  subst e
  refine ⟨⟨rfl,rfl⟩,nV ⟨⟨rfl,by simp only;omega,hn⟩,rfl,rfl⟩ (fun hE=>?_)⟩
  obtain ⟨s',_,hq⟩:=anK _ hE.1
  unfold nmB
  generalize gB cs os ks gs bs=l at*
  rcases hq with ⟨q1,q2⟩ |⟨q1,q2,j,q3,q4⟩
  ·rw [q1]
   have hk:=(kJ (d:=emp) (p:=nameB) (k:=id)).1 q2
   rw [List.map_id] at hk
   rw [show (l.all nameB&&once l)=true from hk]
   exact ⟨fun h=>(by cases h),fun _=>rfl⟩
  ·rw [q1,q2]
   refine ⟨fun _=>congrArg (fun z=>LV.v (.bool z)) ?_,fun h=>by cases h⟩
   rw [eq_comm,Bool.eq_false_iff]
   intro hx
   have:=(kJ (d:=emp) (p:=nameB) (k:=id)).2 (by rw [List.map_id];exact hx) j q3
   exact Bool.noConfusion (this.symm.trans q4)
 ·cases h)
end Go.Proofs.YtlihnbimgclogaaGreatDoor
namespace Go.Proofs.YtlihnbimgclogaaGreatDoor
open Go.Sx
structure iV where
 r:Bool
 i:Int
 ah:List Cd
 aA:List ByteArray
 ai:List Ko
 aj:List Ch
 aI:List Ba
def aDE (s:iV):List LV:=[.own 0 0,.v (.bool s.r),.v (.int .i64 s.i)]
def aCE (s:iV):List aU:=[⟨[.xl dU s.ah,.xl .str s.aA,.xl dV s.ai,.xl dP s.aj,.xl dW s.aI],28,.cl,false⟩]
noncomputable def A8:Code:=((aB (Tryz.f49.body.getD .skip))[0]?).getD .skip
def ZF (s:iV):T (Rd iV):=
 .br (decide (s.i<(List.length s.ah:Int))) (.req (0≤s.i∧s.i<(List.length s.ah:Int)) (.req (0≤s.i∧s.i≤1000) (.br (!(Ew s.i (fP s.ah s.i))) (.ok (.stop (.ret) {s with r:=false})) (.ok (.next {s with i:=(IntKind.i64.wrap (s.i+1))}))))) (.ok (.stop (.exit 0) s))
abbrev asO (s:iV):=(ZF s).rd s
def JY (s:iV) (j:Int):Bool:=Ew j (fP s.ah j)
def alD (s:iV):Prop:=s.i=0∧0≤(List.length s.ah:Int)∧(List.length s.ah:Int)≤1000∧True
def Nq (s:iV):Prop:=0≤s.i∧s.i≤(List.length s.ah:Int)∧(List.length s.ah:Int)≤1000∧(True)∧∀j:Nat,(j:Int)<s.i→JY s j=true
def Pj (s:iV):Nat:=((List.length s.ah:Int)-s.i).toNat
def akW (x:Ex) (_ s':iV):Prop:=(x=.exit 0∧∀j:Nat,(j:Int)<(List.length s'.ah:Int)→JY s' j=true)∨(x=.ret∧s'.r=false∧∃j:Nat,(j:Int)<(List.length s'.ah:Int)∧JY s' j=false)
theorem az7:∀s,alD s→Nq s:=by
 intro s h
 obtain ⟨h0,h1,h2,h3⟩:=h
 exact ⟨by omega,by omega,h2,h3,fun j hj=>by omega⟩
theorem auY (s:iV) (hI:Nq s):bJ (fun s'=>Nq s'∧Pj s'<Pj s) (fun x s'=>akW x s s') (asO s):=by
 unfold asO ZF
 dsimp only [T.rd,T.rl]
 obtain ⟨h0,h1,h2,h3,h4⟩:=hI
 refine au (fun c1=>au (fun c2=>?_) (fun c2=>?_)) (fun c1=>?_)
 ·have c1:s.i<(List.length s.ah:Int):=by simpa using c1
  refine .inr ⟨rfl,rfl,s.i.toNat,by simp only;omega,?_⟩
  rw [Int.toNat_of_nonneg (by omega)]
  have hg:JY s s.i=false:=by unfold JY;(first|(have c2:(!(Ew s.i (fP s.ah s.i)))=false:=c2;simpa using c2) |(have c2:(!(Ew s.i (fP s.ah s.i)))=true:=c2;simpa using c2))
  exact hg
 ·have c1:s.i<(List.length s.ah:Int):=by simpa using c1
  have hg:JY s s.i=true:=by unfold JY;(first|(have c2:(!(Ew s.i (fP s.ah s.i)))=false:=c2;simpa using c2) |(have c2:(!(Ew s.i (fP s.ah s.i)))=true:=c2;simpa using c2))
  rw [aK (x:=s.i+1) (by omega) (by omega)]
  refine ⟨⟨by simp only;omega,by simp only;omega,h2,h3,fun j hj=>?_⟩,by simp only [Pj];omega⟩
  by_cases hji:(j:Int)<s.i
  ·exact h4 j hji
  ·have:(j:Int)=s.i:=by simp only at hj;omega
   rw [this];exact hg
 ·have c1:(List.length s.ah:Int)≤s.i:=by simpa using c1
  exact .inl ⟨rfl,fun j hj=>h4 j (by omega)⟩
def EO:bM iV:=⟨0,159,[1,2,3],[],aDE,aCE,fun v b=>⟨vF (v.getD 1 .junk),gI (v.getD 2 .junk),aQ dU (aY (aO b 0) 0),aQ .str (aY (aO b 0) 1),aQ dV (aY (aO b 0) 2),aQ dP (aY (aO b 0) 3),aQ dW (aY (aO b 0) 4)⟩,ZF,fun s r=> {r with ah:=s.ah,aA:=s.aA,ai:=s.ai,aj:=s.aj,aI:=s.aI},fun s=>s,fun _ s=>s,[.ret,.exit 0],alD,Nq,Pj⟩
abbrev l9:=EO.run
abbrev ab2:=EO.jJ
abbrev ayA:=EO.q
theorem avg (s:iV) (hI:Nq s):(ZF s).all (fun _=>True):=by
 refine ⟨fun c1=>⟨?_,?_,fun _=>trivial,fun _=>trivial⟩,fun _=>trivial⟩
 all_goals ((obtain ⟨h0,h1,h2,h3,h4⟩:=hI;simp at c1;omega))
noncomputable def I4:Specs:=aZ [(86,JE),(87,Yw),(88,Yy),(89,Yz)]
theorem L6:∀g S,I4 g=some S→Valid Tryz.prog aS g S:=aT (l:=[(86,JE),(87,Yw),(88,Yy),(89,Yz)]) ⟨afr,atQ,atT,atU,trivial⟩
theorem ahx:EO.Ok:=⟨fun s=>by kernel_rfl,fun s=>by kernel_rfl,fun s=>rfl,fun s t r=>rfl,fun s=>rfl,fun s=>by kernel_rfl⟩
theorem agu:EO.Pf (akW):=⟨az7,fun _ _=>rfl,auY,avg⟩
theorem amG:bg Tryz.prog aS (AN 0) (.loop A8) EO.lp:=bM.snd ahx agu (aP (Γ:=I4) (K:=dZ) (L:=aC) L6 aF A8 (fun b hb=>by rw [show aB A8=[] by kernel_rfl] at hb;cases hb)) (fun s=>by kernel_rfl)
theorem anB (s:iV) (hE:alD s):∃s',Nq s'∧akW (ab2 s) s' (l9 s):=bM.fin ahx agu s hE
structure oQ where
 r:Bool
 i:Int
 k:Int
 ah:List Cd
 aA:List ByteArray
 ai:List Ko
 aj:List Ch
 aI:List Ba
 qB:ByteArray
 mM:Int
 Yc:Int
 su:Int
def aDA (s:oQ):List LV:=[.own 0 0,.v (.bool s.r),.v (.int .i64 s.i),.own 1 0,.v (.int .i64 s.k)]
def aCA (s:oQ):List aU:=[⟨[.xl dU s.ah,.xl .str s.aA,.xl dV s.ai,.xl dP s.aj,.xl dW s.aI],28,.cl,false⟩,⟨[.v (.string s.qB),.v (.int .i64 s.mM),.v (.int .i64 s.Yc),.v (.int .i64 s.su)],139,.cl,false⟩]
noncomputable def AY:Code:=((aB (((aB (Tryz.f49.body.getD .skip))[1]?).getD .skip))[0]?).getD .skip
def ZA (s:oQ):T (Rd oQ):=
 .br (decide (s.k<s.i)) (.req (0≤s.k∧s.k<(List.length s.ai:Int)) (.br ((ni s.ai s.k).2.2.2==s.su) (.ok (.stop (.ret) {s with r:=false})) (.ok (.next {s with k:=(IntKind.i64.wrap (s.k+1))})))) (.ok (.stop (.exit 4) s))
abbrev asK (s:oQ):=(ZA s).rd s
def JV (s:oQ) (j:Int):Bool:=!((ni s.ai j).2.2.2==s.su)
def VG (s:oQ):Prop:=s.k=0∧0≤s.i∧s.i≤1000∧s.i≤(List.length s.ai:Int)
def Nk (s:oQ):Prop:=0≤s.k∧s.k≤s.i∧s.i≤1000∧(s.i≤(List.length s.ai:Int))∧∀j:Nat,(j:Int)<s.k→JV s j=true
def O8 (s:oQ):Nat:=(s.i-s.k).toNat
def akT (x:Ex) (_ s':oQ):Prop:=(x=.exit 4∧∀j:Nat,(j:Int)<s'.i→JV s' j=true)∨(x=.ret∧s'.r=false∧∃j:Nat,(j:Int)<s'.i∧JV s' j=false)
theorem az3:∀s,VG s→Nk s:=by
 intro s h
 obtain ⟨h0,h1,h2,h3⟩:=h
 exact ⟨by omega,by omega,h2,h3,fun j hj=>by omega⟩
theorem auU (s:oQ) (hI:Nk s):bJ (fun s'=>Nk s'∧O8 s'<O8 s) (fun x s'=>akT x s s') (asK s):=by
 unfold asK ZA
 dsimp only [T.rd,T.rl]
 obtain ⟨h0,h1,h2,h3,h4⟩:=hI
 refine au (fun c1=>au (fun c2=>?_) (fun c2=>?_)) (fun c1=>?_)
 ·have c1:s.k<s.i:=by simpa using c1
  refine .inr ⟨rfl,rfl,s.k.toNat,by simp only;omega,?_⟩
  rw [Int.toNat_of_nonneg (by omega)]
  have hg:JV s s.k=false:=by unfold JV;(simpa using c2)
  exact hg
 ·have c1:s.k<s.i:=by simpa using c1
  have hg:JV s s.k=true:=by unfold JV;(simpa using c2)
  rw [aK (x:=s.k+1) (by omega) (by omega)]
  refine ⟨⟨by simp only;omega,by simp only;omega,h2,h3,fun j hj=>?_⟩,by simp only [O8];omega⟩
  by_cases hji:(j:Int)<s.k
  ·exact h4 j hji
  ·have:(j:Int)=s.k:=by simp only at hj;omega
   rw [this];exact hg
 ·have c1:s.i≤s.k:=by simpa using c1
  exact .inl ⟨rfl,fun j hj=>h4 j (by omega)⟩
def Kr:bM oQ:=⟨0,159,[1,2,4,5,6],[],aDA,aCA,fun v b=>⟨vF (v.getD 1 .junk),gI (v.getD 2 .junk),gI (v.getD 4 .junk),aQ dU (aY (aO b 0) 0),aQ .str (aY (aO b 0) 1),aQ dV (aY (aO b 0) 2),aQ dP (aY (aO b 0) 3),aQ dW (aY (aO b 0) 4),gSr (aY (aO b 1) 0),gI (aY (aO b 1) 1),gI (aY (aO b 1) 2),gI (aY (aO b 1) 3)⟩,ZA,fun s r=> {r with i:=s.i,ah:=s.ah,aA:=s.aA,ai:=s.ai,aj:=s.aj,aI:=s.aI,qB:=s.qB,mM:=s.mM,Yc:=s.Yc,su:=s.su},fun s=>s,fun _ s=>s,[.ret,.exit 4],VG,Nk,O8⟩
abbrev zF:=Kr.run
abbrev xP:=Kr.jJ
abbrev ayw:=Kr.q
theorem avc (s:oQ) (hI:Nk s):(ZA s).all (fun _=>True):=by
 refine ⟨fun c1=>⟨?_,fun _=>trivial,fun _=>trivial⟩,fun _=>trivial⟩
 ·(obtain ⟨h0,h1,h2,h3,h4⟩:=hI;simp at c1;omega)
theorem aht:Kr.Ok:=⟨fun s=>by kernel_rfl,fun s=>by kernel_rfl,fun s=>rfl,fun s t r=>rfl,fun s=>rfl,fun s=>by kernel_rfl⟩
theorem agq:Kr.Pf (akT):=⟨az3,fun _ _=>rfl,auU,avc⟩
theorem amz:bg Tryz.prog aS (AN 0) (.loop AY) Kr.lp:=bM.snd aht agq (aP (Γ:=I4) (K:=dZ) (L:=aC) L6 aF AY (fun b hb=>by rw [show aB AY=[] by kernel_rfl] at hb;cases hb)) (fun s=>by kernel_rfl)
theorem anw (s:oQ) (hE:VG s):∃s',Nk s'∧akT (xP s) s' (zF s):=bM.fin aht agq s hE
theorem anv (s:oQ) (hE:VG s):(xP s=.exit 4∧((s.ai.take s.i.toNat).map (·.2.2.2)).contains s.su=false)∨(xP s=.ret∧(zF s).r=false∧((s.ai.take s.i.toNat).map (·.2.2.2)).contains s.su=true):=by
 obtain ⟨s',_,hq⟩:=anw s hE
 obtain ⟨h0,h1,h2,h3⟩:=hE
 have hc:=aeh (c:=s.su) h1 h3
 rcases hq with ⟨q1,q2⟩ |⟨q1,q2,j,q3,q4⟩
 ·refine .inl ⟨q1,?_⟩
  rw [Bool.eq_false_iff,ne_eq,hc]
  rintro ⟨j,hj,e⟩
  have:(!((ni s.ai j).2.2.2==s.su))=true:=q2 j hj
  rw [e] at this
  simp at this
 ·refine .inr ⟨q1,q2,hc.2 ⟨j,q3,?_⟩⟩
  have q4:(!((ni s.ai j).2.2.2==s.su))=false:=q4
  simpa using q4
structure iU where
 r:Bool
 i:Int
 ah:List Cd
 aA:List ByteArray
 ai:List Ko
 aj:List Ch
 aI:List Ba
def aDD (s:iU):List LV:=[.own 0 0,.v (.bool s.r),.v (.int .i64 s.i)]
def aCD (s:iU):List aU:=[⟨[.xl dU s.ah,.xl .str s.aA,.xl dV s.ai,.xl dP s.aj,.xl dW s.aI],28,.cl,false⟩]
noncomputable def Jm:Code:=((aB (Tryz.f49.body.getD .skip))[1]?).getD .skip
def qO (s:iU):oQ:=(⟨s.r,s.i,(0:Int),s.ah,s.aA,s.ai,s.aj,s.aI,(ni s.ai s.i).1,(ni s.ai s.i).2.1,(ni s.ai s.i).2.2.1,(ni s.ai s.i).2.2.2⟩:oQ)
def ZE (s:iU):T (Rd iU):=
 .br (decide (s.i<(List.length s.ai:Int))) (.req (0≤s.i∧s.i<(List.length s.ai:Int)) (.br ((!(inB (ni s.ai s.i).2.1 (0:Int) (IntKind.i64.wrap ((List.length s.aA:Int)-1)))) ||((!(inB (ni s.ai s.i).2.2.1 (1:Int) (9:Int))) ||(!(inB (ni s.ai s.i).2.2.2 (1:Int) (1000000:Int))))) (.ok (.stop (.ret) {s with r:=false})) (.req (ayw (qO s)) (.br (iG (xP (qO s)) (.ret)) (.ok (.stop (.ret) {s with r:=(zF (qO s)).r})) (.ok (.next {s with r:=(zF (qO s)).r,i:=(IntKind.i64.wrap (s.i+1))})))))) (.ok (.stop (.exit 2) s))
abbrev asN (s:iU):=(ZE s).rd s
def N9 (s:iU) (j:Int):Bool:=koV (List.length s.aA:Int) (ni s.ai j)&&!(((s.ai.take j.toNat).map (·.2.2.2)).contains (ni s.ai j).2.2.2)
def alC (s:iU):Prop:=s.i=0∧(List.length s.ai:Int)≤1000∧(List.length s.aA:Int)≤1000
def JO (s:iU):Prop:=(0≤s.i∧s.i≤(List.length s.ai:Int))∧(∀j:Nat,(j:Int)<s.i→N9 s j=true)∧(List.length s.ai:Int)≤1000∧(List.length s.aA:Int)≤1000
def Ph (s:iU):Nat:=((List.length s.ai:Int)-s.i).toNat
def adG (x:Ex) (_ s':iU):Prop:=(x=.exit 2∧∀j:Nat,(j:Int)<(List.length s'.ai:Int)→N9 s' j=true)∨(x=.ret∧s'.r=false∧∃j:Nat,(j:Int)<(List.length s'.ai:Int)∧N9 s' j=false)
theorem az6:∀s,alC s→JO s:=by
 intro s h
 obtain ⟨h0,h1,h2⟩:=h
 exact ⟨by omega,fun j hj=>by omega,h1,h2⟩
theorem afT (s:iU) (hI:JO s) (c1:s.i<(List.length s.ai:Int)):VG (qO s):=by
 obtain ⟨⟨h0,h1⟩,h2,h3,h4⟩:=hI
 exact ⟨rfl,h0,by show s.i≤1000;omega,h1⟩
theorem auX (s:iU) (hI:JO s):bJ (fun s'=>JO s'∧Ph s'<Ph s) (fun x s'=>adG x s s') (asN s):=by
 unfold asN ZE
 dsimp only [T.rd,T.rl]
 have hin:=fun c1=>afT s hI c1
 obtain ⟨⟨h0,h1⟩,h2,h3,h4⟩:=hI
 refine au (fun c1=>?_) (fun c1=>?_)
 rotate_left
 ·have c1:(List.length s.ai:Int)≤s.i:=by simpa using c1
  exact .inl ⟨rfl,fun j hj=>h2 j (by omega)⟩
 have c1:s.i<(List.length s.ai:Int):=by simpa using c1
 have bad:∀s2:iU,s2.r=false→s2.ai=s.ai→s2.aA=s.aA→N9 s s.i=false→adG .ret s s2:=fun s2 e1 e2 e3 hg=> .inr ⟨rfl,e1,s.i.toNat,by rw [e2];omega,by
  unfold N9 at hg⊢
  rw [Int.toNat_of_nonneg h0,e2,e3]
  exact hg⟩
 rw [aK (x:=(List.length s.aA:Int)-1) (by omega) (by omega)]
 have hk:=anv _ (hin c1)
 have hk:(xP (qO s)=.exit 4∧((s.ai.take s.i.toNat).map (·.2.2.2)).contains (ni s.ai s.i).2.2.2=false)∨(xP (qO s)=.ret∧(zF (qO s)).r=false∧((s.ai.take s.i.toNat).map (·.2.2.2)).contains (ni s.ai s.i).2.2.2=true):=hk
 have hg:N9 s s.i=(koV (List.length s.aA:Int) (ni s.ai s.i)&&!(((s.ai.take s.i.toNat).map (·.2.2.2)).contains (ni s.ai s.i).2.2.2)):=rfl
 have hkv:koV (List.length s.aA:Int) (ni s.ai s.i)=(inB (ni s.ai s.i).2.1 0 ((List.length s.aA:Int)-1)&&(inB (ni s.ai s.i).2.2.1 1 9&&inB (ni s.ai s.i).2.2.2 1 1000000)):=rfl
 refine au (fun c2=>bad _ rfl rfl rfl ?_) (fun c2=>?_)
 ·rw [hg,hkv]
  revert c2
  generalize inB (ni s.ai s.i).2.1 _ _=a
  generalize inB (ni s.ai s.i).2.2.1 _ _=b
  generalize inB (ni s.ai s.i).2.2.2 _ _=c
  cases a<;>cases b<;>cases c<;>simp
 have hkt:koV (List.length s.aA:Int) (ni s.ai s.i)=true:=by
  rw [hkv]
  revert c2
  generalize inB (ni s.ai s.i).2.1 _ _=a
  generalize inB (ni s.ai s.i).2.2.1 _ _=b
  generalize inB (ni s.ai s.i).2.2.2 _ _=c
  cases a<;>cases b<;>cases c<;>simp
 rw [hkt,Bool.true_and] at hg
 rcases hk with ⟨q1,q2⟩ |⟨q1,q2,q3⟩
 ·rw [q1]
  refine au (fun c3=>by cases c3) (fun _=>?_)
  rw [aK (x:=s.i+1) (by omega) (by omega)]
  rw [q2] at hg
  refine ⟨⟨⟨by simp only;omega,by simp only;omega⟩,fun j hj=>?_,h3,h4⟩,by simp only [Ph];omega⟩
  by_cases hji:(j:Int)<s.i
  ·exact h2 j hji
  ·have:(j:Int)=s.i:=by simp only at hj;omega
   rw [this];exact hg
 ·rw [q1]
  refine au (fun _=>bad _ q2 rfl rfl ?_) (fun c3=>by cases c3)
  rw [hg,q3]
  rfl
def EN:bM iU:=⟨0,159,[1,2,4],[],aDD,aCD,fun v b=>⟨vF (v.getD 1 .junk),gI (v.getD 2 .junk),aQ dU (aY (aO b 0) 0),aQ .str (aY (aO b 0) 1),aQ dV (aY (aO b 0) 2),aQ dP (aY (aO b 0) 3),aQ dW (aY (aO b 0) 4)⟩,ZE,fun s r=> {r with ah:=s.ah,aA:=s.aA,ai:=s.ai,aj:=s.aj,aI:=s.aI},fun s=>s,fun _ s=>s,[.ret,.exit 2],alC,JO,Ph⟩
abbrev qQ:=EN.run
abbrev ab1:=EN.jJ
abbrev ayz:=EN.q
theorem avf (s:iU) (hI:JO s):(ZE s).all (fun _=>True):=by
 refine ⟨fun c1=>⟨?_,fun _=>trivial,fun c2=>⟨?_,fun _=>trivial,fun _=>trivial⟩⟩,fun _=>trivial⟩
 ·(obtain ⟨⟨h0,h1⟩,h2,h3,h4⟩:=hI;simp only [decide_eq_true_eq] at c1;omega)
 ·exact ⟨afT s hI (by simpa using c1),rfl,rfl⟩
theorem ahw:EN.Ok:=⟨fun s=>by kernel_rfl,fun s=>by kernel_rfl,fun s=>rfl,fun s t r=>rfl,fun s=>rfl,fun s=>by kernel_rfl⟩
theorem agt:EN.Pf (adG):=⟨az6,fun _ _=>rfl,auX,avf⟩
theorem amF:bg Tryz.prog aS (AN 0) (.loop Jm) EN.lp:=bM.snd ahw agt (aP (Γ:=I4) (K:=dZ) (L:=(fun i=>if i=15 then Kr.lp else aC i)) L6 aF Jm (fun b hb=>by
 rw [show aB _=[AY] by kernel_rfl] at hb
 simp only [List.mem_cons,List.not_mem_nil,or_false] at hb
 subst hb
 exact amz)) (fun s=>by kernel_rfl)
theorem anA (s:iU) (hE:alC s):∃s',JO s'∧adG (ab1 s) s' (qQ s):=bM.fin ahw agt s hE
structure lJ where
 r:Bool
 i:Int
 ah:List Cd
 aA:List ByteArray
 ai:List Ko
 aj:List Ch
 aI:List Ba
def aDC (s:lJ):List LV:=[.own 0 0,.v (.bool s.r),.v (.int .i64 s.i)]
def aCC (s:lJ):List aU:=[⟨[.xl dU s.ah,.xl .str s.aA,.xl dV s.ai,.xl dP s.aj,.xl dW s.aI],28,.cl,false⟩]
noncomputable def A7:Code:=((aB (Tryz.f49.body.getD .skip))[2]?).getD .skip
def ZC (s:lJ):T (Rd lJ):=
 .br (decide (s.i<(List.length s.aj:Int))) (.req (0≤s.i∧s.i<(List.length s.aj:Int)) (.br ((!(chW (bn s.aj s.i))) ||((!(inB (bn s.aj s.i).2.1 (0:Int) (IntKind.i64.wrap ((List.length s.ah:Int)-1)))) ||(!(inB (bn s.aj s.i).2.2.2.2.2.2.2 (0:Int) (IntKind.i64.wrap ((List.length s.aA:Int)-1)))))) (.ok (.stop (.ret) {s with r:=false})) (.ok (.next {s with i:=(IntKind.i64.wrap (s.i+1))})))) (.ok (.stop (.exit 6) s))
abbrev asM (s:lJ):=(ZC s).rd s
def JX (s:lJ) (j:Int):Bool:=Gt s.ah.length s.aA.length (bn s.aj j)
def alB (s:lJ):Prop:=s.i=0∧0≤(List.length s.aj:Int)∧(List.length s.aj:Int)≤1000∧(s.ah.length:Int)≤1000∧(s.aA.length:Int)≤1000
def Np (s:lJ):Prop:=0≤s.i∧s.i≤(List.length s.aj:Int)∧(List.length s.aj:Int)≤1000∧((s.ah.length:Int)≤1000∧(s.aA.length:Int)≤1000)∧∀j:Nat,(j:Int)<s.i→JX s j=true
def Pg (s:lJ):Nat:=((List.length s.aj:Int)-s.i).toNat
def akV (x:Ex) (_ s':lJ):Prop:=(x=.exit 6∧∀j:Nat,(j:Int)<(List.length s'.aj:Int)→JX s' j=true)∨(x=.ret∧s'.r=false∧∃j:Nat,(j:Int)<(List.length s'.aj:Int)∧JX s' j=false)
theorem az5:∀s,alB s→Np s:=by
 intro s h
 obtain ⟨h0,h1,h2,h3⟩:=h
 exact ⟨by omega,by omega,h2,h3,fun j hj=>by omega⟩
theorem auW (s:lJ) (hI:Np s):bJ (fun s'=>Np s'∧Pg s'<Pg s) (fun x s'=>akV x s s') (asM s):=by
 unfold asM ZC
 dsimp only [T.rd,T.rl]
 obtain ⟨h0,h1,h2,h3,h4⟩:=hI
 refine au (fun c1=>au (fun c2=>?_) (fun c2=>?_)) (fun c1=>?_)
 ·have c1:s.i<(List.length s.aj:Int):=by simpa using c1
  refine .inr ⟨rfl,rfl,s.i.toNat,by simp only;omega,?_⟩
  rw [Int.toNat_of_nonneg (by omega)]
  have hg:JX s s.i=false:=by unfold JX;(obtain ⟨e1,e2⟩:=h3;rw [aK (x:=(List.length s.ah:Int)-1) (by omega) (by omega),aK (x:=(List.length s.aA:Int)-1) (by omega) (by omega)] at c2;unfold Gt;revert c2;generalize chW (bn s.aj s.i)=a;generalize inB (bn s.aj s.i).2.1 _ _=b;generalize inB (bn s.aj s.i).2.2.2.2.2.2.2 _ _=c;cases a<;>cases b<;>cases c<;>simp)
  exact hg
 ·have c1:s.i<(List.length s.aj:Int):=by simpa using c1
  have hg:JX s s.i=true:=by unfold JX;(obtain ⟨e1,e2⟩:=h3;rw [aK (x:=(List.length s.ah:Int)-1) (by omega) (by omega),aK (x:=(List.length s.aA:Int)-1) (by omega) (by omega)] at c2;unfold Gt;revert c2;generalize chW (bn s.aj s.i)=a;generalize inB (bn s.aj s.i).2.1 _ _=b;generalize inB (bn s.aj s.i).2.2.2.2.2.2.2 _ _=c;cases a<;>cases b<;>cases c<;>simp)
  rw [aK (x:=s.i+1) (by omega) (by omega)]
  refine ⟨⟨by simp only;omega,by simp only;omega,h2,h3,fun j hj=>?_⟩,by simp only [Pg];omega⟩
  by_cases hji:(j:Int)<s.i
  ·exact h4 j hji
  ·have:(j:Int)=s.i:=by simp only at hj;omega
   rw [this];exact hg
 ·have c1:(List.length s.aj:Int)≤s.i:=by simpa using c1
  exact .inl ⟨rfl,fun j hj=>h4 j (by omega)⟩
def EM:bM lJ:=⟨0,159,[1,2,7],[],aDC,aCC,fun v b=>⟨vF (v.getD 1 .junk),gI (v.getD 2 .junk),aQ dU (aY (aO b 0) 0),aQ .str (aY (aO b 0) 1),aQ dV (aY (aO b 0) 2),aQ dP (aY (aO b 0) 3),aQ dW (aY (aO b 0) 4)⟩,ZC,fun s r=> {r with ah:=s.ah,aA:=s.aA,ai:=s.ai,aj:=s.aj,aI:=s.aI},fun s=>s,fun _ s=>s,[.ret,.exit 6],alB,Np,Pg⟩
abbrev zG:=EM.run
abbrev abZ:=EM.jJ
abbrev ayy:=EM.q
theorem ave (s:lJ) (hI:Np s):(ZC s).all (fun _=>True):=by
 refine ⟨fun c1=>⟨?_,fun _=>trivial,fun _=>trivial⟩,fun _=>trivial⟩
 ·(obtain ⟨h0,h1,h2,h3,h4⟩:=hI;simp at c1;omega)
theorem ahv:EM.Ok:=⟨fun s=>by kernel_rfl,fun s=>by kernel_rfl,fun s=>rfl,fun s t r=>rfl,fun s=>rfl,fun s=>by kernel_rfl⟩
theorem ags:EM.Pf (akV):=⟨az5,fun _ _=>rfl,auW,ave⟩
theorem amD:bg Tryz.prog aS (AN 0) (.loop A7) EM.lp:=bM.snd ahv ags (aP (Γ:=I4) (K:=dZ) (L:=aC) L6 aF A7 (fun b hb=>by rw [show aB A7=[] by kernel_rfl] at hb;cases hb)) (fun s=>by kernel_rfl)
theorem anz (s:lJ) (hE:alB s):∃s',Np s'∧akV (abZ s) s' (zG s):=bM.fin ahv ags s hE
structure oU where
 r:Bool
 i:Int
 ah:List Cd
 aA:List ByteArray
 ai:List Ko
 aj:List Ch
 aI:List Ba
def aDB (s:oU):List LV:=[.own 0 0,.v (.bool s.r),.v (.int .i64 s.i)]
def aCB (s:oU):List aU:=[⟨[.xl dU s.ah,.xl .str s.aA,.xl dV s.ai,.xl dP s.aj,.xl dW s.aI],28,.cl,false⟩]
noncomputable def AZ:Code:=((aB (Tryz.f49.body.getD .skip))[3]?).getD .skip
def ZB (s:oU):T (Rd oU):=
 .br (decide (s.i<(List.length s.aI:Int))) (.req (0≤s.i∧s.i<(List.length s.aI:Int)) (.br (!(inB (CX s.aI s.i).2 (0:Int) (IntKind.i64.wrap ((List.length s.aj:Int)-1)))) (.ok (.stop (.ret) {s with r:=false})) (.ok (.next {s with i:=(IntKind.i64.wrap (s.i+1))})))) (.ok (.stop (.exit 8) s))
abbrev asL (s:oU):=(ZB s).rd s
def JW (s:oU) (j:Int):Bool:=inB (CX s.aI j).2 0 (IntKind.i64.wrap ((List.length s.aj:Int)-1))
def alA (s:oU):Prop:=s.i=0∧0≤(List.length s.aI:Int)∧(List.length s.aI:Int)≤1000∧True
def Nl (s:oU):Prop:=0≤s.i∧s.i≤(List.length s.aI:Int)∧(List.length s.aI:Int)≤1000∧(True)∧∀j:Nat,(j:Int)<s.i→JW s j=true
def O9 (s:oU):Nat:=((List.length s.aI:Int)-s.i).toNat
def akU (x:Ex) (_ s':oU):Prop:=(x=.exit 8∧∀j:Nat,(j:Int)<(List.length s'.aI:Int)→JW s' j=true)∨(x=.ret∧s'.r=false∧∃j:Nat,(j:Int)<(List.length s'.aI:Int)∧JW s' j=false)
theorem az4:∀s,alA s→Nl s:=by
 intro s h
 obtain ⟨h0,h1,h2,h3⟩:=h
 exact ⟨by omega,by omega,h2,h3,fun j hj=>by omega⟩
theorem auV (s:oU) (hI:Nl s):bJ (fun s'=>Nl s'∧O9 s'<O9 s) (fun x s'=>akU x s s') (asL s):=by
 unfold asL ZB
 dsimp only [T.rd,T.rl]
 obtain ⟨h0,h1,h2,h3,h4⟩:=hI
 refine au (fun c1=>au (fun c2=>?_) (fun c2=>?_)) (fun c1=>?_)
 ·have c1:s.i<(List.length s.aI:Int):=by simpa using c1
  refine .inr ⟨rfl,rfl,s.i.toNat,by simp only;omega,?_⟩
  rw [Int.toNat_of_nonneg (by omega)]
  have hg:JW s s.i=false:=by unfold JW;(first|(have c2:(!(inB (CX s.aI s.i).2 0 (IntKind.i64.wrap ((List.length s.aj:Int)-1))))=false:=c2;simpa using c2) |(have c2:(!(inB (CX s.aI s.i).2 0 (IntKind.i64.wrap ((List.length s.aj:Int)-1))))=true:=c2;simpa using c2))
  exact hg
 ·have c1:s.i<(List.length s.aI:Int):=by simpa using c1
  have hg:JW s s.i=true:=by unfold JW;(first|(have c2:(!(inB (CX s.aI s.i).2 0 (IntKind.i64.wrap ((List.length s.aj:Int)-1))))=false:=c2;simpa using c2) |(have c2:(!(inB (CX s.aI s.i).2 0 (IntKind.i64.wrap ((List.length s.aj:Int)-1))))=true:=c2;simpa using c2))
  rw [aK (x:=s.i+1) (by omega) (by omega)]
  refine ⟨⟨by simp only;omega,by simp only;omega,h2,h3,fun j hj=>?_⟩,by simp only [O9];omega⟩
  by_cases hji:(j:Int)<s.i
  ·exact h4 j hji
  ·have:(j:Int)=s.i:=by simp only at hj;omega
   rw [this];exact hg
 ·have c1:(List.length s.aI:Int)≤s.i:=by simpa using c1
  exact .inl ⟨rfl,fun j hj=>h4 j (by omega)⟩
def EL:bM oU:=⟨0,159,[1,2,9],[],aDB,aCB,fun v b=>⟨vF (v.getD 1 .junk),gI (v.getD 2 .junk),aQ dU (aY (aO b 0) 0),aQ .str (aY (aO b 0) 1),aQ dV (aY (aO b 0) 2),aQ dP (aY (aO b 0) 3),aQ dW (aY (aO b 0) 4)⟩,ZB,fun s r=> {r with ah:=s.ah,aA:=s.aA,ai:=s.ai,aj:=s.aj,aI:=s.aI},fun s=>s,fun _ s=>s,[.ret,.exit 8],alA,Nl,O9⟩
abbrev aam:=EL.run
abbrev abY:=EL.jJ
abbrev ayx:=EL.q
theorem avd (s:oU) (hI:Nl s):(ZB s).all (fun _=>True):=by
 refine ⟨fun c1=>⟨?_,fun _=>trivial,fun _=>trivial⟩,fun _=>trivial⟩
 ·(obtain ⟨h0,h1,h2,h3,h4⟩:=hI;simp at c1;omega)
theorem ahu:EL.Ok:=⟨fun s=>by kernel_rfl,fun s=>by kernel_rfl,fun s=>rfl,fun s t r=>rfl,fun s=>rfl,fun s=>by kernel_rfl⟩
theorem agr:EL.Pf (akU):=⟨az4,fun _ _=>rfl,auV,avd⟩
theorem amB:bg Tryz.prog aS (AN 0) (.loop AZ) EL.lp:=bM.snd ahu agr (aP (Γ:=I4) (K:=dZ) (L:=aC) L6 aF AZ (fun b hb=>by rw [show aB AZ=[] by kernel_rfl] at hb;cases hb)) (fun s=>by kernel_rfl)
theorem anx (s:oU) (hE:alA s):∃s',Nl s'∧akU (abY s) s' (aam s):=bM.fin ahu agr s hE
def acO:List LV→T LV
 | [.agg [.xl (.pair .str (.pair (.int .i64) (.pair (.int .i64) (.pair (.int .i64) (.pair (.pair (.int .i64) (.int .i64)) (.pair (.int .i64) (.pair (.int .i64) (.pair (.int .i64) (.pair (.int .i64) (.int .i64)))))))))) cs,.xl (.str) os,.xl (.pair .str (.pair (.int .i64) (.pair (.int .i64) (.int .i64)))) ks,.xl (.pair .str (.pair (.int .i64) (.pair (.int .i64) (.pair (.int .i64) (.pair (.int .i64) (.pair (.int .i64) (.pair (.int .i64) (.int .i64)))))))) gs,.xl (.pair .str (.int .i64)) bs]]=> .req (nmR (gB cs os ks gs bs)) (.ok (.v (.bool (fO cs os ks gs bs))))
 |_=> .no
noncomputable def Yv:List LV→T LV:=gQ Tryz.prog Tryz.f49.params.toList acO
theorem aov (cs:List Cd) (os:List ByteArray) (ks:List Ko) (gs:List Ch) (bs:List Ba):bV Tryz.prog aS (I4) dZ (fun i=>if i=4 then EO.lp else if i=9 then EN.lp else if i=20 then EM.lp else if i=26 then EL.lp else aC i) Tryz.f49 [.agg [.xl dU cs,.xl .str os,.xl dV ks,.xl dP gs,.xl dW bs]]=.br (!(inB (List.length cs:Int) (1:Int) (16:Int))) (.ok (.v (.bool false))) (.br (decide ((List.length os:Int)>8)) (.ok (.v (.bool false))) (.br (decide ((List.length ks:Int)>32)) (.ok (.v (.bool false))) (.br (decide ((List.length gs:Int)>16)) (.ok (.v (.bool false))) (.br (decide ((List.length bs:Int)>24)) (.ok (.v (.bool false))) (.req (((List.length cs:Int)≤100∧(List.length os:Int)≤100∧(List.length ks:Int)≤100∧(List.length gs:Int)≤100∧(List.length bs:Int)≤100)∧nmR (gB cs os ks gs bs)) (.br (!(nmB (gB cs os ks gs bs))) (.ok (.v (.bool false))) (.req (ayA (⟨false,(0:Int),cs,os,ks,gs,bs⟩:iV)) (.br (iG (ab2 (⟨false,(0:Int),cs,os,ks,gs,bs⟩:iV)) (.ret)) (.ok (.v (.bool (l9 (⟨false,(0:Int),cs,os,ks,gs,bs⟩:iV)).r))) (.req (ayz (⟨(l9 (⟨false,(0:Int),cs,os,ks,gs,bs⟩:iV)).r,(0:Int),cs,os,ks,gs,bs⟩:iU)) (.br (iG (ab1 (⟨(l9 (⟨false,(0:Int),cs,os,ks,gs,bs⟩:iV)).r,(0:Int),cs,os,ks,gs,bs⟩:iU)) (.ret)) (.ok (.v (.bool (qQ (⟨(l9 (⟨false,(0:Int),cs,os,ks,gs,bs⟩:iV)).r,(0:Int),cs,os,ks,gs,bs⟩:iU)).r))) (.req (ayy (⟨(qQ (⟨(l9 (⟨false,(0:Int),cs,os,ks,gs,bs⟩:iV)).r,(0:Int),cs,os,ks,gs,bs⟩:iU)).r,(0:Int),cs,os,ks,gs,bs⟩:lJ)) (.br (iG (abZ (⟨(qQ (⟨(l9 (⟨false,(0:Int),cs,os,ks,gs,bs⟩:iV)).r,(0:Int),cs,os,ks,gs,bs⟩:iU)).r,(0:Int),cs,os,ks,gs,bs⟩:lJ)) (.ret)) (.ok (.v (.bool (zG (⟨(qQ (⟨(l9 (⟨false,(0:Int),cs,os,ks,gs,bs⟩:iV)).r,(0:Int),cs,os,ks,gs,bs⟩:iU)).r,(0:Int),cs,os,ks,gs,bs⟩:lJ)).r))) (.req (ayx (⟨(zG (⟨(qQ (⟨(l9 (⟨false,(0:Int),cs,os,ks,gs,bs⟩:iV)).r,(0:Int),cs,os,ks,gs,bs⟩:iU)).r,(0:Int),cs,os,ks,gs,bs⟩:lJ)).r,(0:Int),cs,os,ks,gs,bs⟩:oU)) (.br (iG (abY (⟨(zG (⟨(qQ (⟨(l9 (⟨false,(0:Int),cs,os,ks,gs,bs⟩:iV)).r,(0:Int),cs,os,ks,gs,bs⟩:iU)).r,(0:Int),cs,os,ks,gs,bs⟩:lJ)).r,(0:Int),cs,os,ks,gs,bs⟩:oU)) (.ret)) (.ok (.v (.bool (aam (⟨(zG (⟨(qQ (⟨(l9 (⟨false,(0:Int),cs,os,ks,gs,bs⟩:iV)).r,(0:Int),cs,os,ks,gs,bs⟩:iU)).r,(0:Int),cs,os,ks,gs,bs⟩:lJ)).r,(0:Int),cs,os,ks,gs,bs⟩:oU)).r))) (.ok (.v (.bool true))))))))))))))))):=by kernel_rfl
theorem atP:Valid Tryz.prog aS 49 Yv:=aH Tryz.func49 rfl L6 aF (L:=(fun i=>if i=4 then EO.lp else if i=9 then EN.lp else if i=20 then EM.lp else if i=26 then EL.lp else aC i)) (fun b hb=>by
 rw [show aB _=[A8,Jm,A7,AZ] by kernel_rfl] at hb
 simp only [List.mem_cons,List.not_mem_nil,or_false] at hb
 rcases hb with rfl|rfl|rfl|rfl
 ·exact amG
 ·exact amF
 ·exact amD
 ·exact amB) (fun args lv h=>by
 unfold acO at h
 split at h
 ·simp only [canL,canX]
  rw [aov]
  rename_i cs os ks gs bs
  obtain ⟨hn,rfl⟩:=h
  have bad:¬(1≤cs.length∧cs.length≤16∧os.length≤8∧ks.length≤32∧gs.length≤16∧bs.length≤24)→LV.v (.bool false)=LV.v (.bool (fO cs os ks gs bs)):=fun hd=>congrArg (fun z=>LV.v (.bool z)) (by
   rw [eq_comm,Bool.eq_false_iff]
   intro hx
   exact hd (gW.1 hx).1)
  refine ⟨fun c=>bad (by simp only [Bool.not_eq_true',aiW] at c;omega),fun c=>⟨fun c2=>bad (by simp at c2;omega),fun c2=>⟨fun c3=>bad (by simp at c3;omega),fun c3=>⟨fun c4=>bad (by simp at c4;omega),fun c4=>⟨fun c5=>bad (by simp at c5;omega),fun c5=>?_⟩⟩⟩⟩⟩
  have hd:1≤cs.length∧cs.length≤16∧os.length≤8∧ks.length≤32∧gs.length≤16∧bs.length≤24:=by
   simp only [Bool.not_eq_false',dB,decide_eq_false_iff_not] at c c2 c3 c4 c5
   omega
  rw [afI hd]
  refine ⟨⟨by omega,hn⟩,fun c6=>?_,fun c6=>?_⟩
  ·have c6:nmB (gB cs os ks gs bs)=false:=by simpa using c6
   rw [c6]
   exact rfl
  have c6:nmB (gB cs os ks gs bs)=true:=by simpa using c6
  rw [c6,Bool.true_and]
  refine nV ⟨⟨rfl,by simp only;omega,by simp only;omega,trivial⟩,rfl,rfl⟩ (fun hE0=>?_)
  obtain ⟨s',_,hq⟩:=anB _ hE0.1
  rcases hq with ⟨q1,q2⟩ |⟨q1,q2,j,q3,q4⟩
  rotate_left
  ·rw [q1,q2]
   refine ⟨fun _=>congrArg (fun z=>LV.v (.bool z)) ?_,fun h=>by cases h⟩
   unfold VX
   rw [uh (n:=cs.length) (f:=fun j=>Ew j (fP cs j)) j q3 q4]
   rfl
  rw [q1]
  refine ⟨fun h=>(by cases h),fun _=>?_⟩
  have g0:KE cs.length (fun j=>Ew j (fP cs j))=true:=fE.2 q2
  refine nV ⟨⟨rfl,by simp only;omega,by simp only;omega⟩,rfl,rfl⟩ (fun hE1=>?_)
  obtain ⟨s',_,hq⟩:=anA _ hE1.1
  rcases hq with ⟨q1,q2⟩ |⟨q1,q2,j,q3,q4⟩
  rotate_left
  ·rw [q1,q2]
   refine ⟨fun _=>congrArg (fun z=>LV.v (.bool z)) ?_,fun h=>by cases h⟩
   unfold VX
   have hn:(ks.all (koV os.length)&&once (ks.map (·.2.2.2)))=false:=by
    rw [Bool.eq_false_iff];intro hx
    have:=(kJ (d:=(emp,0,0,0))).2 hx j q3
    exact Bool.noConfusion (this.symm.trans q4)
   rw [g0,Bool.true_and,←Bool.and_assoc,hn]
   rfl
  rw [q1]
  refine ⟨fun h=>(by cases h),fun _=>?_⟩
  have g1:(ks.all (koV os.length)&&once (ks.map (·.2.2.2)))=true:=(kJ (d:=(emp,0,0,0))).1 q2
  refine nV ⟨⟨rfl,by simp only;omega,by simp only;omega,by simp only;omega,by simp only;omega⟩,rfl,rfl⟩ (fun hE2=>?_)
  obtain ⟨s',_,hq⟩:=anz _ hE2.1
  rcases hq with ⟨q1,q2⟩ |⟨q1,q2,j,q3,q4⟩
  rotate_left
  ·rw [q1,q2]
   refine ⟨fun _=>congrArg (fun z=>LV.v (.bool z)) ?_,fun h=>by cases h⟩
   unfold VX
   have hn:gs.all (Gt cs.length os.length)=false:=by
    rw [Bool.eq_false_iff];intro hx
    have:=(jF (d:=(emp,0,0,0,0,0,0,0))).2 hx j q3
    exact Bool.noConfusion (this.symm.trans q4)
   rw [g0,Bool.true_and,←Bool.and_assoc,g1,hn]
   rfl
  rw [q1]
  refine ⟨fun h=>(by cases h),fun _=>?_⟩
  have g2:gs.all (Gt cs.length os.length)=true:=(jF (d:=(emp,0,0,0,0,0,0,0))).1 q2
  have hw:=aK (x:=(List.length gs:Int)-1) (by omega) (by omega)
  refine nV ⟨⟨rfl,by simp only;omega,by simp only;omega,trivial⟩,rfl,rfl⟩ (fun hE3=>?_)
  obtain ⟨s',_,hq⟩:=anx _ hE3.1
  rcases hq with ⟨q1,q2⟩ |⟨q1,q2,j,q3,q4⟩
  rotate_left
  ·rw [q1,q2]
   refine ⟨fun _=>congrArg (fun z=>LV.v (.bool z)) ?_,fun h=>by cases h⟩
   unfold VX
   have hn:bs.all (fun b=>inB b.2 0 ((gs.length:Int)-1))=false:=by
    rw [Bool.eq_false_iff];intro hx
    have:=(jF (d:=(emp,0))).2 hx j q3
    have q4:inB (CX bs j).2 0 (IntKind.i64.wrap ((List.length gs:Int)-1))=false:=q4
    rw [hw] at q4
    exact Bool.noConfusion (this.symm.trans q4)
   rw [g0,Bool.true_and,←Bool.and_assoc,g1,g2,hn]
   rfl
  rw [q1]
  refine ⟨fun h=>(by cases h),fun _=>?_⟩
  have g3:bs.all (fun b=>inB b.2 0 ((gs.length:Int)-1))=true:=(jF (d:=(emp,0))).1 (fun j hj=>by
   have:inB (CX bs j).2 0 (IntKind.i64.wrap ((List.length gs:Int)-1))=true:=q2 j hj
   rw [hw] at this
   exact this)
  refine congrArg (fun z=>LV.v (.bool z)) ?_
  unfold VX
  rw [g0,Bool.true_and,←Bool.and_assoc,g1,g2,g3]
  rfl
 ·cases h)
end Go.Proofs.YtlihnbimgclogaaGreatDoor
namespace Go.Proofs.YtlihnbimgclogaaGreatDoor
open Go.Sx
section
variable {lt : Int → Int → Bool}
def FY (lt:Int→Int→Bool):List Int→Int→List Int
 | [],x=>[x]
 |y::q,x=>if lt x y=true then y::FY lt q x else x::y::q
theorem xI {x:Int}:∀ {q:List Int},(FY lt q x).Perm (x::q)
 | []=>List.Perm.refl _
 |y::q=>by
  unfold FY
  split
  ·exact (List.Perm.cons y xI).trans (List.Perm.swap x y q)
  ·exact List.Perm.refl _
theorem aiU {q:List Int}{x:Int}:(FY lt q x).length=q.length+1:=by rw [xI.length_eq];rfl
theorem Ja:∀ {l acc:List Int},(l.foldl (FY lt) acc).Perm (acc++l)
 | [],acc=>by simp
 |x::l,acc=>by
  rw [List.foldl_cons]
  refine Ja.trans ?_
  refine (List.Perm.append_right l xI).trans ?_
  rw [List.cons_append]
  exact List.perm_middle.symm
def sortB (lt:Int→Int→Bool) (l:List Int):List Int:=(l.foldl (FY lt) []).reverse
theorem Wp {l:List Int}:(sortB lt l).Perm l:=by
 unfold sortB
 exact (List.reverse_perm _).trans (by have:=Ja (lt:=lt) (l:=l) (acc:=[]);simpa using this)
def exB (l:List Int) (j:Nat):List Int:=(l.set (j+1) (l.getD j 0)).set j (l.getD (j+1) 0)
def bub (lt:Int→Int→Bool):Nat→List Int→List Int
 |0,l=>l
 |j+1,l=>if lt (l.getD (j+1) 0) (l.getD j 0)=true then bub lt j (exB l j) else l
theorem aqm {p post:List Int}{x y:Int}:exB (p++y::x::post) p.length=p++x::y::post:=by
 unfold exB
 have e1:(p++y::x::post).getD p.length 0=y:=by simp [List.getD]
 have e2:(p++y::x::post).getD (p.length+1) 0=x:=by simp [List.getD]
 rw [e1,e2,List.set_append_right _ _ (by omega),List.set_append_right _ _ (by omega)]
 simp
theorem QN {post:List Int}{x:Int}:∀ {q:List Int},bub lt q.length (q.reverse++x::post)=(FY lt q x).reverse++post
 | []=>by simp [bub,FY]
 | y::q=>by
  have hl:q.length=q.reverse.length:=by simp
  have e1:((y::q).reverse++x::post)=q.reverse++y::x::post:=by simp
  rw [e1,List.length_cons,bub]
  have g1:(q.reverse++y::x::post).getD q.length 0=y:=by rw [hl];simp [List.getD]
  have g2:(q.reverse++y::x::post).getD (q.length+1) 0=x:=by rw [hl];simp [List.getD]
  rw [g1,g2]
  unfold FY
  split
  ·have e2:exB (q.reverse++y::x::post) q.length=q.reverse++x::y::post:=by
    have:=aqm (p:=q.reverse) (x:=x) (y:=y) (post:=post)
    rwa [←hl] at this
   rw [e2,QN]
   simp
  ·simp
theorem aj7:∀ {j:Nat}{l:List Int},j<l.length→(bub lt j l).Perm l:=fun {j l} h=>by
 have e:l=(l.take j).reverse.reverse++l[j]::l.drop (j+1):=by rw [List.reverse_reverse,List.getElem_cons_drop,List.take_append_drop]
 have hj:(l.take j).reverse.length=j:=by simp;omega
 have h2:=QN (lt:=lt) (q:=(l.take j).reverse) (x:=l[j]) (post:=l.drop (j+1))
 rw [hj,←e] at h2
 rw [h2]
 refine (List.Perm.append_right _ ((List.reverse_perm _).trans xI)).trans ?_
 rw [List.cons_append]
 refine (List.perm_middle.symm.trans ?_)
 refine (List.Perm.append_right _ (List.reverse_perm _)).trans ?_
 rw [List.getElem_cons_drop,List.take_append_drop]
def uT (lt:Int→Int→Bool) (l:List Int) (i:Nat):List Int:=((l.drop i).foldl (FY lt) (l.take i).reverse).reverse
theorem WB {l:List Int}{i:Nat}(h:i<l.length):uT lt (bub lt i l) (i+1)=uT lt l i:=by
 have e:l=(l.take i).reverse.reverse++l[i]::l.drop (i+1):=by rw [List.reverse_reverse,List.getElem_cons_drop,List.take_append_drop]
 have hi:(l.take i).reverse.length=i:=by simp;omega
 have h2:=QN (lt:=lt) (q:=(l.take i).reverse) (x:=l[i]) (post:=l.drop (i+1))
 rw [hi,←e] at h2
 have hl:((FY lt (l.take i).reverse l[i]).reverse).length=i+1:=by rw [List.length_reverse,aiU,hi]
 unfold uT
 rw [h2,List.drop_append_of_le_length (by omega),List.take_append_of_le_length (by omega),List.drop_of_length_le (by omega),List.take_of_length_le (by omega),List.nil_append,List.reverse_reverse]
 conv=>rhs;rw [←List.getElem_cons_drop h,List.foldl_cons]
theorem ael {l:List Int}:uT lt l 1=sortB lt l:=by
 cases l with
 |nil=>rfl
 |cons x l=>simp [uT,sortB,FY]
theorem aem {l:List Int}{i:Nat}(h:l.length≤i):uT lt l i=l:=by
 unfold uT
 rw [List.drop_of_length_le h,List.take_of_length_le h]
 simp
end
abbrev pR:Ty:=.pair .bool (.pair (.int .i64) (.pair (.int .i64) (.int .i64)))
abbrev Dm:=Bool×Int×Int×Int
def o8 (l:List Dm) (n:Int):Dm:=l.getD n.toNat (false,0,0,0)
def Ws (d:List Dm) (t i:Int):Int:=(o8 d i).2.2.1-t-(o8 d i).2.1
def cm (a b:Int):Int:=if a<b then -1 else if a>b then 1 else 0
def orI:List Int→Int
 | []=>0
 |x::l=>if (x !=0)=true then x else orI l
def cmD (d:List Dm) (t a b:Int):Int:=orI [cm (o8 d a).2.2.2 (o8 d b).2.2.2,cm (Ws d t a) (Ws d t b),cm a b]
def ltD (d:List Dm) (t a b:Int):Bool:=decide (cmD d t a b<0)
theorem aaT {d:List Dm}{t a b:Int}:ltD d t a b=true↔(o8 d a).2.2.2<(o8 d b).2.2.2∨((o8 d a).2.2.2=(o8 d b).2.2.2∧(Ws d t a<Ws d t b∨(Ws d t a=Ws d t b∧a<b))):=by
 unfold ltD cmD
 rw [decide_eq_true_eq]
 generalize (o8 d a).2.2.2=x
 generalize (o8 d b).2.2.2=y
 generalize Ws d t a=u
 generalize Ws d t b=v
 simp only [orI,cm]
 by_cases h1:x<y
 ·simp [h1]
 ·by_cases h2:x>y
  ·simp [h1,h2]<;>omega
  ·by_cases h3:u<v
   ·simp [h1,h2,h3]<;>omega
   ·by_cases h4:u>v
    ·simp [h1,h2,h3,h4]<;>omega
    ·by_cases h5:a<b
     ·simp [h1,h2,h3,h4,h5]<;>omega
     ·by_cases h6:a>b
      ·simp [h1,h2,h3,h4,h5,h6]<;>omega
      ·simp [h1,h2,h3,h4,h5,h6]<;>omega
def xY (d:List Dm) (t:Int):Prop:=(∀x∈d,(-2000000000≤x.2.1∧x.2.1≤2000000000)∧-2000000000≤x.2.2.1∧x.2.2.1≤2000000000)∧-2000000000≤t∧t≤2000000000
theorem apJ {d:List Dm}{i:Int}(h0:0≤i) (h1:i<(d.length:Int)):o8 d i∈d:=by
 unfold o8
 have h:i.toNat<d.length:=by omega
 simp [List.getD,h]
theorem atD {d:List Dm}{t i:Int}(h:xY d t) (h0:0≤i) (h1:i<(d.length:Int)):(-2000000000≤(o8 d i).2.1∧(o8 d i).2.1≤2000000000)∧-2000000000≤(o8 d i).2.2.1∧(o8 d i).2.2.1≤2000000000:=h.1 _ (apJ h0 h1)
def yM (n:Nat):List Int:=(List.range n).map (fun k:Nat=>(k:Int))
def iM (d:List Dm) (t:Int):List Int:=sortB (ltD d t) (yM d.length)
theorem aek {n:Nat}:yM (n+1)=yM n++[(n:Int)]:=by simp [yM,List.range_succ]
theorem qh {n:Nat}:(yM n).length=n:=by simp [yM]
theorem Tq {n:Nat}{x:Int}:x∈yM n↔0≤x∧x<(n:Int):=by
 unfold yM
 rw [List.mem_map]
 constructor
 ·rintro ⟨k,hk,rfl⟩
  rw [List.mem_range] at hk
  omega
 ·exact fun h=>⟨x.toNat,by rw [List.mem_range];omega,by omega⟩
theorem WA {n:Nat}:(yM n).Nodup:=List.Pairwise.map _ (fun a b h=>by omega) List.nodup_range
theorem Dn {d:List Dm}{t:Int}:(iM d t).Perm (yM d.length):=Wp
theorem TI {d:List Dm}{t:Int}:(iM d t).length=d.length:=by rw [Dn.length_eq,qh]
theorem ahc {d:List Dm}{t x:Int}:x∈iM d t↔0≤x∧x<(d.length:Int):=Dn.mem_iff.trans Tq
theorem WW {d:List Dm}{t:Int}:(iM d t).Nodup:=Dn.nodup_iff.2 WA
end Go.Proofs.YtlihnbimgclogaaGreatDoor
namespace Go.Proofs.YtlihnbimgclogaaGreatDoor
open Go.Sx
theorem Qr {mi ma st a k:Int}(hh:lU mi ma st=true) (ha:0≤a) (h0:0≤k) (h1:k<CW mi ma st):Cj mi st k≤a↔k≤TY mi ma st a:=by
 obtain ⟨g1,g2,g3,g4,g5⟩:=eX.1 hh
 have hn:¬(lU mi ma st=false∨a<0):=by simp [hh];omega
 unfold TY
 rw [if_neg hn]
 unfold Cj
 by_cases e:k=0
 ·subst e
  simp only [if_true]
  split
  ·omega
  ·have:=DK (x:=a-mi) (st:=st) (by omega) (by omega)
   omega
 ·rw [if_neg e]
  have hp:0≤(k-1)*st:=Int.mul_nonneg (by omega) (by omega)
  split
  ·omega
  ·have:=(Int.le_ediv_iff_mul_le (a:=k-1) (b:=a-mi) (c:=st) (by omega))
   omega
theorem aiJ {mi ma st a:Int}(hh:lU mi ma st=true):TY mi ma st a<CW mi ma st:=by
 have:=Qp hh
 unfold TY
 split
 ·omega
 ·split<;>omega
theorem XC {mi ma st a:Int}(hh:lU mi ma st=true) (ha:0≤a):0≤TY mi ma st a:=by
 have:=Qp hh
 obtain ⟨g1,g2,g3,g4,g5⟩:=eX.1 hh
 have hn:¬(lU mi ma st=false∨a<0):=by simp [hh];omega
 unfold TY
 rw [if_neg hn]
 split
 ·omega
 ·have:=DK (x:=a-mi) (st:=st) (by omega) (by omega)
  omega
theorem WY {l:List Int}:once l=true↔l.Nodup:=by
 rw [H8,List.nodup_iff_pairwise_ne,List.pairwise_iff_getElem]
 constructor
 ·intro h i j hi hj hij e
  exact h j hj (by rw [←e,List.mem_iff_getElem];exact ⟨i,by rw [List.length_take];omega,by simp⟩)
 ·intro h j hj hm
  obtain ⟨i,hi,e⟩:=List.mem_iff_getElem.1 hm
  rw [List.length_take] at hi
  have:l[i]=l[j]:=by simpa using e
  exact h i j (by omega) hj (by omega) this
theorem vT:∀ {r l:List Int},r.Nodup→(∀x∈r,x∈l)→r.length=l.length→l.Nodup∧∀x∈l,x∈r
 | [],l,_,_,h=>by
  have:l=[]:=List.length_eq_zero_iff.1 h.symm
  subst this
  simp
 | x::r,l,hn,hs,h=>by
  obtain ⟨n1,n2⟩:=List.nodup_cons.1 hn
  have hx:=hs x (by simp)
  have hp:=List.perm_cons_erase hx
  have hl:(l.erase x).length=l.length-1:=List.length_erase_of_mem hx
  obtain ⟨i1,i2⟩:=vT (l:=l.erase x) n2 (fun y hy=>by
   have hy2:=hs y (by simp [hy])
   have hne:y≠x:=fun e=>n1 (e▸hy)
   exact (List.mem_erase_of_ne hne).2 hy2) (by rw [hl];simp only [List.length_cons] at h;omega)
  refine ⟨hp.nodup_iff.2 (List.nodup_cons.2 ⟨fun hm=>n1 (i2 x hm),i1⟩),fun y hy=>?_⟩
  by_cases e:y=x
  ·simp [e]
  ·exact List.mem_cons_of_mem _ (i2 y ((List.mem_erase_of_ne e).2 hy))
def af6 (n:Nat):List Int:=(List.range n).map (fun k:Nat=>(k:Int))
theorem Tt {n:Nat}{x:Int}:x∈af6 n↔0≤x∧x<(n:Int):=by
 unfold af6
 rw [List.mem_map]
 constructor
 ·rintro ⟨k,hk,rfl⟩
  have:=List.mem_range.1 hk
  omega
 ·rintro ⟨h1,h2⟩
  exact ⟨x.toNat,List.mem_range.2 (by omega),by omega⟩
theorem Tv {n:Nat}:(af6 n).length=n:=by simp [af6]
theorem LU {l:List Int}{n:Nat}:mJ l n=true↔l.length=n∧l.Nodup∧∀i∈l,0≤i∧i<(n:Int):=by
 unfold mJ
 simp only [Bool.and_eq_true,decide_eq_true_eq,List.all_eq_true,zK,WY]
 constructor
 ·rintro ⟨h1,h2,h3⟩;exact ⟨by omega,h3,h2⟩
 ·rintro ⟨h1,h2,h3⟩;exact ⟨by omega,h3,h2⟩
theorem aeK {l:List Int}{n:Nat}(h:mJ l n=true) {i:Int}(h0:0≤i) (h1:i<(n:Int)):i∈l:=by
 obtain ⟨g1,g2,g3⟩:=LU.1 h
 exact (vT g2 (l:=af6 n) (fun x hx=>Tt.2 (g3 x hx)) (by rw [Tv];exact g1)).2 i (Tt.2 ⟨h0,h1⟩)
def VY (al am ms:List Int):Int:=(ms.map (fun m=>mx (gi al m) (gi am m))).sum
def rowB (al am:List Int) (r:Rw):Bool:=r.2.all (fun m=>gi am m==0) ||decide (VY al am r.2≤r.1)
def yu (rows:List Rw) (al am:List Int):Bool:=rows.all (rowB al am)
theorem oG {al am ms:List Int}{m:Int}:VY al am (m::ms)=mx (gi al m) (gi am m)+VY al am ms:=by simp [VY]
end Go.Proofs.YtlihnbimgclogaaGreatDoor
namespace Go.Proofs.YtlihnbimgclogaaGreatDoor
open Go.Sx
def aCc (gs:List Ch) (i k:Int):Int:=amA (bn gs i).2.2.2.1 (bn gs i).2.2.2.2.1 (bn gs i).2.2.2.2.2.1 k
def aCb (gs:List Ch) (i k:Int):Int:=amE (bn gs i).2.2.2.1 (bn gs i).2.2.2.2.1 (bn gs i).2.2.2.2.2.1 k
structure ayk (gs:List Ch) (out:List Int):Prop where
 len:out.length=gs.length
 bd:∀a∈out,0≤a∧a≤1000000
theorem ayk.put {gs:List Ch}{out:List Int}(h:ayk gs out) {k:Nat}{v:Int}(hv:0≤v∧v≤1000000):ayk gs (out.set k v):=
 ⟨by rw [List.length_set];exact h.len,fun a ha=>by
  rcases List.mem_or_eq_of_mem_set ha with h2|h2
  ·exact h.bd a h2
  ·rw [h2];exact hv⟩
end Go.Proofs.YtlihnbimgclogaaGreatDoor
namespace Go.Proofs.YtlihnbimgclogaaGreatDoor
open Go.Sx
end Go.Proofs.YtlihnbimgclogaaGreatDoor
namespace Go.Proofs.YtlihnbimgclogaaGreatDoor
open Go.Sx
section
variable {P : List Int → Bool} {tp : Int → Int}
def IQ (P:List Int→Bool) (tp:Int→Int) (L:Int) (lv:List Int) (i:Int):List Int:=
 if gi lv i=L-1∧L≤tp i then (if P (lv.set i.toNat L)=true then lv.set i.toNat L else lv) else lv
def xK (P:List Int→Bool) (tp:Int→Int) (L:Int) (lv l:List Int):List Int:=l.foldl (IQ P tp L) lv
def Dz (P:List Int→Bool) (tp:Int→Int) (od:List Int):Nat→Int→List Int→List Int
 |0,_,lv=>lv
 |f+1,L,lv=>Dz P tp od f (L+1) (xK P tp L lv od)
theorem lg {l:List Int}{i j v:Int}(h0:0≤i) (h1:i<(l.length:Int)) (hj:0≤j):gi (l.set i.toNat v) j=if j=i then v else gi l j:=by
 unfold gi
 rw [qw]
 by_cases e:j=i
 ·subst e
  rw [if_pos ⟨rfl,by omega⟩,if_pos rfl]
 ·rw [if_neg (by omega),if_neg e]
def Dk (n:Nat) (l:List Int):Prop:=∀i∈l,0≤i∧i<(n:Int)
theorem Aa {L i:Int}{lv:List Int}:(IQ P tp L lv i).length=lv.length:=by
 unfold IQ
 split
 ·split
  ·rw [List.length_set]
  ·rfl
 ·rfl
theorem ajd {L i j:Int}{lv:List Int}(h:0≤i∧i<(lv.length:Int)) (hj:0≤j):gi lv j≤gi (IQ P tp L lv i) j:=by
 unfold IQ
 split
 ·rename_i hc
  split
  ·rw [lg h.1 h.2 hj]
   split
   ·rename_i e;subst e;omega
   ·exact Int.le_refl _
  ·exact Int.le_refl _
 ·exact Int.le_refl _
theorem aeO {L i j:Int}{lv:List Int}(h:0≤i∧i<(lv.length:Int)) (hj:0≤j) (hn:j≠i∨gi lv j≠L-1):gi (IQ P tp L lv i) j=gi lv j:=by
 unfold IQ
 split
 ·rename_i hc
  split
  ·rw [lg h.1 h.2 hj]
   split
   ·rename_i e;subst e;rcases hn with hn|hn
    ·exact absurd rfl hn
    ·exact absurd hc.1 hn
   ·rfl
  ·rfl
 ·rfl
theorem axi {L i j:Int}{lv:List Int}(h:0≤i∧i<(lv.length:Int)) (hj:0≤j):gi (IQ P tp L lv i) j≤gi lv j∨(gi (IQ P tp L lv i) j=L∧L≤tp j):=by
 unfold IQ
 split
 ·rename_i hc
  split
  ·rw [lg h.1 h.2 hj]
   split
   ·rename_i e;subst e;exact .inr ⟨rfl,hc.2⟩
   ·exact .inl (Int.le_refl _)
  ·exact .inl (Int.le_refl _)
 ·exact .inl (Int.le_refl _)
theorem aBm {L i:Int}{lv:List Int}(h:P lv=true):P (IQ P tp L lv i)=true:=by
 unfold IQ
 split
 ·split
  ·rename_i hp;exact hp
  ·exact h
 ·exact h
theorem apD {L:Int}{lv l1 l2:List Int}:xK P tp L lv (l1++l2)=xK P tp L (xK P tp L lv l1) l2:=by simp [xK]
theorem qm {L i:Int}{lv l:List Int}:xK P tp L lv (i::l)=xK P tp L (IQ P tp L lv i) l:=rfl
theorem oh {L:Int}:∀ {l lv:List Int},(xK P tp L lv l).length=lv.length
 | [],_=>rfl
 |i::l,lv=>by rw [qm,oh (l:=l),Aa]
theorem IK {L j:Int}(hj:0≤j):∀ {l lv:List Int},Dk lv.length l→gi lv j≤gi (xK P tp L lv l) j
 | [],_,_=>Int.le_refl _
 |i::l,lv,h=>by
  rw [qm]
  have h1:=ajd (P:=P) (tp:=tp) (L:=L) (h i (by simp)) hj
  have h2:=IK (L:=L) hj (l:=l) (lv:=IQ P tp L lv i) (by rw [Aa];exact fun x hx=>h x (by simp [hx]))
  omega
theorem xJ {L j:Int}(hj:0≤j):∀ {l lv:List Int},Dk lv.length l→(j∉l∨gi lv j≠L-1)→gi (xK P tp L lv l) j=gi lv j
 | [],_,_,_=>rfl
 | i::l,lv,h,hn=>by
  have e:=aeO (P:=P) (tp:=tp) (L:=L) (h i (by simp)) hj (by
   rcases hn with hn|hn
   ·exact .inl (fun e=>hn (by simp [e]))
   ·exact .inr hn)
  rw [qm,xJ hj (by rw [Aa];exact fun x hx=>h x (by simp [hx])) (by
   rcases hn with hn|hn
   ·exact .inl (fun hm=>hn (by simp [hm]))
   ·exact .inr (by rw [e];exact hn)),e]
theorem IL {L j:Int}(hj:0≤j):∀ {l lv:List Int},Dk lv.length l→gi (xK P tp L lv l) j≤gi lv j∨(gi (xK P tp L lv l) j≤L∧gi (xK P tp L lv l) j≤tp j)
 | [],_,_=> .inl (Int.le_refl _)
 |i::l,lv,h=>by
  rw [qm]
  have h1:=axi (P:=P) (tp:=tp) (L:=L) (h i (by simp)) hj
  have h2:=IL (L:=L) hj (l:=l) (lv:=IQ P tp L lv i) (by rw [Aa];exact fun x hx=>h x (by simp [hx]))
  omega
theorem ar0 {L:Int}:∀ {l lv:List Int},P lv=true→P (xK P tp L lv l)=true
 | [],_,h=>h
 |i::l,lv,h=>by rw [qm];exact ar0 (l:=l) (aBm h)
theorem abb {od:List Int}:∀ {f:Nat}{L:Int}{lv:List Int},(Dz P tp od f L lv).length=lv.length
 |0,_,_=>rfl
 |f+1,L,lv=>by rw [Dz,abb,oh]
theorem XL {od:List Int}{j:Int}(hj:0≤j):∀ {f:Nat}{L:Int}{lv:List Int},Dk lv.length od→gi lv j≤gi (Dz P tp od f L lv) j
 |0,_,_,_=>Int.le_refl _
 |f+1,L,lv,h=>by
  rw [Dz]
  have h1:=IK (P:=P) (tp:=tp) (L:=L) hj h
  have h2:=XL (f:=f) (L:=L+1) (lv:=xK P tp L lv od) hj (by rw [oh];exact h)
  omega
theorem LY {od:List Int}{j:Int}(hj:0≤j):∀ {f:Nat}{L:Int}{lv:List Int},Dk lv.length od→gi lv j<L-1→gi (Dz P tp od f L lv) j=gi lv j
 |0,_,_,_,_=>rfl
 |f+1,L,lv,h,hl=>by
  have e:=xJ (P:=P) (tp:=tp) (L:=L) hj h (.inr (by omega))
  rw [Dz,LY hj (by rw [oh];exact h) (by omega),e]
theorem ajf {od:List Int}{j:Int}(hj:0≤j):∀ {f:Nat}{L:Int}{lv:List Int},Dk lv.length od→gi (Dz P tp od f L lv) j≤gi lv j∨(gi (Dz P tp od f L lv) j≤L+f-1∧gi (Dz P tp od f L lv) j≤tp j)
 |0,_,_,_=> .inl (Int.le_refl _)
 |f+1,L,lv,h=>by
  rw [Dz]
  have h1:=IL (P:=P) (tp:=tp) (L:=L) hj h
  have h2:=ajf (f:=f) (L:=L+1) (lv:=xK P tp L lv od) hj (by rw [oh];exact h)
  omega
theorem ar1 {od:List Int}:∀ {f:Nat}{L:Int}{lv:List Int},P lv=true→P (Dz P tp od f L lv)=true
 |0,_,_,h=>h
 |f+1,L,lv,h=>by rw [Dz];exact ar1 (ar0 h)
theorem Uf {od:List Int}:∀ {f:Nat}{L:Int}{lv:List Int},Dz P tp od (f+1) L lv=xK P tp (L+f) (Dz P tp od f L lv) od
 |0,L,lv=>by simp [Dz]
 |f+1,L,lv=>by
  rw [Dz,Uf (f:=f) (L:=L+1),Dz,show L+1+(f:Int)=L+((f+1:Nat):Int) by omega]
theorem Dx {L:Int}:∀ {l lv:List Int},(∀i∈l,gi lv i≠L-1∨tp i<L)→xK P tp L lv l=lv
 | [],_,_=>rfl
 | i::l,lv,h=>by
  have e:IQ P tp L lv i=lv:=by
   unfold IQ
   rw [if_neg (by have:=h i (by simp);omega)]
  rw [qm,e,Dx (fun j hj=>h j (by simp [hj]))]
theorem LX {od:List Int}:∀ {f:Nat}{L:Int}{lv:List Int},(∀i∈od,gi lv i<L-1)→Dz P tp od f L lv=lv
 |0,_,_,_=>rfl
 |f+1,L,lv,h=>by
  rw [Dz,Dx (fun i hi=> .inl (by have:=h i hi;omega)),LX (fun i hi=>by have:=h i hi;omega)]
theorem LW {od:List Int}(hn:od.Nodup) {l1 l2:List Int}{i:Int}(ho:od=l1++i::l2):∀ {f:Nat}{L0:Int}{lv:List Int},Dk lv.length od→(∀j,0≤j→gi lv j≤L0-1)→∀ {L:Int},L0≤L→L<L0+f→gi (Dz P tp od f L0 lv) i=L-1→L≤tp i→
  ∃cur:List Int,cur.length=lv.length∧P (cur.set i.toNat L)=false∧(∀j,0≤j→gi lv j≤gi cur j∧gi cur j≤gi (Dz P tp od f L0 lv) j∧gi cur j≤L)∧∀j∈i::l2,gi cur j≤L-1
 |0,L0,lv,_,_,L,h1,h2,_,_=>by omega
 | f +1,L0,lv,hr,hb,L,h1,h2,hs,ht=>by
  have hi:0≤i∧i<(lv.length:Int):=hr i (by rw [ho];simp)
  have hr2:Dk (xK P tp L0 lv od).length od:=by rw [oh];exact hr
  rw [Dz] at hs⊢
  by_cases e:L=L0
  ·subst e
   have hr1:Dk lv.length l1:=fun x hx=>hr x (by rw [ho];simp [hx])
   have hrl:Dk (xK P tp L lv l1).length (i::l2):=by rw [oh];exact fun x hx=>hr x (by rw [ho];simp only [List.mem_append];exact .inr hx)
   have hnd:∀j∈i::l2,j∉l1:=by
    rw [ho] at hn
    intro j hj hj1
    exact (List.nodup_append.1 hn).2.2 j hj1 j hj rfl
   have hcur:∀j∈i::l2,gi (xK P tp L lv l1) j=gi lv j:=fun j hj=>xJ (hr j (by rw [ho];simp only [List.mem_append];exact .inr hj)).1 hr1 (.inl (hnd j hj))
   have happ:xK P tp L lv od=xK P tp L (IQ P tp L (xK P tp L lv l1) i) l2:=by rw [ho,apD,qm]
   have hfin:∀j,0≤j→gi (xK P tp L lv od) j≤gi (Dz P tp od f (L+1) (xK P tp L lv od)) j:=fun j hj=>XL hj hr2
   have hst:∀j,0≤j→gi (IQ P tp L (xK P tp L lv l1) i) j≤gi (xK P tp L lv od) j:=fun j hj=>by
    rw [happ]
    exact IK hj (by rw [Aa];exact fun x hx=>hrl x (by simp [hx]))
   have hci:gi (xK P tp L lv l1) i=L-1:=by
    have h3:=hcur i (by simp)
    have h4:=hb i hi.1
    by_cases h5:gi lv i=L-1
    ·omega
    ·have h6:=xJ (P:=P) (tp:=tp) (L:=L) hi.1 hr (.inr h5)
     have h7:=LY (P:=P) (tp:=tp) (f:=f) (L:=L+1) hi.1 hr2 (by omega)
     omega
   refine ⟨xK P tp L lv l1,oh,?_,fun j hj=>⟨IK hj hr1,?_,?_⟩,fun j hj=>?_⟩
   ·cases hp:P ((xK P tp L lv l1).set i.toNat L) with
    |false=>rfl
    | true=>
     have h3:gi (IQ P tp L (xK P tp L lv l1) i) i=L:=by
      unfold IQ
      rw [if_pos ⟨hci,ht⟩,if_pos hp,lg hi.1 (by rw [oh];exact hi.2) hi.1,if_pos rfl]
     have h4:=hst i hi.1
     have h5:=hfin i hi.1
     omega
   ·have h3:=ajd (P:=P) (tp:=tp) (L:=L) (hrl i (by simp)) hj
    have h4:=hst j hj
    have h5:=hfin j hj
    omega
   ·have h3:=IL (P:=P) (tp:=tp) (L:=L) hj hr1
    have h4:=hb j hj
    omega
   ·rw [hcur j hj]
    exact hb j (hr j (by rw [ho];simp only [List.mem_append];exact .inr hj)).1
  ·obtain ⟨cur,c1,c2,c3,c4⟩:=LW hn ho (f:=f) (L0:=L0+1) (lv:=xK P tp L0 lv od) hr2 (fun j hj=>by
    have h3:=IL (P:=P) (tp:=tp) (L:=L0) hj hr
    have h4:=hb j hj
    omega) (L:=L) (by omega) (by omega) hs ht
   refine ⟨cur,by rw [c1,oh],c2,fun j hj=>?_,c4⟩
   have h3:=IK (P:=P) (tp:=tp) (L:=L0) hj hr
   have h4:=c3 j hj
   exact ⟨by omega,h4.2⟩
end
end Go.Proofs.YtlihnbimgclogaaGreatDoor
namespace Go.Proofs.YtlihnbimgclogaaGreatDoor
open Go.Sx
structure qC (rows:List Rw) (gs:List Ch) (al mo od:List Int):Prop where
 mem:∀r∈rows,r.2.Nodup∧∀m∈r.2,0≤m∧m<(gs.length:Int)
 has:∀i:Int,0≤i→i<(gs.length:Int)→lU (bn gs i).2.2.2.1 (bn gs i).2.2.2.2.1 (bn gs i).2.2.2.2.2.1=true
 gl:gs.length≤16
 all:al.length=gs.length
 mol:mo.length=gs.length
 al:∀a∈al,0≤a∧a≤80
 mo:∀a∈mo,0≤a∧a≤80
 nd:od.Nodup
 ord:Dk gs.length od
 cov:∀i:Int,0≤i→i<(gs.length:Int)→i∈od
theorem Td {cs:List Cd}{os:List ByteArray}{ks:List Ko}{gs:List Ch}{bs:List Ba}{al mo od:List Int}(h:rP cs os ks gs bs al mo od=true):qC (jC cs gs cs.length) gs al mo od:=by
 obtain ⟨hv,h1,h2,h3,h4,h5⟩:=jr.1 h
 have hl:=(gW.1 hv).1
 obtain ⟨o1,o2,o3⟩:=LU.1 h5
 refine ⟨fun r hr=>⟨(row_mem hr).1,(row_mem hr).2.1⟩,fun i h0 h1=>?_,by omega,h1,h2,fun a ha=>oL.1 (List.all_eq_true.1 h3 a ha),fun a ha=>oL.1 (List.all_eq_true.1 h4 a ha),o2,o3,fun i h0 h1=>aeK h5 h0 h1⟩
 have:=sH hv h0 h1
 unfold Gt chW at this
 simp only [Bool.and_eq_true,dB] at this
 exact eX.2 (by omega)
def PP (rows:List Rw) (gs:List Ch) (al lv:List Int):Bool:=yu rows al (lV gs lv)
def tpO (gs:List Ch) (mo:List Int) (i:Int):Int:=yx gs i (gi mo i)
theorem Js {gs:List Ch}{lv:List Int}:(lV gs lv).length=gs.length:=by simp [lV]
theorem kW {gs:List Ch}{lv:List Int}{i:Int}(h0:0≤i) (h1:i<(gs.length:Int)):gi (lV gs lv) i=vw gs i (gi lv i):=by
 rw [oK (by rw [Js];omega)]
 simp only [lV,List.getElem_map,List.getElem_range]
 rw [Int.toNat_of_nonneg h0]
 rfl
theorem acC {gs:List Ch}{i:Int}:vw gs i 0=0:=by simp [vw,Cj]
theorem Jt {gs:List Ch}{i a b:Int}(hh:lU (bn gs i).2.2.2.1 (bn gs i).2.2.2.2.1 (bn gs i).2.2.2.2.2.1=true) (h0:0≤a) (h1:a≤b):vw gs i a≤vw gs i b:=by
 obtain ⟨g1,g2,g3,g4,g5⟩:=eX.1 hh
 exact U1 ⟨g1,g4⟩ h0 h1
theorem akb {gs:List Ch}{i a b:Int}(hh:lU (bn gs i).2.2.2.1 (bn gs i).2.2.2.2.1 (bn gs i).2.2.2.2.2.1=true) (h0:0≤a) (h1:a<b):vw gs i a<vw gs i b:=by
 obtain ⟨g1,g2,g3,g4,g5⟩:=eX.1 hh
 have h2:=Jt hh (show 0≤a+1 by omega) (show a+1≤b by omega)
 have h3:vw gs i a<vw gs i (a+1):=by
  unfold vw Cj
  rw [if_neg (show ¬a+1=0 by omega)]
  split
  ·rename_i e;subst e;simp;omega
  ·have:(a+1-1)*(bn gs i).2.2.2.2.2.1=(a-1)*(bn gs i).2.2.2.2.2.1+(bn gs i).2.2.2.2.2.1:=by
    rw [show a+1-1=(a-1)+1 by omega,Int.add_mul,Int.one_mul]
   omega
 omega
theorem QU {gs:List Ch}{i a:Int}(hh:lU (bn gs i).2.2.2.1 (bn gs i).2.2.2.2.1 (bn gs i).2.2.2.2.2.1=true) (h0:0≤a):0≤vw gs i a:=by
 have:=Jt hh (Int.le_refl 0) h0
 rw [acC] at this
 exact this
theorem apj {a b c:Int}(h:b≤c):mx a b≤mx a c:=by
 unfold mx
 split<;>split<;>omega
theorem SX {al am bm:List Int}:∀ {ms:List Int},(∀m∈ms,gi am m≤gi bm m)→VY al am ms≤VY al bm ms
 | [],_=>Int.le_refl _
 |m::ms,h=>by
  have h1:=SX (al:=al) (ms:=ms) (fun x hx=>h x (by simp [hx]))
  have h2:=apj (a:=gi al m) (h m (by simp))
  rw [oG,oG]
  omega
theorem wU {al am bm:List Int}:∀ {ms:List Int},(∀m∈ms,gi am m=gi bm m)→VY al am ms=VY al bm ms
 | [],_=>rfl
 |m::ms,h=>by rw [oG,oG,wU (ms:=ms) (fun x hx=>h x (by simp [hx])),h m (by simp)]
theorem aah {al am bm:List Int}{i:Int}:∀ {ms:List Int},ms.Nodup→i∈ms→(∀m∈ms,m≠i→gi am m=gi bm m)→VY al bm ms=VY al am ms+(mx (gi al i) (gi bm i)-mx (gi al i) (gi am i))
 | [],_,h,_=>by cases h
 | m::ms,hn,hi,h=>by
  obtain ⟨n1,n2⟩:=List.nodup_cons.1 hn
  rw [oG,oG]
  by_cases e:m=i
  ·subst e
   rw [wU (am:=am) (bm:=bm) (fun x hx=>h x (by simp [hx]) (fun e=>n1 (e▸hx)))]
   omega
  ·have hi2:i∈ms:=by
    rcases List.mem_cons.1 hi with h|h
    ·exact absurd h.symm e
    ·exact h
   rw [aah n2 hi2 (fun x hx=>h x (by simp [hx])),h m (by simp) e]
   omega
theorem Wx {al am bm:List Int}{r:Rw}(h:∀m∈r.2,gi am m=gi bm m):rowB al am r=rowB al bm r:=by
 unfold rowB
 rw [wU h]
 congr 1
 rw [Bool.eq_iff_iff,List.all_eq_true,List.all_eq_true]
 constructor
 ·intro g m hm;rw [←h m hm];exact g m hm
 ·intro g m hm;rw [h m hm];exact g m hm
theorem aqR {rows:List Rw}{gs:List Ch}{al mo od:List Int}(H:qC rows gs al mo od) {a b:List Int}(h:∀j,0≤j→j<(gs.length:Int)→0≤gi a j∧gi a j≤gi b j) (hb:PP rows gs al b=true):PP rows gs al a=true:=by
 unfold PP yu at*
 rw [List.all_eq_true] at*
 intro r hr
 have hm:=(H.mem r hr).2
 have hle:∀m∈r.2,gi (lV gs a) m≤gi (lV gs b) m:=fun m hm'=>by
  obtain ⟨m0,m1⟩:=hm m hm'
  rw [kW m0 m1,kW m0 m1]
  exact Jt (H.has m m0 m1) (h m m0 m1).1 (h m m0 m1).2
 have h1:=hb r hr
 unfold rowB at*
 rw [Bool.or_eq_true,List.all_eq_true,decide_eq_true_eq] at*
 rcases h1 with h1|h1
 ·refine .inl (fun m hm'=>?_)
  obtain ⟨m0,m1⟩:=hm m hm'
  have h2:=h1 m hm'
  have h3:=hle m hm'
  have h4:0≤gi (lV gs a) m:=by rw [kW m0 m1];exact QU (H.has m m0 m1) (h m m0 m1).1
  simp only [beq_iff_eq] at*
  omega
 ·exact .inr (Int.le_trans (SX hle) h1)
structure Inv (rows:List Rw) (gs:List Ch) (al sm lv:List Int):Prop where
 sl:sm.length=rows.length
 sm:∀k:Nat,k<rows.length→sm.getD k 0=VY al (lV gs lv) (rE rows k).2
 ll:lv.length=gs.length
 nn:∀j,0≤j→0≤gi lv j
 pp:PP rows gs al lv=true
theorem Gp {rows:List Rw}{k:Int}(h0:0≤k) (h1:k<(rows.length:Int)):rE rows k∈rows:=by
 rw [DC (by omega)];exact List.getElem_mem _
theorem QT {rows:List Rw}{gs:List Ch}{al mo od lv:List Int}(H:qC rows gs al mo od) {i L:Int}(hl:lv.length=gs.length) (h0:0≤i) (h1:i<(gs.length:Int)) {r:Rw}(hr:r∈rows):
  (∀m∈r.2,m≠i→gi (lV gs lv) m=gi (lV gs (lv.set i.toNat L)) m)∧gi (lV gs (lv.set i.toNat L)) i=vw gs i L:=by
 refine ⟨fun m hm e=>?_,?_⟩
 ·obtain ⟨m0,m1⟩:=(H.mem r hr).2 m hm
  rw [kW m0 m1,kW m0 m1,lg h0 (by omega) m0,if_neg e]
 ·rw [kW h0 h1,lg h0 (by omega) h0,if_pos rfl]
theorem afE {rows:List Rw}{gs:List Ch}{al mo od lv:List Int}(H:qC rows gs al mo od) {i L:Int}(hl:lv.length=gs.length) (h0:0≤i) (h1:i<(gs.length:Int)) {r:Rw}(hr:r∈rows) (hc:gi lv i=L-1):
  VY al (lV gs (lv.set i.toNat L)) r.2=VY al (lV gs lv) r.2+(if i∈r.2 then LD gs al i L else 0):=by
 obtain ⟨p1,p2⟩:=QT (L:=L) H hl h0 h1 hr
 split
 ·rename_i hi
  rw [aah (am:=lV gs lv) (H.mem r hr).1 hi p1,p2,kW h0 h1,hc]
  rfl
 ·rename_i hi
  rw [←wU (am:=lV gs lv) (fun m hm=>p1 m hm (fun e=>hi (e▸hm)))]
  omega
theorem apN {rows:List Rw}{gs:List Ch}{al mo od sm lv:List Int}(H:qC rows gs al mo od) (hI:Inv rows gs al sm lv) {i L:Int}(h0:0≤i) (h1:i<(gs.length:Int)) (hL:1≤L) (hc:gi lv i=L-1):
  ((OL rows).getD i.toNat []).all (Am rows sm (LD gs al i L))=PP rows gs al (lv.set i.toNat L):=by
 have hg:=H.gl
 rw [Y8 (fun r hr=>⟨(H.mem r hr).1,fun m hm=>((H.mem r hr).2 m hm).1⟩) (by omega),Bool.eq_iff_iff,List.all_eq_true]
 unfold PP yu
 rw [List.all_eq_true]
 have hpp:=hI.pp
 unfold PP yu at hpp
 rw [List.all_eq_true] at hpp
 have hpos:1≤vw gs i L:=by
  have:=akb (H.has i h0 h1) (Int.le_refl 0) (show 0<L by omega)
  rw [acC] at this
  omega
 have hfit:∀k:Int,0≤k→k<(rows.length:Int)→i∈(rE rows k).2→(Am rows sm (LD gs al i L) k=rowB al (lV gs (lv.set i.toNat L)) (rE rows k)):=fun k k0 k1 hk=>by
  have hr:=Gp k0 k1
  have hs:=hI.sm k.toNat (by omega)
  rw [Int.toNat_of_nonneg k0] at hs
  have hp:=afE (L:=L) H hI.ll h0 h1 hr hc
  rw [if_pos hk] at hp
  have hz:(rE rows k).2.all (fun m=>gi (lV gs (lv.set i.toNat L)) m==0)=false:=by
   rw [Bool.eq_false_iff]
   intro hz
   have:=List.all_eq_true.1 hz i hk
   rw [(QT (L:=L) H hI.ll h0 h1 hr).2,beq_iff_eq] at this
   omega
  unfold Am rowB
  rw [hz,Bool.false_or,hp,hs]
 constructor
 ·intro h r hr
  obtain ⟨k,hk,rfl⟩:=List.mem_iff_getElem.1 hr
  have ek:rE rows (k:Int)=rows[k]:=DC (by simpa using hk)
  by_cases hi:i∈rows[k].2
  ·have:=h (k:Int) (uj.2 ⟨by omega,by omega,by
    rw [Int.sub_zero,ek,Int.toNat_of_nonneg h0]
    simpa using hi⟩)
   rw [hfit k (by omega) (by omega) (by rw [ek];exact hi),ek] at this
   exact this
  ·rw [←Wx (am:=lV gs lv) (fun m hm=>(QT (L:=L) H hI.ll h0 h1 hr).1 m hm (fun e=>hi (e▸hm)))]
   exact hpp _ hr
 ·intro h x hx
  obtain ⟨x0,x1,x2⟩:=uj.1 hx
  rw [Int.sub_zero,Int.toNat_of_nonneg h0] at x2
  rw [hfit x x0 (by omega) (by simpa using x2)]
  exact h _ (Gp x0 (by omega))
theorem anE {rows:List Rw}{gs:List Ch}{al mo od sm lv:List Int}{b:Bool}(H:qC rows gs al mo od) (hI:Inv rows gs al sm lv) {i L:Int}(h0:0≤i) (h1:i<(gs.length:Int)) (hL:1≤L):
  (Dj (OL rows) rows gs al mo L (sm,lv,b) i).2.1=IQ (PP rows gs al) (tpO gs mo) L lv i∧Inv rows gs al (Dj (OL rows) rows gs al mo L (sm,lv,b) i).1 (Dj (OL rows) rows gs al mo L (sm,lv,b) i).2.1∧((Dj (OL rows) rows gs al mo L (sm,lv,b) i).2.2=false→b=false∧(Dj (OL rows) rows gs al mo L (sm,lv,b) i).2.1=lv):=by
 unfold Dj IQ
 simp only
 by_cases hc:gi lv i=L-1∧L≤tpO gs mo i
 ·have hf:=apN H hI h0 h1 hL hc.1
  rw [if_pos (show lv.getD i.toNat 0=L-1∧L≤yx gs i (gi mo i) from hc),if_pos hc,hf]
  by_cases hp:PP rows gs al (lv.set i.toNat L)=true
  ·rw [if_pos hp,if_pos hp]
   have hg:=H.gl
   refine ⟨rfl,⟨by rw [rJ];exact hI.sl,fun k hk=>?_,by rw [List.length_set];exact hI.ll,fun j hj=>?_,hp⟩,fun h=>by cases h⟩
   ·have hr:rE rows (k:Int)∈rows:=Gp (by omega) (by omega)
    simp only
    rw [Y8 (fun r hr=>⟨(H.mem r hr).1,fun m hm=>((H.mem r hr).2 m hm).1⟩) (by omega),Jw xC (fun r hr=>(uj.1 hr).1) (by rw [hI.sl];exact hk),hI.sm k hk,afE (L:=L) H hI.ll h0 h1 hr hc.1]
    have:(k:Int)∈ofF 0 rows (i.toNat:Int)↔i∈(rE rows (k:Int)).2:=by
     rw [uj,Int.sub_zero,Int.toNat_of_nonneg h0]
     simp only [List.contains_iff_mem]
     constructor
     ·exact fun h=>h.2.2
     ·exact fun h=>⟨by omega,by omega,h⟩
    by_cases hm:i∈(rE rows (k:Int)).2
    ·rw [if_pos (this.2 hm),if_pos hm]
    ·rw [if_neg (fun h=>hm (this.1 h)),if_neg hm]
   ·simp only
    rw [lg h0 (by rw [hI.ll];exact h1) hj]
    split
    ·omega
    ·exact hI.nn j hj
  ·rw [if_neg hp,if_neg hp]
   exact ⟨rfl,hI,fun h=>⟨h,rfl⟩⟩
 ·rw [if_neg (show ¬(lv.getD i.toNat 0=L-1∧L≤yx gs i (gi mo i)) from hc),if_neg hc]
  exact ⟨rfl,hI,fun h=>⟨h,rfl⟩⟩
theorem aad {rows:List Rw}{gs:List Ch}{al mo od:List Int}(H:qC rows gs al mo od) {L:Int}(hL:1≤L):∀ {l sm lv:List Int}{b:Bool},Dk gs.length l→Inv rows gs al sm lv→
  (swp (OL rows) rows gs al mo L (sm,lv,b) l).2.1=xK (PP rows gs al) (tpO gs mo) L lv l∧Inv rows gs al (swp (OL rows) rows gs al mo L (sm,lv,b) l).1 (swp (OL rows) rows gs al mo L (sm,lv,b) l).2.1∧((swp (OL rows) rows gs al mo L (sm,lv,b) l).2.2=false→b=false∧(swp (OL rows) rows gs al mo L (sm,lv,b) l).2.1=lv)
 | [],sm,lv,b,_,hI=>⟨rfl,hI,fun h=>⟨h,rfl⟩⟩
 |i::l,sm,lv,b,hr,hI=>by
  obtain ⟨i0,i1⟩:=hr i (by simp)
  obtain ⟨r1,r2,r3⟩:=anE (b:=b) H hI i0 i1 hL
  obtain ⟨s1,s2,s3⟩:=aad H hL (l:=l) (b:=(Dj (OL rows) rows gs al mo L (sm,lv,b) i).2.2) (fun x hx=>hr x (by simp [hx])) r2
  refine ⟨s1.trans (by rw [r1];rfl),s2,fun h=>?_⟩
  obtain ⟨t1,t2⟩:=s3 h
  obtain ⟨t3,t4⟩:=r3 t1
  exact ⟨t3,t2.trans t4⟩
theorem aai {rows:List Rw}{gs:List Ch}{al mo od:List Int}(H:qC rows gs al mo od):∀ {f:Nat}{L:Int}{sm lv:List Int},1≤L→Inv rows gs al sm lv→(∀i∈od,gi lv i≤L-1)→shl (OL rows) rows gs al mo od f L sm lv=Dz (PP rows gs al) (tpO gs mo) od f L lv
 |0,_,_,_,_,_,_=>rfl
 | f+1,L,sm,lv,hL,hI,hb=>by
  obtain ⟨s1,s2,s3⟩:=aad (b:=false) H hL H.ord hI
  rw [shl,Dz]
  split
  ·rw [aai H (by omega) s2 (fun i hi=>by
    rw [s1]
    have h1:=IL (P:=PP rows gs al) (tp:=tpO gs mo) (L:=L) (H.ord i hi).1 (l:=od) (lv:=lv) (by rw [hI.ll];exact H.ord)
    have h2:=hb i hi
    omega),s1]
  ·rename_i hc
   have hc:(swp (OL rows) rows gs al mo L (sm,lv,false) od).2.2=false:=by simpa using hc
   have e:=(s3 hc).2
   rw [←s1,e,LX (fun i hi=>by have:=hb i hi;omega)]
theorem qo {n:Nat}{j:Int}:gi (List.replicate n 0) j=0:=by
 unfold gi
 simp only [List.getD,List.getElem?_replicate]
 split<;>rfl
theorem arC {rows:List Rw}{gs:List Ch}{al mo od:List Int}(H:qC rows gs al mo od):Inv rows gs al (SM al rows) (List.replicate gs.length 0):=by
 have hz:∀r∈rows,∀m∈r.2,gi (lV gs (List.replicate gs.length 0)) m=0:=fun r hr m hm=>by
  obtain ⟨m0,m1⟩:=(H.mem r hr).2 m hm
  rw [kW m0 m1,qo,acC]
 refine ⟨DW,fun k hk=>?_,List.length_replicate,fun j _=>by rw [qo];omega,?_⟩
 ·rw [aks hk]
  have hr:rE rows (k:Int)∈rows:=Gp (by omega) (by omega)
  unfold smA VY
  congr 1
  refine List.map_congr_left (fun m hm=>?_)
  obtain ⟨m0,m1⟩:=(H.mem _ hr).2 m hm
  rw [hz _ hr m hm]
  have:=H.al _ (qp m0 (by rw [H.all];exact m1))
  unfold mx
  rw [if_neg (by omega)]
 ·unfold PP yu
  rw [List.all_eq_true]
  intro r hr
  unfold rowB
  rw [Bool.or_eq_true,List.all_eq_true]
  exact .inl (fun m hm=>by rw [hz r hr m hm];rfl)
def LM (rows:List Rw) (gs:List Ch) (al mo od:List Int):List Int:=Dz (PP rows gs al) (tpO gs mo) od 80 1 (List.replicate gs.length 0)
theorem G5 {rows:List Rw}{gs:List Ch}{al mo od:List Int}(H:qC rows gs al mo od) {i:Int}(h0:0≤i) (h1:i<(gs.length:Int)):0≤tpO gs mo i∧tpO gs mo i≤80∧tpO gs mo i<CW (bn gs i).2.2.2.1 (bn gs i).2.2.2.2.1 (bn gs i).2.2.2.2.2.1:=
 ⟨XC (H.has i h0 h1) (H.mo _ (qp h0 (by rw [H.mol];exact h1))).1,XD,aiJ (H.has i h0 h1)⟩
theorem auS {rows:List Rw}{gs:List Ch}{al mo od:List Int}(H:qC rows gs al mo od):shV rows gs al mo od=LM rows gs al mo od:=by
 unfold shV LM
 rw [H.all,aai H (by omega) (arC H) (fun i _=>by rw [qo];omega),Uf,Dx (fun i hi=> .inr ?_)]
 have:=G5 H (H.ord i hi).1 (H.ord i hi).2
 omega
end Go.Proofs.YtlihnbimgclogaaGreatDoor
namespace Go.Proofs.YtlihnbimgclogaaGreatDoor
open Go.Sx
section
variable {rows : List Rw} {gs : List Ch} {al mo od : List Int}
theorem aaR:(LM rows gs al mo od).length=gs.length:=by
 unfold LM
 rw [abb,List.length_replicate]
theorem OQ (H:qC rows gs al mo od):Dk (List.replicate gs.length (0:Int)).length od:=by rw [List.length_replicate];exact H.ord
theorem aiE (H:qC rows gs al mo od) {j:Int}(hj:0≤j):0≤gi (LM rows gs al mo od) j:=by
 have:=XL (P:=PP rows gs al) (tp:=tpO gs mo) (f:=80) (L:=1) hj (OQ H)
 rw [qo] at this
 exact this
theorem Iy (H:qC rows gs al mo od) {j:Int}(h0:0≤j) (h1:j<(gs.length:Int)):gi (LM rows gs al mo od) j≤tpO gs mo j:=by
 have h2:=ajf (P:=PP rows gs al) (tp:=tpO gs mo) (f:=80) (L:=1) h0 (OQ H)
 rw [qo] at h2
 have h3:=G5 H h0 h1
 unfold LM
 omega
theorem awY (H:qC rows gs al mo od):PP rows gs al (LM rows gs al mo od)=true:=ar1 (arC H).pp
theorem aeE (H:qC rows gs al mo od) {l1 l2:List Int}{i L:Int}(ho:od=l1++i::l2) (hL:1≤L) (hs:gi (LM rows gs al mo od) i=L-1) (ht:L≤tpO gs mo i):
  ∃cur:List Int,cur.length=gs.length∧PP rows gs al (cur.set i.toNat L)=false∧(∀j,0≤j→0≤gi cur j∧gi cur j≤gi (LM rows gs al mo od) j∧gi cur j≤L)∧∀j∈i::l2,gi cur j≤L-1:=by
 have hi:=H.ord i (by rw [ho];simp)
 have h3:=G5 H hi.1 hi.2
 obtain ⟨cur,c1,c2,c3,c4⟩:=LW (P:=PP rows gs al) (tp:=tpO gs mo) H.nd ho (f:=80) (L0:=1) (OQ H) (fun j _=>by rw [qo];omega) hL (by omega) hs ht
 refine ⟨cur,by rw [c1,List.length_replicate],c2,fun j hj=>?_,c4⟩
 have h4:=c3 j hj
 rw [qo] at h4
 exact h4
theorem awZ (H:qC rows gs al mo od) {l1 l2 b:List Int}{i L:Int}(ho:od=l1++i::l2) (hL:1≤L) (hs:gi (LM rows gs al mo od) i=L-1) (ht:L≤tpO gs mo i) (hb:L≤gi b i)
  (h1:∀j∈l1,∀v,v≤gi (LM rows gs al mo od) j→v≤L→1≤v→v≤gi b j) (h2:∀j∈l2,∀v,v≤gi (LM rows gs al mo od) j→v≤L-1→1≤v→v≤gi b j) (hn:∀j,0≤j→j<(gs.length:Int)→0≤gi b j):PP rows gs al b=false:=by
 obtain ⟨cur,c1,c2,c3,c4⟩:=aeE H ho hL hs ht
 have hi:=H.ord i (by rw [ho];simp)
 cases hp:PP rows gs al b with
 |false=>rfl
 | true=>
  rw [←c2]
  symm
  refine aqR H (fun j j0 j1=>?_) hp
  rw [lg hi.1 (by rw [c1];exact hi.2) j0]
  split
  ·rename_i e;rw [e];omega
  ·rename_i e
   have h3:=c3 j j0
   have h4:=hn j j0 j1
   have hm:=H.cov j j0 j1
   rw [ho,List.mem_append,List.mem_cons] at hm
   refine ⟨h3.1,?_⟩
   rcases hm with hm|hm|hm
   ·have:=h1 j hm (gi cur j) h3.2.1 h3.2.2
    omega
   ·exact absurd hm e
   ·have:=h2 j hm (gi cur j) h3.2.1 (c4 j (by simp [hm]))
    omega
theorem Xu (H:qC rows gs al mo od) {b:List Int}(hb:∀j,0≤j→j<(gs.length:Int)→gi b j=tpO gs mo j) (hp:PP rows gs al b=true) {i:Int}(h0:0≤i) (h1:i<(gs.length:Int)):gi (LM rows gs al mo od) i=tpO gs mo i:=by
 have h2:=Iy H h0 h1
 by_cases e:gi (LM rows gs al mo od) i=tpO gs mo i
 ·exact e
 ·obtain ⟨l1,l2,ho⟩:=List.append_of_mem (H.cov i h0 h1)
  have h3:=aiE H h0
  have:=awZ (b:=b) H ho (L:=gi (LM rows gs al mo od) i+1) (by omega) (by omega) (by omega) (by rw [hb i h0 h1];omega) (fun j hj v v1 _ _=>by
   have hr:=H.ord j (by rw [ho];simp [hj])
   have:=Iy H hr.1 hr.2
   rw [hb j hr.1 hr.2];omega) (fun j hj v v1 _ _=>by
   have hr:=H.ord j (by rw [ho];simp [hj])
   have:=Iy H hr.1 hr.2
   rw [hb j hr.1 hr.2];omega) (fun j j0 j1=>by rw [hb j j0 j1];exact (G5 H j0 j1).1)
  rw [hp] at this
  cases this
theorem apu {i k:Int}(hh:lU (bn gs i).2.2.2.1 (bn gs i).2.2.2.2.1 (bn gs i).2.2.2.2.2.1=true) (h0:0≤k) (h1:k<CW (bn gs i).2.2.2.1 (bn gs i).2.2.2.2.1 (bn gs i).2.2.2.2.2.1):yx gs i (vw gs i k)=k:=by
 have h2:=QU hh h0
 have h3:=(Qr hh h2 h0 h1).1 (Int.le_refl _)
 have h4:=aiJ (a:=vw gs i k) hh
 have h5:=(Qr hh h2 (k:=TY (bn gs i).2.2.2.1 (bn gs i).2.2.2.2.1 (bn gs i).2.2.2.2.2.1 (vw gs i k)) (by omega) h4).2 (Int.le_refl _)
 by_cases e:k<TY (bn gs i).2.2.2.1 (bn gs i).2.2.2.2.1 (bn gs i).2.2.2.2.2.1 (vw gs i k)
 ·have:=akb hh h0 e
  have h5:vw gs i (TY (bn gs i).2.2.2.1 (bn gs i).2.2.2.2.1 (bn gs i).2.2.2.2.2.1 (vw gs i k))≤vw gs i k:=h5
  omega
 ·unfold yx
  omega
end
theorem acA {mi ma st k:Int}(hh:lU mi ma st=true) (_:0≤k) (h1:k<CW mi ma st):Cj mi st k≤ma:=by
 obtain ⟨g1,g2,g3,g4,g5⟩:=eX.1 hh
 unfold Cj
 split
 ·omega
 ·unfold CW at h1
  rw [if_pos hh] at h1
  have h2:(k-1)≤(ma-mi) / st:=by omega
  have:=(Int.le_ediv_iff_mul_le (a:=k-1) (b:=ma-mi) (c:=st) (by omega)).1 h2
  omega
theorem ax8 {mi ma st k:Int}(h0:0≤k) (h1:k<CW mi ma st):amA mi ma st k=Cj mi st k∧amE mi ma st k=0:=by
 unfold amA amE
 rw [if_neg (by omega),if_neg (by omega)]
 exact ⟨rfl,rfl⟩
end Go.Proofs.YtlihnbimgclogaaGreatDoor
namespace Go.Proofs.YtlihnbimgclogaaGreatDoor
open Go.Sx
section
variable {rows : List Rw} {gs : List Ch} {al mo od lv : List Int}
def lvR (gs:List Ch) (lv:List Int):Prop:=lv.length=gs.length∧∀j,0≤j→j<(gs.length:Int)→0≤gi lv j∧gi lv j<CW (bn gs j).2.2.2.1 (bn gs j).2.2.2.2.1 (bn gs j).2.2.2.2.2.1
theorem aaS (H:qC rows gs al mo od):lvR gs (LM rows gs al mo od):=⟨aaR,fun j h0 h1=>⟨aiE H h0,by
 have:=Iy H h0 h1
 have:=G5 H h0 h1
 omega⟩⟩
theorem acB (H:qC rows gs al mo od) {j k:Int}(h0:0≤j) (h1:j<(gs.length:Int)) (k0:0≤k) (k1:k<CW (bn gs j).2.2.2.1 (bn gs j).2.2.2.2.1 (bn gs j).2.2.2.2.2.1):(0≤vw gs j k∧vw gs j k≤80)∧aCb gs j k=0∧aCc gs j k=vw gs j k∧yx gs j (vw gs j k)=k:=by
 have hh:=H.has j h0 h1
 obtain ⟨g1,g2,g3,g4,g5⟩:=eX.1 hh
 have h2:=acA hh k0 k1
 obtain ⟨e1,e2⟩:=ax8 k0 k1
 refine ⟨⟨QU hh k0,?_⟩,e2,e1,apu hh k0 k1⟩
 unfold vw
 omega
theorem ax7 (H:qC rows gs al mo od) (R:lvR gs lv) {j:Int}(h0:0≤j) (h1:j<(gs.length:Int)):yx gs j (gi (lV gs lv) j)=gi lv j∧aCb gs j (gi lv j)=0∧aCc gs j (gi lv j)=gi (lV gs lv) j∧0≤gi (lV gs lv) j∧gi (lV gs lv) j≤80:=by
 obtain ⟨r0,r1⟩:=R.2 j h0 h1
 obtain ⟨a1,a2,a3,a4⟩:=acB H h0 h1 r0 r1
 rw [kW h0 h1]
 exact ⟨a4,a2,a3,a1⟩
theorem azO (H:qC rows gs al mo od) {j k:Int}(h0:0≤j) (h1:j<(gs.length:Int)) (k0:0≤k) (k1:k<CW (bn gs j).2.2.2.1 (bn gs j).2.2.2.2.1 (bn gs j).2.2.2.2.2.1):vw gs j k≤gi mo j↔k≤tpO gs mo j:=
 Qr (H.has j h0 h1) (H.mo _ (qp h0 (by rw [H.mol];exact h1))).1 k0 k1
def RJ (gs:List Ch) (mo:List Int):List Int:=(List.range gs.length).map (fun k:Nat=>tpO gs mo (k:Int))
theorem G6:(RJ gs mo).length=gs.length:=by simp [RJ]
theorem Ot {j:Int}(h0:0≤j) (h1:j<(gs.length:Int)):gi (RJ gs mo) j=tpO gs mo j:=by
 rw [oK (by rw [G6];omega)]
 simp only [RJ,List.getElem_map,List.getElem_range]
 rw [Int.toNat_of_nonneg h0]
theorem wo {a b:List Int}(hl:a.length=b.length) (h:∀j:Int,0≤j→j<(b.length:Int)→gi a j=gi b j):a=b:=List.ext_getElem hl fun k h1 h2=>by
 have:=h (k:Int) (by omega) (by omega)
 rw [oK (by simpa using h1),oK (by simpa using h2)] at this
 simpa using this
theorem al8 (H:qC rows gs al mo od) (hp:yu rows al (lV gs (RJ gs mo))=true):LM rows gs al mo od=RJ gs mo:=wo (by rw [aaR,G6]) fun j h0 h1=>by
 rw [G6] at h1
 rw [Ot h0 h1]
 exact Xu H (b:=RJ gs mo) (fun j h0 h1=>Ot h0 h1) hp h0 h1
def g4 (gs:List Ch) (mo b am:List Int) (j:Int):Prop:=(0≤gi b j∧gi b j<CW (bn gs j).2.2.2.1 (bn gs j).2.2.2.2.1 (bn gs j).2.2.2.2.2.1)∧gi am j=vw gs j (gi b j)∧gi am j≤gi mo j
end
section
variable {cs : List Cd} {os : List ByteArray} {ks : List Ko} {gs : List Ch} {bs : List Ba} {al mo od : List Int}
theorem OD (h:rP cs os ks gs bs al mo od=true):vI cs os ks gs bs al mo od=lV gs (LM (jC cs gs cs.length) gs al mo od):=by
 unfold vI
 rw [if_pos h,auS (Td h)]
theorem afQ (h:rP cs os ks gs bs al mo od=true):shE cs os ks gs bs al mo od=0:=by unfold shE;rw [if_pos h]
end
end Go.Proofs.YtlihnbimgclogaaGreatDoor
namespace Go.Proofs.YtlihnbimgclogaaGreatDoor
open Go.Sx
abbrev CZ:Ty:=.pair (.int .i64) (.int .i64)
abbrev Ra:=Int×Int
def lm (l:List Ra) (n:Int):Ra:=l.getD n.toNat (0,0)
theorem XY {l:List Ra}{n:Int}(h:n.toNat<l.length):lm l n=l[n.toNat]:=vZ h
theorem ajq {l:List Int}{j:Int}(h:l.length≤j.toNat):gi l j=0:=by
 unfold gi
 rw [List.getD_eq_getElem?_getD,List.getElem?_eq_none h]
 rfl
theorem awW {l:List Int}{a:Int}(h:a∈l):∃j:Int,(0≤j∧j<(l.length:Int))∧gi l j=a:=by
 obtain ⟨k,hk,e⟩:=List.mem_iff_getElem.1 h
 exact ⟨k,by omega,by rw [oK (by simpa using hk)];simpa using e⟩
theorem neN {a b:Nat}:((a:Int) !=(b:Int))=!decide (a=b):=by
 by_cases h:a=b
 ·simp [h]
 ·have h':(a:Int)≠(b:Int):=by omega
  simp [h,h']
def Ju (t:Int) (x:Le):Bool:=decide (x.2.2.2.1≤t)&&decide (QF x>t)
def kpA (o:List Int) (x:Le):List Int:=o.set x.2.1.toNat (mx (gi o x.2.1) x.2.2.1)
def QV (n:Nat) (l:List Le) (t:Int):List Int:=(l.filter (Ju t)).foldl kpA (List.replicate n 0)
def below (n:Int) (l:List Le):Bool:=l.all (fun x=>decide (x.2.1<n))
def DT (l:List Le) (n t:Int):Bool:=(gK l&&(inB n 0 16&&inB t 0 1100000))&&below n l
def oO (l:List Le) (n t:Int):List Int:=if DT l n t=true then QV n.toNat l t else []
def U2 (l:List Le) (n t:Int):Int:=if DT l n t=true then 0 else 1
theorem aaV {o:List Int}{x:Le}:(kpA o x).length=o.length:=by simp [kpA]
theorem aaU:∀ {l:List Le}{o:List Int},(l.foldl kpA o).length=o.length
 | [],_=>rfl
 |x::l,o=>by rw [List.foldl_cons,aaU,aaV]
theorem Cm {n:Nat}{l:List Le}{t:Int}:(QV n l t).length=n:=by rw [QV,aaU,List.length_replicate]
theorem LQ {l:List Le}(h:gK l=true):l.Pairwise (fun a b=>a.1<b.1∧a.2.2.2.1≤b.2.2.2.1):=by
 unfold gK at h
 rw [Bool.and_eq_true] at h
 have hs:∀k:Nat,(hk:k+1<l.length)→l[k].1<l[k+1].1∧l[k].2.2.2.1≤l[k+1].2.2.2.1:=fun k hk=>by
  have:=fE.1 h.2 (k+1) (by omega)
  unfold jD Ak at this
  rw [uF (n:=((k+1:Nat):Int)) (by simpa using hk),uF (n:=((k+1:Nat):Int)-1) (by omega)] at this
  simp only [Bool.and_eq_true,Bool.or_eq_true,decide_eq_true_eq] at this
  obtain ⟨_,h1|h1⟩:=this
  ·omega
  ·have e:(((k+1:Nat):Int)-1).toNat=k:=by omega
   simp only [e,Int.toNat_natCast] at h1
   omega
 rw [List.pairwise_iff_getElem]
 intro i j hi hj hij
 induction j with
 |zero=>omega
 | succ j ih=>
  have h1:=hs j (by omega)
  by_cases e:i=j
  ·subst e;exact h1
  ·have h2:=ih (by omega) (by omega)
   omega
def yg (c:Ch):Int:=c.2.2.2.2.2.2.1
def TB (c:Ch) (r:Ra):Bool:=D5 c.2.2.1 c.2.2.2.1 c.2.2.2.2.1 c.2.2.2.2.2.1 (yg c) r.1 r.2
def V3 (x:Dm):Bool:=inB x.2.1 0 1000000000&&(inB x.2.2.1 0 1000000&&inB x.2.2.2 1 9)
def FT (cs:List Cd) (os:List ByteArray) (ks:List Ko) (gs:List Ch) (bs:List Ba) (l:List Le) (rs:List Ra) (d:List Dm) (t n:Int):Bool:=
 (fO cs os ks gs bs&&gK l)&&((decide (rs.length=gs.length)&&(decide (d.length=gs.length)&&(inB t 0 1000000&&inB n 1 999900)))&&(below gs.length l&&KE gs.length (fun j=>TB (bn gs j) (lm rs j)&&V3 (o8 d j))))
def rW (n:Nat) (f:Int→Int):List Int:=(List.range n).map (fun k:Nat=>f (k:Int))
theorem axd {x a b:Int}:(decide (x<a) ||decide (x>b))=!inB x a b:=by
 unfold inB
 by_cases h1:x<a
 ·rw [decide_eq_true h1,decide_eq_false (p:=x≥a) (by omega)];rfl
 ·rw [decide_eq_false h1,decide_eq_true (p:=x≥a) (by omega)]
  by_cases h2:x>b
  ·rw [decide_eq_true h2,decide_eq_false (p:=x≤b) (by omega)];rfl
  ·rw [decide_eq_false h2,decide_eq_true (p:=x≤b) (by omega)];rfl
theorem axc {x a b:Int}{y:Bool}:(decide (x<a) ||(decide (x>b) ||y))=(!inB x a b ||y):=by rw [←Bool.or_assoc,axd]
theorem vbE {c:Ch}{r:Ra}{x:Dm}:((!D5 c.2.2.1 c.2.2.2.1 c.2.2.2.2.1 c.2.2.2.2.2.1 c.2.2.2.2.2.2.1 r.1 r.2) ||(decide (x.2.1<0) ||(decide (x.2.1>1000000000) ||(decide (x.2.2.1<0) ||(decide (x.2.2.1>1000000) ||(decide (x.2.2.2<1) ||decide (x.2.2.2>9)))))))=!(TB c r&&V3 x):=by
 unfold TB yg V3
 rw [axc,axc,axd,Bool.not_and,Bool.not_and,Bool.not_and]
def apO (cs:List Cd) (os:List ByteArray) (ks:List Ko) (gs:List Ch) (bs:List Ba) (l:List Le) (rs:List Ra) (d:List Dm):Bool:=decide (cs.length≤40∧os.length≤40∧ks.length≤40∧gs.length≤40∧bs.length≤40)&&(decide ((l.length:Int)≤100)&&(decide ((rs.length:Int)≤40)&&decide ((d.length:Int)≤40)))
theorem eU {n:Nat}{f:Int→Int}:(rW n f).length=n:=by simp [rW]
theorem xE {n:Nat}{f:Int→Int}:rW (n+1) f=rW n f++[f (n:Int)]:=by simp [rW,List.range_succ]
theorem mF {n:Nat}{f:Int→Int}{j:Int}(h0:0≤j) (h1:j<(n:Int)):gi (rW n f) j=f j:=by
 rw [oK (by rw [eU];omega)]
 simp only [rW,List.getElem_map,List.getElem_range]
 rw [Int.toNat_of_nonneg h0]
theorem Iu {n:Nat}{f:Int→Int}{x:Int}(h:x∈rW n f):∃j,(0≤j∧j<(n:Int))∧f j=x:=by
 obtain ⟨k,hk,e⟩:=List.mem_map.1 h
 exact ⟨k,⟨by omega,by have:=List.mem_range.1 hk;omega⟩,e⟩
def lu (gs:List Ch):List Int:=rW gs.length (fun k=>yg (bn gs k))
def oC (gs:List Ch) (d:List Dm):List Int:=rW gs.length (fun k=>if (o8 d k).1=true then (bn gs k).2.2.2.2.1 else 0)
def F5 (gs:List Ch) (l:List Le) (t:Int):List Int:=rW gs.length (fun k=>mx (yg (bn gs k)) (gi (QV gs.length l t) k))
def zu (cs:List Cd) (os:List ByteArray) (ks:List Ko) (gs:List Ch) (bs:List Ba) (d:List Dm) (t:Int):List Int:=vI cs os ks gs bs (lu gs) (oC gs d) (iM d t)
def TM (cs:List Cd) (os:List ByteArray) (ks:List Ko) (gs:List Ch) (bs:List Ba) (l:List Le) (d:List Dm) (t:Int):List Int:=vI cs os ks gs bs (F5 gs l t) (zu cs os ks gs bs d t) (iM d t)
theorem abp {l:List Ra}{i j:Int}{v:Ra}(h0:0≤i) (h1:i<(l.length:Int)) (hj:0≤j):lm (l.set i.toNat v) j=if j=i then v else lm l j:=by
 unfold lm
 rw [List.getD_eq_getElem?_getD,List.getD_eq_getElem?_getD,List.getElem?_set]
 by_cases e:j=i
 ·subst e
  rw [if_pos rfl,if_pos rfl,if_pos (by omega)]
  rfl
 ·rw [if_neg (by omega),if_neg e]
theorem apH {a b:List Ra}(hl:a.length=b.length) (h:∀j:Int,0≤j→j<(b.length:Int)→lm a j=lm b j):a=b:=List.ext_getElem hl fun k h1 h2=>by
 have:=h (k:Int) (by omega) (by omega)
 rw [XY (by simpa using h1),XY (by simpa using h2)] at this
 simpa using this
def OV (cs:List Cd) (os:List ByteArray) (ks:List Ko) (gs:List Ch) (bs:List Ba) (l:List Le) (d:List Dm) (t:Int) (od:List Int):List Int:=vI cs os ks gs bs (F5 gs l t) (vI cs os ks gs bs (lu gs) (oC gs d) od) od
def nwO (a t:Int):Option Le→Bool
 |none=>true
 |some x=>x.2.2.1 !=a ||decide (x.2.2.2.1≤t-6)
def nwB (gs:List Ch) (l:List Le) (t i a:Int):Bool:=!decide (a≤yg (bn gs i))&&nwO a t (l.reverse.find? (fun x=>x.2.1==i))
def nxA (c:Ch) (r:Ra) (w:Int):Int:=nA c.2.2.1 c.2.2.2.1 c.2.2.2.2.1 c.2.2.2.2.2.1 (yg c) r.1 r.2 w
def nxS (c:Ch) (r:Ra) (w:Int):Int:=nS c.2.2.1 c.2.2.2.1 c.2.2.2.2.1 c.2.2.2.2.2.1 (yg c) r.1 r.2 w
def UE (gs:List Ch) (rs:List Ra) (w:List Int) (k:Nat):List Int:=rW k (fun k=>nxA (bn gs k) (lm rs k) (gi w k))
def dcR (gs:List Ch) (rs:List Ra) (w:List Int) (k:Nat):List Ra:=(List.range k).map (fun k:Nat=>(nxA (bn gs k) (lm rs k) (gi w k),nxS (bn gs k) (lm rs k) (gi w k)))
def QJ (gs:List Ch) (l:List Le) (t n:Int) (am:List Int):Nat→List Le
 |0=>[]
 |k+1=>QJ gs l t n am k++(if nwB gs l t k (gi am k)=true then [(n+(QJ gs l t n am k).length,(k:Int),gi am k,t,12)] else [])
theorem Aq {gs:List Ch}{rs:List Ra}{w:List Int}{k:Nat}:(dcR gs rs w k).length=k:=by simp [dcR]
theorem QI {gs:List Ch}{rs:List Ra}{w:List Int}{k:Nat}{j:Int}(h0:0≤j) (h1:j<(k:Int)):lm (dcR gs rs w k) j=(nxA (bn gs j) (lm rs j) (gi w j),nxS (bn gs j) (lm rs j) (gi w j)):=by
 rw [XY (by rw [Aq];omega)]
 simp only [dcR,List.getElem_map,List.getElem_range]
 rw [Int.toNat_of_nonneg h0]
def okC (c:Ch) (r:Ra) (w:Int):Bool:=okB c.2.2.1 c.2.2.2.1 c.2.2.2.2.1 c.2.2.2.2.2.1 (yg c) r.1 r.2 w
def dcK (gs:List Ch) (rs:List Ra) (w:List Int):Prop:=∀j,0≤j→j<(gs.length:Int)→okC (bn gs j) (lm rs j) (gi w j)=true
theorem uI {gs:List Ch}{l:List Le}{t n:Int}{am:List Int}:∀ {k:Nat},(QJ gs l t n am k).length≤k
 |0=>by simp [QJ]
 |k+1=>by
  have:=uI (gs:=gs) (l:=l) (t:=t) (n:=n) (am:=am) (k:=k)
  rw [QJ,List.length_append]
  split
  ·simp only [List.length_cons,List.length_nil];omega
  ·simp only [List.length_nil];omega
section
variable (cs : List Cd) (os : List ByteArray) (ks : List Ko) (gs : List Ch) (bs : List Ba) (l : List Le) (rs : List Ra) (d : List Dm) (t n : Int)
def deA:List Int:=if FT cs os ks gs bs l rs d t n=true then UE gs rs (TM cs os ks gs bs l d t) gs.length else []
def deR:List Ra:=if FT cs os ks gs bs l rs d t n=true then dcR gs rs (TM cs os ks gs bs l d t) gs.length else []
def Rq:List Le:=if FT cs os ks gs bs l rs d t n=true then QJ gs l t n (UE gs rs (TM cs os ks gs bs l d t) gs.length) gs.length else []
def deE:Int:=if FT cs os ks gs bs l rs d t n=true then 0 else 1
end
section
variable {cs : List Cd} {os : List ByteArray} {ks : List Ko} {gs : List Ch} {bs : List Ba} {l : List Le} {rs : List Ra} {d : List Dm} {t n : Int}
structure Vd (cs:List Cd) (os:List ByteArray) (ks:List Ko) (gs:List Ch) (bs:List Ba) (l:List Le) (rs:List Ra) (d:List Dm) (t n:Int):Prop where
 site:fO cs os ks gs bs=true
 les:gK l=true
 rl:rs.length=gs.length
 dl:d.length=gs.length
 gl:gs.length≤16
 tb:0≤t∧t≤1000000
 nb:1≤n∧n≤999900
 co:below gs.length l=true
 ra:∀j:Int,0≤j→j<(gs.length:Int)→TB (bn gs j) (lm rs j)=true
 dm:∀j:Int,0≤j→j<(gs.length:Int)→V3 (o8 d j)=true
 ch:∀j:Int,0≤j→j<(gs.length:Int)→chW (bn gs j)=true
theorem aq0 (h:FT cs os ks gs bs l rs d t n=true):Vd cs os ks gs bs l rs d t n:=by
 unfold FT at h
 simp only [Bool.and_eq_true,decide_eq_true_eq,dB] at h
 obtain ⟨⟨h1,h2⟩,⟨h3,h4,h5,h6⟩,h7,h8⟩:=h
 have hj:∀j:Int,0≤j→j<(gs.length:Int)→TB (bn gs j) (lm rs j)=true∧V3 (o8 d j)=true:=fun j h0 hj=>by
  have:=fE.1 h8 j.toNat (by omega)
  rw [Int.toNat_of_nonneg h0,Bool.and_eq_true] at this
  exact this
 exact ⟨h1,h2,h3,h4,(gW.1 h1).1.2.2.2.2.1,h5,h6,h7,fun j h0 h1=>(hj j h0 h1).1,fun j h0 h1=>(hj j h0 h1).2,fun j h0 hj=>by
  have:=sH h1 h0 hj
  unfold Gt at this
  simp only [Bool.and_eq_true] at this
  exact this.2.2⟩
theorem Jj {c:Ch}(h:chW c=true):(1≤c.2.2.1∧c.2.2.1≤7)∧(1≤c.2.2.2.1∧c.2.2.2.1≤c.2.2.2.2.1)∧c.2.2.2.2.1≤80∧(1≤c.2.2.2.2.2.1∧c.2.2.2.2.2.1≤80)∧0≤yg c∧yg c≤c.2.2.2.2.1:=by
 unfold chW at h
 unfold yg
 simp only [Bool.and_eq_true,Bool.or_eq_true,dB,beq_iff_eq] at h
 omega
theorem aqN (hv:gK l=true) {m:Nat}:∀a∈QV m l t,0≤a∧a≤80:=by
 have key:∀(l:List Le) (o:List Int),(∀x∈l,KA x=true)→(∀a∈o,0≤a∧a≤80)→∀a∈l.foldl kpA o,0≤a∧a≤80:=fun l=>by
  induction l with
  |nil=>exact fun o _ h=>h
  | cons x l ih=>
   intro o hl ho
   rw [List.foldl_cons]
   refine ih _ (fun y hy=>hl y (by simp [hy])) fun a ha=>?_
   have hx:=Gl.1 (hl x (by simp))
   rcases List.mem_or_eq_of_mem_set ha with ha|rfl
   ·exact ho a ha
   ·have:0≤gi o x.2.1∧gi o x.2.1≤80:=by
     by_cases h:x.2.1.toNat<o.length
     ·rw [oK h];exact ho _ (List.getElem_mem _)
     ·rw [ajq (by omega)];omega
    unfold mx
    split<;>omega
 refine key _ _ (fun x hx=>(kH hv).2 x (List.mem_filter.1 hx).1) fun a ha=>?_
 rw [List.eq_of_mem_replicate ha]
 omega
theorem aaZ (hd:d.length=gs.length):mJ (iM d t) gs.length=true:=by
 unfold mJ
 rw [TI,hd,decide_eq_true rfl,Bool.true_and,Bool.and_eq_true,List.all_eq_true]
 refine ⟨fun x hx=>zK.2 (by have:=ahc.1 hx;rw [hd] at this;exact this),H8.2 fun j hj hm=>?_⟩
 obtain ⟨k,hk,e⟩:=List.mem_iff_getElem.1 hm
 rw [List.length_take] at hk
 rw [List.getElem_take] at e
 have:=(List.pairwise_iff_getElem.1 (WW (d:=d) (t:=t))) k j (by omega) hj (by omega)
 exact this e
theorem abj {l:List Int}{a b:Int}(hz:a≤0∧0≤b) (h:∀x∈l,a≤x∧x≤b) {j:Int}:a≤gi l j∧gi l j≤b:=by
 by_cases hj:j.toNat<l.length
 ·rw [oK hj];exact h _ (List.getElem_mem _)
 ·rw [ajq (by omega)];exact hz
structure Si (cs:List Cd) (os:List ByteArray) (ks:List Ko) (gs:List Ch) (bs:List Ba) (d:List Dm):Prop where
 site:fO cs os ks gs bs=true
 dl:d.length=gs.length
theorem Si.ch (h:Si cs os ks gs bs d) {j:Int}(h0:0≤j) (hj:j<(gs.length:Int)):chW (bn gs j)=true:=by
 have:=sH h.site h0 hj
 unfold Gt at this
 simp only [Bool.and_eq_true] at this
 exact this.2.2
theorem Vd.si (h:Vd cs os ks gs bs l rs d t n):Si cs os ks gs bs d:=⟨h.site,h.dl⟩
theorem ax5 (h:Si cs os ks gs bs d):∀a∈lu gs,0≤a∧a≤80:=fun a ha=>by
 obtain ⟨j,⟨h0,h1⟩,rfl⟩:=Iu ha
 have:=Jj (h.ch h0 h1)
 omega
theorem atC (h:Si cs os ks gs bs d):∀a∈oC gs d,0≤a∧a≤80:=fun a ha=>by
 obtain ⟨j,⟨h0,h1⟩,rfl⟩:=Iu ha
 have:=Jj (h.ch h0 h1)
 split<;>omega
theorem aya (h:Vd cs os ks gs bs l rs d t n):∀a∈F5 gs l t,0≤a∧a≤80:=fun a ha=>by
 obtain ⟨j,⟨h0,h1⟩,rfl⟩:=Iu ha
 have:=Jj (h.ch j h0 h1)
 have:=abj (j:=j) ⟨Int.le_refl 0,by decide⟩ (aqN h.les (m:=gs.length) (t:=t))
 unfold mx
 split<;>omega
theorem afP {al mo od:List Int}(hk:rP cs os ks gs bs al mo od=true):(vI cs os ks gs bs al mo od).length=gs.length∧∀j,0≤j→j<(gs.length:Int)→(0≤gi (vI cs os ks gs bs al mo od) j∧gi (vI cs os ks gs bs al mo od) j≤80)∧gi (vI cs os ks gs bs al mo od) j≤gi mo j:=by
 have H:=Td hk
 rw [OD hk]
 refine ⟨Js,fun j h0 h1=>?_⟩
 obtain ⟨_,_,_,e4,e5⟩:=ax7 H (aaS H) h0 h1
 have h3:=(azO H h0 h1 ((aaS H).2 j h0 h1).1 ((aaS H).2 j h0 h1).2).2 (Iy H h0 h1)
 rw [kW h0 h1] at e4 e5⊢
 exact ⟨⟨e4,e5⟩,h3⟩
theorem aaj {al mo od:List Int}(hk:rP cs os ks gs bs al mo od=true):(vI cs os ks gs bs al mo od).length=gs.length∧∀a∈vI cs os ks gs bs al mo od,0≤a∧a≤80:=by
 obtain ⟨h1,h2⟩:=afP hk
 refine ⟨h1,fun a ha=>?_⟩
 obtain ⟨j,hj,rfl⟩:=awW ha
 rw [h1] at hj
 exact (h2 j hj.1 hj.2).1
theorem KY (h:Si cs os ks gs bs d):rP cs os ks gs bs (lu gs) (oC gs d) (iM d t)=true:=
 jr.2 ⟨h.site,eU,eU,List.all_eq_true.2 fun a ha=>oL.2 (ax5 h a ha),List.all_eq_true.2 fun a ha=>oL.2 (atC h a ha),aaZ h.dl⟩
theorem zq (h:Si cs os ks gs bs d):(zu cs os ks gs bs d t).length=gs.length∧∀a∈zu cs os ks gs bs d t,0≤a∧a≤80:=by
 exact aaj (KY (t:=t) h)
theorem TL (h:Vd cs os ks gs bs l rs d t n):rP cs os ks gs bs (F5 gs l t) (zu cs os ks gs bs d t) (iM d t)=true:=
 jr.2 ⟨h.site,eU,(zq h.si).1,List.all_eq_true.2 fun a ha=>oL.2 (aya h a ha),List.all_eq_true.2 fun a ha=>oL.2 ((zq h.si).2 a ha),aaZ h.dl⟩
theorem aru (h:Vd cs os ks gs bs l rs d t n):(TM cs os ks gs bs l d t).length=gs.length∧∀a∈TM cs os ks gs bs l d t,0≤a∧a≤80:=by
 exact aaj (TL h)
theorem aAL (h:Vd cs os ks gs bs l rs d t n) {j:Int}:0≤gi (TM cs os ks gs bs l d t) j∧gi (TM cs os ks gs bs l d t) j≤80:=abj ⟨Int.le_refl 0,by decide⟩ (aru h).2
theorem Ji (h:Vd cs os ks gs bs l rs d t n):dcK gs rs (TM cs os ks gs bs l d t):=fun j j0 j1=>by
 have hr:=h.ra j j0 j1
 have hb:=aAL h (j:=j)
 unfold TB at hr
 unfold okC okB
 rw [hr,decide_eq_true hb.1,decide_eq_true hb.2]
 rfl
theorem aqK (h:Vd cs os ks gs bs l rs d t n):DT l gs.length t=true:=by
 have:=h.gl
 have:=h.tb
 unfold DT
 rw [h.les,dB.2 ⟨by omega,by omega⟩,dB.2 ⟨by omega,by omega⟩,h.co]
 rfl
theorem aqZ (h:Vd cs os ks gs bs l rs d t n):xY d t∧d.length≤19:=by
 refine ⟨⟨fun x hx=>?_,by have:=h.tb;omega,by have:=h.tb;omega⟩,by have:=h.gl;have:=h.dl;omega⟩
 obtain ⟨k,hk,rfl⟩:=List.mem_iff_getElem.1 hx
 have:=h.dm k (by omega) (by rw [←h.dl];omega)
 unfold V3 o8 at this
 rw [vZ (by simpa using hk)] at this
 simp only [Bool.and_eq_true,dB,Int.toNat_natCast] at this
 omega
end
end Go.Proofs.YtlihnbimgclogaaGreatDoor
namespace Go.Proofs.YtlihnbimgclogaaGreatDoor
open Go.Sx
def acZ:List LV→T LV
 | [.agg [.xl (.pair .str (.pair (.int .i64) (.pair (.int .i64) (.pair (.int .i64) (.pair (.pair (.int .i64) (.int .i64)) (.pair (.int .i64) (.pair (.int .i64) (.pair (.int .i64) (.pair (.int .i64) (.int .i64)))))))))) cs,.xl (.str) os,.xl (.pair .str (.pair (.int .i64) (.pair (.int .i64) (.int .i64)))) ks,.xl (.pair .str (.pair (.int .i64) (.pair (.int .i64) (.pair (.int .i64) (.pair (.int .i64) (.pair (.int .i64) (.pair (.int .i64) (.int .i64)))))))) gs,.xl (.pair .str (.int .i64)) bs],.xl (.pair (.int .i64) (.pair (.int .i64) (.pair (.int .i64) (.pair (.int .i64) (.int .i64))))) l,.xl (.pair (.int .i64) (.int .i64)) rs,.xl (.pair .bool (.pair (.int .i64) (.pair (.int .i64) (.int .i64)))) d]=> .ok (.v (.bool (apO cs os ks gs bs l rs d)))
 |_=> .no
noncomputable def YC:List LV→T LV:=gQ Tryz.prog Tryz.f12.params.toList acZ
noncomputable def ajF:Specs:=aZ [(34,Yx)]
theorem axp:∀g S,ajF g=some S→Valid Tryz.prog aS g S:=aT (l:=[(34,Yx)]) ⟨atS,trivial⟩
theorem aoG (cs:List Cd) (os:List ByteArray) (ks:List Ko) (gs:List Ch) (bs:List Ba) (l:List Le) (rs:List Ra) (d:List Dm):bV Tryz.prog aS (ajF) dZ aC Tryz.f12 [.agg [.xl dU cs,.xl .str os,.xl dV ks,.xl dP gs,.xl dW bs],.xl ig l,.xl CZ rs,.xl pR d]=.ok (.v (.bool ((decide (List.length cs≤40∧List.length os≤40∧List.length ks≤40∧List.length gs≤40∧List.length bs≤40))&&((decide ((List.length l:Int)≤100))&&((decide ((List.length rs:Int)≤40))&&(decide ((List.length d:Int)≤40))))))):=by kernel_rfl
theorem atX:Valid Tryz.prog aS 12 YC:=aH Tryz.func12 rfl axp aF (aX (by kernel_rfl)) (fun args lv h=>by
 unfold acZ at h
 split at h
 ·simp only [canL,canX]
  rw [aoG]
  exact h
 ·cases h)
structure lK where
 m:List Le
 jv:List Ra
 d:List Dm
 r:Bool
 n:Int
 i:Int
 ah:List Cd
 aA:List ByteArray
 ai:List Ko
 aj:List Ch
 aI:List Ba
def aEb (s:lK):List LV:=[.xl ig s.m,.xl CZ s.jv,.xl pR s.d,.own 0 0,.v (.bool s.r),.v (.int .i64 s.n),.v (.int .i64 s.i)]
def aDb (s:lK):List aU:=[⟨[.xl dU s.ah,.xl .str s.aA,.xl dV s.ai,.xl dP s.aj,.xl dW s.aI],28,.cl,false⟩]
noncomputable def BP:Code:=((aB (Tryz.f22.body.getD .skip))[0]?).getD .skip
def ZW (s:lK):T (Rd lK):=
 .br (decide (s.i<(List.length s.m:Int))) (.req (0≤s.i∧s.i<(List.length s.m:Int)) (.br (decide ((fQ s.m s.i).2.1≥s.n)) (.ok (.stop (.ret) {s with r:=false})) (.ok (.next {s with i:=(IntKind.i64.wrap (s.i+1))})))) (.ok (.stop (.exit 0) s))
abbrev as5 (s:lK):=(ZW s).rd s
def J6 (s:lK) (j:Int):Bool:=decide ((fQ s.m j).2.1<s.n)
def ad4 (s:lK):Prop:=s.i=0∧0≤(List.length s.m:Int)∧(List.length s.m:Int)≤1000∧True
def NS (s:lK):Prop:=0≤s.i∧s.i≤(List.length s.m:Int)∧(List.length s.m:Int)≤1000∧(True)∧∀j:Nat,(j:Int)<s.i→J6 s j=true
def P8 (s:lK):Nat:=((List.length s.m:Int)-s.i).toNat
def alg (x:Ex) (_ s':lK):Prop:=(x=.exit 0∧∀j:Nat,(j:Int)<(List.length s'.m:Int)→J6 s' j=true)∨(x=.ret∧s'.r=false∧∃j:Nat,(j:Int)<(List.length s'.m:Int)∧J6 s' j=false)
theorem aBU:∀s,ad4 s→NS s:=by
 intro s h
 obtain ⟨h0,h1,h2,h3⟩:=h
 exact ⟨by omega,by omega,h2,h3,fun j hj=>by omega⟩
theorem axH (s:lK) (hI:NS s):bJ (fun s'=>NS s'∧P8 s'<P8 s) (fun x s'=>alg x s s') (as5 s):=by
 unfold as5 ZW
 dsimp only [T.rd,T.rl]
 obtain ⟨h0,h1,h2,h3,h4⟩:=hI
 refine au (fun c1=>au (fun c2=>?_) (fun c2=>?_)) (fun c1=>?_)
 ·have c1:s.i<(List.length s.m:Int):=by simpa using c1
  refine .inr ⟨rfl,rfl,s.i.toNat,by simp only;omega,?_⟩
  rw [Int.toNat_of_nonneg (by omega)]
  have hg:J6 s s.i=false:=by unfold J6;(simp only [decide_eq_true_eq,decide_eq_false_iff_not] at c2⊢;omega)
  exact hg
 ·have c1:s.i<(List.length s.m:Int):=by simpa using c1
  have hg:J6 s s.i=true:=by unfold J6;(simp only [decide_eq_true_eq,decide_eq_false_iff_not] at c2⊢;omega)
  rw [aK (x:=s.i+1) (by omega) (by omega)]
  refine ⟨⟨by simp only;omega,by simp only;omega,h2,h3,fun j hj=>?_⟩,by simp only [P8];omega⟩
  by_cases hji:(j:Int)<s.i
  ·exact h4 j hji
  ·have:(j:Int)=s.i:=by simp only at hj;omega
   rw [this];exact hg
 ·have c1:(List.length s.m:Int)≤s.i:=by simpa using c1
  exact .inl ⟨rfl,fun j hj=>h4 j (by omega)⟩
def FC:bM lK:=⟨0,119,[1,2,3,6,12,13,14],[],aEb,aDb,fun v b=>⟨aQ ig (v.getD 0 .junk),aQ CZ (v.getD 1 .junk),aQ pR (v.getD 2 .junk),vF (v.getD 4 .junk),gI (v.getD 5 .junk),gI (v.getD 6 .junk),aQ dU (aY (aO b 0) 0),aQ .str (aY (aO b 0) 1),aQ dV (aY (aO b 0) 2),aQ dP (aY (aO b 0) 3),aQ dW (aY (aO b 0) 4)⟩,ZW,fun s r=> {r with m:=s.m,jv:=s.jv,d:=s.d,n:=s.n,ah:=s.ah,aA:=s.aA,ai:=s.ai,aj:=s.aj,aI:=s.aI},fun s=>s,fun _ s=>s,[.ret,.exit 0],ad4,NS,P8⟩
abbrev wZ:=FC.run
abbrev acd:=FC.jJ
abbrev ay6:=FC.q
theorem avO (s:lK) (hI:NS s):(ZW s).all (fun _=>True):=by
 refine ⟨fun c1=>⟨?_,fun _=>trivial,fun _=>trivial⟩,fun _=>trivial⟩
 ·(obtain ⟨h0,h1,h2,h3,h4⟩:=hI;simp at c1;omega)
noncomputable def Qy:Specs:=aZ [(49,Yv),(50,YA),(51,YD)]
theorem XO:∀g S,Qy g=some S→Valid Tryz.prog aS g S:=aT (l:=[(49,Yv),(50,YA),(51,YD)]) ⟨atP,atV,atY,trivial⟩
theorem ahW:FC.Ok:=⟨fun s=>by kernel_rfl,fun s=>by kernel_rfl,fun s=>rfl,fun s t r=>rfl,fun s=>rfl,fun s=>by kernel_rfl⟩
theorem agT:FC.Pf (alg):=⟨aBU,fun _ _=>rfl,axH,avO⟩
theorem anb:bg Tryz.prog aS (AN 0) (.loop BP) FC.lp:=bM.snd ahW agT (aP (Γ:=Qy) (K:=dZ) (L:=aC) XO aF BP (fun b hb=>by rw [show aB BP=[] by kernel_rfl] at hb;cases hb)) (fun s=>by kernel_rfl)
theorem aqr (s:lK) (hE:ad4 s):∃s',NS s'∧alg (acd s) s' (wZ s):=bM.fin ahW agT s hE
structure o5 where
 rs:List Ra
 d:List Dm
 r:Bool
 n:Int
 i:Int
 ah:List Cd
 aA:List ByteArray
 ai:List Ko
 aj:List Ch
 aI:List Ba
def aEa (s:o5):List LV:=[.xl CZ s.rs,.xl pR s.d,.own 0 0,.v (.bool s.r),.v (.int .i64 s.n),.v (.int .i64 s.i)]
def aDa (s:o5):List aU:=[⟨[.xl dU s.ah,.xl .str s.aA,.xl dV s.ai,.xl dP s.aj,.xl dW s.aI],28,.cl,false⟩]
noncomputable def BO:Code:=((aB (Tryz.f22.body.getD .skip))[1]?).getD .skip
def ZV (s:o5):T (Rd o5):=
 .br (decide (s.i<s.n)) (.req (0≤s.i∧s.i<(List.length s.d:Int)) (.req (0≤s.i∧s.i<(List.length s.aj:Int)) (.req (0≤s.i∧s.i<(List.length s.rs:Int)) (.br ((!(D5 (bn s.aj s.i).2.2.1 (bn s.aj s.i).2.2.2.1 (bn s.aj s.i).2.2.2.2.1 (bn s.aj s.i).2.2.2.2.2.1 (bn s.aj s.i).2.2.2.2.2.2.1 (lm s.rs s.i).1 (lm s.rs s.i).2)) ||((decide ((o8 s.d s.i).2.1<0)) ||((decide ((o8 s.d s.i).2.1>1000000000)) ||((decide ((o8 s.d s.i).2.2.1<0)) ||((decide ((o8 s.d s.i).2.2.1>1000000)) ||((decide ((o8 s.d s.i).2.2.2<1)) ||(decide ((o8 s.d s.i).2.2.2>9)))))))) (.ok (.stop (.ret) {s with r:=false})) (.ok (.next {s with i:=(IntKind.i64.wrap (s.i+1))})))))) (.ok (.stop (.exit 2) s))
abbrev as4 (s:o5):=(ZV s).rd s
def J5 (s:o5) (j:Int):Bool:=TB (bn s.aj j) (lm s.rs j)&&V3 (o8 s.d j)
def ad3 (s:o5):Prop:=s.i=0∧0≤s.n∧s.n≤1000∧s.n=(s.aj.length:Int)∧s.rs.length=s.aj.length∧s.d.length=s.aj.length
def NR (s:o5):Prop:=0≤s.i∧s.i≤s.n∧s.n≤1000∧(s.n=(s.aj.length:Int)∧s.rs.length=s.aj.length∧s.d.length=s.aj.length)∧∀j:Nat,(j:Int)<s.i→J5 s j=true
def P7 (s:o5):Nat:=(s.n-s.i).toNat
def alf (x:Ex) (_ s':o5):Prop:=(x=.exit 2∧∀j:Nat,(j:Int)<s'.n→J5 s' j=true)∨(x=.ret∧s'.r=false∧∃j:Nat,(j:Int)<s'.n∧J5 s' j=false)
theorem aBT:∀s,ad3 s→NR s:=by
 intro s h
 obtain ⟨h0,h1,h2,h3⟩:=h
 exact ⟨by omega,by omega,h2,h3,fun j hj=>by omega⟩
theorem axG (s:o5) (hI:NR s):bJ (fun s'=>NR s'∧P7 s'<P7 s) (fun x s'=>alf x s s') (as4 s):=by
 unfold as4 ZV
 dsimp only [T.rd,T.rl]
 obtain ⟨h0,h1,h2,h3,h4⟩:=hI
 refine au (fun c1=>au (fun c2=>?_) (fun c2=>?_)) (fun c1=>?_)
 ·have c1:s.i<s.n:=by simpa using c1
  refine .inr ⟨rfl,rfl,s.i.toNat,by simp only;omega,?_⟩
  rw [Int.toNat_of_nonneg (by omega)]
  have hg:J5 s s.i=false:=by unfold J5;(rw [vbE] at c2;first|exact OY c2|exact ntW c2)
  exact hg
 ·have c1:s.i<s.n:=by simpa using c1
  have hg:J5 s s.i=true:=by unfold J5;(rw [vbE] at c2;first|exact OY c2|exact ntW c2)
  rw [aK (x:=s.i+1) (by omega) (by omega)]
  refine ⟨⟨by simp only;omega,by simp only;omega,h2,h3,fun j hj=>?_⟩,by simp only [P7];omega⟩
  by_cases hji:(j:Int)<s.i
  ·exact h4 j hji
  ·have:(j:Int)=s.i:=by simp only at hj;omega
   rw [this];exact hg
 ·have c1:s.n≤s.i:=by simpa using c1
  exact .inl ⟨rfl,fun j hj=>h4 j (by omega)⟩
def FB:bM o5:=⟨0,119,[2,3,6,12,13,15],[],aEa,aDa,fun v b=>⟨aQ CZ (v.getD 0 .junk),aQ pR (v.getD 1 .junk),vF (v.getD 3 .junk),gI (v.getD 4 .junk),gI (v.getD 5 .junk),aQ dU (aY (aO b 0) 0),aQ .str (aY (aO b 0) 1),aQ dV (aY (aO b 0) 2),aQ dP (aY (aO b 0) 3),aQ dW (aY (aO b 0) 4)⟩,ZV,fun s r=> {r with rs:=s.rs,d:=s.d,n:=s.n,ah:=s.ah,aA:=s.aA,ai:=s.ai,aj:=s.aj,aI:=s.aI},fun s=>s,fun _ s=>s,[.ret,.exit 2],ad3,NR,P7⟩
abbrev aav:=FB.run
abbrev ab9:=FB.jJ
abbrev ay5:=FB.q
theorem avN (s:o5) (hI:NR s):(ZV s).all (fun _=>True):=by
 refine ⟨fun c1=>⟨?_,?_,?_,fun _=>trivial,fun _=>trivial⟩,fun _=>trivial⟩
 all_goals ((obtain ⟨h0,h1,h2,h3,h4⟩:=hI;obtain ⟨h3,h5,h6⟩:=h3;simp at c1;omega))
theorem ahV:FB.Ok:=⟨fun s=>by kernel_rfl,fun s=>by kernel_rfl,fun s=>rfl,fun s t r=>rfl,fun s=>rfl,fun s=>by kernel_rfl⟩
theorem agS:FB.Pf (alf):=⟨aBT,fun _ _=>rfl,axG,avN⟩
theorem ana:bg Tryz.prog aS (AN 0) (.loop BO) FB.lp:=bM.snd ahV agS (aP (Γ:=Qy) (K:=dZ) (L:=aC) XO aF BO (fun b hb=>by rw [show aB BO=[] by kernel_rfl] at hb;cases hb)) (fun s=>by kernel_rfl)
theorem aqp (s:o5) (hE:ad3 s):∃s',NR s'∧alf (ab9 s) s' (aav s):=bM.fin ahV agS s hE
def acY:List LV→T LV
 | [.agg [.xl (.pair .str (.pair (.int .i64) (.pair (.int .i64) (.pair (.int .i64) (.pair (.pair (.int .i64) (.int .i64)) (.pair (.int .i64) (.pair (.int .i64) (.pair (.int .i64) (.pair (.int .i64) (.int .i64)))))))))) cs,.xl (.str) os,.xl (.pair .str (.pair (.int .i64) (.pair (.int .i64) (.int .i64)))) ks,.xl (.pair .str (.pair (.int .i64) (.pair (.int .i64) (.pair (.int .i64) (.pair (.int .i64) (.pair (.int .i64) (.pair (.int .i64) (.int .i64)))))))) gs,.xl (.pair .str (.int .i64)) bs],.xl (.pair (.int .i64) (.pair (.int .i64) (.pair (.int .i64) (.pair (.int .i64) (.int .i64))))) l,.xl (.pair (.int .i64) (.int .i64)) rs,.xl (.pair .bool (.pair (.int .i64) (.pair (.int .i64) (.int .i64)))) d,.v (.int .i64 t),.v (.int .i64 n)]=> .req (nmR (gB cs os ks gs bs)∧(List.length l:Int)≤1000) (.ok (.v (.bool (FT cs os ks gs bs l rs d t n))))
 |_=> .no
noncomputable def YB:List LV→T LV:=gQ Tryz.prog Tryz.f22.params.toList acY
theorem aoF (cs:List Cd) (os:List ByteArray) (ks:List Ko) (gs:List Ch) (bs:List Ba) (l:List Le) (rs:List Ra) (d:List Dm) (t n:Int):bV Tryz.prog aS (Qy) dZ (fun i=>if i=5 then FC.lp else if i=10 then FB.lp else aC i) Tryz.f22 [.agg [.xl dU cs,.xl .str os,.xl dV ks,.xl dP gs,.xl dW bs],.xl ig l,.xl CZ rs,.xl pR d,.v (.int .i64 t),.v (.int .i64 n)]=.req (nmR (gB cs os ks gs bs)) (.br (!(fO cs os ks gs bs)) (.ok (.v (.bool false))) (.req ((List.length l:Int)≤1000) (.br ((!(gK l)) ||(((List.length rs:Int) !=(List.length gs:Int)) ||(((List.length d:Int) !=(List.length gs:Int)) ||((decide (t<0)) ||((decide (t>1000000)) ||((decide (n<1)) ||(decide (n>999900)))))))) (.ok (.v (.bool false))) (.req (ay6 (⟨l,rs,d,false,(List.length gs:Int),(0:Int),cs,os,ks,gs,bs⟩:lK)) (.br (iG (acd (⟨l,rs,d,false,(List.length gs:Int),(0:Int),cs,os,ks,gs,bs⟩:lK)) (.ret)) (.ok (.v (.bool (wZ (⟨l,rs,d,false,(List.length gs:Int),(0:Int),cs,os,ks,gs,bs⟩:lK)).r))) (.req (ay5 (⟨rs,d,(wZ (⟨l,rs,d,false,(List.length gs:Int),(0:Int),cs,os,ks,gs,bs⟩:lK)).r,(List.length gs:Int),(0:Int),cs,os,ks,gs,bs⟩:o5)) (.br (iG (ab9 (⟨rs,d,(wZ (⟨l,rs,d,false,(List.length gs:Int),(0:Int),cs,os,ks,gs,bs⟩:lK)).r,(List.length gs:Int),(0:Int),cs,os,ks,gs,bs⟩:o5)) (.ret)) (.ok (.v (.bool (aav (⟨rs,d,(wZ (⟨l,rs,d,false,(List.length gs:Int),(0:Int),cs,os,ks,gs,bs⟩:lK)).r,(List.length gs:Int),(0:Int),cs,os,ks,gs,bs⟩:o5)).r))) (.ok (.v (.bool true)))))))))):=by kernel_rfl
theorem atW:Valid Tryz.prog aS 22 YB:=aH Tryz.func22 rfl XO aF (L:=(fun i=>if i=5 then FC.lp else if i=10 then FB.lp else aC i)) (fun b hb=>by
 rw [show aB _=[BP,BO] by kernel_rfl] at hb
 simp only [List.mem_cons,List.not_mem_nil,or_false] at hb
 rcases hb with rfl|rfl
 ·exact anb
 ·exact ana) (fun args lv h=>by
 unfold acY at h
 split at h
 ·simp only [canL,canX]
  rw [aoF]
  rename_i cs os ks gs bs l rs d t n
  obtain ⟨⟨hn,hl⟩,rfl⟩:=h
  have bad:FT cs os ks gs bs l rs d t n=false→LV.v (.bool false)=LV.v (.bool (FT cs os ks gs bs l rs d t n)):=fun h=>by rw [h]
  refine ⟨hn,fun c=>bad (by unfold FT;rw [ntW c];rfl),fun c=>⟨hl,?_⟩⟩
  have c:=OY c
  rw [neN,neN,axc,axd,←Bool.not_and,←Bool.not_and,←Bool.not_and,←Bool.not_and]
  refine ⟨fun c2=>bad ?_,fun c2=>?_⟩
  ·unfold FT
   rw [c,Bool.true_and,←Bool.and_assoc,ntW c2,Bool.false_and]
  have c2:=OY c2
  have c2':=c2
  simp only [Bool.and_eq_true,decide_eq_true_eq] at c2'
  have hg:=(gW.1 c).1.2.2.2.2.1
  have hE:ad4 ⟨l,rs,d,false,(List.length gs:Int),0,cs,os,ks,gs,bs⟩:=⟨rfl,by simp only;omega,hl,trivial⟩
  have ev:FT cs os ks gs bs l rs d t n=(below gs.length l&&KE gs.length (fun j=>TB (bn gs j) (lm rs j)&&V3 (o8 d j))):=by
   unfold FT
   rw [c,Bool.true_and,←Bool.and_assoc,c2,Bool.true_and]
  refine ⟨⟨hE,rfl,rfl⟩,?_⟩
  obtain ⟨_,_,hq⟩:=aqr _ hE
  have eb:below gs.length l=KE l.length (fun j=>decide ((fQ l j).2.1<(gs.length:Int))):=by
   rw [Bool.eq_iff_iff,fE]
   exact (jF (d:=(0,0,0,0,0)) (p:=fun x:Le=>decide (x.2.1<(gs.length:Int)))).symm
  rcases hq with ⟨q1,q2⟩ |⟨q1,q2,j,q3,q4⟩<;>rw [q1]
  rotate_left
  ·rw [q2]
   exact ⟨fun _=>bad (by rw [ev,eb,uh (n:=l.length) (f:=fun j=>decide ((fQ l j).2.1<(gs.length:Int))) j q3 q4];rfl),fun h=>by cases h⟩
  refine ⟨fun h=>(by cases h),fun _=>?_⟩
  have g0:below gs.length l=true:=by rw [eb];exact fE.2 q2
  have hE2:ad3 ⟨rs,d,(wZ ⟨l,rs,d,false,(List.length gs:Int),0,cs,os,ks,gs,bs⟩).r,(List.length gs:Int),0,cs,os,ks,gs,bs⟩:=⟨rfl,by simp only;omega,by simp only;omega,rfl,c2'.2.1,c2'.2.2.1⟩
  refine ⟨⟨hE2,rfl,rfl⟩,?_⟩
  obtain ⟨_,_,hq⟩:=aqp _ hE2
  rcases hq with ⟨q5,q6⟩ |⟨q5,q6,j,q7,q8⟩<;>rw [q5]
  ·exact ⟨fun h=>(by cases h),fun _=>by rw [ev,g0,(fE (f:=fun j=>TB (bn gs j) (lm rs j)&&V3 (o8 d j))).2 q6];rfl⟩
  ·rw [q6]
   exact ⟨fun _=>bad (by rw [ev,uh (n:=gs.length) (f:=fun j=>TB (bn gs j) (lm rs j)&&V3 (o8 d j)) j q7 q8,Bool.and_false]),fun h=>by cases h⟩
 ·cases h)
end Go.Proofs.YtlihnbimgclogaaGreatDoor
namespace Go.Proofs.YtlihnbimgclogaaGreatDoor
open Go.Sx
def akI:List LV→T LV
 | [.v (.int .i64 r),.v (.int .i64 m)]=> .req ((0≤r∧r≤1000000)∧0≤m∧m≤3000000) (.ok (.v (.int .i64 (m*r / 1000000))))
 |_=> .no
noncomputable def akq:List LV→T LV:=gQ Tryz.prog Tryz.f156.params.toList akI
noncomputable def ajx:Specs:=aZ []
theorem ar9:∀g S,ajx g=some S→Valid Tryz.prog aS g S:=aT (l:=[]) trivial
theorem awP (r m:Int):bV Tryz.prog aS (ajx) dZ aC Tryz.f156 [.v (.int .i64 r),.v (.int .i64 m)]=.req ((1000000:Int)≠0) (.ok (.v (.int .i64 (IntKind.i64.wrap ((IntKind.i64.wrap (m*r)).tdiv 1000000))))):=by kernel_rfl
theorem azK:Valid Tryz.prog aS 156 akq:=aH Tryz.func156 rfl ar9 aF (aX (by kernel_rfl)) (fun args lv h=>by
 unfold akI at h
 split at h
 ·simp only [canL,canX]
  rw [awP]
  rename_i r m
  obtain ⟨⟨hr,hm⟩,rfl⟩:=h
  have h1:=aEJ (a:=m) (b:=r) hm.1 hm.2 hr.1 hr.2
  have h2:0≤m*r / 1000000∧m*r / 1000000≤m*r:=by omega
  refine ⟨by omega,congrArg (fun z=>LV.v (.int .i64 z)) ?_⟩
  rw [aK (x:=m*r) (by omega) (by omega),Int.tdiv_eq_ediv_of_nonneg h1.1,aK (by omega) (by omega)]
 ·cases h)
def adk:List LV→T LV
 | [.v (.int .i64 n)]=> .ok (.v (.bool (inB n 0 1000000)))
 |_=> .no
noncomputable def YP:List LV→T LV:=gQ Tryz.prog Tryz.f154.params.toList adk
theorem aoY (n:Int):bV Tryz.prog aS (ajx) dZ aC Tryz.f154 [.v (.int .i64 n)]=.ok (.v (.bool ((decide (n≥0))&&(decide (n≤1000000))))):=by kernel_rfl
theorem auh:Valid Tryz.prog aS 154 YP:=aH Tryz.func154 rfl ar9 aF (aX (by kernel_rfl)) (fun args lv h=>by
 unfold adk at h
 split at h
 ·simp only [canL,canX]
  rw [aoY]
  exact h
 ·cases h)
structure qK where
 low:Int
 high:Int
 r:Int
 n:Int
def aD0 (s:qK):List LV:=[.v (.int .i64 s.low),.v (.int .i64 s.high),.fn 162 [.own 1 0,.own 0 0,.own 2 0]]
def aC0 (s:qK):List aU:=[⟨[.v (.int .i64 s.r)],202,.cl,false⟩,⟨[.fn 156 []],203,.cl,false⟩,⟨[.v (.int .i64 s.n)],3,.cl,false⟩]
noncomputable def UN:Code:=((aB (Tryz.f161.body.getD .skip))[0]?).getD .skip
def ZO (s:qK):T (Rd qK):=
 .br (decide (s.low<s.high)) (.req ((2:Int)≠0) (.req ((0≤s.r∧s.r≤1000000)∧0≤(IntKind.i64.wrap (s.low+(IntKind.i64.wrap ((IntKind.i64.wrap (s.high-s.low)).tdiv 2))))∧(IntKind.i64.wrap (s.low+(IntKind.i64.wrap ((IntKind.i64.wrap (s.high-s.low)).tdiv 2))))≤3000000) (.br (decide (((IntKind.i64.wrap (s.low+(IntKind.i64.wrap ((IntKind.i64.wrap (s.high-s.low)).tdiv 2))))*s.r / 1000000)≥s.n)) (.ok (.next {s with high:=(IntKind.i64.wrap (s.low+(IntKind.i64.wrap ((IntKind.i64.wrap (s.high-s.low)).tdiv 2))))})) (.ok (.next {s with low:=(IntKind.i64.wrap ((IntKind.i64.wrap (s.low+(IntKind.i64.wrap ((IntKind.i64.wrap (s.high-s.low)).tdiv 2))))+1))}))))) (.ok (.stop (.exit 0) s))
abbrev asY (s:qK):=(ZO s).rd s
def adV (s:qK):Prop:=s.low=0∧s.high=2*s.n+2∧s.r=999800∧0≤s.n∧s.n≤1000000
def NH (s:qK):Prop:=(0≤s.low∧s.low≤wt s.n)∧(wt s.n≤s.high∧s.high≤2*s.n+2)∧s.r=999800∧0≤s.n∧s.n≤1000000
def Ij (s:qK):Nat:=(s.high-s.low).toNat
def ala (x:Ex) (_ s':qK):Prop:=x=.exit 0∧s'.low=wt s'.n
theorem aAX:∀s,adV s→NH s:=by
 intro s h
 obtain ⟨h0,h1,h2,h3,h4⟩:=h
 have:=aqY h3
 exact ⟨by omega,by omega,h2,h3,h4⟩
theorem aw1 (s:qK) (hI:NH s):bJ (fun s'=>NH s'∧Ij s'<Ij s) (fun x s'=>ala x s s') (asY s):=by
 unfold asY ZO
 dsimp only [T.rd,T.rl]
 obtain ⟨⟨h0,h1⟩,⟨h2,h3⟩,h4,h5,h6⟩:=hI
 refine au (fun c1=>?_) (fun c1=>?_)
 ·have c1:s.low<s.high:=by simpa using c1
  have hd:(s.high-s.low).tdiv 2=(s.high-s.low) / 2:=Int.tdiv_eq_ediv_of_nonneg (by omega)
  have hm:IntKind.i64.wrap (s.low+IntKind.i64.wrap ((IntKind.i64.wrap (s.high-s.low)).tdiv 2))=s.low+(s.high-s.low) / 2:=by
   rw [aK (x:=s.high-s.low) (by omega) (by omega),hd,aK (x:=(s.high-s.low) / 2) (by omega) (by omega),aK (by omega) (by omega)]
  rw [hm]
  refine au (fun c2=>?_) (fun c2=>?_)
  ·rw [decide_eq_true_eq,h4,afh] at c2
   exact ⟨⟨⟨h0,h1⟩,⟨by simp only;omega,by simp only;omega⟩,h4,h5,h6⟩,by simp only [Ij];omega⟩
  ·rw [decide_eq_false_iff_not,h4,afh] at c2
   rw [aK (x:=s.low+(s.high-s.low) / 2+1) (by omega) (by omega)]
   exact ⟨⟨⟨by simp only;omega,by simp only;omega⟩,⟨h2,h3⟩,h4,h5,h6⟩,by simp only [Ij];omega⟩
 ·have c1:s.high≤s.low:=by simpa using c1
  exact ⟨rfl,by omega⟩
def Ku:bM qK:=⟨3,24,[0,1,2],[],aD0,aC0,fun v b=>⟨gI (v.getD 0 .junk),gI (v.getD 1 .junk),gI (aY (aO b 0) 0),gI (aY (aO b 2) 0)⟩,ZO,fun s r=> {r with r:=s.r,n:=s.n},fun s=>s,fun _ s=>s,[.exit 0],adV,NH,Ij⟩
abbrev aas:=Ku.run
abbrev aqa:=Ku.jJ
abbrev ayW:=Ku.q
noncomputable def Ej:Specs:=aZ [(154,YP),(156,akq)]
theorem IW:∀g S,Ej g=some S→Valid Tryz.prog aS g S:=aT (l:=[(154,YP),(156,akq)]) ⟨auh,azK,trivial⟩
noncomputable def ai4:Hand:=inl Tryz.prog aS Ej (lX Tryz.prog aS (Ej) 20 2) 9
theorem arG:dF Tryz.prog aS ai4:=bQ IW (dQ IW) 9
theorem avD (s:qK) (hI:NH s):(ZO s).all (fun _=>True):=by
 refine ⟨fun c1=>⟨?_,?_,fun _=>trivial,fun _=>trivial⟩,fun _=>trivial⟩
 all_goals ((obtain ⟨⟨h0,h1⟩,⟨h2,h3⟩,h4,h5,h6⟩:=hI;simp only [decide_eq_true_eq] at c1;first|decide|(have hd:(s.high-s.low).tdiv 2=(s.high-s.low) / 2:=Int.tdiv_eq_ediv_of_nonneg (by omega);have hm:IntKind.i64.wrap (s.low+IntKind.i64.wrap ((IntKind.i64.wrap (s.high-s.low)).tdiv 2))=s.low+(s.high-s.low) / 2:=(by rw [aK (x:=s.high-s.low) (by omega) (by omega),hd,aK (x:=(s.high-s.low) / 2) (by omega) (by omega),aK (by omega) (by omega)]);rw [hm];omega)))
theorem ahM:Ku.Ok:=⟨fun s=>by kernel_rfl,fun s=>by kernel_rfl,fun s=>rfl,fun s t r=>rfl,fun s=>rfl,fun s=>by kernel_rfl⟩
theorem agJ:Ku.Pf (ala):=⟨aAX,fun _ _=>rfl,aw1,avD⟩
theorem am3:bg Tryz.prog aS (AN 3) (.loop UN) Ku.lp:=bM.snd ahM agJ (bF (Γ:=Ej) (K:=ai4) (L:=(tN Tryz.prog aS Ej ai4 20 2)) IW arG UN (fun b _=>dR IW arG 20 2 b)) (fun s=>by kernel_rfl)
theorem apq (s:qK) (hE:adV s):∃s',NH s'∧ala (aqa s) s' (aas s):=bM.fin ahM agJ s hE
def acH:List LV→T LV
 | [.v (.int .i64 n)]=> .ok (.v (.tuple #[.int .i64 (wtA n),.int .i64 (wtE n)]))
 |_=> .no
noncomputable def Yp:List LV→T LV:=gQ Tryz.prog Tryz.f136.params.toList acH
noncomputable def arR:Hand:=inl Tryz.prog aS Ej (kD 161 3 1 (Ku.lp) (lX Tryz.prog aS (Ej) 20 2)) 9
theorem aBb:dF Tryz.prog aS arR:=bQ IW (dM Tryz.func161 rfl (by kernel_rfl) am3 (dQ IW)) 9
theorem aoo (n:Int):bV Tryz.prog aS (Ej) arR aC Tryz.f136 [.v (.int .i64 n)]=.br (!(inB n 0 1000000)) (.ok (.v (.tuple #[.int .i64 0,.int .i64 1]))) (.req (ayW (⟨(0:Int),(IntKind.i64.wrap ((IntKind.i64.wrap (2*n))+2)),(999800:Int),n⟩:qK)) (.ok (.v (.tuple #[.int .i64 (aas (⟨(0:Int),(IntKind.i64.wrap ((IntKind.i64.wrap (2*n))+2)),(999800:Int),n⟩:qK)).low,.int .i64 0])))):=by kernel_rfl
theorem atK:Valid Tryz.prog aS 136 Yp:=aH Tryz.func136 rfl IW aBb (aX (by kernel_rfl)) (fun args lv h=>by
 unfold acH at h
 split at h
 ·simp only [canL,canX]
  rw [aoo]
  rename_i n
  obtain rfl:=h
  refine ⟨fun c=>?_,fun c=>?_⟩
  ·have c:inB n 0 1000000=false:=ntW c
   unfold wtA wtE
   rw [c]
   rfl
  ·have c:inB n 0 1000000=true:=OY c
   have hb:=dB.1 c
   have hE:adV ⟨0,IntKind.i64.wrap (IntKind.i64.wrap (2*n)+2),999800,n⟩:=⟨rfl,by
    show IntKind.i64.wrap (IntKind.i64.wrap (2*n)+2)=2*n+2
    rw [aK (x:=2*n) (by omega) (by omega),aK (by omega) (by omega)],rfl,hb.1,hb.2⟩
   obtain ⟨_,_,_,q⟩:=apq _ hE
   refine ⟨⟨hE,rfl,rfl⟩,?_⟩
   rw [q]
   unfold wtA wtE
   rw [if_pos c,if_pos c]
   exact rfl
 ·cases h)
end Go.Proofs.YtlihnbimgclogaaGreatDoor
namespace Go.Proofs.YtlihnbimgclogaaGreatDoor
open Go.Sx
def akE:List LV→T LV
 | [.v (.int .i64 n),.v (.int .i64 a),.v (.int .i64 b)]=> .ok (.v (.bool (inB n a b)))
 |_=> .no
noncomputable def JH:List LV→T LV:=gQ Tryz.prog Tryz.f108.params.toList akE
noncomputable def ajw:Specs:=aZ []
theorem ar8:∀g S,ajw g=some S→Valid Tryz.prog aS g S:=aT (l:=[]) trivial
theorem awL (n a b:Int):bV Tryz.prog aS (ajw) dZ aC Tryz.f108 [.v (.int .i64 n),.v (.int .i64 a),.v (.int .i64 b)]=.ok (.v (.bool ((decide (n≥a))&&(decide (n≤b))))):=by kernel_rfl
theorem afu:Valid Tryz.prog aS 108 JH:=aH Tryz.func108 rfl ar8 aF (aX (by kernel_rfl)) (fun args lv h=>by
 unfold akE at h
 split at h
 ·simp only [canL,canX]
  rw [awL]
  exact h
 ·cases h)
def adf:List LV→T LV
 | [.v (.agg ⟨[.int .i64 nu,.int .i64 co,.int .i64 am,.int .i64 fr,.int .i64 tk]⟩)]=> .ok (.v (.bool (KA (nu,co,am,fr,tk))))
 |_=> .no
noncomputable def JI:List LV→T LV:=gQ Tryz.prog Tryz.f63.params.toList adf
noncomputable def aso:Specs:=aZ [(108,JH)]
theorem aBu:∀g S,aso g=some S→Valid Tryz.prog aS g S:=aT (l:=[(108,JH)]) ⟨afu,trivial⟩
theorem aoU (nu co am fr tk:Int):bV Tryz.prog aS (aso) dZ aC Tryz.f63 [.v (.agg #[.int .i64 nu,.int .i64 co,.int .i64 am,.int .i64 fr,.int .i64 tk])]=.ok (.v (.bool ((inB nu (1:Int) (1000000:Int))&&((inB co (0:Int) (15:Int))&&((inB am (0:Int) (80:Int))&&((inB fr (0:Int) (1000000:Int))&&(inB tk (1:Int) (1000:Int)))))))):=by kernel_rfl
theorem afv:Valid Tryz.prog aS 63 JI:=aH Tryz.func63 rfl aBu aF (aX (by kernel_rfl)) (fun args lv h=>by
 unfold adf at h
 split at h
 ·simp only [canL,canX]
  rw [aoU]
  exact h
 ·cases h)
def akF:List LV→T LV
 | [.v (.agg ⟨[.int .i64 nu,.int .i64 co,.int .i64 am,.int .i64 fr,.int .i64 tk]⟩),.v (.agg ⟨[.int .i64 nu2,.int .i64 co2,.int .i64 am2,.int .i64 fr2,.int .i64 tk2]⟩)]=> .ok (.v (.bool (Ak (nu,co,am,fr,tk) (nu2,co2,am2,fr2,tk2))))
 |_=> .no
noncomputable def U5:List LV→T LV:=gQ Tryz.prog Tryz.f64.params.toList akF
theorem awM (nu co am fr tk nu2 co2 am2 fr2 tk2:Int):bV Tryz.prog aS (ajw) dZ aC Tryz.f64 [.v (.agg #[.int .i64 nu,.int .i64 co,.int .i64 am,.int .i64 fr,.int .i64 tk]),.v (.agg #[.int .i64 nu2,.int .i64 co2,.int .i64 am2,.int .i64 fr2,.int .i64 tk2])]=.ok (.v (.bool ((decide (nu2>nu))&&(decide (fr2≥fr))))):=by kernel_rfl
theorem aq2:Valid Tryz.prog aS 64 U5:=aH Tryz.func64 rfl ar8 aF (aX (by kernel_rfl)) (fun args lv h=>by
 unfold akF at h
 split at h
 ·simp only [canL,canX]
  rw [awM]
  exact h
 ·cases h)
def adg:List LV→T LV
 | [.v (.agg ⟨[.int .i64 nu,.int .i64 co,.int .i64 am,.int .i64 fr,.int .i64 tk]⟩)]=> .req ((0≤fr∧fr≤1000000)∧0≤tk∧tk≤1000000) (.ok (.v (.int .i64 (QF (nu,co,am,fr,tk)))))
 |_=> .no
noncomputable def JJ:List LV→T LV:=gQ Tryz.prog Tryz.f109.params.toList adg
noncomputable def asn:Specs:=aZ [(136,Yp)]
theorem aBt:∀g S,asn g=some S→Valid Tryz.prog aS g S:=aT (l:=[(136,Yp)]) ⟨atK,trivial⟩
theorem aoV (nu co am fr tk:Int):bV Tryz.prog aS (asn) dZ aC Tryz.f109 [.v (.agg #[.int .i64 nu,.int .i64 co,.int .i64 am,.int .i64 fr,.int .i64 tk])]=.br ((wtE tk) !=0) (.ok (.v (.int .i64 fr))) (.ok (.v (.int .i64 (IntKind.i64.wrap ((IntKind.i64.wrap (fr+10))+(wtA tk)))))):=by kernel_rfl
theorem afw:Valid Tryz.prog aS 109 JJ:=aH Tryz.func109 rfl aBt aF (aX (by kernel_rfl)) (fun args lv h=>by
 unfold adg at h
 split at h
 ·simp only [canL,canX]
  rw [aoV]
  rename_i nu co am fr tk
  obtain ⟨⟨hf,ht⟩,rfl⟩:=h
  have c:inB tk 0 1000000=true:=dB.2 ht
  have hw:=aqY ht.1
  have ea:wtA tk=wt tk:=by unfold wtA;rw [if_pos c]
  have ee:wtE tk=0:=by unfold wtE;rw [if_pos c]
  rw [ea,ee,aK (x:=fr+10) (by omega) (by omega),aK (by omega) (by omega)]
  exact ⟨fun h=>(by cases h),fun _=>rfl⟩
 ·cases h)
structure pM where
 l:List Le
 r:Bool
 m:List Le
 n:Int
 i:Int
def aDY (s:pM):List LV:=[.xl ig s.l,.v (.bool s.r),.xl ig s.m,.v (.int .i64 s.n),.v (.int .i64 s.i)]
def aCY (_:pM):List aU:=[]
noncomputable def BG:Code:=((aB (Tryz.f62.body.getD .skip))[0]?).getD .skip
def ZM (s:pM):T (Rd pM):=
 .br (decide (s.i<s.n)) (.req (0≤s.i∧s.i<(List.length s.m:Int)) (.br (!(KA (fQ s.m s.i))) (.ok (.stop (.ret) {s with r:=false})) (.br (decide (s.i>0)) (.req (0≤(IntKind.i64.wrap (s.i-1))∧(IntKind.i64.wrap (s.i-1))<(List.length s.l:Int)) (.br (!(Ak (fQ s.l (IntKind.i64.wrap (s.i-1))) (fQ s.m s.i))) (.ok (.stop (.ret) {s with r:=false})) (.ok (.next {s with i:=(IntKind.i64.wrap (s.i+1))})))) (.ok (.next {s with i:=(IntKind.i64.wrap (s.i+1))}))))) (.ok (.stop (.exit 0) s))
abbrev asW (s:pM):=(ZM s).rd s
def adT (s:pM):Prop:=s.i=0∧s.n=(List.length s.l:Int)∧s.n≤1000∧s.m=s.l
def NF (s:pM):Prop:=(0≤s.i∧s.i≤s.n)∧s.n=(List.length s.l:Int)∧s.n≤1000∧s.m=s.l∧∀j:Nat,(j:Int)<s.i→jD s.l j=true
def Ih (s:pM):Nat:=(s.n-s.i).toNat
def ak8 (x:Ex) (_ s':pM):Prop:=(x=.exit 0∧∀j:Nat,(j:Int)<s'.n→jD s'.l j=true)∨(x=.ret∧s'.r=false∧∃j:Nat,(j:Int)<s'.n∧jD s'.l j=false)
theorem aAV:∀s,adT s→NF s:=by
 intro s h
 obtain ⟨h0,h2,h3,h4⟩:=h
 exact ⟨by omega,h2,h3,h4,fun j hj=>by omega⟩
theorem awX (s:pM) (hI:NF s):bJ (fun s'=>NF s'∧Ih s'<Ih s) (fun x s'=>ak8 x s s') (asW s):=by
 unfold asW ZM
 dsimp only [T.rd,T.rl]
 obtain ⟨⟨h0,h1⟩,h2,h3,h4,hA⟩:=hI
 refine au (fun c1=>?_) (fun c1=>?_)
 ·refine au (fun c2=>?_) (fun c2=>?_)
  ·have c1:s.i<s.n:=by simpa using c1
   rw [h4] at c2
   refine .inr ⟨rfl,rfl,s.i.toNat,by simp only;omega,?_⟩
   rw [Int.toNat_of_nonneg h0]
   show jD s.l s.i=false
   unfold jD
   rw [ntW c2]
   rfl
  ·refine au (fun c3=>?_) (fun c3=>?_)
   ·refine au (fun c4=>?_) (fun c4=>?_)
    ·have c1:s.i<s.n:=by simpa using c1
     rw [h4] at c2
     have c3:0<s.i:=by simpa using c3
     rw [aK (x:=s.i-1) (by omega) (by omega),h4] at c4
     refine .inr ⟨rfl,rfl,s.i.toNat,by simp only;omega,?_⟩
     rw [Int.toNat_of_nonneg h0]
     show jD s.l s.i=false
     unfold jD
     rw [OY c2,decide_eq_false (by omega),ntW c4]
     rfl
    ·have c1:s.i<s.n:=by simpa using c1
     rw [h4] at c2
     have c3:0<s.i:=by simpa using c3
     rw [aK (x:=s.i-1) (by omega) (by omega),h4] at c4
     have hg:jD s.l s.i=true:=by unfold jD;rw [OY c2,decide_eq_false (by omega),OY c4];rfl
     rw [aK (x:=s.i+1) (by omega) (by omega)]
     exact ⟨⟨⟨by simp only;omega,by simp only;omega⟩,h2,h3,h4,fun j hj=>by
      by_cases e:(j:Int)<s.i
      ·exact hA j e
      ·have e:(j:Int)=s.i:=by simp only at hj;omega
       show jD s.l j=true
       rw [e];exact hg⟩,by simp only [Ih];omega⟩
   ·have c1:s.i<s.n:=by simpa using c1
    rw [h4] at c2
    have hg:jD s.l s.i=true:=by unfold jD;rw [OY c2,decide_eq_true (by simp at c3;omega)];rfl
    rw [aK (x:=s.i+1) (by omega) (by omega)]
    exact ⟨⟨⟨by simp only;omega,by simp only;omega⟩,h2,h3,h4,fun j hj=>by
     by_cases e:(j:Int)<s.i
     ·exact hA j e
     ·have e:(j:Int)=s.i:=by simp only at hj;omega
      show jD s.l j=true
      rw [e];exact hg⟩,by simp only [Ih];omega⟩
 ·have c1:s.n≤s.i:=by simpa using c1
  exact .inl ⟨rfl,fun j hj=>hA j (by omega)⟩
def Fg:bM pM:=⟨0,33,[0,2,8,9,10],[],aDY,aCY,fun v _=>⟨aQ ig (v.getD 0 .junk),vF (v.getD 1 .junk),aQ ig (v.getD 2 .junk),gI (v.getD 3 .junk),gI (v.getD 4 .junk)⟩,ZM,fun s r=> {r with l:=s.l,m:=s.m,n:=s.n},fun s=>s,fun _ s=>s,[.ret,.exit 0],adT,NF,Ih⟩
abbrev aar:=Fg.run
abbrev ab6:=Fg.jJ
abbrev ayU:=Fg.q
theorem avA (s:pM) (hI:NF s):(ZM s).all (fun _=>True):=by
 refine ⟨fun c1=>⟨?_,fun _=>trivial,fun c2=>⟨fun c3=>⟨?_,fun _=>trivial,fun _=>trivial⟩,fun _=>trivial⟩⟩,fun _=>trivial⟩
 all_goals ((obtain ⟨⟨h0,h1⟩,h2,h3,h4,hA⟩:=hI;simp only [decide_eq_true_eq] at c1;have hl:s.m.length=s.l.length:=congrArg List.length h4;first|omega|(simp only [decide_eq_true_eq,gt_iff_lt] at c3;rw [aK (x:=s.i-1) (by omega) (by omega)];omega)))
noncomputable def ajv:Specs:=aZ [(63,JI),(64,U5)]
theorem ar7:∀g S,ajv g=some S→Valid Tryz.prog aS g S:=aT (l:=[(63,JI),(64,U5)]) ⟨afv,aq2,trivial⟩
theorem ahK:Fg.Ok:=⟨fun s=>by kernel_rfl,fun s=>by kernel_rfl,fun s=>rfl,fun s t r=>rfl,fun s=>rfl,fun s=>by kernel_rfl⟩
theorem agH:Fg.Pf (ak8):=⟨aAV,fun _ _=>rfl,awX,avA⟩
theorem am0:bg Tryz.prog aS (AN 0) (.loop BG) Fg.lp:=bM.snd ahK agH (aP (Γ:=ajv) (K:=dZ) (L:=aC) ar7 aF BG (fun b hb=>by rw [show aB BG=[] by kernel_rfl] at hb;cases hb)) (fun s=>by kernel_rfl)
theorem apn (s:pM) (hE:adT s):∃s',NF s'∧ak8 (ab6 s) s' (aar s):=bM.fin ahK agH s hE
def ac9:List LV→T LV
 | [.xl (.pair (.int .i64) (.pair (.int .i64) (.pair (.int .i64) (.pair (.int .i64) (.int .i64))))) l]=> .ok (.v (.bool (gK l)))
 |_=> .no
noncomputable def uM:List LV→T LV:=gQ Tryz.prog Tryz.f62.params.toList ac9
theorem aoQ (l:List Le):bV Tryz.prog aS (ajv) dZ (fun i=>if i=4 then Fg.lp else aC i) Tryz.f62 [.xl ig l]=.br (decide ((List.length l:Int)>64)) (.ok (.v (.bool false))) (.req (ayU (⟨l,false,l,(List.length l:Int),(0:Int)⟩:pM)) (.br (iG (ab6 (⟨l,false,l,(List.length l:Int),(0:Int)⟩:pM)) (.ret)) (.ok (.v (.bool (aar (⟨l,false,l,(List.length l:Int),(0:Int)⟩:pM)).r))) (.ok (.v (.bool true))))):=by kernel_rfl
theorem Oi:Valid Tryz.prog aS 62 uM:=aH Tryz.func62 rfl ar7 aF (L:=(fun i=>if i=4 then Fg.lp else aC i)) (fun b hb=>by
 rw [show aB _=[BG] by kernel_rfl] at hb
 simp only [List.mem_cons,List.not_mem_nil,or_false] at hb
 subst hb
 exact am0) (fun args lv h=>by
 unfold ac9 at h
 split at h
 ·simp only [canL,canX]
  rw [aoQ]
  rename_i l
  obtain rfl:=h
  refine ⟨fun c=>congrArg (fun z=>LV.v (.bool z)) ?_,fun c=>?_⟩
  ·have c:64<(List.length l:Int):=by simpa using c
   unfold gK
   rw [decide_eq_false (by omega)]
   rfl
  ·have c:(List.length l:Int)≤64:=by simpa using c
   have hE:adT ⟨l,false,l,(List.length l:Int),0⟩:=⟨rfl,rfl,by simp only;omega,rfl⟩
   refine ⟨⟨hE,rfl,rfl⟩,?_⟩
   obtain ⟨_,_,hq⟩:=apn _ hE
   rcases hq with ⟨q1,q2⟩ |⟨q1,q2,j,q3,q4⟩<;>rw [q1]
   ·have e:KE l.length (jD l)=true:=fE.2 (fun j hj=>q2 j (by show (j:Int)<(List.length l:Int);omega))
    unfold gK
    rw [decide_eq_true (by omega),e]
    exact ⟨fun h=>(by cases h),fun _=>rfl⟩
   ·have e:KE l.length (jD l)=false:=uh j (by have q3:(j:Int)<(List.length l:Int):=q3;omega) q4
    rw [q2]
    unfold gK
    rw [decide_eq_true (by omega),e]
    exact ⟨fun _=>rfl,fun h=>by cases h⟩
 ·cases h)
structure nJ where
 tick:Int
 l:List Le
 n:Int
 i:Int
 out:List Le
def aD7 (s:nJ):List LV:=[.v (.int .i64 s.tick),.os 0 5 0 (List.length s.out),.xl ig s.l,.v (.int .i64 s.n),.v (.int .i64 s.i)]
def aC7 (s:nJ):List aU:=[⟨[],63,.vec ig s.out,false⟩]
noncomputable def BN:Code:=((aB (Tryz.f65.body.getD .skip))[0]?).getD .skip
def ZR (s:nJ):T (Rd nJ):=
 .br (decide (s.i<s.n)) (.req (0≤s.i∧s.i<(List.length s.l:Int)) (.req ((0≤(fQ s.l s.i).2.2.2.1∧(fQ s.l s.i).2.2.2.1≤1000000)∧0≤(fQ s.l s.i).2.2.2.2∧(fQ s.l s.i).2.2.2.2≤1000000) (.br (decide ((QF (fQ s.l s.i))>s.tick)) (.req (0+(List.length s.out)=List.length s.out∧((List.length s.out+List.length ([(fQ s.l s.i)]):Nat):Int)*40≤2^47∧((List.length s.out+List.length ([(fQ s.l s.i)]):Nat):Int)<2^62) (.req (0=0∧(List.length s.out+List.length ([(fQ s.l s.i)]))=List.length (s.out++([(fQ s.l s.i)]))) (.ok (.next {s with i:=(IntKind.i64.wrap (s.i+1)),out:=(s.out++([(fQ s.l s.i)]))})))) (.rl s.out (.ok (.next {s with i:=(IntKind.i64.wrap (s.i+1))})))))) (.rl s.out (.ok (.stop (.exit 0) s)))
abbrev as1 (s:nJ):=(ZR s).rd s
def ad1 (s:nJ):Prop:=s.i=0∧s.out=[]∧s.n=(List.length s.l:Int)∧s.n≤1000∧∀x∈s.l,KA x=true
def NM (s:nJ):Prop:=(0≤s.i∧s.i≤s.n)∧s.out=(s.l.take s.i.toNat).filter (aeS s.tick)∧s.n=(List.length s.l:Int)∧s.n≤1000∧∀x∈s.l,KA x=true
def PZ (s:nJ):Nat:=(s.n-s.i).toNat
def alc (x:Ex) (_ s':nJ):Prop:=x=.exit 0∧s'.out=s'.l.filter (aeS s'.tick)
theorem aBQ:∀s,ad1 s→NM s:=by
 intro s h
 obtain ⟨h0,h1,h2⟩:=h
 exact ⟨by omega,by rw [h0,h1];rfl,h2⟩
theorem axy (s:nJ) (hI:NM s):bJ (fun s'=>NM s'∧PZ s'<PZ s) (fun x s'=>alc x s s') (as1 s):=by
 unfold as1 ZR
 dsimp only [T.rd,T.rl]
 obtain ⟨⟨h0,h1⟩,hA,h2,h3,h4⟩:=hI
 refine au (fun c1=>?_) (fun c1=>?_)
 ·have c1:s.i<s.n:=by simpa using c1
  have e:=(wz h0 (show s.i<s.l.length by omega)).2
  rw [aK (x:=s.i+1) (by omega) (by omega)]
  refine au (fun c2=>?_) (fun c2=>?_)
  all_goals
   refine ⟨⟨⟨by simp only;omega,by simp only;omega⟩,?_,h2,h3,h4⟩,by simp only [PZ];omega⟩
   simp only
   have c2:aeS s.tick (fQ s.l s.i)=_:=c2
   rw [e,List.filter_append,hA,List.filter_cons,c2]
   simp
 ·have c1:s.n≤s.i:=by simpa using c1
  refine ⟨rfl,?_⟩
  rw [hA,List.take_of_length_le (by omega)]
def Fz:bM nJ:=⟨0,33,[1,6,17,18,19],[.nl 6 63 ig],aD7,aC7,fun v b=>⟨gI (v.getD 0 .junk),aQ ig (v.getD 2 .junk),gI (v.getD 3 .junk),gI (v.getD 4 .junk),iR ig (aO b 0)⟩,ZR,fun s r=> {r with tick:=s.tick,l:=s.l,n:=s.n},fun s=>s,fun _ s=>s,[.exit 0],ad1,NM,PZ⟩
abbrev wY:=Fz.run
abbrev aqf:=Fz.jJ
abbrev ay3:=Fz.q
theorem avK (s:nJ) (hI:NM s):(ZR s).all (fun _=>True):=by
 refine ⟨fun c1=>⟨?_,?_,fun c2=>⟨?_,?_,trivial⟩,fun c2=>⟨⟨rfl,rfl⟩,trivial⟩⟩,fun c1=>⟨⟨rfl,rfl⟩,trivial⟩⟩
 all_goals ((obtain ⟨⟨h0,h1⟩,hA,h2,h3,h4⟩:=hI;simp only [decide_eq_true_eq] at c1;have hv:=Gl.1 (h4 _ (xM h0 (show s.i<s.l.length by omega)));have hl:s.out.length≤s.i.toNat:=(by rw [hA];exact Nat.le_trans (List.length_filter_le _ _) (by rw [List.length_take];omega));first|omega|(refine ⟨by omega,?_,?_⟩<;>simp only [List.length_cons,List.length_nil]<;>omega) |exact ⟨rfl,by simp⟩))
noncomputable def aju:Specs:=aZ [(62,uM),(108,JH),(109,JJ)]
theorem ar6:∀g S,aju g=some S→Valid Tryz.prog aS g S:=aT (l:=[(62,uM),(108,JH),(109,JJ)]) ⟨Oi,afu,afw,trivial⟩
theorem ahS:Fz.Ok:=⟨fun s=>by kernel_rfl,fun s=>by kernel_rfl,fun s=>rfl,fun s t r=>rfl,fun s=>rfl,fun s=>by kernel_rfl⟩
theorem agP:Fz.Pf (alc):=⟨aBQ,fun _ _=>rfl,axy,avK⟩
theorem am9:bg Tryz.prog aS (AN 0) (.loop BN) Fz.lp:=bM.snd ahS agP (aP (Γ:=aju) (K:=dZ) (L:=aC) ar6 aF BN (fun b hb=>by rw [show aB BN=[] by kernel_rfl] at hb;cases hb)) (fun s=>by kernel_rfl)
theorem apR (s:nJ) (hE:ad1 s):∃s',NM s'∧alc (aqf s) s' (wY s):=bM.fin ahS agP s hE
def adr:List LV→T LV
 | [.xl (.pair (.int .i64) (.pair (.int .i64) (.pair (.int .i64) (.pair (.int .i64) (.int .i64))))) l,.v (.int .i64 t)]=> .ok (.gq [.xl ig (Jg l t),.v (.int .i64 (aeR l t))])
 |_=> .no
noncomputable def YV:List LV→T LV:=gQ Tryz.prog Tryz.f65.params.toList adr
theorem ao5 (l:List Le) (t:Int):bV Tryz.prog aS (aju) dZ (fun i=>if i=5 then Fz.lp else aC i) Tryz.f65 [.xl ig l,.v (.int .i64 t)]=.br ((!(gK l)) ||(!(inB t (0:Int) (1100000:Int)))) (.ok (.gq [.xl ig ([]:List Le),.v (.int .i64 1)])) (.req (0=0∧0=List.length ([]:List Le)) (.req (ay3 (⟨t,l,(List.length l:Int),(0:Int),([]:List Le)⟩:nJ)) (.req (0+(List.length (wY (⟨t,l,(List.length l:Int),(0:Int),([]:List Le)⟩:nJ)).out)≤List.length (wY (⟨t,l,(List.length l:Int),(0:Int),([]:List Le)⟩:nJ)).out) (.ok (.gq [.xl ig (((wY (⟨t,l,(List.length l:Int),(0:Int),([]:List Le)⟩:nJ)).out.drop 0).take (List.length (wY (⟨t,l,(List.length l:Int),(0:Int),([]:List Le)⟩:nJ)).out)),.v (.int .i64 0)]))))):=by kernel_rfl
theorem aun:Valid Tryz.prog aS 65 YV:=aH Tryz.func65 rfl ar6 aF (L:=(fun i=>if i=5 then Fz.lp else aC i)) (fun b hb=>by
 rw [show aB _=[BN] by kernel_rfl] at hb
 simp only [List.mem_cons,List.not_mem_nil,or_false] at hb
 subst hb
 exact am9) (fun args lv h=>by
 unfold adr at h
 split at h
 ·simp only [canL,canX]
  rw [ao5]
  rename_i l t
  obtain rfl:=h
  refine ⟨fun c=>?_,fun c=>?_⟩
  ·have c:Jf l t=false:=by unfold Jf;cases e1:gK l<;>cases e2:inB t 0 1100000<;>simp_all
   show LV.gq _=_
   unfold Jg aeR
   rw [c]
   rfl
  ·have c:Jf l t=true:=by unfold Jf;cases e1:gK l<;>cases e2:inB t 0 1100000<;>simp_all
   have hv:gK l=true:=by unfold Jf at c;rw [Bool.and_eq_true] at c;exact c.1
   have hl:=kH hv
   have hE:ad1 ⟨t,l,(List.length l:Int),0,[]⟩:=⟨rfl,rfl,rfl,by simp only;omega,hl.2⟩
   obtain ⟨_,_,q1,q2⟩:=apR _ hE
   have q2:(wY ⟨t,l,(List.length l:Int),0,[]⟩).out=l.filter (aeS t):=q2
   refine ⟨⟨rfl,rfl⟩,⟨hE,rfl,rfl⟩,by omega,?_⟩
   show LV.gq [LV.xl _ _,_]=_
   rw [List.drop_zero,List.take_length,q2]
   unfold Jg aeR
   rw [if_pos c,if_pos c]
 ·cases h)
end Go.Proofs.YtlihnbimgclogaaGreatDoor
namespace Go.Proofs.YtlihnbimgclogaaGreatDoor
open Go.Sx
structure pO where
 l:List Le
 qy:Int
 tick:Int
 e:Int
 m:List Le
 k:Int
 i:Int
def aEn (s:pO):List LV:=[.xl ig s.l,.v (.int .i64 s.qy),.v (.int .i64 s.tick),.v (.slice none 0 0),.v (.int .i64 s.e),.xl ig s.m,.v (.int .i64 s.k),.v (.int .i64 s.i)]
def aDn (_:pO):List aU:=[]
noncomputable def Ce:Code:=((aB (Tryz.f66.body.getD .skip))[0]?).getD .skip
def aac (s:pO):T (Rd pO):=
 .br (decide (s.i<s.k)) (.req (0≤s.i∧s.i<(List.length s.m:Int)) (.br (decide ((fQ s.m s.i).2.1≥s.qy)) (.ok (.stop (.ret) {s with e:=(1:Int)})) (.ok (.next {s with i:=(IntKind.i64.wrap (s.i+1))})))) (.ok (.stop (.exit 0) s))
abbrev atc (s:pO):=(aac s).rd s
def aee (s:pO):Prop:=s.i=0∧s.k=(List.length s.m:Int)∧s.k≤1000
def N8 (s:pO):Prop:=(0≤s.i∧s.i≤s.k)∧s.k=(List.length s.m:Int)∧s.k≤1000∧∀x∈s.m.take s.i.toNat,x.2.1<s.qy
def Qh (s:pO):Nat:=(s.k-s.i).toNat
def alp (x:Ex) (_ s':pO):Prop:=(x=.exit 0∧below s'.qy s'.m=true)∨(x=.ret∧s'.e=1∧below s'.qy s'.m=false)
theorem aCe:∀s,aee s→N8 s:=by
 intro s h
 obtain ⟨h0,h1,h2⟩:=h
 exact ⟨by omega,h1,h2,by rw [h0];intro x hx;cases hx⟩
theorem ayc (s:pO) (hI:N8 s):bJ (fun s'=>N8 s'∧Qh s'<Qh s) (fun x s'=>alp x s s') (atc s):=by
 unfold atc aac
 dsimp only [T.rd,T.rl]
 obtain ⟨⟨h0,h1⟩,h2,h3,h4⟩:=hI
 refine au (fun c1=>?_) (fun c1=>?_)
 ·have c1:s.i<s.k:=by simpa using c1
  refine au (fun c2=>?_) (fun c2=>?_)
  ·refine .inr ⟨rfl,rfl,?_⟩
   unfold below
   rw [List.all_eq_false]
   exact ⟨fQ s.m s.i,xM h0 (by simp only;omega),by simpa using c2⟩
  ·rw [aK (x:=s.i+1) (by omega) (by omega)]
   refine ⟨⟨⟨by simp only;omega,by simp only;omega⟩,h2,h3,fun x hx=>?_⟩,by simp only [Qh];omega⟩
   rw [(wz h0 (by simp only;omega)).2,List.mem_append,List.mem_singleton] at hx
   rcases hx with hx|rfl
   ·exact h4 x hx
   ·simpa using c2
 ·have c1:s.k≤s.i:=by simpa using c1
  refine .inl ⟨rfl,?_⟩
  rw [List.take_of_length_le (by omega)] at h4
  unfold below
  rw [List.all_eq_true]
  exact fun x hx=>decide_eq_true (h4 x hx)
def FQ:bM pO:=⟨0,48,[0,1,2,6,7,26,27,28],[],aEn,aDn,fun v _=>⟨aQ ig (v.getD 0 .junk),gI (v.getD 1 .junk),gI (v.getD 2 .junk),gI (v.getD 4 .junk),aQ ig (v.getD 5 .junk),gI (v.getD 6 .junk),gI (v.getD 7 .junk)⟩,aac,fun s r=> {r with l:=s.l,qy:=s.qy,tick:=s.tick,m:=s.m,k:=s.k},fun s=>s,fun _ s=>s,[.ret,.exit 0],aee,N8,Qh⟩
abbrev aaz:=FQ.run
abbrev aci:=FQ.jJ
abbrev azi:=FQ.q
theorem av1 (s:pO) (hI:N8 s):(aac s).all (fun _=>True):=by
 refine ⟨fun c1=>⟨?_,fun _=>trivial,fun _=>trivial⟩,fun _=>trivial⟩
 ·(obtain ⟨⟨h0,h1⟩,h2,h3,h4⟩:=hI;simp only [decide_eq_true_eq] at c1;omega)
noncomputable def Ag:Specs:=aZ [(62,uM),(108,JH),(109,JJ)]
theorem Ee:∀g S,Ag g=some S→Valid Tryz.prog aS g S:=aT (l:=[(62,uM),(108,JH),(109,JJ)]) ⟨Oi,afu,afw,trivial⟩
noncomputable def aa5:Hand:=inl Tryz.prog aS Ag (lX Tryz.prog aS (Ag) 20 2) 9
theorem aiX:dF Tryz.prog aS aa5:=bQ Ee (dQ Ee) 9
theorem ah6:FQ.Ok:=⟨fun s=>by kernel_rfl,fun s=>by kernel_rfl,fun s=>rfl,fun s t r=>rfl,fun s=>rfl,fun s=>by kernel_rfl⟩
theorem ag3:FQ.Pf (alp):=⟨aCe,fun _ _=>rfl,ayc,av1⟩
theorem ano:bg Tryz.prog aS (AN 0) (.loop Ce) FQ.lp:=bM.snd ah6 ag3 (aP (Γ:=Ag) (K:=aa5) (L:=aC) Ee aiX Ce (fun b hb=>by rw [show aB Ce=[] by kernel_rfl] at hb;cases hb)) (fun s=>by kernel_rfl)
theorem aqP (s:pO) (hE:aee s):∃s',N8 s'∧alp (aci s) s' (aaz s):=bM.fin ah6 ag3 s hE
noncomputable def af0:Array Tmp×Code×Code:=((jI (Tryz.f66.body.getD .skip))[0]?).getD (#[],.skip,.skip)
noncomputable def aAh:Array Tmp:=af0.1
noncomputable def aAB:Code:=af0.2.1
noncomputable def aAw:Code:=af0.2.2
structure kR where
 m:List Le
 k:Int
 i:Int
 o:List Int
 q:List Le
 t:Int
 st:LS
def aEm (s:kR):List LV:=[.uP 5,.own 4 0,.xl ig s.m,.v (.int .i64 s.k),.v (.int .i64 s.i)]
noncomputable def aDm (s:kR):List aU:=[⟨[],3,.vec (.int .i64) s.o,false⟩,⟨[.os 0 1 0 (List.length s.o)],35,.cl,false⟩,⟨[.fn 110 [.own 1 0]],160,.cl,false⟩,⟨[.xl ig s.q],29,.cl,false⟩,⟨[.v (.int .i64 s.t)],3,.cl,false⟩,⟨[.junk,.junk,.junk,.junk,.junk,.junk,.junk,.junk,.junk,.junk,.junk,.own 2 0,.junk,.junk,.junk,.junk,.junk,.junk,.junk,.junk,.junk,.junk,.junk,.junk,.junk,.junk,.junk,.junk,.junk,.junk,.junk,.junk,.junk,.junk,.junk,.junk,.junk,.junk,.junk,.junk,.junk,.junk,.junk,.junk,.junk,.junk,.junk,.junk],0,.kG aAh aAB aAw s.st,false⟩]
noncomputable def UX:Code:=((aB (Tryz.f137.body.getD .skip))[0]?).getD .skip
def SL (s:kR):T (Rd kR):=
 .br (decide (s.i<s.k)) (.req (0≤s.i∧s.i<(List.length s.m:Int)) (.br (decide ((fQ s.m s.i).2.2.2.1>s.t)) (.rl s.o (.ok (.stop (.exit 0) s))) (.req ((0≤(fQ s.m s.i).2.2.2.1∧(fQ s.m s.i).2.2.2.1≤1000000)∧0≤(fQ s.m s.i).2.2.2.2∧(fQ s.m s.i).2.2.2.2≤1000000) (.br (decide ((QF (fQ s.m s.i))≤s.t)) (.rl s.o (.ok (.next {s with i:=(IntKind.i64.wrap (s.i+1))}))) (.req (0≤(fQ s.m s.i).2.1∧(fQ s.m s.i).2.1<((List.length s.o:Nat):Int)) (.req ((fQ s.m s.i).2.1.toNat<List.length s.o) (.req (0≤(fQ s.m s.i).2.1∧(fQ s.m s.i).2.1<((List.length s.o:Nat):Int)) (.req ((fQ s.m s.i).2.1.toNat<List.length s.o) (.req (0=0∧(List.length s.o)=List.length (s.o.set (fQ s.m s.i).2.1.toNat (if (s.o.getD (fQ s.m s.i).2.1.toNat (Ty.dflt (.int .i64)))<(fQ s.m s.i).2.2.1 then (fQ s.m s.i).2.2.1 else (s.o.getD (fQ s.m s.i).2.1.toNat (Ty.dflt (.int .i64)))))) (.ok (.next {s with i:=(IntKind.i64.wrap (s.i+1)),o:=(s.o.set (fQ s.m s.i).2.1.toNat (if (s.o.getD (fQ s.m s.i).2.1.toNat (Ty.dflt (.int .i64)))<(fQ s.m s.i).2.2.1 then (fQ s.m s.i).2.2.1 else (s.o.getD (fQ s.m s.i).2.1.toNat (Ty.dflt (.int .i64)))))}))))))))))) (.rl s.o (.ok (.stop (.exit 0) s)))
abbrev abR (s:kR):=(SL s).rd s
def aed (s:kR):Prop:=s.st=.ready∧s.i=0∧s.k=(List.length s.m:Int)∧s.k≤1000∧(∀x∈s.m,KA x=true∧x.2.1<(s.o.length:Int))∧s.m.Pairwise (fun a b=>a.1<b.1∧a.2.2.2.1≤b.2.2.2.1)
def VE (s:kR):Prop:=s.st=.ready∧(0≤s.i∧s.i≤s.k)∧s.k=(List.length s.m:Int)∧s.k≤1000∧(∀x∈s.m,KA x=true∧x.2.1<(s.o.length:Int))∧s.m.Pairwise (fun a b=>a.1<b.1∧a.2.2.2.1≤b.2.2.2.1)
def Io (s:kR):Nat:=(s.k-s.i).toNat
def aty (x:Ex) (_ _:kR):Prop:=x=.exit 0
theorem aCd:∀s,aed s→VE s:=by
 intro s h
 obtain ⟨h0,h1,h2⟩:=h
 exact ⟨h0,by omega,h2⟩
theorem ayb (s:kR) (hI:VE s):bJ (fun s'=>VE s'∧Io s'<Io s) (fun x s'=>aty x s s') (abR s):=by
 unfold abR SL
 dsimp only [T.rd,T.rl]
 obtain ⟨hs,⟨h0,h1⟩,h2,h3,h4,h5⟩:=hI
 refine au (fun c1=>?_) (fun c1=>rfl)
 have c1:s.i<s.k:=by simpa using c1
 rw [aK (x:=s.i+1) (by omega) (by omega)]
 refine au (fun c2=>rfl) (fun c2=>au (fun c3=>?_) (fun c3=>?_))
 ·exact ⟨⟨hs,⟨by simp only;omega,by simp only;omega⟩,h2,h3,h4,h5⟩,by simp only [Io];omega⟩
 ·exact ⟨⟨hs,⟨by simp only;omega,by simp only;omega⟩,h2,h3,fun x hx=>by simp only [List.length_set];exact h4 x hx,h5⟩,by simp only [Io];omega⟩
noncomputable def Kz:bM kR:=⟨6,27,[0,2,6,7,8],[],aEm,aDm,fun v b=>⟨aQ ig (v.getD 2 .junk),gI (v.getD 3 .junk),gI (v.getD 4 .junk),iR (.int .i64) (aO b 0),aQ ig (aY (aO b 3) 0),gI (aY (aO b 4) 0),.ready⟩,SL,fun s r=> {r with m:=s.m,k:=s.k,q:=s.q,t:=s.t,st:=s.st},fun s=> {s with st:=.ready},fun x s=> {s with st:=(match x with| .exit 0=> .ready|_=> .ready)},[.exit 0],aed,VE,Io⟩
noncomputable abbrev xk:=Kz.run
noncomputable abbrev aql:=Kz.jJ
abbrev azh:=Kz.q
theorem avZ (s:kR) (hI:VE s):(SL s).all (fun _=>True):=by
 refine ⟨fun c1=>⟨?_,fun c2=>⟨⟨rfl,rfl⟩,trivial⟩,fun c2=>⟨?_,fun c3=>⟨⟨rfl,rfl⟩,trivial⟩,fun c3=>⟨?_,?_,?_,?_,?_,trivial⟩⟩⟩,fun c1=>⟨⟨rfl,rfl⟩,trivial⟩⟩
 all_goals ((obtain ⟨hs,⟨h0,h1⟩,h2,h3,h4,h5⟩:=hI;simp only [decide_eq_true_eq] at c1;have hv:=(h4 _ (xM h0 (show s.i<s.m.length by omega))).2;have hl:=Gl.1 (h4 _ (xM h0 (show s.i<s.m.length by omega))).1;first|omega|exact ⟨rfl,by simp⟩))
theorem ah5:Kz.Ok:=⟨fun s=>by kernel_rfl,fun s=>by kernel_rfl,fun s=>rfl,fun s t r=>rfl,fun s=>rfl,fun s=>by kernel_rfl⟩
theorem ag2:Kz.Pf (aty):=⟨aCd,fun s h=>by
 obtain ⟨m,k,i,o,q,t,st⟩:=s
 have e:st=.ready:=h.1
 subst e
 rfl,ayb,avZ⟩
theorem ann:bg Tryz.prog aS (AN 6) (.loop UX) Kz.lp:=bM.snd ah5 ag2 (bF (Γ:=Ag) (K:=aa5) (L:=(tN Tryz.prog aS Ag aa5 20 2)) Ee aiX UX (fun b _=>dR Ee aiX 20 2 b)) (fun s=>by kernel_rfl)
theorem aqO (s:kR) (hE:aed s):(fun (x:Ex) (s':kR) (v:List Int)=>x=.exit 0∧s'.o=v) (aql s) (xk s) ((fun s:kR=>((s.m.drop s.i.toNat).filter (Ju s.t)).foldl kpA s.o) s):=by
 exact bM.wC ah5 ag2 (fun s:kR=>((s.m.drop s.i.toNat).filter (Ju s.t)).foldl kpA s.o) (fun x s' v=>x=.exit 0∧s'.o=v) (fun s hI=>by
  show bJ _ _ (abR s)
  unfold abR SL
  dsimp only [T.rd,T.rl]
  obtain ⟨hs,⟨h0,h1⟩,h2,h3,h4,h5⟩:=hI
  refine au (fun c1=>?_) (fun c1=>?_)
  ·have c1:s.i<s.k:=by simpa using c1
   have e:=(wz h0 (show s.i<(List.length s.m:Int) by omega)).1
   rw [aK (x:=s.i+1) (by omega) (by omega)]
   refine au (fun c2=>?_) (fun c2=>au (fun c3=>?_) (fun c3=>?_))
   ·refine ⟨rfl,?_⟩
    have c2:(fQ s.m s.i).2.2.2.1>s.t:=by simpa using c2
    have hp:(s.m.drop s.i.toNat).Pairwise (fun a b=>a.1<b.1∧a.2.2.2.1≤b.2.2.2.1):=List.Pairwise.sublist (List.drop_sublist _ _) h5
    rw [e,List.pairwise_cons] at hp
    rw [List.filter_eq_nil_iff.2]
    ·rfl
    ·rw [e]
     intro x hx
     unfold Ju
     rw [decide_eq_false,Bool.false_and]
     ·decide
     ·rcases List.mem_cons.1 hx with rfl|hx
      ·omega
      ·have:=(hp.1 x hx).2
       omega
   ·show List.foldl _ _ _=List.foldl _ _ _
    have c3:QF (fQ s.m s.i)≤s.t:=by simpa using c3
    have hb:¬Ju s.t (fQ s.m s.i)=true:=by
     unfold Ju
     rw [decide_eq_false (p:=QF _>_) (by omega),Bool.and_false]
     decide
    simp only
    rw [e,List.filter_cons,if_neg hb]
   ·show List.foldl _ _ _=List.foldl _ _ _
    have c2:(fQ s.m s.i).2.2.2.1≤s.t:=by simpa using c2
    have c3:s.t<QF (fQ s.m s.i):=by simpa using c3
    have hb:Ju s.t (fQ s.m s.i)=true:=by
     unfold Ju
     rw [decide_eq_true c2,decide_eq_true c3]
     rfl
    simp only
    rw [e,List.filter_cons,if_pos hb,List.foldl_cons]
    rfl
  ·have c1:s.k≤s.i:=by simpa using c1
   refine ⟨rfl,?_⟩
   rw [List.drop_eq_nil_of_le (by omega)]
   rfl) s hE
def adD:List LV→T LV
 | [.xl (.pair (.int .i64) (.pair (.int .i64) (.pair (.int .i64) (.pair (.int .i64) (.int .i64))))) l,.v (.int .i64 n),.v (.int .i64 t)]=> .ok (.gq [.xl (.int .i64) (oO l n t),.v (.int .i64 (U2 l n t))])
 |_=> .no
noncomputable def Y6:List LV→T LV:=gQ Tryz.prog Tryz.f66.params.toList adD
noncomputable def arQ:Hand:=inl Tryz.prog aS Ag (kD 137 6 1 (Kz.lp) (lX Tryz.prog aS (Ag) 20 2)) 9
theorem aBa:dF Tryz.prog aS arQ:=bQ Ee (dM Tryz.func137 rfl (by kernel_rfl) ann (dQ Ee)) 9
theorem aph (l:List Le) (n t:Int):bV Tryz.prog aS (Ag) arQ (fun i=>if i=4 then FQ.lp else aC i) Tryz.f66 [.xl ig l,.v (.int .i64 n),.v (.int .i64 t)]=.br ((!(gK l)) ||((!(inB n (0:Int) (16:Int))) ||(!(inB t (0:Int) (1100000:Int))))) (.ok (.gq [.xl (.int .i64) ([]:List Int),.v (.int .i64 1)])) (.req (azi (⟨l,n,t,(0:Int),l,(List.length l:Int),(0:Int)⟩:pO)) (.br (iG (aci (⟨l,n,t,(0:Int),l,(List.length l:Int),(0:Int)⟩:pO)) (.ret)) (.ok (.gq [.xl (.int .i64) ([]:List Int),.v (.int .i64 (aaz (⟨l,n,t,(0:Int),l,(List.length l:Int),(0:Int)⟩:pO)).e)])) (.req (0≤n∧n≤n∧8*n≤2^48∧n<2^63) (.req (0=0∧n.toNat=List.length (List.replicate n.toNat (0:Int))) (.req (azh (⟨l,(List.length l:Int),(0:Int),(List.replicate n.toNat (0:Int)),l,t,.ready⟩:kR)) (.req (0+(List.length (xk (⟨l,(List.length l:Int),(0:Int),(List.replicate n.toNat (0:Int)),l,t,.ready⟩:kR)).o)≤List.length (xk (⟨l,(List.length l:Int),(0:Int),(List.replicate n.toNat (0:Int)),l,t,.ready⟩:kR)).o) (.ok (.gq [.xl (.int .i64) (((xk (⟨l,(List.length l:Int),(0:Int),(List.replicate n.toNat (0:Int)),l,t,.ready⟩:kR)).o.drop 0).take (List.length (xk (⟨l,(List.length l:Int),(0:Int),(List.replicate n.toNat (0:Int)),l,t,.ready⟩:kR)).o)),.v (.int .i64 0)])))))))):=by kernel_rfl
theorem auy:Valid Tryz.prog aS 66 Y6:=aH Tryz.func66 rfl Ee aBa (L:=(fun i=>if i=4 then FQ.lp else aC i)) (fun b hb=>by
 rw [show aB _=[Ce] by kernel_rfl] at hb
 simp only [List.mem_cons,List.not_mem_nil,or_false] at hb
 subst hb
 exact ano) (fun args lv h=>by
 unfold adD at h
 split at h
 ·simp only [canL,canX]
  rw [aph]
  rename_i l n t
  obtain rfl:=h
  have bad:DT l n t=false→LV.gq [.xl (.int .i64) ([]:List Int),.v (.int .i64 1)]=LV.gq [.xl (.int .i64) (oO l n t),.v (.int .i64 (U2 l n t))]:=fun c=>by
   unfold oO U2
   rw [c]
   rfl
  refine ⟨fun c=>bad ?_,fun c=>?_⟩
  ·unfold DT
   cases e1:gK l<;>cases e2:inB n 0 16<;>cases e3:inB t 0 1100000<;>simp_all
  have c:(gK l&&(inB n 0 16&&inB t 0 1100000))=true:=by cases e1:gK l<;>cases e2:inB n 0 16<;>cases e3:inB t 0 1100000<;>simp_all
  have c':=c
  rw [Bool.and_eq_true,Bool.and_eq_true,dB,dB] at c'
  obtain ⟨hv,hn,ht⟩:=c'
  have hl:=kH hv
  have hE:aee ⟨l,n,t,0,l,(List.length l:Int),0⟩:=⟨rfl,rfl,by simp only;omega⟩
  refine ⟨⟨hE,rfl,rfl⟩,?_⟩
  obtain ⟨_,_,hq⟩:=aqP _ hE
  rcases hq with ⟨q1,q2⟩ |⟨q1,q2,q3⟩<;>rw [q1]
  ·refine ⟨fun h=>(by cases h),fun _=>?_⟩
   have q2:below n l=true:=q2
   have hE2:aed ⟨l,(List.length l:Int),0,List.replicate n.toNat 0,l,t,.ready⟩:=⟨rfl,rfl,rfl,by simp only;omega,fun x hx=>⟨hl.2 x hx,by
    have:=of_decide_eq_true (List.all_eq_true.1 q2 x hx)
    simp only [List.length_replicate]
    omega⟩,LQ hv⟩
   obtain ⟨_,q4⟩:=aqO _ hE2
   have q4:(xk ⟨l,(List.length l:Int),0,List.replicate n.toNat 0,l,t,.ready⟩).o=QV n.toNat l t:=q4
   refine ⟨by omega,⟨rfl,by simp⟩,⟨hE2,rfl,rfl⟩,by omega,?_⟩
   show LV.gq [LV.xl _ _,_]=_
   rw [List.drop_zero,List.take_length,q4]
   unfold oO U2 DT
   rw [c,q2]
   rfl
  ·have q3:below n l=false:=q3
   rw [q2]
   exact ⟨fun _=>bad (by unfold DT;rw [q3,Bool.and_false]),fun h=>by cases h⟩
 ·cases h)
end Go.Proofs.YtlihnbimgclogaaGreatDoor
namespace Go.Proofs.YtlihnbimgclogaaGreatDoor
open Go.Sx
def ac8:List LV→T LV
 | [.v (.agg ⟨[.string _,.int .i64 _,.int .i64 _,.int .i64 mi,.int .i64 ma,.int .i64 st,.int .i64 _,.int .i64 _]⟩)]=> .ok (.v (.int .i64 (CW mi ma st)))
 |_=> .no
noncomputable def YK:List LV→T LV:=gQ Tryz.prog Tryz.f28.params.toList ac8
noncomputable def axr:Specs:=aZ []
theorem aBE:∀g S,axr g=some S→Valid Tryz.prog aS g S:=aT (l:=[]) trivial
theorem aoP (nm:ByteArray) (at_ ph mi ma st fb ow:Int):bV Tryz.prog aS (axr) dZ aC Tryz.f28 [.v (.agg #[.string nm,.int .i64 at_,.int .i64 ph,.int .i64 mi,.int .i64 ma,.int .i64 st,.int .i64 fb,.int .i64 ow])]=.br ((decide (mi<1)) ||((decide (mi>ma)) ||((decide (ma>80)) ||((decide (st<1)) ||(decide (st>80)))))) (.ok (.v (.int .i64 0))) (.req (st≠0) (.ok (.v (.int .i64 (IntKind.i64.wrap ((IntKind.i64.wrap ((IntKind.i64.wrap (ma-mi)).tdiv st))+2)))))):=by kernel_rfl
theorem auc:Valid Tryz.prog aS 28 YK:=aH Tryz.func28 rfl aBE aF (aX (by kernel_rfl)) (fun args lv h=>by
 unfold ac8 at h
 split at h
 ·simp only [canL,canX]
  rw [aoP]
  rename_i mi ma st _ _
  obtain rfl:=h
  refine ⟨fun c=>congrArg (fun z=>LV.v (.int .i64 z)) ?_,fun c=>⟨?_,congrArg (fun z=>LV.v (.int .i64 z)) ?_⟩⟩
  ·have:lU mi ma st=false:=by
    rw [Bool.eq_false_iff];intro h;have:=eX.1 h;simp at c;omega
   rw [TU this]
  ·simp at c;omega
  ·have hh:lU mi ma st=true:=eX.2 (by simp at c;omega)
   obtain ⟨h1,h2,h3,h4,h5⟩:=eX.1 hh
   have:=DK (x:=ma-mi) (st:=st) (by omega) (by omega)
   rw [aK (x:=ma-mi) (by omega) (by omega),Int.tdiv_eq_ediv_of_nonneg (by omega),aK (x:=(ma-mi) / st) (by omega) (by omega),aK (by omega) (by omega)]
   simp [CW,hh]
 ·cases h)
def adC:List LV→T LV
 | [.v (.agg ⟨[.string _,.int .i64 _,.int .i64 _,.int .i64 mi,.int .i64 _,.int .i64 st,.int .i64 _,.int .i64 _]⟩),.v (.int .i64 k)]=> .req ((1≤mi∧mi≤80∧1≤st∧st≤80)∧0≤k∧k≤1000) (.ok (.v (.int .i64 (Cj mi st k))))
 |_=> .no
noncomputable def qG:List LV→T LV:=gQ Tryz.prog Tryz.f61.params.toList adC
theorem apg (nm:ByteArray) (at_ ph mi ma st fb ow k:Int):bV Tryz.prog aS (axr) dZ aC Tryz.f61 [.v (.agg #[.string nm,.int .i64 at_,.int .i64 ph,.int .i64 mi,.int .i64 ma,.int .i64 st,.int .i64 fb,.int .i64 ow]),.v (.int .i64 k)]=.br (k==0) (.ok (.v (.int .i64 0))) (.ok (.v (.int .i64 (IntKind.i64.wrap (mi+(IntKind.i64.wrap ((IntKind.i64.wrap (k-1))*st))))))):=by kernel_rfl
theorem GU:Valid Tryz.prog aS 61 qG:=aH Tryz.func61 rfl aBE aF (aX (by kernel_rfl)) (fun args lv h=>by
 unfold adC at h
 split at h
 ·simp only [canL,canX]
  rw [apg]
  rename_i mi _ st _ _ k
  obtain ⟨⟨⟨h1,h2,h3,h4⟩,h5,h6⟩,rfl⟩:=h
  refine ⟨fun c=>congrArg (fun z=>LV.v (.int .i64 z)) ?_,fun c=>congrArg (fun z=>LV.v (.int .i64 z)) ?_⟩
  ·have c:k=0:=by simpa using c
   simp [Cj,c]
  ·have c:k≠0:=by simpa using c
   have:=awV (a:=k-1) (b:=st) (by omega) (by omega) (by omega) (by omega)
   rw [aK (x:=k-1) (by omega) (by omega),aK (x:=(k-1)*st) (by omega) (by omega),aK (by omega) (by omega)]
   simp [Cj,c]
 ·cases h)
def ade:List LV→T LV
 | [.v (.agg ⟨[.string _,.int .i64 _,.int .i64 _,.int .i64 mi,.int .i64 ma,.int .i64 st,.int .i64 _,.int .i64 _]⟩),.v (.int .i64 a)]=> .req (a≤9223372036854775807) (.ok (.v (.int .i64 (TY mi ma st a))))
 |_=> .no
noncomputable def qE:List LV→T LV:=gQ Tryz.prog Tryz.f96.params.toList ade
noncomputable def aBH:Specs:=aZ [(28,YK)]
theorem aER:∀g S,aBH g=some S→Valid Tryz.prog aS g S:=aT (l:=[(28,YK)]) ⟨auc,trivial⟩
theorem aoT (nm:ByteArray) (at_ ph mi ma st fb ow a:Int):bV Tryz.prog aS (aBH) dZ aC Tryz.f96 [.v (.agg #[.string nm,.int .i64 at_,.int .i64 ph,.int .i64 mi,.int .i64 ma,.int .i64 st,.int .i64 fb,.int .i64 ow]),.v (.int .i64 a)]=.br (((CW mi ma st)==0) ||(decide (a<0))) (.ok (.v (.int .i64 (-1)))) (.br (decide (a<mi)) (.ok (.v (.int .i64 0))) (.req (st≠0) (.ok (.v (.int .i64 (if (IntKind.i64.wrap ((IntKind.i64.wrap ((IntKind.i64.wrap (a-mi)).tdiv st))+1))<(IntKind.i64.wrap ((CW mi ma st)-1)) then IntKind.i64.wrap ((IntKind.i64.wrap ((IntKind.i64.wrap (a-mi)).tdiv st))+1) else IntKind.i64.wrap ((CW mi ma st)-1))))))):=by kernel_rfl
theorem GN:Valid Tryz.prog aS 96 qE:=aH Tryz.func96 rfl aER aF (aX (by kernel_rfl)) (fun args lv h=>by
 unfold ade at h
 split at h
 ·simp only [canL,canX]
  rw [aoT]
  rename_i mi ma st _ _ a
  obtain ⟨ha,rfl⟩:=h
  have hb:=aiD (mi:=mi) (ma:=ma) (st:=st)
  refine ⟨fun c=>congrArg (fun z=>LV.v (.int .i64 z)) ?_,fun c=>⟨fun c2=>congrArg (fun z=>LV.v (.int .i64 z)) ?_,fun c2=>?_⟩⟩
  ·have c:lU mi ma st=false∨a<0:=by
    simp at c
    rcases c with c|c
    ·left
     cases e:lU mi ma st with
     |false=>rfl
     |true=>have:=Qp e;omega
    ·exact .inr c
   simp only [TY,if_pos c]
  all_goals
   simp at c c2
   have hh:lU mi ma st=true:=by
    cases e:lU mi ma st with
    |true=>rfl
    |false=>exact absurd (TU e) c.1
   have hn:¬(lU mi ma st=false∨a<0):=by simp [hh];omega
   have:=eX.1 hh
  ·simp only [TY,if_neg hn,if_pos c2]
  ·have:=DK (x:=a-mi) (st:=st) (by omega) (by omega)
   refine ⟨by omega,congrArg (fun z=>LV.v (.int .i64 z)) ?_⟩
   rw [aK (x:=a-mi) (by omega) (by omega),Int.tdiv_eq_ediv_of_nonneg (by omega),aK (x:=(a-mi) / st) (by omega) (by omega),aK (x:=(a-mi) / st+1) (by omega) (by omega),aK (x:=CW mi ma st-1) (by omega) (by omega)]
   simp only [TY,if_neg hn,if_neg (show ¬a<mi by omega)]
   split<;>omega
 ·cases h)
end Go.Proofs.YtlihnbimgclogaaGreatDoor
namespace Go.Proofs.YtlihnbimgclogaaGreatDoor
open Go.Sx
def MQ:List LV→T LV
 | [.v (.string w)]=> .ok (.v (.bool (isIn Ey w)))
 |_=> .no
noncomputable def wK:List LV→T LV:=gQ Tryz.prog Tryz.f165.params.toList MQ
noncomputable def XR:Specs:=aZ []
theorem aeP:∀g S,XR g=some S→Valid Tryz.prog aS g S:=aT (l:=[]) trivial
theorem aez (w:ByteArray):bV Tryz.prog aS (XR) dZ aC Tryz.f165 [.v (.string w)]=.br (w.toList==(ByteArray.mk #[108,105,109,105,116]).toList) (.ok (.v (.bool true))) (.br (w.toList==(ByteArray.mk #[110,101,117,116,114,97,108]).toList) (.ok (.v (.bool true))) (.br (w.toList==(ByteArray.mk #[102,117,115,101]).toList) (.ok (.v (.bool true))) (.br (w.toList==(ByteArray.mk #[116,104,101,114,109,97,108]).toList) (.ok (.v (.bool true))) (.br (w.toList==(ByteArray.mk #[102,114,111,109]).toList) (.ok (.v (.bool true))) (.br (w.toList==(ByteArray.mk #[97,116]).toList) (.ok (.v (.bool true))) (.br (w.toList==(ByteArray.mk #[112,104,97,115,101,115]).toList) (.ok (.v (.bool true))) (.br (w.toList==(ByteArray.mk #[97,109,112,115]).toList) (.ok (.v (.bool true))) (.br (w.toList==(ByteArray.mk #[102,97,108,108,98,97,99,107]).toList) (.ok (.v (.bool true))) (.br (w.toList==(ByteArray.mk #[111,119,110,101,114]).toList) (.ok (.v (.bool true))) (.br (w.toList==(ByteArray.mk #[99,97,114,100]).toList) (.ok (.v (.bool true))) (.br (w.toList==(ByteArray.mk #[114,97,110,107]).toList) (.ok (.v (.bool true))) (.br (w.toList==(ByteArray.mk #[99,104,97,114,103,101,114]).toList) (.ok (.v (.bool true))) (.ok (.v (.bool false))))))))))))))):=by kernel_rfl
theorem Rz:Valid Tryz.prog aS 165 wK:=aH Tryz.func165 rfl aeP aF (aX (by kernel_rfl)) (fun args lv h=>by
 unfold MQ at h
 split at h
 ·simp only [canL,canX]
  rw [aez]
  obtain rfl:=h
  simp only [tX]
  unfold isIn Ey
  simp only [List.any_cons,List.any_nil]
  refine ⟨fun c0=>by simp [c0,T.all],fun c0=>?_⟩
  rw [c0,Bool.false_or]
  refine ⟨fun c1=>by simp [c1,T.all],fun c1=>?_⟩
  rw [c1,Bool.false_or]
  refine ⟨fun c2=>by simp [c2,T.all],fun c2=>?_⟩
  rw [c2,Bool.false_or]
  refine ⟨fun c3=>by simp [c3,T.all],fun c3=>?_⟩
  rw [c3,Bool.false_or]
  refine ⟨fun c4=>by simp [c4,T.all],fun c4=>?_⟩
  rw [c4,Bool.false_or]
  refine ⟨fun c5=>by simp [c5,T.all],fun c5=>?_⟩
  rw [c5,Bool.false_or]
  refine ⟨fun c6=>by simp [c6,T.all],fun c6=>?_⟩
  rw [c6,Bool.false_or]
  refine ⟨fun c7=>by simp [c7,T.all],fun c7=>?_⟩
  rw [c7,Bool.false_or]
  refine ⟨fun c8=>by simp [c8,T.all],fun c8=>?_⟩
  rw [c8,Bool.false_or]
  refine ⟨fun c9=>by simp [c9,T.all],fun c9=>?_⟩
  rw [c9,Bool.false_or]
  refine ⟨fun c10=>by simp [c10,T.all],fun c10=>?_⟩
  rw [c10,Bool.false_or]
  refine ⟨fun c11=>by simp [c11,T.all],fun c11=>?_⟩
  rw [c11,Bool.false_or]
  refine ⟨fun c12=>by simp [c12,T.all],fun c12=>?_⟩
  rw [c12,Bool.false_or]
  rfl
 ·cases h)
def Vg:List LV→T LV
 | [.v (.string w)]=> .ok (.v (.bool (isIn oN w)))
 |_=> .no
noncomputable def CO:List LV→T LV:=gQ Tryz.prog Tryz.f166.params.toList Vg
theorem air (w:ByteArray):bV Tryz.prog aS (XR) dZ aC Tryz.f166 [.v (.string w)]=.br (w.toList==(ByteArray.mk #[115,116,97,114,116]).toList) (.ok (.v (.bool true))) (.br (w.toList==(ByteArray.mk #[101,110,101,114,103,121]).toList) (.ok (.v (.bool true))) (.br (w.toList==(ByteArray.mk #[116,105,109,101]).toList) (.ok (.v (.bool true))) (.br (w.toList==(ByteArray.mk #[105,100,108,101]).toList) (.ok (.v (.bool true))) (.br (w.toList==(ByteArray.mk #[99,97,112]).toList) (.ok (.v (.bool true))) (.br (w.toList==(ByteArray.mk #[116,97,120]).toList) (.ok (.v (.bool true))) (.ok (.v (.bool false)))))))):=by kernel_rfl
theorem Zj:Valid Tryz.prog aS 166 CO:=aH Tryz.func166 rfl aeP aF (aX (by kernel_rfl)) (fun args lv h=>by
 unfold Vg at h
 split at h
 ·simp only [canL,canX]
  rw [air]
  obtain rfl:=h
  simp only [tX]
  unfold isIn oN
  simp only [List.any_cons,List.any_nil]
  refine ⟨fun c0=>by simp [c0,T.all],fun c0=>?_⟩
  rw [c0,Bool.false_or]
  refine ⟨fun c1=>by simp [c1,T.all],fun c1=>?_⟩
  rw [c1,Bool.false_or]
  refine ⟨fun c2=>by simp [c2,T.all],fun c2=>?_⟩
  rw [c2,Bool.false_or]
  refine ⟨fun c3=>by simp [c3,T.all],fun c3=>?_⟩
  rw [c3,Bool.false_or]
  refine ⟨fun c4=>by simp [c4,T.all],fun c4=>?_⟩
  rw [c4,Bool.false_or]
  refine ⟨fun c5=>by simp [c5,T.all],fun c5=>?_⟩
  rw [c5,Bool.false_or]
  rfl
 ·cases h)
def Ve:List LV→T LV
 | [.v (.string w)]=> .ok (.v (.bool (isIn words w)))
 |_=> .no
noncomputable def CJ:List LV→T LV:=gQ Tryz.prog Tryz.f169.params.toList Ve
theorem aip (w:ByteArray):bV Tryz.prog aS (XR) dZ aC Tryz.f169 [.v (.string w)]=.br (w.toList==(ByteArray.mk #[111,110]).toList) (.ok (.v (.bool true))) (.br (w.toList==(ByteArray.mk #[119,111,114,107]).toList) (.ok (.v (.bool true))) (.br (w.toList==(ByteArray.mk #[115,97,116,117,114,100,97,121]).toList) (.ok (.v (.bool true))) (.br (w.toList==(ByteArray.mk #[115,117,110,100,97,121]).toList) (.ok (.v (.bool true))) (.br (w.toList==(ByteArray.mk #[98,101,116,119,101,101,110]).toList) (.ok (.v (.bool true))) (.br (w.toList==(ByteArray.mk #[112,101,114]).toList) (.ok (.v (.bool true))) (.br (w.toList==(ByteArray.mk #[102,114,101,101]).toList) (.ok (.v (.bool true))) (.ok (.v (.bool false))))))))):=by kernel_rfl
theorem Zi:Valid Tryz.prog aS 169 CJ:=aH Tryz.func169 rfl aeP aF (aX (by kernel_rfl)) (fun args lv h=>by
 unfold Ve at h
 split at h
 ·simp only [canL,canX]
  rw [aip]
  obtain rfl:=h
  simp only [tX]
  unfold isIn words
  simp only [List.any_cons,List.any_nil]
  refine ⟨fun c0=>by simp [c0,T.all],fun c0=>?_⟩
  rw [c0,Bool.false_or]
  refine ⟨fun c1=>by simp [c1,T.all],fun c1=>?_⟩
  rw [c1,Bool.false_or]
  refine ⟨fun c2=>by simp [c2,T.all],fun c2=>?_⟩
  rw [c2,Bool.false_or]
  refine ⟨fun c3=>by simp [c3,T.all],fun c3=>?_⟩
  rw [c3,Bool.false_or]
  refine ⟨fun c4=>by simp [c4,T.all],fun c4=>?_⟩
  rw [c4,Bool.false_or]
  refine ⟨fun c5=>by simp [c5,T.all],fun c5=>?_⟩
  rw [c5,Bool.false_or]
  refine ⟨fun c6=>by simp [c6,T.all],fun c6=>?_⟩
  rw [c6,Bool.false_or]
  rfl
 ·cases h)
def adi:List LV→T LV
 | [.v (.string w)]=> .ok (.v (.int .i64 (aeJ 1 kinds w)))
 |_=> .no
noncomputable def YO:List LV→T LV:=gQ Tryz.prog Tryz.f168.params.toList adi
theorem aoX (w:ByteArray):bV Tryz.prog aS (XR) dZ aC Tryz.f168 [.v (.string w)]=.br (w.toList==(ByteArray.mk #[102,101,101,100,101,114]).toList) (.ok (.v (.int .i64 1))) (.br (w.toList==(ByteArray.mk #[99,97,98,108,101]).toList) (.ok (.v (.int .i64 2))) (.br (w.toList==(ByteArray.mk #[111,119,110,101,114]).toList) (.ok (.v (.int .i64 3))) (.br (w.toList==(ByteArray.mk #[99,111,110,116,114,97,99,116]).toList) (.ok (.v (.int .i64 4))) (.br (w.toList==(ByteArray.mk #[99,104,97,114,103,101,114]).toList) (.ok (.v (.int .i64 5))) (.br (w.toList==(ByteArray.mk #[98,97,121]).toList) (.ok (.v (.int .i64 6))) (.br (w.toList==(ByteArray.mk #[116,97,114,105,102,102]).toList) (.ok (.v (.int .i64 7))) (.ok (.v (.int .i64 0))))))))):=by kernel_rfl
theorem aug:Valid Tryz.prog aS 168 YO:=aH Tryz.func168 rfl aeP aF (aX (by kernel_rfl)) (fun args lv h=>by
 unfold adi at h
 split at h
 ·simp only [canL,canX]
  rw [aoX]
  obtain rfl:=h
  simp only [tX]
  simp only [aeJ,kinds]
  refine ⟨fun c0=>by rw [if_pos c0];rfl,fun c0=>?_⟩
  rw [if_neg (by simp [c0])]
  refine ⟨fun c1=>by rw [if_pos c1];rfl,fun c1=>?_⟩
  rw [if_neg (by simp [c1])]
  refine ⟨fun c2=>by rw [if_pos c2];rfl,fun c2=>?_⟩
  rw [if_neg (by simp [c2])]
  refine ⟨fun c3=>by rw [if_pos c3];rfl,fun c3=>?_⟩
  rw [if_neg (by simp [c3])]
  refine ⟨fun c4=>by rw [if_pos c4];rfl,fun c4=>?_⟩
  rw [if_neg (by simp [c4])]
  refine ⟨fun c5=>by rw [if_pos c5];rfl,fun c5=>?_⟩
  rw [if_neg (by simp [c5])]
  refine ⟨fun c6=>by rw [if_pos c6];rfl,fun c6=>?_⟩
  rw [if_neg (by simp [c6])]
  rfl
 ·cases h)
def Vf:List LV→T LV
 | [.v (.string w)]=> .ok (.v (.bool (FW w)))
 |_=> .no
noncomputable def QY:List LV→T LV:=gQ Tryz.prog Tryz.f164.params.toList Vf
noncomputable def aBG:Specs:=aZ [(165,wK),(166,CO),(168,YO),(169,CJ)]
theorem aEQ:∀g S,aBG g=some S→Valid Tryz.prog aS g S:=aT (l:=[(165,wK),(166,CO),(168,YO),(169,CJ)]) ⟨Rz,Zj,aug,Zi,trivial⟩
theorem aiq (w:ByteArray):bV Tryz.prog aS (aBG) dZ aC Tryz.f164 [.v (.string w)]=.ok (.v (.bool (((aeJ 1 kinds w) !=0) ||((isIn Ey w) ||((isIn oN w) ||(isIn words w)))))):=by kernel_rfl
theorem al2:Valid Tryz.prog aS 164 QY:=aH Tryz.func164 rfl aEQ aF (aX (by kernel_rfl)) (fun args lv h=>by
 unfold Vf at h
 split at h
 ·simp only [canL,canX]
  rw [aiq]
  obtain rfl:=h
  show LV.v (.bool _)=_
  rw [Ud 1 kinds _ (by decide)]
  rfl
 ·cases h)
structure wP where
 text:ByteArray
 r:Bool
 i:Int
def aFc (s:wP):List LV:=[.v (.string s.text),.v (.bool s.r),.v (.int .i64 s.i)]
def aE4 (_:wP):List aU:=[]
noncomputable def Gx:Code:=((aB (Tryz.f163.body.getD .skip))[0]?).getD .skip
def amb (s:wP):T (Rd wP):=
 .br (decide (s.i<(s.text.size:Int))) (.req (0≤s.i∧s.i<(s.text.size:Int)) (.br (if decide ((sD s.text s.i)≥97) then !(decide ((sD s.text s.i)≤122))&&(if decide ((sD s.text s.i)≥48) then !(decide ((sD s.text s.i)≤57))&&(!((sD s.text s.i)==95)) else !((sD s.text s.i)==95)) else if decide ((sD s.text s.i)≥48) then !(decide ((sD s.text s.i)≤57))&&(!((sD s.text s.i)==95)) else !((sD s.text s.i)==95)) (.ok (.stop (.ret) {s with r:=false})) (.ok (.next {s with i:=(IntKind.i64.wrap (s.i+1))})))) (.ok (.stop (.exit 0) s))
abbrev aBN (s:wP):=(amb s).rd s
def KP (s:wP) (j:Int):Bool:=decide (j<1) ||(chB (sD s.text j))
def aqW (s:wP):Prop:=s.i=1∧1≤(s.text.size:Int)∧(s.text.size:Int)≤1000∧True
def ae7 (s:wP):Prop:=1≤s.i∧s.i≤(s.text.size:Int)∧(s.text.size:Int)≤1000∧(True)∧∀j:Nat,(j:Int)<s.i→KP s j=true
def aaO (s:wP):Nat:=((s.text.size:Int)-s.i).toNat
def ayh (x:Ex) (_ s':wP):Prop:=(x=.exit 0∧∀j:Nat,(j:Int)<(s'.text.size:Int)→KP s' j=true)∨(x=.ret∧s'.r=false∧∃j:Nat,(j:Int)<(s'.text.size:Int)∧KP s' j=false)
theorem aEN:∀s,aqW s→ae7 s:=by
 intro s h
 obtain ⟨h0,h1,h2,h3⟩:=h
 exact ⟨by omega,by omega,h2,h3,fun j hj=>by unfold KP;rw [decide_eq_true (by omega)];rfl⟩
theorem aBl (s:wP) (hI:ae7 s):bJ (fun s'=>ae7 s'∧aaO s'<aaO s) (fun x s'=>ayh x s s') (aBN s):=by
 unfold aBN amb
 dsimp only [T.rd,T.rl]
 obtain ⟨h0,h1,h2,h3,h4⟩:=hI
 refine au (fun c1=>au (fun c2=>?_) (fun c2=>?_)) (fun c1=>?_)
 ·have c1:s.i<(s.text.size:Int):=by simpa using c1
  refine .inr ⟨rfl,rfl,s.i.toNat,by simp only;omega,?_⟩
  rw [Int.toNat_of_nonneg (by omega)]
  have hg:KP s s.i=false:=by unfold KP;(simp only [show decide (s.i<1)=false from decide_eq_false (by omega),Bool.false_or];(simp only [chB,chA];revert c2;generalize sD s.text s.i=b;intro c2;by_cases h1:b≥97<;>by_cases h2:b≤122<;>by_cases h3:b≥48<;>by_cases h4:b≤57<;>simp_all))
  exact hg
 ·have c1:s.i<(s.text.size:Int):=by simpa using c1
  have hg:KP s s.i=true:=by unfold KP;(simp only [show decide (s.i<1)=false from decide_eq_false (by omega),Bool.false_or];(simp only [chB,chA];revert c2;generalize sD s.text s.i=b;intro c2;by_cases h1:b≥97<;>by_cases h2:b≤122<;>by_cases h3:b≥48<;>by_cases h4:b≤57<;>simp_all))
  rw [aK (x:=s.i+1) (by omega) (by omega)]
  refine ⟨⟨by simp only;omega,by simp only;omega,h2,h3,fun j hj=>?_⟩,by simp only [aaO];omega⟩
  by_cases hji:(j:Int)<s.i
  ·exact h4 j hji
  ·have:(j:Int)=s.i:=by simp only at hj;omega
   rw [this];exact hg
 ·have c1:(s.text.size:Int)≤s.i:=by simpa using c1
  exact .inl ⟨rfl,fun j hj=>h4 j (by omega)⟩
def VU:bM wP:=⟨0,51,[0,2,3],[],aFc,aE4,fun v _=>⟨gSr (v.getD 0 .junk),vF (v.getD 1 .junk),gI (v.getD 2 .junk)⟩,amb,fun s r=> {r with text:=s.text},fun s=>s,fun _ s=>s,[.ret,.exit 0],aqW,ae7,aaO⟩
abbrev OG:=VU.run
abbrev ajQ:=VU.jJ
abbrev aCl:=VU.q
theorem aAd (s:wP) (hI:ae7 s):(amb s).all (fun _=>True):=by
 refine ⟨fun c1=>⟨?_,fun _=>trivial,fun _=>trivial⟩,fun _=>trivial⟩
 ·(obtain ⟨h0,h1,h2,h3,h4⟩:=hI;simp at c1;omega)
theorem arp:VU.Ok:=⟨fun s=>by kernel_rfl,fun s=>by kernel_rfl,fun s=>rfl,fun s t r=>rfl,fun s=>rfl,fun s=>by kernel_rfl⟩
theorem arf:VU.Pf (ayh):=⟨aEN,fun _ _=>rfl,aBl,aAd⟩
theorem auM:bg Tryz.prog aS (AN 0) (.loop Gx) VU.lp:=bM.snd arp arf (aP (Γ:=XR) (K:=dZ) (L:=aC) aeP aF Gx (fun b hb=>by rw [show aB Gx=[] by kernel_rfl] at hb;cases hb)) (fun s=>by kernel_rfl)
theorem axh (s:wP) (hE:aqW s):∃s',ae7 s'∧ayh (ajQ s) s' (OG s):=bM.fin arp arf s hE
def Vk:List LV→T LV
 | [.v (.string w)]=> .ok (.v (.bool (gwB w)))
 |_=> .no
noncomputable def Q5:List LV→T LV:=gQ Tryz.prog Tryz.f163.params.toList Vk
theorem aiu (w:ByteArray):bV Tryz.prog aS (XR) dZ (fun i=>if i=4 then VU.lp else aC i) Tryz.f163 [.v (.string w)]=.br (decide ((w.size:Int)<1)) (.ok (.v (.bool false))) (.br (decide ((w.size:Int)>12)) (.ok (.v (.bool false))) (.req (0≤(0:Int)∧(0:Int)<(w.size:Int)) (.br (decide ((sD w (0:Int))<97)) (.ok (.v (.bool false))) (.req (0≤(0:Int)∧(0:Int)<(w.size:Int)) (.br (decide ((sD w (0:Int))>122)) (.ok (.v (.bool false))) (.req (aCl (⟨w,false,(1:Int)⟩:wP)) (.br (iG (ajQ (⟨w,false,(1:Int)⟩:wP)) (.ret)) (.ok (.v (.bool (OG (⟨w,false,(1:Int)⟩:wP)).r))) (.ok (.v (.bool true)))))))))):=by kernel_rfl
theorem al4:Valid Tryz.prog aS 163 Q5:=aH Tryz.func163 rfl aeP aF (L:=(fun i=>if i=4 then VU.lp else aC i)) (fun b hb=>by
 rw [show aB _=[Gx] by kernel_rfl] at hb
 simp only [List.mem_cons,List.not_mem_nil,or_false] at hb
 subst hb
 exact auM) (fun args lv h=>by
 unfold Vk at h
 split at h
 ·simp only [canL,canX]
  rw [aiu]
  rename_i w
  obtain rfl:=h
  have bad:¬(((1≤w.size∧w.size≤12)∧(97≤sD w 0∧sD w 0≤122)))→LV.v (.bool false)=LV.v (.bool (gwB w)):=fun hn=>congrArg (fun z=>LV.v (.bool z)) (by
   rw [eq_comm,Bool.eq_false_iff];intro h
   simp only [gwB,chA,Bool.and_eq_true,decide_eq_true_eq] at h
   exact hn ⟨h.1,by omega,by omega⟩)
  refine ⟨fun c=>bad (by simp at c;omega),fun c=>⟨fun c2=>bad (by simp at c2;omega),fun c2=>⟨by simp at c;omega,fun c3=>bad (by simp at c3;omega),fun c3=>⟨by simp at c;omega,fun c4=>bad (by simp at c4;omega),fun c4=>?_⟩⟩⟩⟩
  simp only [decide_eq_false_iff_not] at c c2 c3 c4
  have hE:aqW ⟨w,false,1⟩:=⟨rfl,by simp only;omega,by simp only;omega,trivial⟩
  have key:gwB w=(List.range w.size).all fun i=>i==0 ||chB (sD w i):=by
   simp only [gwB,chA]
   rw [decide_eq_true (by omega),decide_eq_true (by omega),decide_eq_true (by omega)]
   rfl
  obtain ⟨s',_,hq⟩:=axh _ hE
  refine ⟨⟨hE,rfl,rfl⟩,?_⟩
  rw [key]
  rcases hq with ⟨h1,h2⟩ |⟨h1,h2,j,h3,h4⟩
  ·rw [h1]
   refine ⟨fun h=>(by cases h),fun _=>congrArg (fun z=>LV.v (.bool z)) ?_⟩
   rw [eq_comm,List.all_eq_true]
   intro i hi
   have:=h2 i (by show (i:Int)<(w.size:Int);have:=List.mem_range.1 hi;omega)
   simp only [KP] at this
   rw [show (OG ⟨w,false,1⟩).text=w from rfl] at this
   rw [Bool.or_eq_true] at this
   rcases this with h|h
   ·have:i=0:=by simp at h;omega
    simp [this]
   ·rw [h];simp
  ·rw [h1,h2]
   refine ⟨fun _=>congrArg (fun z=>LV.v (.bool z)) ?_,fun h=>by cases h⟩
   rw [eq_comm,Bool.eq_false_iff]
   intro hx
   rw [List.all_eq_true] at hx
   have h3:(j:Int)<(w.size:Int):=h3
   have:=hx j (List.mem_range.2 (by omega))
   simp only [KP] at h4
   rw [show (OG ⟨w,false,1⟩).text=w from rfl] at h4
   rw [Bool.or_eq_false_iff] at h4
   have h5:=h4.1
   simp at h5
   rw [h4.2] at this
   simp at this
   omega
 ·cases h)
def Vl:List LV→T LV
 | [.v (.string w)]=> .ok (.v (.bool (nameB w)))
 |_=> .no
noncomputable def Q7:List LV→T LV:=gQ Tryz.prog Tryz.f159.params.toList Vl
noncomputable def aBF:Specs:=aZ [(163,Q5),(164,QY)]
theorem aEP:∀g S,aBF g=some S→Valid Tryz.prog aS g S:=aT (l:=[(163,Q5),(164,QY)]) ⟨al4,al2,trivial⟩
theorem aiv (w:ByteArray):bV Tryz.prog aS (aBF) dZ aC Tryz.f159 [.v (.string w)]=.ok (.v (.bool ((gwB w)&&(!(FW w))))):=by kernel_rfl
theorem al5:Valid Tryz.prog aS 159 Q7:=aH Tryz.func159 rfl aEP aF (aX (by kernel_rfl)) (fun args lv h=>by
 unfold Vl at h
 split at h
 ·simp only [canL,canX]
  rw [aiv]
  exact h
 ·cases h)
def ado:List LV→T LV
 | [.v (.string w)]=> .ok (.v (.bool (nameB w)))
 |_=> .no
noncomputable def YS:List LV→T LV:=gQ Tryz.prog Tryz.f99.params.toList ado
noncomputable def apG:Specs:=aZ [(159,Q7),(165,wK),(166,CO),(169,CJ)]
theorem axn:∀g S,apG g=some S→Valid Tryz.prog aS g S:=aT (l:=[(159,Q7),(165,wK),(166,CO),(169,CJ)]) ⟨al5,Rz,Zj,Zi,trivial⟩
noncomputable def aBk:Hand:=inl Tryz.prog aS apG (lX Tryz.prog aS (apG) 20 2) 9
theorem aEM:dF Tryz.prog aS aBk:=bQ axn (dQ axn) 9
theorem ao2 (w:ByteArray):bV Tryz.prog aS (apG) aBk aC Tryz.f99 [.v (.string w)]=.br (((1:Int) !=1) ||((!(ByteArray.empty.toList==(ByteArray.mk #[]).toList)) ||((0:Int) !=0))) (.ok (.v (.bool false))) (.br (((2:Int) !=2) ||((decide ((3:Int)<1)) ||((decide ((3:Int)>7)) ||(!(nameB w))))) (.br (!false) (.ok (.v (.bool false))) (.ok (.v (.bool true)))) (.br (!true) (.ok (.v (.bool false))) (.ok (.v (.bool true))))):=by kernel_rfl
theorem auk:Valid Tryz.prog aS 99 YS:=aH Tryz.func99 rfl axn aEM (aX (by kernel_rfl)) (fun args lv h=>by
 unfold ado at h
 split at h
 ·simp only [canL,canX]
  rw [ao2]
  rename_i w
  obtain rfl:=h
  refine ⟨fun c=>?_,fun _=>?_⟩
  ·exfalso
   rw [tX] at c
   revert c
   decide
  ·cases nameB w<;>simp [T.all]
 ·cases h)
end Go.Proofs.YtlihnbimgclogaaGreatDoor
namespace Go.Proofs.YtlihnbimgclogaaGreatDoor
open Go.Sx
def Vj:List LV→T LV
 | [.v (.agg ⟨[.int .i64 a,.int .i64 b]⟩),.v (.int .i64 n)]=> .ok (.v (.bool (inB n a b)))
 |_=> .no
noncomputable def uN:List LV→T LV:=gQ Tryz.prog Tryz.f127.params.toList Vj
noncomputable def apF:Specs:=aZ []
theorem axm:∀g S,apF g=some S→Valid Tryz.prog aS g S:=aT (l:=[]) trivial
theorem ait (a b n:Int):bV Tryz.prog aS (apF) dZ aC Tryz.f127 [.v (.agg #[.int .i64 a,.int .i64 b]),.v (.int .i64 n)]=.ok (.v (.bool ((decide (n≥a))&&(decide (n≤b))))):=by kernel_rfl
theorem Oj:Valid Tryz.prog aS 127 uN:=aH Tryz.func127 rfl axm aF (aX (by kernel_rfl)) (fun args lv h=>by
 unfold Vj at h
 split at h
 ·simp only [canL,canX]
  rw [ait]
  exact h
 ·cases h)
def adp:List LV→T LV
 | [.v (.agg ⟨[.int .i64 am,.int .i64 mo,.int .i64 _,.int .i64 _,.int .i64 _]⟩)]=> .ok (.v (.bool (decide (mo>am))))
 |_=> .no
noncomputable def YT:List LV→T LV:=gQ Tryz.prog Tryz.f150.params.toList adp
theorem ao3 (am mo ga lo de:Int):bV Tryz.prog aS (apF) dZ aC Tryz.f150 [.v (.agg #[.int .i64 am,.int .i64 mo,.int .i64 ga,.int .i64 lo,.int .i64 de])]=.ok (.v (.bool (decide (mo>am)))):=by kernel_rfl
theorem aul:Valid Tryz.prog aS 150 YT:=aH Tryz.func150 rfl axm aF (aX (by kernel_rfl)) (fun args lv h=>by
 unfold adp at h
 split at h
 ·simp only [canL,canX]
  rw [ao3]
  exact h
 ·cases h)
def adq:List LV→T LV
 | [.v (.agg ⟨[.string _,.int .i64 _,.int .i64 _,.int .i64 mi,.int .i64 ma,.int .i64 _,.int .i64 fb,.int .i64 _]⟩)]=> .ok (.v (.bool (decide (mi≤ma)&&((fb==0) ||inB fb mi ma))))
 |_=> .no
noncomputable def YU:List LV→T LV:=gQ Tryz.prog Tryz.f151.params.toList adq
theorem ao4 (nm:ByteArray) (at_ ph mi ma st fb ow:Int):bV Tryz.prog aS (apF) dZ aC Tryz.f151 [.v (.agg #[.string nm,.int .i64 at_,.int .i64 ph,.int .i64 mi,.int .i64 ma,.int .i64 st,.int .i64 fb,.int .i64 ow])]=.ok (.v (.bool ((decide (mi≤ma))&&((fb==0) ||((decide (fb≥mi))&&(decide (fb≤ma))))))):=by kernel_rfl
theorem aum:Valid Tryz.prog aS 151 YU:=aH Tryz.func151 rfl axm aF (aX (by kernel_rfl)) (fun args lv h=>by
 unfold adq at h
 split at h
 ·simp only [canL,canX]
  rw [ao4]
  exact h
 ·cases h)
def acJ:List LV→T LV
 | [.v (.agg ⟨[.string nm,.int .i64 uQ,.int .i64 li,.int .i64 ne,.int .i64 ra,.int .i64 he,.int .i64 am,.int .i64 mo,.int .i64 ga,.int .i64 lo,.int .i64 de]⟩),.v (.int .i64 i)]=> .req (0≤i) (.ok (.v (.bool (Ew i (nm,uQ,li,ne,(ra,he),am,mo,ga,lo,de)))))
 |_=> .no
noncomputable def Yr:List LV→T LV:=gQ Tryz.prog Tryz.f126.params.toList acJ
noncomputable def asz:Specs:=aZ [(127,uN),(150,YT)]
theorem aBD:∀g S,asz g=some S→Valid Tryz.prog aS g S:=aT (l:=[(127,uN),(150,YT)]) ⟨Oj,aul,trivial⟩
theorem aoq (nm:ByteArray) (uQ li ne ra he am mo ga lo de i:Int):bV Tryz.prog aS (asz) dZ aC Tryz.f126 [.v (.agg #[.string nm,.int .i64 uQ,.int .i64 li,.int .i64 ne,.int .i64 ra,.int .i64 he,.int .i64 am,.int .i64 mo,.int .i64 ga,.int .i64 lo,.int .i64 de]),.v (.int .i64 i)]=.br (if i==0 then (uQ !=(-1)) ||((decide (i>0))&&((decide (uQ<0)) ||(decide (uQ≥i)))) else (decide (i>0))&&((decide (uQ<0)) ||(decide (uQ≥i)))) (.ok (.v (.bool false))) (.br ((!(inB li (1:Int) (1000:Int))) ||(!(inB ne (1:Int) (1000:Int)))) (.ok (.v (.bool false))) (.br ((!((ra==0)&&(he==0)))&&(!(inB ra (1:Int) (1000:Int)) ||(!(inB he (0:Int) (1000000:Int))))) (.ok (.v (.bool false))) (.br ((am==0)&&((mo==0)&&((ga==0)&&((lo==0)&&(de==0))))) (.ok (.v (.bool true))) (.ok (.v (.bool ((inB am (0:Int) (200000:Int))&&((inB mo (0:Int) (200000:Int))&&((inB ga (0:Int) (1000:Int))&&((inB lo (0:Int) (1000:Int))&&((inB de (1:Int) (1000000:Int))&&(decide (mo>am))))))))))))):=by kernel_rfl
theorem atM:Valid Tryz.prog aS 126 Yr:=aH Tryz.func126 rfl aBD aF (aX (by kernel_rfl)) (fun args lv h=>by
 unfold acJ at h
 split at h
 ·simp only [canL,canX]
  rw [aoq]
  obtain ⟨hi,h⟩:=h
  exact axY (K:=fun z=>LV.v (.bool z)=lv) hi h
 ·cases h)
def acK:List LV→T LV
 | [.agg [.xl (.pair .str (.pair (.int .i64) (.pair (.int .i64) (.pair (.int .i64) (.pair (.pair (.int .i64) (.int .i64)) (.pair (.int .i64) (.pair (.int .i64) (.pair (.int .i64) (.pair (.int .i64) (.int .i64)))))))))) cs,.xl (.str) os,.xl (.pair .str (.pair (.int .i64) (.pair (.int .i64) (.int .i64)))) _,.xl (.pair .str (.pair (.int .i64) (.pair (.int .i64) (.pair (.int .i64) (.pair (.int .i64) (.pair (.int .i64) (.pair (.int .i64) (.int .i64)))))))) _,.xl (.pair .str (.int .i64)) _],.v (.agg ⟨[.string nm,.int .i64 at_,.int .i64 ph,.int .i64 mi,.int .i64 ma,.int .i64 st,.int .i64 fb,.int .i64 ow]⟩)]=> .req ((List.length cs:Int)≤1000∧(List.length os:Int)≤1000) (.ok (.v (.bool (Gt cs.length os.length (nm,at_,ph,mi,ma,st,fb,ow)))))
 |_=> .no
noncomputable def Yt:List LV→T LV:=gQ Tryz.prog Tryz.f128.params.toList acK
noncomputable def asy:Specs:=aZ [(127,uN),(151,YU)]
end Go.Proofs.YtlihnbimgclogaaGreatDoor
