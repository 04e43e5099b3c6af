/- Helpers for ControlMatchesReference. Conditions: none. -/
import Derived.Test.YtlihnbimgclogaaGreatDoorQk2
noncomputable section
namespace Go.Proofs.YtlihnbimgclogaaGreatDoor
open Go.Sx
theorem wO {l:List Int}{n:Nat}:oh l n=true↔l.length=n∧l.Nodup∧∀i∈l,0≤i∧i<(n:Int):=by
 unfold oh;simp only [Bool.and_eq_true,decide_eq_true_eq,List.all_eq_true,Dy,abT]
 constructor
 ·rintro ⟨h1,h2,h3⟩;exact ⟨by omega,h3,h2⟩
 ·rintro ⟨h1,h2,h3⟩;exact ⟨by omega,h3,h2⟩
theorem QS {l:List Int}{n:Nat}(h:oh l n=true) {i:Int}(h0:0≤i) (h1:i<(n:Int)):i∈l:=by
 obtain ⟨g1,g2,g3⟩:=wO.1 h;exact (uf g2 (l:=abv n) (λx hx=>Dx.2 (g3 x hx)) (by rw [H6];exact g1)).2 i (Dx.2 ⟨h0,h1⟩)
theorem agA {l:List Int}{n:Nat}:ak5 l n=oh l n:=by
 rw [Bool.eq_iff_iff,wO];unfold ak5;simp only [Bool.and_eq_true,decide_eq_true_eq,gm,Int.toNat_natCast,List.contains_iff_mem]
 constructor
 ·rintro ⟨h1,h2⟩
  have hl:l.length=n:=by omega
  obtain ⟨c1,c2⟩:=uf abu (l:=l) (r:=abv n) (λx hx=>by
   have:=Dx.1 hx
   have h:=h2 x.toNat (by omega)
   rwa [Int.toNat_of_nonneg this.1] at h) (by rw [H6];exact hl.symm)
  exact ⟨hl,c1,λi hi=>Dx.1 (c2 i hi)⟩
 ·rintro ⟨h1,h2,h3⟩
  refine ⟨by omega,λj hj=>?_⟩
  exact QS (wO.2 ⟨h1,h2,h3⟩) (by omega) hj
def smM (al am ms:List Int):Int:=(ms.map (λm=>mx (gi al m) (gi am m))).sum
def rowB (al am:List Int) (r:Rw):Bool:=r.2.all (λm=>gi am m==0) ||decide (smM al am r.2≤r.1)
def Be (rows:List Rw) (al am:List Int):Bool:=rows.all (rowB al am)
def LC (al am:List Int) (r:Rw):Prop:=(r.2.length:Int)≤1000∧(∀m∈r.2,0≤m∧m<(al.length:Int)∧m<(am.length:Int))∧(∀a∈al,0≤a∧a≤1000000)∧∀a∈am,0≤a∧a≤1000000
theorem wG {al am ms:List Int}{m:Int}:smM al am (m::ms)=mx (gi al m) (gi am m)+smM al am ms:=by simp [smM]
theorem aML {a b:Int}(ha:0≤a∧a≤1000000) (hb:0≤b∧b≤1000000):0≤mx a b∧mx a b≤1000000:=by
 unfold mx;split<;>omega
theorem nt {b:Bool}(h:(!b)=true):b=false:=by cases b<;>simp_all
theorem nf {b:Bool}(h:(!b)=false):b=true:=by cases b<;>simp_all
def uy (gs:List Ch) (i k:Int):Int:=P9 (bG gs i).2.2.2.1 (bG gs i).2.2.2.2.1 (bG gs i).2.2.2.2.2.1 k
def Ol (gs:List Ch) (i k:Int):Int:=amE (bG gs i).2.2.2.1 (bG gs i).2.2.2.2.1 (bG gs i).2.2.2.2.2.1 k
theorem adE {mi ma st k:Int}:0≤P9 mi ma st k∧P9 mi ma st k≤6480:=by
 unfold P9;split
 ·omega
 ·have hb:=VX (mi:=mi) (ma:=ma) (st:=st)
  have hh:=fZ.1 (aqZ (mi:=mi) (ma:=ma) (st:=st) (k:=k) (by omega) (by omega))
  exact adD (by omega) (by omega) (by omega)
structure aam (rows:List Rw) (gs:List Ch) (al mo od:List Int):Prop where
 ol:(od.length:Int)≤1000
 ord:∀i∈od,0≤i∧i<(gs.length:Int)
 rl:(rows.length:Int)≤1000
 all:al.length=gs.length
 mol:mo.length=gs.length
 row:∀r∈rows,(r.2.length:Int)≤1000∧∀m∈r.2,0≤m∧m<(gs.length:Int)
 al:∀a∈al,0≤a∧a≤1000000
structure FZ (gs:List Ch) (out:List Int):Prop where
 len:out.length=gs.length
 bd:∀a∈out,0≤a∧a≤1000000
theorem aam.LC {rows:List Rw}{gs:List Ch}{al mo od out:List Int}(h:aam rows gs al mo od) (ho:FZ gs out):∀r∈rows,LC al out r:=λr hr=>
 ⟨(h.row r hr).1,λm hm=>by
  have:=(h.row r hr).2 m hm
  have:=h.all
  have:=ho.len
  omega,h.al,ho.bd⟩
theorem FZ.put {gs:List Ch}{out:List Int}(h:FZ gs out) {k:Nat}{v:Int}(hv:0≤v∧v≤1000000):FZ gs (out.set k v):=
 ⟨by rw [List.length_set];exact h.len,λa ha=>by
  rcases List.mem_or_eq_of_mem_set ha with h2|h2
  ·exact h.bd a h2
  ·rw [h2];exact hv⟩
def rfS (rows:List Rw) (gs:List Ch) (al mo:List Int) (level:Int) (out:List Int) (i:Int):List Int:=
 if (Ol gs i level !=0)=true then out else
 if (decide (uy gs i level>gi mo i) ||(out.getD i.toNat 0 !=uy gs i (level-1)))=true then out else
 if Be rows al (out.set i.toNat (uy gs i level))=true then out.set i.toNat (uy gs i level) else out
theorem aGS {rows:List Rw}{gs:List Ch}{al mo out:List Int}{level i:Int}(h:FZ gs out):FZ gs (rfS rows gs al mo level out i):=by
 unfold rfS;split
 ·exact h
 ·split
  ·exact h
  ·split
   ·have:=adE (mi:=(bG gs i).2.2.2.1) (ma:=(bG gs i).2.2.2.2.1) (st:=(bG gs i).2.2.2.2.2.1) (k:=level)
    exact h.put (by unfold uy;omega)
   ·exact h
def Xi (rows:List Rw) (gs:List Ch) (al mo:List Int) (level:Int) (out l:List Int):List Int:=l.foldl (rfS rows gs al mo level) out
theorem anc {rows:List Rw}{gs:List Ch}{al mo:List Int}{level:Int}:∀ {l out:List Int},FZ gs out→FZ gs (Xi rows gs al mo level out l)
 | [],_,h=>h
 |_::l,_,h=>anc (l:=l) (aGS h)
theorem yY {rows:List Rw}{gs:List Ch}{al mo out l:List Int}{level i:Int}:Xi rows gs al mo level out (i::l)=Xi rows gs al mo level (rfS rows gs al mo level out i) l:=rfl
def rfL (rows:List Rw) (gs:List Ch) (al mo od:List Int):Nat→Int→List Int→List Int
 |0,_,out=>out
 |f+1,level,out=>rfL rows gs al mo od f (level+1) (Xi rows gs al mo level out od)
def rfO (rows:List Rw) (gs:List Ch) (al mo od:List Int):List Int:=rfL rows gs al mo od 80 1 (List.replicate gs.length 0)
theorem YH {out:List Int}{k:Nat}{v:Int}(h:k<out.length):(out.set k v).set k (out.getD k 0)=out:=by
 rw [List.set_set,List.getD_eq_getElem?_getD,List.getElem?_eq_getElem h,Option.getD_some,List.set_getElem_self]
theorem aGU {gs:List Ch}:FZ gs (List.replicate gs.length 0):=
 ⟨List.length_replicate,λa ha=>by rw [List.eq_of_mem_replicate ha];omega⟩
def uP (cs:List Cd) (os:List ByteArray) (ks:List Ko) (gs:List Ch) (bs:List Ba) (al mo od:List Int):List Int:=if sQ cs os ks gs bs al mo od=true then rfO (jZ cs gs cs.length) gs al mo od else []
theorem aMa {cs:List Cd}{os:List ByteArray}{ks:List Ko}{gs:List Ch}{bs:List Ba}{al mo od:List Int}(h:sQ cs os ks gs bs al mo od=true):aam (jZ cs gs cs.length) gs al mo od:=by
 obtain ⟨hv,h1,h2,h3,h4,h5⟩:=iJ.1 h
 have hl:=(fK.1 hv).1
 obtain ⟨o1,o2,o3⟩:=wO.1 h5;refine ⟨by omega,o3,?_,h1,h2,λr hr=>?_,λa ha=>?_⟩
 ·have:=wJ (cs:=cs) (gs:=gs) (k:=cs.length)
  omega
 ·obtain ⟨m1,m2,m3,_⟩:=row_mem hr
  exact ⟨by omega,m2⟩
 ·have:=pq.1 (List.all_eq_true.1 h3 a ha)
  omega
section
variable {P : List Int → Bool} {tp : Int → Int}
def Xk (P:List Int→Bool) (tp:Int→Int) (L:Int) (lv:List Int) (i:Int):List Int:=
 if gi lv i=L-1∧L≤tp i then (if P (lv.set i.toNat L)=true then lv.set i.toNat L else lv) else lv
def gsw (P:List Int→Bool) (tp:Int→Int) (L:Int) (lv l:List Int):List Int:=l.foldl (Xk P tp L) lv
def Qi (P:List Int→Bool) (tp:Int→Int) (od:List Int):Nat→Int→List Int→List Int
 |0,_,lv=>lv
 |f+1,L,lv=>Qi P tp od f (L+1) (gsw P tp L lv od)
theorem mW {l:List Int}{i j v:Int}(h0:0≤i) (h1:i<(l.length:Int)) (hj:0≤j):gi (l.set i.toNat v) j=if j=i then v else gi l j:=by
 unfold gi;rw [uj]
 by_cases e:j=i
 ·subst e
  rw [if_pos ⟨rfl,by omega⟩,if_pos rfl]
 ·rw [if_neg (by omega),if_neg e]
def YC (n:Nat) (l:List Int):Prop:=∀i∈l,0≤i∧i<(n:Int)
theorem KF {L i:Int}{lv:List Int}:(Xk P tp L lv i).length=lv.length:=by
 unfold Xk;split
 ·split
  ·rw [List.length_set]
  ·rfl
 ·rfl
theorem aq0 {L i j:Int}{lv:List Int}(h:0≤i∧i<(lv.length:Int)) (hj:0≤j):gi lv j≤gi (Xk P tp L lv i) j:=by
 unfold Xk;split
 ·rename_i hc
  split
  ·rw [mW h.1 h.2 hj]
   split
   ·rename_i e;subst e;omega
   ·exact Int.le_refl _
  ·exact Int.le_refl _
 ·exact Int.le_refl _
theorem aH4 {L i j:Int}{lv:List Int}(h:0≤i∧i<(lv.length:Int)) (hj:0≤j):gi (Xk P tp L lv i) j≤gi lv j∨(gi (Xk P tp L lv i) j=L∧L≤tp j):=by
 unfold Xk;split
 ·rename_i hc
  split
  ·rw [mW h.1 h.2 hj]
   split
   ·rename_i e;subst e;exact .inr ⟨rfl,hc.2⟩
   ·exact .inl (Int.le_refl _)
  ·exact .inl (Int.le_refl _)
 ·exact .inl (Int.le_refl _)
theorem zA {L i:Int}{lv l:List Int}:gsw P tp L lv (i::l)=gsw P tp L (Xk P tp L lv i) l:=rfl
theorem DU {L:Int}:∀ {l lv:List Int},(gsw P tp L lv l).length=lv.length
 | [],_=>rfl
 |i::l,lv=>by rw [zA,DU (l:=l),KF]
theorem acV {L j:Int}(hj:0≤j):∀ {l lv:List Int},YC lv.length l→gi lv j≤gi (gsw P tp L lv l) j
 | [],_,_=>Int.le_refl _
 |i::l,lv,h=>by
  rw [zA]
  have h1:=aq0 (P:=P) (tp:=tp) (L:=L) (h i (by simp)) hj
  have h2:=acV (L:=L) hj (l:=l) (lv:=Xk P tp L lv i) (by rw [KF];exact λx hx=>h x (by simp [hx]))
  omega
theorem acW {L j:Int}(hj:0≤j):∀ {l lv:List Int},YC lv.length l→gi (gsw P tp L lv l) j≤gi lv j∨(gi (gsw P tp L lv l) j≤L∧gi (gsw P tp L lv l) j≤tp j)
 | [],_,_=> .inl (Int.le_refl _)
 |i::l,lv,h=>by
  rw [zA]
  have h1:=aH4 (P:=P) (tp:=tp) (L:=L) (h i (by simp)) hj
  have h2:=acW (L:=L) hj (l:=l) (lv:=Xk P tp L lv i) (by rw [KF];exact λx hx=>h x (by simp [hx]))
  omega
theorem ag6 {od:List Int}:∀ {f:Nat}{L:Int}{lv:List Int},(Qi P tp od f L lv).length=lv.length
 |0,_,_=>rfl
 |f+1,L,lv=>by rw [Qi,ag6,DU]
theorem aq1 {od:List Int}{j:Int}(hj:0≤j):∀ {f:Nat}{L:Int}{lv:List Int},YC lv.length od→gi lv j≤gi (Qi P tp od f L lv) j
 |0,_,_,_=>Int.le_refl _
 |f+1,L,lv,h=>by
  rw [Qi]
  have h1:=acV (P:=P) (tp:=tp) (L:=L) hj h
  have h2:=aq1 (f:=f) (L:=L+1) (lv:=gsw P tp L lv od) hj (by rw [DU];exact h)
  omega
theorem aq2 {od:List Int}{j:Int}(hj:0≤j):∀ {f:Nat}{L:Int}{lv:List Int},YC lv.length od→gi (Qi P tp od f L lv) j≤gi lv j∨(gi (Qi P tp od f L lv) j≤L+f-1∧gi (Qi P tp od f L lv) j≤tp j)
 |0,_,_,_=> .inl (Int.le_refl _)
 |f+1,L,lv,h=>by
  rw [Qi]
  have h1:=acW (P:=P) (tp:=tp) (L:=L) hj h
  have h2:=aq2 (f:=f) (L:=L+1) (lv:=gsw P tp L lv od) hj (by rw [DU];exact h)
  omega
theorem Y6 {od:List Int}:∀ {f:Nat}{L:Int}{lv:List Int},Qi P tp od (f+1) L lv=gsw P tp (L+f) (Qi P tp od f L lv) od
 |0,L,lv=>by simp [Qi]
 |f+1,L,lv=>by
  rw [Qi,Y6 (f:=f) (L:=L+1),Qi,show L+1+(f:Int)=L+((f+1:Nat):Int) by omega]
theorem GZ {L:Int}:∀ {l lv:List Int},(∀i∈l,gi lv i≠L-1∨tp i<L)→gsw P tp L lv l=lv
 | [],_,_=>rfl
 | i::l,lv,h=>by
  have e:Xk P tp L lv i=lv:=by
   unfold Xk;rw [if_neg (by have:=h i (by simp);omega)]
  rw [zA,e,GZ (λj hj=>h j (by simp [hj]))]
theorem QT {od:List Int}:∀ {f:Nat}{L:Int}{lv:List Int},(∀i∈od,gi lv i<L-1)→Qi P tp od f L lv=lv
 |0,_,_,_=>rfl
 |f+1,L,lv,h=>by
  rw [Qi,GZ (λi hi=> .inl (by have:=h i hi;omega)),QT (λi hi=>by have:=h i hi;omega)]
end
structure wu (rows:List Rw) (gs:List Ch) (al mo od:List Int):Prop where
 mem:∀r∈rows,r.2.Nodup∧∀m∈r.2,0≤m∧m<(gs.length:Int)
 has:∀i:Int,0≤i→i<(gs.length:Int)→lH (bG gs i).2.2.2.1 (bG gs i).2.2.2.2.1 (bG gs i).2.2.2.2.2.1=true
 gl:gs.length≤16
 all:al.length=gs.length
 mol:mo.length=gs.length
 al:∀a∈al,0≤a∧a≤80
 mo:∀a∈mo,0≤a∧a≤80
 nd:od.Nodup
 ord:YC gs.length od
 cov:∀i:Int,0≤i→i<(gs.length:Int)→i∈od
theorem amQ {cs:List Cd}{os:List ByteArray}{ks:List Ko}{gs:List Ch}{bs:List Ba}{al mo od:List Int}(h:sQ cs os ks gs bs al mo od=true):wu (jZ cs gs cs.length) gs al mo od:=by
 obtain ⟨hv,h1,h2,h3,h4,h5⟩:=iJ.1 h
 have hl:=(fK.1 hv).1
 obtain ⟨o1,o2,o3⟩:=wO.1 h5;refine ⟨λr hr=>⟨(row_mem hr).1,(row_mem hr).2.1⟩,λi h0 h1=>?_,by omega,h1,h2,λa ha=>pq.1 (List.all_eq_true.1 h3 a ha),λa ha=>pq.1 (List.all_eq_true.1 h4 a ha),o2,o3,λi h0 h1=>QS h5 h0 h1⟩
 have:=tY hv h0 h1
 unfold JZ chW at this;simp only [Bool.and_eq_true,dV] at this;exact fZ.2 (by omega)
def PP (rows:List Rw) (gs:List Ch) (al lv:List Int):Bool:=Be rows al (jK gs lv)
def tpO (gs:List Ch) (mo:List Int) (i:Int):Int:=Bg gs i (gi mo i)
theorem lM {gs:List Ch}{lv:List Int}:(jK gs lv).length=gs.length:=by simp [jK]
theorem o8 {gs:List Ch}{lv:List Int}{i:Int}(h0:0≤i) (h1:i<(gs.length:Int)):gi (jK gs lv) i=tK gs i (gi lv i):=by
 rw [jA (by rw [lM];omega)]
 simp only [jK,List.getElem_map,List.getElem_range];rw [Int.toNat_of_nonneg h0];rfl
theorem aiR {gs:List Ch}{i:Int}:tK gs i 0=0:=by simp [tK,CW]
theorem ZQ {gs:List Ch}{i a b:Int}(hh:lH (bG gs i).2.2.2.1 (bG gs i).2.2.2.2.1 (bG gs i).2.2.2.2.2.1=true) (h0:0≤a) (h1:a≤b):tK gs i a≤tK gs i b:=by
 obtain ⟨g1,g2,g3,g4,g5⟩:=fZ.1 hh;exact ZO ⟨g1,g4⟩ h0 h1
theorem WO {gs:List Ch}{i a b:Int}(hh:lH (bG gs i).2.2.2.1 (bG gs i).2.2.2.2.1 (bG gs i).2.2.2.2.2.1=true) (h0:0≤a) (h1:a<b):tK gs i a<tK gs i b:=by
 obtain ⟨g1,g2,g3,g4,g5⟩:=fZ.1 hh
 have h2:=ZQ hh (show 0≤a+1 by omega) (show a+1≤b by omega)
 have h3:tK gs i a<tK gs i (a+1):=by
  unfold tK CW;rw [if_neg (show ¬a+1=0 by omega)]
  split
  ·rename_i e;subst e;simp;omega
  ·have:(a+1-1)*(bG gs i).2.2.2.2.2.1=(a-1)*(bG gs i).2.2.2.2.2.1+(bG gs i).2.2.2.2.2.1:=by
    rw [show a+1-1=(a-1)+1 by omega,Int.add_mul,Int.one_mul]
   omega
 omega
theorem aAz {gs:List Ch}{i a b:Int}(hh:lH (bG gs i).2.2.2.1 (bG gs i).2.2.2.2.1 (bG gs i).2.2.2.2.2.1=true) (h0:0≤a) (h1:0≤b) (e:tK gs i a=tK gs i b):a=b:=by
 by_cases h:a<b
 ·have:=WO hh h0 h;omega
 ·by_cases h2:b<a
  ·have:=WO hh h1 h2;omega
  ·omega
theorem ash {gs:List Ch}{i a:Int}(hh:lH (bG gs i).2.2.2.1 (bG gs i).2.2.2.2.1 (bG gs i).2.2.2.2.2.1=true) (h0:0≤a):0≤tK gs i a:=by
 have:=ZQ hh (Int.le_refl 0) h0
 rw [aiR] at this;exact this
theorem zV {al am bm:List Int}:∀ {ms:List Int},(∀m∈ms,gi am m=gi bm m)→smM al am ms=smM al bm ms
 | [],_=>rfl
 |m::ms,h=>by rw [wG,wG,zV (ms:=ms) (λx hx=>h x (by simp [hx])),h m (by simp)]
theorem afR {al am bm:List Int}{i:Int}:∀ {ms:List Int},ms.Nodup→i∈ms→(∀m∈ms,m≠i→gi am m=gi bm m)→smM al bm ms=smM al am ms+(mx (gi al i) (gi bm i)-mx (gi al i) (gi am i))
 | [],_,h,_=>by cases h
 | m::ms,hn,hi,h=>by
  obtain ⟨n1,n2⟩:=List.nodup_cons.1 hn;rw [wG,wG]
  by_cases e:m=i
  ·subst e
   rw [zV (am:=am) (bm:=bm) (λx hx=>h x (by simp [hx]) (λe=>n1 (e▸hx)))]
   omega
  ·have hi2:i∈ms:=by
    rcases List.mem_cons.1 hi with h|h
    ·exact absurd h.symm e
    ·exact h
   rw [afR n2 hi2 (λx hx=>h x (by simp [hx])),h m (by simp) e]
   omega
theorem abn {al am bm:List Int}{r:Rw}(h:∀m∈r.2,gi am m=gi bm m):rowB al am r=rowB al bm r:=by
 unfold rowB;rw [zV h]
 congr 1
 rw [Bool.eq_iff_iff,List.all_eq_true,List.all_eq_true]
 constructor
 ·intro g m hm;rw [←h m hm];exact g m hm
 ·intro g m hm;rw [h m hm];exact g m hm
structure Inv (rows:List Rw) (gs:List Ch) (al sm lv:List Int):Prop where
 sl:sm.length=rows.length
 sm:∀k:Nat,k<rows.length→sm.getD k 0=smM al (jK gs lv) (rP rows k).2
 ll:lv.length=gs.length
 nn:∀j,0≤j→0≤gi lv j
 pp:PP rows gs al lv=true
theorem KH {rows:List Rw}{k:Int}(h0:0≤k) (h1:k<(rows.length:Int)):rP rows k∈rows:=by
 rw [BX (by omega)];exact List.getElem_mem _
theorem WN {rows:List Rw}{gs:List Ch}{al mo od lv:List Int}(H:wu rows gs al mo od) {i L:Int}(hl:lv.length=gs.length) (h0:0≤i) (h1:i<(gs.length:Int)) {r:Rw}(hr:r∈rows):
  (∀m∈r.2,m≠i→gi (jK gs lv) m=gi (jK gs (lv.set i.toNat L)) m)∧gi (jK gs (lv.set i.toNat L)) i=tK gs i L:=by
 refine ⟨λm hm e=>?_,?_⟩
 ·obtain ⟨m0,m1⟩:=(H.mem r hr).2 m hm
  rw [o8 m0 m1,o8 m0 m1,mW h0 (by omega) m0,if_neg e]
 ·rw [o8 h0 h1,mW h0 (by omega) h0,if_pos rfl]
theorem amI {rows:List Rw}{gs:List Ch}{al mo od lv:List Int}(H:wu rows gs al mo od) {i L:Int}(hl:lv.length=gs.length) (h0:0≤i) (h1:i<(gs.length:Int)) {r:Rw}(hr:r∈rows) (hc:gi lv i=L-1):
  smM al (jK gs (lv.set i.toNat L)) r.2=smM al (jK gs lv) r.2+(if i∈r.2 then QK gs al i L else 0):=by
 obtain ⟨p1,p2⟩:=WN (L:=L) H hl h0 h1 hr;split
 ·rename_i hi
  rw [afR (am:=jK gs lv) (H.mem r hr).1 hi p1,p2,o8 h0 h1,hc];rfl
 ·rename_i hi
  rw [←zV (am:=jK gs lv) (λm hm=>p1 m hm (λe=>hi (e▸hm)))]
  omega
theorem azn {rows:List Rw}{gs:List Ch}{al mo od sm lv:List Int}(H:wu rows gs al mo od) (hI:Inv rows gs al sm lv) {i L:Int}(h0:0≤i) (h1:i<(gs.length:Int)) (hL:1≤L) (hc:gi lv i=L-1):
  ((OL rows).getD i.toNat []).all (D8 rows sm (QK gs al i L))=PP rows gs al (lv.set i.toNat L):=by
 have hg:=H.gl
 rw [aeJ (λr hr=>⟨(H.mem r hr).1,λm hm=>((H.mem r hr).2 m hm).1⟩) (by omega),Bool.eq_iff_iff,List.all_eq_true]
 unfold PP Be;rw [List.all_eq_true]
 have hpp:=hI.pp
 unfold PP Be at hpp;rw [List.all_eq_true] at hpp
 have hpos:1≤tK gs i L:=by
  have:=WO (H.has i h0 h1) (Int.le_refl 0) (show 0<L by omega)
  rw [aiR] at this;omega
 have hfit:∀k:Int,0≤k→k<(rows.length:Int)→i∈(rP rows k).2→(D8 rows sm (QK gs al i L) k=rowB al (jK gs (lv.set i.toNat L)) (rP rows k)):=λk k0 k1 hk=>by
  have hr:=KH k0 k1
  have hs:=hI.sm k.toNat (by omega)
  rw [Int.toNat_of_nonneg k0] at hs
  have hp:=amI (L:=L) H hI.ll h0 h1 hr hc
  rw [if_pos hk] at hp
  have hz:(rP rows k).2.all (λm=>gi (jK gs (lv.set i.toNat L)) m==0)=false:=by
   rw [Bool.eq_false_iff];intro hz
   have:=List.all_eq_true.1 hz i hk
   rw [(WN (L:=L) H hI.ll h0 h1 hr).2,beq_iff_eq] at this;omega
  unfold D8 rowB;rw [hz,Bool.false_or,hp,hs]
 constructor
 ·intro h r hr
  obtain ⟨k,hk,rfl⟩:=List.mem_iff_getElem.1 hr
  have ek:rP rows (k:Int)=rows[k]:=BX (by simpa using hk)
  by_cases hi:i∈rows[k].2
  ·have:=h (k:Int) (xI.2 ⟨by omega,by omega,by
    rw [Int.sub_zero,ek,Int.toNat_of_nonneg h0]
    simpa using hi⟩)
   rw [hfit k (by omega) (by omega) (by rw [ek];exact hi),ek] at this
   exact this
  ·rw [←abn (am:=jK gs lv) (λm hm=>(WN (L:=L) H hI.ll h0 h1 hr).1 m hm (λe=>hi (e▸hm)))]
   exact hpp _ hr
 ·intro h x hx
  obtain ⟨x0,x1,x2⟩:=xI.1 hx;rw [Int.sub_zero,Int.toNat_of_nonneg h0] at x2;rw [hfit x x0 (by omega) (by simpa using x2)]
  exact h _ (KH x0 (by omega))
theorem awO {rows:List Rw}{gs:List Ch}{al mo od sm lv:List Int}{b:Bool}(H:wu rows gs al mo od) (hI:Inv rows gs al sm lv) {i L:Int}(h0:0≤i) (h1:i<(gs.length:Int)) (hL:1≤L):
  (Gv (OL rows) rows gs al mo L (sm,lv,b) i).2.1=Xk (PP rows gs al) (tpO gs mo) L lv i∧Inv rows gs al (Gv (OL rows) rows gs al mo L (sm,lv,b) i).1 (Gv (OL rows) rows gs al mo L (sm,lv,b) i).2.1∧((Gv (OL rows) rows gs al mo L (sm,lv,b) i).2.2=false→b=false∧(Gv (OL rows) rows gs al mo L (sm,lv,b) i).2.1=lv):=by
 unfold Gv Xk;simp only
 by_cases hc:gi lv i=L-1∧L≤tpO gs mo i
 ·have hf:=azn H hI h0 h1 hL hc.1
  rw [if_pos (show lv.getD i.toNat 0=L-1∧L≤Bg gs i (gi mo i) from hc),if_pos hc,hf]
  by_cases hp:PP rows gs al (lv.set i.toNat L)=true
  ·rw [if_pos hp,if_pos hp]
   have hg:=H.gl
   refine ⟨rfl,⟨by rw [vJ];exact hI.sl,λk hk=>?_,by rw [List.length_set];exact hI.ll,λj hj=>?_,hp⟩,λh=>by cases h⟩
   ·have hr:rP rows (k:Int)∈rows:=KH (by omega) (by omega)
    simp only;rw [aeJ (λr hr=>⟨(H.mem r hr).1,λm hm=>((H.mem r hr).2 m hm).1⟩) (by omega),Oo Ar (λr hr=>(xI.1 hr).1) (by rw [hI.sl];exact hk),hI.sm k hk,amI (L:=L) H hI.ll h0 h1 hr hc.1]
    have:(k:Int)∈ofF 0 rows (i.toNat:Int)↔i∈(rP rows (k:Int)).2:=by
     rw [xI,Int.sub_zero,Int.toNat_of_nonneg h0];simp only [List.contains_iff_mem]
     constructor
     ·exact λh=>h.2.2
     ·exact λh=>⟨by omega,by omega,h⟩
    by_cases hm:i∈(rP rows (k:Int)).2
    ·rw [if_pos (this.2 hm),if_pos hm]
    ·rw [if_neg (λh=>hm (this.1 h)),if_neg hm]
   ·simp only
    rw [mW h0 (by rw [hI.ll];exact h1) hj]
    split
    ·omega
    ·exact hI.nn j hj
  ·rw [if_neg hp,if_neg hp]
   exact ⟨rfl,hI,λh=>⟨h,rfl⟩⟩
 ·rw [if_neg (show ¬(lv.getD i.toNat 0=L-1∧L≤Bg gs i (gi mo i)) from hc),if_neg hc]
  exact ⟨rfl,hI,λh=>⟨h,rfl⟩⟩
theorem afM {rows:List Rw}{gs:List Ch}{al mo od:List Int}(H:wu rows gs al mo od) {L:Int}(hL:1≤L):∀ {l sm lv:List Int}{b:Bool},YC gs.length l→Inv rows gs al sm lv→
  (swp (OL rows) rows gs al mo L (sm,lv,b) l).2.1=gsw (PP rows gs al) (tpO gs mo) L lv l∧Inv rows gs al (swp (OL rows) rows gs al mo L (sm,lv,b) l).1 (swp (OL rows) rows gs al mo L (sm,lv,b) l).2.1∧((swp (OL rows) rows gs al mo L (sm,lv,b) l).2.2=false→b=false∧(swp (OL rows) rows gs al mo L (sm,lv,b) l).2.1=lv)
 | [],sm,lv,b,_,hI=>⟨rfl,hI,λh=>⟨h,rfl⟩⟩
 |i::l,sm,lv,b,hr,hI=>by
  obtain ⟨i0,i1⟩:=hr i (by simp)
  obtain ⟨r1,r2,r3⟩:=awO (b:=b) H hI i0 i1 hL;obtain ⟨s1,s2,s3⟩:=afM H hL (l:=l) (b:=(Gv (OL rows) rows gs al mo L (sm,lv,b) i).2.2) (λx hx=>hr x (by simp [hx])) r2
  refine ⟨s1.trans (by rw [r1];rfl),s2,λh=>?_⟩
  obtain ⟨t1,t2⟩:=s3 h;obtain ⟨t3,t4⟩:=r3 t1;exact ⟨t3,t2.trans t4⟩
theorem afT {rows:List Rw}{gs:List Ch}{al mo od:List Int}(H:wu rows gs al mo od):∀ {f:Nat}{L:Int}{sm lv:List Int},1≤L→Inv rows gs al sm lv→(∀i∈od,gi lv i≤L-1)→shl (OL rows) rows gs al mo od f L sm lv=Qi (PP rows gs al) (tpO gs mo) od f L lv
 |0,_,_,_,_,_,_=>rfl
 | f+1,L,sm,lv,hL,hI,hb=>by
  obtain ⟨s1,s2,s3⟩:=afM (b:=false) H hL H.ord hI;rw [shl,Qi];split
  ·rw [afT H (by omega) s2 (λi hi=>by
    rw [s1]
    have h1:=acW (P:=PP rows gs al) (tp:=tpO gs mo) (L:=L) (H.ord i hi).1 (l:=od) (lv:=lv) (by rw [hI.ll];exact H.ord)
    have h2:=hb i hi
    omega),s1]
  ·rename_i hc
   have hc:(swp (OL rows) rows gs al mo L (sm,lv,false) od).2.2=false:=by simpa using hc
   have e:=(s3 hc).2
   rw [←s1,e,QT (λi hi=>by have:=hb i hi;omega)]
theorem vT {n:Nat}{j:Int}:gi (List.replicate n 0) j=0:=by
 unfold gi;simp only [List.getD,List.getElem?_replicate];split<;>rfl
theorem aMZ {rows:List Rw}{gs:List Ch}{al mo od:List Int}(H:wu rows gs al mo od):Inv rows gs al (SM al rows) (List.replicate gs.length 0):=by
 have hz:∀r∈rows,∀m∈r.2,gi (jK gs (List.replicate gs.length 0)) m=0:=λr hr m hm=>by
  obtain ⟨m0,m1⟩:=(H.mem r hr).2 m hm;rw [o8 m0 m1,vT,aiR]
 refine ⟨Ht,λk hk=>?_,List.length_replicate,λj _=>by rw [vT];omega,?_⟩
 ·rw [asE hk]
  have hr:rP rows (k:Int)∈rows:=KH (by omega) (by omega)
  unfold smA smM
  congr 1
  refine List.map_congr_left (λm hm=>?_)
  obtain ⟨m0,m1⟩:=(H.mem _ hr).2 m hm;rw [hz _ hr m hm]
  have:=H.al _ (jq m0 (by rw [H.all];exact m1))
  unfold mx;rw [if_neg (by omega)]
 ·unfold PP Be
  rw [List.all_eq_true];intro r hr;unfold rowB;rw [Bool.or_eq_true,List.all_eq_true];exact .inl (λm hm=>by rw [hz r hr m hm];rfl)
def lvF (rows:List Rw) (gs:List Ch) (al mo od:List Int):List Int:=Qi (PP rows gs al) (tpO gs mo) od 80 1 (List.replicate gs.length 0)
theorem Ua {rows:List Rw}{gs:List Ch}{al mo od:List Int}(H:wu rows gs al mo od) {i:Int}(h0:0≤i) (h1:i<(gs.length:Int)):0≤tpO gs mo i∧tpO gs mo i≤80∧tpO gs mo i<zn (bG gs i).2.2.2.1 (bG gs i).2.2.2.2.1 (bG gs i).2.2.2.2.2.1:=
 ⟨acA (H.has i h0 h1) (H.mo _ (jq h0 (by rw [H.mol];exact h1))).1,acB,aqo (H.has i h0 h1)⟩
theorem amR {rows:List Rw}{gs:List Ch}{al mo od:List Int}(H:wu rows gs al mo od):shV rows gs al mo od=lvF rows gs al mo od:=by
 unfold shV lvF;rw [H.all,afT H (by omega) (aMZ H) (λi _=>by rw [vT];omega),Y6,GZ (λi hi=> .inr ?_)]
 have:=Ua H (H.ord i hi).1 (H.ord i hi).2
 omega
theorem asf {gs:List Ch}{lv:List Int}{i L:Int}(hl:lv.length=gs.length) (h0:0≤i) (h1:i<(gs.length:Int)):(jK gs lv).set i.toNat (tK gs i L)=jK gs (lv.set i.toNat L):=by
 refine List.ext_getElem (by rw [List.length_set,lM,lM]) (λk k1 k2=>?_)
 rw [lM] at k2
 have e1:(jK gs (lv.set i.toNat L))[k]=gi (jK gs (lv.set i.toNat L)) (k:Int):=by rw [jA (by rw [lM];simpa using k2)];rfl
 have e2:((jK gs lv).set i.toNat (tK gs i L))[k]=gi ((jK gs lv).set i.toNat (tK gs i L)) (k:Int):=by rw [jA (by rw [List.length_set,lM];simpa using k2)];rfl
 rw [e1,e2,mW h0 (by rw [lM];exact h1) (by omega),o8 (by omega) (by omega),o8 (by omega) (by omega),mW h0 (by omega) (by omega)]
 split
 ·rename_i e;rw [e]
 ·rfl
theorem aw6 {rows:List Rw}{gs:List Ch}{al mo od lv:List Int}(H:wu rows gs al mo od) (hl:lv.length=gs.length) (hn:∀j,0≤j→0≤gi lv j) {i L:Int}(h0:0≤i) (h1:i<(gs.length:Int)) (hL:1≤L):
  rfS rows gs al mo L (jK gs lv) i=jK gs (Xk (PP rows gs al) (tpO gs mo) L lv i):=by
 have hh:=H.has i h0 h1
 have hm:=(H.mo _ (jq h0 (by rw [H.mol];exact h1))).1
 unfold rfS Xk
 by_cases hE:zn (bG gs i).2.2.2.1 (bG gs i).2.2.2.2.1 (bG gs i).2.2.2.2.2.1≤L
 ·have e1:Ol gs i L=1:=by unfold Ol amE;rw [if_pos (.inr hE)]
  have:=(Ua H h0 h1).2.2
  rw [e1,if_pos (by decide),if_neg (by omega)]
 ·have e1:Ol gs i L=0:=by unfold Ol amE;rw [if_neg (by omega)]
  have e2:uy gs i L=tK gs i L:=by unfold uy P9 tK;rw [if_neg (by omega)]
  have e3:uy gs i (L-1)=tK gs i (L-1):=by unfold uy P9 tK;rw [if_neg (by omega)]
  have hi:tK gs i L≤gi mo i↔L≤tpO gs mo i:=KC hh hm (by omega) (by omega)
  have e4:(jK gs lv).getD i.toNat 0=tK gs i (gi lv i):=o8 h0 h1
  rw [e1,if_neg (by simp),e2,e3,e4,asf hl h0 h1]
  by_cases hc:gi lv i=L-1∧L≤tpO gs mo i
  ·rw [if_neg (by rw [hc.1];have:=hi.2 hc.2;simp;omega),if_pos hc]
   unfold PP;split
   ·rfl
   ·rfl
  ·have hc2:(decide (tK gs i L>gi mo i) ||(tK gs i (gi lv i) !=tK gs i (L-1)))=true:=by
    rw [Bool.or_eq_true,decide_eq_true_eq,bne_iff_ne]
    by_cases h:L≤tpO gs mo i
    ·exact .inr (λe=>hc ⟨aAz hh (hn i h0) (by omega) e,h⟩)
    ·exact .inl (by have:=λg=>h (hi.1 g);omega)
   rw [if_pos hc2,if_neg hc]
theorem aH3 {P:List Int→Bool}{tp:Int→Int}{L i:Int}{lv:List Int}(h:0≤i∧i<(lv.length:Int)) (hn:∀j,0≤j→0≤gi lv j):∀j,0≤j→0≤gi (Xk P tp L lv i) j:=λj hj=>by
 have:=aq0 (P:=P) (tp:=tp) (L:=L) h hj
 have:=hn j hj
 omega
theorem agu {rows:List Rw}{gs:List Ch}{al mo od:List Int}(H:wu rows gs al mo od) {L:Int}(hL:1≤L):∀ {l lv:List Int},YC gs.length l→lv.length=gs.length→(∀j,0≤j→0≤gi lv j)→Xi rows gs al mo L (jK gs lv) l=jK gs (gsw (PP rows gs al) (tpO gs mo) L lv l)
 | [],_,_,_,_=>rfl
 |i::l,lv,hr,hl,hn=>by
  obtain ⟨i0,i1⟩:=hr i (by simp)
  rw [yY,aw6 H hl hn i0 i1 hL,zA,agu H hL (λx hx=>hr x (by simp [hx])) (by rw [KF];exact hl) (aH3 (by omega) hn)]
theorem agv {rows:List Rw}{gs:List Ch}{al mo od:List Int}(H:wu rows gs al mo od):∀ {f:Nat}{L:Int}{lv:List Int},1≤L→lv.length=gs.length→(∀j,0≤j→0≤gi lv j)→rfL rows gs al mo od f L (jK gs lv)=jK gs (Qi (PP rows gs al) (tpO gs mo) od f L lv)
 |0,_,_,_,_,_=>rfl
 | f+1,L,lv,hL,hl,hn=>by
  rw [rfL,agu H hL H.ord hl hn,agv H (by omega) (by rw [DU];exact hl) (λj hj=>by
   have:=acV (P:=PP rows gs al) (tp:=tpO gs mo) (L:=L) hj (l:=od) (lv:=lv) (by rw [hl];exact H.ord)
   have:=hn j hj
   omega),Qi]
theorem aGT {rows:List Rw}{gs:List Ch}{al mo od:List Int}(H:wu rows gs al mo od):rfO rows gs al mo od=jK gs (lvF rows gs al mo od):=by
 have e:List.replicate gs.length 0=jK gs (List.replicate gs.length 0):=by
  refine List.ext_getElem (by rw [List.length_replicate,lM]) (λk k1 k2=>?_)
  rw [lM] at k2
  have e1:(jK gs (List.replicate gs.length 0))[k]=gi (jK gs (List.replicate gs.length 0)) (k:Int):=by rw [jA (by rw [lM];simpa using k2)];rfl
  rw [e1,o8 (by omega) (by omega),vT,aiR,List.getElem_replicate]
 unfold rfO lvF;rw [e,agv H (by omega) List.length_replicate (λj _=>by rw [vT];omega),←e]
theorem amS {cs:List Cd}{os:List ByteArray}{ks:List Ko}{gs:List Ch}{bs:List Ba}{al mo od:List Int}:zW cs os ks gs bs al mo od=uP cs os ks gs bs al mo od:=by
 unfold zW uP;split
 ·rename_i h
  have H:=amQ h
  rw [amR H,aGT H]
 ·rfl
section
variable {rows : List Rw} {gs : List Ch} {al mo od : List Int}
theorem ay1:(lvF rows gs al mo od).length=gs.length:=by
 unfold lvF;rw [ag6,List.length_replicate]
theorem agz (H:wu rows gs al mo od):YC (List.replicate gs.length (0:Int)).length od:=by rw [List.length_replicate];exact H.ord
theorem aHK (H:wu rows gs al mo od) {j:Int}(hj:0≤j):0≤gi (lvF rows gs al mo od) j:=by
 have:=aq1 (P:=PP rows gs al) (tp:=tpO gs mo) (f:=80) (L:=1) hj (agz H)
 rw [vT] at this;exact this
theorem aqh (H:wu rows gs al mo od) {j:Int}(h0:0≤j) (h1:j<(gs.length:Int)):gi (lvF rows gs al mo od) j≤tpO gs mo j:=by
 have h2:=aq2 (P:=PP rows gs al) (tp:=tpO gs mo) (f:=80) (L:=1) h0 (agz H)
 rw [vT] at h2
 have h3:=Ua H h0 h1
 unfold lvF;omega
theorem ay6 {i k:Int}(hh:lH (bG gs i).2.2.2.1 (bG gs i).2.2.2.2.1 (bG gs i).2.2.2.2.2.1=true) (h0:0≤k) (h1:k<zn (bG gs i).2.2.2.1 (bG gs i).2.2.2.2.1 (bG gs i).2.2.2.2.2.1):Bg gs i (tK gs i k)=k:=by
 have h2:=ash hh h0
 have h3:=(KC hh h2 h0 h1).1 (Int.le_refl _)
 have h4:=aqo (a:=tK gs i k) hh
 have h5:=(KC hh h2 (k:=Y1 (bG gs i).2.2.2.1 (bG gs i).2.2.2.2.1 (bG gs i).2.2.2.2.2.1 (tK gs i k)) (by omega) h4).2 (Int.le_refl _)
 by_cases e:k<Y1 (bG gs i).2.2.2.1 (bG gs i).2.2.2.2.1 (bG gs i).2.2.2.2.2.1 (tK gs i k)
 ·have:=WO hh h0 e
  have h5:tK gs i (Y1 (bG gs i).2.2.2.1 (bG gs i).2.2.2.2.1 (bG gs i).2.2.2.2.2.1 (tK gs i k))≤tK gs i k:=h5
  omega
 ·unfold Bg
  omega
end
theorem aAx {mi ma st k:Int}(hh:lH mi ma st=true) (_:0≤k) (h1:k<zn mi ma st):CW mi st k≤ma:=by
 obtain ⟨g1,g2,g3,g4,g5⟩:=fZ.1 hh;unfold CW;split
 ·omega
 ·unfold zn at h1
  rw [if_pos hh] at h1
  have h2:(k-1)≤(ma-mi) / st:=by omega
  have:=(Int.le_ediv_iff_mul_le (a:=k-1) (b:=ma-mi) (c:=st) (by omega)).1 h2
  omega
theorem aI2 {mi ma st k:Int}(h0:0≤k) (h1:k<zn mi ma st):P9 mi ma st k=CW mi st k∧amE mi ma st k=0:=by
 unfold P9 amE;rw [if_neg (by omega),if_neg (by omega)]
 exact ⟨rfl,rfl⟩
section
variable {rows : List Rw} {gs : List Ch} {al mo od lv : List Int}
def lvR (gs:List Ch) (lv:List Int):Prop:=lv.length=gs.length∧∀j,0≤j→j<(gs.length:Int)→0≤gi lv j∧gi lv j<zn (bG gs j).2.2.2.1 (bG gs j).2.2.2.2.1 (bG gs j).2.2.2.2.2.1
theorem aqi (H:wu rows gs al mo od):lvR gs (lvF rows gs al mo od):=⟨ay1,λj h0 h1=>⟨aHK H h0,by
 have:=aqh H h0 h1
 have:=Ua H h0 h1
 omega⟩⟩
theorem aAy (H:wu rows gs al mo od) {j k:Int}(h0:0≤j) (h1:j<(gs.length:Int)) (k0:0≤k) (k1:k<zn (bG gs j).2.2.2.1 (bG gs j).2.2.2.2.1 (bG gs j).2.2.2.2.2.1):(0≤tK gs j k∧tK gs j k≤80)∧Ol gs j k=0∧uy gs j k=tK gs j k∧Bg gs j (tK gs j k)=k:=by
 have hh:=H.has j h0 h1
 obtain ⟨g1,g2,g3,g4,g5⟩:=fZ.1 hh
 have h2:=aAx hh k0 k1
 obtain ⟨e1,e2⟩:=aI2 k0 k1;refine ⟨⟨ash hh k0,?_⟩,e2,e1,ay6 hh k0 k1⟩;unfold tK;omega
theorem aI1 (H:wu rows gs al mo od) (R:lvR gs lv) {j:Int}(h0:0≤j) (h1:j<(gs.length:Int)):letI a:=jK gs lv;Bg gs j (gi a j)=gi lv j∧Ol gs j (gi lv j)=0∧uy gs j (gi lv j)=gi a j∧0≤gi a j∧gi a j≤80:=by
 obtain ⟨r0,r1⟩:=R.2 j h0 h1;obtain ⟨a1,a2,a3,a4⟩:=aAy H h0 h1 r0 r1;rw [o8 h0 h1];exact ⟨a4,a2,a3,a1⟩
theorem aLb (H:wu rows gs al mo od) {j k:Int}(h0:0≤j) (h1:j<(gs.length:Int)) (k0:0≤k) (k1:k<zn (bG gs j).2.2.2.1 (bG gs j).2.2.2.2.1 (bG gs j).2.2.2.2.2.1):tK gs j k≤gi mo j↔k≤tpO gs mo j:=
 KC (H.has j h0 h1) (H.mo _ (jq h0 (by rw [H.mol];exact h1))).1 k0 k1
theorem kP {a b:List Int}(hl:a.length=b.length) (h:∀j:Int,0≤j→j<(b.length:Int)→gi a j=gi b j):a=b:=List.ext_getElem hl λk h1 h2=>by
 have:=h (k:Int) (by omega) (by omega)
 rw [jA (by simpa using h1),jA (by simpa using h2)] at this
 simpa using this
def g4 (gs:List Ch) (mo b am:List Int) (j:Int):Prop:=(0≤gi b j∧gi b j<zn (bG gs j).2.2.2.1 (bG gs j).2.2.2.2.1 (bG gs j).2.2.2.2.2.1)∧gi am j=tK gs j (gi b j)∧gi am j≤gi mo j
end
section
variable {cs : List Cd} {os : List ByteArray} {ks : List Ko} {gs : List Ch} {bs : List Ba} {al mo od : List Int}
theorem aE1 (h:sQ cs os ks gs bs al mo od=true):zW cs os ks gs bs al mo od=jK gs (lvF (jZ cs gs cs.length) gs al mo od):=by
 unfold zW;rw [if_pos h,amR (amQ h)]
theorem aAX (h:sQ cs os ks gs bs al mo od=true):shE cs os ks gs bs al mo od=0:=by unfold shE;rw [if_pos h]
end
section
variable {lt : Int → Int → Bool}
structure A7 (lt:Int→Int→Bool):Prop where
 ord:CP lt
 tot:∀ {a b},lt a b=false→lt b a=false→a=b
theorem dw {d:List Dm}{t:Int}:A7 (ltD d t):=⟨jy,λh1 h2=>by
 rw [acr] at h1 h2;omega⟩
theorem CP.irr (O:CP lt) {a:Int}:lt a a=false:=by
 cases h:lt a a with
 |false=>rfl
 |true=>exact h.symm.trans (O.asym h)
def mpZ (n:Nat) (f:Int→Int):List Int:=(List.range n).map (λk:Nat=>f (k:Int))
theorem KA {n:Nat}{f:Int→Int}:(mpZ n f).length=n:=by simp [mpZ]
theorem MQ {n:Nat}{f:Int→Int}{j:Int}(h0:0≤j) (h1:j<(n:Int)):gi (mpZ n f) j=f j:=by
 rw [jA (by rw [KA];omega)]
 simp only [mpZ,List.getElem_map,List.getElem_range];rw [Int.toNat_of_nonneg h0]
theorem arp {x y:List Int}{k:Int}(h:0≤k):gi (x++y) k=if k<(x.length:Int) then gi x k else gi y (k-(x.length:Int)):=by
 unfold gi;rw [List.getD_eq_getElem?_getD];split
 ·rw [List.getElem?_append_left (by omega),List.getD_eq_getElem?_getD]
 ·rw [List.getElem?_append_right (by omega),List.getD_eq_getElem?_getD,show (k-(x.length:Int)).toNat=k.toNat-x.length by omega]
def mJ (lt:Int→Int→Bool) (l:List Int) (a b:Int):Prop:=∀x y:Int,a≤x→x<y→y<b→lt (gi l y) (gi l x)=false
theorem Di (O:A7 lt) {l m:List Int}(hp:m.Perm l) (hs:m.Pairwise (λa b=>lt b a=false)):m=sortB lt l:=
 List.Perm.eq_of_pairwise (le:=λa b=>lt b a=false) (λ_ _ _ _ h1 h2=>O.tot h2 h1) hs (sN O.ord) (hp.trans lD.symm)
theorem qy (O:A7 lt) {l m:List Int}(hp:m.Perm l):sortB lt m=sortB lt l:=Di O (lD.trans hp) (sN O.ord)
def seg (l:List Int) (a b:Int):List Int:=(l.drop a.toNat).take (b.toNat-a.toNat)
theorem Kq {l:List Int}{a b:Int}(h0:0≤a) (h1:a≤b) (h2:b≤(l.length:Int)):((seg l a b).length:Int)=b-a:=by
 unfold seg;rw [List.length_take,List.length_drop];omega
theorem abh {l:List Int}{a b k:Int}(h0:0≤a) (k0:0≤k) (k1:k<b-a):gi (seg l a b) k=gi l (a+k):=by
 unfold gi seg;rw [List.getD_eq_getElem?_getD,List.getD_eq_getElem?_getD,List.getElem?_take,if_pos (by omega),List.getElem?_drop,show (a+k).toNat=a.toNat+k.toNat by omega]
theorem Gq {l:List Int}{a b:Int}(h1:a≤b):l=l.take a.toNat++seg l a b++l.drop b.toNat:=by
 have e:l.drop b.toNat=(l.drop a.toNat).drop (b.toNat-a.toNat):=by
  rw [List.drop_drop]
  congr 1
  omega
 rw [List.append_assoc,e];unfold seg;rw [List.take_append_drop,List.take_append_drop]
def gU (lt:Int→Int→Bool) (l:List Int) (a b:Int):List Int:=l.take a.toNat++sortB lt (seg l a b)++l.drop b.toNat
theorem iO {l:List Int}{a b:Int}(h:a≤b):(gU lt l a b).Perm l:=by
 have e:=Gq (l:=l) h
 unfold gU
 conv=>rhs;rw [e]
 exact List.Perm.append_right _ (List.Perm.append_left _ lD)
theorem sO {l:List Int}{a b:Int}(h:a≤b):(gU lt l a b).length=l.length:=(iO h).length_eq
theorem tu {l:List Int}:(sortB lt l).length=l.length:=lD.length_eq
theorem Wn {l:List Int}{n:Nat}{k:Int}(h:k.toNat<n):gi (l.take n) k=gi l k:=by
 unfold gi;rw [List.getD_eq_getElem?_getD,List.getElem?_take,if_pos h,List.getD_eq_getElem?_getD]
theorem Wp {l:List Int}{n:Nat}{k:Int}(h:0≤k):gi (l.drop n) k=gi l (k+(n:Int)):=by
 unfold gi;rw [List.getD_eq_getElem?_getD,List.getElem?_drop,List.getD_eq_getElem?_getD,show (k+(n:Int)).toNat=n+k.toNat by omega]
theorem Ui {l:List Int}{a b k:Int}(h0:0≤a) (h1:a≤b) (h2:b≤(l.length:Int)) (hk:0≤k):gi (gU lt l a b) k=if a≤k∧k<b then gi (sortB lt (seg l a b)) (k-a) else gi l k:=by
 have hs:=Kq h0 h1 h2
 have hq:((sortB lt (seg l a b)).length:Int)=b-a:=by rw [tu];exact hs
 have ht:((l.take a.toNat).length:Int)=a:=by rw [List.length_take];omega
 unfold gU;rw [List.append_assoc,arp hk,ht]
 by_cases c:k<a
 ·rw [if_pos c,if_neg (by omega),Wn (by omega)]
 ·rw [if_neg c,arp (by omega),hq]
  by_cases c2:k<b
  ·rw [if_pos (by omega),if_pos (by omega)]
  ·rw [if_neg (by omega),if_neg (by omega),Wp (by omega)]
   congr 1
   omega
theorem jv {l:List Int}{a b k:Int}(h0:0≤a) (h1:a≤b) (h2:b≤(l.length:Int)) (hk:0≤k) (h:k<a∨b≤k):gi (gU lt l a b) k=gi l k:=by
 rw [Ui h0 h1 h2 hk,if_neg (by omega)]
theorem amH {l:List Int}{a b k:Int}(h0:0≤a) (h1:a≤b) (h2:b≤(l.length:Int)) (hk:a≤k) (hb:k<b):∃j,(a≤j∧j<b)∧gi (gU lt l a b) k=gi l j:=by
 have hs:=Kq h0 h1 h2
 rw [Ui h0 h1 h2 (by omega),if_pos ⟨hk,hb⟩]
 have hm:gi (sortB lt (seg l a b)) (k-a)∈sortB lt (seg l a b):=jq (by omega) (by rw [tu];omega)
 have hm:=lD.subset hm
 obtain ⟨i,hi,e⟩:=List.mem_iff_getElem.1 hm;refine ⟨a+i,by omega,?_⟩
 rw [←e,←abh (b:=b) h0 (by omega) (by omega),jA (by simpa using hi)]
 simp
theorem zU (O:CP lt) {l:List Int}{a b:Int}(h0:0≤a) (h1:a≤b) (h2:b≤(l.length:Int)):mJ lt (gU lt l a b) a b:=λx y hx hxy hy=>by
 have hs:=Kq h0 h1 h2
 rw [Ui h0 h1 h2 (by omega),Ui h0 h1 h2 (by omega),if_pos (by omega),if_pos (by omega)]
 have hl:(sortB lt (seg l a b)).length=(seg l a b).length:=tu
 have:=List.pairwise_iff_getElem.1 (sN O (l:=seg l a b)) (x-a).toNat (y-a).toNat (by omega) (by omega) (by omega)
 rwa [←jA,←jA] at this
theorem amV {l:List Int}{a b:Int}(h0:0≤a) (h1:a≤b) (h2:b≤(l.length:Int)) (h:mJ lt l a b):(seg l a b).Pairwise (λa b=>lt b a=false):=by
 have hs:=Kq h0 h1 h2
 rw [List.pairwise_iff_getElem];intro i j hi hj hij
 have:=h (a+i) (a+j) (by omega) (by omega) (by omega)
 rw [←abh (b:=b) h0 (by omega) (by omega),←abh (b:=b) h0 (by omega) (by omega),jA (by simpa using hj),jA (by simpa using hi)] at this
 simpa using this
theorem Dk (O:A7 lt) {l m:List Int}{a b:Int}(h0:0≤a) (h1:a≤b) (h2:b≤(l.length:Int)) (hp:m.Perm l) (ho:∀k,0≤k→(k<a∨b≤k)→gi m k=gi l k) (hs:mJ lt m a b):m=gU lt l a b:=by
 have hl:=hp.length_eq
 have e1:m.take a.toNat=l.take a.toNat:=kP (by simp [hl]) λj j0 j1=>by
  rw [List.length_take] at j1;rw [Wn (by omega),Wn (by omega)]
  exact ho j j0 (by omega)
 have e2:m.drop b.toNat=l.drop b.toNat:=kP (by simp [hl]) λj j0 j1=>by
  rw [Wp j0,Wp j0];exact ho _ (by omega) (by omega)
 have em:=Gq (l:=m) h1
 have el:=Gq (l:=l) h1
 have hq:(seg m a b).Perm (seg l a b):=by
  rw [em,el,e1,e2] at hp;rw [List.perm_append_right_iff,List.perm_append_left_iff] at hp;exact hp
 have es:=Di O hq (amV h0 h1 (by omega) hs)
 unfold gU;rw [←es,←e1,←e2];exact em
theorem Lr (O:A7 lt) {l:List Int}{a b:Int}(h0:0≤a) (h1:a≤b) (h2:b≤(l.length:Int)) (hs:mJ lt l a b):gU lt l a b=l:=(Dk O h0 h1 h2 (List.Perm.refl _) (λ_ _ _=>rfl) hs).symm
theorem aEX (O:A7 lt) {l m:List Int}{a b:Int}(h0:0≤a) (h1:a≤b) (h2:b≤(l.length:Int)) (hp:m.Perm l) (ho:∀k,0≤k→(k<a∨b≤k)→gi m k=gi l k):gU lt m a b=gU lt l a b:=by
 have hl:=hp.length_eq
 exact Dk O h0 h1 h2 ((iO h1).trans hp) (λk k0 hk=>by rw [jv h0 h1 (by omega) k0 hk];exact ho k k0 hk) (zU O.ord h0 h1 (by omega))
def exZ (l:List Int) (i j:Int):List Int:=(l.set i.toNat (gi l j)).set j.toNat (gi l i)
theorem x9 {l:List Int}{i j:Int}:(exZ l i j).length=l.length:=by simp [exZ]
theorem G9 {l:List Int}{i j k:Int}(i0:0≤i) (i1:i<(l.length:Int)) (j0:0≤j) (j1:j<(l.length:Int)) (k0:0≤k):gi (exZ l i j) k=if k=j then gi l i else if k=i then gi l j else gi l k:=by
 unfold exZ;rw [mW j0 (by rw [List.length_set];exact j1) k0,mW i0 i1 k0]
theorem NQ {l:List Int}{i j:Int}(i0:0≤i) (i1:i<(l.length:Int)) (_:0≤j) (j1:j<(l.length:Int)):(exZ l i j).Perm l:=by
 unfold exZ;rw [jA (n:=i) (by omega),jA (n:=j) (by omega)]
 exact List.set_set_perm (by omega) (by omega)
def P7 (l:List Int) (a b n:Int):List Int:=mpZ l.length (λk=>if a≤k∧k<a+n then gi l (k+(b-a)) else if b≤k∧k<b+n then gi l (k-(b-a)) else gi l k)
theorem kZ {l:List Int}{a b n:Int}:(P7 l a b n).length=l.length:=KA
theorem aAU {l:List Int}{a b:Int}:P7 l a b 0=l:=kP KA λj j0 j1=>by
 unfold P7;rw [MQ j0 j1,if_neg (by omega),if_neg (by omega)]
theorem X8 {l:List Int}{a b n:Int}(h0:0≤a) (h1:1≤n) (h2:a+n≤b) (h3:b+n≤(l.length:Int)):P7 (exZ l a b) (a+1) (b+1) (n-1)=P7 l a b n:=kP (by rw [kZ,kZ,x9]) λj j0 j1=>by
 rw [kZ] at j1;unfold P7;rw [x9,MQ j0 j1,MQ j0 j1]
 have g:=λk k0=>G9 (l:=l) (i:=a) (j:=b) (k:=k) h0 (by omega) (by omega) (by omega) k0
 split
 ·rw [g _ (by omega),if_neg (by omega),if_neg (by omega),if_pos (by omega)]
  congr 1
  omega
 ·split
  ·rw [g _ (by omega),if_neg (by omega),if_neg (by omega),if_neg (by omega),if_pos (by omega)]
   congr 1
   omega
  ·rw [g _ j0]
   by_cases c1:j=b
   ·rw [if_pos c1,if_neg (by omega),if_pos (by omega)]
    congr 1
    omega
   ·rw [if_neg c1]
    by_cases c2:j=a
    ·rw [if_pos c2,if_pos (by omega)]
     congr 1
     omega
    ·rw [if_neg c2,if_neg (by omega),if_neg (by omega)]
theorem Df:∀(n:Nat) {l:List Int}{a b:Int},0≤a→a+n≤b→b+n≤(l.length:Int)→(P7 l a b n).Perm l
 |0,l,a,b,_,_,_=>by
  show (P7 l a b 0).Perm l
  rw [aAU]
 |n+1,l,a,b,h0,h1,h2=>by
  rw [←X8 h0 (by omega) (by omega) (by omega),show ((n+1:Nat):Int)-1=(n:Int) by omega]
  exact (Df n (by omega) (by omega) (by rw [x9];omega)).trans (NQ h0 (by omega) (by omega) (by omega))
def fU (l:List Int) (s m e:Int):List Int:=mpZ l.length (λk=>if s≤k∧k<s+(e-m) then gi l (k+(m-s)) else if s+(e-m)≤k∧k<e then gi l (k-(e-m)) else gi l k)
theorem dW {l:List Int}{s m e:Int}:(fU l s m e).length=l.length:=KA
theorem iT {l:List Int}{s m e k:Int}(k0:0≤k) (k1:k<(l.length:Int)):gi (fU l s m e) k=if s≤k∧k<s+(e-m) then gi l (k+(m-s)) else if s+(e-m)≤k∧k<e then gi l (k-(e-m)) else gi l k:=MQ k0 k1
theorem Ur {l:List Int}{m e:Int}:fU l m m e=l:=kP dW λj j0 j1=>by
 rw [iT j0 j1];split
 ·congr 1
  omega
 ·rw [if_neg (by omega)]
theorem abp {l:List Int}{s m:Int}:fU l s m m=l:=kP dW λj j0 j1=>by
 rw [iT j0 j1,if_neg (by omega)]
 split
 ·congr 1
  omega
 ·rfl
theorem aa9 {l:List Int}{a b n k:Int}(k0:0≤k) (k1:k<(l.length:Int)):gi (P7 l a b n) k=if a≤k∧k<a+n then gi l (k+(b-a)) else if b≤k∧k<b+n then gi l (k-(b-a)) else gi l k:=MQ k0 k1
theorem abo {l:List Int}{m i:Int}:P7 l (m-i) m i=fU l (m-i) m (m+i):=kP (by rw [kZ,dW]) λj j0 j1=>by
 rw [dW] at j1;rw [aa9 j0 j1,iT j0 j1]
 by_cases c1:m-i≤j∧j<m
 ·rw [if_pos (by omega),if_pos (by omega)]
 ·by_cases c2:m≤j∧j<m+i
  ·rw [if_neg (by omega),if_pos (by omega),if_neg (by omega),if_pos (by omega)]
   congr 1
   omega
  ·rw [if_neg (by omega),if_neg (by omega),if_neg (by omega),if_neg (by omega)]
theorem ana {l:List Int}{m i j:Int}(h0:0≤m-i) (h1:1≤j) (h2:j<i) (h3:m+j≤(l.length:Int)):fU (P7 l (m-i) m j) (m-(i-j)) m (m+j)=fU l (m-i) m (m+j):=kP (by rw [dW,dW,kZ]) λk k0 k1=>by
 rw [dW] at k1
 have g:=λq q0 q1=>aa9 (l:=l) (a:=m-i) (b:=m) (n:=j) (k:=q) q0 q1
 rw [iT k0 (by rw [kZ];exact k1),iT k0 k1]
 split
 ·rw [g _ (by omega) (by omega)]
  by_cases c:m≤k+(m-(m-(i-j)))
  ·rw [if_neg (by omega),if_pos (by omega),if_neg (by omega),if_pos (by omega)]
   congr 1
   omega
  ·exfalso
   omega
 ·split
  ·rw [g _ (by omega) (by omega),if_neg (by omega),if_neg (by omega),if_neg (by omega),if_pos (by omega)]
  ·rw [g _ k0 k1]
   by_cases c:m-i≤k∧k<m-i+j
   ·rw [if_pos c,if_pos (by omega)]
   ·rw [if_neg c,if_neg (by omega),if_neg (by omega),if_neg (by omega)]
theorem am9 {l:List Int}{m i j:Int}(h0:0≤m-i) (h1:1≤i) (h2:i<j) (h3:m+j≤(l.length:Int)):fU (P7 l (m-i) (m+j-i) i) (m-i) m (m+(j-i))=fU l (m-i) m (m+j):=kP (by rw [dW,dW,kZ]) λk k0 k1=>by
 rw [dW] at k1
 have g:=λq q0 q1=>aa9 (l:=l) (a:=m-i) (b:=m+j-i) (n:=i) (k:=q) q0 q1
 rw [iT k0 (by rw [kZ];exact k1),iT k0 k1]
 split
 ·rw [g _ (by omega) (by omega),if_neg (by omega),if_neg (by omega),if_pos (by omega)]
 ·split
  ·rw [g _ (by omega) (by omega),if_pos (by omega),if_pos (by omega)]
   congr 1
   omega
  ·rw [g _ k0 k1]
   by_cases c:m+j-i≤k∧k<m+j
   ·rw [if_neg (by omega),if_pos (by omega),if_neg (by omega),if_pos (by omega)]
    congr 1
    omega
   ·rw [if_neg (by omega),if_neg (by omega),if_neg (by omega),if_neg (by omega)]
theorem Gw:∀(n:Nat) {l:List Int}{m i j:Int},(i+j).toNat≤n→0≤m-i→0≤i→0≤j→m+j≤(l.length:Int)→(fU l (m-i) m (m+j)).Perm l
 |0,l,m,i,j,hn,h0,hi,hj,hl=>by
  rw [show i=0 by omega,Int.sub_zero,Ur]
 | n +1,l,m,i,j,hn,h0,hi,hj,hl=>by
  by_cases c0:i=0
  ·rw [c0,Int.sub_zero,Ur]
  ·by_cases c1:j=0
   ·rw [c1,Int.add_zero,abp]
   ·by_cases c2:j<i
    ·rw [←ana h0 (by omega) c2 hl]
     refine (Gw n (by omega) (by omega) (by omega) hj (by rw [kZ];exact hl)).trans ?_
     have:=Df j.toNat (l:=l) (a:=m-i) (b:=m) h0 (by omega) (by omega)
     rwa [Int.toNat_of_nonneg hj] at this
    ·by_cases c3:i<j
     ·rw [←am9 h0 (by omega) c3 hl]
      refine (Gw n (by omega) (by omega) (by omega) (by omega) (by rw [kZ];omega)).trans ?_
      have:=Df i.toNat (l:=l) (a:=m-i) (b:=m+j-i) h0 (by omega) (by omega)
      rwa [Int.toNat_of_nonneg hi] at this
     ·rw [show j=i by omega,←abo]
      have:=Df i.toNat (l:=l) (a:=m-i) (b:=m) h0 (by omega) (by omega)
      rwa [Int.toNat_of_nonneg hi] at this
theorem wK {l:List Int}{s m e:Int}(h0:0≤s) (h1:s≤m) (h2:m≤e) (h3:e≤(l.length:Int)):(fU l s m e).Perm l:=by
 have:=Gw _ (l:=l) (m:=m) (i:=m-s) (j:=e-m) (Nat.le_refl _) (by omega) (by omega) (by omega) (by omega)
 rwa [show m-(m-s)=s by omega,show m+(e-m)=e by omega] at this
theorem Aj {l:List Int}{s m e k:Int}(h1:s≤m) (h2:m≤e) (k0:0≤k) (h:k<s∨e≤k):gi (fU l s m e) k=gi l k:=by
 by_cases c:k<(l.length:Int)
 ·rw [iT k0 c,if_neg (by omega),if_neg (by omega)]
 ·unfold gi
  rw [List.getD_eq_getElem?_getD,List.getD_eq_getElem?_getD,List.getElem?_eq_none (by rw [dW];omega),List.getElem?_eq_none (by omega)]
theorem vM (O:CP lt) {l:List Int}{a b x y:Int}(h:mJ lt l a b) (hx:a≤x) (hxy:x≤y) (hy:y<b):lt (gi l y) (gi l x)=false:=by
 by_cases e:x=y
 ·rw [e];exact O.irr
 ·exact h x y hx (by omega) hy
theorem amx (O:A7 lt) {l:List Int}{a s m e b mid:Int}(h0:0≤a) (h1:a≤s) (h2:s≤m) (h3:m≤e) (h4:e≤b) (h5:b≤(l.length:Int)) (hm:mid=s+(e-m)) (hA:mJ lt l a m) (hB:mJ lt l m b)
  (c1:a<s→e<b→lt (gi l e) (gi l (s-1))=false) (c2:s<m→m<e→lt (gi l (e-1)) (gi l s)=true):gU lt (gU lt (fU l s m e) a mid) mid b=gU lt l a b:=by
 have hp:=wK (l:=l) (by omega) h2 h3 (by omega)
 have rl:(fU l s m e).length=l.length:=dW
 have rl2:(gU lt (fU l s m e) a mid).length=l.length:=by rw [sO (by omega),rl]
 have cross:∀x y,a≤x→x<mid→mid≤y→y<b→lt (gi (fU l s m e) y) (gi (fU l s m e) x)=false:=λx y x0 x1 y0 y1=>by
  rw [iT (by omega) (by omega),iT (by omega) (by omega),if_neg (show ¬(s≤y∧y<s+(e-m)) by omega)]
  by_cases cx:s≤x
  ·rw [if_pos (show s≤x∧x<s+(e-m) by omega)]
   by_cases cy:y<e
   ·rw [if_pos (show s+(e-m)≤y∧y<e by omega)]
    have q1:=vM O.ord hA (x:=s) (y:=y-(e-m)) h1 (by omega) (by omega)
    have q2:=O.ord.asym (c2 (by omega) (by omega))
    have q3:=vM O.ord hB (x:=x+(m-s)) (y:=e-1) (by omega) (by omega) (by omega)
    exact O.ord.ntr q1 (O.ord.ntr q2 q3)
   ·rw [if_neg (show ¬(s+(e-m)≤y∧y<e) by omega)]
    exact vM O.ord hB (by omega) (by omega) y1
  ·rw [if_neg (show ¬(s≤x∧x<s+(e-m)) by omega),if_neg (show ¬(s+(e-m)≤x∧x<e) by omega)]
   by_cases cy:y<e
   ·rw [if_pos (show s+(e-m)≤y∧y<e by omega)]
    exact vM O.ord hA x0 (by omega) (by omega)
   ·rw [if_neg (show ¬(s+(e-m)≤y∧y<e) by omega)]
    have q1:=vM O.ord hB (x:=e) (y:=y) h3 (by omega) y1
    have q2:=c1 (by omega) (by omega)
    have q3:=vM O.ord hA (x:=x) (y:=s-1) x0 (by omega) (by omega)
    exact O.ord.ntr q1 (O.ord.ntr q2 q3)
 refine Dk O h0 (by omega) h5 ((iO (by omega)).trans ((iO (by omega)).trans hp)) (λk k0 hk=>?_) (λx y x0 xy y1=>?_)
 ·rw [jv (by omega) (by omega) (by omega) k0 (by omega),jv (by omega) (by omega) (by omega) k0 (by omega),Aj h2 h3 k0 (by omega)]
 ·by_cases cy:y<mid
  ·rw [jv (k:=y) (by omega) (by omega) (by omega) (by omega) (by omega),jv (k:=x) (by omega) (by omega) (by omega) (by omega) (by omega)]
   exact zU O.ord h0 (by omega) (by omega) x y x0 xy cy
  ·by_cases cx:mid≤x
   ·exact zU O.ord (by omega) (by omega) (by omega) x y cx xy y1
   ·obtain ⟨j,⟨j0,j1⟩,e1⟩:=amH (lt:=lt) (l:=gU lt (fU l s m e) a mid) (a:=mid) (b:=b) (k:=y) (by omega) (by omega) (by omega) (by omega) y1
    obtain ⟨i,⟨i0,i1⟩,e2⟩:=amH (lt:=lt) (l:=fU l s m e) (a:=a) (b:=mid) (k:=x) h0 (by omega) (by omega) x0 (by omega)
    rw [e1,jv (k:=j) (by omega) (by omega) (by omega) (by omega) (by omega),jv (k:=x) (by omega) (by omega) (by omega) (by omega) (by omega),e2]
    exact cross i j i0 i1 j0 j1
theorem agq (O:A7 lt) {l:List Int}{a s m e b:Int}(h0:0≤a) (h1:a≤s) (h2:s≤m) (h3:m≤e) (h4:e≤b) (h5:b≤(l.length:Int)) (hA:mJ lt l a m) (hB:mJ lt l m b)
  (c1:∀x y,s≤x→x<m→m≤y→y<e→lt (gi l x) (gi l y)=false) (c2:∀x y,s≤x→x<m→e≤y→y<b→lt (gi l y) (gi l x)=false) (c3:∀x y,a≤x→x<s→m≤y→y<b→lt (gi l y) (gi l x)=false):fU l s m e=gU lt l a b:=by
 refine Dk O h0 (by omega) h5 (wK (by omega) h2 h3 (by omega)) (λk k0 hk=>Aj h2 h3 k0 (by omega)) (λx y x0 xy y1=>?_)
 rw [iT (by omega) (by omega),iT (by omega) (by omega)]
 by_cases x1:x<s
 ·rw [if_neg (show ¬(s≤x∧x<s+(e-m)) by omega),if_neg (show ¬(s+(e-m)≤x∧x<e) by omega)]
  split
  ·exact c3 _ _ x0 x1 (by omega) (by omega)
  ·split
   ·exact hA _ _ x0 (by omega) (by omega)
   ·by_cases y2:y<m
    ·exact hA _ _ x0 xy y2
    ·exact c3 _ _ x0 x1 (by omega) y1
 ·by_cases x2:x<s+(e-m)
  ·rw [if_pos (show s≤x∧x<s+(e-m) by omega)]
   split
   ·exact hB _ _ (by omega) (by omega) (by omega)
   ·split
    ·exact c1 _ _ (by omega) (by omega) (by omega) (by omega)
    ·exact hB _ _ (by omega) (by omega) y1
  ·rw [if_neg (show ¬(s≤x∧x<s+(e-m)) by omega),if_neg (show ¬(s≤y∧y<s+(e-m)) by omega)]
   by_cases x3:x<e
   ·rw [if_pos (show s+(e-m)≤x∧x<e by omega)]
    split
    ·exact hA _ _ (by omega) (by omega) (by omega)
    ·exact c2 _ _ (by omega) (by omega) (by omega) y1
   ·rw [if_neg (show ¬(s+(e-m)≤x∧x<e) by omega),if_neg (show ¬(s+(e-m)≤y∧y<e) by omega)]
    exact hB _ _ (by omega) xy y1
theorem aLd (O:A7 lt) {l:List Int}{a m i b:Int}(h0:0≤a) (hm:m=a+1) (h1:m≤i) (h2:i≤b) (h5:b≤(l.length:Int)) (hB:mJ lt l m b) (c1:i=m∨lt (gi l (i-1)) (gi l a)=true) (c2:i=b∨lt (gi l i) (gi l a)=false):fU l a m i=gU lt l a b:=by
 refine agq O h0 (Int.le_refl a) (by omega) h1 h2 h5 (λx y x0 xy y1=>by omega) hB (λx y x0 x1 y0 y1=>?_) (λx y x0 x1 y0 y1=>?_) (λx y x0 x1=>by omega)
 ·rw [show x=a by omega]
  rcases c1 with c1|c1
  ·omega
  ·exact O.ord.ntr (O.ord.asym c1) (vM O.ord hB y0 (by omega) (by omega))
 ·rw [show x=a by omega]
  rcases c2 with c2|c2
  ·omega
  ·exact O.ord.ntr (vM O.ord hB h1 y0 y1) c2
theorem aLc (O:A7 lt) {l:List Int}{a m i b:Int}(h0:0≤a) (hb:b=m+1) (h1:a≤i) (h2:i≤m) (h5:b≤(l.length:Int)) (hA:mJ lt l a m) (c1:i=a∨lt (gi l m) (gi l (i-1))=false) (c2:i=m∨lt (gi l m) (gi l i)=true):fU l i m b=gU lt l a b:=by
 refine agq O h0 h1 h2 (by omega) (Int.le_refl b) h5 hA (λx y x0 xy y1=>by omega) (λx y x0 x1 y0 y1=>?_) (λx y x0 x1 y0 y1=>by omega) (λx y x0 x1 y0 y1=>?_)
 ·rw [show y=m by omega]
  rcases c2 with c2|c2
  ·omega
  ·exact O.ord.ntr (vM O.ord hA h1 x0 x1) (O.ord.asym c2)
 ·rw [show y=m by omega]
  rcases c1 with c1|c1
  ·omega
  ·exact O.ord.ntr c1 (vM O.ord hA x0 (by omega) (by omega))
theorem aGA {l:List Int}{k i:Int}(k0:0≤k) (h1:k<i-1) (h2:i≤(l.length:Int)):fU (exZ l k (k+1)) (k+1) (k+2) i=fU l k (k+1) i:=kP (by rw [dW,dW,x9]) λj j0 j1=>by
 rw [dW] at j1
 have g:=λq q0=>G9 (l:=l) (i:=k) (j:=k+1) (k:=q) k0 (by omega) (by omega) (by omega) q0
 rw [iT j0 (by rw [x9];exact j1),iT j0 j1]
 split
 ·rw [g _ (by omega),if_neg (by omega),if_neg (by omega),if_pos (by omega)]
  congr 1
  omega
 ·split
  ·rw [g _ (by omega),if_pos (by omega),if_neg (by omega),if_pos (by omega)]
   congr 1
   omega
  ·rw [g _ j0]
   by_cases c:j=k
   ·rw [if_neg (by omega),if_pos c,if_pos (by omega)]
    congr 1
    omega
   ·rw [if_neg (by omega),if_neg c,if_neg (by omega),if_neg (by omega)]
theorem aGB {l:List Int}{k i:Int}(i0:0≤i) (h1:i<k) (h2:k<(l.length:Int)):fU (exZ l k (k-1)) i (k-1) k=fU l i k (k+1):=kP (by rw [dW,dW,x9]) λj j0 j1=>by
 rw [dW] at j1
 have g:=λq q0=>G9 (l:=l) (i:=k) (j:=k-1) (k:=q) (by omega) h2 (by omega) (by omega) q0
 rw [iT j0 (by rw [x9];exact j1),iT j0 j1]
 split
 ·rw [g _ (by omega),if_pos (by omega),if_pos (by omega)]
  congr 1
  omega
 ·split
  ·rw [g _ (by omega),if_neg (by omega),if_neg (by omega),if_neg (by omega),if_pos (by omega)]
   congr 1
   omega
  ·rw [g _ j0,if_neg (by omega)]
   by_cases c:j=k
   ·rw [if_pos c,if_neg (by omega),if_pos (by omega)]
    congr 1
    omega
   ·rw [if_neg c,if_neg (by omega),if_neg (by omega)]
end
section
variable {lt : Int → Int → Bool}
def acH (lt:Int→Int→Bool) (l:List Int) (a i j:Int):Prop:=∀x y:Int,a≤x→x<y→y≤i→y≠j→lt (gi l y) (gi l x)=false
theorem aHW {l:List Int}{a i:Int}(h:mJ lt l a i):acH lt l a i i:=λx y h1 h2 h3 h4=>h x y h1 h2 (by omega)
theorem alr (O:CP lt) {l:List Int}{a i j:Int}(h0:0≤a) (h1:a<j) (h2:j≤i) (h3:i<(l.length:Int)) (h:acH lt l a i j) (c:lt (gi l j) (gi l (j-1))=true):acH lt (exZ l j (j-1)) a i (j-1):=λx y x0 xy y1 yn=>by
 rw [G9 (by omega) (by omega) (by omega) (by omega) (by omega),G9 (by omega) (by omega) (by omega) (by omega) (by omega),if_neg yn]
 by_cases e:y=j
 ·rw [if_pos e]
  by_cases e2:x=j-1
  ·rw [if_pos e2]
   exact O.asym c
  ·rw [if_neg e2,if_neg (by omega)]
   exact h x (j-1) x0 (by omega) (by omega) (by omega)
 ·rw [if_neg e]
  by_cases e2:x=j-1
  ·rw [if_pos e2]
   exact h j y (by omega) (by omega) y1 e
  ·rw [if_neg e2]
   by_cases e3:x=j
   ·rw [if_pos e3]
    exact h (j-1) y (by omega) (by omega) y1 e
   ·rw [if_neg e3]
    exact h x y x0 xy y1 e
theorem Y4 (O:CP lt) {l:List Int}{a i j:Int}(_:a≤j) (h2:j≤i) (h:acH lt l a i j) (c:j=a∨lt (gi l j) (gi l (j-1))=false):mJ lt l a (i+1):=λx y x0 xy y1=>by
 by_cases e:y=j
 ·rcases c with c|c
  ·omega
  ·rw [e]
   by_cases e2:x=j-1
   ·rw [e2];exact c
   ·exact O.ntr c (h x (j-1) x0 (by omega) (by omega) (by omega))
 ·exact h x y x0 xy (by omega) e
theorem az9 (O:A7 lt) {l:List Int}{a b i j:Int}(h0:0≤a) (hb:b≤(l.length:Int)) (i0:a≤i) (i1:i<b) (j0:a≤j) (j1:j<b):gU lt (exZ l i j) a b=gU lt l a b:=
 aEX O h0 (by omega) hb (NQ (by omega) (by omega) (by omega) (by omega)) λk k0 hk=>by
  rw [G9 (by omega) (by omega) (by omega) (by omega) k0,if_neg (by omega),if_neg (by omega)]
def wR (l:List Int) (n:Nat):Prop:=∀x∈l,0≤x∧x<(n:Int)
theorem jB {l m:List Int}{n:Nat}(hp:m.Perm l) (h:wR l n):wR m n:=λx hx=>h x (hp.subset hx)
theorem vX {l:List Int}{n:Nat}{k:Int}(h:wR l n) (k0:0≤k) (k1:k<(l.length:Int)):0≤gi l k∧gi l k<(n:Int):=h _ (jq (by omega) k1)
theorem Yp {l:List Int}{a b a' b':Int}(h:mJ lt l a b) (h1:a≤a') (h2:b'≤b):mJ lt l a' b':=λx y x0 xy y1=>h x y (by omega) xy (by omega)
def blk (lt:Int→Int→Bool) (l:List Int) (bs n:Int):Prop:=∀x y:Int,0≤x→x<y→y<n→x / bs=y / bs→lt (gi l y) (gi l x)=false
def mrI (lt:Int→Int→Bool) (l:List Int) (bs a n:Int):Prop:=blk lt l (2*bs) a∧∀x y:Int,a≤x→x<y→y<n→x / bs=y / bs→lt (gi l y) (gi l x)=false
abbrev bsP (bs:Int):Prop:=bs=20∨bs=40∨bs=80
theorem aMM {l:List Int}{bs n:Int}(h:blk lt l bs n):mrI lt l bs 0 n:=⟨λx y x0 xy y1=>by omega,λx y x0 xy y1 e=>h x y x0 xy y1 e⟩
theorem aBs {l:List Int}{bs a n b:Int}(hb:bsP bs) (_:0≤a) (ha:a%(2*bs)=0) (hn:b≤n) (h1:b≤a+bs) (h:mrI lt l bs a n):mJ lt l a b:=λx y x0 xy y1=>h.2 x y x0 xy (by omega) (by
 rcases hb with rfl|rfl|rfl<;>omega)
theorem aBr {l:List Int}{bs a n b:Int}(hb:bsP bs) (_:0≤a) (ha:a%(2*bs)=0) (hn:b≤n) (h1:b≤a+2*bs) (h:mrI lt l bs a n):mJ lt l (a+bs) b:=λx y x0 xy y1=>h.2 x y (by rcases hb with rfl|rfl|rfl<;>omega) xy (by omega) (by
 rcases hb with rfl|rfl|rfl<;>omega)
theorem ap9 (O:CP lt) {l:List Int}{bs a n b:Int}(hb:bsP bs) (h0:0≤a) (ha:a%(2*bs)=0) (hn:b≤n) (hl:n≤(l.length:Int)) (h1:b=a+2*bs) (h:mrI lt l bs a n):mrI lt (gU lt l a b) bs b n:=by
 have hab:a≤b:=by rcases hb with rfl|rfl|rfl<;>omega
 refine ⟨λx y x0 xy y1 e=>?_,λx y x0 xy y1 e=>?_⟩
 ·by_cases c:y<a
  ·rw [jv h0 hab (by omega) (by omega) (by omega),jv h0 hab (by omega) (by omega) (by omega)]
   exact h.1 x y x0 xy c e
  ·refine zU O h0 hab (by omega) x y ?_ xy y1
   rcases hb with rfl|rfl|rfl<;>omega
 ·rw [jv h0 hab (by omega) (by omega) (by omega),jv h0 hab (by omega) (by omega) (by omega)]
  exact h.2 x y (by omega) xy y1 e
theorem aqb {l:List Int}{bs a n:Int}(hb:bsP bs) (_:0≤a) (ha:a%(2*bs)=0) (h1:n≤a+bs) (h:mrI lt l bs a n):blk lt l (2*bs) n:=λx y x0 xy y1 e=>by
 by_cases c:y<a
 ·exact h.1 x y x0 xy c e
 ·refine h.2 x y ?_ xy y1 ?_<;>rcases hb with rfl|rfl|rfl<;>omega
theorem aqa (O:CP lt) {l:List Int}{bs a n:Int}(hb:bsP bs) (h0:0≤a) (ha:a%(2*bs)=0) (h1:n<a+2*bs) (han:a≤n) (hl:n≤(l.length:Int)) (h:mrI lt l bs a n):blk lt (gU lt l a n) (2*bs) n:=λx y x0 xy y1 e=>by
 by_cases c:y<a
 ·rw [jv h0 han hl (by omega) (by omega),jv h0 han hl (by omega) (by omega)]
  exact h.1 x y x0 xy c e
 ·refine zU O h0 han hl x y ?_ xy y1
  rcases hb with rfl|rfl|rfl<;>omega
theorem aAw {l:List Int}{bs n:Int}(hb:bsP bs∨bs=160) (h1:n≤bs) (h:blk lt l bs n):mJ lt l 0 n:=λx y x0 xy y1=>h x y x0 xy y1 (by
 rcases hb with (rfl|rfl|rfl) |rfl<;>omega)
theorem asb (O:CP lt) {l:List Int}{a b:Int}(h0:0≤a) (ha:a%20=0) (hab:a≤b) (h1:b≤a+20) (hl:b≤(l.length:Int)) (h:blk lt l 20 a):blk lt (gU lt l a b) 20 b:=λx y x0 xy y1 e=>by
 by_cases c:y<a
 ·rw [jv h0 hab hl (by omega) (by omega),jv h0 hab hl (by omega) (by omega)]
  exact h x y x0 xy c e
 ·exact zU O h0 hab hl x y (by omega) xy y1
theorem hlf {x:Int}(h0:0≤x) (h1:x≤1000000000):aSe ((IntKind.u64.wrap (aSe x)).fdiv (2^1))=x / 2:=by
 have hu:IntKind.u64.wrap x=x:=by simp [IntKind.wrap,IntKind.bits,IntKind.signed];omega
 rw [aH (x:=x),hu,Int.fdiv_eq_ediv_of_nonneg _ (by decide)]
 exact aH
def bsF (F:Int→Bool):Nat→Int→Int→Int
 |0,i,_=>i
 |k+1,i,j=>if i<j then (if F ((i+j) / 2)=true then bsF F k ((i+j) / 2+1) j else bsF F k i ((i+j) / 2)) else i
def yO (F:Int→Bool) (i j:Int):Int:=bsF F (j-i).toNat i j
theorem NU {F:Int→Bool}:∀(k k':Nat) (i j:Int),(j-i).toNat≤k→(j-i).toNat≤k'→bsF F k i j=bsF F k' i j
 |0,0,_,_,_,_=>rfl
 |0,k'+1,i,j,h,_=>by
  rw [bsF,bsF,if_neg (by omega)]
 |k+1,0,i,j,_,h=>by
  rw [bsF,bsF,if_neg (by omega)]
 |k+1,k'+1,i,j,h,h'=>by
  rw [bsF,bsF]
  by_cases c:i<j
  ·rw [if_pos c,if_pos c,NU k k' ((i+j) / 2+1) j (by omega) (by omega),NU k k' i ((i+j) / 2) (by omega) (by omega)]
  ·rw [if_neg c,if_neg c]
theorem uq {F:Int→Bool}{i j:Int}(c:i<j):yO F i j=if F ((i+j) / 2)=true then yO F ((i+j) / 2+1) j else yO F i ((i+j) / 2):=by
 unfold yO;rw [NU (j-i).toNat ((j-i-1).toNat+1) i j (Nat.le_refl _) (by omega),bsF,if_pos c,NU (j-i-1).toNat (j-((i+j) / 2+1)).toNat ((i+j) / 2+1) j (by omega) (Nat.le_refl _),NU (j-i-1).toNat ((i+j) / 2-i).toNat i ((i+j) / 2) (by omega) (Nat.le_refl _)]
theorem KO {F:Int→Bool}{i j:Int}(c:¬i<j):yO F i j=i:=by
 unfold yO;rw [show (j-i).toNat=0 by omega,bsF]
theorem wU {F:Int→Bool}:∀(n:Nat) {i j:Int},(j-i).toNat≤n→i≤j→(i≤yO F i j∧yO F i j≤j)∧(yO F i j=i∨F (yO F i j-1)=true)∧(yO F i j=j∨F (yO F i j)=false)
 | n, i,j,h,hij=>by
  by_cases c:i<j
  ·match n,h with
   |0,h=>omega
   | n+1,h=>
    rw [uq c]
    by_cases f:F ((i+j) / 2)=true
    ·rw [if_pos f]
     obtain ⟨h1,h2,h3⟩:=wU n (F:=F) (i:=(i+j) / 2+1) (j:=j) (by omega) (by omega)
     refine ⟨by omega,?_,h3⟩
     rcases h2 with h2|h2
     ·right
      rw [h2,show (i+j) / 2+1-1=(i+j) / 2 by omega]
      exact f
     ·exact .inr h2
    ·rw [if_neg f]
     obtain ⟨h1,h2,h3⟩:=wU n (F:=F) (i:=i) (j:=(i+j) / 2) (by omega) (by omega)
     refine ⟨by omega,h2,?_⟩
     rcases h3 with h3|h3
     ·right
      rw [h3]
      simpa using f
     ·exact .inr h3
  ·rw [KO c]
   exact ⟨by omega,.inl rfl,.inl (by omega)⟩
theorem akY (O:A7 lt) {l:List Int}(h:mJ lt l 0 (l.length:Int)):sortB lt l=l:=by
 have h2:=amV (Int.le_refl 0) (by omega) (Int.le_refl _) h
 have e:seg l 0 (l.length:Int)=l:=by
  unfold seg
  simp
 rw [e] at h2;exact (Di O (List.Perm.refl l) h2).symm
end
section
variable {lt : Int → Int → Bool}
structure asj (lt:Int→Int→Bool) (l:List Int) (a m b mid q e:Int):Prop where
 o:0≤a
 len:b≤(l.length:Int)
 aq:a≤q
 qm:q≤m
 me:m≤e
 eb:e≤b
 qd:q≤mid
 de:mid≤e
 dd:mid=q+(e-m)
 sA:mJ lt l a m
 sB:mJ lt l m b
 c1:a<q→e<b→lt (gi l e) (gi l (q-1))=false
 c2:q<m→m<e→lt (gi l (e-1)) (gi l q)=true
theorem aEJ {l:List Int}{a m b q:Int}(h0:0≤a) (_:a<m) (h2:m<b) (h3:b≤(l.length:Int)) (sA:mJ lt l a m) (sB:mJ lt l m b) (hm:(a+b) / 2<m)
  (hq:q=yO (λc=>!lt (gi l ((a+b) / 2+m-1-c)) (gi l c)) ((a+b) / 2+m-b) ((a+b) / 2)):asj lt l a m b ((a+b) / 2) q ((a+b) / 2+m-q):=by
 obtain ⟨g1,g2,g3⟩:=wU (F:=λc=>!lt (gi l ((a+b) / 2+m-1-c)) (gi l c)) _ (i:=(a+b) / 2+m-b) (j:=(a+b) / 2) (Nat.le_refl _) (by omega)
 rw [←hq] at g1 g2 g3;refine ⟨h0,h3,by omega,by omega,by omega,by omega,by omega,by omega,by omega,sA,sB,λx y=>?_,λx y=>?_⟩
 ·rcases g2 with g2|g2
  ·omega
  ·rw [show (a+b) / 2+m-1-(q-1)=(a+b) / 2+m-q by omega] at g2
   simpa using g2
 ·rcases g3 with g3|g3
  ·omega
  ·rw [show (a+b) / 2+m-1-q=(a+b) / 2+m-q-1 by omega] at g3
   simpa using g3
theorem aEI {l:List Int}{a m b q:Int}(h0:0≤a) (h1:a<m) (_:m<b) (h3:b≤(l.length:Int)) (sA:mJ lt l a m) (sB:mJ lt l m b) (hm:m≤(a+b) / 2)
  (hq:q=yO (λc=>!lt (gi l ((a+b) / 2+m-1-c)) (gi l c)) a m):asj lt l a m b ((a+b) / 2) q ((a+b) / 2+m-q):=by
 obtain ⟨g1,g2,g3⟩:=wU (F:=λc=>!lt (gi l ((a+b) / 2+m-1-c)) (gi l c)) _ (i:=a) (j:=m) (Nat.le_refl _) (by omega)
 rw [←hq] at g1 g2 g3;refine ⟨h0,h3,by omega,by omega,by omega,by omega,by omega,by omega,by omega,sA,sB,λx y=>?_,λx y=>?_⟩
 ·rcases g2 with g2|g2
  ·omega
  ·rw [show (a+b) / 2+m-1-(q-1)=(a+b) / 2+m-q by omega] at g2
   simpa using g2
 ·rcases g3 with g3|g3
  ·omega
  ·rw [show (a+b) / 2+m-1-q=(a+b) / 2+m-q-1 by omega] at g3
   simpa using g3
namespace asj
variable {l : List Int} {a m b mid q e : Int} (S : asj lt l a m b mid q e)
include S
theorem r1:mJ lt (fU l q m e) a q:=λx y x0 xy y1=>by
 have:=S.o;have:=S.qm;have:=S.me
 rw [Aj S.qm S.me (by omega) (by omega),Aj S.qm S.me (by omega) (by omega)]
 exact S.sA x y x0 xy (by omega)
theorem r2:mJ lt (fU l q m e) q mid:=λx y x0 xy y1=>by
 have:=S.o;have:=S.aq;have:=S.dd;have:=S.qm;have:=S.me;have:=S.eb;have:=S.len
 rw [iT (by omega) (by omega),iT (by omega) (by omega),if_pos (by omega),if_pos (by omega)]
 exact S.sB _ _ (by omega) (by omega) (by omega)
theorem r3:mJ lt (fU l q m e) mid e:=λx y x0 xy y1=>by
 have:=S.o;have:=S.aq;have:=S.dd;have:=S.qm;have:=S.me;have:=S.eb;have:=S.len
 rw [iT (by omega) (by omega),iT (by omega) (by omega),if_neg (by omega),if_pos (by omega),if_neg (by omega),if_pos (by omega)]
 exact S.sA _ _ (by omega) (by omega) (by omega)
theorem r4:mJ lt (fU l q m e) e b:=λx y x0 xy y1=>by
 have:=S.o;have:=S.aq;have:=S.qm;have:=S.me
 rw [Aj S.qm S.me (by omega) (by omega),Aj S.qm S.me (by omega) (by omega)]
 exact S.sB x y (by omega) xy y1
theorem bd:(0≤a∧a≤mid)∧mid≤b∧b≤((fU l q m e).length:Int):=by
 have:=S.o;have:=S.aq;have:=S.qd;have:=S.de;have:=S.eb;have:=S.len
 rw [dW];omega
theorem keep (_:CP lt) {x y:Int}(h:mJ lt (fU l q m e) x y) (hx:mid≤x):mJ lt (gU lt (fU l q m e) a mid) x y:=λu v h1 h2 h3=>by
 have B:=S.bd
 rw [jv (by omega) (by omega) (by omega) (by omega) (by omega),jv (by omega) (by omega) (by omega) (by omega) (by omega)]
 exact h u v h1 h2 h3
theorem n1 (O:A7 lt) (h:¬(a<q∧q<mid)):gU lt (fU l q m e) a mid=fU l q m e:=by
 have B:=S.bd
 refine Lr O (by omega) (by omega) (by omega) ?_
 have:=S.aq;have:=S.qd
 by_cases c:a<q
 ·rw [show mid=q by omega]
  exact S.r1
 ·rw [show a=q by omega]
  exact S.r2
theorem n2 (O:A7 lt) (h:¬(mid<e∧e<b)):gU lt (gU lt (fU l q m e) a mid) mid b=gU lt (fU l q m e) a mid:=by
 have B:=S.bd
 have hl:(gU lt (fU l q m e) a mid).length=(fU l q m e).length:=sO (by omega)
 refine Lr O (by omega) (by omega) (by omega) ?_
 have:=S.de;have:=S.eb
 by_cases c:mid<e
 ·rw [show b=e by omega]
  exact S.keep O.ord S.r3 (Int.le_refl _)
 ·have e1:mJ lt (gU lt (fU l q m e) a mid) e b:=S.keep O.ord S.r4 (by omega)
  exact Yp e1 (by omega) (Int.le_refl _)
theorem main (O:A7 lt):gU lt (gU lt (fU l q m e) a mid) mid b=gU lt l a b:=amx O S.o S.aq S.qm S.me S.eb S.len S.dd S.sA S.sB S.c1 S.c2
theorem am8 (h:¬(q<m∧m<e)):fU l q m e=l:=by
 have:=S.qm;have:=S.me
 by_cases c:q<m
 ·rw [show e=m by omega]
  exact abp
 ·rw [show q=m by omega]
  exact Ur
end asj
end
def acU:Nat→Int
 |0=>1
 |1=>1
 |2=>1
 |3=>0
 |4=>2
 |5=>2
 |_=>3
def aP:dI:=fun
 |0=>some (8,λj=> .int .i64 (acU j))
 |_=>none
def arI:Specs:=aW []
theorem aIb:∀g S,arI g=some S→Valid Tryz.prog aP g S:=aS (l:=[]) trivial
def WZ:List LV→T LV:=λl=>cO Tryz.prog aP (arI) dR ay Tryz.f48 (canL l)
def ad6:List LV→T LV:=gZ Tryz.prog Tryz.f48.params.toList WZ
theorem aD4:Valid Tryz.prog aP 48 ad6:=aI (S:=WZ) (L:=ay) Tryz.func48 rfl aIb aA (bf (by kernel_rfl)) (λargs lv h=>by
 unfold WZ at h
 assumption)
theorem aN0 {d:List Dm}{t x i:Int}(hw:kX d t) (x0:0≤x) (xi:x<i) (i1:i<(d.length:Int)):((decide ((jG d x).2.2.2<(jG d i).2.2.2)) ||(((jG d x).2.2.2==(jG d i).2.2.2)&&(decide ((aSe ((aSe ((jG d x).2.2.1-t))-(jG d x).2.1))≤(aSe ((aSe ((jG d i).2.2.1-t))-(jG d i).2.1))))))=ltD d t x i:=by
 have bx:=aa3 hw x0 (by omega)
 have bi:=aa3 hw (show 0≤i by omega) i1
 have ht:=hw.2
 rw [aH (x:=(jG d x).2.2.1-t),aH (x:=(jG d i).2.2.1-t),aH (x:=(jG d x).2.2.1-t-(jG d x).2.1),aH (x:=(jG d i).2.2.1-t-(jG d i).2.1),Bool.eq_iff_iff,VY];unfold Uj;simp only [Bool.or_eq_true,Bool.and_eq_true,decide_eq_true_eq,beq_iff_eq];omega
theorem ins_eq {lt:Int→Int→Bool}(O:A7 lt) {l r:List Int}{i K:Int}(hl:l.Pairwise (λa b=>lt b a=false)) (hp:(l++[i]).Perm r) (h0:0≤K) (h1:K≤(l.length:Int)) (hA:∀j,0≤j→j<K→lt (gi l j) i=true) (hB:K=(l.length:Int)∨lt (gi l K) i=false):l.take K.toNat++[i]++l.drop K.toNat=sortB lt r:=by
 have e:=List.take_append_drop K.toNat l
 have hl2:=hl
 rw [←e,List.pairwise_append] at hl2;obtain ⟨p1,p2,p3⟩:=hl2;refine Di O (List.Perm.trans ?_ hp) ?_
 ·rw [List.append_assoc]
  refine (List.perm_append_comm_assoc _ _ _).trans ?_;rw [e];exact (List.perm_append_comm).trans (List.Perm.refl _)
 ·rw [List.append_assoc,List.pairwise_append]
  refine ⟨p1,?_,λa ha b hb=>?_⟩
  ·rw [List.singleton_append,List.pairwise_cons]
   refine ⟨λb hb=>?_,p2⟩
   obtain ⟨q,hq,rfl⟩:=List.mem_iff_getElem.1 hb;rw [List.length_drop] at hq;rw [List.getElem_drop];rcases hB with hB|hB
   ·omega
   ·rw [jA (by omega)] at hB
    by_cases z:q=0
    ·subst z
     exact hB
    ·have:=List.pairwise_iff_getElem.1 hl K.toNat (K.toNat+q) (by omega) (by omega) (by omega)
     exact O.ord.ntr this hB
  ·rw [List.singleton_append] at hb
   rcases List.mem_cons.1 hb with rfl|hb
   ·obtain ⟨q,hq,rfl⟩:=List.mem_iff_getElem.1 ha
    rw [List.length_take] at hq;rw [List.getElem_take]
    have:=hA q (by omega) (by omega)
    rw [jA (by simp;omega)] at this
    simpa using O.ord.asym this
   ·exact p3 a ha b hb
structure gq where
 d:List Dm
 tick:Int
 i:Int
 k:Int
 out:List Int
def aP3 (s:gq):List LV:=[.xl jr s.d,.v (.int .i64 s.tick),.os 0 1 0 (s.out.length),.v (.int .i64 s.i),.v (.int .i64 s.k)]
def aOL (s:gq):List aZ:=[⟨[],3,.vec aSg s.out,false⟩]
def ED:Code:=((ax (((ax (Tryz.f20.body.getD .skip))[0]?).getD .skip))[0]?).getD .skip
def afj (s:gq):T (Rd gq):=
 .br (decide (s.k<((s.out.length:Nat):Int))) (.req (0≤s.k∧s.k<((s.out.length:Nat):Int)) (.req (s.k.toNat<s.out.length) (.req (0≤(s.out.getD s.k.toNat (Ty.dflt aSg))∧(s.out.getD s.k.toNat (Ty.dflt aSg))<(s.d.length:Int)) (.req (0≤s.i∧s.i<(s.d.length:Int)) (.br ((decide ((jG s.d (s.out.getD s.k.toNat (Ty.dflt aSg))).2.2.2<(jG s.d s.i).2.2.2)) ||(((jG s.d (s.out.getD s.k.toNat (Ty.dflt aSg))).2.2.2==(jG s.d s.i).2.2.2)&&(decide ((aSe ((aSe ((jG s.d (s.out.getD s.k.toNat (Ty.dflt aSg))).2.2.1-s.tick))-(jG s.d (s.out.getD s.k.toNat (Ty.dflt aSg))).2.1))≤(aSe ((aSe ((jG s.d s.i).2.2.1-s.tick))-(jG s.d s.i).2.1)))))) (.rl s.out (.ok (.next {s with k:=(aSe (s.k+1))}))) (.rl s.out (.ok (.stop (.exit 2) s)))))))) (.rl s.out (.ok (.stop (.exit 2) s)))
abbrev aCA (s:gq):=(afj s).rd s
def akr (s:gq):Prop:=s.k=0∧((0≤s.i∧s.i<(s.d.length:Int))∧(s.out.length:Int)≤1000)∧wR s.out s.i.toNat∧kX s.d s.tick
def Sv (s:gq):Prop:=(0≤s.k∧s.k≤(s.out.length:Int))∧(∀j,0≤j→j<s.k→ltD s.d s.tick (gi s.out j) s.i=true)∧((0≤s.i∧s.i<(s.d.length:Int))∧(s.out.length:Int)≤1000)∧wR s.out s.i.toNat∧kX s.d s.tick
def UZ (s:gq):Nat:=((s.out.length:Int)-s.k).toNat
def ath (x:Ex) (_ s':gq):Prop:=x=.exit 2∧(0≤s'.k∧s'.k≤(s'.out.length:Int))∧(∀j,0≤j→j<s'.k→ltD s'.d s'.tick (gi s'.out j) s'.i=true)∧(s'.k=(s'.out.length:Int)∨ltD s'.d s'.tick (gi s'.out s'.k) s'.i=false)
theorem aLV:∀s,akr s→Sv s:=by
 intro s h;obtain ⟨h0,h1⟩:=h;exact ⟨by omega,λj j0 j1=>by omega,h1⟩
theorem aGD (s:gq) (hI:Sv s):bJ (λs'=>Sv s'∧UZ s'<UZ s) (λx s'=>ath x s s') (aCA s):=by
 unfold aCA afj;dsimp only [T.rd,T.rl];obtain ⟨⟨h0,h1⟩,h2,⟨⟨h3,h4⟩,h5⟩,h6,h7⟩:=hI;refine ai (λc1=>?_) (λc1=>?_)
 ·have c1:s.k<(s.out.length:Int):=by simpa using c1
  have hx:=vX h6 h0 c1
  have hb:=aN0 h7 hx.1 (show gi s.out s.k<s.i by omega) h4
  refine ai (λc2=>?_) (λc2=>?_)
  ·have c2:ltD s.d s.tick (gi s.out s.k) s.i=true:=hb.symm.trans c2
   rw [aH (x:=s.k+1)];refine ⟨⟨⟨by simp only;omega,by simp only;omega⟩,λj j0 j1=>?_,⟨⟨h3,h4⟩,h5⟩,h6,h7⟩,by simp only [UZ];omega⟩
   simp only at j1⊢
   by_cases e:j=s.k
   ·rw [e];exact c2
   ·exact h2 j j0 (by omega)
  ·exact ⟨rfl,⟨h0,h1⟩,h2,.inr (hb.symm.trans c2)⟩
 ·have c1:(s.out.length:Int)≤s.k:=by simpa using c1
  exact ⟨rfl,⟨h0,h1⟩,h2,.inl (by omega)⟩
def PK:bK gq:=⟨0,51,[0,1,5,6,7],[],aP3,aOL,λv b=>⟨aU jr (v.getD 0 .junk),gI (v.getD 1 .junk),gI (v.getD 3 .junk),gI (v.getD 4 .junk),iW aSg (aT b 0)⟩,afj,λs r=> {r with d:=s.d,tick:=s.tick,i:=s.i,out:=s.out},λs=>s,λ_ s=>s,[.exit 2],akr,Sv,UZ⟩
abbrev dB:=PK.run
abbrev azE:=PK.jf
abbrev aJz:=PK.q
theorem aFD (s:gq) (hI:Sv s):(afj s).all (λ_=>True):=by
 refine ⟨λc1=>⟨?_,?_,?_,?_,λc2=>⟨aSf,trivial⟩,λc2=>⟨aSf,trivial⟩⟩,λc1=>⟨aSf,trivial⟩⟩
 all_goals ((obtain ⟨⟨h0,h1⟩,h2,⟨⟨h3,h4⟩,h5⟩,h6,h7⟩:=hI;simp only [decide_eq_true_eq] at c1;have hx:0≤s.out.getD s.k.toNat (Ty.dflt aSg)∧s.out.getD s.k.toNat (Ty.dflt aSg)<(s.i.toNat:Int):=vX h6 h0 c1;omega))
def Wq:Specs:=aW [(48,ad6)]
theorem acX:∀g S,Wq g=some S→Valid Tryz.prog aP g S:=aS (l:=[(48,ad6)]) ⟨aD4,trivial⟩
theorem aoW:PK.Ok:={}
theorem anH:PK.Pf (ath):=⟨aLV,λ_ _=>rfl,aGD,aFD⟩
theorem avC:bC Tryz.prog aP (AN 0) (.loop ED) PK.lp:=bK.snd aoW anH (aQ (Γ:=Wq) (K:=dR) (L:=ay) acX aA ED (λb hb=>by rw [show ax ED=[] by kernel_rfl] at hb;cases hb)) (λs=>by kernel_rfl)
theorem ags (s:gq) (hE:akr s):∃s',Sv s'∧ath (azE s) s' (dB s):=bK.fin aoW anH s hE
structure oG where
 d:List Dm
 tick:Int
 i:Int
 out:List Int
def aP2 (s:oG):List LV:=[.xl jr s.d,.v (.int .i64 s.tick),.os 0 1 0 (s.out.length),.v (.int .i64 s.i)]
def aOK (s:oG):List aZ:=[⟨[],3,.vec aSg s.out,false⟩]
def N7:Code:=((ax (Tryz.f20.body.getD .skip))[0]?).getD .skip
def afi (s:oG):T (Rd oG):=
 .br (decide (s.i<(s.d.length:Int))) (.rl s.out (.req (aJz (⟨s.d,s.tick,s.i,(0:Int),s.out⟩:gq)) (.req (0≤(0:Int)∧(0:Int)≤(dB (⟨s.d,s.tick,s.i,(0:Int),s.out⟩:gq)).k∧(dB (⟨s.d,s.tick,s.i,(0:Int),s.out⟩:gq)).k≤((s.out.length:Nat):Int)) (.req ((0+(0:Int).toNat)+((dB (⟨s.d,s.tick,s.i,(0:Int),s.out⟩:gq)).k.toNat-(0:Int).toNat)≤s.out.length) (.req ((List.length ((s.out.drop (0+(0:Int).toNat)).take ((dB (⟨s.d,s.tick,s.i,(0:Int),s.out⟩:gq)).k.toNat-(0:Int).toNat)):Int)*8≤2^47∧(List.length ((s.out.drop (0+(0:Int).toNat)).take ((dB (⟨s.d,s.tick,s.i,(0:Int),s.out⟩:gq)).k.toNat-(0:Int).toNat)):Int)<2^62) (.req (0+(List.length ((s.out.drop (0+(0:Int).toNat)).take ((dB (⟨s.d,s.tick,s.i,(0:Int),s.out⟩:gq)).k.toNat-(0:Int).toNat)))=List.length ((s.out.drop (0+(0:Int).toNat)).take ((dB (⟨s.d,s.tick,s.i,(0:Int),s.out⟩:gq)).k.toNat-(0:Int).toNat))∧((List.length ((s.out.drop (0+(0:Int).toNat)).take ((dB (⟨s.d,s.tick,s.i,(0:Int),s.out⟩:gq)).k.toNat-(0:Int).toNat))+List.length ([s.i]):Nat):Int)*8≤2^47∧((List.length ((s.out.drop (0+(0:Int).toNat)).take ((dB (⟨s.d,s.tick,s.i,(0:Int),s.out⟩:gq)).k.toNat-(0:Int).toNat))+List.length ([s.i]):Nat):Int)<2^62) (.req (0≤(dB (⟨s.d,s.tick,s.i,(0:Int),s.out⟩:gq)).k∧(dB (⟨s.d,s.tick,s.i,(0:Int),s.out⟩:gq)).k≤((s.out.length:Nat):Int)∧((s.out.length:Nat):Int)≤((s.out.length:Nat):Int)) (.req ((0+(dB (⟨s.d,s.tick,s.i,(0:Int),s.out⟩:gq)).k.toNat)+(((s.out.length:Nat):Int).toNat-(dB (⟨s.d,s.tick,s.i,(0:Int),s.out⟩:gq)).k.toNat)≤s.out.length) (.req (0+(List.length ((s.out.drop (0+(0:Int).toNat)).take ((dB (⟨s.d,s.tick,s.i,(0:Int),s.out⟩:gq)).k.toNat-(0:Int).toNat))+List.length ([s.i]))=List.length (((s.out.drop (0+(0:Int).toNat)).take ((dB (⟨s.d,s.tick,s.i,(0:Int),s.out⟩:gq)).k.toNat-(0:Int).toNat))++([s.i]))∧((List.length ((s.out.drop (0+(0:Int).toNat)).take ((dB (⟨s.d,s.tick,s.i,(0:Int),s.out⟩:gq)).k.toNat-(0:Int).toNat))+List.length ([s.i])+List.length ((s.out.drop (0+(dB (⟨s.d,s.tick,s.i,(0:Int),s.out⟩:gq)).k.toNat)).take (((s.out.length:Nat):Int).toNat-(dB (⟨s.d,s.tick,s.i,(0:Int),s.out⟩:gq)).k.toNat)):Nat):Int)*8≤2^47∧((List.length ((s.out.drop (0+(0:Int).toNat)).take ((dB (⟨s.d,s.tick,s.i,(0:Int),s.out⟩:gq)).k.toNat-(0:Int).toNat))+List.length ([s.i])+List.length ((s.out.drop (0+(dB (⟨s.d,s.tick,s.i,(0:Int),s.out⟩:gq)).k.toNat)).take (((s.out.length:Nat):Int).toNat-(dB (⟨s.d,s.tick,s.i,(0:Int),s.out⟩:gq)).k.toNat)):Nat):Int)<2^62) (.req (0=0∧(List.length ((s.out.drop (0+(0:Int).toNat)).take ((dB (⟨s.d,s.tick,s.i,(0:Int),s.out⟩:gq)).k.toNat-(0:Int).toNat))+List.length ([s.i])+List.length ((s.out.drop (0+(dB (⟨s.d,s.tick,s.i,(0:Int),s.out⟩:gq)).k.toNat)).take (((s.out.length:Nat):Int).toNat-(dB (⟨s.d,s.tick,s.i,(0:Int),s.out⟩:gq)).k.toNat)))=List.length ((((s.out.drop (0+(0:Int).toNat)).take ((dB (⟨s.d,s.tick,s.i,(0:Int),s.out⟩:gq)).k.toNat-(0:Int).toNat))++([s.i]))++((s.out.drop (0+(dB (⟨s.d,s.tick,s.i,(0:Int),s.out⟩:gq)).k.toNat)).take (((s.out.length:Nat):Int).toNat-(dB (⟨s.d,s.tick,s.i,(0:Int),s.out⟩:gq)).k.toNat)))) (.ok (.next {s with i:=(aSe (s.i+1)),out:=((((s.out.drop (0+(0:Int).toNat)).take ((dB (⟨s.d,s.tick,s.i,(0:Int),s.out⟩:gq)).k.toNat-(0:Int).toNat))++([s.i]))++((s.out.drop (0+(dB (⟨s.d,s.tick,s.i,(0:Int),s.out⟩:gq)).k.toNat)).take (((s.out.length:Nat):Int).toNat-(dB (⟨s.d,s.tick,s.i,(0:Int),s.out⟩:gq)).k.toNat)))})))))))))))) (.rl s.out (.ok (.stop (.exit 0) s)))
abbrev aCz (s:oG):=(afi s).rd s
def akq (s:oG):Prop:=s.i=0∧s.out=[]∧(s.d.length:Int)≤1000∧kX s.d s.tick
def IE (s:oG):Prop:=(0≤s.i∧s.i≤(s.d.length:Int))∧s.out=sortB (ltD s.d s.tick) (BM s.i.toNat)∧(s.d.length:Int)≤1000∧kX s.d s.tick
def UY (s:oG):Nat:=((s.d.length:Int)-s.i).toNat
def atg (x:Ex) (_ s':oG):Prop:=x=.exit 0∧s'.out=iK s'.d s'.tick
theorem aLU:∀s,akq s→IE s:=by
 intro s h;obtain ⟨h0,h1,h2⟩:=h;exact ⟨by omega,by rw [h0,h1];rfl,h2⟩
theorem agr (s:oG) (hI:IE s):(s.out.length:Int)=s.i∧(s.out.length:Int)≤1000:=by
 obtain ⟨⟨h0,h1⟩,h2,h3,h4⟩:=hI;rw [h2,tu,Dw];omega
theorem abr (s:oG) (hI:IE s) (c1:s.i<(s.d.length:Int)):akr ⟨s.d,s.tick,s.i,0,s.out⟩:=by
 have hl:=agr s hI
 obtain ⟨⟨h0,h1⟩,h2,h3,h4⟩:=hI
 exact ⟨rfl,⟨⟨h0,c1⟩,hl.2⟩,(λx hx=>by
  have hx:x∈s.out:=hx
  rw [h2] at hx;exact LK.1 (lD.subset hx)),h4⟩
theorem aGC (s:oG) (hI:IE s):bJ (λs'=>IE s'∧UY s'<UY s) (λx s'=>atg x s s') (aCz s):=by
 unfold aCz afi;dsimp only [T.rd,T.rl]
 have hin:=λc=>abr s hI c
 obtain ⟨⟨h0,h1⟩,h2,h3,h4⟩:=hI;refine ai (λc1=>?_) (λc1=>?_)
 ·have c1:s.i<(s.d.length:Int):=by simpa using c1
  obtain ⟨_,_,_,k1,k2,k3⟩:=ags _ (hin c1)
  have k1:0≤(dB ⟨s.d,s.tick,s.i,0,s.out⟩).k∧(dB ⟨s.d,s.tick,s.i,0,s.out⟩).k≤(s.out.length:Int):=k1
  rw [aH (x:=s.i+1)];refine ⟨⟨⟨by simp only;omega,by simp only;omega⟩,?_,h3,h4⟩,by simp only [UY];omega⟩
  simp only
  have e1:(s.out.drop (0+(dB ⟨s.d,s.tick,s.i,0,s.out⟩).k.toNat)).take (((s.out.length:Nat):Int).toNat-(dB ⟨s.d,s.tick,s.i,0,s.out⟩).k.toNat)=s.out.drop (dB ⟨s.d,s.tick,s.i,0,s.out⟩).k.toNat:=by
   rw [Nat.zero_add];exact List.take_of_length_le (by rw [List.length_drop];omega)
  have e2:(s.out.drop (0+(0:Int).toNat)).take ((dB ⟨s.d,s.tick,s.i,0,s.out⟩).k.toNat-(0:Int).toNat)=s.out.take (dB ⟨s.d,s.tick,s.i,0,s.out⟩).k.toNat:=rfl
  rw [e1,e2];refine ins_eq dw (by rw [h2];exact sN jy) ?_ k1.1 k1.2 k2 k3
  rw [show (s.i+1).toNat=s.i.toNat+1 by omega,QC,Int.toNat_of_nonneg h0,h2]
  exact List.Perm.append_right _ lD
 ·have c1:(s.d.length:Int)≤s.i:=by simpa using c1
  refine ⟨rfl,?_⟩;rw [h2,show s.i.toNat=s.d.length by omega]
  rfl
def Ja:bK oG:=⟨0,51,[0,1,5,6],[.nl 5 3 aSg],aP2,aOK,λv b=>⟨aU jr (v.getD 0 .junk),gI (v.getD 1 .junk),gI (v.getD 3 .junk),iW aSg (aT b 0)⟩,afi,λs r=> {r with d:=s.d,tick:=s.tick},λs=>s,λ_ s=>s,[.exit 0],akq,IE,UY⟩
abbrev zY:=Ja.run
abbrev azD:=Ja.jf
abbrev aJy:=Ja.q
theorem aFC (s:oG) (hI:IE s):(afi s).all (λ_=>True):=by
 refine ⟨λc1=>⟨aSf,?_,?_,?_,?_,?_,?_,?_,?_,?_,trivial⟩,λc1=>⟨aSf,trivial⟩⟩
 ·exact ⟨abr s hI (by simpa using c1),rfl,rfl⟩
 iterate 8 · (obtain ⟨_,_,_,k1,_,_⟩:=ags _ (abr s hI (by simpa using c1));have k1:0≤(dB ⟨s.d,s.tick,s.i,0,s.out⟩).k∧(dB ⟨s.d,s.tick,s.i,0,s.out⟩).k≤(s.out.length:Int):=k1;have hl:=agr s hI;first|omega|exact ⟨rfl,by simp only [List.length_append]⟩ |(simp only [List.length_take,List.length_drop,List.length_append,List.length_cons,List.length_nil];omega))
theorem aoV:Ja.Ok:={}
theorem anG:Ja.Pf (atg):=⟨aLU,λ_ _=>rfl,aGC,aFC⟩
theorem avA:bC Tryz.prog aP (AN 0) (.loop N7) Ja.lp:=bK.snd aoV anG (aQ (Γ:=Wq) (K:=dR) (L:=(λi=>if i=6 then PK.lp else ay i)) acX aA N7 (λb hb=>by
 rw [show ax _=[ED] by kernel_rfl] at hb
 simp only [List.mem_cons,List.not_mem_nil,or_false] at hb;subst hb;exact avC)) (λs=>by kernel_rfl)
theorem awT (s:oG) (hE:akq s):∃s',IE s'∧atg (azD s) s' (zY s):=bK.fin aoV anG s hE
def ajs:List LV→T LV
 | [.xl (.pair .bool (.pair (.int .i64) (.pair (.int .i64) (.int .i64)))) d,.v (.int .i64 t)]=> .req (kX d t∧d.length≤100) (.ok (.xl aSg (iK d t)))
 |_=> .no
def CJ:List LV→T LV:=gZ Tryz.prog Tryz.f20.params.toList ajs
theorem ayd (d:List Dm) (t:Int):letI a:=(zY (⟨d,t,(0:Int),([]:List Int)⟩:oG));cO Tryz.prog aP (Wq) dR (λi=>if i=3 then Ja.lp else ay i) Tryz.f20 [.xl jr d,.v (.int .i64 t)]=.req (0=0∧0=List.length ([]:List Int)) (.req (aJy (⟨d,t,(0:Int),([]:List Int)⟩:oG)) (.req (0+(List.length a.out)≤List.length a.out) (.ok (.xl aSg ((a.out.drop 0).take (List.length a.out)))))):=by kernel_rfl
theorem aa4:Valid Tryz.prog aP 20 CJ:=aI Tryz.func20 rfl acX aA (L:=(λi=>if i=3 then Ja.lp else ay i)) (λb hb=>by
 rw [show ax _=[N7] by kernel_rfl] at hb
 simp only [List.mem_cons,List.not_mem_nil,or_false] at hb;subst hb;exact avA) (λargs lv h=>by
 unfold ajs at h;split at h
 ·simp only [canL,canX]
  rw [ayd];rename_i d t;obtain ⟨⟨hw,hd⟩,rfl⟩:=h
  have hE:akq ⟨d,t,0,[]⟩:=⟨rfl,rfl,by show (d.length:Int)≤1000;omega,hw⟩
  obtain ⟨_,_,_,q1⟩:=awT _ hE
  have q1:(zY ⟨d,t,0,[]⟩).out=iK d t:=q1
  refine ⟨aSf,⟨hE,rfl,rfl⟩,by omega,?_⟩
  show LV.xl _ _=_
  rw [List.drop_zero,List.take_length,q1]
 ·cases h)
theorem ntW {b:Bool}(h:(!b)=true):b=false:=by cases b<;>simp_all
theorem Qe {b:Bool}(h:(!b)=false):b=true:=by cases b<;>simp_all
def wt (n:Int):Int:=(n*1000000+999799) / 999800
def wtA (n:Int):Int:=if inB n 0 1000000=true then wt n else 0
def wtE (n:Int):Int:=if inB n 0 1000000=true then 0 else 1
theorem al0 {m n:Int}:m*999800 / 1000000≥n↔wt n≤m:=by
 unfold wt;omega
theorem aRm {a b:Int}(a0:0≤a) (a1:a≤3000000) (b0:0≤b) (b1:b≤1000000):0≤a*b∧a*b≤3000000000000:=
 ⟨Int.mul_nonneg a0 b0,Int.le_trans (Int.mul_le_mul_of_nonneg_left b1 a0) (by omega)⟩
theorem al1 {n:Int}(h0:0≤n):0≤wt n∧wt n≤2*n+2:=by
 unfold wt;omega
abbrev kY:Ty:=.pair aSg (.pair aSg (.pair aSg (.pair aSg aSg)))
abbrev Le:=Int×Int×Int×Int×Int
def gV (l:List Le) (n:Int):Le:=l.getD n.toNat (0,0,0,0,0)
def leV (x:Le):Bool:=inB x.1 1 1000000&&(inB x.2.1 0 15&&(inB x.2.2.1 0 80&&(inB x.2.2.2.1 0 1000000&&inB x.2.2.2.2 1 1000)))
def Zl (b x:Le):Bool:=decide (x.1>b.1)&&decide (x.2.2.2.1≥b.2.2.2.1)
def lG (l:List Le) (j:Int):Bool:=leV (gV l j)&&(decide (j=0) ||Zl (gV l (j-1)) (gV l j))
def rM (l:List Le):Bool:=decide (l.length≤64)&&Gi l.length (lG l)
theorem G6 {l:List Le}{n:Int}(h:n.toNat<l.length):gV l n=l[n.toNat]:=yA h
theorem o9 {l:List Le}{i:Int}(h0:0≤i) (h:i<l.length):l.drop i.toNat=gV l i::l.drop (i+1).toNat∧l.take (i+1).toNat=l.take i.toNat++[gV l i]:=xU h0 h
theorem mr {l:List Le}{i:Int}(h0:0≤i) (h:i<l.length):gV l i∈l:=by
 rw [G6 (by omega)]
 exact List.getElem_mem _
theorem V5 {x:Le}:leV x=true↔(1≤x.1∧x.1≤1000000)∧(0≤x.2.1∧x.2.1≤15)∧(0≤x.2.2.1∧x.2.2.1≤80)∧(0≤x.2.2.2.1∧x.2.2.2.1≤1000000)∧1≤x.2.2.2.2∧x.2.2.2.2≤1000:=by
 unfold leV;simp only [Bool.and_eq_true,dV]
theorem zu {l:List Le}(h:rM l=true):l.length≤64∧∀x∈l,leV x=true:=by
 unfold rM at h;rw [Bool.and_eq_true] at h;refine ⟨of_decide_eq_true h.1,λx hx=>?_⟩
 obtain ⟨k,hk,rfl⟩:=List.mem_iff_getElem.1 hx
 have:=gm.1 h.2 k (by omega)
 unfold lG at this;rw [Bool.and_eq_true,G6 (by simpa using hk)] at this
 simpa using this.1
def Qj (x:Le):Int:=x.2.2.2.1+10+wt x.2.2.2.2
def Rj (ph mn mx st fb:Int):Bool:=inB ph 1 7&&(inB mn 1 80&&(inB mx 1 80&&(inB st 1 80&&(decide (mn≤mx)&&(fb==0 ||inB fb mn mx)))))
theorem KN {ph mn mx st fb:Int}:Rj ph mn mx st fb=true↔1≤ph∧ph≤7∧1≤mn∧mn≤80∧1≤mx∧mx≤80∧1≤st∧st≤80∧mn≤mx∧(fb=0∨(mn≤fb∧fb≤mx)):=by
 simp [Rj,inB];omega
def wz (mn mx st a:Int):Int:=if a<mn then 0 else min a mx-(min a mx-mn) %st
theorem Ea {x s:Int}(hx:0≤x) (hs:1≤s):0≤x%s∧x%s≤x∧x%s<s:=by
 have h1:=Int.mul_ediv_add_emod x s
 have h2:0≤x / s:=Int.ediv_nonneg hx (by omega)
 have h3:0≤s*(x / s):=Int.mul_nonneg (by omega) h2
 have h4:=Int.emod_nonneg x (b:=s) (by omega)
 have h5:=Int.emod_lt_of_pos x (b:=s) (by omega)
 omega
theorem MX {mn mx st a:Int}(h1:1≤mn) (h2:mn≤mx) (h3:mx≤80) (h4:1≤st):0≤wz mn mx st a∧wz mn mx st a≤80∧(a<mn→wz mn mx st a=0)∧(mn≤a→mn≤wz mn mx st a∧wz mn mx st a≤a∧wz mn mx st a≤mx):=by
 unfold wz;split
 ·omega
 ·have e1:=Ea (x:=min a mx-mn) (s:=st) (by omega) h4
  omega
def Qk (mn mx st:Int):Prop:=1≤mn∧mn≤mx∧mx≤80∧1≤st∧st≤80
theorem adp {ph mn mx st fb:Int}(h:Rj ph mn mx st fb=true):Qk mn mx st:=by
 rw [KN] at h;unfold Qk;omega
def P8 (ph mn mx st fb a s:Int):Bool:=Rj ph mn mx st fb&&(decide (0≤s)&&(decide (s≤1000000)&&(decide (0≤a)&&(wz mn mx st a==a))))
def okB (ph mn mx st fb a s want:Int):Bool:=P8 ph mn mx st fb a s&&(decide (0≤want)&&decide (want≤80))
def nE (ph mn mx st fb a s want:Int):Int:=if okB ph mn mx st fb a s want then 0 else 1
def nA (ph mn mx st fb a s want:Int):Int:=
 if okB ph mn mx st fb a s want then (if a=0 then (if wz mn mx st want≠0∧5≤s then mn else 0) else if wz mn mx st want=0 then 0 else min (wz mn mx st want) (a+st)) else 0
def nS (ph mn mx st fb a s want:Int):Int:=
 if okB ph mn mx st fb a s want then (if a=0 then (if wz mn mx st want≠0∧5≤s then 0 else min (s+1) 1000000) else if wz mn mx st want=0 then 0 else min (s+1) 1000000) else 0
theorem V7 (x y:Int):(if y<x then y else x)=min x y:=by omega
theorem aIY {mn mx st am:Int}(h:am<mn):0=wz mn mx st am:=by rw [wz,if_pos h]
theorem aIX {mn mx st am:Int}(hc:Qk mn mx st) (h:mn≤am):aSe ((if mx<am then mx else am)-(aSe ((if mx<am then mx else am)-mn)).tmod st)=wz mn mx st am:=by
 unfold Qk at hc;rw [V7]
 have e1:=Ea (x:=min am mx-mn) (s:=st) (by omega) (by omega)
 rw [aH (x:=min am mx-mn),Int.tmod_eq_emod_of_nonneg (by omega),aH,wz,if_neg (by omega)]
theorem aRk {ph mn mx st fb a s:Int}(h:((!Rj ph mn mx st fb) ||(decide (s<0) ||(decide (s>1000000) ||decide (a<0))))=true):false=P8 ph mn mx st fb a s:=by
 cases hr:P8 ph mn mx st fb a s
 ·rfl
 ·simp [P8] at hr h
  rw [hr.1] at h
  simp at h
  omega
theorem aMi {ph mn mx st fb a s:Int}(h:((!Rj ph mn mx st fb) ||(decide (s<0) ||(decide (s>1000000) ||decide (a<0))))=false):Qk mn mx st∧(wz mn mx st a==a)=P8 ph mn mx st fb a s:=by
 simp at h
 obtain ⟨h1,h2,h3,h4⟩:=h;exact ⟨adp h1,by simp [P8,h1,h2,h3,h4]⟩
theorem agC {ph mn mx st fb a s want:Int}(h:okB ph mn mx st fb a s want=true):(!P8 ph mn mx st fb a s ||(decide (want<0) ||decide (want>80)))=false∧Qk mn mx st∧(0≤s∧s≤1000000)∧(0≤want∧want≤80)∧0≤a∧a≤80∧1≤st∧st≤80:=by
 simp only [okB,P8,Bool.and_eq_true,decide_eq_true_eq,beq_iff_eq] at h;obtain ⟨⟨h1,h2,h3,h4,h5⟩,h6,h7⟩:=h
 have hc:=adp h1
 have hc':=hc
 unfold Qk at hc'
 have:=MX (a:=a) hc'.1 hc'.2.1 hc'.2.2.1 hc'.2.2.2.1
 refine ⟨?_,hc,⟨h2,h3⟩,⟨h6,h7⟩,h4,by omega,hc'.2.2.2.1,hc'.2.2.2.2⟩
 simp [P8,h1,h2,h3,h4,h5];omega
theorem agD {ph mn mx st fb a s want:Int}(h:¬okB ph mn mx st fb a s want=true):(!P8 ph mn mx st fb a s ||(decide (want<0) ||decide (want>80)))=true:=by
 cases hr:P8 ph mn mx st fb a s
 ·rfl
 ·simp [okB,hr] at h⊢;omega
theorem aRj {ph mn mx st fb:Int}(h:(decide (ph<1) ||(decide (ph>7) ||(decide (mn<1) ||(decide (mx>80) ||(decide (mn>mx) ||(decide (st<1) ||decide (st>80)))))))=true):false=Rj ph mn mx st fb:=by
 cases hc:Rj ph mn mx st fb
 ·rfl
 ·rw [KN] at hc;simp at h;omega
theorem aRi {ph mn mx st fb:Int}(h:(decide (ph<1) ||(decide (ph>7) ||(decide (mn<1) ||(decide (mx>80) ||(decide (mn>mx) ||(decide (st<1) ||decide (st>80)))))))=false):(fb==0 ||(decide (fb≥mn)&&decide (fb≤mx)))=Rj ph mn mx st fb:=by
 simp at h
 cases hc:Rj ph mn mx st fb
 ·cases hf:(fb==0 ||(decide (fb≥mn)&&decide (fb≤mx)))
  ·rfl
  ·have:Rj ph mn mx st fb=true:=KN.2 (by simp at hf;omega)
   rw [this] at hc;cases hc
 ·rw [KN] at hc;simp;omega
def V4 (mn mx st am lv x:Int):Prop:=
 Qk mn mx st∧mn≤x∧x≤mx+st∧(x-mn) %st=0∧((lv=0∧(x=mn∨am<mn))∨(mn≤lv∧lv≤am∧lv+st≤x∧(lv-mn) %st=0∧(lv+st=x∨am<lv+st)))
theorem acC {mn mx st am:Int}(h:Qk mn mx st):V4 mn mx st am 0 mn:=by
 unfold V4;refine ⟨h,Int.le_refl _,by unfold Qk at h;omega,by simp,.inl ⟨rfl,.inl rfl⟩⟩
theorem alk {mn mx st am lv x:Int}(h:V4 mn mx st am lv x) (hx:x≤mx):V4 mn mx st am (if x≤am then x else lv) (x+st):=by
 unfold V4 at h⊢;obtain ⟨h1,h2,h3,h4,h5⟩:=h
 have e:(x+st-mn) %st=0:=by rw [show x+st-mn=(x-mn)+st by omega,Int.add_emod_right];exact h4
 have h1':=h1
 unfold Qk at h1';refine ⟨h1,by omega,by omega,e,?_⟩
 split
 ·exact .inr ⟨h2,by omega,by omega,h4,.inl rfl⟩
 ·rcases h5 with h5|h5
  ·refine .inl ⟨h5.1,.inr (by omega)⟩
  ·exact .inr ⟨h5.1,h5.2.1,by omega,h5.2.2.2.1,.inr (by omega)⟩
theorem aqp {mn mx st am lv x:Int}(h:V4 mn mx st am lv x) (hx:mx<x):lv=wz mn mx st am:=by
 unfold V4 Qk at h;obtain ⟨h1,h2,h3,h4,h5⟩:=h;unfold wz;rcases h5 with ⟨h5,h6⟩ |⟨h5,h6,h7,h8,h9⟩
 ·rw [if_pos (by omega)];exact h5
 ·rw [if_neg (by omega)]
  have e:(min am mx-mn) %st=min am mx-lv:=by
   rw [show min am mx-mn=(min am mx-lv)+(lv-mn) by omega,Int.add_emod,h8,Int.add_zero,Int.emod_emod_of_dvd _ (Int.dvd_refl _)]
   exact Int.emod_eq_of_lt (by omega) (by omega)
  rw [e];omega
def RG:List LV→T LV
 | [.v (.int .i64 n),.v (.int .i64 a),.v (.int .i64 b)]=> .ok (.v (.bool (inB n a b)))
 |_=> .no
def zL:List LV→T LV:=gZ Tryz.prog Tryz.f140.params.toList RG
def Bj:Specs:=aW []
theorem DV:∀g S,Bj g=some S→Valid Tryz.prog aP g S:=aS (l:=[]) trivial
theorem alf (n a b:Int):cO Tryz.prog aP (Bj) dR ay Tryz.f140 [.v (.int .i64 n),.v (.int .i64 a),.v (.int .i64 b)]=.ok (.v (.bool ((decide (n≥a))&&(decide (n≤b))))):=by kernel_rfl
theorem Xr:Valid Tryz.prog aP 140 zL:=aI Tryz.func140 rfl DV aA (bf (by kernel_rfl)) (λargs lv h=>by
 unfold RG at h;split at h
 ·simp only [canL,canX]
  rw [alf];exact h
 ·cases h)
def asG:List LV→T LV
 | [.v (.agg ⟨[.string _,.int .i64 _,.int .i64 ph,.int .i64 mn,.int .i64 mx,.int .i64 st,.int .i64 fb,.int .i64 _]⟩)]=> .ok (.v (.bool (Rj ph mn mx st fb)))
 |_=> .no
def aso:List LV→T LV:=gZ Tryz.prog Tryz.f139.params.toList asG
def aCb:Specs:=aW [(140,zL)]
theorem aNl:∀g S,aCb g=some S→Valid Tryz.prog aP g S:=aS (l:=[(140,zL)]) ⟨Xr,trivial⟩
theorem aHm (nm:ByteArray) (at_ ph mn mx st fb ow:Int):cO Tryz.prog aP (aCb) dR ay Tryz.f139 [.v (.agg #[.string nm,.int .i64 at_,.int .i64 ph,.int .i64 mn,.int .i64 mx,.int .i64 st,.int .i64 fb,.int .i64 ow])]=.ok (.v (.bool ((inB ph (1:Int) (7:Int))&&((inB mn (1:Int) (80:Int))&&((inB mx (1:Int) (80:Int))&&((inB st (1:Int) (80:Int))&&((decide (mn≤mx))&&((fb==0) ||(inB fb mn mx))))))))):=by kernel_rfl
theorem aKT:Valid Tryz.prog aP 139 aso:=aI Tryz.func139 rfl aNl aA (bf (by kernel_rfl)) (λargs lv h=>by
 unfold asG at h;split at h
 ·simp only [canL,canX]
  rw [aHm];exact h
 ·cases h)
def ZY:List LV→T LV
 | []=> .ok (.v (.agg #[.int .i64 0,.int .i64 0,.int .i64 0,.bool false]))
 |_=> .no
def FQ:List LV→T LV:=gZ Tryz.prog Tryz.f114.params.toList ZY
theorem apR  :cO Tryz.prog aP (Bj) dR ay Tryz.f114 []=.ok (.v (.agg #[.int .i64 0,.int .i64 0,.int .i64 0,.bool false])):=by kernel_rfl
theorem aeS:Valid Tryz.prog aP 114 FQ:=aI Tryz.func114 rfl DV aA (bf (by kernel_rfl)) (λargs lv h=>by
 unfold ZY at h;split at h
 ·simp only [canL]
  rw [apR];exact h
 ·cases h)
def asY:List LV→T LV
 | [.v (.agg ⟨[.string _,.int .i64 _,.int .i64 ph,.int .i64 mn,.int .i64 mx,.int .i64 st,.int .i64 fb,.int .i64 _]⟩),.v (.agg ⟨[.int .i64 0,.int .i64 0,.int .i64 0,.bool false]⟩)]=> .ok (.v (.bool (Rj ph mn mx st fb)))
 |_=> .no
def asD:List LV→T LV:=gZ Tryz.prog Tryz.f113.params.toList asY
def aCa:Specs:=aW [(114,FQ),(139,aso),(140,zL)]
theorem aNk:∀g S,aCa g=some S→Valid Tryz.prog aP g S:=aS (l:=[(114,FQ),(139,aso),(140,zL)]) ⟨aeS,aKT,Xr,trivial⟩
theorem aHE (nm:ByteArray) (at_ ph mn mx st fb ow:Int):cO Tryz.prog aP (aCa) dR ay Tryz.f113 [.v (.agg #[.string nm,.int .i64 at_,.int .i64 ph,.int .i64 mn,.int .i64 mx,.int .i64 st,.int .i64 fb,.int .i64 ow]),.v (.agg #[.int .i64 0,.int .i64 0,.int .i64 0,.bool false])]=.br (!(Rj ph mn mx st fb)) (.ok (.v (.bool false))) (.br (((0:Int)==0)&&(((0:Int)==0)&&(((0:Int)==0)&&(false==false)))) (.ok (.v (.bool true))) (.ok (.v (.bool ((inB (0:Int) (0:Int) (5:Int))&&((inB (0:Int) (0:Int) (1000000:Int))&&((inB (0:Int) (0:Int) mx)&&(if (0:Int) !=0 then (!false) ||((0:Int)==5) else ((0:Int)==0)&&((!false) ||((0:Int)==5)))))))))):=by kernel_rfl
theorem aK7:Valid Tryz.prog aP 113 asD:=aI Tryz.func113 rfl aNk aA (bf (by kernel_rfl)) (λargs lv h=>by
 unfold asY at h;split at h
 ·simp only [canL,canX]
  rw [aHE];obtain rfl:=h;refine ⟨λhb=>?_,λhb=>⟨λ_=>?_,λhf=>absurd hf (by decide)⟩⟩
  ·show LV.v (.bool false)=_
   rw [show Rj _ _ _ _ _=false by simpa using hb]
  ·show LV.v (.bool true)=_
   rw [show Rj _ _ _ _ _=true by simpa using hb]
 ·cases h)
def ajh:List LV→T LV
 | [.v (.agg ⟨[.string _,.int .i64 _,.int .i64 _,.int .i64 mn,.int .i64 mx,.int .i64 st,.int .i64 _,.int .i64 _]⟩),.v (.int .i64 am)]=> .req (Qk mn mx st) (.ok (.v (.int .i64 (wz mn mx st am))))
 |_=> .no
def OB:List LV→T LV:=gZ Tryz.prog Tryz.f73.params.toList ajh
theorem ax2 (nm:ByteArray) (at_ ph mn mx st fb ow am:Int):cO Tryz.prog aP (Bj) dR ay Tryz.f73 [.v (.agg #[.string nm,.int .i64 at_,.int .i64 ph,.int .i64 mn,.int .i64 mx,.int .i64 st,.int .i64 fb,.int .i64 ow]),.v (.int .i64 am)]=.br (decide (am<mn)) (.ok (.v (.int .i64 0))) (.req (st≠0) (.ok (.v (.int .i64 (aSe ((if mx<am then mx else am)-((aSe ((if mx<am then mx else am)-mn)).tmod st))))))):=by kernel_rfl
theorem amd:Valid Tryz.prog aP 73 OB:=aI Tryz.func73 rfl DV aA (bf (by kernel_rfl)) (λargs lv h=>by
 unfold ajh at h;split at h
 ·simp only [canL,canX]
  rw [ax2];obtain ⟨hc,rfl⟩:=h;refine ⟨λhb=>?_,λhb=>⟨by unfold Qk at hc;omega,?_⟩⟩
  ·exact congrArg (λz=>LV.v (.int .i64 z)) (aIY (by simpa using hb))
  ·exact congrArg (λz=>LV.v (.int .i64 z)) (aIX hc (by simpa using hb))
 ·cases h)
def asK:List LV→T LV
 | [.v (.agg ⟨[.string _,.int .i64 _,.int .i64 ph,.int .i64 mn,.int .i64 mx,.int .i64 st,.int .i64 fb,.int .i64 _]⟩),.v (.agg ⟨[.int .i64 a,.int .i64 si]⟩)]=> .ok (.v (.bool (P8 ph mn mx st fb a si)))
 |_=> .no
def ZV:List LV→T LV:=gZ Tryz.prog Tryz.f69.params.toList asK
def aB9:Specs:=aW [(73,OB),(113,asD),(114,FQ)]
theorem aNj:∀g S,aB9 g=some S→Valid Tryz.prog aP g S:=aS (l:=[(73,OB),(113,asD),(114,FQ)]) ⟨amd,aK7,aeS,trivial⟩
theorem aHr (nm:ByteArray) (at_ ph mn mx st fb ow a si:Int):cO Tryz.prog aP (aB9) dR ay Tryz.f69 [.v (.agg #[.string nm,.int .i64 at_,.int .i64 ph,.int .i64 mn,.int .i64 mx,.int .i64 st,.int .i64 fb,.int .i64 ow]),.v (.agg #[.int .i64 a,.int .i64 si])]=.br ((!(Rj ph mn mx st fb)) ||((decide (si<0)) ||((decide (si>1000000)) ||(decide (a<0))))) (.ok (.v (.bool false))) (.req (Qk mn mx st) (.ok (.v (.bool ((wz mn mx st a)==a))))):=by kernel_rfl
theorem aAO:Valid Tryz.prog aP 69 ZV:=aI Tryz.func69 rfl aNj aA (bf (by kernel_rfl)) (λargs lv h=>by
 unfold asK at h;split at h
 ·simp only [canL,canX]
  rw [aHr];obtain rfl:=h;refine ⟨λhb=>?_,λhb=>⟨?_,?_⟩⟩
  ·exact congrArg (λz=>LV.v (.bool z)) (aRk hb)
  ·exact (aMi hb).1
  ·exact congrArg (λz=>LV.v (.bool z)) (aMi hb).2
 ·cases h)
def aaf:List LV→T LV
 | [.v (.bool b)]=> .ok (.v (.int .i64 (if b then (1:Int) else 0)))
 |_=> .no
def WU:List LV→T LV:=gZ Tryz.prog Tryz.f78.params.toList aaf
theorem ap0 (b:Bool):cO Tryz.prog aP (Bj) dR ay Tryz.f78 [.v (.bool b)]=.br b (.ok (.v (.int .i64 1))) (.ok (.v (.int .i64 0))):=by kernel_rfl
theorem auX:Valid Tryz.prog aP 78 WU:=aI Tryz.func78 rfl DV aA (bf (by kernel_rfl)) (λargs lv h=>by
 unfold aaf at h;split at h
 ·simp only [canL,canX]
  rw [ap0];rename_i b;obtain rfl:=h;cases b
  ·exact ⟨λhb=>(by cases hb),λ_=>rfl⟩
  ·exact ⟨λ_=>rfl,λhb=>(by cases hb)⟩
 ·cases h)
def asQ:List LV→T LV
 | [.xq 8 q0]=>(match ([q0 0,q0 1,q0 2,q0 3,q0 4,q0 5,q0 6,q0 7]:List LV) with
  | [.v (.string _),.v (.int .i64 _),.v (.int .i64 _),.v (.int .i64 mn),.v (.int .i64 _),.v (.int .i64 _),.v (.int .i64 _),.v (.int .i64 _)]=> .ok (.v (.agg #[.int .i64 mn,.int .i64 0]))
  |_=> .no)
 |_=> .no
def asz:List LV→T LV:=gZ Tryz.prog Tryz.f74.params.toList asQ
theorem aHx (nm:ByteArray) (at_ ph mn mx st fb ow:Int):cO Tryz.prog aP (Bj) dR ay Tryz.f74 [.xq 8 (λj=>([.v (.string nm),.v (.int .i64 at_),.v (.int .i64 ph),.v (.int .i64 mn),.v (.int .i64 mx),.v (.int .i64 st),.v (.int .i64 fb),.v (.int .i64 ow)]:List LV).getD j .junk)]=.ok (.v (.agg #[.int .i64 mn,.int .i64 0])):=by kernel_rfl
theorem aK3:Valid Tryz.prog aP 74 asz:=aI Tryz.func74 rfl DV aA (bf (by kernel_rfl)) (λargs lv h=>by
 unfold asQ at h;split at h
 ·split at h
  case h_2=>cases h
  rename_i heq0;simp only [canL,canX];rw [rU (n:=8) heq0];simp only [canL,canX];rw [aHx];exact h
 ·cases h)
def asP:List LV→T LV
 | [.xq 1 q0]=>(match ([q0 0]:List LV) with
  | [.v (.int .i64 lo)]=> .ok (.v (.agg #[.int .i64 0,.int .i64 lo]))
  |_=> .no)
 |_=> .no
def asy:List LV→T LV:=gZ Tryz.prog Tryz.f75.params.toList asP
theorem aHw (lo:Int):cO Tryz.prog aP (Bj) dR ay Tryz.f75 [.xq 1 (λj=>([.v (.int .i64 lo)]:List LV).getD j .junk)]=.ok (.v (.agg #[.int .i64 0,.int .i64 lo])):=by kernel_rfl
theorem aK2:Valid Tryz.prog aP 75 asy:=aI Tryz.func75 rfl DV aA (bf (by kernel_rfl)) (λargs lv h=>by
 unfold asP at h;split at h
 ·split at h
  case h_2=>cases h
  rename_i heq0;simp only [canL,canX];rw [rU (n:=1) heq0];simp only [canL,canX];rw [aHw];exact h
 ·cases h)
def asO:List LV→T LV
 | []=> .ok (.v (.agg #[.int .i64 0,.int .i64 0]))
 |_=> .no
def asx:List LV→T LV:=gZ Tryz.prog Tryz.f76.params.toList asO
theorem aHv  :cO Tryz.prog aP (Bj) dR ay Tryz.f76 []=.ok (.v (.agg #[.int .i64 0,.int .i64 0])):=by kernel_rfl
theorem aK1:Valid Tryz.prog aP 76 asx:=aI Tryz.func76 rfl DV aA (bf (by kernel_rfl)) (λargs lv h=>by
 unfold asO at h;split at h
 ·simp only [canL]
  rw [aHv];exact h
 ·cases h)
def asN:List LV→T LV
 | [.xq 1 q0,.xq 2 q1,.xq 8 q2,.xq 1 q3]=>(match ([q0 0]:List LV) with
  | [.v (.int .i64 lv)]=>(match ([q1 0,q1 1]:List LV) with
  | [.v (.int .i64 a),.v (.int .i64 _)]=>(match ([q2 0,q2 1,q2 2,q2 3,q2 4,q2 5,q2 6,q2 7]:List LV) with
  | [.v (.string _),.v (.int .i64 _),.v (.int .i64 _),.v (.int .i64 _),.v (.int .i64 _),.v (.int .i64 st),.v (.int .i64 _),.v (.int .i64 _)]=>(match ([q3 0]:List LV) with
  | [.v (.int .i64 lo)]=> .ok (.v (.agg #[.int .i64 (if aSe (a+st)<lv then aSe (a+st) else lv),.int .i64 lo]))
  |_=> .no)
  |_=> .no)
  |_=> .no)
  |_=> .no)
 |_=> .no
def asw:List LV→T LV:=gZ Tryz.prog Tryz.f77.params.toList asN
theorem aHu (lv a si:Int) (nm:ByteArray) (at_ ph mn mx st fb ow lo:Int):cO Tryz.prog aP (Bj) dR ay Tryz.f77 [.xq 1 (λj=>([.v (.int .i64 lv)]:List LV).getD j .junk),.xq 2 (λj=>([.v (.int .i64 a),.v (.int .i64 si)]:List LV).getD j .junk),.xq 8 (λj=>([.v (.string nm),.v (.int .i64 at_),.v (.int .i64 ph),.v (.int .i64 mn),.v (.int .i64 mx),.v (.int .i64 st),.v (.int .i64 fb),.v (.int .i64 ow)]:List LV).getD j .junk),.xq 1 (λj=>([.v (.int .i64 lo)]:List LV).getD j .junk)]=.ok (.v (.agg #[.int .i64 (if (aSe (a+st))<lv then aSe (a+st) else lv),.int .i64 lo])):=by kernel_rfl
theorem aKZ:Valid Tryz.prog aP 77 asw:=aI Tryz.func77 rfl DV aA (bf (by kernel_rfl)) (λargs lv h=>by
 unfold asN at h;split at h
 ·split at h
  case h_2=>cases h
  rename_i heq0;split at h
  case h_2=>cases h
  rename_i heq1;split at h
  case h_2=>cases h
  rename_i heq2;split at h
  case h_2=>cases h
  rename_i heq3;simp only [canL,canX];rw [rU (n:=1) heq0];simp only [canL,canX];rw [rU (n:=2) heq1];simp only [canL,canX];rw [rU (n:=8) heq2];simp only [canL,canX];rw [rU (n:=1) heq3];simp only [canL,canX];rw [aHu];exact h
 ·cases h)
theorem aH1 {a l si:Int}:acU ((if (a !=0) then (1:Int) else 0).toNat*4+((if (l !=0) then (1:Int) else 0).toNat*2+((if (decide (si≥5)) then (1:Int) else 0).toNat*1+0)))=if a=0 then (if l=0 then 1 else if 5≤si then 0 else 1) else if l=0 then 2 else 3:=by
 by_cases c1:a=0<;>by_cases c2:l=0<;>by_cases c3:5≤si<;>simp [c1,c2,c3,acU]
def ajJ:List LV→T LV
 | [.v (.agg ⟨[.string _,.int .i64 _,.int .i64 ph,.int .i64 mn,.int .i64 mx,.int .i64 st,.int .i64 fb,.int .i64 _]⟩),.v (.agg ⟨[.int .i64 a,.int .i64 si]⟩),.v (.int .i64 want)]=> .ok (.v (.tuple #[.agg #[.int .i64 (nA ph mn mx st fb a si want),.int .i64 (nS ph mn mx st fb a si want)],.int .i64 (nE ph mn mx st fb a si want)]))
 |_=> .no
def aek:List LV→T LV:=gZ Tryz.prog Tryz.f37.params.toList ajJ
def aB8:Specs:=aW [(69,ZV),(73,OB),(74,asz),(75,asy),(76,asx),(77,asw),(78,WU)]
theorem aNi:∀g S,aB8 g=some S→Valid Tryz.prog aP g S:=aS (l:=[(69,ZV),(73,OB),(74,asz),(75,asy),(76,asx),(77,asw),(78,WU)]) ⟨aAO,amd,aK3,aK2,aK1,aKZ,auX,trivial⟩
theorem ayu (nm:ByteArray) (at_ ph mn mx st fb ow a si want:Int):letI c:=wz mn mx st want;letI d:=decide (si≥5);letI b:=(acU ((if (a !=0) then (1:Int) else 0).toNat*4+((if (c !=0) then (1:Int) else 0).toNat*2+((if d then (1:Int) else 0).toNat*1+0))));cO Tryz.prog aP (aB8) dR ay Tryz.f37 [.v (.agg #[.string nm,.int .i64 at_,.int .i64 ph,.int .i64 mn,.int .i64 mx,.int .i64 st,.int .i64 fb,.int .i64 ow]),.v (.agg #[.int .i64 a,.int .i64 si]),.v (.int .i64 want)]=.br ((!(P8 ph mn mx st fb a si)) ||((decide (want<0)) ||(decide (want>80)))) (.ok (.v (.tuple #[.agg #[.int .i64 0,.int .i64 0],.int .i64 1]))) (.req (Qk mn mx st) (.req (0≤(if (a !=0) then (1:Int) else 0)∧(if (a !=0) then (1:Int) else 0)<(2:Int)) (.req (0≤(if (c !=0) then (1:Int) else 0)∧(if (c !=0) then (1:Int) else 0)<(2:Int)) (.req (0≤(if d then (1:Int) else 0)∧(if d then (1:Int) else 0)<(2:Int)) (.br (b==0) (.ok (.v (.tuple #[.agg #[.int .i64 mn,.int .i64 0],.int .i64 0]))) (.br (b==1) (.ok (.v (.tuple #[.agg #[.int .i64 0,.int .i64 (if (1000000:Int)<(aSe (si+1)) then 1000000 else aSe (si+1))],.int .i64 0]))) (.br (b==2) (.ok (.v (.tuple #[.agg #[.int .i64 0,.int .i64 0],.int .i64 0]))) (.br (b==3) (.ok (.v (.tuple #[.agg #[.int .i64 (if aSe (a+st)<c then aSe (a+st) else c),.int .i64 (if (1000000:Int)<(aSe (si+1)) then 1000000 else aSe (si+1))],.int .i64 0]))) (.no))))))))):=by kernel_rfl
theorem aEi:Valid Tryz.prog aP 37 aek:=aI Tryz.func37 rfl aNi aA (bf (by kernel_rfl)) (λargs lv h=>by
 unfold ajJ at h;split at h
 ·simp only [canL,canX]
  rw [ayu];rename_i nm at_ ph mn mx st fb ow a si want;obtain rfl:=h
  by_cases hk:okB ph mn mx st fb a si want=true
  ·obtain ⟨k1,k2,k3,k4,k5⟩:=agC hk
   have w1:aSe (si+1)=si+1:=aH
   have w2:aSe (a+st)=a+st:=aH
   have i0:∀b:Bool,0≤(if b=true then (1:Int) else 0)∧(if b=true then (1:Int) else 0)<2:=λb=>by cases b<;>simp
   simp only [T.all,nA,nS,nE,k1,w1,w2,hk,V7,if_true,aH1,i0,true_and]
   by_cases c1:a=0<;>by_cases c2:wz mn mx st want=0<;>by_cases c3:5≤si<;>simp [c1,c2,c3,k2]
  ·have hn:(!P8 ph mn mx st fb a si ||(decide (want<0) ||decide (want>80)))=true:=agD hk
   simp only [T.all,nA,nS,nE,hk,hn]
   simp
 ·cases h)
def asJ:List LV→T LV
 | [.v (.agg ⟨[.string _,.int .i64 _,.int .i64 ph,.int .i64 mn,.int .i64 mx,.int .i64 st,.int .i64 fb,.int .i64 _]⟩)]=> .ok (.v (.bool (Rj ph mn mx st fb)))
 |_=> .no
def ast:List LV→T LV:=gZ Tryz.prog Tryz.f91.params.toList asJ
theorem aHq (nm:ByteArray) (at_ ph mn mx st fb ow:Int):cO Tryz.prog aP (Bj) dR ay Tryz.f91 [.v (.agg #[.string nm,.int .i64 at_,.int .i64 ph,.int .i64 mn,.int .i64 mx,.int .i64 st,.int .i64 fb,.int .i64 ow])]=.br ((decide (ph<1)) ||((decide (ph>7)) ||((decide (mn<1)) ||((decide (mx>80)) ||((decide (mn>mx)) ||((decide (st<1)) ||(decide (st>80)))))))) (.ok (.v (.bool false))) (.ok (.v (.bool ((fb==0) ||((decide (fb≥mn))&&(decide (fb≤mx))))))):=by kernel_rfl
theorem aKW:Valid Tryz.prog aP 91 ast:=aI Tryz.func91 rfl DV aA (bf (by kernel_rfl)) (λargs lv h=>by
 unfold asJ at h;split at h
 ·simp only [canL,canX]
  rw [aHq];obtain rfl:=h;refine ⟨λhb=>?_,λhb=>?_⟩
  ·exact congrArg (λz=>LV.v (.bool z)) (aRj hb)
  ·exact congrArg (λz=>LV.v (.bool z)) (aRi hb)
 ·cases h)
def asM:List LV→T LV
 | [.v (.agg ⟨[.int .i64 nu,.int .i64 co,.int .i64 am,.int .i64 fr,.int .i64 tk]⟩)]=> .ok (.v (.bool (leV (nu,co,am,fr,tk))))
 |_=> .no
def asv:List LV→T LV:=gZ Tryz.prog Tryz.f90.params.toList asM
def Wv:Specs:=aW []
theorem ac0:∀g S,Wv g=some S→Valid Tryz.prog aP g S:=aS (l:=[]) trivial
theorem aHt (nu co am fr tk:Int):cO Tryz.prog aP (Wv) dR ay Tryz.f90 [.v (.agg #[.int .i64 nu,.int .i64 co,.int .i64 am,.int .i64 fr,.int .i64 tk])]=.ok (.v (.bool ((decide (nu≥1))&&((decide (nu≤1000000))&&((decide (co≥0))&&((decide (co<16))&&((decide (am≥0))&&((decide (am≤80))&&((decide (fr≥0))&&((decide (fr≤1000000))&&((decide (tk≥1))&&(decide (tk≤1000))))))))))))):=by kernel_rfl
theorem aKY:Valid Tryz.prog aP 90 asv:=aI Tryz.func90 rfl ac0 aA (bf (by kernel_rfl)) (λargs lv h=>by
 unfold asM at h;split at h
 ·simp only [canL,canX]
  rw [aHt];obtain rfl:=h;refine congrArg (λz=>LV.v (.bool z)) ?_
  unfold leV;rw [Bool.eq_iff_iff];simp only [Bool.and_eq_true,decide_eq_true_eq,dV];omega
 ·cases h)
structure sF where
 l:List Le
 r:Bool
 i:Int
def aQo (s:sF):List LV:=[.xl kY s.l,.v (.bool s.r),.v (.int .i64 s.i)]
def aO6 (_:sF):List aZ:=[]
def EW:Code:=((ax (Tryz.f50.body.getD .skip))[0]?).getD .skip
def afs (s:sF):T (Rd sF):=
 .br (decide (s.i<(s.l.length:Int))) (.req (0≤s.i∧s.i<(s.l.length:Int)) (.br (!(leV (gV s.l s.i))) (.ok (.stop (.ret) {s with r:=false})) (.br (decide (s.i>0)) (.req (0≤s.i∧s.i<(s.l.length:Int)) (.req (0≤(aSe (s.i-1))∧(aSe (s.i-1))<(s.l.length:Int)) (.br (decide ((gV s.l s.i).1≤(gV s.l (aSe (s.i-1))).1)) (.ok (.stop (.ret) {s with r:=false})) (.req (0≤s.i∧s.i<(s.l.length:Int)) (.req (0≤(aSe (s.i-1))∧(aSe (s.i-1))<(s.l.length:Int)) (.br (decide ((gV s.l s.i).2.2.2.1<(gV s.l (aSe (s.i-1))).2.2.2.1)) (.ok (.stop (.ret) {s with r:=false})) (.ok (.next {s with i:=(aSe (s.i+1))})))))))) (.ok (.next {s with i:=(aSe (s.i+1))}))))) (.ok (.stop (.exit 0) s))
abbrev aCJ (s:sF):=(afs s).rd s
def akA (s:sF):Prop:=s.i=0∧(s.l.length:Int)≤1000
def SI (s:sF):Prop:=(0≤s.i∧s.i≤(s.l.length:Int))∧(s.l.length:Int)≤1000∧∀j:Nat,(j:Int)<s.i→lG s.l j=true
def MI (s:sF):Nat:=((s.l.length:Int)-s.i).toNat
def atr (x:Ex) (_ s':sF):Prop:=(x=.exit 0∧∀j:Nat,(j:Int)<(s'.l.length:Int)→lG s'.l j=true)∨(x=.ret∧s'.r=false∧∃j:Nat,(j:Int)<(s'.l.length:Int)∧lG s'.l j=false)
theorem aMu:∀s,akA s→SI s:=by
 intro s h;obtain ⟨h0,h3⟩:=h;exact ⟨by omega,h3,λj hj=>by omega⟩
theorem aG4 (s:sF) (hI:SI s):bJ (λs'=>SI s'∧MI s'<MI s) (λx s'=>atr x s s') (aCJ s):=by
 unfold aCJ afs;dsimp only [T.rd,T.rl];obtain ⟨⟨h0,h1⟩,h3,hA⟩:=hI;refine ai (λc1=>?_) (λc1=>?_)
 ·refine ai (λc2=>?_) (λc2=>?_)
  ·have c1:s.i<(s.l.length:Int):=by simpa using c1
   refine .inr ⟨rfl,rfl,s.i.toNat,by simp only;omega,?_⟩
   rw [Int.toNat_of_nonneg h0]
   show lG s.l s.i=false
   unfold lG Zl;rw [ntW c2];rfl
  ·refine ai (λc3=>?_) (λc3=>?_)
   ·refine ai (λc4=>?_) (λc4=>?_)
    ·have c1:s.i<(s.l.length:Int):=by simpa using c1
     have c3:0<s.i:=by simpa using c3
     rw [aH (x:=s.i-1)] at c4;refine .inr ⟨rfl,rfl,s.i.toNat,by simp only;omega,?_⟩
     rw [Int.toNat_of_nonneg h0]
     show lG s.l s.i=false
     unfold lG Zl;rw [Qe c2,decide_eq_false (p:=s.i=0) (by omega)]
     simp only [decide_eq_true_eq] at c4;rw [decide_eq_false (p:=(gV s.l s.i).1>(gV s.l (s.i-1)).1) (by omega)]
     simp
    ·refine ai (λc5=>?_) (λc5=>?_)
     ·have c1:s.i<(s.l.length:Int):=by simpa using c1
      have c3:0<s.i:=by simpa using c3
      rw [aH (x:=s.i-1)] at c4;rw [aH (x:=s.i-1)] at c5;refine .inr ⟨rfl,rfl,s.i.toNat,by simp only;omega,?_⟩
      rw [Int.toNat_of_nonneg h0]
      show lG s.l s.i=false
      unfold lG Zl;rw [Qe c2,decide_eq_false (p:=s.i=0) (by omega)]
      simp only [decide_eq_true_eq] at c5;rw [decide_eq_false (p:=(gV s.l s.i).2.2.2.1≥(gV s.l (s.i-1)).2.2.2.1) (by omega)]
      simp
     ·have c1:s.i<(s.l.length:Int):=by simpa using c1
      have c3:0<s.i:=by simpa using c3
      rw [aH (x:=s.i-1)] at c4;rw [aH (x:=s.i-1)] at c5
      have hg:lG s.l s.i=true:=by
        unfold lG Zl;simp only [decide_eq_false_iff_not] at c4 c5;rw [Qe c2,decide_eq_true (p:=(gV s.l s.i).1>(gV s.l (s.i-1)).1) (by omega),decide_eq_true (p:=(gV s.l s.i).2.2.2.1≥(gV s.l (s.i-1)).2.2.2.1) (by omega)]
        simp
      rw [aH (x:=s.i+1)]
      exact ⟨⟨⟨by simp only;omega,by simp only;omega⟩,h3,λj hj=>by
       by_cases e:(j:Int)<s.i
       ·exact hA j e
       ·have e:(j:Int)=s.i:=by simp only at hj;omega
        show lG s.l j=true
        rw [e];exact hg⟩,by simp only [MI];omega⟩
   ·have c1:s.i<(s.l.length:Int):=by simpa using c1
    have hg:lG s.l s.i=true:=by
      unfold lG;rw [Qe c2,decide_eq_true (p:=s.i=0) (by simp at c3;omega)]
      rfl
    rw [aH (x:=s.i+1)]
    exact ⟨⟨⟨by simp only;omega,by simp only;omega⟩,h3,λj hj=>by
     by_cases e:(j:Int)<s.i
     ·exact hA j e
     ·have e:(j:Int)=s.i:=by simp only at hj;omega
      show lG s.l j=true
      rw [e];exact hg⟩,by simp only [MI];omega⟩
 ·have c1:(s.l.length:Int)≤s.i:=by simpa using c1
  exact .inl ⟨rfl,λj hj=>hA j (by omega)⟩
def Js:bK sF:=⟨0,51,[0,2,3],[],aQo,aO6,λv _=>⟨aU kY (v.getD 0 .junk),vW (v.getD 1 .junk),gI (v.getD 2 .junk)⟩,afs,λs r=> {r with l:=s.l},λs=>s,λ_ s=>s,[.ret,.exit 0],akA,SI,MI⟩
abbrev aga:=Js.run
abbrev aii:=Js.jf
abbrev aJU:=Js.q
theorem aFY (s:sF) (hI:SI s):(afs s).all (λ_=>True):=by
 refine ⟨λc1=>⟨?_,λ_=>trivial,λc2=>⟨λc3=>⟨?_,?_,λ_=>trivial,λc4=>⟨?_,?_,λ_=>trivial,λ_=>trivial⟩⟩,λ_=>trivial⟩⟩,λ_=>trivial⟩
 all_goals ((obtain ⟨⟨h0,h1⟩,h3,hA⟩:=hI;simp only [decide_eq_true_eq] at c1;first|omega|(simp only [decide_eq_true_eq,gt_iff_lt] at c3;rw [aH (x:=s.i-1)];omega)))
def ada:Specs:=aW [(90,asv)]
theorem arl:∀g S,ada g=some S→Valid Tryz.prog aP g S:=aS (l:=[(90,asv)]) ⟨aKY,trivial⟩
theorem aph:Js.Ok:={}
theorem an2:Js.Pf (atr):=⟨aMu,λ_ _=>rfl,aG4,aFY⟩
theorem avX:bC Tryz.prog aP (AN 0) (.loop EW) Js.lp:=bK.snd aph an2 (aQ (Γ:=ada) (K:=dR) (L:=ay) arl aA EW (λb hb=>by rw [show ax EW=[] by kernel_rfl] at hb;cases hb)) (λs=>by kernel_rfl)
theorem axh (s:sF) (hE:akA s):∃s',SI s'∧atr (aii s) s' (aga s):=bK.fin aph an2 s hE
def ajp:List LV→T LV
 | [.xl (.pair (.int .i64) (.pair (.int .i64) (.pair (.int .i64) (.pair (.int .i64) (.int .i64))))) l]=> .req ((l.length:Int)≤1000) (.ok (.v (.bool (rM l))))
 |_=> .no
def OD:List LV→T LV:=gZ Tryz.prog Tryz.f50.params.toList ajp
theorem aya (l:List Le):cO Tryz.prog aP (ada) dR (λi=>if i=2 then Js.lp else ay i) Tryz.f50 [.xl kY l]=.req (aJU (⟨l,false,(0:Int)⟩:sF)) (.br (iV (aii (⟨l,false,(0:Int)⟩:sF)) (.ret)) (.ok (.v (.bool (aga (⟨l,false,(0:Int)⟩:sF)).r))) (.ok (.v (.bool (decide ((l.length:Int)≤64)))))):=by kernel_rfl
theorem amf:Valid Tryz.prog aP 50 OD:=aI Tryz.func50 rfl arl aA (L:=(λi=>if i=2 then Js.lp else ay i)) (λb hb=>by
 rw [show ax _=[EW] by kernel_rfl] at hb
 simp only [List.mem_cons,List.not_mem_nil,or_false] at hb;subst hb;exact avX) (λargs lv h=>by
 unfold ajp at h;split at h
 ·simp only [canL,canX]
  rw [aya];rename_i l;obtain ⟨hn,rfl⟩:=h
  have hE:akA ⟨l,false,0⟩:=⟨rfl,hn⟩
  refine ⟨⟨hE,rfl,rfl⟩,?_⟩;obtain ⟨_,_,hq⟩:=axh _ hE;unfold rM;rcases hq with ⟨q1,q2⟩ |⟨q1,q2,j,q3,q4⟩<;>rw [q1]
  ·have e:Gi l.length (lG l)=true:=gm.2 q2
   rw [e,Bool.and_true];refine ⟨λh=>(by cases h),λ_=>congrArg (λz=>LV.v (.bool z)) ?_⟩
   by_cases h:l.length≤64
   ·rw [decide_eq_true h,decide_eq_true (by omega)]
   ·rw [decide_eq_false h,decide_eq_false (by omega)]
  ·have e:Gi l.length (lG l)=false:=vN j q3 q4
   rw [q2,e,Bool.and_false];exact ⟨λ_=>rfl,λh=>by cases h⟩
 ·cases h)
structure uJ where
 iP:Int
 level:Int
 x:Int
 uo:ByteArray
 adv:Int
 um:Int
 mn:Int
 mx:Int
 st:Int
 nV:Int
 pz:Int
def aQp (s:uJ):List LV:=[.v (.int .i64 s.iP),.own 0 0,.v (.int .i64 s.level),.v (.int .i64 s.x)]
def aO7 (s:uJ):List aZ:=[⟨[.v (.string s.uo),.v (.int .i64 s.adv),.v (.int .i64 s.um),.v (.int .i64 s.mn),.v (.int .i64 s.mx),.v (.int .i64 s.st),.v (.int .i64 s.nV),.v (.int .i64 s.pz)],58,.cl,false⟩]
def EX:Code:=((ax (Tryz.f83.body.getD .skip))[0]?).getD .skip
def aft (s:uJ):T (Rd uJ):=
 .br (decide (s.x≤s.mx)) (.br (decide (s.x≤s.iP)) (.ok (.next {s with level:=s.x,x:=(aSe (s.x+s.st))})) (.ok (.next {s with x:=(aSe (s.x+s.st))}))) (.ok (.stop (.exit 0) s))
abbrev aCK (s:uJ):=(aft s).rd s
def auC (s:uJ):Prop:=s.level=0∧s.x=s.mn∧Qk s.mn s.mx s.st
def OQ (s:uJ):Prop:=V4 s.mn s.mx s.st s.iP s.level s.x
def MJ (s:uJ):Nat:=(s.mx+1-s.x).toNat
def att (x:Ex) (_ s':uJ):Prop:=x=.exit 0∧s'.level=wz s'.mn s'.mx s'.st s'.iP
theorem aMv:∀s,auC s→OQ s:=by
 intro s h;obtain ⟨h0,h1,h2⟩:=h;unfold OQ;rw [h0,h1];exact acC h2
theorem aG5 (s:uJ) (hI:OQ s):bJ (λs'=>OQ s'∧MJ s'<MJ s) (λx s'=>att x s s') (aCK s):=by
 unfold aCK aft;dsimp only [T.rd,T.rl]
 have hI':V4 s.mn s.mx s.st s.iP s.level s.x:=hI
 have hc:=hI'.1
 unfold Qk at hc;refine ai (λc1=>?_) (λc1=>⟨rfl,aqp hI' (by simpa using c1)⟩)
 have c1:s.x≤s.mx:=by simpa using c1
 have hs:=alk hI' c1
 have hx:=hI'.2.1
 rw [aH (x:=s.x+s.st)];refine ai (λc2=>?_) (λc2=>?_)
 ·rw [if_pos (by simpa using c2)] at hs
  exact ⟨hs,by simp only [MJ];omega⟩
 ·rw [if_neg (by simpa using c2)] at hs
  exact ⟨hs,by simp only [MJ];omega⟩
def Jt:bK uJ:=⟨0,22,[1,2,5,6],[],aQp,aO7,λv b=>⟨gI (v.getD 0 .junk),gI (v.getD 2 .junk),gI (v.getD 3 .junk),gSr (bn (aT b 0) 0),gI (bn (aT b 0) 1),gI (bn (aT b 0) 2),gI (bn (aT b 0) 3),gI (bn (aT b 0) 4),gI (bn (aT b 0) 5),gI (bn (aT b 0) 6),gI (bn (aT b 0) 7)⟩,aft,λs r=> {r with iP:=s.iP,uo:=s.uo,adv:=s.adv,um:=s.um,mn:=s.mn,mx:=s.mx,st:=s.st,nV:=s.nV,pz:=s.pz},λs=>s,λ_ s=>s,[.exit 0],auC,OQ,MJ⟩
abbrev agb:=Jt.run
abbrev azS:=Jt.jf
abbrev aJV:=Jt.q
theorem aFZ (s:uJ) (_:OQ s):(aft s).all (λ_=>True):=by
 exact ⟨λc1=>⟨λ_=>trivial,λ_=>trivial⟩,λ_=>trivial⟩
theorem apj:Jt.Ok:={}
theorem an3:Jt.Pf (att):=⟨aMv,λ_ _=>rfl,aG5,aFZ⟩
theorem avY:bC Tryz.prog aP (AN 0) (.loop EX) Jt.lp:=bK.snd apj an3 (aQ (Γ:=Wv) (K:=dR) (L:=ay) ac0 aA EX (λb hb=>by rw [show ax EX=[] by kernel_rfl] at hb;cases hb)) (λs=>by kernel_rfl)
theorem axi (s:uJ) (hE:auC s):∃s',OQ s'∧att (azS s) s' (agb s):=bK.fin apj an3 s hE
def ajA:List LV→T LV
 | [.v (.agg ⟨[.string _,.int .i64 _,.int .i64 _,.int .i64 mn,.int .i64 mx,.int .i64 st,.int .i64 _,.int .i64 _]⟩),.v (.int .i64 a)]=> .req (Qk mn mx st) (.ok (.v (.int .i64 (wz mn mx st a))))
 |_=> .no
def OG:List LV→T LV:=gZ Tryz.prog Tryz.f83.params.toList ajA
theorem ayl (nm:ByteArray) (at_ ph mn mx st fb ow a:Int):cO Tryz.prog aP (Wv) dR (λi=>if i=3 then Jt.lp else ay i) Tryz.f83 [.v (.agg #[.string nm,.int .i64 at_,.int .i64 ph,.int .i64 mn,.int .i64 mx,.int .i64 st,.int .i64 fb,.int .i64 ow]),.v (.int .i64 a)]=.req (aJV (⟨a,(0:Int),mn,nm,at_,ph,mn,mx,st,fb,ow⟩:uJ)) (.ok (.v (.int .i64 (agb (⟨a,(0:Int),mn,nm,at_,ph,mn,mx,st,fb,ow⟩:uJ)).level))):=by kernel_rfl
theorem amh:Valid Tryz.prog aP 83 OG:=aI Tryz.func83 rfl ac0 aA (L:=(λi=>if i=3 then Jt.lp else ay i)) (λb hb=>by
 rw [show ax _=[EX] by kernel_rfl] at hb
 simp only [List.mem_cons,List.not_mem_nil,or_false] at hb;subst hb;exact avY) (λargs lv h=>by
 unfold ajA at h;split at h
 ·simp only [canL,canX]
  rw [ayl];obtain ⟨hc,rfl⟩:=h;refine lK ⟨⟨rfl,rfl,hc⟩,rfl,rfl⟩ (λhE=>?_)
  obtain ⟨_,_,_,q⟩:=axi _ hE.1;rw [q];exact rfl
 ·cases h)
def ajy:List LV→T LV
 | [.v (.agg ⟨[.string _,.int .i64 _,.int .i64 ph,.int .i64 mn,.int .i64 mx,.int .i64 st,.int .i64 fb,.int .i64 _]⟩),.v (.agg ⟨[.int .i64 a,.int .i64 si]⟩)]=> .ok (.v (.bool (P8 ph mn mx st fb a si)))
 |_=> .no
def OE:List LV→T LV:=gZ Tryz.prog Tryz.f51.params.toList ajy
def arN:Specs:=aW [(83,OG),(91,ast)]
theorem aIg:∀g S,arN g=some S→Valid Tryz.prog aP g S:=aS (l:=[(83,OG),(91,ast)]) ⟨amh,aKW,trivial⟩
theorem ayj (nm:ByteArray) (at_ ph mn mx st fb ow a si:Int):cO Tryz.prog aP (arN) dR ay Tryz.f51 [.v (.agg #[.string nm,.int .i64 at_,.int .i64 ph,.int .i64 mn,.int .i64 mx,.int .i64 st,.int .i64 fb,.int .i64 ow]),.v (.agg #[.int .i64 a,.int .i64 si])]=.br (Rj ph mn mx st fb) (.br (decide (a≥0)) (.br (decide (si≥0)) (.br (decide (si≤1000000)) (.req (Qk mn mx st) (.ok (.v (.bool ((wz mn mx st a)==a))))) (.ok (.v (.bool false)))) (.ok (.v (.bool false)))) (.ok (.v (.bool false)))) (.ok (.v (.bool false))):=by kernel_rfl
theorem amg:Valid Tryz.prog aP 51 OE:=aI Tryz.func51 rfl aIg aA (bf (by kernel_rfl)) (λargs lv h=>by
 unfold ajy at h;split at h
 ·simp only [canL,canX]
  rw [ayj];rename_i nm at_ ph mn mx st fb ow a si;obtain rfl:=h;unfold P8;cases hc:Rj ph mn mx st fb with
  |false=>simp [T.all]
  |true=>
   have hp:=adp hc
   by_cases h1:0≤a<;>by_cases h2:0≤si<;>by_cases h3:si≤1000000<;>simp [T.all,h1,h2,h3,hp]
 ·cases h)
abbrev yu:Ty:=.pair aSg aSg
abbrev Ra:=Int×Int
def jd (l:List Ra) (n:Int):Ra:=l.getD n.toNat (0,0)
theorem NE {l:List Ra}{n:Int}(h:n.toNat<l.length):jd l n=l[n.toNat]:=yA h
theorem aro {l:List Int}{j:Int}(h:l.length≤j.toNat):gi l j=0:=by
 unfold gi;rw [List.getD_eq_getElem?_getD,List.getElem?_eq_none h];rfl
theorem aHH {l:List Int}{a:Int}(h:a∈l):∃j:Int,(0≤j∧j<(l.length:Int))∧gi l j=a:=by
 obtain ⟨k,hk,e⟩:=List.mem_iff_getElem.1 h;exact ⟨k,by omega,by rw [jA (by simpa using hk)];simpa using e⟩
theorem neN {a b:Nat}:((a:Int) !=(b:Int))=!decide (a=b):=by
 by_cases h:a=b
 ·simp [h]
 ·have h':(a:Int)≠(b:Int):=by omega
  simp [h,h']
def AZ (t:Int) (x:Le):Bool:=decide (x.2.2.2.1≤t)&&decide (Qj x>t)
def kpA (o:List Int) (x:Le):List Int:=o.set x.2.1.toNat (mx (gi o x.2.1) x.2.2.1)
def ZR (n:Nat) (l:List Le) (t:Int):List Int:=(l.filter (AZ t)).foldl kpA (List.replicate n 0)
def below (n:Int) (l:List Le):Bool:=l.all (λx=>decide (x.2.1<n))
def Ho (l:List Le) (n t:Int):Bool:=(rM l&&(inB n 0 16&&inB t 0 1100000))&&below n l
def qO (l:List Le) (n t:Int):List Int:=if Ho l n t=true then ZR n.toNat l t else []
def ZT (l:List Le) (n t:Int):Int:=if Ho l n t=true then 0 else 1
theorem ay7 {o:List Int}{x:Le}:(kpA o x).length=o.length:=by simp [kpA]
theorem agT:∀ {l:List Le}{o:List Int},(l.foldl kpA o).length=o.length
 | [],_=>rfl
 |x::l,o=>by rw [List.foldl_cons,agT,ay7]
theorem zH {n:Nat}{l:List Le}{t:Int}:(ZR n l t).length=n:=by rw [ZR,agT,List.length_replicate]
theorem alm {l:List Le}(h:rM l=true):l.Pairwise (λa b=>a.1<b.1∧a.2.2.2.1≤b.2.2.2.1):=by
 unfold rM at h;rw [Bool.and_eq_true] at h
 have hs:∀k:Nat,(hk:k+1<l.length)→l[k].1<l[k+1].1∧l[k].2.2.2.1≤l[k+1].2.2.2.1:=λk hk=>by
  have:=gm.1 h.2 (k+1) (by omega)
  unfold lG Zl at this;rw [G6 (n:=((k+1:Nat):Int)) (by simpa using hk),G6 (n:=((k+1:Nat):Int)-1) (by omega)] at this
  simp only [Bool.and_eq_true,Bool.or_eq_true,decide_eq_true_eq] at this;obtain ⟨_,h1|h1⟩:=this
  ·omega
  ·have e:(((k+1:Nat):Int)-1).toNat=k:=by omega
   simp only [e,Int.toNat_natCast] at h1;omega
 rw [List.pairwise_iff_getElem];intro i j hi hj hij
 induction j with
 |zero=>omega
 | succ j ih=>
  have h1:=hs j (by omega)
  by_cases e:i=j
  ·subst e;exact h1
  ·have h2:=ih (by omega) (by omega)
   omega
def CV (c:Ch):Int:=c.2.2.2.2.2.2.1
def YF (c:Ch) (r:Ra):Bool:=P8 c.2.2.1 c.2.2.2.1 c.2.2.2.2.1 c.2.2.2.2.2.1 (CV c) r.1 r.2
def dmV (x:Dm):Bool:=inB x.2.1 0 1000000000&&(inB x.2.2.1 0 1000000&&inB x.2.2.2 1 9)
def P6 (cs:List Cd) (os:List ByteArray) (ks:List Ko) (gs:List Ch) (bs:List Ba) (l:List Le) (rs:List Ra) (d:List Dm) (t n:Int):Bool:=
 (fH cs os ks gs bs&&rM l)&&((decide (rs.length=gs.length)&&(decide (d.length=gs.length)&&(inB t 0 1000000&&inB n 1 999900)))&&(below gs.length l&&Gi gs.length (λj=>YF (bG gs j) (jd rs j)&&dmV (jG d j))))
def sW (n:Nat) (f:Int→Int):List Int:=(List.range n).map (λk:Nat=>f (k:Int))
theorem azf {x a b:Int}:(decide (x<a) ||decide (x>b))=!inB x a b:=by
 unfold inB
 by_cases h1:x<a
 ·rw [decide_eq_true h1,decide_eq_false (p:=x≥a) (by omega)];rfl
 ·rw [decide_eq_false h1,decide_eq_true (p:=x≥a) (by omega)]
  by_cases h2:x>b
  ·rw [decide_eq_true h2,decide_eq_false (p:=x≤b) (by omega)];rfl
  ·rw [decide_eq_false h2,decide_eq_true (p:=x≤b) (by omega)];rfl
theorem aze {x a b:Int}{y:Bool}:(decide (x<a) ||(decide (x>b) ||y))=(!inB x a b ||y):=by rw [←Bool.or_assoc,azf]
theorem vbE {c:Ch}{r:Ra}{x:Dm}:((!P8 c.2.2.1 c.2.2.2.1 c.2.2.2.2.1 c.2.2.2.2.2.1 c.2.2.2.2.2.2.1 r.1 r.2) ||(decide (x.2.1<0) ||(decide (x.2.1>1000000000) ||(decide (x.2.2.1<0) ||(decide (x.2.2.1>1000000) ||(decide (x.2.2.2<1) ||decide (x.2.2.2>9)))))))=!(YF c r&&dmV x):=by
 unfold YF CV dmV;rw [aze,aze,azf,Bool.not_and,Bool.not_and,Bool.not_and]
def arS (cs:List Cd) (os:List ByteArray) (ks:List Ko) (gs:List Ch) (bs:List Ba) (l:List Le) (rs:List Ra) (d:List Dm):Bool:=decide (cs.length≤40∧os.length≤40∧ks.length≤40∧gs.length≤40∧bs.length≤40)&&(decide ((l.length:Int)≤100)&&(decide ((rs.length:Int)≤40)&&decide ((d.length:Int)≤40)))
theorem dH {n:Nat}{f:Int→Int}:(sW n f).length=n:=by simp [sW]
theorem tJ {n:Nat}{f:Int→Int}:sW (n+1) f=sW n f++[f (n:Int)]:=by simp [sW,List.range_succ]
theorem lq {n:Nat}{f:Int→Int}{j:Int}(h0:0≤j) (h1:j<(n:Int)):gi (sW n f) j=f j:=by
 rw [jA (by rw [dH];omega)]
 simp only [sW,List.getElem_map,List.getElem_range];rw [Int.toNat_of_nonneg h0]
theorem MW {n:Nat}{f:Int→Int}{x:Int}(h:x∈sW n f):∃j,(0≤j∧j<(n:Int))∧f j=x:=by
 obtain ⟨k,hk,e⟩:=List.mem_map.1 h;exact ⟨k,⟨by omega,by have:=List.mem_range.1 hk;omega⟩,e⟩
def mG (gs:List Ch):List Int:=sW gs.length (λk=>CV (bG gs k))
def qj (gs:List Ch) (d:List Dm):List Int:=sW gs.length (λk=>if (jG d k).1=true then (bG gs k).2.2.2.2.1 else 0)
def qw (gs:List Ch) (l:List Le) (t:Int):List Int:=sW gs.length (λk=>mx (CV (bG gs k)) (gi (ZR gs.length l t) k))
def Qa (cs:List Cd) (os:List ByteArray) (ks:List Ko) (gs:List Ch) (bs:List Ba) (d:List Dm) (t:Int):List Int:=zW cs os ks gs bs (mG gs) (qj gs d) (iK d t)
def ofL (cs:List Cd) (os:List ByteArray) (ks:List Ko) (gs:List Ch) (bs:List Ba) (l:List Le) (d:List Dm) (t:Int):List Int:=zW cs os ks gs bs (qw gs l t) (Qa cs os ks gs bs d t) (iK d t)
theorem ahl {l:List Ra}{i j:Int}{v:Ra}(h0:0≤i) (h1:i<(l.length:Int)) (hj:0≤j):jd (l.set i.toNat v) j=if j=i then v else jd l j:=by
 unfold jd;rw [List.getD_eq_getElem?_getD,List.getD_eq_getElem?_getD,List.getElem?_set]
 by_cases e:j=i
 ·subst e
  rw [if_pos rfl,if_pos rfl,if_pos (by omega)]
  rfl
 ·rw [if_neg (by omega),if_neg e]
theorem azi {a b:List Ra}(hl:a.length=b.length) (h:∀j:Int,0≤j→j<(b.length:Int)→jd a j=jd b j):a=b:=List.ext_getElem hl λk h1 h2=>by
 have:=h (k:Int) (by omega) (by omega)
 rw [NE (by simpa using h1),NE (by simpa using h2)] at this
 simpa using this
def Uz (cs:List Cd) (os:List ByteArray) (ks:List Ko) (gs:List Ch) (bs:List Ba) (l:List Le) (d:List Dm) (t:Int) (od:List Int):List Int:=zW cs os ks gs bs (qw gs l t) (zW cs os ks gs bs (mG gs) (qj gs d) od) od
def L9 (a t:Int):Option Le→Bool
 |none=>true
 |some x=>x.2.2.1 !=a ||decide (x.2.2.2.1≤t-6)
def nwB (gs:List Ch) (l:List Le) (t i a:Int):Bool:=!decide (a≤CV (bG gs i))&&L9 a t (l.reverse.find? (λx=>x.2.1==i))
def Xj (c:Ch) (r:Ra) (w:Int):Int:=nA c.2.2.1 c.2.2.2.1 c.2.2.2.2.1 c.2.2.2.2.2.1 (CV c) r.1 r.2 w
def nxS (c:Ch) (r:Ra) (w:Int):Int:=nS c.2.2.1 c.2.2.2.1 c.2.2.2.2.1 c.2.2.2.2.2.1 (CV c) r.1 r.2 w
def Hf (gs:List Ch) (rs:List Ra) (w:List Int) (k:Nat):List Int:=sW k (λk=>Xj (bG gs k) (jd rs k) (gi w k))
def dcR (gs:List Ch) (rs:List Ra) (w:List Int) (k:Nat):List Ra:=(List.range k).map (λk:Nat=>(Xj (bG gs k) (jd rs k) (gi w k),nxS (bG gs k) (jd rs k) (gi w k)))
def dcL (gs:List Ch) (l:List Le) (t n:Int) (am:List Int):Nat→List Le
 |0=>[]
 |k+1=>dcL gs l t n am k++(if nwB gs l t k (gi am k)=true then [(n+(dcL gs l t n am k).length,(k:Int),gi am k,t,12)] else [])
theorem AL {gs:List Ch}{rs:List Ra}{w:List Int}{k:Nat}:(dcR gs rs w k).length=k:=by simp [dcR]
theorem aIN {gs:List Ch}{rs:List Ra}{w:List Int}{k:Nat}{j:Int}(h0:0≤j) (h1:j<(k:Int)):jd (dcR gs rs w k) j=(Xj (bG gs j) (jd rs j) (gi w j),nxS (bG gs j) (jd rs j) (gi w j)):=by
 rw [NE (by rw [AL];omega)]
 simp only [dcR,List.getElem_map,List.getElem_range];rw [Int.toNat_of_nonneg h0]
def okC (c:Ch) (r:Ra) (w:Int):Bool:=okB c.2.2.1 c.2.2.2.1 c.2.2.2.2.1 c.2.2.2.2.2.1 (CV c) r.1 r.2 w
def dcK (gs:List Ch) (rs:List Ra) (w:List Int):Prop:=∀j,0≤j→j<(gs.length:Int)→okC (bG gs j) (jd rs j) (gi w j)=true
theorem yc {gs:List Ch}{l:List Le}{t n:Int}{am:List Int}:∀ {k:Nat},(dcL gs l t n am k).length≤k
 |0=>by simp [dcL]
 |k+1=>by
  have:=yc (gs:=gs) (l:=l) (t:=t) (n:=n) (am:=am) (k:=k)
  rw [dcL,List.length_append];split
  ·simp only [List.length_cons,List.length_nil];omega
  ·simp only [List.length_nil];omega
section
variable (cs : List Cd) (os : List ByteArray) (ks : List Ko) (gs : List Ch) (bs : List Ba) (l : List Le) (rs : List Ra) (d : List Dm) (t n : Int)
def deA:List Int:=if P6 cs os ks gs bs l rs d t n=true then Hf gs rs (ofL cs os ks gs bs l d t) gs.length else []
def deR:List Ra:=if P6 cs os ks gs bs l rs d t n=true then dcR gs rs (ofL cs os ks gs bs l d t) gs.length else []
def deL:List Le:=if P6 cs os ks gs bs l rs d t n=true then dcL gs l t n (Hf gs rs (ofL cs os ks gs bs l d t) gs.length) gs.length else []
def deE:Int:=if P6 cs os ks gs bs l rs d t n=true then 0 else 1
end
section
variable {cs : List Cd} {os : List ByteArray} {ks : List Ko} {gs : List Ch} {bs : List Ba} {l : List Le} {rs : List Ra} {d : List Dm} {t n : Int}
structure Vd (cs:List Cd) (os:List ByteArray) (ks:List Ko) (gs:List Ch) (bs:List Ba) (l:List Le) (rs:List Ra) (d:List Dm) (t n:Int):Prop where
 site:fH cs os ks gs bs=true
 les:rM l=true
 rl:rs.length=gs.length
 dl:d.length=gs.length
 gl:gs.length≤16
 tb:0≤t∧t≤1000000
 nb:1≤n∧n≤999900
 co:below gs.length l=true
 ra:∀j:Int,0≤j→j<(gs.length:Int)→YF (bG gs j) (jd rs j)=true
 dm:∀j:Int,0≤j→j<(gs.length:Int)→dmV (jG d j)=true
 ch:∀j:Int,0≤j→j<(gs.length:Int)→chW (bG gs j)=true
theorem Xo (h:P6 cs os ks gs bs l rs d t n=true):Vd cs os ks gs bs l rs d t n:=by
 unfold P6 at h;simp only [Bool.and_eq_true,decide_eq_true_eq,dV] at h;obtain ⟨⟨h1,h2⟩,⟨h3,h4,h5,h6⟩,h7,h8⟩:=h
 have hj:∀j:Int,0≤j→j<(gs.length:Int)→YF (bG gs j) (jd rs j)=true∧dmV (jG d j)=true:=λj h0 hj=>by
  have:=gm.1 h8 j.toNat (by omega)
  rw [Int.toNat_of_nonneg h0,Bool.and_eq_true] at this;exact this
 exact ⟨h1,h2,h3,h4,(fK.1 h1).1.2.2.2.2.1,h5,h6,h7,λj h0 h1=>(hj j h0 h1).1,λj h0 h1=>(hj j h0 h1).2,λj h0 hj=>by
  have:=tY h1 h0 hj
  unfold JZ at this;simp only [Bool.and_eq_true] at this;exact this.2.2⟩
theorem ado {c:Ch}(h:chW c=true):(1≤c.2.2.1∧c.2.2.1≤7)∧(1≤c.2.2.2.1∧c.2.2.2.1≤c.2.2.2.2.1)∧c.2.2.2.2.1≤80∧(1≤c.2.2.2.2.2.1∧c.2.2.2.2.2.1≤80)∧0≤CV c∧CV c≤c.2.2.2.2.1:=by
 unfold chW at h;unfold CV;simp only [Bool.and_eq_true,Bool.or_eq_true,dV,beq_iff_eq] at h;omega
theorem aAA (hv:rM l=true) {m:Nat}:∀a∈ZR m l t,0≤a∧a≤80:=by
 have key:∀(l:List Le) (o:List Int),(∀x∈l,leV x=true)→(∀a∈o,0≤a∧a≤80)→∀a∈l.foldl kpA o,0≤a∧a≤80:=λl=>by
  induction l with
  |nil=>exact λo _ h=>h
  | cons x l ih=>
   intro o hl ho;rw [List.foldl_cons];refine ih _ (λy hy=>hl y (by simp [hy])) λa ha=>?_
   have hx:=V5.1 (hl x (by simp))
   rcases List.mem_or_eq_of_mem_set ha with ha|rfl
   ·exact ho a ha
   ·have:0≤gi o x.2.1∧gi o x.2.1≤80:=by
     by_cases h:x.2.1.toNat<o.length
     ·rw [jA h];exact ho _ (List.getElem_mem _)
     ·rw [aro (by omega)];omega
    unfold mx;split<;>omega
 refine key _ _ (λx hx=>(zu hv).2 x (List.mem_filter.1 hx).1) λa ha=>?_
 rw [List.eq_of_mem_replicate ha];omega
theorem agW (hd:d.length=gs.length):oh (iK d t) gs.length=true:=by
 unfold oh;rw [YM,hd,decide_eq_true rfl,Bool.true_and,Bool.and_eq_true,List.all_eq_true];refine ⟨λx hx=>Dy.2 (by have:=aou.1 hx;rw [hd] at this;exact this),L8.2 λj hj hm=>?_⟩
 obtain ⟨k,hk,e⟩:=List.mem_iff_getElem.1 hm;rw [List.length_take] at hk;rw [List.getElem_take] at e
 have:=(List.pairwise_iff_getElem.1 (abR (d:=d) (t:=t))) k j (by omega) hj (by omega)
 exact this e
theorem aB3 {l:List Int}{a b:Int}(hz:a≤0∧0≤b) (h:∀x∈l,a≤x∧x≤b) {j:Int}:a≤gi l j∧gi l j≤b:=by
 by_cases hj:j.toNat<l.length
 ·rw [jA hj];exact h _ (List.getElem_mem _)
 ·rw [aro (by omega)];exact hz
structure Si (cs:List Cd) (os:List ByteArray) (ks:List Ko) (gs:List Ch) (bs:List Ba) (d:List Dm):Prop where
 site:fH cs os ks gs bs=true
 dl:d.length=gs.length
theorem Si.ch (h:Si cs os ks gs bs d) {j:Int}(h0:0≤j) (hj:j<(gs.length:Int)):chW (bG gs j)=true:=by
 have:=tY h.site h0 hj
 unfold JZ at this;simp only [Bool.and_eq_true] at this;exact this.2.2
theorem Vd.si (h:Vd cs os ks gs bs l rs d t n):Si cs os ks gs bs d:=⟨h.site,h.dl⟩
theorem aI0 (h:Si cs os ks gs bs d):∀a∈mG gs,0≤a∧a≤80:=λa ha=>by
 obtain ⟨j,⟨h0,h1⟩,rfl⟩:=MW ha
 have:=ado (h.ch h0 h1)
 omega
theorem aDz (h:Si cs os ks gs bs d):∀a∈qj gs d,0≤a∧a≤80:=λa ha=>by
 obtain ⟨j,⟨h0,h1⟩,rfl⟩:=MW ha
 have:=ado (h.ch h0 h1)
 split<;>omega
theorem aI3 (h:Vd cs os ks gs bs l rs d t n):∀a∈qw gs l t,0≤a∧a≤80:=λa ha=>by
 obtain ⟨j,⟨h0,h1⟩,rfl⟩:=MW ha
 have:=ado (h.ch j h0 h1)
 have:=aB3 (j:=j) ⟨Int.le_refl 0,by decide⟩ (aAA h.les (m:=gs.length) (t:=t))
 unfold mx;split<;>omega
theorem aE2 {al mo od:List Int}(hk:sQ cs os ks gs bs al mo od=true):letI a:=zW cs os ks gs bs al mo od;a.length=gs.length∧∀j,0≤j→j<(gs.length:Int)→(0≤gi a j∧gi a j≤80)∧gi a j≤gi mo j:=by
 have H:=amQ hk
 rw [aE1 hk];refine ⟨lM,λj h0 h1=>?_⟩
 obtain ⟨_,_,_,e4,e5⟩:=aI1 H (aqi H) h0 h1
 have h3:=(aLb H h0 h1 ((aqi H).2 j h0 h1).1 ((aqi H).2 j h0 h1).2).2 (aqh H h0 h1)
 rw [o8 h0 h1] at e4 e5⊢;exact ⟨⟨e4,e5⟩,h3⟩
theorem afU {al mo od:List Int}(hk:sQ cs os ks gs bs al mo od=true):(zW cs os ks gs bs al mo od).length=gs.length∧∀a∈zW cs os ks gs bs al mo od,0≤a∧a≤80:=by
 obtain ⟨h1,h2⟩:=aE2 hk;refine ⟨h1,λa ha=>?_⟩
 obtain ⟨j,hj,rfl⟩:=aHH ha;rw [h1] at hj;exact (h2 j hj.1 hj.2).1
theorem aAT (h:Si cs os ks gs bs d):sQ cs os ks gs bs (mG gs) (qj gs d) (iK d t)=true:=
 iJ.2 ⟨h.site,dH,dH,List.all_eq_true.2 λa ha=>pq.2 (aI0 h a ha),List.all_eq_true.2 λa ha=>pq.2 (aDz h a ha),agW h.dl⟩
theorem amk (h:Si cs os ks gs bs d):(Qa cs os ks gs bs d t).length=gs.length∧∀a∈Qa cs os ks gs bs d t,0≤a∧a≤80:=by
 exact afU (aAT (t:=t) h)
theorem aBp (h:Vd cs os ks gs bs l rs d t n):sQ cs os ks gs bs (qw gs l t) (Qa cs os ks gs bs d t) (iK d t)=true:=
 iJ.2 ⟨h.site,dH,(amk h.si).1,List.all_eq_true.2 λa ha=>pq.2 (aI3 h a ha),List.all_eq_true.2 λa ha=>pq.2 ((amk h.si).2 a ha),agW h.dl⟩
theorem apI (h:Vd cs os ks gs bs l rs d t n):(ofL cs os ks gs bs l d t).length=gs.length∧∀a∈ofL cs os ks gs bs l d t,0≤a∧a≤80:=by
 exact afU (aBp h)
theorem aMB (h:Vd cs os ks gs bs l rs d t n) {j:Int}:letI a:=ofL cs os ks gs bs l d t;0≤gi a j∧gi a j≤80:=aB3 ⟨Int.le_refl 0,by decide⟩ (apI h).2
theorem aIM (h:Vd cs os ks gs bs l rs d t n):dcK gs rs (ofL cs os ks gs bs l d t):=λj j0 j1=>by
 have hr:=h.ra j j0 j1
 have hb:=aMB h (j:=j)
 unfold YF at hr;unfold okC okB;rw [hr,decide_eq_true hb.1,decide_eq_true hb.2];rfl
theorem aiS (h:Vd cs os ks gs bs l rs d t n):Ho l gs.length t=true:=by
 have:=h.gl
 have:=h.tb
 unfold Ho;rw [h.les,dV.2 ⟨by omega,by omega⟩,dV.2 ⟨by omega,by omega⟩,h.co]
 rfl
theorem aKN (h:Vd cs os ks gs bs l rs d t n):kX d t∧d.length≤19:=by
 refine ⟨⟨λx hx=>?_,by have:=h.tb;omega,by have:=h.tb;omega⟩,by have:=h.gl;have:=h.dl;omega⟩
 obtain ⟨k,hk,rfl⟩:=List.mem_iff_getElem.1 hx
 have:=h.dm k (by omega) (by rw [←h.dl];omega)
 unfold dmV jG at this;rw [yA (by simpa using hk)] at this
 simp only [Bool.and_eq_true,dV,Int.toNat_natCast] at this;omega
end
structure pK where
 l:List ByteArray
 w:ByteArray
 r:Int
 i:Int
def aQH (s:pK):List LV:=[.xl .str s.l,.v (.string s.w),.v (.int .i64 s.r),.v (.int .i64 s.i)]
def aPp (_:pK):List aZ:=[]
def Fp:Code:=((ax (Tryz.f144.body.getD .skip))[0]?).getD .skip
def X3 (s:pK):T (Rd pK):=
 .br (decide (s.i<(s.l.length:Int))) (.req (0≤s.i∧s.i<(s.l.length:Int)) (.br ((gS s.l s.i).toList==s.w.toList) (.ok (.stop (.ret) {s with r:=s.i})) (.ok (.next {s with i:=(aSe (s.i+1))})))) (.ok (.stop (.exit 0) s))
abbrev ahQ (s:pK):=(X3 s).rd s
def auG (s:pK):Prop:=s.i=0∧(s.l.length:Int)≤1000∧True
def aaz (s:pK):Prop:=0≤s.i∧s.i≤(s.l.length:Int)∧(s.l.length:Int)≤1000∧True
def Vz (s:pK):Nat:=((s.l.length:Int)-s.i).toNat
def aDn (_:Ex) (_ _:pK):Prop:=True
theorem aM0:∀s,auG s→aaz s:=by
 intro s h;obtain ⟨h0,h1,h2⟩:=h;exact ⟨by omega,by omega,h1,h2⟩
theorem aHX (s:pK) (hI:aaz s):bJ (λs'=>aaz s'∧Vz s'<Vz s) (λx s'=>aDn x s s') (ahQ s):=by
 unfold ahQ X3;dsimp only [T.rd,T.rl];obtain ⟨h0,h1,h2,h3⟩:=hI;refine ai (λc1=>?_) (λc1=>?_)
 ·refine ai (λc2=>?_) (λc2=>?_)
  ·trivial
  ·have c1:s.i<(s.l.length:Int):=by simpa using c1
   rw [aH (x:=s.i+1)];exact ⟨⟨by simp only;omega,by simp only;omega,h2,h3⟩,by simp only [Vz];omega⟩
 ·trivial
def JG:bK pK:=⟨0,19,[0,1,4,5],[],aQH,aPp,λv _=>⟨aU .str (v.getD 0 .junk),gSr (v.getD 1 .junk),gI (v.getD 2 .junk),gI (v.getD 3 .junk)⟩,X3,λs r=> {r with l:=s.l,w:=s.w},λs=>s,λ_ s=>s,[.ret,.exit 0],auG,aaz,Vz⟩
abbrev agi:=JG.run
abbrev ain:=JG.jf
abbrev aKb:=JG.q
theorem aGh (s:pK) (hI:aaz s):(X3 s).all (λ_=>True):=by
 refine ⟨λc1=>⟨?_,λ_=>trivial,λ_=>trivial⟩,λ_=>trivial⟩
 ·(obtain ⟨h0,h1,h2,h3⟩:=hI;simp only [decide_eq_true_eq] at c1;omega)
def Nz:Specs:=aW []
theorem QX:∀g S,Nz g=some S→Valid Tryz.prog aP g S:=aS (l:=[]) trivial
theorem apr:JG.Ok:={}
theorem aoa:JG.Pf (aDn):=⟨aM0,λ_ _=>rfl,aHX,aGh⟩
theorem awh:bC Tryz.prog aP (AN 0) (.loop Fp) JG.lp:=bK.snd apr aoa (aQ (Γ:=Nz) (K:=dR) (L:=ay) QX aA Fp (λb hb=>by rw [show ax Fp=[] by kernel_rfl] at hb;cases hb)) (λs=>by kernel_rfl)
theorem azd (s:pK) (hE:auG s):(λ(x:Ex) (s':pK) (v:Int)=>(x=.ret∧s'.r=v)∨(x=.exit 0∧v=-1)) (ain s) (agi s) ((λs:pK=>inG s.i (s.l.drop s.i.toNat) s.w) s):=by
 exact bK.mD apr aoa (λs:pK=>inG s.i (s.l.drop s.i.toNat) s.w) (λx s' v=>(x=.ret∧s'.r=v)∨(x=.exit 0∧v=-1)) (λs hI=>by
  show bJ _ _ (ahQ s)
  unfold ahQ X3;dsimp only [T.rd,T.rl];obtain ⟨h0,h1,h2,h3⟩:=hI;refine ai (λc1=>ai (λc2=>?_) (λc2=>?_)) (λc1=>?_)
  ·have c1:s.i<(s.l.length:Int):=by simpa using c1
   rw [xu] at c2;refine .inl ⟨rfl,?_⟩
   try simp only
   rw [(xY h0 c1).1,inG,if_pos c2]
  ·have c1:s.i<(s.l.length:Int):=by simpa using c1
   rw [xu] at c2;rw [aH (x:=s.i+1)]
   show inG _ _ _=inG _ _ _
   rw [(xY h0 c1).1,inG,if_neg (by rw [c2];simp)]
  ·have c1:(s.l.length:Int)≤s.i:=by simpa using c1
   refine .inr ⟨rfl,?_⟩;rw [List.drop_eq_nil_of_le (by omega)]
   rfl) s hE
def asH:List LV→T LV
 | [.xl (.str) l,.v (.string w)]=> .req ((l.length:Int)≤1000) (.ok (.v (.int .i64 (inI l w))))
 |_=> .no
def asq:List LV→T LV:=gZ Tryz.prog Tryz.f144.params.toList asH
theorem aHo (l:List ByteArray) (w:ByteArray):cO Tryz.prog aP (Nz) dR (λi=>if i=2 then JG.lp else ay i) Tryz.f144 [.xl .str l,.v (.string w)]=.req (aKb (⟨l,w,(0:Int),(0:Int)⟩:pK)) (.br (iV (ain (⟨l,w,(0:Int),(0:Int)⟩:pK)) (.ret)) (.ok (.v (.int .i64 (agi (⟨l,w,(0:Int),(0:Int)⟩:pK)).r))) (.ok (.v (.int .i64 (-1))))):=by kernel_rfl
theorem aKU:Valid Tryz.prog aP 144 asq:=aI Tryz.func144 rfl QX aA (L:=(λi=>if i=2 then JG.lp else ay i)) (λb hb=>by
 rw [show ax _=[Fp] by kernel_rfl] at hb
 simp only [List.mem_cons,List.not_mem_nil,or_false] at hb;subst hb;exact awh) (λargs lv h=>by
 unfold asH at h;split at h
 ·simp only [canL,canX]
  rw [aHo];obtain ⟨hl,rfl⟩:=h;refine lK ⟨⟨rfl,hl,trivial⟩,rfl,rfl⟩ (λhE=>?_)
  rcases azd _ hE.1 with ⟨q1,q2⟩ |⟨q1,q2⟩
  ·rw [q1,q2]
   exact ⟨λ_=>rfl,λh=>by cases h⟩
  ·rw [q1]
   refine ⟨λh=>(by cases h),λ_=>congrArg (λz=>LV.v (.int .i64 z)) ?_⟩
   exact q2.symm
 ·cases h)
def Rx:List LV→T LV
 | []=> .ok (.xl .str kinds)
 |_=> .no
def Oz:List LV→T LV:=gZ Tryz.prog Tryz.f145.params.toList Rx
theorem alc  :cO Tryz.prog aP (Nz) dR ay Tryz.f145 []=.ok (.xl .str ([(ByteArray.mk #[102,101,101,100,101,114]),(ByteArray.mk #[99,97,98,108,101]),(ByteArray.mk #[111,119,110,101,114]),(ByteArray.mk #[99,111,110,116,114,97,99,116]),(ByteArray.mk #[99,104,97,114,103,101,114]),(ByteArray.mk #[98,97,121]),(ByteArray.mk #[116,97,114,105,102,102])])):=by kernel_rfl
theorem amb:Valid Tryz.prog aP 145 Oz:=aI Tryz.func145 rfl QX aA (bf (by kernel_rfl)) (λargs lv h=>by
 unfold Rx at h;split at h
 ·simp only [canL]
  rw [alc];exact h
 ·cases h)
def Ry:List LV→T LV
 | []=> .ok (.xl .str IC)
 |_=> .no
def OC:List LV→T LV:=gZ Tryz.prog Tryz.f146.params.toList Ry
theorem ald  :cO Tryz.prog aP (Nz) dR ay Tryz.f146 []=.ok (.xl .str ([(ByteArray.mk #[108,105,109,105,116]),(ByteArray.mk #[110,101,117,116,114,97,108]),(ByteArray.mk #[102,117,115,101]),(ByteArray.mk #[116,104,101,114,109,97,108]),(ByteArray.mk #[102,114,111,109]),(ByteArray.mk #[97,116]),(ByteArray.mk #[112,104,97,115,101,115]),(ByteArray.mk #[97,109,112,115]),(ByteArray.mk #[102,97,108,108,98,97,99,107]),(ByteArray.mk #[111,119,110,101,114]),(ByteArray.mk #[99,97,114,100]),(ByteArray.mk #[114,97,110,107]),(ByteArray.mk #[99,104,97,114,103,101,114])])):=by kernel_rfl
theorem ame:Valid Tryz.prog aP 146 OC:=aI Tryz.func146 rfl QX aA (bf (by kernel_rfl)) (λargs lv h=>by
 unfold Ry at h;split at h
 ·simp only [canL]
  rw [ald];exact h
 ·cases h)
def FY:List LV→T LV
 | []=> .ok (.xl .str qN)
 |_=> .no
def zJ:List LV→T LV:=gZ Tryz.prog Tryz.f147.params.toList FY
theorem UB  :cO Tryz.prog aP (Nz) dR ay Tryz.f147 []=.ok (.xl .str ([(ByteArray.mk #[115,116,97,114,116]),(ByteArray.mk #[101,110,101,114,103,121]),(ByteArray.mk #[116,105,109,101]),(ByteArray.mk #[105,100,108,101]),(ByteArray.mk #[99,97,112]),(ByteArray.mk #[116,97,120])])):=by kernel_rfl
theorem Xp:Valid Tryz.prog aP 147 zJ:=aI Tryz.func147 rfl QX aA (bf (by kernel_rfl)) (λargs lv h=>by
 unfold FY at h;split at h
 ·simp only [canL]
  rw [UB];exact h
 ·cases h)
def Ru:List LV→T LV
 | []=> .ok (.xl .str words)
 |_=> .no
def Ov:List LV→T LV:=gZ Tryz.prog Tryz.f148.params.toList Ru
theorem alb  :cO Tryz.prog aP (Nz) dR ay Tryz.f148 []=.ok (.xl .str ([(ByteArray.mk #[111,110]),(ByteArray.mk #[119,111,114,107]),(ByteArray.mk #[115,97,116,117,114,100,97,121]),(ByteArray.mk #[115,117,110,100,97,121]),(ByteArray.mk #[98,101,116,119,101,101,110]),(ByteArray.mk #[112,101,114]),(ByteArray.mk #[102,114,101,101])])):=by kernel_rfl
theorem al8:Valid Tryz.prog aP 148 Ov:=aI Tryz.func148 rfl QX aA (bf (by kernel_rfl)) (λargs lv h=>by
 unfold Ru at h;split at h
 ·simp only [canL]
  rw [alb];exact h
 ·cases h)
structure qZ where
 w:ByteArray
 r:Bool
 i:Int
def aP6 (s:qZ):List LV:=[.v (.string s.w),.v (.bool s.r),.v (.int .i64 s.i)]
def aOO (_:qZ):List aZ:=[]
def EG:Code:=((ax (Tryz.f122.body.getD .skip))[0]?).getD .skip
def afl (s:qZ):T (Rd qZ):=
 .br (decide (s.i<(s.w.size:Int))) (.req (0≤s.i∧s.i<(s.w.size:Int)) (.br (if decide ((wo s.w s.i)<97) then (s.i==0) ||(if decide ((wo s.w s.i)<48) then (wo s.w s.i) !=95 else (decide ((wo s.w s.i)>57))&&((wo s.w s.i) !=95)) else (decide ((wo s.w s.i)>122))&&((s.i==0) ||(if decide ((wo s.w s.i)<48) then (wo s.w s.i) !=95 else (decide ((wo s.w s.i)>57))&&((wo s.w s.i) !=95)))) (.ok (.stop (.ret) {s with r:=false})) (.ok (.next {s with i:=(aSe (s.i+1))})))) (.ok (.stop (.exit 0) s))
abbrev aCC (s:qZ):=(afl s).rd s
def O7 (s:qZ) (j:Int):Bool:=Bh (wo s.w j) j
def aur (s:qZ):Prop:=s.i=0∧0≤(s.w.size:Int)∧(s.w.size:Int)≤9223372036854775807∧True
def SA (s:qZ):Prop:=0≤s.i∧s.i≤(s.w.size:Int)∧(s.w.size:Int)≤9223372036854775807∧(True)∧∀j:Nat,(j:Int)<s.i→O7 s j=true
def U1 (s:qZ):Nat:=((s.w.size:Int)-s.i).toNat
def atj (x:Ex) (_ s':qZ):Prop:=(x=.exit 0∧∀j:Nat,(j:Int)<(s'.w.size:Int)→O7 s' j=true)∨(x=.ret∧s'.r=false∧∃j:Nat,(j:Int)<(s'.w.size:Int)∧O7 s' j=false)
theorem aLY:∀s,aur s→SA s:=by
 intro s h;obtain ⟨h0,h1,h2,h3⟩:=h;exact ⟨by omega,by omega,h2,h3,λj hj=>by omega⟩
theorem aGG (s:qZ) (hI:SA s):bJ (λs'=>SA s'∧U1 s'<U1 s) (λx s'=>atj x s s') (aCC s):=by
 unfold aCC afl;dsimp only [T.rd,T.rl];obtain ⟨h0,h1,h2,h3,h4⟩:=hI;refine ai (λc1=>ai (λc2=>?_) (λc2=>?_)) (λc1=>?_)
 ·have c1:s.i<(s.w.size:Int):=by simpa using c1
  refine .inr ⟨rfl,rfl,s.i.toNat,by simp only;omega,?_⟩
  rw [Int.toNat_of_nonneg (by omega)]
  have hg:O7 s s.i=false:=by unfold O7;(revert c2;unfold Bh chA;generalize wo s.w s.i=b;intro c2;by_cases h1:b<97<;>by_cases h2:b≤122<;>by_cases h3:b<48<;>by_cases h4:b≤57<;>by_cases h5:b=95<;>by_cases h6:s.i=0<;>simp_all<;>omega)
  exact hg
 ·have c1:s.i<(s.w.size:Int):=by simpa using c1
  have hg:O7 s s.i=true:=by unfold O7;(revert c2;unfold Bh chA;generalize wo s.w s.i=b;intro c2;by_cases h1:b<97<;>by_cases h2:b≤122<;>by_cases h3:b<48<;>by_cases h4:b≤57<;>by_cases h5:b=95<;>by_cases h6:s.i=0<;>simp_all<;>omega)
  rw [aH (x:=s.i+1)];refine ⟨⟨by simp only;omega,by simp only;omega,h2,h3,λj hj=>?_⟩,by simp only [U1];omega⟩
  by_cases hji:(j:Int)<s.i
  ·exact h4 j hji
  ·have:(j:Int)=s.i:=by simp only at hj;omega
   rw [this];exact hg
 ·have c1:(s.w.size:Int)≤s.i:=by simpa using c1
  exact .inl ⟨rfl,λj hj=>h4 j (by omega)⟩
def Jc:bK qZ:=⟨0,71,[0,2,3],[],aP6,aOO,λv _=>⟨gSr (v.getD 0 .junk),vW (v.getD 1 .junk),gI (v.getD 2 .junk)⟩,afl,λs r=> {r with w:=s.w},λs=>s,λ_ s=>s,[.ret,.exit 0],aur,SA,U1⟩
abbrev af4:=Jc.run
abbrev aia:=Jc.jf
abbrev aJC:=Jc.q
theorem aFG (s:qZ) (hI:SA s):(afl s).all (λ_=>True):=by
 refine ⟨λc1=>⟨?_,λ_=>trivial,λ_=>trivial⟩,λ_=>trivial⟩
 ·(obtain ⟨h0,h1,h2,h3,h4⟩:=hI;simp at c1;omega)
def arB:Specs:=aW [(144,asq),(145,Oz),(146,OC),(147,zJ),(148,Ov)]
theorem aBZ:∀g S,arB g=some S→Valid Tryz.prog aP g S:=aS (l:=[(144,asq),(145,Oz),(146,OC),(147,zJ),(148,Ov)]) ⟨aKU,amb,ame,Xp,al8,trivial⟩
theorem aoZ:Jc.Ok:={}
theorem anK:Jc.Pf (atj):=⟨aLY,λ_ _=>rfl,aGG,aFG⟩
theorem avF:bC Tryz.prog aP (AN 0) (.loop EG) Jc.lp:=bK.snd aoZ anK (aQ (Γ:=arB) (K:=dR) (L:=ay) aBZ aA EG (λb hb=>by rw [show ax EG=[] by kernel_rfl] at hb;cases hb)) (λs=>by kernel_rfl)
theorem awV (s:qZ) (hE:aur s):∃s',SA s'∧atj (aia s) s' (af4 s):=bK.fin aoZ anK s hE
def Z7:List LV→T LV
 | [.v (.string w)]=> .req ((w.size:Int)≤9223372036854775807) (.ok (.v (.bool (nameB w))))
 |_=> .no
def WR:List LV→T LV:=gZ Tryz.prog Tryz.f122.params.toList Z7
theorem apU (w:ByteArray):cO Tryz.prog aP (arB) dR (λi=>if i=2 then Jc.lp else ay i) Tryz.f122 [.v (.string w)]=.req (aJC (⟨w,false,(0:Int)⟩:qZ)) (.br (iV (aia (⟨w,false,(0:Int)⟩:qZ)) (.ret)) (.ok (.v (.bool (af4 (⟨w,false,(0:Int)⟩:qZ)).r))) (.req ((kinds.length:Int)≤1000) (.br (decide ((inI kinds w)≥0)) (.ok (.v (.bool false))) (.req ((IC.length:Int)≤1000) (.br (decide ((inI IC w)≥0)) (.ok (.v (.bool false))) (.req ((qN.length:Int)≤1000) (.br (decide ((inI qN w)≥0)) (.ok (.v (.bool false))) (.req ((words.length:Int)≤1000) (.ok (.v (.bool ((decide ((w.size:Int)≥1))&&((decide ((w.size:Int)≤12))&&(!(decide ((inI words w)≥0)))))))))))))))):=by kernel_rfl
theorem auU:Valid Tryz.prog aP 122 WR:=aI Tryz.func122 rfl aBZ aA (L:=(λi=>if i=2 then Jc.lp else ay i)) (λb hb=>by
 rw [show ax _=[EG] by kernel_rfl] at hb
 simp only [List.mem_cons,List.not_mem_nil,or_false] at hb;subst hb;exact avF) (λargs lv h=>by
 unfold Z7 at h;split at h
 ·simp only [canL,canX]
  rw [apU];rename_i w;obtain ⟨hl,rfl⟩:=h;refine lK ⟨⟨rfl,Int.natCast_nonneg _,hl,trivial⟩,rfl,rfl⟩ (λhE=>?_)
  obtain ⟨s',_,hq⟩:=awV _ hE.1;rw [ap7];rcases hq with ⟨q1,q2⟩ |⟨q1,q2,j,q3,q4⟩
  ·have q2:Gi w.size (λj=>Bh (wo w j) j)=true:=gm.2 q2
   rw [q1,q2,Bool.true_and]
   have k1:=KE (l:=kinds) (w:=w)
   have k2:=KE (l:=IC) (w:=w)
   have k3:=KE (l:=qN) (w:=w)
   have k4:=KE (l:=words) (w:=w)
   refine ⟨λh=>(by cases h),λ_=>⟨by decide,λc1=>?_,λc1=>⟨by decide,λc2=>?_,λc2=>⟨by decide,λc3=>?_,λc3=>⟨by decide,?_⟩⟩⟩⟩⟩
   ·have:JW w=true:=by unfold JW;rw [←k1,c1];rfl
    rw [this]
    simp
    exact rfl
   ·have:JW w=true:=by unfold JW;rw [←k1,c1,←k2,c2];rfl
    rw [this]
    simp
    exact rfl
   ·have:JW w=true:=by unfold JW;rw [←k1,c1,←k2,c2,←k3,c3];rfl
    rw [this]
    simp
    exact rfl
   ·have:JW w=decide (inI words w≥0):=by unfold JW;rw [←k1,c1,←k2,c2,←k3,c3,←k4];rfl
    rw [this];exact rfl
  ·rw [q1,q2]
   refine ⟨λ_=>congrArg (λz=>LV.v (.bool z)) ?_,λh=>by cases h⟩
   rw [vN (n:=w.size) (f:=λj=>Bh (wo w j) j) j q3 q4]
   rfl
 ·cases h)
def ajc:List LV→T LV
 | [.v (.int .i64 n),.v (.int .i64 a),.v (.int .i64 b)]=> .ok (.v (.bool (inB n a b)))
 |_=> .no
def OA:List LV→T LV:=gZ Tryz.prog Tryz.f86.params.toList ajc
def Zd:Specs:=aW []
theorem ahb:∀g S,Zd g=some S→Valid Tryz.prog aP g S:=aS (l:=[]) trivial
theorem axX (n a b:Int):cO Tryz.prog aP (Zd) dR ay Tryz.f86 [.v (.int .i64 n),.v (.int .i64 a),.v (.int .i64 b)]=.ok (.v (.bool ((decide (n≥a))&&(decide (n≤b))))):=by kernel_rfl
theorem amc:Valid Tryz.prog aP 86 OA:=aI Tryz.func86 rfl ahb aA (bf (by kernel_rfl)) (λargs lv h=>by
 unfold ajc at h;split at h
 ·simp only [canL,canX]
  rw [axX];exact h
 ·cases h)
def ajg:List LV→T LV
 | [.v (.agg ⟨[.string nm,.int .i64 at_,.int .i64 ph,.int .i64 mi,.int .i64 ma,.int .i64 st,.int .i64 fb,.int .i64 ow]⟩)]=> .ok (.v (.bool (chW (nm,at_,ph,mi,ma,st,fb,ow))))
 |_=> .no
def adV:List LV→T LV:=gZ Tryz.prog Tryz.f89.params.toList ajg
def arA:Specs:=aW [(86,OA)]
theorem aBY:∀g S,arA g=some S→Valid Tryz.prog aP g S:=aS (l:=[(86,OA)]) ⟨amc,trivial⟩
theorem ax1 (nm:ByteArray) (at_ ph mi ma st fb ow:Int):cO Tryz.prog aP (arA) dR ay Tryz.f89 [.v (.agg #[.string nm,.int .i64 at_,.int .i64 ph,.int .i64 mi,.int .i64 ma,.int .i64 st,.int .i64 fb,.int .i64 ow])]=.ok (.v (.bool ((inB ph (1:Int) (7:Int))&&((inB mi (1:Int) (80:Int))&&((inB ma mi (80:Int))&&((inB st (1:Int) (80:Int))&&((fb==0) ||(inB fb mi ma)))))))):=by kernel_rfl
theorem aDU:Valid Tryz.prog aP 89 adV:=aI Tryz.func89 rfl aBY aA (bf (by kernel_rfl)) (λargs lv h=>by
 unfold ajg at h;split at h
 ·simp only [canL,canX]
  rw [ax1];exact h
 ·cases h)
def aje:List LV→T LV
 | [.agg [.xl (.pair .str (.pair (.int .i64) (.pair (.int .i64) (.pair (.int .i64) (.pair (.pair (.int .i64) (.int .i64)) (.pair (.int .i64) (.pair (.int .i64) (.pair (.int .i64) (.pair (.int .i64) (.int .i64)))))))))) cs,.xl (.str) os,.xl (.pair .str (.pair (.int .i64) (.pair (.int .i64) (.int .i64)))) ks,.xl (.pair .str (.pair (.int .i64) (.pair (.int .i64) (.pair (.int .i64) (.pair (.int .i64) (.pair (.int .i64) (.pair (.int .i64) (.int .i64)))))))) gs,.xl (.pair .str (.int .i64)) bs]]=> .ok (.v (.bool (decide (cs.length≤40∧os.length≤40∧ks.length≤40∧gs.length≤40∧bs.length≤40))))
 |_=> .no
def adT:List LV→T LV:=gZ Tryz.prog Tryz.f34.params.toList aje
theorem axZ (cs:List Cd) (os:List ByteArray) (ks:List Ko) (gs:List Ch) (bs:List Ba):cO Tryz.prog aP (Zd) dR ay Tryz.f34 [.agg [.xl dY cs,.xl .str os,.xl fC ks,.xl dP gs,.xl fD bs]]=.ok (.v (.bool ((decide ((cs.length:Int)≤40))&&((decide ((os.length:Int)≤40))&&((decide ((ks.length:Int)≤40))&&((decide ((gs.length:Int)≤40))&&(decide ((bs.length:Int)≤40)))))))):=by kernel_rfl
theorem aDS:Valid Tryz.prog aP 34 adT:=aI Tryz.func34 rfl ahb aA (bf (by kernel_rfl)) (λargs lv h=>by
 unfold aje at h;split at h
 ·simp only [canL,canX]
  rw [axZ];obtain rfl:=h;refine congrArg (λz=>LV.v (.bool z)) ?_
  rw [Bool.eq_iff_iff];simp only [Bool.and_eq_true,decide_eq_true_eq];omega
 ·cases h)
def ajf:List LV→T LV
 | [.v (.agg ⟨[.string nm,.int .i64 up_,.int .i64 li,.int .i64 ne,.int .i64 ra,.int .i64 he,.int .i64 am,.int .i64 mo,.int .i64 ga,.int .i64 lo,.int .i64 de]⟩),.v (.int .i64 i)]=> .req (0≤i∧i≤1000) (.ok (.v (.bool (IB i (nm,up_,li,ne,(ra,he),am,mo,ga,lo,de)))))
 |_=> .no
def adU:List LV→T LV:=gZ Tryz.prog Tryz.f88.params.toList ajf
theorem ax0 (nm:ByteArray) (up_ li ne ra he am mo ga lo de i:Int):letI a:=(inB up_ (0:Int) (aSe (i-1)));cO Tryz.prog aP (arA) dR ay Tryz.f88 [.v (.agg #[.string nm,.int .i64 up_,.int .i64 li,.int .i64 ne,.int .i64 ra,.int .i64 he,.int .i64 am,.int .i64 mo,.int .i64 ga,.int .i64 lo,.int .i64 de]),.v (.int .i64 i)]=.br ((!(inB li (1:Int) (1000:Int))) ||((!(inB ne (1:Int) (1000:Int))) ||(if i==0 then (up_ !=(-1)) ||((decide (i>0))&&(! a)) else (decide (i>0))&&(! a)))) (.ok (.v (.bool false))) (.br ((!((ra==0)&&(he==0)))&&((!(inB ra (1:Int) (1000:Int))) ||(!(inB he (0:Int) (1000000:Int))))) (.ok (.v (.bool false))) (.ok (.v (.bool (((am==0)&&((mo==0)&&((ga==0)&&((lo==0)&&(de==0))))) ||((inB am (0:Int) (200000:Int))&&((inB mo (aSe (am+1)) (200000:Int))&&((inB ga (0:Int) (1000:Int))&&((inB lo (0:Int) (1000:Int))&&(inB de (1:Int) (1000000:Int))))))))))):=by kernel_rfl
theorem aDT:Valid Tryz.prog aP 88 adU:=aI Tryz.func88 rfl aBY aA (bf (by kernel_rfl)) (λargs lv h=>by
 unfold ajf at h;split at h
 ·simp only [canL,canX]
  rw [ax0];rename_i nm up_ li ne ra he am mo ga lo de i;obtain ⟨⟨h0,h1⟩,rfl⟩:=h
  have hw:aSe (i-1)=i-1:=aH
  rw [hw]
  have hU:(if i==0 then (up_ !=(-1)) ||((decide (i>0))&&(!(inB up_ (0:Int) (i-1)))) else (decide (i>0))&&(!(inB up_ (0:Int) (i-1))))=!(if i=0 then up_==-1 else inB up_ 0 (i-1)):=by
   by_cases e:i=0
   ·subst e
    simp
    rfl
   ·rw [if_neg (by simpa using e),if_neg e,decide_eq_true (by omega),Bool.true_and]
  rw [hU];unfold IB;simp only;generalize (if i=0 then up_==-1 else inB up_ 0 (i-1))=u
  generalize inB li 1 1000=a;generalize inB ne 1 1000=b
  have hC:((((am==0)&&((mo==0)&&((ga==0)&&((lo==0)&&(de==0))))) ||((inB am (0:Int) (200000:Int))&&((inB mo (aSe (am+1)) (200000:Int))&&((inB ga (0:Int) (1000:Int))&&((inB lo (0:Int) (1000:Int))&&(inB de (1:Int) (1000000:Int))))))))=J3 (am,mo,ga,lo,de):=by
   unfold J3 cbZ;simp only
   congr 1
   by_cases ha:inB am 0 200000=true
   ·have:=dV.1 ha
    rw [aH (x:=am+1),ha,Bool.true_and,Bool.eq_iff_iff];simp only [Bool.and_eq_true,dV,decide_eq_true_eq];omega
   ·have ha:inB am 0 200000=false:=by simpa using ha
    rw [ha,Bool.false_and,eq_comm,Bool.eq_false_iff]
    have:=aqz.1 ha
    simp only [ne_eq,Bool.and_eq_true,dV,decide_eq_true_eq];omega
  rw [hC];generalize J3 (am,mo,ga,lo,de)=z;generalize ((ra==0)&&(he==0))=f;generalize inB ra 1 1000=r;generalize inB he 0 1000000=q;cases u<;>cases a<;>cases b<;>cases z<;>cases f<;>cases r<;>cases q<;>simp [T.all]
 ·cases h)
structure yj where
 l:List ByteArray
 w:ByteArray
 r:Bool
 i:Int
def aRZ (s:yj):List LV:=[.xl .str s.l,.v (.string s.w),.v (.bool s.r),.v (.int .i64 s.i)]
def aRL (_:yj):List aZ:=[]
def KQ:Code:=((ax (Tryz.f123.body.getD .skip))[0]?).getD .skip
def amv (s:yj):T (Rd yj):=
 .br (decide (s.i<(s.l.length:Int))) (.req (0≤s.i∧s.i<(s.l.length:Int)) (.br ((gS s.l s.i).toList==s.w.toList) (.ok (.stop (.ret) {s with r:=true})) (.ok (.next {s with i:=(aSe (s.i+1))})))) (.ok (.stop (.exit 0) s))
abbrev azw (s:yj):=(amv s).rd s
def aJK (s:yj):Prop:=s.i=0∧(s.l.length:Int)≤1000∧True
def aub (s:yj):Prop:=0≤s.i∧s.i≤(s.l.length:Int)∧(s.l.length:Int)≤1000∧True
def agN (s:yj):Nat:=((s.l.length:Int)-s.i).toNat
def aOd (_:Ex) (_ _:yj):Prop:=True
theorem aRg:∀s,aJK s→aub s:=by
 intro s h;obtain ⟨h0,h1,h2⟩:=h;exact ⟨by omega,by omega,h1,h2⟩
theorem aL8 (s:yj) (hI:aub s):bJ (λs'=>aub s'∧agN s'<agN s) (λx s'=>aOd x s s') (azw s):=by
 unfold azw amv;dsimp only [T.rd,T.rl];obtain ⟨h0,h1,h2,h3⟩:=hI;refine ai (λc1=>?_) (λc1=>?_)
 ·refine ai (λc2=>?_) (λc2=>?_)
  ·trivial
  ·have c1:s.i<(s.l.length:Int):=by simpa using c1
   rw [aH (x:=s.i+1)];exact ⟨⟨by simp only;omega,by simp only;omega,h2,h3⟩,by simp only [agN];omega⟩
 ·trivial
def aaT:bK yj:=⟨0,18,[0,1,4,5],[],aRZ,aRL,λv _=>⟨aU .str (v.getD 0 .junk),gSr (v.getD 1 .junk),vW (v.getD 2 .junk),gI (v.getD 3 .junk)⟩,amv,λs r=> {r with l:=s.l,w:=s.w},λs=>s,λ_ s=>s,[.ret,.exit 0],aJK,aub,agN⟩
abbrev amY:=aaT.run
abbrev arX:=aaT.jf
abbrev aOk:=aaT.q
theorem aLL (s:yj) (hI:aub s):(amv s).all (λ_=>True):=by
 refine ⟨λc1=>⟨?_,λ_=>trivial,λ_=>trivial⟩,λ_=>trivial⟩
 ·(obtain ⟨h0,h1,h2,h3⟩:=hI;simp only [decide_eq_true_eq] at c1;omega)
theorem aBl:aaT.Ok:={}
theorem aA7:aaT.Pf (aOd):=⟨aRg,λ_ _=>rfl,aL8,aLL⟩
theorem aET:bC Tryz.prog aP (AN 0) (.loop KQ) aaT.lp:=bK.snd aBl aA7 (aQ (Γ:=Zd) (K:=dR) (L:=ay) ahb aA KQ (λb hb=>by rw [show ax KQ=[] by kernel_rfl] at hb;cases hb)) (λs=>by kernel_rfl)
theorem aGQ (s:yj) (hE:aJK s):(λ(x:Ex) (s':yj) (v:Bool)=>(x=.ret∧s'.r=true∧v=true)∨(x=.exit 0∧v=false)) (arX s) (amY s) ((λs:yj=>isIn (s.l.drop s.i.toNat) s.w) s):=by
 exact bK.mD aBl aA7 (λs:yj=>isIn (s.l.drop s.i.toNat) s.w) (λx s' v=>(x=.ret∧s'.r=true∧v=true)∨(x=.exit 0∧v=false)) (λs hI=>by
  show bJ _ _ (azw s)
  unfold azw amv;dsimp only [T.rd,T.rl];obtain ⟨h0,h1,h2,h3⟩:=hI
  have ic:∀(x:ByteArray) xs,isIn (x::xs) s.w=(s.w==x ||isIn xs s.w):=λ_ _=>rfl
  refine ai (λc1=>ai (λc2=>?_) (λc2=>?_)) (λc1=>?_)
  ·have c1:s.i<(s.l.length:Int):=by simpa using c1
   rw [xu] at c2
   have c2:s.w==gS s.l s.i:=by simpa using (eq_of_beq c2).symm
   refine .inl ⟨rfl,rfl,?_⟩
   try simp only
   rw [(xY h0 c1).1,ic,c2];rfl
  ·have c1:s.i<(s.l.length:Int):=by simpa using c1
   rw [xu] at c2
   have c2:(s.w==gS s.l s.i)=false:=by
    have:¬gS s.l s.i=s.w:=by simpa using c2
    simpa using λe=>this e.symm
   rw [aH (x:=s.i+1)]
   show isIn _ _=isIn _ _
   rw [(xY h0 c1).1,ic,c2,Bool.false_or]
  ·have c1:(s.l.length:Int)≤s.i:=by simpa using c1
   refine .inr ⟨rfl,?_⟩;rw [List.drop_eq_nil_of_le (by omega)]
   rfl) s hE
def asI:List LV→T LV
 | [.xl (.str) l,.v (.string w)]=> .req ((l.length:Int)≤1000) (.ok (.v (.bool (isIn l w))))
 |_=> .no
def asr:List LV→T LV:=gZ Tryz.prog Tryz.f123.params.toList asI
theorem aHp (l:List ByteArray) (w:ByteArray):cO Tryz.prog aP (Zd) dR (λi=>if i=2 then aaT.lp else ay i) Tryz.f123 [.xl .str l,.v (.string w)]=.req (aOk (⟨l,w,false,(0:Int)⟩:yj)) (.br (iV (arX (⟨l,w,false,(0:Int)⟩:yj)) (.ret)) (.ok (.v (.bool (amY (⟨l,w,false,(0:Int)⟩:yj)).r))) (.ok (.v (.bool false)))):=by kernel_rfl
theorem aKV:Valid Tryz.prog aP 123 asr:=aI Tryz.func123 rfl ahb aA (L:=(λi=>if i=2 then aaT.lp else ay i)) (λb hb=>by
 rw [show ax _=[KQ] by kernel_rfl] at hb
 simp only [List.mem_cons,List.not_mem_nil,or_false] at hb;subst hb;exact aET) (λargs lv h=>by
 unfold asI at h;split at h
 ·simp only [canL,canX]
  rw [aHp];obtain ⟨hl,rfl⟩:=h;refine lK ⟨⟨rfl,hl,trivial⟩,rfl,rfl⟩ (λhE=>?_)
  rcases aGQ _ hE.1 with ⟨q1,q2,q3⟩ |⟨q1,q2⟩
  ·rw [q1,q2]
   exact ⟨λ_=>congrArg (λz=>LV.v (.bool z)) q3.symm,λh=>by cases h⟩
  ·rw [q1]
   exact ⟨λh=>(by cases h),λ_=>congrArg (λz=>LV.v (.bool z)) q2.symm⟩
 ·cases h)
structure jE where
 r:Bool
 i:Int
 aj:List Cd
 aF:List ByteArray
 ak:List Ko
 af:List Ch
 aN:List Ba
 l:List ByteArray
def aQc (s:jE):List LV:=[.own 0 0,.v (.bool s.r),.os 1 1 0 (s.l.length),.v (.int .i64 s.i)]
def aOU (s:jE):List aZ:=[⟨[.xl dY s.aj,.xl .str s.aF,.xl fC s.ak,.xl dP s.af,.xl fD s.aN],28,.cl,false⟩,⟨[],9,.vec .str s.l,false⟩]
def EM:Code:=((ax (Tryz.f87.body.getD .skip))[0]?).getD .skip
def XI (s:jE):T (Rd jE):=
 .br (decide (s.i<(s.aj.length:Int))) (.req (0≤s.i∧s.i<(s.aj.length:Int)) (.req (0+(s.l.length)=s.l.length∧((s.l.length+List.length ([(iw s.aj s.i).1]):Nat):Int)*16≤2^47∧((s.l.length+List.length ([(iw s.aj s.i).1]):Nat):Int)<2^62) (.req (0=0∧(s.l.length+List.length ([(iw s.aj s.i).1]))=List.length (s.l++([(iw s.aj s.i).1]))) (.ok (.next {s with i:=(aSe (s.i+1)),l:=(s.l++([(iw s.aj s.i).1]))}))))) (.rl s.l (.ok (.stop (.exit 0) s)))
abbrev ahA (s:jE):=(XI s).rd s
def auy (s:jE):Prop:=s.i=0∧(s.aj.length:Int)≤1000∧(s.l.length:Int)≤5000+s.i
def aat (s:jE):Prop:=0≤s.i∧s.i≤(s.aj.length:Int)∧(s.aj.length:Int)≤1000∧(s.l.length:Int)≤5000+s.i
def U7 (s:jE):Nat:=((s.aj.length:Int)-s.i).toNat
def aDg (_:Ex) (_ _:jE):Prop:=True
theorem aL5:∀s,auy s→aat s:=by
 intro s h;obtain ⟨h0,h1,h2⟩:=h;exact ⟨by omega,by omega,h1,h2⟩
theorem aGM (s:jE) (hI:aat s):bJ (λs'=>aat s'∧U7 s'<U7 s) (λx s'=>aDg x s s') (ahA s):=by
 unfold ahA XI;dsimp only [T.rd,T.rl];obtain ⟨h0,h1,h2,h3⟩:=hI;refine ai (λc1=>?_) (λc1=>?_)
 ·have c1:s.i<(s.aj.length:Int):=by simpa using c1
  rw [aH (x:=s.i+1)];exact ⟨⟨by simp only;omega,by simp only;omega,h2,by simp only [List.length_append,List.length_cons,List.length_nil];omega⟩,by simp only [U7];omega⟩
 ·trivial
def Ji:bK jE:=⟨0,112,[1,2,3,4],[.nl 3 9 .str],aQc,aOU,λv b=>⟨vW (v.getD 1 .junk),gI (v.getD 3 .junk),aU dY (bn (aT b 0) 0),aU .str (bn (aT b 0) 1),aU fC (bn (aT b 0) 2),aU dP (bn (aT b 0) 3),aU fD (bn (aT b 0) 4),iW .str (aT b 1)⟩,XI,λs r=> {r with r:=s.r,aj:=s.aj,aF:=s.aF,ak:=s.ak,af:=s.af,aN:=s.aN},λs=>s,λ_ s=>s,[.exit 0],auy,aat,U7⟩
abbrev lg:=Ji.run
abbrev azK:=Ji.jf
abbrev aJI:=Ji.q
theorem aFM (s:jE) (hI:aat s):(XI s).all (λ_=>True):=by
 refine ⟨λc1=>⟨?_,?_,?_,trivial⟩,λc1=>⟨aSf,trivial⟩⟩
 iterate 2 · (obtain ⟨h0,h1,h2,h3⟩:=hI;simp only [decide_eq_true_eq] at c1;first|omega|(refine ⟨by omega,?_,?_⟩<;>simp only [List.length_cons,List.length_nil]<;>omega))
 ·exact ⟨rfl,by simp⟩
def Ip:Specs:=aW [(122,WR),(123,asr)]
theorem Nr:∀g S,Ip g=some S→Valid Tryz.prog aP g S:=aS (l:=[(122,WR),(123,asr)]) ⟨auU,aKV,trivial⟩
theorem ao5:Ji.Ok:={}
theorem anQ:Ji.Pf (aDg):=⟨aL5,λ_ _=>rfl,aGM,aFM⟩
theorem avL:bC Tryz.prog aP (AN 0) (.loop EM) Ji.lp:=bK.snd ao5 anQ (aQ (Γ:=Ip) (K:=dR) (L:=ay) Nr aA EM (λb hb=>by rw [show ax EM=[] by kernel_rfl] at hb;cases hb)) (λs=>by kernel_rfl)
theorem aw1 (s:jE) (hE:auy s):(λ(x:Ex) (s':jE) (v:List ByteArray)=>x=.exit 0∧s'.l=v) (azK s) (lg s) ((λs:jE=>s.l++(s.aj.drop s.i.toNat).map (·.1)) s):=by
 exact bK.mD ao5 anQ (λs:jE=>s.l++(s.aj.drop s.i.toNat).map (·.1)) (λx s' v=>x=.exit 0∧s'.l=v) (λs hI=>by
  show bJ _ _ (ahA s)
  unfold ahA XI;dsimp only [T.rd,T.rl];obtain ⟨h0,h1,h2,h3⟩:=hI;refine ai (λc1=>?_) (λc1=>?_)
  ·have c1:s.i<(s.aj.length:Int):=by simpa using c1
   rw [aH (x:=s.i+1)]
   show _++_=_++_
   try simp only
   rw [(Zi h0 c1).1]
   simp
  ·have c1:(s.aj.length:Int)≤s.i:=by simpa using c1
   refine ⟨rfl,?_⟩;rw [List.drop_eq_nil_of_le (by omega)]
   simp) s hE
structure jR where
 r:Bool
 i:Int
 aj:List Cd
 aF:List ByteArray
 ak:List Ko
 af:List Ch
 aN:List Ba
 l:List ByteArray
def aQb (s:jR):List LV:=[.own 0 0,.v (.bool s.r),.os 1 1 0 (s.l.length),.v (.int .i64 s.i)]
def aOT (s:jR):List aZ:=[⟨[.xl dY s.aj,.xl .str s.aF,.xl fC s.ak,.xl dP s.af,.xl fD s.aN],28,.cl,false⟩,⟨[],9,.vec .str s.l,false⟩]
def EL:Code:=((ax (Tryz.f87.body.getD .skip))[1]?).getD .skip
def XH (s:jR):T (Rd jR):=
 .br (decide (s.i<(s.aF.length:Int))) (.req (0≤s.i∧s.i<(s.aF.length:Int)) (.req (0+(s.l.length)=s.l.length∧((s.l.length+List.length ([(gS s.aF s.i)]):Nat):Int)*16≤2^47∧((s.l.length+List.length ([(gS s.aF s.i)]):Nat):Int)<2^62) (.req (0=0∧(s.l.length+List.length ([(gS s.aF s.i)]))=List.length (s.l++([(gS s.aF s.i)]))) (.ok (.next {s with i:=(aSe (s.i+1)),l:=(s.l++([(gS s.aF s.i)]))}))))) (.rl s.l (.ok (.stop (.exit 2) s)))
abbrev ahz (s:jR):=(XH s).rd s
def auw (s:jR):Prop:=s.i=0∧(s.aF.length:Int)≤1000∧(s.l.length:Int)≤5000+s.i
def aas (s:jR):Prop:=0≤s.i∧s.i≤(s.aF.length:Int)∧(s.aF.length:Int)≤1000∧(s.l.length:Int)≤5000+s.i
def U6 (s:jR):Nat:=((s.aF.length:Int)-s.i).toNat
def aDf (_:Ex) (_ _:jR):Prop:=True
theorem aL4:∀s,auw s→aas s:=by
 intro s h;obtain ⟨h0,h1,h2⟩:=h;exact ⟨by omega,by omega,h1,h2⟩
theorem aGL (s:jR) (hI:aas s):bJ (λs'=>aas s'∧U6 s'<U6 s) (λx s'=>aDf x s s') (ahz s):=by
 unfold ahz XH;dsimp only [T.rd,T.rl];obtain ⟨h0,h1,h2,h3⟩:=hI;refine ai (λc1=>?_) (λc1=>?_)
 ·have c1:s.i<(s.aF.length:Int):=by simpa using c1
  rw [aH (x:=s.i+1)];exact ⟨⟨by simp only;omega,by simp only;omega,h2,by simp only [List.length_append,List.length_cons,List.length_nil];omega⟩,by simp only [U6];omega⟩
 ·trivial
def Jh:bK jR:=⟨0,112,[1,2,3,5],[],aQb,aOT,λv b=>⟨vW (v.getD 1 .junk),gI (v.getD 3 .junk),aU dY (bn (aT b 0) 0),aU .str (bn (aT b 0) 1),aU fC (bn (aT b 0) 2),aU dP (bn (aT b 0) 3),aU fD (bn (aT b 0) 4),iW .str (aT b 1)⟩,XH,λs r=> {r with r:=s.r,aj:=s.aj,aF:=s.aF,ak:=s.ak,af:=s.af,aN:=s.aN},λs=>s,λ_ s=>s,[.exit 2],auw,aas,U6⟩
abbrev nO:=Jh.run
abbrev azJ:=Jh.jf
abbrev aJH:=Jh.q
theorem aFL (s:jR) (hI:aas s):(XH s).all (λ_=>True):=by
 refine ⟨λc1=>⟨?_,?_,?_,trivial⟩,λc1=>⟨aSf,trivial⟩⟩
 iterate 2 · (obtain ⟨h0,h1,h2,h3⟩:=hI;simp only [decide_eq_true_eq] at c1;first|omega|(refine ⟨by omega,?_,?_⟩<;>simp only [List.length_cons,List.length_nil]<;>omega))
 ·exact ⟨rfl,by simp⟩
theorem ao4:Jh.Ok:={}
theorem anP:Jh.Pf (aDf):=⟨aL4,λ_ _=>rfl,aGL,aFL⟩
theorem avK:bC Tryz.prog aP (AN 0) (.loop EL) Jh.lp:=bK.snd ao4 anP (aQ (Γ:=Ip) (K:=dR) (L:=ay) Nr aA EL (λb hb=>by rw [show ax EL=[] by kernel_rfl] at hb;cases hb)) (λs=>by kernel_rfl)
theorem aw0 (s:jR) (hE:auw s):(λ(x:Ex) (s':jR) (v:List ByteArray)=>x=.exit 2∧s'.l=v) (azJ s) (nO s) ((λs:jR=>s.l++(s.aF.drop s.i.toNat)) s):=by
 exact bK.mD ao4 anP (λs:jR=>s.l++(s.aF.drop s.i.toNat)) (λx s' v=>x=.exit 2∧s'.l=v) (λs hI=>by
  show bJ _ _ (ahz s)
  unfold ahz XH;dsimp only [T.rd,T.rl];obtain ⟨h0,h1,h2,h3⟩:=hI;refine ai (λc1=>?_) (λc1=>?_)
  ·have c1:s.i<(s.aF.length:Int):=by simpa using c1
   rw [aH (x:=s.i+1)]
   show _++_=_++_
   try simp only
   rw [(xY h0 c1).1]
   simp
  ·have c1:(s.aF.length:Int)≤s.i:=by simpa using c1
   refine ⟨rfl,?_⟩;rw [List.drop_eq_nil_of_le (by omega)]
   simp) s hE
structure kT where
 r:Bool
 i:Int
 aj:List Cd
 aF:List ByteArray
 ak:List Ko
 af:List Ch
 aN:List Ba
 l:List ByteArray
def aQa (s:kT):List LV:=[.own 0 0,.v (.bool s.r),.os 1 1 0 (s.l.length),.v (.int .i64 s.i)]
def aOS (s:kT):List aZ:=[⟨[.xl dY s.aj,.xl .str s.aF,.xl fC s.ak,.xl dP s.af,.xl fD s.aN],28,.cl,false⟩,⟨[],9,.vec .str s.l,false⟩]
def EK:Code:=((ax (Tryz.f87.body.getD .skip))[2]?).getD .skip
def XG (s:kT):T (Rd kT):=
 .br (decide (s.i<(s.ak.length:Int))) (.req (0≤s.i∧s.i<(s.ak.length:Int)) (.req (0+(s.l.length)=s.l.length∧((s.l.length+List.length ([(pU s.ak s.i).1]):Nat):Int)*16≤2^47∧((s.l.length+List.length ([(pU s.ak s.i).1]):Nat):Int)<2^62) (.req (0=0∧(s.l.length+List.length ([(pU s.ak s.i).1]))=List.length (s.l++([(pU s.ak s.i).1]))) (.ok (.next {s with i:=(aSe (s.i+1)),l:=(s.l++([(pU s.ak s.i).1]))}))))) (.rl s.l (.ok (.stop (.exit 4) s)))
abbrev ahy (s:kT):=(XG s).rd s
def auv (s:kT):Prop:=s.i=0∧(s.ak.length:Int)≤1000∧(s.l.length:Int)≤5000+s.i
def aar (s:kT):Prop:=0≤s.i∧s.i≤(s.ak.length:Int)∧(s.ak.length:Int)≤1000∧(s.l.length:Int)≤5000+s.i
def U5 (s:kT):Nat:=((s.ak.length:Int)-s.i).toNat
def aDe (_:Ex) (_ _:kT):Prop:=True
theorem aL3:∀s,auv s→aar s:=by
 intro s h;obtain ⟨h0,h1,h2⟩:=h;exact ⟨by omega,by omega,h1,h2⟩
theorem aGK (s:kT) (hI:aar s):bJ (λs'=>aar s'∧U5 s'<U5 s) (λx s'=>aDe x s s') (ahy s):=by
 unfold ahy XG;dsimp only [T.rd,T.rl];obtain ⟨h0,h1,h2,h3⟩:=hI;refine ai (λc1=>?_) (λc1=>?_)
 ·have c1:s.i<(s.ak.length:Int):=by simpa using c1
  rw [aH (x:=s.i+1)];exact ⟨⟨by simp only;omega,by simp only;omega,h2,by simp only [List.length_append,List.length_cons,List.length_nil];omega⟩,by simp only [U5];omega⟩
 ·trivial
def Jg:bK kT:=⟨0,112,[1,2,3,6],[],aQa,aOS,λv b=>⟨vW (v.getD 1 .junk),gI (v.getD 3 .junk),aU dY (bn (aT b 0) 0),aU .str (bn (aT b 0) 1),aU fC (bn (aT b 0) 2),aU dP (bn (aT b 0) 3),aU fD (bn (aT b 0) 4),iW .str (aT b 1)⟩,XG,λs r=> {r with r:=s.r,aj:=s.aj,aF:=s.aF,ak:=s.ak,af:=s.af,aN:=s.aN},λs=>s,λ_ s=>s,[.exit 4],auv,aar,U5⟩
abbrev qC:=Jg.run
abbrev azI:=Jg.jf
abbrev aJG:=Jg.q
theorem aFK (s:kT) (hI:aar s):(XG s).all (λ_=>True):=by
 refine ⟨λc1=>⟨?_,?_,?_,trivial⟩,λc1=>⟨aSf,trivial⟩⟩
 iterate 2 · (obtain ⟨h0,h1,h2,h3⟩:=hI;simp only [decide_eq_true_eq] at c1;first|omega|(refine ⟨by omega,?_,?_⟩<;>simp only [List.length_cons,List.length_nil]<;>omega))
 ·exact ⟨rfl,by simp⟩
theorem ao3:Jg.Ok:={}
theorem anO:Jg.Pf (aDe):=⟨aL3,λ_ _=>rfl,aGK,aFK⟩
theorem avJ:bC Tryz.prog aP (AN 0) (.loop EK) Jg.lp:=bK.snd ao3 anO (aQ (Γ:=Ip) (K:=dR) (L:=ay) Nr aA EK (λb hb=>by rw [show ax EK=[] by kernel_rfl] at hb;cases hb)) (λs=>by kernel_rfl)
theorem awZ (s:kT) (hE:auv s):(λ(x:Ex) (s':kT) (v:List ByteArray)=>x=.exit 4∧s'.l=v) (azI s) (qC s) ((λs:kT=>s.l++(s.ak.drop s.i.toNat).map (·.1)) s):=by
 exact bK.mD ao3 anO (λs:kT=>s.l++(s.ak.drop s.i.toNat).map (·.1)) (λx s' v=>x=.exit 4∧s'.l=v) (λs hI=>by
  show bJ _ _ (ahy s)
  unfold ahy XG;dsimp only [T.rd,T.rl];obtain ⟨h0,h1,h2,h3⟩:=hI;refine ai (λc1=>?_) (λc1=>?_)
  ·have c1:s.i<(s.ak.length:Int):=by simpa using c1
   rw [aH (x:=s.i+1)]
   show _++_=_++_
   try simp only
   rw [(NF h0 c1).1]
   simp
  ·have c1:(s.ak.length:Int)≤s.i:=by simpa using c1
   refine ⟨rfl,?_⟩;rw [List.drop_eq_nil_of_le (by omega)]
   simp) s hE
structure lS where
 r:Bool
 i:Int
 aj:List Cd
 aF:List ByteArray
 ak:List Ko
 af:List Ch
 aN:List Ba
 l:List ByteArray
def aP9 (s:lS):List LV:=[.own 0 0,.v (.bool s.r),.os 1 1 0 (s.l.length),.v (.int .i64 s.i)]
def aOR (s:lS):List aZ:=[⟨[.xl dY s.aj,.xl .str s.aF,.xl fC s.ak,.xl dP s.af,.xl fD s.aN],28,.cl,false⟩,⟨[],9,.vec .str s.l,false⟩]
def EJ:Code:=((ax (Tryz.f87.body.getD .skip))[3]?).getD .skip
def XF (s:lS):T (Rd lS):=
 .br (decide (s.i<(s.af.length:Int))) (.req (0≤s.i∧s.i<(s.af.length:Int)) (.req (0+(s.l.length)=s.l.length∧((s.l.length+List.length ([(bG s.af s.i).1]):Nat):Int)*16≤2^47∧((s.l.length+List.length ([(bG s.af s.i).1]):Nat):Int)<2^62) (.req (0=0∧(s.l.length+List.length ([(bG s.af s.i).1]))=List.length (s.l++([(bG s.af s.i).1]))) (.ok (.next {s with i:=(aSe (s.i+1)),l:=(s.l++([(bG s.af s.i).1]))}))))) (.rl s.l (.ok (.stop (.exit 6) s)))
abbrev ahx (s:lS):=(XF s).rd s
def auu (s:lS):Prop:=s.i=0∧(s.af.length:Int)≤1000∧(s.l.length:Int)≤5000+s.i
def aaq (s:lS):Prop:=0≤s.i∧s.i≤(s.af.length:Int)∧(s.af.length:Int)≤1000∧(s.l.length:Int)≤5000+s.i
def U4 (s:lS):Nat:=((s.af.length:Int)-s.i).toNat
def aDd (_:Ex) (_ _:lS):Prop:=True
theorem aL2:∀s,auu s→aaq s:=by
 intro s h;obtain ⟨h0,h1,h2⟩:=h;exact ⟨by omega,by omega,h1,h2⟩
theorem aGJ (s:lS) (hI:aaq s):bJ (λs'=>aaq s'∧U4 s'<U4 s) (λx s'=>aDd x s s') (ahx s):=by
 unfold ahx XF;dsimp only [T.rd,T.rl];obtain ⟨h0,h1,h2,h3⟩:=hI;refine ai (λc1=>?_) (λc1=>?_)
 ·have c1:s.i<(s.af.length:Int):=by simpa using c1
  rw [aH (x:=s.i+1)];exact ⟨⟨by simp only;omega,by simp only;omega,h2,by simp only [List.length_append,List.length_cons,List.length_nil];omega⟩,by simp only [U4];omega⟩
 ·trivial
def Jf:bK lS:=⟨0,112,[1,2,3,7],[],aP9,aOR,λv b=>⟨vW (v.getD 1 .junk),gI (v.getD 3 .junk),aU dY (bn (aT b 0) 0),aU .str (bn (aT b 0) 1),aU fC (bn (aT b 0) 2),aU dP (bn (aT b 0) 3),aU fD (bn (aT b 0) 4),iW .str (aT b 1)⟩,XF,λs r=> {r with r:=s.r,aj:=s.aj,aF:=s.aF,ak:=s.ak,af:=s.af,aN:=s.aN},λs=>s,λ_ s=>s,[.exit 6],auu,aaq,U4⟩
abbrev uY:=Jf.run
abbrev azH:=Jf.jf
abbrev aJF:=Jf.q
theorem aFJ (s:lS) (hI:aaq s):(XF s).all (λ_=>True):=by
 refine ⟨λc1=>⟨?_,?_,?_,trivial⟩,λc1=>⟨aSf,trivial⟩⟩
 iterate 2 · (obtain ⟨h0,h1,h2,h3⟩:=hI;simp only [decide_eq_true_eq] at c1;first|omega|(refine ⟨by omega,?_,?_⟩<;>simp only [List.length_cons,List.length_nil]<;>omega))
 ·exact ⟨rfl,by simp⟩
theorem ao2:Jf.Ok:={}
theorem anN:Jf.Pf (aDd):=⟨aL2,λ_ _=>rfl,aGJ,aFJ⟩
theorem avI:bC Tryz.prog aP (AN 0) (.loop EJ) Jf.lp:=bK.snd ao2 anN (aQ (Γ:=Ip) (K:=dR) (L:=ay) Nr aA EJ (λb hb=>by rw [show ax EJ=[] by kernel_rfl] at hb;cases hb)) (λs=>by kernel_rfl)
theorem awY (s:lS) (hE:auu s):(λ(x:Ex) (s':lS) (v:List ByteArray)=>x=.exit 6∧s'.l=v) (azH s) (uY s) ((λs:lS=>s.l++(s.af.drop s.i.toNat).map (·.1)) s):=by
 exact bK.mD ao2 anN (λs:lS=>s.l++(s.af.drop s.i.toNat).map (·.1)) (λx s' v=>x=.exit 6∧s'.l=v) (λs hI=>by
  show bJ _ _ (ahx s)
  unfold ahx XF;dsimp only [T.rd,T.rl];obtain ⟨h0,h1,h2,h3⟩:=hI;refine ai (λc1=>?_) (λc1=>?_)
  ·have c1:s.i<(s.af.length:Int):=by simpa using c1
   rw [aH (x:=s.i+1)]
   show _++_=_++_
   try simp only
   rw [(Zh h0 c1).1]
   simp
  ·have c1:(s.af.length:Int)≤s.i:=by simpa using c1
   refine ⟨rfl,?_⟩;rw [List.drop_eq_nil_of_le (by omega)]
   simp) s hE
structure nH where
 r:Bool
 i:Int
 aj:List Cd
 aF:List ByteArray
 ak:List Ko
 af:List Ch
 aN:List Ba
 l:List ByteArray
def aP8 (s:nH):List LV:=[.own 0 0,.v (.bool s.r),.os 1 1 0 (s.l.length),.v (.int .i64 s.i)]
def aOQ (s:nH):List aZ:=[⟨[.xl dY s.aj,.xl .str s.aF,.xl fC s.ak,.xl dP s.af,.xl fD s.aN],28,.cl,false⟩,⟨[],9,.vec .str s.l,false⟩]
def EI:Code:=((ax (Tryz.f87.body.getD .skip))[4]?).getD .skip
def XE (s:nH):T (Rd nH):=
 .br (decide (s.i<(s.aN.length:Int))) (.req (0≤s.i∧s.i<(s.aN.length:Int)) (.req (0+(s.l.length)=s.l.length∧((s.l.length+List.length ([(Gj s.aN s.i).1]):Nat):Int)*16≤2^47∧((s.l.length+List.length ([(Gj s.aN s.i).1]):Nat):Int)<2^62) (.req (0=0∧(s.l.length+List.length ([(Gj s.aN s.i).1]))=List.length (s.l++([(Gj s.aN s.i).1]))) (.ok (.next {s with i:=(aSe (s.i+1)),l:=(s.l++([(Gj s.aN s.i).1]))}))))) (.rl s.l (.ok (.stop (.exit 8) s)))
abbrev ahw (s:nH):=(XE s).rd s
def aut (s:nH):Prop:=s.i=0∧(s.aN.length:Int)≤1000∧(s.l.length:Int)≤5000+s.i
def aap (s:nH):Prop:=0≤s.i∧s.i≤(s.aN.length:Int)∧(s.aN.length:Int)≤1000∧(s.l.length:Int)≤5000+s.i
def U3 (s:nH):Nat:=((s.aN.length:Int)-s.i).toNat
def aDc (_:Ex) (_ _:nH):Prop:=True
theorem aL1:∀s,aut s→aap s:=by
 intro s h;obtain ⟨h0,h1,h2⟩:=h;exact ⟨by omega,by omega,h1,h2⟩
theorem aGI (s:nH) (hI:aap s):bJ (λs'=>aap s'∧U3 s'<U3 s) (λx s'=>aDc x s s') (ahw s):=by
 unfold ahw XE;dsimp only [T.rd,T.rl];obtain ⟨h0,h1,h2,h3⟩:=hI;refine ai (λc1=>?_) (λc1=>?_)
 ·have c1:s.i<(s.aN.length:Int):=by simpa using c1
  rw [aH (x:=s.i+1)];exact ⟨⟨by simp only;omega,by simp only;omega,h2,by simp only [List.length_append,List.length_cons,List.length_nil];omega⟩,by simp only [U3];omega⟩
 ·trivial
def Je:bK nH:=⟨0,112,[1,2,3,8],[],aP8,aOQ,λv b=>⟨vW (v.getD 1 .junk),gI (v.getD 3 .junk),aU dY (bn (aT b 0) 0),aU .str (bn (aT b 0) 1),aU fC (bn (aT b 0) 2),aU dP (bn (aT b 0) 3),aU fD (bn (aT b 0) 4),iW .str (aT b 1)⟩,XE,λs r=> {r with r:=s.r,aj:=s.aj,aF:=s.aF,ak:=s.ak,af:=s.af,aN:=s.aN},λs=>s,λ_ s=>s,[.exit 8],aut,aap,U3⟩
abbrev zZ:=Je.run
abbrev azG:=Je.jf
abbrev aJE:=Je.q
theorem aFI (s:nH) (hI:aap s):(XE s).all (λ_=>True):=by
 refine ⟨λc1=>⟨?_,?_,?_,trivial⟩,λc1=>⟨aSf,trivial⟩⟩
 iterate 2 · (obtain ⟨h0,h1,h2,h3⟩:=hI;simp only [decide_eq_true_eq] at c1;first|omega|(refine ⟨by omega,?_,?_⟩<;>simp only [List.length_cons,List.length_nil]<;>omega))
 ·exact ⟨rfl,by simp⟩
theorem ao1:Je.Ok:={}
theorem anM:Je.Pf (aDc):=⟨aL1,λ_ _=>rfl,aGI,aFI⟩
theorem avH:bC Tryz.prog aP (AN 0) (.loop EI) Je.lp:=bK.snd ao1 anM (aQ (Γ:=Ip) (K:=dR) (L:=ay) Nr aA EI (λb hb=>by rw [show ax EI=[] by kernel_rfl] at hb;cases hb)) (λs=>by kernel_rfl)
theorem awX (s:nH) (hE:aut s):(λ(x:Ex) (s':nH) (v:List ByteArray)=>x=.exit 8∧s'.l=v) (azG s) (zZ s) ((λs:nH=>s.l++(s.aN.drop s.i.toNat).map (·.1)) s):=by
 exact bK.mD ao1 anM (λs:nH=>s.l++(s.aN.drop s.i.toNat).map (·.1)) (λx s' v=>x=.exit 8∧s'.l=v) (λs hI=>by
  show bJ _ _ (ahw s)
  unfold ahw XE;dsimp only [T.rd,T.rl];obtain ⟨h0,h1,h2,h3⟩:=hI;refine ai (λc1=>?_) (λc1=>?_)
  ·have c1:s.i<(s.aN.length:Int):=by simpa using c1
   rw [aH (x:=s.i+1)]
   show _++_=_++_
   try simp only
   rw [(Zj h0 c1).1]
   simp
  ·have c1:(s.aN.length:Int)≤s.i:=by simpa using c1
   refine ⟨rfl,?_⟩;rw [List.drop_eq_nil_of_le (by omega)]
   simp) s hE
structure pY where
 r:Bool
 i:Int
 l:List ByteArray
def aP7 (s:pY):List LV:=[.v (.bool s.r),.os 0 1 0 (s.l.length),.v (.int .i64 s.i)]
def aOP (s:pY):List aZ:=[⟨[],9,.vec .str s.l,false⟩]
def EH:Code:=((ax (Tryz.f87.body.getD .skip))[5]?).getD .skip
def afm (s:pY):T (Rd pY):=
 .br (decide (s.i<((s.l.length:Nat):Int))) (.req (0≤s.i∧s.i<((s.l.length:Nat):Int)) (.req (s.i.toNat<s.l.length) (.req (((s.l.getD s.i.toNat (Ty.dflt .str)).size:Int)≤9223372036854775807) (.br (!(nameB (s.l.getD s.i.toNat (Ty.dflt .str)))) (.rl s.l (.ok (.stop (.ret) {s with r:=false}))) (.req (0≤(0:Int)∧(0:Int)≤s.i∧s.i≤((s.l.length:Nat):Int)) (.req (0≤s.i∧s.i<((s.l.length:Nat):Int)) (.req (s.i.toNat<s.l.length) (.req ((0+(0:Int).toNat)+(s.i.toNat-(0:Int).toNat)≤s.l.length) (.req ((List.length ((s.l.drop (0+(0:Int).toNat)).take (s.i.toNat-(0:Int).toNat)):Int)≤1000) (.br (isIn ((s.l.drop (0+(0:Int).toNat)).take (s.i.toNat-(0:Int).toNat)) (s.l.getD s.i.toNat (Ty.dflt .str))) (.rl s.l (.ok (.stop (.ret) {s with r:=false}))) (.rl s.l (.ok (.next {s with i:=(aSe (s.i+1))}))))))))))))) (.rl s.l (.ok (.stop (.exit 10) s)))
abbrev aCD (s:pY):=(afm s).rd s
def TJ (s:pY) (j:Int):Bool:=nameB (gS s.l j)&&!(((s.l.take j.toNat).map id).contains (id (gS s.l j)))
theorem aLZ (s:pY) (_:0≤s.i):letI a:=s.l.getD s.i.toNat (Ty.dflt .str);TJ s s.i=(nameB a&&!(isIn ((s.l.drop (0+(0:Int).toNat)).take (s.i.toNat-(0:Int).toNat)) a)):=by
 unfold TJ;rw [List.map_id,Qh];rfl
def aus (s:pY):Prop:=s.i=0∧(s.l.length:Int)≤1000∧Qd s.l
def SB (s:pY):Prop:=(0≤s.i∧s.i≤(s.l.length:Int))∧(∀j:Nat,(j:Int)<s.i→TJ s j=true)∧(s.l.length:Int)≤1000∧Qd s.l
def U2 (s:pY):Nat:=((s.l.length:Int)-s.i).toNat
def akf (x:Ex) (_ s':pY):Prop:=(x=.exit 10∧∀j:Nat,(j:Int)<(s'.l.length:Int)→TJ s' j=true)∨(x=.ret∧s'.r=false∧∃j:Nat,(j:Int)<(s'.l.length:Int)∧TJ s' j=false)
theorem aL0:∀s,aus s→SB s:=by
 intro s h;obtain ⟨h0,h1,h2⟩:=h;exact ⟨by omega,λj hj=>by omega,h1,h2⟩
theorem aGH (s:pY) (hI:SB s):bJ (λs'=>SB s'∧U2 s'<U2 s) (λx s'=>akf x s s') (aCD s):=by
 unfold aCD afm;dsimp only [T.rd,T.rl];obtain ⟨⟨h0,h1⟩,h2,h3,h4⟩:=hI
 have hg:=aLZ s h0
 refine ai (λc1=>?_) (λc1=>?_)
 rotate_left
 ·have c1:(s.l.length:Int)≤s.i:=by simpa using c1
  exact .inl ⟨rfl,λj hj=>h2 j (by omega)⟩
 have c1:s.i<(s.l.length:Int):=by simpa using c1
 have bad:TJ s s.i=false→akf .ret s {s with r:=false}:=λhg=> .inr ⟨rfl,rfl,s.i.toNat,by simp only;omega,by rw [Int.toNat_of_nonneg h0];exact hg⟩
 refine ai (λc2=>bad ?_) (λc2=>ai (λc3=>bad ?_) (λc3=>?_))
 ·rw [hg]
  simp only [Bool.not_eq_true'] at c2;rw [c2];rfl
 ·rw [hg,c3]
  simp
 ·rw [c3] at hg
  simp only [Bool.not_eq_false'] at c2;rw [c2] at hg;rw [aH (x:=s.i+1)];refine ⟨⟨⟨by simp only;omega,by simp only;omega⟩,λj hj=>?_,h3,h4⟩,by simp only [U2];omega⟩
  by_cases hji:(j:Int)<s.i
  ·exact h2 j hji
  ·have:(j:Int)=s.i:=by simp only at hj;omega
   rw [this];exact hg
def Jd:bK pY:=⟨0,112,[2,3,9],[],aP7,aOP,λv b=>⟨vW (v.getD 0 .junk),gI (v.getD 2 .junk),iW .str (aT b 0)⟩,afm,λs r=> {r with l:=s.l},λs=>s,λ_ s=>s,[.ret,.exit 10],aus,SB,U2⟩
abbrev af5:=Jd.run
abbrev aib:=Jd.jf
abbrev aJD:=Jd.q
theorem aFH (s:pY) (hI:SB s):(afm s).all (λ_=>True):=by
 refine ⟨λc1=>⟨?_,?_,?_,λc2=>⟨aSf,trivial⟩,λc2=>⟨?_,?_,?_,?_,?_,λc3=>⟨aSf,trivial⟩,λc3=>⟨aSf,trivial⟩⟩⟩,λc1=>⟨aSf,trivial⟩⟩
 iterate 2 · (obtain ⟨⟨h0,h1⟩,h2,h3,h4⟩:=hI;simp only [decide_eq_true_eq] at c1;first|omega|(simp only [List.length_take,List.length_drop];omega))
 ·(obtain ⟨⟨h0,h1⟩,h2,h3,h4⟩:=hI;simp only [decide_eq_true_eq] at c1;have hm:gS s.l s.i∈s.l:=(by rw [aNz (by omega)];exact List.getElem_mem _);exact h4 _ hm)
 iterate 5 · (obtain ⟨⟨h0,h1⟩,h2,h3,h4⟩:=hI;simp only [decide_eq_true_eq] at c1;first|omega|(simp only [List.length_take,List.length_drop];omega))
theorem ao0:Jd.Ok:={}
theorem anL:Jd.Pf (akf):=⟨aL0,λ_ _=>rfl,aGH,aFH⟩
theorem avG:bC Tryz.prog aP (AN 0) (.loop EH) Jd.lp:=bK.snd ao0 anL (aQ (Γ:=Ip) (K:=dR) (L:=ay) Nr aA EH (λb hb=>by rw [show ax EH=[] by kernel_rfl] at hb;cases hb)) (λs=>by kernel_rfl)
theorem awW (s:pY) (hE:aus s):∃s',SB s'∧akf (aib s) s' (af5 s):=bK.fin ao0 anL s hE
def aja:List LV→T LV
 | [.agg [.xl (.pair .str (.pair (.int .i64) (.pair (.int .i64) (.pair (.int .i64) (.pair (.pair (.int .i64) (.int .i64)) (.pair (.int .i64) (.pair (.int .i64) (.pair (.int .i64) (.pair (.int .i64) (.int .i64)))))))))) cs,.xl (.str) os,.xl (.pair .str (.pair (.int .i64) (.pair (.int .i64) (.int .i64)))) ks,.xl (.pair .str (.pair (.int .i64) (.pair (.int .i64) (.pair (.int .i64) (.pair (.int .i64) (.pair (.int .i64) (.pair (.int .i64) (.int .i64)))))))) gs,.xl (.pair .str (.int .i64)) bs]]=> .req (((cs.length:Int)≤100∧(os.length:Int)≤100∧(ks.length:Int)≤100∧(gs.length:Int)≤100∧(bs.length:Int)≤100)∧Qd (gG cs os ks gs bs)) (.ok (.v (.bool (nmB (gG cs os ks gs bs)))))
 |_=> .no
def adQ:List LV→T LV:=gZ Tryz.prog Tryz.f87.params.toList aja
theorem axV (cs:List Cd) (os:List ByteArray) (ks:List Ko) (gs:List Ch) (bs:List Ba):letI c:=(lg (⟨false,(0:Int),cs,os,ks,gs,bs,([]:List ByteArray)⟩:jE));letI d:=(nO (⟨false,(0:Int),cs,os,ks,gs,bs,c.l⟩:jR));letI a:=(qC (⟨false,(0:Int),cs,os,ks,gs,bs,d.l⟩:kT));letI e:=(uY (⟨false,(0:Int),cs,os,ks,gs,bs,a.l⟩:lS));letI b:=(zZ (⟨false,(0:Int),cs,os,ks,gs,bs,e.l⟩:nH));cO Tryz.prog aP (Ip) dR (λi=>if i=3 then Ji.lp else if i=7 then Jh.lp else if i=11 then Jg.lp else if i=15 then Jf.lp else if i=19 then Je.lp else if i=23 then Jd.lp else ay i) Tryz.f87 [.agg [.xl dY cs,.xl .str os,.xl fC ks,.xl dP gs,.xl fD bs]]=.req (0=0∧0=List.length ([]:List ByteArray)) (.req (aJI (⟨false,(0:Int),cs,os,ks,gs,bs,([]:List ByteArray)⟩:jE)) (.rl c.l (.req (aJH (⟨false,(0:Int),cs,os,ks,gs,bs,c.l⟩:jR)) (.rl d.l (.req (aJG (⟨false,(0:Int),cs,os,ks,gs,bs,d.l⟩:kT)) (.rl a.l (.req (aJF (⟨false,(0:Int),cs,os,ks,gs,bs,a.l⟩:lS)) (.rl e.l (.req (aJE (⟨false,(0:Int),cs,os,ks,gs,bs,e.l⟩:nH)) (.rl b.l (.req (aJD (⟨false,(0:Int),b.l⟩:pY)) (.br (iV (aib (⟨false,(0:Int),b.l⟩:pY)) (.ret)) (.ok (.v (.bool (af5 (⟨false,(0:Int),b.l⟩:pY)).r))) (.ok (.v (.bool true))))))))))))))):=by kernel_rfl
theorem aDP:Valid Tryz.prog aP 87 adQ:=aI Tryz.func87 rfl Nr aA (L:=(λi=>if i=3 then Ji.lp else if i=7 then Jh.lp else if i=11 then Jg.lp else if i=15 then Jf.lp else if i=19 then Je.lp else if i=23 then Jd.lp else ay i)) (λb hb=>by
 rw [show ax _=[EM,EL,EK,EJ,EI,EH] by kernel_rfl] at hb
 simp only [List.mem_cons,List.not_mem_nil,or_false] at hb;rcases hb with rfl|rfl|rfl|rfl|rfl|rfl
 ·exact avL
 ·exact avK
 ·exact avJ
 ·exact avI
 ·exact avH
 ·exact avG) (λargs lv h=>by
 unfold aja at h;split at h
 ·simp only [canL,canX]
  rw [axV];rename_i cs os ks gs bs;obtain ⟨⟨⟨hc,ho,hk,hg,hb⟩,hn⟩,rfl⟩:=h;refine ⟨aSf,lK ⟨⟨rfl,by simp only;omega,by simp only;decide⟩,rfl,rfl⟩ (λhE0=>?_)⟩
  have o0:=(aw1 _ hE0.1).2
  generalize (lg ⟨false,(0:Int),cs,os,ks,gs,bs,([]:List ByteArray)⟩).l=r0 at o0⊢
  have o0:r0=([]:List ByteArray)++cs.map (·.1):=o0
  have l0:(r0.length:Int)≤100:=by rw [o0];simp only [List.length_append,List.length_map,List.length_nil];omega
  refine ⟨aSf,lK ⟨⟨rfl,by simp only;omega,by simp only;omega⟩,rfl,rfl⟩ (λhE1=>?_)⟩
  have o1:=(aw0 _ hE1.1).2
  generalize (nO ⟨false,(0:Int),cs,os,ks,gs,bs,r0⟩).l=r1 at o1⊢
  have o1:r1=r0++os:=o1
  have l1:(r1.length:Int)≤200:=by rw [o1];simp only [List.length_append];omega
  refine ⟨aSf,lK ⟨⟨rfl,by simp only;omega,by simp only;omega⟩,rfl,rfl⟩ (λhE2=>?_)⟩
  have o2:=(awZ _ hE2.1).2
  generalize (qC ⟨false,(0:Int),cs,os,ks,gs,bs,r1⟩).l=r2 at o2⊢
  have o2:r2=r1++ks.map (·.1):=o2
  have l2:(r2.length:Int)≤300:=by rw [o2];simp only [List.length_append,List.length_map];omega
  refine ⟨aSf,lK ⟨⟨rfl,by simp only;omega,by simp only;omega⟩,rfl,rfl⟩ (λhE3=>?_)⟩
  have o3:=(awY _ hE3.1).2
  generalize (uY ⟨false,(0:Int),cs,os,ks,gs,bs,r2⟩).l=r3 at o3⊢
  have o3:r3=r2++gs.map (·.1):=o3
  have l3:(r3.length:Int)≤400:=by rw [o3];simp only [List.length_append,List.length_map];omega
  refine ⟨aSf,lK ⟨⟨rfl,by simp only;omega,by simp only;omega⟩,rfl,rfl⟩ (λhE4=>?_)⟩
  have o4:=(awX _ hE4.1).2
  generalize (zZ ⟨false,(0:Int),cs,os,ks,gs,bs,r3⟩).l=r4 at o4⊢
  have o4:r4=r3++bs.map (·.1):=o4
  have l4:(r4.length:Int)≤500:=by rw [o4];simp only [List.length_append,List.length_map];omega
  have e:r4=gG cs os ks gs bs:=by rw [o4,o3,o2,o1,o0,List.nil_append];rfl
  subst e;refine ⟨aSf,lK ⟨⟨rfl,by simp only;omega,hn⟩,rfl,rfl⟩ (λhE=>?_)⟩
  obtain ⟨s',_,hq⟩:=awW _ hE.1;unfold nmB;generalize gG cs os ks gs bs=l at*;rcases hq with ⟨q1,q2⟩ |⟨q1,q2,j,q3,q4⟩
  ·rw [q1]
   have hk:=(nC (d:=emp) (p:=nameB) (k:=id)).1 q2
   rw [List.map_id] at hk;rw [show (l.all nameB&&once l)=true from hk];exact ⟨λh=>(by cases h),λ_=>rfl⟩
  ·rw [q1,q2]
   refine ⟨λ_=>congrArg (λz=>LV.v (.bool z)) ?_,λh=>by cases h⟩
   rw [eq_comm,Bool.eq_false_iff];intro hx
   have:=(nC (d:=emp) (p:=nameB) (k:=id)).2 (by rw [List.map_id];exact hx) j q3
   exact Bool.noConfusion (this.symm.trans q4)
 ·cases h)
structure jW where
 r:Bool
 i:Int
 aj:List Cd
 aF:List ByteArray
 ak:List Ko
 af:List Ch
 aN:List Ba
def aPU (s:jW):List LV:=[.own 0 0,.v (.bool s.r),.v (.int .i64 s.i)]
def aOC (s:jW):List aZ:=[⟨[.xl dY s.aj,.xl .str s.aF,.xl fC s.ak,.xl dP s.af,.xl fD s.aN],28,.cl,false⟩]
def Es:Code:=((ax (Tryz.f49.body.getD .skip))[0]?).getD .skip
def afd (s:jW):T (Rd jW):=
 .br (decide (s.i<(s.aj.length:Int))) (.req (0≤s.i∧s.i<(s.aj.length:Int)) (.req (0≤s.i∧s.i≤1000) (.br (!(IB s.i (iw s.aj s.i))) (.ok (.stop (.ret) {s with r:=false})) (.ok (.next {s with i:=(aSe (s.i+1))}))))) (.ok (.stop (.exit 0) s))
abbrev aCu (s:jW):=(afd s).rd s
def O1 (s:jW) (j:Int):Bool:=IB j (iw s.aj j)
def aul (s:jW):Prop:=s.i=0∧0≤(s.aj.length:Int)∧(s.aj.length:Int)≤1000∧True
def RX (s:jW):Prop:=0≤s.i∧s.i≤(s.aj.length:Int)∧(s.aj.length:Int)≤1000∧(True)∧∀j:Nat,(j:Int)<s.i→O1 s j=true
def UO (s:jW):Nat:=((s.aj.length:Int)-s.i).toNat
def atb (x:Ex) (_ s':jW):Prop:=(x=.exit 0∧∀j:Nat,(j:Int)<(s'.aj.length:Int)→O1 s' j=true)∨(x=.ret∧s'.r=false∧∃j:Nat,(j:Int)<(s'.aj.length:Int)∧O1 s' j=false)
theorem aLt:∀s,aul s→RX s:=by
 intro s h;obtain ⟨h0,h1,h2,h3⟩:=h;exact ⟨by omega,by omega,h2,h3,λj hj=>by omega⟩
theorem aE8 (s:jW) (hI:RX s):bJ (λs'=>RX s'∧UO s'<UO s) (λx s'=>atb x s s') (aCu s):=by
 unfold aCu afd;dsimp only [T.rd,T.rl];obtain ⟨h0,h1,h2,h3,h4⟩:=hI;refine ai (λc1=>ai (λc2=>?_) (λc2=>?_)) (λc1=>?_)
 ·have c1:s.i<(s.aj.length:Int):=by simpa using c1
  refine .inr ⟨rfl,rfl,s.i.toNat,by simp only;omega,?_⟩
  rw [Int.toNat_of_nonneg (by omega)]
  have hg:O1 s s.i=false:=by unfold O1;(first|(have c2:(!(IB s.i (iw s.aj s.i)))=false:=c2;simpa using c2) |(have c2:(!(IB s.i (iw s.aj s.i)))=true:=c2;simpa using c2))
  exact hg
 ·have c1:s.i<(s.aj.length:Int):=by simpa using c1
  have hg:O1 s s.i=true:=by unfold O1;(first|(have c2:(!(IB s.i (iw s.aj s.i)))=false:=c2;simpa using c2) |(have c2:(!(IB s.i (iw s.aj s.i)))=true:=c2;simpa using c2))
  rw [aH (x:=s.i+1)];refine ⟨⟨by simp only;omega,by simp only;omega,h2,h3,λj hj=>?_⟩,by simp only [UO];omega⟩
  by_cases hji:(j:Int)<s.i
  ·exact h4 j hji
  ·have:(j:Int)=s.i:=by simp only at hj;omega
   rw [this];exact hg
 ·have c1:(s.aj.length:Int)≤s.i:=by simpa using c1
  exact .inl ⟨rfl,λj hj=>h4 j (by omega)⟩
def IY:bK jW:=⟨0,159,[1,2,3],[],aPU,aOC,λv b=>⟨vW (v.getD 1 .junk),gI (v.getD 2 .junk),aU dY (bn (aT b 0) 0),aU .str (bn (aT b 0) 1),aU fC (bn (aT b 0) 2),aU dP (bn (aT b 0) 3),aU fD (bn (aT b 0) 4)⟩,afd,λs r=> {r with aj:=s.aj,aF:=s.aF,ak:=s.ak,af:=s.af,aN:=s.aN},λs=>s,λ_ s=>s,[.ret,.exit 0],aul,RX,UO⟩
abbrev oW:=IY.run
abbrev ah5:=IY.jf
abbrev aJq:=IY.q
theorem aFu (s:jW) (hI:RX s):(afd s).all (λ_=>True):=by
 refine ⟨λc1=>⟨?_,?_,λ_=>trivial,λ_=>trivial⟩,λ_=>trivial⟩
 all_goals ((obtain ⟨h0,h1,h2,h3,h4⟩:=hI;simp at c1;omega))
def Ny:Specs:=aW [(86,OA),(87,adQ),(88,adU),(89,adV)]
theorem QW:∀g S,Ny g=some S→Valid Tryz.prog aP g S:=aS (l:=[(86,OA),(87,adQ),(88,adU),(89,adV)]) ⟨amc,aDP,aDT,aDU,trivial⟩
theorem aoM:IY.Ok:={}
theorem anw:IY.Pf (atb):=⟨aLt,λ_ _=>rfl,aE8,aFu⟩
theorem avs:bC Tryz.prog aP (AN 0) (.loop Es) IY.lp:=bK.snd aoM anw (aQ (Γ:=Ny) (K:=dR) (L:=ay) QW aA Es (λb hb=>by rw [show ax Es=[] by kernel_rfl] at hb;cases hb)) (λs=>by kernel_rfl)
theorem awI (s:jW) (hE:aul s):∃s',RX s'∧atb (ah5 s) s' (oW s):=bK.fin aoM anw s hE
structure qR where
 r:Bool
 i:Int
 k:Int
 aj:List Cd
 aF:List ByteArray
 ak:List Ko
 af:List Ch
 aN:List Ba
 uo:ByteArray
 pz:Int
 adu:Int
 vZ:Int
def aPQ (s:qR):List LV:=[.own 0 0,.v (.bool s.r),.v (.int .i64 s.i),.own 1 0,.v (.int .i64 s.k)]
def aOy (s:qR):List aZ:=[⟨[.xl dY s.aj,.xl .str s.aF,.xl fC s.ak,.xl dP s.af,.xl fD s.aN],28,.cl,false⟩,⟨[.v (.string s.uo),.v (.int .i64 s.pz),.v (.int .i64 s.adu),.v (.int .i64 s.vZ)],139,.cl,false⟩]
def En:Code:=((ax (((ax (Tryz.f49.body.getD .skip))[1]?).getD .skip))[0]?).getD .skip
def ae9 (s:qR):T (Rd qR):=
 .br (decide (s.k<s.i)) (.req (0≤s.k∧s.k<(s.ak.length:Int)) (.br ((pU s.ak s.k).2.2.2==s.vZ) (.ok (.stop (.ret) {s with r:=false})) (.ok (.next {s with k:=(aSe (s.k+1))})))) (.ok (.stop (.exit 4) s))
abbrev aCq (s:qR):=(ae9 s).rd s
def OY (s:qR) (j:Int):Bool:=!((pU s.ak j).2.2.2==s.vZ)
def aaH (s:qR):Prop:=s.k=0∧0≤s.i∧s.i≤1000∧s.i≤(s.ak.length:Int)
def RS (s:qR):Prop:=0≤s.k∧s.k≤s.i∧s.i≤1000∧(s.i≤(s.ak.length:Int))∧∀j:Nat,(j:Int)<s.k→OY s j=true
def UK (s:qR):Nat:=(s.i-s.k).toNat
def as8 (x:Ex) (_ s':qR):Prop:=(x=.exit 4∧∀j:Nat,(j:Int)<s'.i→OY s' j=true)∨(x=.ret∧s'.r=false∧∃j:Nat,(j:Int)<s'.i∧OY s' j=false)
theorem aLp:∀s,aaH s→RS s:=by
 intro s h;obtain ⟨h0,h1,h2,h3⟩:=h;exact ⟨by omega,by omega,h2,h3,λj hj=>by omega⟩
theorem aE4 (s:qR) (hI:RS s):bJ (λs'=>RS s'∧UK s'<UK s) (λx s'=>as8 x s s') (aCq s):=by
 unfold aCq ae9;dsimp only [T.rd,T.rl];obtain ⟨h0,h1,h2,h3,h4⟩:=hI;refine ai (λc1=>ai (λc2=>?_) (λc2=>?_)) (λc1=>?_)
 ·have c1:s.k<s.i:=by simpa using c1
  refine .inr ⟨rfl,rfl,s.k.toNat,by simp only;omega,?_⟩
  rw [Int.toNat_of_nonneg (by omega)]
  have hg:OY s s.k=false:=by unfold OY;(simpa using c2)
  exact hg
 ·have c1:s.k<s.i:=by simpa using c1
  have hg:OY s s.k=true:=by unfold OY;(simpa using c2)
  rw [aH (x:=s.k+1)];refine ⟨⟨by simp only;omega,by simp only;omega,h2,h3,λj hj=>?_⟩,by simp only [UK];omega⟩
  by_cases hji:(j:Int)<s.k
  ·exact h4 j hji
  ·have:(j:Int)=s.k:=by simp only at hj;omega
   rw [this];exact hg
 ·have c1:s.i≤s.k:=by simpa using c1
  exact .inl ⟨rfl,λj hj=>h4 j (by omega)⟩
def PG:bK qR:=⟨0,159,[1,2,4,5,6],[],aPQ,aOy,λv b=>⟨vW (v.getD 1 .junk),gI (v.getD 2 .junk),gI (v.getD 4 .junk),aU dY (bn (aT b 0) 0),aU .str (bn (aT b 0) 1),aU fC (bn (aT b 0) 2),aU dP (bn (aT b 0) 3),aU fD (bn (aT b 0) 4),gSr (bn (aT b 1) 0),gI (bn (aT b 1) 1),gI (bn (aT b 1) 2),gI (bn (aT b 1) 3)⟩,ae9,λs r=> {r with i:=s.i,aj:=s.aj,aF:=s.aF,ak:=s.ak,af:=s.af,aN:=s.aN,uo:=s.uo,pz:=s.pz,adu:=s.adu,vZ:=s.vZ},λs=>s,λ_ s=>s,[.ret,.exit 4],aaH,RS,UK⟩
abbrev Dq:=PG.run
abbrev AA:=PG.jf
abbrev aJm:=PG.q
theorem aFq (s:qR) (hI:RS s):(ae9 s).all (λ_=>True):=by
 refine ⟨λc1=>⟨?_,λ_=>trivial,λ_=>trivial⟩,λ_=>trivial⟩
 ·(obtain ⟨h0,h1,h2,h3,h4⟩:=hI;simp at c1;omega)
theorem aoI:PG.Ok:={}
theorem anr:PG.Pf (as8):=⟨aLp,λ_ _=>rfl,aE4,aFq⟩
theorem avo:bC Tryz.prog aP (AN 0) (.loop En) PG.lp:=bK.snd aoI anr (aQ (Γ:=Ny) (K:=dR) (L:=ay) QW aA En (λb hb=>by rw [show ax En=[] by kernel_rfl] at hb;cases hb)) (λs=>by kernel_rfl)
theorem awE (s:qR) (hE:aaH s):∃s',RS s'∧as8 (AA s) s' (Dq s):=bK.fin aoI anr s hE
theorem awD (s:qR) (hE:aaH s):(AA s=.exit 4∧((s.ak.take s.i.toNat).map (·.2.2.2)).contains s.vZ=false)∨(AA s=.ret∧(Dq s).r=false∧((s.ak.take s.i.toNat).map (·.2.2.2)).contains s.vZ=true):=by
 obtain ⟨s',_,hq⟩:=awE s hE;obtain ⟨h0,h1,h2,h3⟩:=hE
 have hc:=akW (c:=s.vZ) h1 h3
 rcases hq with ⟨q1,q2⟩ |⟨q1,q2,j,q3,q4⟩
 ·refine .inl ⟨q1,?_⟩
  rw [Bool.eq_false_iff,ne_eq,hc]
  rintro ⟨j,hj,e⟩
  have:(!((pU s.ak j).2.2.2==s.vZ))=true:=q2 j hj
  rw [e] at this
  simp at this
 ·refine .inr ⟨q1,q2,hc.2 ⟨j,q3,?_⟩⟩
  have q4:(!((pU s.ak j).2.2.2==s.vZ))=false:=q4
  simpa using q4
structure jV where
 r:Bool
 i:Int
 aj:List Cd
 aF:List ByteArray
 ak:List Ko
 af:List Ch
 aN:List Ba
def aPT (s:jV):List LV:=[.own 0 0,.v (.bool s.r),.v (.int .i64 s.i)]
def aOB (s:jV):List aZ:=[⟨[.xl dY s.aj,.xl .str s.aF,.xl fC s.ak,.xl dP s.af,.xl fD s.aN],28,.cl,false⟩]
def NY:Code:=((ax (Tryz.f49.body.getD .skip))[1]?).getD .skip
def uT (s:jV):qR:=(⟨s.r,s.i,(0:Int),s.aj,s.aF,s.ak,s.af,s.aN,(pU s.ak s.i).1,(pU s.ak s.i).2.1,(pU s.ak s.i).2.2.1,(pU s.ak s.i).2.2.2⟩:qR)
def afc (s:jV):T (Rd jV):=
 .br (decide (s.i<(s.ak.length:Int))) (.req (0≤s.i∧s.i<(s.ak.length:Int)) (.br ((!(inB (pU s.ak s.i).2.1 (0:Int) (aSe ((s.aF.length:Int)-1)))) ||((!(inB (pU s.ak s.i).2.2.1 (1:Int) (9:Int))) ||(!(inB (pU s.ak s.i).2.2.2 (1:Int) (1000000:Int))))) (.ok (.stop (.ret) {s with r:=false})) (.req (aJm (uT s)) (.br (iV (AA (uT s)) (.ret)) (.ok (.stop (.ret) {s with r:=(Dq (uT s)).r})) (.ok (.next {s with r:=(Dq (uT s)).r,i:=(aSe (s.i+1))})))))) (.ok (.stop (.exit 2) s))
abbrev aCt (s:jV):=(afc s).rd s
def TI (s:jV) (j:Int):Bool:=koV (s.aF.length:Int) (pU s.ak j)&&!(((s.ak.take j.toNat).map (·.2.2.2)).contains (pU s.ak j).2.2.2)
def auk (s:jV):Prop:=s.i=0∧(s.ak.length:Int)≤1000∧(s.aF.length:Int)≤1000
def OJ (s:jV):Prop:=(0≤s.i∧s.i≤(s.ak.length:Int))∧(∀j:Nat,(j:Int)<s.i→TI s j=true)∧(s.ak.length:Int)≤1000∧(s.aF.length:Int)≤1000
def UN (s:jV):Nat:=((s.ak.length:Int)-s.i).toNat
def ake (x:Ex) (_ s':jV):Prop:=(x=.exit 2∧∀j:Nat,(j:Int)<(s'.ak.length:Int)→TI s' j=true)∨(x=.ret∧s'.r=false∧∃j:Nat,(j:Int)<(s'.ak.length:Int)∧TI s' j=false)
theorem aLs:∀s,auk s→OJ s:=by
 intro s h;obtain ⟨h0,h1,h2⟩:=h;exact ⟨by omega,λj hj=>by omega,h1,h2⟩
theorem amW (s:jV) (hI:OJ s) (c1:s.i<(s.ak.length:Int)):aaH (uT s):=by
 obtain ⟨⟨h0,h1⟩,h2,h3,h4⟩:=hI;exact ⟨rfl,h0,by show s.i≤1000;omega,h1⟩
theorem aE7 (s:jV) (hI:OJ s):bJ (λs'=>OJ s'∧UN s'<UN s) (λx s'=>ake x s s') (aCt s):=by
 unfold aCt afc;dsimp only [T.rd,T.rl]
 have hin:=λc1=>amW s hI c1
 obtain ⟨⟨h0,h1⟩,h2,h3,h4⟩:=hI;refine ai (λc1=>?_) (λc1=>?_)
 rotate_left
 ·have c1:(s.ak.length:Int)≤s.i:=by simpa using c1
  exact .inl ⟨rfl,λj hj=>h2 j (by omega)⟩
 have c1:s.i<(s.ak.length:Int):=by simpa using c1
 have bad:∀s2:jV,s2.r=false→s2.ak=s.ak→s2.aF=s.aF→TI s s.i=false→ake .ret s s2:=λs2 e1 e2 e3 hg=> .inr ⟨rfl,e1,s.i.toNat,by rw [e2];omega,by
  unfold TI at hg⊢;rw [Int.toNat_of_nonneg h0,e2,e3];exact hg⟩
 rw [aH (x:=(s.aF.length:Int)-1)]
 have hk:=awD _ (hin c1)
 have hk:(AA (uT s)=.exit 4∧((s.ak.take s.i.toNat).map (·.2.2.2)).contains (pU s.ak s.i).2.2.2=false)∨(AA (uT s)=.ret∧(Dq (uT s)).r=false∧((s.ak.take s.i.toNat).map (·.2.2.2)).contains (pU s.ak s.i).2.2.2=true):=hk
 have hg:TI s s.i=(koV (s.aF.length:Int) (pU s.ak s.i)&&!(((s.ak.take s.i.toNat).map (·.2.2.2)).contains (pU s.ak s.i).2.2.2)):=rfl
 have hkv:koV (s.aF.length:Int) (pU s.ak s.i)=(inB (pU s.ak s.i).2.1 0 ((s.aF.length:Int)-1)&&(inB (pU s.ak s.i).2.2.1 1 9&&inB (pU s.ak s.i).2.2.2 1 1000000)):=rfl
 refine ai (λc2=>bad _ rfl rfl rfl ?_) (λc2=>?_)
 ·rw [hg,hkv]
  revert c2
  generalize inB (pU s.ak s.i).2.1 _ _=a;generalize inB (pU s.ak s.i).2.2.1 _ _=b;generalize inB (pU s.ak s.i).2.2.2 _ _=c;cases a<;>cases b<;>cases c<;>simp
 have hkt:koV (s.aF.length:Int) (pU s.ak s.i)=true:=by
  rw [hkv]
  revert c2
  generalize inB (pU s.ak s.i).2.1 _ _=a;generalize inB (pU s.ak s.i).2.2.1 _ _=b;generalize inB (pU s.ak s.i).2.2.2 _ _=c;cases a<;>cases b<;>cases c<;>simp
 rw [hkt,Bool.true_and] at hg;rcases hk with ⟨q1,q2⟩ |⟨q1,q2,q3⟩
 ·rw [q1]
  refine ai (λc3=>by cases c3) (λ_=>?_)
  rw [aH (x:=s.i+1)];rw [q2] at hg;refine ⟨⟨⟨by simp only;omega,by simp only;omega⟩,λj hj=>?_,h3,h4⟩,by simp only [UN];omega⟩
  by_cases hji:(j:Int)<s.i
  ·exact h2 j hji
  ·have:(j:Int)=s.i:=by simp only at hj;omega
   rw [this];exact hg
 ·rw [q1]
  refine ai (λ_=>bad _ q2 rfl rfl ?_) (λc3=>by cases c3)
  rw [hg,q3];rfl
def IX:bK jV:=⟨0,159,[1,2,4],[],aPT,aOB,λv b=>⟨vW (v.getD 1 .junk),gI (v.getD 2 .junk),aU dY (bn (aT b 0) 0),aU .str (bn (aT b 0) 1),aU fC (bn (aT b 0) 2),aU dP (bn (aT b 0) 3),aU fD (bn (aT b 0) 4)⟩,afc,λs r=> {r with aj:=s.aj,aF:=s.aF,ak:=s.ak,af:=s.af,aN:=s.aN},λs=>s,λ_ s=>s,[.ret,.exit 2],auk,OJ,UN⟩
abbrev uV:=IX.run
abbrev ah4:=IX.jf
abbrev aJp:=IX.q
theorem aFt (s:jV) (hI:OJ s):(afc s).all (λ_=>True):=by
 refine ⟨λc1=>⟨?_,λ_=>trivial,λc2=>⟨?_,λ_=>trivial,λ_=>trivial⟩⟩,λ_=>trivial⟩
 ·(obtain ⟨⟨h0,h1⟩,h2,h3,h4⟩:=hI;simp only [decide_eq_true_eq] at c1;omega)
 ·exact ⟨amW s hI (by simpa using c1),rfl,rfl⟩
theorem aoL:IX.Ok:={}
theorem anv:IX.Pf (ake):=⟨aLs,λ_ _=>rfl,aE7,aFt⟩
theorem avr:bC Tryz.prog aP (AN 0) (.loop NY) IX.lp:=bK.snd aoL anv (aQ (Γ:=Ny) (K:=dR) (L:=(λi=>if i=15 then PG.lp else ay i)) QW aA NY (λb hb=>by
 rw [show ax _=[En] by kernel_rfl] at hb
 simp only [List.mem_cons,List.not_mem_nil,or_false] at hb;subst hb;exact avo)) (λs=>by kernel_rfl)
theorem awH (s:jV) (hE:auk s):∃s',OJ s'∧ake (ah4 s) s' (uV s):=bK.fin aoL anv s hE
structure oz where
 r:Bool
 i:Int
 aj:List Cd
 aF:List ByteArray
 ak:List Ko
 af:List Ch
 aN:List Ba
def aPS (s:oz):List LV:=[.own 0 0,.v (.bool s.r),.v (.int .i64 s.i)]
def aOA (s:oz):List aZ:=[⟨[.xl dY s.aj,.xl .str s.aF,.xl fC s.ak,.xl dP s.af,.xl fD s.aN],28,.cl,false⟩]
def Ep:Code:=((ax (Tryz.f49.body.getD .skip))[2]?).getD .skip
def afb (s:oz):T (Rd oz):=
 .br (decide (s.i<(s.af.length:Int))) (.req (0≤s.i∧s.i<(s.af.length:Int)) (.br ((!(chW (bG s.af s.i))) ||((!(inB (bG s.af s.i).2.1 (0:Int) (aSe ((s.aj.length:Int)-1)))) ||(!(inB (bG s.af s.i).2.2.2.2.2.2.2 (0:Int) (aSe ((s.aF.length:Int)-1)))))) (.ok (.stop (.ret) {s with r:=false})) (.ok (.next {s with i:=(aSe (s.i+1))})))) (.ok (.stop (.exit 6) s))
abbrev aCs (s:oz):=(afb s).rd s
def O0 (s:oz) (j:Int):Bool:=JZ s.aj.length s.aF.length (bG s.af j)
def auj (s:oz):Prop:=s.i=0∧0≤(s.af.length:Int)∧(s.af.length:Int)≤1000∧(s.aj.length:Int)≤1000∧(s.aF.length:Int)≤1000
def RV (s:oz):Prop:=0≤s.i∧s.i≤(s.af.length:Int)∧(s.af.length:Int)≤1000∧((s.aj.length:Int)≤1000∧(s.aF.length:Int)≤1000)∧∀j:Nat,(j:Int)<s.i→O0 s j=true
def UM (s:oz):Nat:=((s.af.length:Int)-s.i).toNat
def ata (x:Ex) (_ s':oz):Prop:=(x=.exit 6∧∀j:Nat,(j:Int)<(s'.af.length:Int)→O0 s' j=true)∨(x=.ret∧s'.r=false∧∃j:Nat,(j:Int)<(s'.af.length:Int)∧O0 s' j=false)
theorem aLr:∀s,auj s→RV s:=by
 intro s h;obtain ⟨h0,h1,h2,h3⟩:=h;exact ⟨by omega,by omega,h2,h3,λj hj=>by omega⟩
theorem aE6 (s:oz) (hI:RV s):bJ (λs'=>RV s'∧UM s'<UM s) (λx s'=>ata x s s') (aCs s):=by
 unfold aCs afb;dsimp only [T.rd,T.rl];obtain ⟨h0,h1,h2,h3,h4⟩:=hI;refine ai (λc1=>ai (λc2=>?_) (λc2=>?_)) (λc1=>?_)
 ·have c1:s.i<(s.af.length:Int):=by simpa using c1
  refine .inr ⟨rfl,rfl,s.i.toNat,by simp only;omega,?_⟩
  rw [Int.toNat_of_nonneg (by omega)]
  have hg:O0 s s.i=false:=by unfold O0;(obtain ⟨e1,e2⟩:=h3;rw [aH (x:=(s.aj.length:Int)-1),aH (x:=(s.aF.length:Int)-1)] at c2;unfold JZ;revert c2;generalize chW (bG s.af s.i)=a;generalize inB (bG s.af s.i).2.1 _ _=b;generalize inB (bG s.af s.i).2.2.2.2.2.2.2 _ _=c;cases a<;>cases b<;>cases c<;>simp)
  exact hg
 ·have c1:s.i<(s.af.length:Int):=by simpa using c1
  have hg:O0 s s.i=true:=by unfold O0;(obtain ⟨e1,e2⟩:=h3;rw [aH (x:=(s.aj.length:Int)-1),aH (x:=(s.aF.length:Int)-1)] at c2;unfold JZ;revert c2;generalize chW (bG s.af s.i)=a;generalize inB (bG s.af s.i).2.1 _ _=b;generalize inB (bG s.af s.i).2.2.2.2.2.2.2 _ _=c;cases a<;>cases b<;>cases c<;>simp)
  rw [aH (x:=s.i+1)];refine ⟨⟨by simp only;omega,by simp only;omega,h2,h3,λj hj=>?_⟩,by simp only [UM];omega⟩
  by_cases hji:(j:Int)<s.i
  ·exact h4 j hji
  ·have:(j:Int)=s.i:=by simp only at hj;omega
   rw [this];exact hg
 ·have c1:(s.af.length:Int)≤s.i:=by simpa using c1
  exact .inl ⟨rfl,λj hj=>h4 j (by omega)⟩
def IW:bK oz:=⟨0,159,[1,2,7],[],aPS,aOA,λv b=>⟨vW (v.getD 1 .junk),gI (v.getD 2 .junk),aU dY (bn (aT b 0) 0),aU .str (bn (aT b 0) 1),aU fC (bn (aT b 0) 2),aU dP (bn (aT b 0) 3),aU fD (bn (aT b 0) 4)⟩,afb,λs r=> {r with aj:=s.aj,aF:=s.aF,ak:=s.ak,af:=s.af,aN:=s.aN},λs=>s,λ_ s=>s,[.ret,.exit 6],auj,RV,UM⟩
abbrev Dt:=IW.run
abbrev ah3:=IW.jf
abbrev aJo:=IW.q
theorem aFs (s:oz) (hI:RV s):(afb s).all (λ_=>True):=by
 refine ⟨λc1=>⟨?_,λ_=>trivial,λ_=>trivial⟩,λ_=>trivial⟩
 ·(obtain ⟨h0,h1,h2,h3,h4⟩:=hI;simp at c1;omega)
theorem aoK:IW.Ok:={}
theorem anu:IW.Pf (ata):=⟨aLr,λ_ _=>rfl,aE6,aFs⟩
theorem avq:bC Tryz.prog aP (AN 0) (.loop Ep) IW.lp:=bK.snd aoK anu (aQ (Γ:=Ny) (K:=dR) (L:=ay) QW aA Ep (λb hb=>by rw [show ax Ep=[] by kernel_rfl] at hb;cases hb)) (λs=>by kernel_rfl)
theorem awG (s:oz) (hE:auj s):∃s',RV s'∧ata (ah3 s) s' (Dt s):=bK.fin aoK anu s hE
structure qU where
 r:Bool
 i:Int
 aj:List Cd
 aF:List ByteArray
 ak:List Ko
 af:List Ch
 aN:List Ba
def aPR (s:qU):List LV:=[.own 0 0,.v (.bool s.r),.v (.int .i64 s.i)]
def aOz (s:qU):List aZ:=[⟨[.xl dY s.aj,.xl .str s.aF,.xl fC s.ak,.xl dP s.af,.xl fD s.aN],28,.cl,false⟩]
def Eo:Code:=((ax (Tryz.f49.body.getD .skip))[3]?).getD .skip
def afa (s:qU):T (Rd qU):=
 .br (decide (s.i<(s.aN.length:Int))) (.req (0≤s.i∧s.i<(s.aN.length:Int)) (.br (!(inB (Gj s.aN s.i).2 (0:Int) (aSe ((s.af.length:Int)-1)))) (.ok (.stop (.ret) {s with r:=false})) (.ok (.next {s with i:=(aSe (s.i+1))})))) (.ok (.stop (.exit 8) s))
abbrev aCr (s:qU):=(afa s).rd s
def OZ (s:qU) (j:Int):Bool:=inB (Gj s.aN j).2 0 (aSe ((s.af.length:Int)-1))
def aui (s:qU):Prop:=s.i=0∧0≤(s.aN.length:Int)∧(s.aN.length:Int)≤1000∧True
def RU (s:qU):Prop:=0≤s.i∧s.i≤(s.aN.length:Int)∧(s.aN.length:Int)≤1000∧(True)∧∀j:Nat,(j:Int)<s.i→OZ s j=true
def UL (s:qU):Nat:=((s.aN.length:Int)-s.i).toNat
def as9 (x:Ex) (_ s':qU):Prop:=(x=.exit 8∧∀j:Nat,(j:Int)<(s'.aN.length:Int)→OZ s' j=true)∨(x=.ret∧s'.r=false∧∃j:Nat,(j:Int)<(s'.aN.length:Int)∧OZ s' j=false)
theorem aLq:∀s,aui s→RU s:=by
 intro s h;obtain ⟨h0,h1,h2,h3⟩:=h;exact ⟨by omega,by omega,h2,h3,λj hj=>by omega⟩
theorem aE5 (s:qU) (hI:RU s):bJ (λs'=>RU s'∧UL s'<UL s) (λx s'=>as9 x s s') (aCr s):=by
 unfold aCr afa;dsimp only [T.rd,T.rl];obtain ⟨h0,h1,h2,h3,h4⟩:=hI;refine ai (λc1=>ai (λc2=>?_) (λc2=>?_)) (λc1=>?_)
 ·have c1:s.i<(s.aN.length:Int):=by simpa using c1
  refine .inr ⟨rfl,rfl,s.i.toNat,by simp only;omega,?_⟩
  rw [Int.toNat_of_nonneg (by omega)]
  have hg:OZ s s.i=false:=by unfold OZ;(first|(have c2:(!(inB (Gj s.aN s.i).2 0 (aSe ((s.af.length:Int)-1))))=false:=c2;simpa using c2) |(have c2:(!(inB (Gj s.aN s.i).2 0 (aSe ((s.af.length:Int)-1))))=true:=c2;simpa using c2))
  exact hg
 ·have c1:s.i<(s.aN.length:Int):=by simpa using c1
  have hg:OZ s s.i=true:=by unfold OZ;(first|(have c2:(!(inB (Gj s.aN s.i).2 0 (aSe ((s.af.length:Int)-1))))=false:=c2;simpa using c2) |(have c2:(!(inB (Gj s.aN s.i).2 0 (aSe ((s.af.length:Int)-1))))=true:=c2;simpa using c2))
  rw [aH (x:=s.i+1)];refine ⟨⟨by simp only;omega,by simp only;omega,h2,h3,λj hj=>?_⟩,by simp only [UL];omega⟩
  by_cases hji:(j:Int)<s.i
  ·exact h4 j hji
  ·have:(j:Int)=s.i:=by simp only at hj;omega
   rw [this];exact hg
 ·have c1:(s.aN.length:Int)≤s.i:=by simpa using c1
  exact .inl ⟨rfl,λj hj=>h4 j (by omega)⟩
def IV:bK qU:=⟨0,159,[1,2,9],[],aPR,aOz,λv b=>⟨vW (v.getD 1 .junk),gI (v.getD 2 .junk),aU dY (bn (aT b 0) 0),aU .str (bn (aT b 0) 1),aU fC (bn (aT b 0) 2),aU dP (bn (aT b 0) 3),aU fD (bn (aT b 0) 4)⟩,afa,λs r=> {r with aj:=s.aj,aF:=s.aF,ak:=s.ak,af:=s.af,aN:=s.aN},λs=>s,λ_ s=>s,[.ret,.exit 8],aui,RU,UL⟩
abbrev afX:=IV.run
abbrev ah2:=IV.jf
abbrev aJn:=IV.q
theorem aFr (s:qU) (hI:RU s):(afa s).all (λ_=>True):=by
 refine ⟨λc1=>⟨?_,λ_=>trivial,λ_=>trivial⟩,λ_=>trivial⟩
 ·(obtain ⟨h0,h1,h2,h3,h4⟩:=hI;simp at c1;omega)
theorem aoJ:IV.Ok:={}
theorem ant:IV.Pf (as9):=⟨aLq,λ_ _=>rfl,aE5,aFr⟩
theorem avp:bC Tryz.prog aP (AN 0) (.loop Eo) IV.lp:=bK.snd aoJ ant (aQ (Γ:=Ny) (K:=dR) (L:=ay) QW aA Eo (λb hb=>by rw [show ax Eo=[] by kernel_rfl] at hb;cases hb)) (λs=>by kernel_rfl)
theorem awF (s:qU) (hE:aui s):∃s',RU s'∧as9 (ah2 s) s' (afX s):=bK.fin aoJ ant s hE
def ai3:List LV→T LV
 | [.agg [.xl (.pair .str (.pair (.int .i64) (.pair (.int .i64) (.pair (.int .i64) (.pair (.pair (.int .i64) (.int .i64)) (.pair (.int .i64) (.pair (.int .i64) (.pair (.int .i64) (.pair (.int .i64) (.int .i64)))))))))) cs,.xl (.str) os,.xl (.pair .str (.pair (.int .i64) (.pair (.int .i64) (.int .i64)))) ks,.xl (.pair .str (.pair (.int .i64) (.pair (.int .i64) (.pair (.int .i64) (.pair (.int .i64) (.pair (.int .i64) (.pair (.int .i64) (.int .i64)))))))) gs,.xl (.pair .str (.int .i64)) bs]]=> .req (Qd (gG cs os ks gs bs)) (.ok (.v (.bool (fH cs os ks gs bs))))
 |_=> .no
def Ox:List LV→T LV:=gZ Tryz.prog Tryz.f49.params.toList ai3
theorem axO (cs:List Cd) (os:List ByteArray) (ks:List Ko) (gs:List Ch) (bs:List Ba):letI b:=(oW (⟨false,(0:Int),cs,os,ks,gs,bs⟩:jW));letI a:=(uV (⟨b.r,(0:Int),cs,os,ks,gs,bs⟩:jV));letI c:=(Dt (⟨a.r,(0:Int),cs,os,ks,gs,bs⟩:oz));cO Tryz.prog aP (Ny) dR (λi=>if i=4 then IY.lp else if i=9 then IX.lp else if i=20 then IW.lp else if i=26 then IV.lp else ay i) Tryz.f49 [.agg [.xl dY cs,.xl .str os,.xl fC ks,.xl dP gs,.xl fD bs]]=.br (!(inB (cs.length:Int) (1:Int) (16:Int))) (.ok (.v (.bool false))) (.br (decide ((os.length:Int)>8)) (.ok (.v (.bool false))) (.br (decide ((ks.length:Int)>32)) (.ok (.v (.bool false))) (.br (decide ((gs.length:Int)>16)) (.ok (.v (.bool false))) (.br (decide ((bs.length:Int)>24)) (.ok (.v (.bool false))) (.req (((cs.length:Int)≤100∧(os.length:Int)≤100∧(ks.length:Int)≤100∧(gs.length:Int)≤100∧(bs.length:Int)≤100)∧Qd (gG cs os ks gs bs)) (.br (!(nmB (gG cs os ks gs bs))) (.ok (.v (.bool false))) (.req (aJq (⟨false,(0:Int),cs,os,ks,gs,bs⟩:jW)) (.br (iV (ah5 (⟨false,(0:Int),cs,os,ks,gs,bs⟩:jW)) (.ret)) (.ok (.v (.bool b.r))) (.req (aJp (⟨b.r,(0:Int),cs,os,ks,gs,bs⟩:jV)) (.br (iV (ah4 (⟨b.r,(0:Int),cs,os,ks,gs,bs⟩:jV)) (.ret)) (.ok (.v (.bool a.r))) (.req (aJo (⟨a.r,(0:Int),cs,os,ks,gs,bs⟩:oz)) (.br (iV (ah3 (⟨a.r,(0:Int),cs,os,ks,gs,bs⟩:oz)) (.ret)) (.ok (.v (.bool c.r))) (.req (aJn (⟨c.r,(0:Int),cs,os,ks,gs,bs⟩:qU)) (.br (iV (ah2 (⟨c.r,(0:Int),cs,os,ks,gs,bs⟩:qU)) (.ret)) (.ok (.v (.bool (afX (⟨c.r,(0:Int),cs,os,ks,gs,bs⟩:qU)).r))) (.ok (.v (.bool true))))))))))))))))):=by kernel_rfl
theorem al9:Valid Tryz.prog aP 49 Ox:=aI Tryz.func49 rfl QW aA (L:=(λi=>if i=4 then IY.lp else if i=9 then IX.lp else if i=20 then IW.lp else if i=26 then IV.lp else ay i)) (λb hb=>by
 rw [show ax _=[Es,NY,Ep,Eo] by kernel_rfl] at hb
 simp only [List.mem_cons,List.not_mem_nil,or_false] at hb;rcases hb with rfl|rfl|rfl|rfl
 ·exact avs
 ·exact avr
 ·exact avq
 ·exact avp) (λargs lv h=>by
 unfold ai3 at h;split at h
 ·simp only [canL,canX]
  rw [axO];rename_i cs os ks gs bs;obtain ⟨hn,rfl⟩:=h
  have bad:¬(1≤cs.length∧cs.length≤16∧os.length≤8∧ks.length≤32∧gs.length≤16∧bs.length≤24)→LV.v (.bool false)=LV.v (.bool (fH cs os ks gs bs)):=λhd=>congrArg (λz=>LV.v (.bool z)) (by
   rw [eq_comm,Bool.eq_false_iff];intro hx;exact hd (fK.1 hx).1)
  refine ⟨λc=>bad (by simp only [Bool.not_eq_true',aqz] at c;omega),λc=>⟨λc2=>bad (by simp at c2;omega),λc2=>⟨λc3=>bad (by simp at c3;omega),λc3=>⟨λc4=>bad (by simp at c4;omega),λc4=>⟨λc5=>bad (by simp at c5;omega),λc5=>?_⟩⟩⟩⟩⟩
  have hd:1≤cs.length∧cs.length≤16∧os.length≤8∧ks.length≤32∧gs.length≤16∧bs.length≤24:=by
   simp only [Bool.not_eq_false',dV,decide_eq_false_iff_not] at c c2 c3 c4 c5;omega
  rw [amK hd];refine ⟨⟨by omega,hn⟩,λc6=>?_,λc6=>?_⟩
  ·have c6:nmB (gG cs os ks gs bs)=false:=by simpa using c6
   rw [c6];exact rfl
  have c6:nmB (gG cs os ks gs bs)=true:=by simpa using c6
  rw [c6,Bool.true_and];refine lK ⟨⟨rfl,by simp only;omega,by simp only;omega,trivial⟩,rfl,rfl⟩ (λhE0=>?_)
  obtain ⟨s',_,hq⟩:=awI _ hE0.1;rcases hq with ⟨q1,q2⟩ |⟨q1,q2,j,q3,q4⟩
  rotate_left
  ·rw [q1,q2]
   refine ⟨λ_=>congrArg (λz=>LV.v (.bool z)) ?_,λh=>by cases h⟩
   unfold vpB;rw [vN (n:=cs.length) (f:=λj=>IB j (iw cs j)) j q3 q4]
   rfl
  rw [q1];refine ⟨λh=>(by cases h),λ_=>?_⟩
  have g0:Gi cs.length (λj=>IB j (iw cs j))=true:=gm.2 q2
  refine lK ⟨⟨rfl,by simp only;omega,by simp only;omega⟩,rfl,rfl⟩ (λhE1=>?_)
  obtain ⟨s',_,hq⟩:=awH _ hE1.1;rcases hq with ⟨q1,q2⟩ |⟨q1,q2,j,q3,q4⟩
  rotate_left
  ·rw [q1,q2]
   refine ⟨λ_=>congrArg (λz=>LV.v (.bool z)) ?_,λh=>by cases h⟩
   unfold vpB
   have hn:(ks.all (koV os.length)&&once (ks.map (·.2.2.2)))=false:=by
    rw [Bool.eq_false_iff];intro hx
    have:=(nC (d:=(emp,0,0,0))).2 hx j q3
    exact Bool.noConfusion (this.symm.trans q4)
   rw [g0,Bool.true_and,←Bool.and_assoc,hn];rfl
  rw [q1];refine ⟨λh=>(by cases h),λ_=>?_⟩
  have g1:(ks.all (koV os.length)&&once (ks.map (·.2.2.2)))=true:=(nC (d:=(emp,0,0,0))).1 q2
  refine lK ⟨⟨rfl,by simp only;omega,by simp only;omega,by simp only;omega,by simp only;omega⟩,rfl,rfl⟩ (λhE2=>?_)
  obtain ⟨s',_,hq⟩:=awG _ hE2.1;rcases hq with ⟨q1,q2⟩ |⟨q1,q2,j,q3,q4⟩
  rotate_left
  ·rw [q1,q2]
   refine ⟨λ_=>congrArg (λz=>LV.v (.bool z)) ?_,λh=>by cases h⟩
   unfold vpB
   have hn:gs.all (JZ cs.length os.length)=false:=by
    rw [Bool.eq_false_iff];intro hx
    have:=(jm (d:=(emp,0,0,0,0,0,0,0))).2 hx j q3
    exact Bool.noConfusion (this.symm.trans q4)
   rw [g0,Bool.true_and,←Bool.and_assoc,g1,hn];rfl
  rw [q1];refine ⟨λh=>(by cases h),λ_=>?_⟩
  have g2:gs.all (JZ cs.length os.length)=true:=(jm (d:=(emp,0,0,0,0,0,0,0))).1 q2
  have hw:=aH (x:=(gs.length:Int)-1)
  refine lK ⟨⟨rfl,by simp only;omega,by simp only;omega,trivial⟩,rfl,rfl⟩ (λhE3=>?_)
  obtain ⟨s',_,hq⟩:=awF _ hE3.1;rcases hq with ⟨q1,q2⟩ |⟨q1,q2,j,q3,q4⟩
  rotate_left
  ·rw [q1,q2]
   refine ⟨λ_=>congrArg (λz=>LV.v (.bool z)) ?_,λh=>by cases h⟩
   unfold vpB
   have hn:bs.all (λb=>inB b.2 0 ((gs.length:Int)-1))=false:=by
    rw [Bool.eq_false_iff];intro hx
    have:=(jm (d:=(emp,0))).2 hx j q3
    have q4:inB (Gj bs j).2 0 (aSe ((gs.length:Int)-1))=false:=q4
    rw [hw] at q4;exact Bool.noConfusion (this.symm.trans q4)
   rw [g0,Bool.true_and,←Bool.and_assoc,g1,g2,hn];rfl
  rw [q1];refine ⟨λh=>(by cases h),λ_=>?_⟩
  have g3:bs.all (λb=>inB b.2 0 ((gs.length:Int)-1))=true:=(jm (d:=(emp,0))).1 (λj hj=>by
   have:inB (Gj bs j).2 0 (aSe ((gs.length:Int)-1))=true:=q2 j hj
   rw [hw] at this;exact this)
  refine congrArg (λz=>LV.v (.bool z)) ?_
  unfold vpB;rw [g0,Bool.true_and,←Bool.and_assoc,g1,g2,g3];rfl
 ·cases h)
def asL:List LV→T LV
 | [.v (.agg ⟨[.int .i64 am,.int .i64 mo,.int .i64 ga,.int .i64 lo,.int .i64 de]⟩)]=> .ok (.v (.bool (J3 (am,mo,ga,lo,de))))
 |_=> .no
def asu:List LV→T LV:=gZ Tryz.prog Tryz.f157.params.toList asL
def Nw:Specs:=aW []
theorem QV:∀g S,Nw g=some S→Valid Tryz.prog aP g S:=aS (l:=[]) trivial
theorem aHs (am mo ga lo de:Int):cO Tryz.prog aP (Nw) dR ay Tryz.f157 [.v (.agg #[.int .i64 am,.int .i64 mo,.int .i64 ga,.int .i64 lo,.int .i64 de])]=.ok (.v (.bool (((am==0)&&((mo==0)&&((ga==0)&&((lo==0)&&(de==0))))) ||((decide (am≥0))&&((decide (am<mo))&&((decide (mo≤200000))&&((decide (ga≥0))&&((decide (ga≤1000))&&((decide (lo≥0))&&((decide (lo≤1000))&&((decide (de≥1))&&(decide (de≤1000000))))))))))))):=by kernel_rfl
theorem aKX:Valid Tryz.prog aP 157 asu:=aI Tryz.func157 rfl QV aA (bf (by kernel_rfl)) (λargs lv h=>by
 unfold asL at h;split at h
 ·simp only [canL,canX]
  rw [aHs];rename_i am mo ga lo de;obtain rfl:=h;refine congrArg (λz=>LV.v (.bool z)) ?_
  unfold J3 cbZ;simp only
  congr 1
  rw [Bool.eq_iff_iff];simp only [Bool.and_eq_true,dV,decide_eq_true_eq];omega
 ·cases h)
structure uI where
 i:Int
 am:Int
 mo:Int
 ga:Int
 lo:Int
 de:Int
def aQn (s:uI):List LV:=[.own 0 0,.v (.int .i64 s.i)]
def aO5 (s:uI):List aZ:=[⟨[.v (.int .i64 s.am),.v (.int .i64 s.mo),.v (.int .i64 s.ga),.v (.int .i64 s.lo),.v (.int .i64 s.de)],103,.cl,false⟩]
def EU:Code:=((ax (Tryz.f141.body.getD .skip))[0]?).getD .skip
def afr (s:uI):T (Rd uI):=
 .br ((decide (s.i<1000))&&(decide ((aSe ((aSe (s.ga*(aSe (s.i+1))))*(aSe (s.i+1))))≤(aSe ((if s.de<s.lo then s.de else s.lo)*(aSe (s.mo-s.am))))))) (.ok (.next {s with i:=(aSe (s.i+1))})) (.ok (.stop (.exit 0) s))
abbrev aCI (s:uI):=(afr s).rd s
def auB (s:uI):Prop:=s.i=0∧(0≤s.am∧s.am<s.mo∧s.mo≤200000)∧(0≤s.ga∧s.ga≤1000)∧(0≤s.lo∧s.lo≤1000)∧1≤s.de∧s.de≤1000000
def SH (s:uI):Prop:=(0≤s.i∧s.i≤1000)∧s.ga*s.i*s.i≤((if s.de<s.lo then s.de else s.lo)*(s.mo-s.am))∧(0≤s.am∧s.am<s.mo∧s.mo≤200000)∧(0≤s.ga∧s.ga≤1000)∧(0≤s.lo∧s.lo≤1000)∧1≤s.de∧s.de≤1000000
def Vg (s:uI):Nat:=(1000-s.i).toNat
def atq (x:Ex) (_ s':uI):Prop:=x=.exit 0∧s'.i=prm s'.ga ((if s'.de<s'.lo then s'.de else s'.lo)*(s'.mo-s'.am))
theorem aMt:∀s,auB s→SH s:=by
 intro s h;obtain ⟨h0,h1,h2,h3,h4,h5⟩:=h;refine ⟨by omega,?_,h1,h2,h3,h4,h5⟩
 rw [h0]
 have:0≤(if s.de<s.lo then s.de else s.lo)*(s.mo-s.am):=Int.mul_nonneg (by split<;>omega) (by omega)
 simpa using this
theorem aG3 (s:uI) (hI:SH s):bJ (λs'=>SH s'∧Vg s'<Vg s) (λx s'=>atq x s s') (aCI s):=by
 unfold aCI afr;dsimp only [T.rd,T.rl];obtain ⟨⟨h0,h1⟩,h2,h3,⟨h4,h5⟩,h6,h7,h8⟩:=hI
 have hm:0≤(if s.de<s.lo then s.de else s.lo)∧(if s.de<s.lo then s.de else s.lo)≤1000:=by split<;>omega
 have em:aSe ((if s.de<s.lo then s.de else s.lo)*(aSe (s.mo-s.am)))=((if s.de<s.lo then s.de else s.lo)*(s.mo-s.am)):=by
  rw [aH (x:=s.mo-s.am)]
  have a1:0≤(if s.de<s.lo then s.de else s.lo)*(s.mo-s.am):=Int.mul_nonneg hm.1 (by omega)
  have a2:(if s.de<s.lo then s.de else s.lo)*(s.mo-s.am)≤1000*(s.mo-s.am):=Int.mul_le_mul_of_nonneg_right hm.2 (by omega)
  rw [aH]
 rw [em];generalize hRO:((if s.de<s.lo then s.de else s.lo)*(s.mo-s.am))=ro at h2⊢
 rw [aH (x:=s.i+1)];refine ai (λc1=>?_) (λc1=>?_)
 ·rw [Bool.and_eq_true,decide_eq_true_eq,decide_eq_true_eq] at c1
  obtain ⟨c1,c2⟩:=c1;obtain ⟨⟨b1,b2⟩,b3,b4⟩:=amD h4 h5 (m:=s.i+1) (by omega) (by omega)
  rw [aH (x:=s.ga*(s.i+1)),aH (x:=s.ga*(s.i+1)*(s.i+1))] at c2;refine ⟨⟨⟨by simp only;omega,by simp only;omega⟩,?_,h3,⟨h4,h5⟩,h6,h7,h8⟩,by simp only [Vg];omega⟩
  show s.ga*(s.i+1)*(s.i+1)≤((if s.de<s.lo then s.de else s.lo)*(s.mo-s.am))
  rw [hRO];exact c2
 ·refine ⟨rfl,?_⟩
  show s.i=prm s.ga ((if s.de<s.lo then s.de else s.lo)*(s.mo-s.am))
  rw [hRO];refine (Uu (k:=1000) h0 (by omega) (.inr h2) (λa ha hk=>?_)).symm
  obtain ⟨⟨b1,b2⟩,b3,b4⟩:=amD h4 h5 (m:=s.i+1) (by omega) (by omega)
  rw [aH (x:=s.ga*(s.i+1)),aH (x:=s.ga*(s.i+1)*(s.i+1)),decide_eq_true (show s.i<1000 by omega),Bool.true_and,decide_eq_false_iff_not] at c1
  have:=afP h4 (a:=s.i+1) (b:=a) (by omega) (by omega)
  omega
def Jr:bK uI:=⟨0,38,[1,4],[],aQn,aO5,λv b=>⟨gI (v.getD 1 .junk),gI (bn (aT b 0) 0),gI (bn (aT b 0) 1),gI (bn (aT b 0) 2),gI (bn (aT b 0) 3),gI (bn (aT b 0) 4)⟩,afr,λs r=> {r with am:=s.am,mo:=s.mo,ga:=s.ga,lo:=s.lo,de:=s.de},λs=>s,λ_ s=>s,[.exit 0],auB,SH,Vg⟩
abbrev af9:=Jr.run
abbrev azR:=Jr.jf
abbrev aJT:=Jr.q
theorem aFX (s:uI) (_:SH s):(afr s).all (λ_=>True):=by
 exact ⟨λ_=>trivial,λ_=>trivial⟩
def arz:Specs:=aW [(157,asu)]
theorem aBX:∀g S,arz g=some S→Valid Tryz.prog aP g S:=aS (l:=[(157,asu)]) ⟨aKX,trivial⟩
theorem apg:Jr.Ok:={}
theorem an1:Jr.Pf (atq):=⟨aMt,λ_ _=>rfl,aG3,aFX⟩
theorem avW:bC Tryz.prog aP (AN 0) (.loop EU) Jr.lp:=bK.snd apg an1 (aQ (Γ:=arz) (K:=dR) (L:=ay) aBX aA EU (λb hb=>by rw [show ax EU=[] by kernel_rfl] at hb;cases hb)) (λs=>by kernel_rfl)
theorem axg (s:uI) (hE:auB s):∃s',SH s'∧atq (azR s) s' (af9 s):=bK.fin apg an1 s hE
def ajo:List LV→T LV
 | [.v (.agg ⟨[.int .i64 am,.int .i64 mo,.int .i64 ga,.int .i64 lo,.int .i64 de]⟩)]=> .ok (.v (.tuple #[.int .i64 (BN (am,mo,ga,lo,de)),.int .i64 (pmE (am,mo,ga,lo,de))]))
 |_=> .no
def ad3:List LV→T LV:=gZ Tryz.prog Tryz.f141.params.toList ajo
theorem ax9 (am mo ga lo de:Int):cO Tryz.prog aP (arz) dR (λi=>if i=6 then Jr.lp else ay i) Tryz.f141 [.v (.agg #[.int .i64 am,.int .i64 mo,.int .i64 ga,.int .i64 lo,.int .i64 de])]=.br (!(J3 (am,mo,ga,lo,de))) (.ok (.v (.tuple #[.int .i64 0,.int .i64 1]))) (.br ((am==0)&&((mo==0)&&((ga==0)&&((lo==0)&&(de==0))))) (.ok (.v (.tuple #[.int .i64 1000,.int .i64 0]))) (.req (aJT (⟨(0:Int),am,mo,ga,lo,de⟩:uI)) (.ok (.v (.tuple #[.int .i64 (af9 (⟨(0:Int),am,mo,ga,lo,de⟩:uI)).i,.int .i64 0]))))):=by kernel_rfl
theorem aD1:Valid Tryz.prog aP 141 ad3:=aI Tryz.func141 rfl aBX aA (L:=(λi=>if i=6 then Jr.lp else ay i)) (λb hb=>by
 rw [show ax _=[EU] by kernel_rfl] at hb
 simp only [List.mem_cons,List.not_mem_nil,or_false] at hb;subst hb;exact avW) (λargs lv h=>by
 unfold ajo at h;split at h
 ·simp only [canL,canX]
  rw [ax9];rename_i am mo ga lo de;obtain rfl:=h;refine ⟨λc=>?_,λc=>⟨λc2=>?_,λc2=>?_⟩⟩
  ·have c:J3 (am,mo,ga,lo,de)=false:=by simpa using c
   simp [T.all,BN,pmE,c]
  ·have c:J3 (am,mo,ga,lo,de)=true:=by simpa using c
   have c2:cbZ (am,mo,ga,lo,de)=true:=c2
   simp [T.all,BN,pmE,c,c2]
  ·have c:J3 (am,mo,ga,lo,de)=true:=by simpa using c
   have c2:cbZ (am,mo,ga,lo,de)=false:=c2
   obtain ⟨⟨h1,h2,h3⟩,⟨h4,h5⟩,⟨h6,h7⟩,h8,h9⟩:=ar7 c c2;refine lK ⟨⟨rfl,⟨h1,h2,h3⟩,⟨h4,h5⟩,⟨h6,h7⟩,h8,h9⟩,rfl,rfl⟩ (λhE=>?_)
   obtain ⟨s',_,q1,q2⟩:=axg _ hE.1
   have e:BN (am,mo,ga,lo,de)=prm ga ((if de<lo then de else lo)*(mo-am)):=by
    unfold BN;rw [if_pos c,if_neg (by rw [c2];simp)]
   have e2:pmE (am,mo,ga,lo,de)=0:=by
    unfold pmE;rw [if_pos c]
   rw [e,e2,q2];exact rfl
 ·cases h)
def ajk:List LV→T LV
 | [.v (.agg ⟨[.string nm,.int .i64 up_,.int .i64 li,.int .i64 ne,.int .i64 ra,.int .i64 he,.int .i64 am,.int .i64 mo,.int .i64 ga,.int .i64 lo,.int .i64 de]⟩)]=> .ok (.v (.int .i64 (dS (nm,up_,li,ne,(ra,he),am,mo,ga,lo,de))))
 |_=> .no
def adY:List LV→T LV:=gZ Tryz.prog Tryz.f116.params.toList ajk
def aCh:Specs:=aW [(141,ad3)]
theorem aNr:∀g S,aCh g=some S→Valid Tryz.prog aP g S:=aS (l:=[(141,ad3)]) ⟨aD1,trivial⟩
theorem ax5 (nm:ByteArray) (up_ li ne ra he am mo ga lo de:Int):letI a:=(am,mo,ga,lo,de);cO Tryz.prog aP (aCh) dR ay Tryz.f116 [.v (.agg #[.string nm,.int .i64 up_,.int .i64 li,.int .i64 ne,.int .i64 ra,.int .i64 he,.int .i64 am,.int .i64 mo,.int .i64 ga,.int .i64 lo,.int .i64 de])]=.br (ra !=0) (.ok (.v (.int .i64 (if ra<(if ne<(if li<(BN a) then li else BN a) then ne else if li<(BN a) then li else BN a) then ra else if ne<(if li<(BN a) then li else BN a) then ne else if li<(BN a) then li else BN a)))) (.ok (.v (.int .i64 (if ne<(if li<(BN a) then li else BN a) then ne else if li<(BN a) then li else BN a)))):=by kernel_rfl
theorem aDX:Valid Tryz.prog aP 116 adY:=aI Tryz.func116 rfl aNr aA (bf (by kernel_rfl)) (λargs lv h=>by
 unfold ajk at h;split at h
 ·simp only [canL,canX]
  rw [ax5];rename_i nm up_ li ne ra he am mo ga lo de;obtain rfl:=h;unfold dS lsF;simp only [List.foldl];generalize BN (am,mo,ga,lo,de)=w;refine ⟨λc=>?_,λc=>?_⟩
  ·have c:¬ra=0:=by simpa using c
   rw [if_neg c];refine congrArg (λz=>LV.v (.int .i64 z)) ?_
   repeat' split
   all_goals omega
  ·have c:ra=0:=by simpa using c
   rw [if_pos c];refine congrArg (λz=>LV.v (.int .i64 z)) ?_
   repeat' split
   all_goals omega
 ·cases h)
structure pG where
 o:Int
 c:Int
 r:Bool
 cs:List Cd
 os:List ByteArray
 ks:List Ko
 gs:List Ch
 bs:List Ba
def aQl (s:pG):List LV:=[.v (.int .i64 s.o),.v (.int .i64 s.c),.own 0 0,.v (.bool s.r)]
def aO3 (s:pG):List aZ:=[⟨[.xl dY s.cs,.xl .str s.os,.xl fC s.ks,.xl dP s.gs,.xl fD s.bs],28,.cl,false⟩]
def ES:Code:=((ax (Tryz.f117.body.getD .skip))[0]?).getD .skip
def XO (s:pG):T (Rd pG):=
 .br (decide (s.c≥0)) (.br (s.c==s.o) (.ok (.stop (.ret) {s with r:=true})) (.req (0≤s.c∧s.c<(s.cs.length:Int)) (.ok (.next {s with c:=(iw s.cs s.c).2.1})))) (.ok (.stop (.exit 0) s))
abbrev ahF (s:pG):=(XO s).rd s
def auz (s:pG):Prop:=upB s.cs=true∧s.c<(s.cs.length:Int)
def aax (s:pG):Prop:=upB s.cs=true∧s.c<(s.cs.length:Int)
def Ve (s:pG):Nat:=(s.c+1).toNat
def aDl (_:Ex) (_ _:pG):Prop:=True
theorem aMr:∀s,auz s→aax s:=by
 intro s h;exact h
theorem aG1 (s:pG) (hI:aax s):bJ (λs'=>aax s'∧Ve s'<Ve s) (λx s'=>aDl x s s') (ahF s):=by
 unfold ahF XO;dsimp only [T.rd,T.rl];obtain ⟨h1,h2⟩:=hI;refine ai (λc1=>ai (λc2=>trivial) (λc2=>?_)) (λc1=>trivial)
 have c1:0≤s.c:=by simpa using c1
 have:=TU h1 c1 h2
 exact ⟨⟨h1,by simp only;omega⟩,by simp only [Ve];omega⟩
def Jp:bK pG:=⟨0,18,[1,2,3,6],[],aQl,aO3,λv b=>⟨gI (v.getD 0 .junk),gI (v.getD 1 .junk),vW (v.getD 3 .junk),aU dY (bn (aT b 0) 0),aU .str (bn (aT b 0) 1),aU fC (bn (aT b 0) 2),aU dP (bn (aT b 0) 3),aU fD (bn (aT b 0) 4)⟩,XO,λs r=> {r with o:=s.o,cs:=s.cs,os:=s.os,ks:=s.ks,gs:=s.gs,bs:=s.bs},λs=>s,λ_ s=>s,[.ret,.exit 0],auz,aax,Ve⟩
abbrev af7:=Jp.run
abbrev aie:=Jp.jf
abbrev aJR:=Jp.q
theorem aFV (s:pG) (hI:aax s):(XO s).all (λ_=>True):=by
 refine ⟨λc1=>⟨λ_=>trivial,λc2=>⟨?_,trivial⟩⟩,λ_=>trivial⟩
 ·(obtain ⟨h1,h2⟩:=hI;simp at c1;exact ⟨c1,h2⟩)
theorem ape:Jp.Ok:={}
theorem anZ:Jp.Pf (aDl):=⟨aMr,λ_ _=>rfl,aG1,aFV⟩
theorem avU:bC Tryz.prog aP (AN 0) (.loop ES) Jp.lp:=bK.snd ape anZ (aQ (Γ:=Nw) (K:=dR) (L:=ay) QV aA ES (λb hb=>by rw [show ax ES=[] by kernel_rfl] at hb;cases hb)) (λs=>by kernel_rfl)
theorem axe (s:pG) (hE:auz s):(λ(x:Ex) (s':pG) (v:Bool)=>(x=.ret∧s'.r=true∧v=true)∨(x=.exit 0∧v=false)) (aie s) (af7 s) ((λs:pG=>Kw s.cs s.o s.c) s):=by
 exact bK.mD ape anZ (λs:pG=>Kw s.cs s.o s.c) (λx s' v=>(x=.ret∧s'.r=true∧v=true)∨(x=.exit 0∧v=false)) (λs hI=>by
  show bJ _ _ (ahF s)
  unfold ahF XO;dsimp only [T.rd,T.rl];obtain ⟨h1,h2⟩:=hI
  have hp:=abU (o:=s.o) h1 h2
  refine ai (λc1=>ai (λc2=>?_) (λc2=>?_)) (λc1=>?_)
  ·have c1:0≤s.c:=by simpa using c1
   exact .inl ⟨rfl,rfl,by rw [hp,if_pos c1,c2];rfl⟩
  ·have c1:0≤s.c:=by simpa using c1
   show Kw _ _ _=Kw _ _ _
   rw [hp,if_pos c1,c2,Bool.false_or]
  ·have c1:¬(0≤s.c):=by simpa using c1
   exact .inr ⟨rfl,by rw [hp,if_neg c1]⟩) s hE
def ajm:List LV→T LV
 | [.agg [.xl (.pair .str (.pair (.int .i64) (.pair (.int .i64) (.pair (.int .i64) (.pair (.pair (.int .i64) (.int .i64)) (.pair (.int .i64) (.pair (.int .i64) (.pair (.int .i64) (.pair (.int .i64) (.int .i64)))))))))) cs,.xl (.str) _,.xl (.pair .str (.pair (.int .i64) (.pair (.int .i64) (.int .i64)))) _,.xl (.pair .str (.pair (.int .i64) (.pair (.int .i64) (.pair (.int .i64) (.pair (.int .i64) (.pair (.int .i64) (.pair (.int .i64) (.int .i64)))))))) _,.xl (.pair .str (.int .i64)) _],.v (.int .i64 o),.v (.int .i64 c)]=> .req (upB cs=true∧c<(cs.length:Int)) (.ok (.v (.bool (Kw cs o c))))
 |_=> .no
def ad1:List LV→T LV:=gZ Tryz.prog Tryz.f117.params.toList ajm
theorem ax7 (cs:List Cd) (os:List ByteArray) (ks:List Ko) (gs:List Ch) (bs:List Ba) (o c:Int):cO Tryz.prog aP (Nw) dR (λi=>if i=1 then Jp.lp else ay i) Tryz.f117 [.agg [.xl dY cs,.xl .str os,.xl fC ks,.xl dP gs,.xl fD bs],.v (.int .i64 o),.v (.int .i64 c)]=.req (aJR (⟨o,c,false,cs,os,ks,gs,bs⟩:pG)) (.br (iV (aie (⟨o,c,false,cs,os,ks,gs,bs⟩:pG)) (.ret)) (.ok (.v (.bool (af7 (⟨o,c,false,cs,os,ks,gs,bs⟩:pG)).r))) (.ok (.v (.bool false)))):=by kernel_rfl
theorem aDZ:Valid Tryz.prog aP 117 ad1:=aI Tryz.func117 rfl QV aA (L:=(λi=>if i=1 then Jp.lp else ay i)) (λb hb=>by
 rw [show ax _=[ES] by kernel_rfl] at hb
 simp only [List.mem_cons,List.not_mem_nil,or_false] at hb;subst hb;exact avU) (λargs lv h=>by
 unfold ajm at h;split at h
 ·simp only [canL,canX]
  rw [ax7];obtain ⟨⟨hu,hc⟩,rfl⟩:=h;refine lK ⟨⟨hu,hc⟩,rfl,rfl⟩ (λhE=>?_)
  rcases axe _ hE.1 with ⟨h1,h2,h3⟩ |⟨h1,h2⟩
  ·rw [h1,h2]
   exact ⟨λ_=>congrArg (λz=>LV.v (.bool z)) h3.symm,λh=>by cases h⟩
  ·rw [h1]
   exact ⟨λh=>(by cases h),λ_=>congrArg (λz=>LV.v (.bool z)) h2.symm⟩
 ·cases h)
def ajl:List LV→T LV
 | [.v (.agg ⟨[.string _,.int .i64 _,.int .i64 ph,.int .i64 _,.int .i64 _,.int .i64 _,.int .i64 _,.int .i64 _]⟩),.v (.int .i64 p)]=> .ok (.v (.bool (usR ph p)))
 |_=> .no
def adZ:List LV→T LV:=gZ Tryz.prog Tryz.f118.params.toList ajl
theorem ax6 (nm:ByteArray) (at_ ph mi ma st fb ow p:Int):cO Tryz.prog aP (Nw) dR ay Tryz.f118 [.v (.agg #[.string nm,.int .i64 at_,.int .i64 ph,.int .i64 mi,.int .i64 ma,.int .i64 st,.int .i64 fb,.int .i64 ow]),.v (.int .i64 p)]=.br (p==0) (.req ((2:Int)≠0) (.ok (.v (.bool ((ph.tmod 2)==1))))) (.br (p==1) (.req ((2:Int)≠0) (.req ((2:Int)≠0) (.ok (.v (.bool (((aSe (ph.tdiv 2)).tmod 2)==1)))))) (.req ((4:Int)≠0) (.req ((2:Int)≠0) (.ok (.v (.bool (((aSe (ph.tdiv 4)).tmod 2)==1))))))):=by kernel_rfl
theorem aDY:Valid Tryz.prog aP 118 adZ:=aI Tryz.func118 rfl QV aA (bf (by kernel_rfl)) (λargs lv h=>by
 unfold ajl at h;split at h
 ·simp only [canL,canX]
  rw [ax6];rename_i ph _ _ _ _ _ p;obtain rfl:=h;unfold usR;refine ⟨λc=>⟨by decide,?_⟩,λc=>⟨λc2=>⟨by decide,by decide,?_⟩,λc2=>⟨by decide,by decide,?_⟩⟩⟩
  ·rw [if_pos (by simpa using c)];exact rfl
  ·rw [if_neg (by simpa using c),if_pos (by simpa using c2)];exact rfl
  ·rw [if_neg (by simpa using c),if_neg (by simpa using c2)];exact rfl
 ·cases h)
structure ru where
 l:List Int
 r:Bool
 i:Int
 aj:List Cd
 aF:List ByteArray
 ak:List Ko
 af:List Ch
 aN:List Ba
def aQm (s:ru):List LV:=[.xl aSg s.l,.own 0 0,.v (.bool s.r),.v (.int .i64 s.i)]
def aO4 (s:ru):List aZ:=[⟨[.xl dY s.aj,.xl .str s.aF,.xl fC s.ak,.xl dP s.af,.xl fD s.aN],28,.cl,false⟩]
def ET:Code:=((ax (Tryz.f81.body.getD .skip))[0]?).getD .skip
def afq (s:ru):T (Rd ru):=
 .br (decide (s.i<(s.l.length:Int))) (.req (0≤s.i∧s.i<(s.l.length:Int)) (.br (decide ((gi s.l s.i)<0)) (.ok (.stop (.ret) {s with r:=false})) (.req (0≤s.i∧s.i<(s.l.length:Int)) (.br (decide ((gi s.l s.i)>80)) (.ok (.stop (.ret) {s with r:=false})) (.ok (.next {s with i:=(aSe (s.i+1))})))))) (.ok (.stop (.exit 0) s))
abbrev aCH (s:ru):=(afq s).rd s
def F8 (s:ru) (j:Int):Bool:=pV (gi s.l j)
def auA (s:ru):Prop:=s.i=0∧0≤(s.l.length:Int)∧(s.l.length:Int)≤1000∧True
def SG (s:ru):Prop:=0≤s.i∧s.i≤(s.l.length:Int)∧(s.l.length:Int)≤1000∧(True)∧∀j:Nat,(j:Int)<s.i→F8 s j=true
def Vf (s:ru):Nat:=((s.l.length:Int)-s.i).toNat
def atp (x:Ex) (_ s':ru):Prop:=(x=.exit 0∧∀j:Nat,(j:Int)<(s'.l.length:Int)→F8 s' j=true)∨(x=.ret∧s'.r=false∧∃j:Nat,(j:Int)<(s'.l.length:Int)∧F8 s' j=false)
theorem aMs:∀s,auA s→SG s:=by
 intro s h;obtain ⟨h0,h1,h2,h3⟩:=h;exact ⟨by omega,by omega,h2,h3,λj hj=>by omega⟩
theorem aG2 (s:ru) (hI:SG s):bJ (λs'=>SG s'∧Vf s'<Vf s) (λx s'=>atp x s s') (aCH s):=by
 unfold aCH afq;dsimp only [T.rd,T.rl];obtain ⟨h0,h1,h2,h3,h4⟩:=hI;refine ai (λc1=>ai (λc2=>?_) (λc2=>ai (λc3=>?_) (λc3=>?_))) (λc1=>?_)
 ·have c1:s.i<(s.l.length:Int):=by simpa using c1
  refine .inr ⟨rfl,rfl,s.i.toNat,by simp only;omega,?_⟩
  rw [Int.toNat_of_nonneg (by omega)]
  have hg:F8 s s.i=false:=by unfold F8;(unfold pV;simp only [decide_eq_true_eq] at*;first|(rw [Bool.and_eq_true,decide_eq_true_eq,decide_eq_true_eq];omega) |(rw [Bool.and_eq_false_iff,decide_eq_false_iff_not,decide_eq_false_iff_not];omega))
  exact hg
 ·have c1:s.i<(s.l.length:Int):=by simpa using c1
  refine .inr ⟨rfl,rfl,s.i.toNat,by simp only;omega,?_⟩
  rw [Int.toNat_of_nonneg (by omega)]
  have hg:F8 s s.i=false:=by unfold F8;(unfold pV;simp only [decide_eq_true_eq,decide_eq_false_iff_not] at*;first|(rw [Bool.and_eq_true,decide_eq_true_eq,decide_eq_true_eq];omega) |(rw [Bool.and_eq_false_iff,decide_eq_false_iff_not,decide_eq_false_iff_not];omega))
  exact hg
 ·have c1:s.i<(s.l.length:Int):=by simpa using c1
  have hg:F8 s s.i=true:=by unfold F8;(unfold pV;simp only [decide_eq_true_eq,decide_eq_false_iff_not] at*;first|(rw [Bool.and_eq_true,decide_eq_true_eq,decide_eq_true_eq];omega) |(rw [Bool.and_eq_false_iff,decide_eq_false_iff_not,decide_eq_false_iff_not];omega))
  rw [aH (x:=s.i+1)];refine ⟨⟨by simp only;omega,by simp only;omega,h2,h3,λj hj=>?_⟩,by simp only [Vf];omega⟩
  by_cases hji:(j:Int)<s.i
  ·exact h4 j hji
  ·have:(j:Int)=s.i:=by simp only at hj;omega
   rw [this];exact hg
 ·have c1:(s.l.length:Int)≤s.i:=by simpa using c1
  exact .inl ⟨rfl,λj hj=>h4 j (by omega)⟩
def Jq:bK ru:=⟨0,30,[1,2,4,5],[],aQm,aO4,λv b=>⟨aU aSg (v.getD 0 .junk),vW (v.getD 2 .junk),gI (v.getD 3 .junk),aU dY (bn (aT b 0) 0),aU .str (bn (aT b 0) 1),aU fC (bn (aT b 0) 2),aU dP (bn (aT b 0) 3),aU fD (bn (aT b 0) 4)⟩,afq,λs r=> {r with l:=s.l,aj:=s.aj,aF:=s.aF,ak:=s.ak,af:=s.af,aN:=s.aN},λs=>s,λ_ s=>s,[.ret,.exit 0],auA,SG,Vf⟩
abbrev af8:=Jq.run
abbrev aif:=Jq.jf
abbrev aJS:=Jq.q
theorem aFW (s:ru) (hI:SG s):(afq s).all (λ_=>True):=by
 refine ⟨λc1=>⟨?_,λ_=>trivial,λc2=>⟨?_,λ_=>trivial,λ_=>trivial⟩⟩,λ_=>trivial⟩
 all_goals ((obtain ⟨h0,h1,h2,h3,h4⟩:=hI;simp at c1;omega))
theorem apf:Jq.Ok:={}
theorem an0:Jq.Pf (atp):=⟨aMs,λ_ _=>rfl,aG2,aFW⟩
theorem avV:bC Tryz.prog aP (AN 0) (.loop ET) Jq.lp:=bK.snd apf an0 (aQ (Γ:=Nw) (K:=dR) (L:=ay) QV aA ET (λb hb=>by rw [show ax ET=[] by kernel_rfl] at hb;cases hb)) (λs=>by kernel_rfl)
theorem axf (s:ru) (hE:auA s):∃s',SG s'∧atp (aif s) s' (af8 s):=bK.fin apf an0 s hE
def ajn:List LV→T LV
 | [.agg [.xl (.pair .str (.pair (.int .i64) (.pair (.int .i64) (.pair (.int .i64) (.pair (.pair (.int .i64) (.int .i64)) (.pair (.int .i64) (.pair (.int .i64) (.pair (.int .i64) (.pair (.int .i64) (.int .i64)))))))))) _,.xl (.str) _,.xl (.pair .str (.pair (.int .i64) (.pair (.int .i64) (.int .i64)))) _,.xl (.pair .str (.pair (.int .i64) (.pair (.int .i64) (.pair (.int .i64) (.pair (.int .i64) (.pair (.int .i64) (.pair (.int .i64) (.int .i64)))))))) gs,.xl (.pair .str (.int .i64)) _],.xl (.int .i64) l]=> .req ((l.length:Int)≤1000) (.ok (.v (.bool (l.all pV&&((l.length:Int)==(gs.length:Int))))))
 |_=> .no
def ad2:List LV→T LV:=gZ Tryz.prog Tryz.f81.params.toList ajn
theorem ax8 (cs:List Cd) (os:List ByteArray) (ks:List Ko) (gs:List Ch) (bs:List Ba) (l:List Int):cO Tryz.prog aP (Nw) dR (λi=>if i=2 then Jq.lp else ay i) Tryz.f81 [.agg [.xl dY cs,.xl .str os,.xl fC ks,.xl dP gs,.xl fD bs],.xl aSg l]=.req (aJS (⟨l,false,(0:Int),cs,os,ks,gs,bs⟩:ru)) (.br (iV (aif (⟨l,false,(0:Int),cs,os,ks,gs,bs⟩:ru)) (.ret)) (.ok (.v (.bool (af8 (⟨l,false,(0:Int),cs,os,ks,gs,bs⟩:ru)).r))) (.ok (.v (.bool ((l.length:Int)==(gs.length:Int)))))):=by kernel_rfl
theorem aD0:Valid Tryz.prog aP 81 ad2:=aI Tryz.func81 rfl QV aA (L:=(λi=>if i=2 then Jq.lp else ay i)) (λb hb=>by
 rw [show ax _=[ET] by kernel_rfl] at hb
 simp only [List.mem_cons,List.not_mem_nil,or_false] at hb;subst hb;exact avV) (λargs lv h=>by
 unfold ajn at h;split at h
 ·simp only [canL,canX]
  rw [ax8];rename_i cs os ks gs bs l;obtain ⟨hl,rfl⟩:=h;refine lK ⟨⟨rfl,Int.natCast_nonneg _,hl,trivial⟩,rfl,rfl⟩ (λhE=>?_)
  obtain ⟨s',_,hq⟩:=axf _ hE.1;rcases hq with ⟨q1,q2⟩ |⟨q1,q2,j,q3,q4⟩
  ·have e:l.all pV=true:=(jm (d:=(0:Int))).1 λj hj=>q2 j hj
   rw [q1,e,Bool.true_and];exact ⟨λh=>(by cases h),λ_=>rfl⟩
  ·have e:l.all pV=false:=by
    rw [Bool.eq_false_iff];intro hx
    have:=(jm (d:=(0:Int))).2 hx j q3
    exact Bool.noConfusion (this.symm.trans q4)
   rw [q1,q2,e];exact ⟨λ_=>rfl,λh=>by cases h⟩
 ·cases h)
structure uH where
 i:Int
 p:Int
 k:Int
 cs:List Cd
 os:List ByteArray
 ks:List Ko
 gs:List Ch
 bs:List Ba
 out:List Rw
 Uo:Int
 mem:List Int
def aQi (s:uH):List LV:=[.own 0 0,.os 1 2 0 (s.out.length),.v (.int .i64 s.i),.v (.int .i64 s.p),.own 2 0,.v (.int .i64 s.k)]
def aO0 (s:uH):List aZ:=[⟨[.xl dY s.cs,.xl .str s.os,.xl fC s.ks,.xl dP s.gs,.xl fD s.bs],28,.cl,false⟩,⟨[],107,.vec wE s.out,false⟩,⟨[.v (.int .i64 s.Uo),.os 3 1 0 (s.mem.length)],107,.cl,false⟩,⟨[],3,.vec aSg s.mem,false⟩]
def ER:Code:=((ax (((ax (((ax (Tryz.f80.body.getD .skip))[0]?).getD .skip))[0]?).getD .skip))[0]?).getD .skip
def afo (s:uH):T (Rd uH):=
 .br (decide (s.k<(s.gs.length:Int))) (.req (0≤s.k∧s.k<(s.gs.length:Int)) (.req (upB s.cs=true∧(bG s.gs s.k).2.1<(s.cs.length:Int)) (.req (0≤s.k∧s.k<(s.gs.length:Int)) (.br ((Kw s.cs s.i (bG s.gs s.k).2.1)&&(usR (bG s.gs s.k).2.2.1 s.p)) (.req (0+(s.mem.length)=s.mem.length∧((s.mem.length+List.length ([s.k]):Nat):Int)*8≤2^47∧((s.mem.length+List.length ([s.k]):Nat):Int)<2^62) (.rl s.out (.req (0=0∧(s.mem.length+List.length ([s.k]))=List.length (s.mem++([s.k]))) (.ok (.next {s with k:=(aSe (s.k+1)),mem:=(s.mem++([s.k]))}))))) (.rl s.out (.rl s.mem (.ok (.next {s with k:=(aSe (s.k+1))})))))))) (.rl s.out (.rl s.mem (.ok (.stop (.exit 4) s))))
abbrev aCF (s:uH):=(afo s).rd s
def akx (s:uH):Prop:=s.k=0∧s.mem=[]∧fH s.cs s.os s.ks s.gs s.bs=true
def SE (s:uH):Prop:=(0≤s.k∧s.k≤(s.gs.length:Int))∧s.mem=VU s.cs s.gs s.i s.p s.k.toNat∧fH s.cs s.os s.ks s.gs s.bs=true
def MG (s:uH):Nat:=((s.gs.length:Int)-s.k).toNat
def atn (x:Ex) (_ s':uH):Prop:=x=.exit 4∧s'.mem=VU s'.cs s'.gs s'.i s'.p s'.gs.length
theorem aMn:∀s,akx s→SE s:=by
 intro s h;obtain ⟨h0,h1,h2⟩:=h;exact ⟨by omega,by rw [h0,h1];rfl,h2⟩
theorem aGY (s:uH) (hI:SE s):bJ (λs'=>SE s'∧MG s'<MG s) (λx s'=>atn x s s') (aCF s):=by
 unfold aCF afo;dsimp only [T.rd,T.rl];obtain ⟨⟨h0,h1⟩,h2,h3⟩:=hI
 have hl:=(fK.1 h3).1
 refine ai (λc1=>?_) (λc1=>?_)
 ·have c1:s.k<(s.gs.length:Int):=by simpa using c1
  have hs:=alh (cs:=s.cs) (gs:=s.gs) (o:=s.i) (p:=s.p) (k:=s.k.toNat)
  rw [show s.k.toNat+1=(s.k+1).toNat by omega,Int.toNat_of_nonneg h0] at hs
  rw [aH (x:=s.k+1)];refine ai (λc2=>?_) (λc2=>?_)
  ·refine ⟨⟨⟨by simp only;omega,by simp only;omega⟩,?_,h3⟩,by simp only [MG];omega⟩
   simp only;rw [hs,if_pos c2,h2]
  ·refine ⟨⟨⟨by simp only;omega,by simp only;omega⟩,?_,h3⟩,by simp only [MG];omega⟩
   simp only;rw [hs,if_neg (by rw [c2];simp),h2,List.append_nil]
 ·have c1:(s.gs.length:Int)≤s.k:=by simpa using c1
  exact ⟨rfl,by rw [h2,show s.k.toNat=s.gs.length by omega]⟩
def PO:bK uH:=⟨0,76,[1,5,6,7,8,9],[.ns 8 1 3 aSg],aQi,aO0,λv b=>⟨gI (v.getD 2 .junk),gI (v.getD 3 .junk),gI (v.getD 5 .junk),aU dY (bn (aT b 0) 0),aU .str (bn (aT b 0) 1),aU fC (bn (aT b 0) 2),aU dP (bn (aT b 0) 3),aU fD (bn (aT b 0) 4),iW wE (aT b 1),gI (bn (aT b 2) 0),iW aSg (aT b 3)⟩,afo,λs r=> {r with i:=s.i,p:=s.p,cs:=s.cs,os:=s.os,ks:=s.ks,gs:=s.gs,bs:=s.bs,out:=s.out,Uo:=s.Uo},λs=>s,λ_ s=>s,[.exit 4],akx,SE,MG⟩
abbrev jX:=PO.run
abbrev azO:=PO.jf
abbrev aJO:=PO.q
theorem aFS (s:uH) (hI:SE s):(afo s).all (λ_=>True):=by
 refine ⟨λc1=>⟨?_,?_,?_,λc2=>⟨?_,aSf,?_,trivial⟩,λc2=>⟨aSf,aSf,trivial⟩⟩,λc1=>⟨aSf,aSf,trivial⟩⟩
 ·(obtain ⟨⟨h0,h1⟩,h2,h3⟩:=hI;have hl:=(fK.1 h3).1;have hm:s.mem.length≤s.k.toNat:=(by rw [h2];exact YX);simp only [decide_eq_true_eq] at c1;first|omega|(refine ⟨by omega,?_,?_⟩<;>simp only [List.length_cons,List.length_nil]<;>omega))
 ·exact ⟨Yt hI.2.2,ase (Yv hI.2.2) hI.1.1 (by simpa using c1)⟩
 iterate 2 · (obtain ⟨⟨h0,h1⟩,h2,h3⟩:=hI;have hl:=(fK.1 h3).1;have hm:s.mem.length≤s.k.toNat:=(by rw [h2];exact YX);simp only [decide_eq_true_eq] at c1;first|omega|(refine ⟨by omega,?_,?_⟩<;>simp only [List.length_cons,List.length_nil]<;>omega))
 ·exact ⟨rfl,by simp⟩
def Zc:Specs:=aW [(49,Ox),(116,adY),(117,ad1),(118,adZ)]
theorem aha:∀g S,Zc g=some S→Valid Tryz.prog aP g S:=aS (l:=[(49,Ox),(116,adY),(117,ad1),(118,adZ)]) ⟨al9,aDX,aDZ,aDY,trivial⟩
theorem apb:PO.Ok:={}
theorem anW:PO.Pf (atn):=⟨aMn,λ_ _=>rfl,aGY,aFS⟩
theorem avR:bC Tryz.prog aP (AN 0) (.loop ER) PO.lp:=bK.snd apb anW (aQ (Γ:=Zc) (K:=dR) (L:=ay) aha aA ER (λb hb=>by rw [show ax ER=[] by kernel_rfl] at hb;cases hb)) (λs=>by kernel_rfl)
theorem axb (s:uH) (hE:akx s):∃s',SE s'∧atn (azO s) s' (jX s):=bK.fin apb anW s hE
structure nI where
 i:Int
 p:Int
 cs:List Cd
 os:List ByteArray
 ks:List Ko
 gs:List Ch
 bs:List Ba
 out:List Rw
def aQj (s:nI):List LV:=[.own 0 0,.os 1 2 0 (s.out.length),.v (.int .i64 s.i),.v (.int .i64 s.p)]
def aO1 (s:nI):List aZ:=[⟨[.xl dY s.cs,.xl .str s.os,.xl fC s.ks,.xl dP s.gs,.xl fD s.bs],28,.cl,false⟩,⟨[],107,.vec wE s.out,false⟩]
def N9:Code:=((ax (((ax (Tryz.f80.body.getD .skip))[0]?).getD .skip))[0]?).getD .skip
def jL (s:nI):uH:=(⟨s.i,s.p,(0:Int),s.cs,s.os,s.ks,s.gs,s.bs,s.out,(dS (iw s.cs s.i)),([]:List Int)⟩:uH)
def XM (s:nI):T (Rd nI):=
 .br (decide (s.p<3)) (.req (0≤s.i∧s.i<(s.cs.length:Int)) (.rl s.out (.req (0=0∧0=List.length ([]:List Int)) (.req (aJO (jL s)) (.br (decide (((List.length (jX (jL s)).mem:Nat):Int)>0)) (.req (0+(List.length (jX (jL s)).mem)≤List.length (jX (jL s)).mem) (.req (0+(s.out.length)=s.out.length∧((s.out.length+List.length ([((dS (iw s.cs s.i)),((jX (jL s)).mem.drop 0).take (List.length (jX (jL s)).mem))]):Nat):Int)*32≤2^47∧((s.out.length+List.length ([((dS (iw s.cs s.i)),((jX (jL s)).mem.drop 0).take (List.length (jX (jL s)).mem))]):Nat):Int)<2^62) (.req (0=0∧(s.out.length+List.length ([((dS (iw s.cs s.i)),((jX (jL s)).mem.drop 0).take (List.length (jX (jL s)).mem))]))=List.length (s.out++([((dS (iw s.cs s.i)),((jX (jL s)).mem.drop 0).take (List.length (jX (jL s)).mem))]))) (.ok (.next {s with p:=(aSe (s.p+1)),out:=(s.out++([((dS (iw s.cs s.i)),((jX (jL s)).mem.drop 0).take (List.length (jX (jL s)).mem))]))}))))) (.rl s.out (.ok (.next {s with p:=(aSe (s.p+1))})))))))) (.rl s.out (.ok (.stop (.exit 2) s)))
abbrev ahE (s:nI):=(XM s).rd s
def aky (s:nI):Prop:=s.p=0∧(s.out.length:Int)≤1000∧fH s.cs s.os s.ks s.gs s.bs=true∧0≤s.i∧s.i<(s.cs.length:Int)
def OM (s:nI):Prop:=(0≤s.p∧s.p≤3)∧(s.out.length:Int)≤1000+s.p∧fH s.cs s.os s.ks s.gs s.bs=true∧0≤s.i∧s.i<(s.cs.length:Int)
def MH (s:nI):Nat:=(3-s.p).toNat
def aDk (_:Ex) (_ _:nI):Prop:=True
theorem aMp:∀s,aky s→OM s:=by
 intro s h;obtain ⟨h0,h1,h2⟩:=h;exact ⟨by omega,by omega,h2⟩
theorem ane (s:nI) (hI:OM s):akx (jL s):=⟨rfl,rfl,hI.2.2.1⟩
theorem aMo (s:nI) (hI:OM s) (c1:s.p<3):(jX (jL s)).mem=iY s.gs s.p (uw s.cs s.gs s.i s.gs.length):=by
 obtain ⟨s',_,q1,q2⟩:=axb _ (ane s hI);rw [←ayX hI.2.2.1 (by have:=hI.1;omega)]
 exact q2
theorem aGZ (s:nI) (hI:OM s):bJ (λs'=>OM s'∧MH s'<MH s) (λx s'=>aDk x s s') (ahE s):=by
 unfold ahE XM;dsimp only [T.rd,T.rl];obtain ⟨⟨h0,h1⟩,h2,h3⟩:=hI;refine ai (λc1=>?_) (λc1=>trivial)
 have c1:s.p<3:=by simpa using c1
 rw [aH (x:=s.p+1)];refine ai (λc2=>?_) (λc2=>?_)
 ·exact ⟨⟨⟨by simp only;omega,by simp only;omega⟩,by simp only [List.length_append,List.length_cons,List.length_nil];omega,h3⟩,by simp only [MH];omega⟩
 ·exact ⟨⟨⟨by simp only;omega,by simp only;omega⟩,by simp only;omega,h3⟩,by simp only [MH];omega⟩
def PS:bK nI:=⟨0,76,[1,5,6,7],[],aQj,aO1,λv b=>⟨gI (v.getD 2 .junk),gI (v.getD 3 .junk),aU dY (bn (aT b 0) 0),aU .str (bn (aT b 0) 1),aU fC (bn (aT b 0) 2),aU dP (bn (aT b 0) 3),aU fD (bn (aT b 0) 4),iW wE (aT b 1)⟩,XM,λs r=> {r with i:=s.i,cs:=s.cs,os:=s.os,ks:=s.ks,gs:=s.gs,bs:=s.bs},λs=>s,λ_ s=>s,[.exit 2],aky,OM,MH⟩
abbrev Kt:=PS.run
abbrev azP:=PS.jf
abbrev aJP:=PS.q
theorem aFT (s:nI) (hI:OM s):(XM s).all (λ_=>True):=by
 refine ⟨λc1=>⟨?_,aSf,?_,?_,λc2=>⟨?_,?_,?_,trivial⟩,λc2=>⟨aSf,trivial⟩⟩,λc1=>⟨aSf,trivial⟩⟩
 ·(obtain ⟨h0,h2,h3,h4,h5⟩:=hI;first|omega|(refine ⟨by omega,?_,?_⟩<;>simp only [List.length_cons,List.length_nil]<;>omega))
 ·exact ⟨rfl,by simp⟩
 ·exact ⟨ane s hI,rfl,rfl⟩
 iterate 2 · (obtain ⟨h0,h2,h3,h4,h5⟩:=hI;first|omega|(refine ⟨by omega,?_,?_⟩<;>simp only [List.length_cons,List.length_nil]<;>omega))
 ·exact ⟨rfl,by simp⟩
theorem apc:PS.Ok:={}
theorem anX:PS.Pf (aDk):=⟨aMp,λ_ _=>rfl,aGZ,aFT⟩
theorem avS:bC Tryz.prog aP (AN 0) (.loop N9) PS.lp:=bK.snd apc anX (aQ (Γ:=Zc) (K:=dR) (L:=(λi=>if i=13 then PO.lp else ay i)) aha aA N9 (λb hb=>by
 rw [show ax _=[ER] by kernel_rfl] at hb
 simp only [List.mem_cons,List.not_mem_nil,or_false] at hb;subst hb;exact avR)) (λs=>by kernel_rfl)
theorem axc (s:nI) (hE:aky s):(λ(x:Ex) (s':nI) (v:List Rw)=>x=.exit 2∧s'.out=v) (azP s) (Kt s) ((λs:nI=>s.out++rowT s.cs s.gs s.i (3-s.p).toNat) s):=by
 exact bK.mD apc anX (λs:nI=>s.out++rowT s.cs s.gs s.i (3-s.p).toNat) (λx s' v=>x=.exit 2∧s'.out=v) (λs hI=>by
  show bJ _ _ (ahE s)
  unfold ahE XM;dsimp only [T.rd,T.rl]
  have hm:=λc1=>aMo s hI c1
  obtain ⟨⟨h0,h1⟩,h2,h3⟩:=hI;refine ai (λc1=>?_) (λc1=>?_)
  ·have c1:s.p<3:=by simpa using c1
   have e:(3-s.p).toNat=(3-(s.p+1)).toNat+1:=by omega
   rw [aH (x:=s.p+1),hm c1,List.drop_zero,List.take_length]
   have er:rowT s.cs s.gs s.i (3-s.p).toNat=rowP s.cs s.gs s.i s.p++rowT s.cs s.gs s.i (3-(s.p+1)).toNat:=by
    rw [e,rowT]
    congr 2
    omega
   refine ai (λc2=>?_) (λc2=>?_)
   ·simp only [decide_eq_true_eq] at c2
    show _++_=_++_
    simp only;rw [er,rowP,if_pos (by omega),List.append_assoc]
   ·simp only [decide_eq_false_iff_not] at c2
    show _++_=_++_
    simp only;rw [er,rowP,if_neg (by omega),List.nil_append]
  ·have c1:3≤s.p:=by simpa using c1
   refine ⟨rfl,?_⟩;rw [show (3-s.p).toNat=0 by omega,rowT,List.append_nil]) s hE
structure oH where
 i:Int
 cs:List Cd
 os:List ByteArray
 ks:List Ko
 gs:List Ch
 bs:List Ba
 out:List Rw
def aQk (s:oH):List LV:=[.own 0 0,.os 1 2 0 (s.out.length),.v (.int .i64 s.i)]
def aO2 (s:oH):List aZ:=[⟨[.xl dY s.cs,.xl .str s.os,.xl fC s.ks,.xl dP s.gs,.xl fD s.bs],28,.cl,false⟩,⟨[],107,.vec wE s.out,false⟩]
def Oa:Code:=((ax (Tryz.f80.body.getD .skip))[0]?).getD .skip
def Dh (s:oH):nI:=(⟨s.i,(0:Int),s.cs,s.os,s.ks,s.gs,s.bs,s.out⟩:nI)
def afp (s:oH):T (Rd oH):=
 .br (decide (s.i<(s.cs.length:Int))) (.rl s.out (.req (aJP (Dh s)) (.rl (Kt (Dh s)).out (.ok (.next {s with i:=(aSe (s.i+1)),out:=(Kt (Dh s)).out}))))) (.rl s.out (.ok (.stop (.exit 0) s)))
abbrev aCG (s:oH):=(afp s).rd s
def akz (s:oH):Prop:=s.i=0∧s.out=[]∧fH s.cs s.os s.ks s.gs s.bs=true
def OO (s:oH):Prop:=(0≤s.i∧s.i≤(s.cs.length:Int))∧s.out=jZ s.cs s.gs s.i.toNat∧fH s.cs s.os s.ks s.gs s.bs=true
def Vb (s:oH):Nat:=((s.cs.length:Int)-s.i).toNat
def ato (x:Ex) (_ s':oH):Prop:=x=.exit 0∧s'.out=jZ s'.cs s'.gs s'.cs.length
theorem aMq:∀s,akz s→OO s:=by
 intro s h;obtain ⟨h0,h1,h2⟩:=h;exact ⟨by omega,by rw [h0,h1];rfl,h2⟩
theorem anf (s:oH) (hI:OO s) (c1:s.i<(s.cs.length:Int)):aky (Dh s):=by
 obtain ⟨⟨h0,h1⟩,h2,h3⟩:=hI
 have hl:=(fK.1 h3).1
 have hr:=wJ (cs:=s.cs) (gs:=s.gs) (k:=s.i.toNat)
 refine ⟨rfl,?_,h3,h0,c1⟩
 show (s.out.length:Int)≤1000
 rw [h2];omega
theorem aG0 (s:oH) (hI:OO s):bJ (λs'=>OO s'∧Vb s'<Vb s) (λx s'=>ato x s s') (aCG s):=by
 unfold aCG afp;dsimp only [T.rd,T.rl]
 have hin:=λc1=>anf s hI c1
 obtain ⟨⟨h0,h1⟩,h2,h3⟩:=hI
 have hl:=(fK.1 h3).1
 refine ai (λc1=>?_) (λc1=>?_)
 ·have c1:s.i<(s.cs.length:Int):=by simpa using c1
  obtain ⟨q1,q2⟩:=axc _ (hin c1)
  have q2:(Kt (Dh s)).out=s.out++rowT s.cs s.gs s.i 3:=q2
  rw [aH (x:=s.i+1)];refine ⟨⟨⟨by simp only;omega,by simp only;omega⟩,?_,h3⟩,by simp only [Vb];omega⟩
  simp only;rw [q2,aGz,show (s.i+1).toNat=s.i.toNat+1 by omega,jZ,Int.toNat_of_nonneg h0,h2]
 ·have c1:(s.cs.length:Int)≤s.i:=by simpa using c1
  exact ⟨rfl,by rw [h2,show s.i.toNat=s.cs.length by omega]⟩
def Jo:bK oH:=⟨0,76,[1,5,6],[.nl 5 107 wE],aQk,aO2,λv b=>⟨gI (v.getD 2 .junk),aU dY (bn (aT b 0) 0),aU .str (bn (aT b 0) 1),aU fC (bn (aT b 0) 2),aU dP (bn (aT b 0) 3),aU fD (bn (aT b 0) 4),iW wE (aT b 1)⟩,afp,λs r=> {r with cs:=s.cs,os:=s.os,ks:=s.ks,gs:=s.gs,bs:=s.bs},λs=>s,λ_ s=>s,[.exit 0],akz,OO,Vb⟩
abbrev Ac:=Jo.run
abbrev azQ:=Jo.jf
abbrev aJQ:=Jo.q
theorem aFU (s:oH) (hI:OO s):(afp s).all (λ_=>True):=by
 refine ⟨λc1=>⟨aSf,?_,aSf,trivial⟩,λc1=>⟨aSf,trivial⟩⟩
 ·exact ⟨anf s hI (by simpa using c1),rfl,rfl⟩
theorem apd:Jo.Ok:={}
theorem anY:Jo.Pf (ato):=⟨aMq,λ_ _=>rfl,aG0,aFU⟩
theorem avT:bC Tryz.prog aP (AN 0) (.loop Oa) Jo.lp:=bK.snd apd anY (aQ (Γ:=Zc) (K:=dR) (L:=(λi=>if i=9 then PS.lp else ay i)) aha aA Oa (λb hb=>by
 rw [show ax _=[N9] by kernel_rfl] at hb
 simp only [List.mem_cons,List.not_mem_nil,or_false] at hb;subst hb;exact avS)) (λs=>by kernel_rfl)
theorem axd (s:oH) (hE:akz s):∃s',OO s'∧ato (azQ s) s' (Ac s):=bK.fin apd anY s hE
def ajj:List LV→T LV
 | [.agg [.xl (.pair .str (.pair (.int .i64) (.pair (.int .i64) (.pair (.int .i64) (.pair (.pair (.int .i64) (.int .i64)) (.pair (.int .i64) (.pair (.int .i64) (.pair (.int .i64) (.pair (.int .i64) (.int .i64)))))))))) cs,.xl (.str) os,.xl (.pair .str (.pair (.int .i64) (.pair (.int .i64) (.int .i64)))) ks,.xl (.pair .str (.pair (.int .i64) (.pair (.int .i64) (.pair (.int .i64) (.pair (.int .i64) (.pair (.int .i64) (.pair (.int .i64) (.int .i64)))))))) gs,.xl (.pair .str (.int .i64)) bs]]=> .req (Qd (gG cs os ks gs bs)) (.ok (.iU [.xl wE (iG cs os ks gs bs),.v (.int .i64 (BL cs os ks gs bs))]))
 |_=> .no
def adX:List LV→T LV:=gZ Tryz.prog Tryz.f80.params.toList ajj
theorem ax4 (cs:List Cd) (os:List ByteArray) (ks:List Ko) (gs:List Ch) (bs:List Ba):letI a:=(Ac (⟨(0:Int),cs,os,ks,gs,bs,([]:List Rw)⟩:oH));cO Tryz.prog aP (Zc) dR (λi=>if i=6 then Jo.lp else ay i) Tryz.f80 [.agg [.xl dY cs,.xl .str os,.xl fC ks,.xl dP gs,.xl fD bs]]=.req (Qd (gG cs os ks gs bs)) (.br (!(fH cs os ks gs bs)) (.ok (.iU [.xl wE ([]:List Rw),.v (.int .i64 1)])) (.req (0=0∧0=List.length ([]:List Rw)) (.req (aJQ (⟨(0:Int),cs,os,ks,gs,bs,([]:List Rw)⟩:oH)) (.req (0+(List.length a.out)≤List.length a.out) (.ok (.iU [.xl wE ((a.out.drop 0).take (List.length a.out)),.v (.int .i64 0)])))))):=by kernel_rfl
theorem aDW:Valid Tryz.prog aP 80 adX:=aI Tryz.func80 rfl aha aA (L:=(λi=>if i=6 then Jo.lp else ay i)) (λb hb=>by
 rw [show ax _=[Oa] by kernel_rfl] at hb
 simp only [List.mem_cons,List.not_mem_nil,or_false] at hb;subst hb;exact avT) (λargs lv h=>by
 unfold ajj at h;split at h
 ·simp only [canL,canX]
  rw [ax4];rename_i cs os ks gs bs;obtain ⟨hn,rfl⟩:=h;refine ⟨hn,λc=>?_,λc=>?_⟩
  ·have c:fH cs os ks gs bs=false:=by simpa using c
   show LV.iU _=_
   unfold iG BL;rw [c];rfl
  ·have c:fH cs os ks gs bs=true:=by simpa using c
   have hE:akz ⟨(0:Int),cs,os,ks,gs,bs,([]:List (Int×(List Int)))⟩:=⟨rfl,rfl,c⟩
   obtain ⟨s',_,q1,q2⟩:=axd _ hE
   have q2:(Ac ⟨(0:Int),cs,os,ks,gs,bs,([]:List (Int×(List Int)))⟩).out=jZ cs gs cs.length:=q2
   refine ⟨aSf,⟨hE,rfl,rfl⟩,by omega,?_⟩
   show LV.iU [LV.xl _ _,_]=_
   rw [List.drop_zero,List.take_length,q2];unfold iG BL;rw [if_pos c,if_pos c]
 ·cases h)
def ajd:List LV→T LV
 | [.v (.agg ⟨[.string _,.int .i64 _,.int .i64 _,.int .i64 mi,.int .i64 ma,.int .i64 st,.int .i64 _,.int .i64 _]⟩)]=> .ok (.v (.bool (lH mi ma st)))
 |_=> .no
def adS:List LV→T LV:=gZ Tryz.prog Tryz.f142.params.toList ajd
def aCg:Specs:=aW []
theorem aNq:∀g S,aCg g=some S→Valid Tryz.prog aP g S:=aS (l:=[]) trivial
theorem axY (nm:ByteArray) (at_ ph mi ma st fb ow:Int):cO Tryz.prog aP (aCg) dR ay Tryz.f142 [.v (.agg #[.string nm,.int .i64 at_,.int .i64 ph,.int .i64 mi,.int .i64 ma,.int .i64 st,.int .i64 fb,.int .i64 ow])]=.ok (.v (.bool ((decide (mi≥1))&&((decide (mi≤ma))&&((decide (ma≤80))&&((decide (st≥1))&&(decide (st≤80)))))))):=by kernel_rfl
theorem aDR:Valid Tryz.prog aP 142 adS:=aI Tryz.func142 rfl aNq aA (bf (by kernel_rfl)) (λargs lv h=>by
 unfold ajd at h;split at h
 ·simp only [canL,canX]
  rw [axY];exact h
 ·cases h)
def ajb:List LV→T LV
 | [.v (.agg ⟨[.string _,.int .i64 _,.int .i64 _,.int .i64 mi,.int .i64 ma,.int .i64 st,.int .i64 _,.int .i64 _]⟩)]=> .ok (.v (.int .i64 (zn mi ma st)))
 |_=> .no
def adR:List LV→T LV:=gZ Tryz.prog Tryz.f119.params.toList ajb
def aCf:Specs:=aW [(142,adS)]
theorem aNp:∀g S,aCf g=some S→Valid Tryz.prog aP g S:=aS (l:=[(142,adS)]) ⟨aDR,trivial⟩
theorem axW (nm:ByteArray) (at_ ph mi ma st fb ow:Int):cO Tryz.prog aP (aCf) dR ay Tryz.f119 [.v (.agg #[.string nm,.int .i64 at_,.int .i64 ph,.int .i64 mi,.int .i64 ma,.int .i64 st,.int .i64 fb,.int .i64 ow])]=.br (!(lH mi ma st)) (.ok (.v (.int .i64 0))) (.req (st≠0) (.ok (.v (.int .i64 (aSe (2+(aSe ((aSe (ma-mi)).tdiv st)))))))):=by kernel_rfl
theorem aDQ:Valid Tryz.prog aP 119 adR:=aI Tryz.func119 rfl aNp aA (bf (by kernel_rfl)) (λargs lv h=>by
 unfold ajb at h;split at h
 ·simp only [canL,canX]
  rw [axW];rename_i mi ma st _ _;obtain rfl:=h;refine ⟨λc=>congrArg (λz=>LV.v (.int .i64 z)) ?_,λc=>?_⟩
  ·rw [DL (by simpa using c)]
  ·have hh:lH mi ma st=true:=by simpa using c
   obtain ⟨h1,h2,h3,h4,h5⟩:=fZ.1 hh
   have:=Cc (x:=ma-mi) (st:=st) (by omega) (by omega)
   refine ⟨by omega,congrArg (λz=>LV.v (.int .i64 z)) ?_⟩
   rw [aH (x:=ma-mi),Int.tdiv_eq_ediv_of_nonneg (by omega),aH (x:=(ma-mi) / st),aH]
   simp [zn,hh]
   omega
 ·cases h)
def aji:List LV→T LV
 | [.v (.agg ⟨[.string _,.int .i64 _,.int .i64 _,.int .i64 mi,.int .i64 ma,.int .i64 st,.int .i64 _,.int .i64 _]⟩),.v (.int .i64 k)]=> .ok (.v (.tuple #[.int .i64 (P9 mi ma st k),.int .i64 (amE mi ma st k)]))
 |_=> .no
def adW:List LV→T LV:=gZ Tryz.prog Tryz.f82.params.toList aji
def aCe:Specs:=aW [(119,adR)]
theorem aNo:∀g S,aCe g=some S→Valid Tryz.prog aP g S:=aS (l:=[(119,adR)]) ⟨aDQ,trivial⟩
theorem ax3 (nm:ByteArray) (at_ ph mi ma st fb ow k:Int):cO Tryz.prog aP (aCe) dR ay Tryz.f82 [.v (.agg #[.string nm,.int .i64 at_,.int .i64 ph,.int .i64 mi,.int .i64 ma,.int .i64 st,.int .i64 fb,.int .i64 ow]),.v (.int .i64 k)]=.br ((decide (k<0)) ||(decide (k≥(zn mi ma st)))) (.ok (.v (.tuple #[.int .i64 0,.int .i64 1]))) (.br (k==0) (.ok (.v (.tuple #[.int .i64 0,.int .i64 0]))) (.ok (.v (.tuple #[.int .i64 (aSe (mi+(aSe ((aSe (k-1))*st)))),.int .i64 0])))):=by kernel_rfl
theorem aDV:Valid Tryz.prog aP 82 adW:=aI Tryz.func82 rfl aNo aA (bf (by kernel_rfl)) (λargs lv h=>by
 unfold aji at h;split at h
 ·simp only [canL,canX]
  rw [ax3];rename_i mi ma st _ _ k;obtain rfl:=h
  have hb:=VX (mi:=mi) (ma:=ma) (st:=st)
  refine ⟨λc=>?_,λc=>?_⟩
  ·have c:k<0∨zn mi ma st≤k:=by simpa using c
   simp [T.all,P9,amE,c]
  ·have c:¬(k<0∨zn mi ma st≤k):=by simpa using c
   have hh:=fZ.1 (aqZ (mi:=mi) (ma:=ma) (st:=st) (k:=k) (by omega) (by omega))
   refine ⟨λc2=>?_,λc2=>?_⟩
   ·have c2:k=0:=by simpa using c2
    subst c2
    have c3:0<zn mi ma st:=by omega
    simp [T.all,P9,amE,CW,c3]
   ·have c2:k≠0:=by simpa using c2
    have:=ap8 (a:=k-1) (b:=st) (by omega) (by omega) (by omega) (by omega)
    rw [aH (x:=k-1),aH (x:=(k-1)*st),aH]
    simp [T.all,P9,amE,c,CW,c2]
 ·cases h)
structure pX where
 l:List Int
 n:Int
 r:Bool
 i:Int
 found:Bool
 k:Int
def aP4 (s:pX):List LV:=[.xl aSg s.l,.v (.int .i64 s.n),.v (.bool s.r),.v (.int .i64 s.i),.v (.bool s.found),.v (.int .i64 s.k)]
def aOM (_:pX):List aZ:=[]
def EF:Code:=((ax (((ax (Tryz.f21.body.getD .skip))[0]?).getD .skip))[0]?).getD .skip
def XD (s:pX):T (Rd pX):=
 .br (decide (s.k<s.n)) (.br s.found (.ok (.next {s with found:=true,k:=(aSe (s.k+1))})) (.req (0≤s.k∧s.k<(s.l.length:Int)) (.ok (.next {s with found:=((gi s.l s.k)==s.i),k:=(aSe (s.k+1))})))) (.ok (.stop (.exit 2) s))
abbrev ahv (s:pX):=(XD s).rd s
def aaI (s:pX):Prop:=s.k=0∧s.n≤1000∧s.n=(s.l.length:Int)
def aao (s:pX):Prop:=0≤s.k∧s.k≤s.n∧s.n≤1000∧s.n=(s.l.length:Int)
def MF (s:pX):Nat:=(s.n-s.k).toNat
def aDb (_:Ex) (_ _:pX):Prop:=True
theorem aLW:∀s,aaI s→aao s:=by
 intro s h;obtain ⟨h0,h1,h2⟩:=h;exact ⟨by omega,by omega,h1,h2⟩
theorem aGE (s:pX) (hI:aao s):bJ (λs'=>aao s'∧MF s'<MF s) (λx s'=>aDb x s s') (ahv s):=by
 unfold ahv XD;dsimp only [T.rd,T.rl];obtain ⟨h0,h1,h2,h3⟩:=hI;refine ai (λc1=>?_) (λc1=>?_)
 ·refine ai (λc2=>?_) (λc2=>?_)
  ·have c1:s.k<s.n:=by simpa using c1
   rw [aH (x:=s.k+1)];exact ⟨⟨by simp only;omega,by simp only;omega,h2,h3⟩,by simp only [MF];omega⟩
  ·have c1:s.k<s.n:=by simpa using c1
   rw [aH (x:=s.k+1)];exact ⟨⟨by simp only;omega,by simp only;omega,h2,h3⟩,by simp only [MF];omega⟩
 ·trivial
def PL:bK pX:=⟨0,33,[0,1,4,5,6,7],[],aP4,aOM,λv _=>⟨aU aSg (v.getD 0 .junk),gI (v.getD 1 .junk),vW (v.getD 2 .junk),gI (v.getD 3 .junk),vW (v.getD 4 .junk),gI (v.getD 5 .junk)⟩,XD,λs r=> {r with l:=s.l,n:=s.n,r:=s.r,i:=s.i},λs=>s,λ_ s=>s,[.exit 2],aaI,aao,MF⟩
abbrev Kr:=PL.run
abbrev azF:=PL.jf
abbrev aJA:=PL.q
theorem aFE (s:pX) (hI:aao s):(XD s).all (λ_=>True):=by
 refine ⟨λc1=>⟨λ_=>trivial,λc2=>⟨?_,trivial⟩⟩,λ_=>trivial⟩
 ·(obtain ⟨h0,h1,h2,h3⟩:=hI;simp only [decide_eq_true_eq] at c1;omega)
def ahh:Specs:=aW []
theorem aq6:∀g S,ahh g=some S→Valid Tryz.prog aP g S:=aS (l:=[]) trivial
theorem aoX:PL.Ok:={}
theorem anI:PL.Pf (aDb):=⟨aLW,λ_ _=>rfl,aGE,aFE⟩
theorem avD:bC Tryz.prog aP (AN 0) (.loop EF) PL.lp:=bK.snd aoX anI (aQ (Γ:=ahh) (K:=dR) (L:=ay) aq6 aA EF (λb hb=>by rw [show ax EF=[] by kernel_rfl] at hb;cases hb)) (λs=>by kernel_rfl)
theorem agt (s:pX) (hE:aaI s):(λ(x:Ex) (s':pX) (v:Bool)=>x=.exit 2∧s'.found=v) (azF s) (Kr s) ((λs:pX=>s.found ||(s.l.drop s.k.toNat).contains s.i) s):=by
 exact bK.mD aoX anI (λs:pX=>s.found ||(s.l.drop s.k.toNat).contains s.i) (λx s' v=>x=.exit 2∧s'.found=v) (λs hI=>by
  show bJ _ _ (ahv s)
  unfold ahv XD;dsimp only [T.rd,T.rl];obtain ⟨h0,h1,h2,h3⟩:=hI;refine ai (λc1=>?_) (λc1=>?_)
  ·have c1:s.k<s.n:=by simpa using c1
   rw [aH (x:=s.k+1)];refine ai (λc2=>?_) (λc2=>?_)
   ·show (true ||_)=(s.found ||_)
    rw [c2];rfl
   ·show ((gi s.l s.k==s.i) ||_)=(s.found ||_)
    rw [c2,Bool.false_or,(gi_step h0 (show s.k<s.l.length by omega)).1,List.contains_cons,Bool.beq_comm]
  ·have c1:s.n≤s.k:=by simpa using c1
   refine ⟨rfl,?_⟩;rw [List.drop_eq_nil_of_le (by omega)]
   simp) s hE
structure qY where
 l:List Int
 n:Int
 r:Bool
 i:Int
def aP5 (s:qY):List LV:=[.xl aSg s.l,.v (.int .i64 s.n),.v (.bool s.r),.v (.int .i64 s.i)]
def aON (_:qY):List aZ:=[]
def N8:Code:=((ax (Tryz.f21.body.getD .skip))[0]?).getD .skip
def afk (s:qY):T (Rd qY):=
 .br (decide (s.i<s.n)) (.req (aJA (⟨s.l,s.n,s.r,s.i,false,(0:Int)⟩:pX)) (.br (!(Kr (⟨s.l,s.n,s.r,s.i,false,(0:Int)⟩:pX)).found) (.ok (.stop (.ret) {s with r:=false})) (.ok (.next {s with i:=(aSe (s.i+1))})))) (.ok (.stop (.exit 0) s))
abbrev aCB (s:qY):=(afk s).rd s
def O6 (s:qY) (j:Int):Bool:=s.l.contains j
def auq (s:qY):Prop:=s.i=0∧0≤s.n∧s.n≤1000∧s.n=(s.l.length:Int)
def Sz (s:qY):Prop:=0≤s.i∧s.i≤s.n∧s.n≤1000∧(s.n=(s.l.length:Int))∧∀j:Nat,(j:Int)<s.i→O6 s j=true
def U0 (s:qY):Nat:=(s.n-s.i).toNat
def ati (x:Ex) (_ s':qY):Prop:=(x=.exit 0∧∀j:Nat,(j:Int)<s'.n→O6 s' j=true)∨(x=.ret∧s'.r=false∧∃j:Nat,(j:Int)<s'.n∧O6 s' j=false)
theorem aLX:∀s,auq s→Sz s:=by
 intro s h;obtain ⟨h0,h1,h2,h3⟩:=h;exact ⟨by omega,by omega,h2,h3,λj hj=>by omega⟩
theorem aGF (s:qY) (hI:Sz s):bJ (λs'=>Sz s'∧U0 s'<U0 s) (λx s'=>ati x s s') (aCB s):=by
 unfold aCB afk;dsimp only [T.rd,T.rl];obtain ⟨h0,h1,h2,h3,h4⟩:=hI;refine ai (λc1=>ai (λc2=>?_) (λc2=>?_)) (λc1=>?_)
 ·have c1:s.i<s.n:=by simpa using c1
  refine .inr ⟨rfl,rfl,s.i.toNat,by simp only;omega,?_⟩
  rw [Int.toNat_of_nonneg (by omega)]
  have hg:O6 s s.i=false:=by unfold O6;(have hin:aaI (⟨s.l,s.n,s.r,s.i,false,(0:Int)⟩):=⟨rfl,h2,h3⟩;have hr:=(agt _ hin).2;have hr:(Kr (⟨s.l,s.n,s.r,s.i,false,(0:Int)⟩)).found=(false ||s.l.contains s.i):=hr;rw [Bool.false_or] at hr;rw [hr] at c2;simpa using c2)
  exact hg
 ·have c1:s.i<s.n:=by simpa using c1
  have hg:O6 s s.i=true:=by unfold O6;(have hin:aaI (⟨s.l,s.n,s.r,s.i,false,(0:Int)⟩):=⟨rfl,h2,h3⟩;have hr:=(agt _ hin).2;have hr:(Kr (⟨s.l,s.n,s.r,s.i,false,(0:Int)⟩)).found=(false ||s.l.contains s.i):=hr;rw [Bool.false_or] at hr;rw [hr] at c2;simpa using c2)
  rw [aH (x:=s.i+1)];refine ⟨⟨by simp only;omega,by simp only;omega,h2,h3,λj hj=>?_⟩,by simp only [U0];omega⟩
  by_cases hji:(j:Int)<s.i
  ·exact h4 j hji
  ·have:(j:Int)=s.i:=by simp only at hj;omega
   rw [this];exact hg
 ·have c1:s.n≤s.i:=by simpa using c1
  exact .inl ⟨rfl,λj hj=>h4 j (by omega)⟩
def Jb:bK qY:=⟨0,33,[0,1,4,5],[],aP5,aON,λv _=>⟨aU aSg (v.getD 0 .junk),gI (v.getD 1 .junk),vW (v.getD 2 .junk),gI (v.getD 3 .junk)⟩,afk,λs r=> {r with l:=s.l,n:=s.n},λs=>s,λ_ s=>s,[.ret,.exit 0],auq,Sz,U0⟩
abbrev af2:=Jb.run
abbrev ah9:=Jb.jf
abbrev aJB:=Jb.q
theorem aFF (s:qY) (hI:Sz s):(afk s).all (λ_=>True):=by
 refine ⟨λc1=>⟨?_,λ_=>trivial,λ_=>trivial⟩,λ_=>trivial⟩
 ·(obtain ⟨h0,h1,h2,h3,h4⟩:=hI;exact ⟨⟨rfl,h2,h3⟩,rfl,rfl⟩)
theorem aoY:Jb.Ok:={}
theorem anJ:Jb.Pf (ati):=⟨aLX,λ_ _=>rfl,aGF,aFF⟩
theorem avE:bC Tryz.prog aP (AN 0) (.loop N8) Jb.lp:=bK.snd aoY anJ (aQ (Γ:=ahh) (K:=dR) (L:=(λi=>if i=8 then PL.lp else ay i)) aq6 aA N8 (λb hb=>by
 rw [show ax _=[EF] by kernel_rfl] at hb
 simp only [List.mem_cons,List.not_mem_nil,or_false] at hb;subst hb;exact avD)) (λs=>by kernel_rfl)
theorem awU (s:qY) (hE:auq s):∃s',Sz s'∧ati (ah9 s) s' (af2 s):=bK.fin aoY anJ s hE
def ai9:List LV→T LV
 | [.xl (.int .i64) l,.v (.int .i64 n)]=> .req (n≤1000) (.ok (.v (.bool (ak5 l n))))
 |_=> .no
def adP:List LV→T LV:=gZ Tryz.prog Tryz.f21.params.toList ai9
theorem axU (l:List Int) (n:Int):cO Tryz.prog aP (ahh) dR (λi=>if i=4 then Jb.lp else ay i) Tryz.f21 [.xl aSg l,.v (.int .i64 n)]=.br ((l.length:Int) !=n) (.ok (.v (.bool false))) (.req (aJB (⟨l,n,false,(0:Int)⟩:qY)) (.br (iV (ah9 (⟨l,n,false,(0:Int)⟩:qY)) (.ret)) (.ok (.v (.bool (af2 (⟨l,n,false,(0:Int)⟩:qY)).r))) (.ok (.v (.bool true))))):=by kernel_rfl
theorem aDO:Valid Tryz.prog aP 21 adP:=aI Tryz.func21 rfl aq6 aA (L:=(λi=>if i=4 then Jb.lp else ay i)) (λb hb=>by
 rw [show ax _=[N8] by kernel_rfl] at hb
 simp only [List.mem_cons,List.not_mem_nil,or_false] at hb;subst hb;exact avE) (λargs lv h=>by
 unfold ai9 at h;split at h
 ·simp only [canL,canX]
  rw [axU];rename_i l n;obtain ⟨hn,rfl⟩:=h;refine ⟨λc=>congrArg (λz=>LV.v (.bool z)) ?_,λc=>?_⟩
  ·have c:¬(l.length:Int)=n:=by simpa using c
   unfold ak5;rw [decide_eq_false c];rfl
  ·have c:(l.length:Int)=n:=by simpa using c
   unfold ak5;rw [decide_eq_true c,Bool.true_and];refine lK ⟨⟨rfl,by simp only;omega,hn,c.symm⟩,rfl,rfl⟩ (λhE=>?_)
   obtain ⟨s',_,hq⟩:=awU _ hE.1;rcases hq with ⟨q1,q2⟩ |⟨q1,q2,j,q3,q4⟩
   ·have e:Gi n.toNat (λi=>l.contains i)=true:=gm.2 (λj hj=>q2 j (by show (j:Int)<n;omega))
    rw [q1,e];exact ⟨λh=>(by cases h),λ_=>rfl⟩
   ·have e:Gi n.toNat (λi=>l.contains i)=false:=vN j (by have q3:(j:Int)<n:=q3;omega) q4
    rw [q1,q2,e];exact ⟨λ_=>rfl,λh=>by cases h⟩
 ·cases h)
structure oD where
 al:List Int
 am:List Int
 sum:Int
 none:Bool
 i:Int
 cap:Int
 ms:List Int
def aP0 (s:oD):List LV:=[.xl aSg s.al,.xl aSg s.am,.own 0 0,.v (.int .i64 s.sum),.v (.bool s.none),.v (.int .i64 s.i)]
def aOI (s:oD):List aZ:=[⟨[.v (.int .i64 s.cap),.xl aSg s.ms],107,.cl,false⟩]
def Ez:Code:=((ax (Tryz.f59.body.getD .skip))[0]?).getD .skip
def XC (s:oD):T (Rd oD):=
 .br (decide (s.i<(s.ms.length:Int))) (.req (0≤s.i∧s.i<(s.ms.length:Int)) (.req (0≤(gi s.ms s.i)∧(gi s.ms s.i)<(s.al.length:Int)) (.req (0≤(gi s.ms s.i)∧(gi s.ms s.i)<(s.am.length:Int)) (.br s.none (.req (0≤(gi s.ms s.i)∧(gi s.ms s.i)<(s.am.length:Int)) (.ok (.next {s with sum:=(aSe (s.sum+(if (gi s.al (gi s.ms s.i))<(gi s.am (gi s.ms s.i)) then (gi s.am (gi s.ms s.i)) else (gi s.al (gi s.ms s.i))))),none:=((gi s.am (gi s.ms s.i))==0),i:=(aSe (s.i+1))}))) (.ok (.next {s with sum:=(aSe (s.sum+(if (gi s.al (gi s.ms s.i))<(gi s.am (gi s.ms s.i)) then (gi s.am (gi s.ms s.i)) else (gi s.al (gi s.ms s.i))))),none:=false,i:=(aSe (s.i+1))})))))) (.ok (.stop (.exit 0) s))
abbrev ahu (s:oD):=(XC s).rd s
def auo (s:oD):Prop:=s.i=0∧s.sum=0∧LC s.al s.am (s.cap,s.ms)
def Sm (s:oD):Prop:=(0≤s.i∧s.i≤(s.ms.length:Int))∧(0≤s.sum∧s.sum≤1000000*s.i)∧LC s.al s.am (s.cap,s.ms)
def UW (s:oD):Nat:=((s.ms.length:Int)-s.i).toNat
def aDa (_:Ex) (_ _:oD):Prop:=True
theorem aLA:∀s,auo s→Sm s:=by
 intro s h;obtain ⟨h0,h1,h2⟩:=h;exact ⟨by omega,by omega,h2⟩
theorem aAY (s:oD) (hI:Sm s) (c1:s.i<(s.ms.length:Int)):letI a:=gi s.ms s.i;0≤mx (gi s.al a) (gi s.am a)∧mx (gi s.al a) (gi s.am a)≤1000000:=by
 obtain ⟨h0,h2,h3,h4,h5,h6⟩:=hI
 have hm:=h4 (gi s.ms s.i) (jq (by omega) c1)
 exact aML (h5 _ (jq hm.1 hm.2.1)) (h6 _ (jq hm.1 hm.2.2))
theorem aFf (s:oD) (hI:Sm s):bJ (λs'=>Sm s'∧UW s'<UW s) (λx s'=>aDa x s s') (ahu s):=by
 unfold ahu XC;dsimp only [T.rd,T.rl]
 have hm:=λc1=>aAY s hI c1
 obtain ⟨⟨h0,h1⟩,⟨h2,h3⟩,h4⟩:=hI
 have hl:=h4.1
 simp only at hl;refine ai (λc1=>?_) (λc1=>trivial)
 have c1:s.i<(s.ms.length:Int):=by simpa using c1
 obtain ⟨m1,m2⟩:=hm c1
 have e:(if (gi s.al (gi s.ms s.i))<(gi s.am (gi s.ms s.i)) then (gi s.am (gi s.ms s.i)) else (gi s.al (gi s.ms s.i)))=mx (gi s.al (gi s.ms s.i)) (gi s.am (gi s.ms s.i)):=rfl
 rw [e,aH (x:=s.i+1),aH (x:=s.sum+mx (gi s.al (gi s.ms s.i)) (gi s.am (gi s.ms s.i)))];refine ai (λc2=>?_) (λc2=>?_)
 all_goals exact ⟨⟨⟨by simp only;omega,by simp only;omega⟩,⟨by simp only;omega,by simp only;omega⟩,h4⟩,by simp only [UW];omega⟩
def I8:bK oD:=⟨0,49,[1,2,3,7,8,9],[],aP0,aOI,λv b=>⟨aU aSg (v.getD 0 .junk),aU aSg (v.getD 1 .junk),gI (v.getD 3 .junk),vW (v.getD 4 .junk),gI (v.getD 5 .junk),gI (bn (aT b 0) 0),aU aSg (bn (aT b 0) 1)⟩,XC,λs r=> {r with al:=s.al,am:=s.am,cap:=s.cap,ms:=s.ms},λs=>s,λ_ s=>s,[.exit 0],auo,Sm,UW⟩
abbrev Ul:=I8.run
abbrev azC:=I8.jf
abbrev aJw:=I8.q
theorem aFA (s:oD) (hI:Sm s):(XC s).all (λ_=>True):=by
 refine ⟨λc1=>⟨?_,?_,?_,λc2=>⟨?_,trivial⟩,λ_=>trivial⟩,λ_=>trivial⟩
 all_goals ((obtain ⟨h0,h2,h3,h4,h5⟩:=hI;simp only [decide_eq_true_eq] at c1;have hm:=h4 (gi s.ms s.i) (jq (by omega) c1);omega))
def Zb:Specs:=aW []
theorem ag9:∀g S,Zb g=some S→Valid Tryz.prog aP g S:=aS (l:=[]) trivial
theorem aoT:I8.Ok:={}
theorem anE:I8.Pf (aDa):=⟨aLA,λ_ _=>rfl,aFf,aFA⟩
theorem avy:bC Tryz.prog aP (AN 0) (.loop Ez) I8.lp:=bK.snd aoT anE (aQ (Γ:=Zb) (K:=dR) (L:=ay) ag9 aA Ez (λb hb=>by rw [show ax Ez=[] by kernel_rfl] at hb;cases hb)) (λs=>by kernel_rfl)
theorem awP (s:oD) (hE:auo s):(λ(x:Ex) (s':oD) (v:Int×Bool)=>x=.exit 0∧(s'.sum,s'.none)=v) (azC s) (Ul s) ((λs:oD=>(s.sum+smM s.al s.am (s.ms.drop s.i.toNat),s.none&&(s.ms.drop s.i.toNat).all (λm=>gi s.am m==0))) s):=by
 exact bK.mD aoT anE (λs:oD=>(s.sum+smM s.al s.am (s.ms.drop s.i.toNat),s.none&&(s.ms.drop s.i.toNat).all (λm=>gi s.am m==0))) (λx s' v=>x=.exit 0∧(s'.sum,s'.none)=v) (λs hI=>by
  show bJ _ _ (ahu s)
  unfold ahu XC;dsimp only [T.rd,T.rl]
  have hm:=λc1=>aAY s hI c1
  obtain ⟨⟨h0,h1⟩,⟨h2,h3⟩,h4⟩:=hI
  have hl:=h4.1
  simp only at hl;refine ai (λc1=>?_) (λc1=>?_)
  ·have c1:s.i<(s.ms.length:Int):=by simpa using c1
   obtain ⟨m1,m2⟩:=hm c1
   have e:(if (gi s.al (gi s.ms s.i))<(gi s.am (gi s.ms s.i)) then (gi s.am (gi s.ms s.i)) else (gi s.al (gi s.ms s.i)))=mx (gi s.al (gi s.ms s.i)) (gi s.am (gi s.ms s.i)):=rfl
   rw [e,aH (x:=s.i+1),aH (x:=s.sum+mx (gi s.al (gi s.ms s.i)) (gi s.am (gi s.ms s.i)))];refine ai (λc2=>?_) (λc2=>?_)
   ·show (_,_)=(_,_)
    simp only;rw [(gi_step h0 c1).1,wG,List.all_cons,c2,Bool.true_and];simp only [Prod.mk.injEq,and_true];omega
   ·show (_,_)=(_,_)
    simp only;rw [(gi_step h0 c1).1,wG,List.all_cons,c2];simp only [Bool.false_and,Prod.mk.injEq,and_true];omega
  ·have c1:(s.ms.length:Int)≤s.i:=by simpa using c1
   refine ⟨rfl,?_⟩;rw [List.drop_eq_nil_of_le (by omega)]
   simp [smM]) s hE
def ai6:List LV→T LV
 | [.agg [.v (.int .i64 cap),.xl (.int .i64) ms],.xl (.int .i64) al,.xl (.int .i64) am]=> .req (LC al am (cap,ms)) (.ok (.v (.bool (rowB al am (cap,ms)))))
 |_=> .no
def adO:List LV→T LV:=gZ Tryz.prog Tryz.f59.params.toList ai6
theorem axR (cap:Int) (ms al am:List Int):letI a:=(Ul (⟨al,am,(0:Int),true,(0:Int),cap,ms⟩:oD));cO Tryz.prog aP (Zb) dR (λi=>if i=4 then I8.lp else ay i) Tryz.f59 [.agg [.v (.int .i64 cap),.xl aSg ms],.xl aSg al,.xl aSg am]=.req (aJw (⟨al,am,(0:Int),true,(0:Int),cap,ms⟩:oD)) (.ok (.v (.bool (a.none ||(decide (a.sum≤cap)))))):=by kernel_rfl
theorem aDN:Valid Tryz.prog aP 59 adO:=aI Tryz.func59 rfl ag9 aA (L:=(λi=>if i=4 then I8.lp else ay i)) (λb hb=>by
 rw [show ax _=[Ez] by kernel_rfl] at hb
 simp only [List.mem_cons,List.not_mem_nil,or_false] at hb;subst hb;exact avy) (λargs lv h=>by
 unfold ai6 at h;split at h
 ·simp only [canL,canX]
  rw [axR];rename_i cap ms al am;obtain ⟨hr,rfl⟩:=h;refine lK ⟨⟨rfl,rfl,hr⟩,rfl,rfl⟩ (λhE=>?_)
  obtain ⟨q1,q2⟩:=awP _ hE.1
  have e1:=congrArg Prod.fst q2
  have e2:=congrArg Prod.snd q2
  simp only at e1 e2;rw [e1,e2];simp only [Int.toNat_zero,List.drop_zero,Int.zero_add,Bool.true_and];exact rfl
 ·cases h)
structure qX where
 rows:List Rw
 al:List Int
 am:List Int
 r:Bool
 i:Int
def aP1 (s:qX):List LV:=[.xl wE s.rows,.xl aSg s.al,.xl aSg s.am,.v (.bool s.r),.v (.int .i64 s.i)]
def aOJ (_:qX):List aZ:=[]
def EC:Code:=((ax (Tryz.f25.body.getD .skip))[0]?).getD .skip
def afh (s:qX):T (Rd qX):=
 .br (decide (s.i<(s.rows.length:Int))) (.req (0≤s.i∧s.i<(s.rows.length:Int)) (.req (LC s.al s.am (rP s.rows s.i)) (.br (!(rowB s.al s.am (rP s.rows s.i))) (.ok (.stop (.ret) {s with r:=false})) (.ok (.next {s with i:=(aSe (s.i+1))}))))) (.ok (.stop (.exit 0) s))
abbrev aCy (s:qX):=(afh s).rd s
def O5 (s:qX) (j:Int):Bool:=rowB s.al s.am (rP s.rows j)
def aup (s:qX):Prop:=s.i=0∧0≤(s.rows.length:Int)∧(s.rows.length:Int)≤1000∧∀r∈s.rows,LC s.al s.am r
def Sr (s:qX):Prop:=0≤s.i∧s.i≤(s.rows.length:Int)∧(s.rows.length:Int)≤1000∧(∀r∈s.rows,LC s.al s.am r)∧∀j:Nat,(j:Int)<s.i→O5 s j=true
def UX (s:qX):Nat:=((s.rows.length:Int)-s.i).toNat
def atf (x:Ex) (_ s':qX):Prop:=(x=.exit 0∧∀j:Nat,(j:Int)<(s'.rows.length:Int)→O5 s' j=true)∨(x=.ret∧s'.r=false∧∃j:Nat,(j:Int)<(s'.rows.length:Int)∧O5 s' j=false)
theorem aLP:∀s,aup s→Sr s:=by
 intro s h;obtain ⟨h0,h1,h2,h3⟩:=h;exact ⟨by omega,by omega,h2,h3,λj hj=>by omega⟩
theorem aGy (s:qX) (hI:Sr s):bJ (λs'=>Sr s'∧UX s'<UX s) (λx s'=>atf x s s') (aCy s):=by
 unfold aCy afh;dsimp only [T.rd,T.rl];obtain ⟨h0,h1,h2,h3,h4⟩:=hI;refine ai (λc1=>ai (λc2=>?_) (λc2=>?_)) (λc1=>?_)
 ·have c1:s.i<(s.rows.length:Int):=by simpa using c1
  refine .inr ⟨rfl,rfl,s.i.toNat,by simp only;omega,?_⟩
  rw [Int.toNat_of_nonneg (by omega)]
  have hg:O5 s s.i=false:=by unfold O5;(first|(have c2:(!(rowB s.al s.am (rP s.rows s.i)))=false:=c2;simpa using c2) |(have c2:(!(rowB s.al s.am (rP s.rows s.i)))=true:=c2;simpa using c2))
  exact hg
 ·have c1:s.i<(s.rows.length:Int):=by simpa using c1
  have hg:O5 s s.i=true:=by unfold O5;(first|(have c2:(!(rowB s.al s.am (rP s.rows s.i)))=false:=c2;simpa using c2) |(have c2:(!(rowB s.al s.am (rP s.rows s.i)))=true:=c2;simpa using c2))
  rw [aH (x:=s.i+1)];refine ⟨⟨by simp only;omega,by simp only;omega,h2,h3,λj hj=>?_⟩,by simp only [UX];omega⟩
  by_cases hji:(j:Int)<s.i
  ·exact h4 j hji
  ·have:(j:Int)=s.i:=by simp only at hj;omega
   rw [this];exact hg
 ·have c1:(s.rows.length:Int)≤s.i:=by simpa using c1
  exact .inl ⟨rfl,λj hj=>h4 j (by omega)⟩
def I9:bK qX:=⟨0,22,[0,1,2,6,7],[],aP1,aOJ,λv _=>⟨aU wE (v.getD 0 .junk),aU aSg (v.getD 1 .junk),aU aSg (v.getD 2 .junk),vW (v.getD 3 .junk),gI (v.getD 4 .junk)⟩,afh,λs r=> {r with rows:=s.rows,al:=s.al,am:=s.am},λs=>s,λ_ s=>s,[.ret,.exit 0],aup,Sr,UX⟩
abbrev af0:=I9.run
abbrev ah8:=I9.jf
abbrev aJx:=I9.q
theorem aFB (s:qX) (hI:Sr s):(afh s).all (λ_=>True):=by
 refine ⟨λc1=>⟨?_,?_,λ_=>trivial,λ_=>trivial⟩,λ_=>trivial⟩
 all_goals ((obtain ⟨h0,h1,h2,h3,h4⟩:=hI;simp only [decide_eq_true_eq] at c1;first|omega|exact h3 _ (by rw [BX (by omega)];exact List.getElem_mem _)))
def arx:Specs:=aW [(59,adO)]
theorem aBW:∀g S,arx g=some S→Valid Tryz.prog aP g S:=aS (l:=[(59,adO)]) ⟨aDN,trivial⟩
theorem aoU:I9.Ok:={}
theorem anF:I9.Pf (atf):=⟨aLP,λ_ _=>rfl,aGy,aFB⟩
theorem avz:bC Tryz.prog aP (AN 0) (.loop EC) I9.lp:=bK.snd aoU anF (aQ (Γ:=arx) (K:=dR) (L:=ay) aBW aA EC (λb hb=>by rw [show ax EC=[] by kernel_rfl] at hb;cases hb)) (λs=>by kernel_rfl)
theorem awR (s:qX) (hE:aup s):∃s',Sr s'∧atf (ah8 s) s' (af0 s):=bK.fin aoU anF s hE
def Z5:List LV→T LV
 | [.xl (.pair (.int .i64) (.sl (.int .i64))) rows,.xl (.int .i64) al,.xl (.int .i64) am]=> .req ((rows.length:Int)≤1000∧∀r∈rows,LC al am r) (.ok (.v (.bool (Be rows al am))))
 |_=> .no
def WQ:List LV→T LV:=gZ Tryz.prog Tryz.f25.params.toList Z5
theorem apT (rows:List Rw) (al am:List Int):cO Tryz.prog aP (arx) dR (λi=>if i=2 then I9.lp else ay i) Tryz.f25 [.xl wE rows,.xl aSg al,.xl aSg am]=.req (aJx (⟨rows,al,am,false,(0:Int)⟩:qX)) (.br (iV (ah8 (⟨rows,al,am,false,(0:Int)⟩:qX)) (.ret)) (.ok (.v (.bool (af0 (⟨rows,al,am,false,(0:Int)⟩:qX)).r))) (.ok (.v (.bool true)))):=by kernel_rfl
theorem auT:Valid Tryz.prog aP 25 WQ:=aI Tryz.func25 rfl aBW aA (L:=(λi=>if i=2 then I9.lp else ay i)) (λb hb=>by
 rw [show ax _=[EC] by kernel_rfl] at hb
 simp only [List.mem_cons,List.not_mem_nil,or_false] at hb;subst hb;exact avz) (λargs lv h=>by
 unfold Z5 at h;split at h
 ·simp only [canL,canX]
  rw [apT];rename_i rows al am;obtain ⟨⟨hl,hr⟩,rfl⟩:=h;refine lK ⟨⟨rfl,Int.natCast_nonneg _,hl,hr⟩,rfl,rfl⟩ (λhE=>?_)
  obtain ⟨s',_,hq⟩:=awR _ hE.1;unfold Be;rcases hq with ⟨q1,q2⟩ |⟨q1,q2,j,q3,q4⟩
  ·have e:rows.all (rowB al am)=true:=(jm (d:=((0,[]):Rw))).1 λj hj=>q2 j hj
   rw [q1,e];exact ⟨λh=>(by cases h),λ_=>rfl⟩
  ·have e:rows.all (rowB al am)=false:=by
    rw [Bool.eq_false_iff];intro hx
    have:=(jm (d:=((0,[]):Rw))).2 hx j q3
    exact Bool.noConfusion (this.symm.trans q4)
   rw [q1,q2,e];exact ⟨λ_=>rfl,λh=>by cases h⟩
 ·cases h)
structure lT where
 a:List Int
 b:List Int
 r:Bool
 i:Int
def aKv (s:lT):List LV:=[.xl aSg s.a,.xl aSg s.b,.v (.bool s.r),.v (.int .i64 s.i)]
def aKt (_:lT):List aZ:=[]
def AQ:Code:=((ax (Tryz.f16.body.getD .skip))[0]?).getD .skip
def Uc (s:lT):T (Rd lT):=
 .br (decide (s.i<(s.a.length:Int))) (.req (0≤s.i∧s.i<(s.a.length:Int)) (.req (0≤s.i∧s.i<(s.b.length:Int)) (.br ((gi s.a s.i) !=(gi s.b s.i)) (.ok (.stop (.ret) {s with r:=false})) (.ok (.next {s with i:=(aSe (s.i+1))}))))) (.ok (.stop (.exit 0) s))
abbrev arT (s:lT):=(Uc s).rd s
def CS (s:lT) (j:Int):Bool:=gi s.a j==gi s.b j
def aeN (s:lT):Prop:=s.i=0∧0≤(s.a.length:Int)∧(s.a.length:Int)≤1000∧s.a.length=s.b.length
def Hy (s:lT):Prop:=0≤s.i∧s.i≤(s.a.length:Int)∧(s.a.length:Int)≤1000∧(s.a.length=s.b.length)∧∀j:Nat,(j:Int)<s.i→CS s j=true
def Kz (s:lT):Nat:=((s.a.length:Int)-s.i).toNat
def aeI (x:Ex) (_ s':lT):Prop:=(x=.exit 0∧∀j:Nat,(j:Int)<(s'.a.length:Int)→CS s' j=true)∨(x=.ret∧s'.r=false∧∃j:Nat,(j:Int)<(s'.a.length:Int)∧CS s' j=false)
theorem aGP:∀s,aeN s→Hy s:=by
 intro s h;obtain ⟨h0,h1,h2,h3⟩:=h;exact ⟨by omega,by omega,h2,h3,λj hj=>by omega⟩
theorem aw4 (s:lT) (hI:Hy s):bJ (λs'=>Hy s'∧Kz s'<Kz s) (λx s'=>aeI x s s') (arT s):=by
 unfold arT Uc;dsimp only [T.rd,T.rl];obtain ⟨h0,h1,h2,h3,h4⟩:=hI;refine ai (λc1=>ai (λc2=>?_) (λc2=>?_)) (λc1=>?_)
 ·have c1:s.i<(s.a.length:Int):=by simpa using c1
  refine .inr ⟨rfl,rfl,s.i.toNat,by simp only;omega,?_⟩
  rw [Int.toNat_of_nonneg (by omega)]
  have hg:CS s s.i=false:=by unfold CS;(simpa using c2)
  exact hg
 ·have c1:s.i<(s.a.length:Int):=by simpa using c1
  have hg:CS s s.i=true:=by unfold CS;(simpa using c2)
  rw [aH (x:=s.i+1)];refine ⟨⟨by simp only;omega,by simp only;omega,h2,h3,λj hj=>?_⟩,by simp only [Kz];omega⟩
  by_cases hji:(j:Int)<s.i
  ·exact h4 j hji
  ·have:(j:Int)=s.i:=by simp only at hj;omega
   rw [this];exact hg
 ·have c1:(s.a.length:Int)≤s.i:=by simpa using c1
  exact .inl ⟨rfl,λj hj=>h4 j (by omega)⟩
def zQ:bK lT:=⟨0,26,[0,1,4,5],[],aKv,aKt,λv _=>⟨aU aSg (v.getD 0 .junk),aU aSg (v.getD 1 .junk),vW (v.getD 2 .junk),gI (v.getD 3 .junk)⟩,Uc,λs r=> {r with a:=s.a,b:=s.b},λs=>s,λ_ s=>s,[.ret,.exit 0],aeN,Hy,Kz⟩
abbrev Yz:=zQ.run
abbrev Zp:=zQ.jf
abbrev aAK:=zQ.q
theorem awQ (s:lT) (hI:Hy s):(Uc s).all (λ_=>True):=by
 refine ⟨λc1=>⟨?_,?_,λ_=>trivial,λ_=>trivial⟩,λ_=>trivial⟩
 all_goals ((obtain ⟨h0,h1,h2,h3,h4⟩:=hI;simp at c1;omega))
theorem agB:zQ.Ok:={}
theorem agy:zQ.Pf (aeI):=⟨aGP,λ_ _=>rfl,aw4,awQ⟩
theorem amG:bC Tryz.prog aP (AN 0) (.loop AQ) zQ.lp:=bK.snd agB agy (aQ (Γ:=Zb) (K:=dR) (L:=ay) ag9 aA AQ (λb hb=>by rw [show ax AQ=[] by kernel_rfl] at hb;cases hb)) (λs=>by kernel_rfl)
theorem anb (s:lT) (hE:aeN s):∃s',Hy s'∧aeI (Zp s) s' (Yz s):=bK.fin agB agy s hE
def Z8:List LV→T LV
 | [.xl (.int .i64) a,.xl (.int .i64) b]=> .req ((a.length:Int)≤1000) (.ok (.v (.bool (a==b))))
 |_=> .no
def FU:List LV→T LV:=gZ Tryz.prog Tryz.f16.params.toList Z8
theorem apV (a b:List Int):cO Tryz.prog aP (Zb) dR (λi=>if i=4 then zQ.lp else ay i) Tryz.f16 [.xl aSg a,.xl aSg b]=.br ((a.length:Int) !=(b.length:Int)) (.ok (.v (.bool false))) (.req (aAK (⟨a,b,false,(0:Int)⟩:lT)) (.br (iV (Zp (⟨a,b,false,(0:Int)⟩:lT)) (.ret)) (.ok (.v (.bool (Yz (⟨a,b,false,(0:Int)⟩:lT)).r))) (.ok (.v (.bool true))))):=by kernel_rfl
theorem aeU:Valid Tryz.prog aP 16 FU:=aI Tryz.func16 rfl ag9 aA (L:=(λi=>if i=4 then zQ.lp else ay i)) (λb hb=>by
 rw [show ax _=[AQ] by kernel_rfl] at hb
 simp only [List.mem_cons,List.not_mem_nil,or_false] at hb;subst hb;exact amG) (λargs lv h=>by
 unfold Z8 at h;split at h
 ·simp only [canL,canX]
  rw [apV];rename_i a b;obtain ⟨hl,rfl⟩:=h;refine ⟨λc=>congrArg (λz=>LV.v (.bool z)) ?_,λc=>?_⟩
  ·have c:¬a.length=b.length:=by simp at c;omega
   rw [eq_comm,beq_eq_false_iff_ne];exact λe=>c (by rw [e])
  ·have c:a.length=b.length:=by simp at c;omega
   refine lK ⟨⟨rfl,Int.natCast_nonneg _,hl,c⟩,rfl,rfl⟩ (λhE=>?_)
   obtain ⟨s',_,hq⟩:=anb _ hE.1;rcases hq with ⟨q1,q2⟩ |⟨q1,q2,j,q3,q4⟩
   ·have e:(a==b)=true:=by
     rw [beq_iff_eq];refine List.ext_getElem c λj h1 h2=>?_
     have:(gi a j==gi b j)=true:=q2 j (by show (j:Int)<(a.length:Int);omega)
     rw [jA (by simpa using h1),jA (by simpa using h2)] at this
     simpa using this
    rw [q1,e];exact ⟨λh=>(by cases h),λ_=>rfl⟩
   ·have e:(a==b)=false:=by
     rw [beq_eq_false_iff_ne]
     rintro rfl
     have q4:(gi a j==gi a j)=false:=q4
     simp at q4
    rw [q1,q2,e];exact ⟨λ_=>rfl,λh=>by cases h⟩
 ·cases h)
structure pW where
 al:List Int
 mo:List Int
 od:List Int
 rows:List Rw
 level:Int
 k:Int
 cs:List Cd
 os:List ByteArray
 ks:List Ko
 gs:List Ch
 bs:List Ba
 out:List Int
def aPY (s:pW):List LV:=[.xl aSg s.al,.xl aSg s.mo,.xl aSg s.od,.own 0 0,.xl wE s.rows,.os 1 1 0 (s.out.length),.v (.int .i64 s.level),.v (.int .i64 s.k)]
def aOG (s:pW):List aZ:=[⟨[.xl dY s.cs,.xl .str s.os,.xl fC s.ks,.xl dP s.gs,.xl fD s.bs],28,.cl,false⟩,⟨[],3,.vec aSg s.out,false⟩]
def Ey:Code:=((ax (((ax (Tryz.f39.body.getD .skip))[0]?).getD .skip))[0]?).getD .skip
def XA (s:pW):T (Rd pW):=
 .br (decide (s.k<(s.od.length:Int))) (.req (0≤s.k∧s.k<(s.od.length:Int)) (.req (0≤(gi s.od s.k)∧(gi s.od s.k)<(s.gs.length:Int)) (.req (0≤(gi s.od s.k)∧(gi s.od s.k)<((s.out.length:Nat):Int)) (.req ((gi s.od s.k).toNat<s.out.length) (.br ((amE (bG s.gs (gi s.od s.k)).2.2.2.1 (bG s.gs (gi s.od s.k)).2.2.2.2.1 (bG s.gs (gi s.od s.k)).2.2.2.2.2.1 s.level) !=0) (.rl s.out (.ok (.next {s with k:=(aSe (s.k+1))}))) (.req (0≤(gi s.od s.k)∧(gi s.od s.k)<(s.mo.length:Int)) (.br ((decide ((P9 (bG s.gs (gi s.od s.k)).2.2.2.1 (bG s.gs (gi s.od s.k)).2.2.2.2.1 (bG s.gs (gi s.od s.k)).2.2.2.2.2.1 s.level)>(gi s.mo (gi s.od s.k)))) ||((s.out.getD (gi s.od s.k).toNat (Ty.dflt aSg)) !=(P9 (bG s.gs (gi s.od s.k)).2.2.2.1 (bG s.gs (gi s.od s.k)).2.2.2.2.1 (bG s.gs (gi s.od s.k)).2.2.2.2.2.1 (aSe (s.level-1))))) (.rl s.out (.ok (.next {s with k:=(aSe (s.k+1))}))) (.req (0≤(gi s.od s.k)∧(gi s.od s.k)<((s.out.length:Nat):Int)) (.req ((gi s.od s.k).toNat<s.out.length) (.req (0+(s.out.length)≤List.length (s.out.set (gi s.od s.k).toNat (P9 (bG s.gs (gi s.od s.k)).2.2.2.1 (bG s.gs (gi s.od s.k)).2.2.2.2.1 (bG s.gs (gi s.od s.k)).2.2.2.2.2.1 s.level))) (.req ((s.rows.length:Int)≤1000∧∀r∈s.rows,LC s.al (((s.out.set (gi s.od s.k).toNat (P9 (bG s.gs (gi s.od s.k)).2.2.2.1 (bG s.gs (gi s.od s.k)).2.2.2.2.1 (bG s.gs (gi s.od s.k)).2.2.2.2.2.1 s.level)).drop 0).take (s.out.length)) r) (.br (!(Be s.rows s.al (((s.out.set (gi s.od s.k).toNat (P9 (bG s.gs (gi s.od s.k)).2.2.2.1 (bG s.gs (gi s.od s.k)).2.2.2.2.1 (bG s.gs (gi s.od s.k)).2.2.2.2.2.1 s.level)).drop 0).take (s.out.length)))) (.req (0≤(gi s.od s.k)∧(gi s.od s.k)<((s.out.length:Nat):Int)) (.req ((gi s.od s.k).toNat<List.length (s.out.set (gi s.od s.k).toNat (P9 (bG s.gs (gi s.od s.k)).2.2.2.1 (bG s.gs (gi s.od s.k)).2.2.2.2.1 (bG s.gs (gi s.od s.k)).2.2.2.2.2.1 s.level))) (.req (0=0∧(s.out.length)=List.length ((s.out.set (gi s.od s.k).toNat (P9 (bG s.gs (gi s.od s.k)).2.2.2.1 (bG s.gs (gi s.od s.k)).2.2.2.2.1 (bG s.gs (gi s.od s.k)).2.2.2.2.2.1 s.level)).set (gi s.od s.k).toNat (s.out.getD (gi s.od s.k).toNat (Ty.dflt aSg)))) (.ok (.next {s with k:=(aSe (s.k+1)),out:=((s.out.set (gi s.od s.k).toNat (P9 (bG s.gs (gi s.od s.k)).2.2.2.1 (bG s.gs (gi s.od s.k)).2.2.2.2.1 (bG s.gs (gi s.od s.k)).2.2.2.2.2.1 s.level)).set (gi s.od s.k).toNat (s.out.getD (gi s.od s.k).toNat (Ty.dflt aSg)))}))))) (.req (0=0∧(s.out.length)=List.length (s.out.set (gi s.od s.k).toNat (P9 (bG s.gs (gi s.od s.k)).2.2.2.1 (bG s.gs (gi s.od s.k)).2.2.2.2.1 (bG s.gs (gi s.od s.k)).2.2.2.2.2.1 s.level))) (.ok (.next {s with k:=(aSe (s.k+1)),out:=(s.out.set (gi s.od s.k).toNat (P9 (bG s.gs (gi s.od s.k)).2.2.2.1 (bG s.gs (gi s.od s.k)).2.2.2.2.1 (bG s.gs (gi s.od s.k)).2.2.2.2.2.1 s.level))}))))))))))))))) (.rl s.out (.ok (.stop (.exit 2) s)))
abbrev ahs (s:pW):=(XA s).rd s
def ako (s:pW):Prop:=s.k=0∧(1≤s.level∧s.level≤80)∧aam s.rows s.gs s.al s.mo s.od∧FZ s.gs s.out
def aan (s:pW):Prop:=(0≤s.k∧s.k≤(s.od.length:Int))∧(1≤s.level∧s.level≤80)∧aam s.rows s.gs s.al s.mo s.od∧FZ s.gs s.out
def BQ (s:pW):Nat:=((s.od.length:Int)-s.k).toNat
def aC8 (_:Ex) (_ _:pW):Prop:=True
theorem aLy:∀s,ako s→aan s:=by
 intro s h;obtain ⟨h0,h1⟩:=h;exact ⟨by omega,h1⟩
theorem aFd (s:pW) (hI:aan s):bJ (λs'=>aan s'∧BQ s'<BQ s) (λx s'=>aC8 x s s') (ahs s):=by
 unfold ahs XA;dsimp only [T.rd,T.rl];obtain ⟨⟨h0,h1⟩,hl,hR,hO⟩:=hI
 have hol:=hR.ol
 refine ai (λc1=>?_) (λc1=>trivial)
 have c1:s.k<(s.od.length:Int):=by simpa using c1
 have hi:=hR.ord _ (jq h0 c1)
 have hlen:=hO.len
 have hb:=adE (mi:=(bG s.gs (gi s.od s.k)).2.2.2.1) (ma:=(bG s.gs (gi s.od s.k)).2.2.2.2.1) (st:=(bG s.gs (gi s.od s.k)).2.2.2.2.2.1) (k:=s.level)
 rw [aH (x:=s.k+1)];refine ai (λc2=>?_) (λc2=>ai (λc3=>?_) (λc3=>ai (λc4=>?_) (λc4=>?_)))
 ·exact ⟨⟨⟨by simp only;omega,by simp only;omega⟩,hl,hR,hO⟩,by simp only [BQ];omega⟩
 ·exact ⟨⟨⟨by simp only;omega,by simp only;omega⟩,hl,hR,hO⟩,by simp only [BQ];omega⟩
 ·refine ⟨⟨⟨by simp only;omega,by simp only;omega⟩,hl,hR,?_⟩,by simp only [BQ];omega⟩
  simp only;exact (YH (v:=uy s.gs (gi s.od s.k) s.level) (show (gi s.od s.k).toNat<s.out.length by omega)).symm▸hO
 ·exact ⟨⟨⟨by simp only;omega,by simp only;omega⟩,hl,hR,hO.put (by omega)⟩,by simp only [BQ];omega⟩
def PI:bK pW:=⟨0,118,[1,2,3,4,10,12,13,14],[],aPY,aOG,λv b=>⟨aU aSg (v.getD 0 .junk),aU aSg (v.getD 1 .junk),aU aSg (v.getD 2 .junk),aU wE (v.getD 4 .junk),gI (v.getD 6 .junk),gI (v.getD 7 .junk),aU dY (bn (aT b 0) 0),aU .str (bn (aT b 0) 1),aU fC (bn (aT b 0) 2),aU dP (bn (aT b 0) 3),aU fD (bn (aT b 0) 4),iW aSg (aT b 1)⟩,XA,λs r=> {r with al:=s.al,mo:=s.mo,od:=s.od,rows:=s.rows,level:=s.level,cs:=s.cs,os:=s.os,ks:=s.ks,gs:=s.gs,bs:=s.bs},λs=>s,λ_ s=>s,[.exit 2],ako,aan,BQ⟩
abbrev Du:=PI.run
abbrev azA:=PI.jf
abbrev aJu:=PI.q
theorem aFy (s:pW) (hI:aan s):(XA s).all (λ_=>True):=by
 refine ⟨λc1=>⟨?_,?_,?_,?_,λc2=>⟨aSf,trivial⟩,λc2=>⟨?_,λc3=>⟨aSf,trivial⟩,λc3=>⟨?_,?_,?_,?_,λc4=>⟨?_,?_,?_,trivial⟩,λc4=>⟨?_,trivial⟩⟩⟩⟩,λc1=>⟨aSf,trivial⟩⟩
 iterate 8 · (obtain ⟨⟨h0,h1⟩,hl,hR,hO⟩:=hI;simp only [decide_eq_true_eq] at c1;have hi:=hR.ord _ (jq h0 c1);have hlen:=hO.len;have hml:=hR.mol;first|omega|(simp only [List.length_set];omega))
 ·(obtain ⟨⟨h0,h1⟩,hl,hR,hO⟩:=hI;exact ⟨hR.rl,λr hr=>hR.LC (show FZ s.gs _ by (rw [List.drop_zero,List.take_of_length_le (by rw [List.length_set];exact Nat.le_refl _)];exact hO.put (by have:=adE (mi:=(bG s.gs (gi s.od s.k)).2.2.2.1) (ma:=(bG s.gs (gi s.od s.k)).2.2.2.2.1) (st:=(bG s.gs (gi s.od s.k)).2.2.2.2.2.1) (k:=s.level);omega))) r hr⟩)
 iterate 2 · (obtain ⟨⟨h0,h1⟩,hl,hR,hO⟩:=hI;simp only [decide_eq_true_eq] at c1;have hi:=hR.ord _ (jq h0 c1);have hlen:=hO.len;have hml:=hR.mol;first|omega|(simp only [List.length_set];omega))
 iterate 2 · exact ⟨rfl,by simp⟩
def ahg:Specs:=aW [(21,adP),(25,WQ),(80,adX),(81,ad2),(82,adW)]
theorem aq5:∀g S,ahg g=some S→Valid Tryz.prog aP g S:=aS (l:=[(21,adP),(25,WQ),(80,adX),(81,ad2),(82,adW)]) ⟨aDO,auT,aDW,aD0,aDV,trivial⟩
theorem aoR:PI.Ok:={}
theorem anC:PI.Pf (aC8):=⟨aLy,λ_ _=>rfl,aFd,aFy⟩
theorem avw:bC Tryz.prog aP (AN 0) (.loop Ey) PI.lp:=bK.snd aoR anC (aQ (Γ:=ahg) (K:=dR) (L:=ay) aq5 aA Ey (λb hb=>by rw [show ax Ey=[] by kernel_rfl] at hb;cases hb)) (λs=>by kernel_rfl)
theorem agp (s:pW) (hE:ako s):(λ(x:Ex) (s':pW) (v:List Int)=>x=.exit 2∧s'.out=v) (azA s) (Du s) ((λs:pW=>Xi s.rows s.gs s.al s.mo s.level s.out (s.od.drop s.k.toNat)) s):=by
 exact bK.mD aoR anC (λs:pW=>Xi s.rows s.gs s.al s.mo s.level s.out (s.od.drop s.k.toNat)) (λx s' v=>x=.exit 2∧s'.out=v) (λs hI=>by
  show bJ _ _ (ahs s)
  unfold ahs XA;dsimp only [T.rd,T.rl];obtain ⟨⟨h0,h1⟩,hl,hR,hO⟩:=hI
  have hol:=hR.ol
  refine ai (λc1=>?_) (λc1=>?_)
  ·have c1:s.k<(s.od.length:Int):=by simpa using c1
   have hi:=hR.ord _ (jq h0 c1)
   have hlen:=hO.len
   have e1:((s.out.set (gi s.od s.k).toNat (uy s.gs (gi s.od s.k) s.level)).drop 0).take s.out.length=s.out.set (gi s.od s.k).toNat (uy s.gs (gi s.od s.k) s.level):=by
    rw [List.drop_zero,List.take_of_length_le (by rw [List.length_set];exact Nat.le_refl _)]
   rw [aH (x:=s.k+1),aH (x:=s.level-1)]
   have hst:=(gi_step h0 c1).1
   refine ai (λc2=>?_) (λc2=>ai (λc3=>?_) (λc3=>ai (λc4=>?_) (λc4=>?_)))
   ·have c2:(Ol s.gs (gi s.od s.k) s.level !=0)=true:=c2
    show Xi _ _ _ _ _ _ _=Xi _ _ _ _ _ _ _
    rw [hst,yY,rfS,if_pos c2]
   ·have c2:(Ol s.gs (gi s.od s.k) s.level !=0)=false:=c2
    have c3:(decide (uy s.gs (gi s.od s.k) s.level>gi s.mo (gi s.od s.k)) ||(s.out.getD (gi s.od s.k).toNat 0 !=uy s.gs (gi s.od s.k) (s.level-1)))=true:=c3
    show Xi _ _ _ _ _ _ _=Xi _ _ _ _ _ _ _
    rw [hst,yY,rfS,if_neg (by rw [c2];simp),if_pos c3]
   ·have c2:(Ol s.gs (gi s.od s.k) s.level !=0)=false:=c2
    have c3:(decide (uy s.gs (gi s.od s.k) s.level>gi s.mo (gi s.od s.k)) ||(s.out.getD (gi s.od s.k).toNat 0 !=uy s.gs (gi s.od s.k) (s.level-1)))=false:=c3
    have c4:Be s.rows s.al (s.out.set (gi s.od s.k).toNat (uy s.gs (gi s.od s.k) s.level))=false:=by rw [←e1];exact nt c4
    show Xi _ _ _ _ _ _ _=Xi _ _ _ _ _ _ _
    rw [hst,yY,rfS,if_neg (by rw [c2];simp),if_neg (by rw [c3];simp),if_neg (by rw [c4];simp)]
    exact congrArg (λo=>Xi _ _ _ _ _ o _) (YH (v:=uy s.gs (gi s.od s.k) s.level) (show (gi s.od s.k).toNat<s.out.length by omega))
   ·have c2:(Ol s.gs (gi s.od s.k) s.level !=0)=false:=c2
    have c3:(decide (uy s.gs (gi s.od s.k) s.level>gi s.mo (gi s.od s.k)) ||(s.out.getD (gi s.od s.k).toNat 0 !=uy s.gs (gi s.od s.k) (s.level-1)))=false:=c3
    have c4:Be s.rows s.al (s.out.set (gi s.od s.k).toNat (uy s.gs (gi s.od s.k) s.level))=true:=by rw [←e1];exact nf c4
    show Xi _ _ _ _ _ _ _=Xi _ _ _ _ _ _ _
    rw [hst,yY,rfS,if_neg (by rw [c2];simp),if_neg (by rw [c3];simp),if_pos c4]
    rfl
  ·have c1:(s.od.length:Int)≤s.k:=by simpa using c1
   refine ⟨rfl,?_⟩;rw [List.drop_eq_nil_of_le (by omega)]
   rfl) s hE
structure lQ where
 al:List Int
 mo:List Int
 od:List Int
 rows:List Rw
 level:Int
 cs:List Cd
 os:List ByteArray
 ks:List Ko
 gs:List Ch
 bs:List Ba
 out:List Int
def aPZ (s:lQ):List LV:=[.xl aSg s.al,.xl aSg s.mo,.xl aSg s.od,.own 0 0,.xl wE s.rows,.os 1 1 0 (s.out.length),.v (.int .i64 s.level)]
def aOH (s:lQ):List aZ:=[⟨[.xl dY s.cs,.xl .str s.os,.xl fC s.ks,.xl dP s.gs,.xl fD s.bs],28,.cl,false⟩,⟨[],3,.vec aSg s.out,false⟩]
def NZ:Code:=((ax (Tryz.f39.body.getD .skip))[0]?).getD .skip
end Go.Proofs.YtlihnbimgclogaaGreatDoor
end
