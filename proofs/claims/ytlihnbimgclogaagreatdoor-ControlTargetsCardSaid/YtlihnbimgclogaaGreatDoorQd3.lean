/- ControlTargets returns true for all arguments: no current is greater than the target, and all currents together are permitted beside what may be alive. Conditions: none; the table ramp.happens holds what its text says. -/
import Derived.Test.YtlihnbimgclogaaGreatDoorQd2
namespace Go.Proofs.YtlihnbimgclogaaGreatDoor
open Go.Sx
theorem Gx {cs:List Cd}{gs:List Ch}{r:Rw}:∀ {k:Nat},r∈jc cs gs k→∃c p:Int,(0≤c∧c<(k:Int))∧(p=0∨p=1∨p=2)∧r=(dP (fO cs c),gW gs p (sQ cs gs c gs.length))∧r.2.length>0
 |0,h=>by cases h
 | k+1,h=>by
  rw [jc,List.mem_append] at h
  rcases h with h|h
  ·obtain ⟨c,p,h1,h2,h3⟩:=Gx h
   exact ⟨c,p,⟨h1.1,by omega⟩,h2,h3⟩
  ·unfold am5 at h
   rw [List.mem_append,List.mem_append] at h
   rcases h with (h|h) |h
   ·obtain ⟨h1,h2⟩:=Gv h
    exact ⟨k,0,⟨by omega,by omega⟩,by simp,h1,by rw [h1];exact h2⟩
   ·obtain ⟨h1,h2⟩:=Gv h
    exact ⟨k,1,⟨by omega,by omega⟩,by simp,h1,by rw [h1];exact h2⟩
   ·obtain ⟨h1,h2⟩:=Gv h
    exact ⟨k,2,⟨by omega,by omega⟩,by simp,h1,by rw [h1];exact h2⟩
theorem row_mem {cs:List Cd}{gs:List Ch}{r:Rw}{k:Nat}(h:r∈jc cs gs k):r.2.Nodup∧(∀m∈r.2,0≤m∧m<(gs.length:Int))∧r.2.length≤gs.length∧r.2.length>0:=by
 obtain ⟨c,p,h1,h2,h3,h4⟩:=Gx h
 subst h3
 refine ⟨zH _ Xp,fun m hm=>TU (ap8.1 hm).1,Nat.le_trans ap9 IQ,h4⟩
def o8 (gs:List Ch) (lv:List Int):List Int:=(List.range gs.length).map (fun k:Nat=>xO gs (k:Int) (lv.getD k 0))
def OL (rows:List Rw):List (List Int):=Qw (List.replicate 16 []) 0 rows
def SM (alive:List Int) (rows:List Rw):List Int:=Qv alive (List.replicate rows.length 0) 0 rows
def qH (cs:List Cd) (os:List ByteArray) (ks:List Ko) (gs:List Ch) (bs:List Ba) (al mo od:List Int):Bool:=fM cs os ks gs bs&&(decide (al.length=gs.length)&&(decide (mo.length=gs.length)&&(al.all uD&&(mo.all uD&&mG od gs.length))))
def shV (rows:List Rw) (gs:List Ch) (al mo od:List Int):List Int:=shl (OL rows) rows gs al mo od 81 1 (SM al rows) (List.replicate al.length 0)
def shE (cs:List Cd) (os:List ByteArray) (ks:List Ko) (gs:List Ch) (bs:List Ba) (al mo od:List Int):Int:=if qH cs os ks gs bs al mo od=true then 0 else 1
def wS (cs:List Cd) (os:List ByteArray) (ks:List Ko) (gs:List Ch) (bs:List Ba) (al mo od:List Int):List Int:=if qH cs os ks gs bs al mo od=true then o8 gs (shV (jc cs gs cs.length) gs al mo od) else []
theorem iP {cs:List Cd}{os:List ByteArray}{ks:List Ko}{gs:List Ch}{bs:List Ba}{al mo od:List Int}:qH cs os ks gs bs al mo od=true↔fM cs os ks gs bs=true∧al.length=gs.length∧mo.length=gs.length∧al.all uD=true∧mo.all uD=true∧mG od gs.length=true:=by
 simp [qH]
theorem ahY:∀ {l:List Int}{f:Int},Wv f l≤f
 | [],f=>Int.le_refl _
 |n::l,f=>by
  have:Wv f (n::l)=Wv (if n<f then n else f) l:=rfl
  rw [this]
  have:=ahY (l:=l) (f:=if n<f then n else f)
  split at this<;>rename_i h
  ·rw [if_pos h];omega
  ·rw [if_neg h];exact this
theorem aoX {c:Cd}:dP c≤c.2.2.1:=by
 unfold dP
 split<;>exact ahY
theorem Dv {rows:List Rw}:(OL rows).length=16:=by rw [OL,Gn,List.length_replicate]
theorem Yr {rows:List Rw}(h:∀r∈rows,ahR r) {k:Nat}(hk:k<16):(OL rows).getD k []=ofF 0 rows k:=by
 rw [OL,YG h (by simpa using hk)]
 have:(List.replicate 16 ([]:List Int)).getD k []=[]:=by
  rw [List.getD_eq_getElem?_getD,List.getElem?_replicate]
  split<;>rfl
 rw [this,List.nil_append]
theorem am3 {cs:List Cd}{gs:List Ch}{k:Nat}:∀r∈jc cs gs k,ahR r:=fun _ hr=>⟨(row_mem hr).1,fun m hm=>((row_mem hr).2.1 m hm).1⟩
theorem Du {al:List Int}{rows:List Rw}:(SM al rows).length=rows.length:=by rw [SM,Gm,List.length_replicate]
theorem ajO {al:List Int}{rows:List Rw}{k:Nat}(hk:k<rows.length):(SM al rows).getD k 0=smA al (o5 rows k).2:=by
 rw [SM,YF (Int.le_refl _) (by simpa using hk),if_pos (by omega),Int.sub_zero]
 simp [List.getD,hk]
theorem CX {od:List Int}{n i:Int}(h:mG od n=true) (hi:i∈od):0≤i∧i<n:=by
 unfold mG at h
 simp only [Bool.and_eq_true,List.all_eq_true] at h
 exact zD.1 (h.2.1 i hi)
theorem aAb {cs:List Cd}{os:List ByteArray}{ks:List Ko}{gs:List Ch}{bs:List Ba}{al mo od:List Int}(h:qH cs os ks gs bs al mo od=true):OkT (OL (jc cs gs cs.length)) (jc cs gs cs.length) gs al mo od∧OkS (jc cs gs cs.length) od (SM al (jc cs gs cs.length)) (List.replicate al.length 0):=by
 obtain ⟨hv,h1,h2,h3,h4,h5⟩:=iP.1 h
 have hl:=(gq.1 hv).1
 have ha:∀a∈al,0≤a∧a≤80:=fun a ha=>oC.1 (List.all_eq_true.1 h3 a ha)
 refine ⟨⟨Dv,fun i hi=>?_,ha,fun a ha=>oC.1 (List.all_eq_true.1 h4 a ha),fun i hi=>?_,fun o ho=>?_,fun r hr=>?_⟩,⟨Du,fun k=>?_,fun i hi=>?_,fun k=>?_⟩⟩
 ·have:=CX h5 hi
  omega
 ·have hi:=CX h5 hi
  have:=su hv hi.1 hi.2
  unfold FW chW at this
  simp only [Bool.and_eq_true,dN] at this
  exact fG.2 (by omega)
 ·obtain ⟨k,hk,rfl⟩:=List.mem_iff_getElem.1 ho
  rw [Dv] at hk
  have e:=Yr (rows:=jc cs gs cs.length) am3 hk
  rw [List.getD_eq_getElem?_getD,List.getElem?_eq_getElem (by rw [Dv];exact hk),Option.getD_some] at e
  rw [e]
  have hln:=ZX (rs:=jc cs gs cs.length) (i:=0) (j:=k)
  have hrn:=vF (cs:=cs) (gs:=gs) (k:=cs.length)
  refine ⟨xA,by omega,fun r hr=>?_⟩
  have:=tV.1 hr
  omega
 ·obtain ⟨c,p,hc,hp,rfl,_⟩:=Gx hr
  have hcv:=Ri hv hc.1 hc.2
  unfold D8 at hcv
  simp only [Bool.and_eq_true,dN] at hcv
  have:=aoX (c:=fO cs c)
  simp only
  omega
 ·by_cases hk:k<(jc cs gs cs.length).length
  ·rw [ajO hk]
   have hr:o5 (jc cs gs cs.length) (k:Int)∈jc cs gs cs.length:=by rw [yO (by simpa using hk)];exact List.getElem_mem _
   obtain ⟨m1,m2,m3,_⟩:=row_mem hr
   have:=aeY ha (l:=(o5 (jc cs gs cs.length) (k:Int)).2) (fun m hm=>by have:=m2 m hm;omega)
   omega
  ·rw [List.getD_eq_getElem?_getD,List.getElem?_eq_none (by rw [Du];omega)]
   simp
 ·have:=CX h5 hi
  rw [List.length_replicate]
  omega
 ·have:(List.replicate al.length (0:Int)).getD k 0=0:=by
   simp only [List.getD,List.getElem?_replicate]
   split<;>rfl
  rw [this]
  omega
theorem Zu {xs:List Int}{r:Nat}{v:Int}:(xs++List.replicate (r+1) 0).set xs.length v=xs++[v]++List.replicate r 0:=by
 rw [List.set_append_right _ _ (Nat.le_refl _),Nat.sub_self,List.replicate_succ,List.set_cons_zero,List.append_assoc,List.singleton_append]
def Xw (gs:List Ch) (lv:List Int) (n:Nat):List Int:=(List.range n).map (fun k:Nat=>xO gs (k:Int) (lv.getD k 0))
theorem aef {gs:List Ch}{lv:List Int}{n:Nat}:Xw gs lv (n+1)=Xw gs lv n++[xO gs (n:Int) (lv.getD n 0)]:=by
 simp [Xw,List.range_succ]
theorem wE {gs:List Ch}{lv:List Int}{n:Nat}:(Xw gs lv n).length=n:=by simp [Xw]
end Go.Proofs.YtlihnbimgclogaaGreatDoor
namespace Go.Proofs.YtlihnbimgclogaaGreatDoor
open Go.Sx
theorem ntW {b:Bool}(h:(!b)=true):b=false:=by cases b<;>simp_all
theorem NS {b:Bool}(h:(!b)=false):b=true:=by cases b<;>simp_all
def wt (n:Int):Int:=(n*1000000+999799) / 999800
def wtA (n:Int):Int:=if inB n 0 1000000=true then wt n else 0
def wtE (n:Int):Int:=if inB n 0 1000000=true then 0 else 1
theorem aeB {m n:Int}:m*999800 / 1000000≥n↔wt n≤m:=by
 unfold wt
 omega
theorem aEb {a b:Int}(a0:0≤a) (a1:a≤3000000) (b0:0≤b) (b1:b≤1000000):0≤a*b∧a*b≤3000000000000:=
 ⟨Int.mul_nonneg a0 b0,Int.le_trans (Int.mul_le_mul_of_nonneg_left b1 a0) (by omega)⟩
theorem aeC {n:Int}(h0:0≤n):0≤wt n∧wt n≤2*n+2:=by
 unfold wt
 omega
abbrev ng:Ty:=.pair (.int .i64) (.pair (.int .i64) (.pair (.int .i64) (.pair (.int .i64) (.int .i64))))
abbrev Le:=Int×Int×Int×Int×Int
def gZ (l:List Le) (n:Int):Le:=l.getD n.toNat (0,0,0,0,0)
def leV (x:Le):Bool:=inB x.1 1 1000000&&(inB x.2.1 0 15&&(inB x.2.2.1 0 80&&(inB x.2.2.2.1 0 1000000&&inB x.2.2.2.2 1 1000)))
def Tj (b x:Le):Bool:=decide (x.1>b.1)&&decide (x.2.2.2.1≥b.2.2.2.1)
def jM (l:List Le) (j:Int):Bool:=leV (gZ l j)&&(decide (j=0) ||Tj (gZ l (j-1)) (gZ l j))
def oV (l:List Le):Bool:=decide (l.length≤64)&&JL l.length (jM l)
theorem Pz {l:List Le}{n:Int}(h:n.toNat<l.length):gZ l n=l[n.toNat]:=vV h
theorem sN {l:List Le}{i:Int}(h0:0≤i) (h:i<l.length):l.drop i.toNat=gZ l i::l.drop (i+1).toNat∧l.take (i+1).toNat=l.take i.toNat++[gZ l i]:=ul h0 h
theorem kC {l:List Le}{i:Int}(h0:0≤i) (h:i<l.length):gZ l i∈l:=by
 rw [Pz (by omega)]
 exact List.getElem_mem _
theorem Pm {x:Le}:leV x=true↔(1≤x.1∧x.1≤1000000)∧(0≤x.2.1∧x.2.1≤15)∧(0≤x.2.2.1∧x.2.2.1≤80)∧(0≤x.2.2.2.1∧x.2.2.2.1≤1000000)∧1≤x.2.2.2.2∧x.2.2.2.2≤1000:=by
 unfold leV
 simp only [Bool.and_eq_true,dN]
theorem vT {l:List Le}(h:oV l=true):l.length≤64∧∀x∈l,leV x=true:=by
 unfold oV at h
 rw [Bool.and_eq_true] at h
 refine ⟨of_decide_eq_true h.1,fun x hx=>?_⟩
 obtain ⟨k,hk,rfl⟩:=List.mem_iff_getElem.1 hx
 have:=fU.1 h.2 k (by omega)
 unfold jM at this
 rw [Bool.and_eq_true,Pz (by simpa using hk)] at this
 simpa using this.1
def JS (x:Le):Int:=x.2.2.2.1+10+wt x.2.2.2.2
end Go.Proofs.YtlihnbimgclogaaGreatDoor
namespace Go.Proofs.YtlihnbimgclogaaGreatDoor
open Go.Sx
def KX (ph mn mx st fb:Int):Bool:=inB ph 1 7&&(inB mn 1 80&&(inB mx 1 80&&(inB st 1 80&&(decide (mn≤mx)&&(fb==0 ||inB fb mn mx)))))
theorem FX {ph mn mx st fb:Int}:KX ph mn mx st fb=true↔1≤ph∧ph≤7∧1≤mn∧mn≤80∧1≤mx∧mx≤80∧1≤st∧st≤80∧mn≤mx∧(fb=0∨(mn≤fb∧fb≤mx)):=by
 simp [KX,inB];omega
def lI (mn mx st a:Int):Int:=if a<mn then 0 else min a mx-(min a mx-mn) %st
theorem uz {x s:Int}(hx:0≤x) (hs:1≤s):0≤x%s∧x%s≤x∧x%s<s:=by
 have h1:=Int.mul_ediv_add_emod x s
 have h2:0≤x / s:=Int.ediv_nonneg hx (by omega)
 have h3:0≤s*(x / s):=Int.mul_nonneg (by omega) h2
 have h4:=Int.emod_nonneg x (b:=s) (by omega)
 have h5:=Int.emod_lt_of_pos x (b:=s) (by omega)
 omega
theorem ql {mn mx st a:Int}(h1:1≤mn) (h2:mn≤mx) (h3:mx≤80) (h4:1≤st):0≤lI mn mx st a∧lI mn mx st a≤80∧(a<mn→lI mn mx st a=0)∧(mn≤a→mn≤lI mn mx st a∧lI mn mx st a≤a∧lI mn mx st a≤mx):=by
 unfold lI
 split
 ·omega
 ·have e1:=uz (x:=min a mx-mn) (s:=st) (by omega) h4
  omega
def uP (mn mx st:Int):Prop:=1≤mn∧mn≤mx∧mx≤80∧1≤st∧st≤80
theorem Xi {ph mn mx st fb:Int}(h:KX ph mn mx st fb=true):uP mn mx st:=by
 rw [FX] at h;unfold uP;omega
def JO (ph mn mx st fb a s:Int):Bool:=KX ph mn mx st fb&&(decide (0≤s)&&(decide (s≤1000000)&&(decide (0≤a)&&(lI mn mx st a==a))))
def okB (ph mn mx st fb a s want:Int):Bool:=JO ph mn mx st fb a s&&(decide (0≤want)&&decide (want≤80))
def nE (ph mn mx st fb a s want:Int):Int:=if okB ph mn mx st fb a s want then 0 else 1
def nA (ph mn mx st fb a s want:Int):Int:=
 if okB ph mn mx st fb a s want then (if a=0 then (if lI mn mx st want≠0∧5≤s then mn else 0) else if lI mn mx st want=0 then 0 else min (lI mn mx st want) (a+st)) else 0
def nS (ph mn mx st fb a s want:Int):Int:=
 if okB ph mn mx st fb a s want then (if a=0 then (if lI mn mx st want≠0∧5≤s then 0 else min (s+1) 1000000) else if lI mn mx st want=0 then 0 else min (s+1) 1000000) else 0
theorem aag (x y:Int):(if y<x then y else x)=min x y:=by omega
theorem axA {mn mx st am:Int}(h:am<mn):0=lI mn mx st am:=by rw [lI,if_pos h]
theorem axz {mn mx st am:Int}(hc:uP mn mx st) (h:mn≤am):IntKind.i64.wrap ((if mx<am then mx else am)-(IntKind.i64.wrap ((if mx<am then mx else am)-mn)).tmod st)=lI mn mx st am:=by
 unfold uP at hc
 rw [aag]
 have e1:=uz (x:=min am mx-mn) (s:=st) (by omega) (by omega)
 rw [aK (x:=min am mx-mn) (by omega) (by omega),Int.tmod_eq_emod_of_nonneg (by omega),aK (by omega) (by omega),lI,if_neg (by omega)]
theorem aD8 {ph mn mx st fb a s:Int}(h:((!KX ph mn mx st fb) ||(decide (s<0) ||(decide (s>1000000) ||decide (a<0))))=true):false=JO ph mn mx st fb a s:=by
 cases hr:JO ph mn mx st fb a s
 ·rfl
 ·simp [JO] at hr h
  rw [hr.1] at h
  simp at h
  omega
theorem az2 {ph mn mx st fb a s:Int}(h:((!KX ph mn mx st fb) ||(decide (s<0) ||(decide (s>1000000) ||decide (a<0))))=false):uP mn mx st∧(lI mn mx st a==a)=JO ph mn mx st fb a s:=by
 simp at h
 obtain ⟨h1,h2,h3,h4⟩:=h
 exact ⟨Xi h1,by simp [JO,h1,h2,h3,h4]⟩
theorem ZV {ph mn mx st fb a s want:Int}(h:okB ph mn mx st fb a s want=true):(!JO ph mn mx st fb a s ||(decide (want<0) ||decide (want>80)))=false∧uP mn mx st∧(0≤s∧s≤1000000)∧(0≤want∧want≤80)∧0≤a∧a≤80∧1≤st∧st≤80:=by
 simp only [okB,JO,Bool.and_eq_true,decide_eq_true_eq,beq_iff_eq] at h
 obtain ⟨⟨h1,h2,h3,h4,h5⟩,h6,h7⟩:=h
 have hc:=Xi h1
 have hc':=hc
 unfold uP at hc'
 have:=ql (a:=a) hc'.1 hc'.2.1 hc'.2.2.1 hc'.2.2.2.1
 refine ⟨?_,hc,⟨h2,h3⟩,⟨h6,h7⟩,h4,by omega,hc'.2.2.2.1,hc'.2.2.2.2⟩
 simp [JO,h1,h2,h3,h4,h5];omega
theorem ant {ph mn mx st fb a s want:Int}(h:¬okB ph mn mx st fb a s want=true):(!JO ph mn mx st fb a s ||(decide (want<0) ||decide (want>80)))=true:=by
 cases hr:JO ph mn mx st fb a s
 ·rfl
 ·simp [okB,hr] at h⊢;omega
theorem aD7 {ph mn mx st fb:Int}(h:(decide (ph<1) ||(decide (ph>7) ||(decide (mn<1) ||(decide (mx>80) ||(decide (mn>mx) ||(decide (st<1) ||decide (st>80)))))))=true):false=KX ph mn mx st fb:=by
 cases hc:KX ph mn mx st fb
 ·rfl
 ·rw [FX] at hc;simp at h;omega
theorem aD6 {ph mn mx st fb:Int}(h:(decide (ph<1) ||(decide (ph>7) ||(decide (mn<1) ||(decide (mx>80) ||(decide (mn>mx) ||(decide (st<1) ||decide (st>80)))))))=false):(fb==0 ||(decide (fb≥mn)&&decide (fb≤mx)))=KX ph mn mx st fb:=by
 simp at h
 cases hc:KX ph mn mx st fb
 ·cases hf:(fb==0 ||(decide (fb≥mn)&&decide (fb≤mx)))
  ·rfl
  ·have:KX ph mn mx st fb=true:=FX.2 (by simp at hf;omega)
   rw [this] at hc;cases hc
 ·rw [FX] at hc;simp;omega
def Pj (mn mx st am lv x:Int):Prop:=
 uP mn mx st∧mn≤x∧x≤mx+st∧(x-mn) %st=0∧((lv=0∧(x=mn∨am<mn))∨(mn≤lv∧lv≤am∧lv+st≤x∧(lv-mn) %st=0∧(lv+st=x∨am<lv+st)))
theorem WI {mn mx st am:Int}(h:uP mn mx st):Pj mn mx st am 0 mn:=by
 unfold Pj
 refine ⟨h,Int.le_refl _,by unfold uP at h;omega,by simp,.inl ⟨rfl,.inl rfl⟩⟩
theorem adY {mn mx st am lv x:Int}(h:Pj mn mx st am lv x) (hx:x≤mx):Pj mn mx st am (if x≤am then x else lv) (x+st):=by
 unfold Pj at h⊢
 obtain ⟨h1,h2,h3,h4,h5⟩:=h
 have e:(x+st-mn) %st=0:=by rw [show x+st-mn=(x-mn)+st by omega,Int.add_emod_right];exact h4
 have h1':=h1
 unfold uP at h1'
 refine ⟨h1,by omega,by omega,e,?_⟩
 split
 ·exact .inr ⟨h2,by omega,by omega,h4,.inl rfl⟩
 ·rcases h5 with h5|h5
  ·refine .inl ⟨h5.1,.inr (by omega)⟩
  ·exact .inr ⟨h5.1,h5.2.1,by omega,h5.2.2.2.1,.inr (by omega)⟩
theorem ah2 {mn mx st am lv x:Int}(h:Pj mn mx st am lv x) (hx:mx<x):lv=lI mn mx st am:=by
 unfold Pj uP at h
 obtain ⟨h1,h2,h3,h4,h5⟩:=h
 unfold lI
 rcases h5 with ⟨h5,h6⟩ |⟨h5,h6,h7,h8,h9⟩
 ·rw [if_pos (by omega)];exact h5
 ·rw [if_neg (by omega)]
  have e:(min am mx-mn) %st=min am mx-lv:=by
   rw [show min am mx-mn=(min am mx-lv)+(lv-mn) by omega,Int.add_emod,h8,Int.add_zero,Int.emod_emod_of_dvd _ (Int.dvd_refl _)]
   exact Int.emod_eq_of_lt (by omega) (by omega)
  rw [e];omega
end Go.Proofs.YtlihnbimgclogaaGreatDoor
namespace Go.Proofs.YtlihnbimgclogaaGreatDoor
open Go.Sx
def WR:Nat→Int
 |0=>1
 |1=>1
 |2=>1
 |3=>0
 |4=>2
 |5=>2
 |_=>3
def aP:bY:=fun
 |0=>some (8,fun j=> .int .i64 (WR j))
 |_=>none
end Go.Proofs.YtlihnbimgclogaaGreatDoor
namespace Go.Proofs.YtlihnbimgclogaaGreatDoor
open Go.Sx
def Ll:List LV→T LV
 | [.v (.int .i64 n),.v (.int .i64 a),.v (.int .i64 b)]=> .ok (.v (.bool (inB n a b)))
 |_=> .no
noncomputable def wJ:List LV→T LV:=gB Tryz.prog Tryz.f140.params.toList Ll
noncomputable def yu:Specs:=aZ []
theorem zS:∀g S,yu g=some S→Valid Tryz.prog aP g S:=aS (l:=[]) trivial
theorem adT (n a b:Int):bT Tryz.prog aP (yu) eu aB Tryz.f140 [.v (.int .i64 n),.v (.int .i64 a),.v (.int .i64 b)]=.ok (.v (.bool ((decide (n≥a))&&(decide (n≤b))))):=by kernel_rfl
theorem Qu:Valid Tryz.prog aP 140 wJ:=aH Tryz.func140 rfl zS aF (aW (by kernel_rfl)) (fun args lv h=>by
 unfold Ll at h
 split at h
 ·simp only [canL,canX]
  rw [adT]
  exact h
 ·cases h)
def ajQ:List LV→T LV
 | [.v (.agg ⟨[.string _,.int .i64 _,.int .i64 ph,.int .i64 mn,.int .i64 mx,.int .i64 st,.int .i64 fb,.int .i64 _]⟩)]=> .ok (.v (.bool (KX ph mn mx st fb)))
 |_=> .no
noncomputable def ajB:List LV→T LV:=gB Tryz.prog Tryz.f139.params.toList ajQ
noncomputable def arO:Specs:=aZ [(140,wJ)]
theorem aAY:∀g S,arO g=some S→Valid Tryz.prog aP g S:=aS (l:=[(140,wJ)]) ⟨Qu,trivial⟩
theorem av5 (nm:ByteArray) (at_ ph mn mx st fb ow:Int):bT Tryz.prog aP (arO) eu aB Tryz.f139 [.v (.agg #[.string nm,.int .i64 at_,.int .i64 ph,.int .i64 mn,.int .i64 mx,.int .i64 st,.int .i64 fb,.int .i64 ow])]=.ok (.v (.bool ((inB ph (1:Int) (7:Int))&&((inB mn (1:Int) (80:Int))&&((inB mx (1:Int) (80:Int))&&((inB st (1:Int) (80:Int))&&((decide (mn≤mx))&&((fb==0) ||(inB fb mn mx))))))))):=by kernel_rfl
theorem ay2:Valid Tryz.prog aP 139 ajB:=aH Tryz.func139 rfl aAY aF (aW (by kernel_rfl)) (fun args lv h=>by
 unfold ajQ at h
 split at h
 ·simp only [canL,canX]
  rw [av5]
  exact h
 ·cases h)
def Ui:List LV→T LV
 | []=> .ok (.v (.agg #[.int .i64 0,.int .i64 0,.int .i64 0,.bool false]))
 |_=> .no
noncomputable def BQ:List LV→T LV:=gB Tryz.prog Tryz.f114.params.toList Ui
theorem ahB  :bT Tryz.prog aP (yu) eu aB Tryz.f114 []=.ok (.v (.agg #[.int .i64 0,.int .i64 0,.int .i64 0,.bool false])):=by kernel_rfl
theorem YB:Valid Tryz.prog aP 114 BQ:=aH Tryz.func114 rfl zS aF (aW (by kernel_rfl)) (fun args lv h=>by
 unfold Ui at h
 split at h
 ·simp only [canL]
  rw [ahB]
  exact h
 ·cases h)
def aj8:List LV→T LV
 | [.v (.agg ⟨[.string _,.int .i64 _,.int .i64 ph,.int .i64 mn,.int .i64 mx,.int .i64 st,.int .i64 fb,.int .i64 _]⟩),.v (.agg ⟨[.int .i64 0,.int .i64 0,.int .i64 0,.bool false]⟩)]=> .ok (.v (.bool (KX ph mn mx st fb)))
 |_=> .no
noncomputable def ajN:List LV→T LV:=gB Tryz.prog Tryz.f113.params.toList aj8
noncomputable def arN:Specs:=aZ [(114,BQ),(139,ajB),(140,wJ)]
theorem aAX:∀g S,arN g=some S→Valid Tryz.prog aP g S:=aS (l:=[(114,BQ),(139,ajB),(140,wJ)]) ⟨YB,ay2,Qu,trivial⟩
theorem awn (nm:ByteArray) (at_ ph mn mx st fb ow:Int):bT Tryz.prog aP (arN) eu aB Tryz.f113 [.v (.agg #[.string nm,.int .i64 at_,.int .i64 ph,.int .i64 mn,.int .i64 mx,.int .i64 st,.int .i64 fb,.int .i64 ow]),.v (.agg #[.int .i64 0,.int .i64 0,.int .i64 0,.bool false])]=.br (!(KX ph mn mx st fb)) (.ok (.v (.bool false))) (.br (((0:Int)==0)&&(((0:Int)==0)&&(((0:Int)==0)&&(false==false)))) (.ok (.v (.bool true))) (.ok (.v (.bool ((inB (0:Int) (0:Int) (5:Int))&&((inB (0:Int) (0:Int) (1000000:Int))&&((inB (0:Int) (0:Int) mx)&&(if (0:Int) !=0 then (!false) ||((0:Int)==5) else ((0:Int)==0)&&((!false) ||((0:Int)==5)))))))))):=by kernel_rfl
theorem aze:Valid Tryz.prog aP 113 ajN:=aH Tryz.func113 rfl aAX aF (aW (by kernel_rfl)) (fun args lv h=>by
 unfold aj8 at h
 split at h
 ·simp only [canL,canX]
  rw [awn]
  obtain rfl:=h
  refine ⟨fun hb=>?_,fun hb=>⟨fun _=>?_,fun hf=>absurd hf (by decide)⟩⟩
  ·show LV.v (.bool false)=_
   rw [show KX _ _ _ _ _=false by simpa using hb]
  ·show LV.v (.bool true)=_
   rw [show KX _ _ _ _ _=true by simpa using hb]
 ·cases h)
def ab9:List LV→T LV
 | [.v (.agg ⟨[.string _,.int .i64 _,.int .i64 _,.int .i64 mn,.int .i64 mx,.int .i64 st,.int .i64 _,.int .i64 _]⟩),.v (.int .i64 am)]=> .req (uP mn mx st) (.ok (.v (.int .i64 (lI mn mx st am))))
 |_=> .no
noncomputable def I9:List LV→T LV:=gB Tryz.prog Tryz.f73.params.toList ab9
theorem an6 (nm:ByteArray) (at_ ph mn mx st fb ow am:Int):bT Tryz.prog aP (yu) eu aB Tryz.f73 [.v (.agg #[.string nm,.int .i64 at_,.int .i64 ph,.int .i64 mn,.int .i64 mx,.int .i64 st,.int .i64 fb,.int .i64 ow]),.v (.int .i64 am)]=.br (decide (am<mn)) (.ok (.v (.int .i64 0))) (.req (st≠0) (.ok (.v (.int .i64 (IntKind.i64.wrap ((if mx<am then mx else am)-((IntKind.i64.wrap ((if mx<am then mx else am)-mn)).tmod st))))))):=by kernel_rfl
theorem aeN:Valid Tryz.prog aP 73 I9:=aH Tryz.func73 rfl zS aF (aW (by kernel_rfl)) (fun args lv h=>by
 unfold ab9 at h
 split at h
 ·simp only [canL,canX]
  rw [an6]
  obtain ⟨hc,rfl⟩:=h
  refine ⟨fun hb=>?_,fun hb=>⟨by unfold uP at hc;omega,?_⟩⟩
  ·exact congrArg (fun z=>LV.v (.int .i64 z)) (axA (by simpa using hb))
  ·exact congrArg (fun z=>LV.v (.int .i64 z)) (axz hc (by simpa using hb))
 ·cases h)
def ajU:List LV→T LV
 | [.v (.agg ⟨[.string _,.int .i64 _,.int .i64 ph,.int .i64 mn,.int .i64 mx,.int .i64 st,.int .i64 fb,.int .i64 _]⟩),.v (.agg ⟨[.int .i64 a,.int .i64 si]⟩)]=> .ok (.v (.bool (JO ph mn mx st fb a si)))
 |_=> .no
noncomputable def Ue:List LV→T LV:=gB Tryz.prog Tryz.f69.params.toList ajU
noncomputable def arM:Specs:=aZ [(73,I9),(113,ajN),(114,BQ)]
theorem aAW:∀g S,arM g=some S→Valid Tryz.prog aP g S:=aS (l:=[(73,I9),(113,ajN),(114,BQ)]) ⟨aeN,aze,YB,trivial⟩
theorem av9 (nm:ByteArray) (at_ ph mn mx st fb ow a si:Int):bT Tryz.prog aP (arM) eu aB Tryz.f69 [.v (.agg #[.string nm,.int .i64 at_,.int .i64 ph,.int .i64 mn,.int .i64 mx,.int .i64 st,.int .i64 fb,.int .i64 ow]),.v (.agg #[.int .i64 a,.int .i64 si])]=.br ((!(KX ph mn mx st fb)) ||((decide (si<0)) ||((decide (si>1000000)) ||(decide (a<0))))) (.ok (.v (.bool false))) (.req (uP mn mx st) (.ok (.v (.bool ((lI mn mx st a)==a))))):=by kernel_rfl
theorem aqu:Valid Tryz.prog aP 69 Ue:=aH Tryz.func69 rfl aAW aF (aW (by kernel_rfl)) (fun args lv h=>by
 unfold ajU at h
 split at h
 ·simp only [canL,canX]
  rw [av9]
  obtain rfl:=h
  refine ⟨fun hb=>?_,fun hb=>⟨?_,?_⟩⟩
  ·exact congrArg (fun z=>LV.v (.bool z)) (aD8 hb)
  ·exact (az2 hb).1
  ·exact congrArg (fun z=>LV.v (.bool z)) (az2 hb).2
 ·cases h)
def Us:List LV→T LV
 | [.v (.bool b)]=> .ok (.v (.int .i64 (if b then (1:Int) else 0)))
 |_=> .no
noncomputable def Qc:List LV→T LV:=gB Tryz.prog Tryz.f78.params.toList Us
theorem ahJ (b:Bool):bT Tryz.prog aP (yu) eu aB Tryz.f78 [.v (.bool b)]=.br b (.ok (.v (.int .i64 1))) (.ok (.v (.int .i64 0))):=by kernel_rfl
theorem alu:Valid Tryz.prog aP 78 Qc:=aH Tryz.func78 rfl zS aF (aW (by kernel_rfl)) (fun args lv h=>by
 unfold Us at h
 split at h
 ·simp only [canL,canX]
  rw [ahJ]
  rename_i b
  obtain rfl:=h
  cases b
  ·exact ⟨fun hb=>(by cases hb),fun _=>rfl⟩
  ·exact ⟨fun _=>rfl,fun hb=>(by cases hb)⟩
 ·cases h)
def ajZ:List LV→T LV
 | [.xq 8 q0]=>(match ([q0 0,q0 1,q0 2,q0 3,q0 4,q0 5,q0 6,q0 7]:List LV) with
  | [.v (.string _),.v (.int .i64 _),.v (.int .i64 _),.v (.int .i64 mn),.v (.int .i64 _),.v (.int .i64 _),.v (.int .i64 _),.v (.int .i64 _)]=> .ok (.v (.agg #[.int .i64 mn,.int .i64 0]))
  |_=> .no)
 |_=> .no
noncomputable def ajJ:List LV→T LV:=gB Tryz.prog Tryz.f74.params.toList ajZ
theorem awg (nm:ByteArray) (at_ ph mn mx st fb ow:Int):bT Tryz.prog aP (yu) eu aB Tryz.f74 [.xq 8 (fun j=>([.v (.string nm),.v (.int .i64 at_),.v (.int .i64 ph),.v (.int .i64 mn),.v (.int .i64 mx),.v (.int .i64 st),.v (.int .i64 fb),.v (.int .i64 ow)]:List LV).getD j .junk)]=.ok (.v (.agg #[.int .i64 mn,.int .i64 0])):=by kernel_rfl
theorem aza:Valid Tryz.prog aP 74 ajJ:=aH Tryz.func74 rfl zS aF (aW (by kernel_rfl)) (fun args lv h=>by
 unfold ajZ at h
 split at h
 ·split at h
  case h_2=>cases h
  rename_i heq0
  simp only [canL,canX]
  rw [o7 (n:=8) heq0]
  simp only [canL,canX]
  rw [awg]
  exact h
 ·cases h)
def ajY:List LV→T LV
 | [.xq 1 q0]=>(match ([q0 0]:List LV) with
  | [.v (.int .i64 lo)]=> .ok (.v (.agg #[.int .i64 0,.int .i64 lo]))
  |_=> .no)
 |_=> .no
noncomputable def ajI:List LV→T LV:=gB Tryz.prog Tryz.f75.params.toList ajY
theorem awf (lo:Int):bT Tryz.prog aP (yu) eu aB Tryz.f75 [.xq 1 (fun j=>([.v (.int .i64 lo)]:List LV).getD j .junk)]=.ok (.v (.agg #[.int .i64 0,.int .i64 lo])):=by kernel_rfl
theorem ay9:Valid Tryz.prog aP 75 ajI:=aH Tryz.func75 rfl zS aF (aW (by kernel_rfl)) (fun args lv h=>by
 unfold ajY at h
 split at h
 ·split at h
  case h_2=>cases h
  rename_i heq0
  simp only [canL,canX]
  rw [o7 (n:=1) heq0]
  simp only [canL,canX]
  rw [awf]
  exact h
 ·cases h)
def ajX:List LV→T LV
 | []=> .ok (.v (.agg #[.int .i64 0,.int .i64 0]))
 |_=> .no
noncomputable def ajH:List LV→T LV:=gB Tryz.prog Tryz.f76.params.toList ajX
theorem awe  :bT Tryz.prog aP (yu) eu aB Tryz.f76 []=.ok (.v (.agg #[.int .i64 0,.int .i64 0])):=by kernel_rfl
theorem ay8:Valid Tryz.prog aP 76 ajH:=aH Tryz.func76 rfl zS aF (aW (by kernel_rfl)) (fun args lv h=>by
 unfold ajX at h
 split at h
 ·simp only [canL]
  rw [awe]
  exact h
 ·cases h)
def ajW:List LV→T LV
 | [.xq 1 q0,.xq 2 q1,.xq 8 q2,.xq 1 q3]=>(match ([q0 0]:List LV) with
  | [.v (.int .i64 lv)]=>(match ([q1 0,q1 1]:List LV) with
  | [.v (.int .i64 a),.v (.int .i64 _)]=>(match ([q2 0,q2 1,q2 2,q2 3,q2 4,q2 5,q2 6,q2 7]:List LV) with
  | [.v (.string _),.v (.int .i64 _),.v (.int .i64 _),.v (.int .i64 _),.v (.int .i64 _),.v (.int .i64 st),.v (.int .i64 _),.v (.int .i64 _)]=>(match ([q3 0]:List LV) with
  | [.v (.int .i64 lo)]=> .ok (.v (.agg #[.int .i64 (if IntKind.i64.wrap (a+st)<lv then IntKind.i64.wrap (a+st) else lv),.int .i64 lo]))
  |_=> .no)
  |_=> .no)
  |_=> .no)
  |_=> .no)
 |_=> .no
noncomputable def ajG:List LV→T LV:=gB Tryz.prog Tryz.f77.params.toList ajW
theorem awd (lv a si:Int) (nm:ByteArray) (at_ ph mn mx st fb ow lo:Int):bT Tryz.prog aP (yu) eu aB Tryz.f77 [.xq 1 (fun j=>([.v (.int .i64 lv)]:List LV).getD j .junk),.xq 2 (fun j=>([.v (.int .i64 a),.v (.int .i64 si)]:List LV).getD j .junk),.xq 8 (fun j=>([.v (.string nm),.v (.int .i64 at_),.v (.int .i64 ph),.v (.int .i64 mn),.v (.int .i64 mx),.v (.int .i64 st),.v (.int .i64 fb),.v (.int .i64 ow)]:List LV).getD j .junk),.xq 1 (fun j=>([.v (.int .i64 lo)]:List LV).getD j .junk)]=.ok (.v (.agg #[.int .i64 (if (IntKind.i64.wrap (a+st))<lv then IntKind.i64.wrap (a+st) else lv),.int .i64 lo])):=by kernel_rfl
theorem ay7:Valid Tryz.prog aP 77 ajG:=aH Tryz.func77 rfl zS aF (aW (by kernel_rfl)) (fun args lv h=>by
 unfold ajW at h
 split at h
 ·split at h
  case h_2=>cases h
  rename_i heq0
  split at h
  case h_2=>cases h
  rename_i heq1
  split at h
  case h_2=>cases h
  rename_i heq2
  split at h
  case h_2=>cases h
  rename_i heq3
  simp only [canL,canX]
  rw [o7 (n:=1) heq0]
  simp only [canL,canX]
  rw [o7 (n:=2) heq1]
  simp only [canL,canX]
  rw [o7 (n:=8) heq2]
  simp only [canL,canX]
  rw [o7 (n:=1) heq3]
  simp only [canL,canX]
  rw [awd]
  exact h
 ·cases h)
theorem awK {a l si:Int}:WR ((if (a !=0) then (1:Int) else 0).toNat*4+((if (l !=0) then (1:Int) else 0).toNat*2+((if (decide (si≥5)) then (1:Int) else 0).toNat*1+0)))=if a=0 then (if l=0 then 1 else if 5≤si then 0 else 1) else if l=0 then 2 else 3:=by
 by_cases c1:a=0<;>by_cases c2:l=0<;>by_cases c3:5≤si<;>simp [c1,c2,c3,WR]
def acv:List LV→T LV
 | [.v (.agg ⟨[.string _,.int .i64 _,.int .i64 ph,.int .i64 mn,.int .i64 mx,.int .i64 st,.int .i64 fb,.int .i64 _]⟩),.v (.agg ⟨[.int .i64 a,.int .i64 si]⟩),.v (.int .i64 want)]=> .ok (.v (.tuple #[.agg #[.int .i64 (nA ph mn mx st fb a si want),.int .i64 (nS ph mn mx st fb a si want)],.int .i64 (nE ph mn mx st fb a si want)]))
 |_=> .no
noncomputable def X3:List LV→T LV:=gB Tryz.prog Tryz.f37.params.toList acv
noncomputable def arL:Specs:=aZ [(69,Ue),(73,I9),(74,ajJ),(75,ajI),(76,ajH),(77,ajG),(78,Qc)]
theorem aAV:∀g S,arL g=some S→Valid Tryz.prog aP g S:=aS (l:=[(69,Ue),(73,I9),(74,ajJ),(75,ajI),(76,ajH),(77,ajG),(78,Qc)]) ⟨aqu,aeN,aza,ay9,ay8,ay7,alu,trivial⟩
theorem aol (nm:ByteArray) (at_ ph mn mx st fb ow a si want:Int):bT Tryz.prog aP (arL) eu aB Tryz.f37 [.v (.agg #[.string nm,.int .i64 at_,.int .i64 ph,.int .i64 mn,.int .i64 mx,.int .i64 st,.int .i64 fb,.int .i64 ow]),.v (.agg #[.int .i64 a,.int .i64 si]),.v (.int .i64 want)]=.br ((!(JO ph mn mx st fb a si)) ||((decide (want<0)) ||(decide (want>80)))) (.ok (.v (.tuple #[.agg #[.int .i64 0,.int .i64 0],.int .i64 1]))) (.req (uP mn mx st) (.req (0≤(if (a !=0) then (1:Int) else 0)∧(if (a !=0) then (1:Int) else 0)<(2:Int)) (.req (0≤(if ((lI mn mx st want) !=0) then (1:Int) else 0)∧(if ((lI mn mx st want) !=0) then (1:Int) else 0)<(2:Int)) (.req (0≤(if (decide (si≥5)) then (1:Int) else 0)∧(if (decide (si≥5)) then (1:Int) else 0)<(2:Int)) (.br ((WR ((if (a !=0) then (1:Int) else 0).toNat*4+((if ((lI mn mx st want) !=0) then (1:Int) else 0).toNat*2+((if (decide (si≥5)) then (1:Int) else 0).toNat*1+0))))==0) (.ok (.v (.tuple #[.agg #[.int .i64 mn,.int .i64 0],.int .i64 0]))) (.br ((WR ((if (a !=0) then (1:Int) else 0).toNat*4+((if ((lI mn mx st want) !=0) then (1:Int) else 0).toNat*2+((if (decide (si≥5)) then (1:Int) else 0).toNat*1+0))))==1) (.ok (.v (.tuple #[.agg #[.int .i64 0,.int .i64 (if (1000000:Int)<(IntKind.i64.wrap (si+1)) then 1000000 else IntKind.i64.wrap (si+1))],.int .i64 0]))) (.br ((WR ((if (a !=0) then (1:Int) else 0).toNat*4+((if ((lI mn mx st want) !=0) then (1:Int) else 0).toNat*2+((if (decide (si≥5)) then (1:Int) else 0).toNat*1+0))))==2) (.ok (.v (.tuple #[.agg #[.int .i64 0,.int .i64 0],.int .i64 0]))) (.br ((WR ((if (a !=0) then (1:Int) else 0).toNat*4+((if ((lI mn mx st want) !=0) then (1:Int) else 0).toNat*2+((if (decide (si≥5)) then (1:Int) else 0).toNat*1+0))))==3) (.ok (.v (.tuple #[.agg #[.int .i64 (if IntKind.i64.wrap (a+st)<(lI mn mx st want) then IntKind.i64.wrap (a+st) else (lI mn mx st want)),.int .i64 (if (1000000:Int)<(IntKind.i64.wrap (si+1)) then 1000000 else IntKind.i64.wrap (si+1))],.int .i64 0]))) (.no))))))))):=by kernel_rfl
theorem atx:Valid Tryz.prog aP 37 X3:=aH Tryz.func37 rfl aAV aF (aW (by kernel_rfl)) (fun args lv h=>by
 unfold acv at h
 split at h
 ·simp only [canL,canX]
  rw [aol]
  rename_i nm at_ ph mn mx st fb ow a si want
  obtain rfl:=h
  by_cases hk:okB ph mn mx st fb a si want=true
  ·obtain ⟨k1,k2,k3,k4,k5⟩:=ZV hk
   have w1:IntKind.i64.wrap (si+1)=si+1:=aK (by omega) (by omega)
   have w2:IntKind.i64.wrap (a+st)=a+st:=aK (by omega) (by omega)
   have i0:∀b:Bool,0≤(if b=true then (1:Int) else 0)∧(if b=true then (1:Int) else 0)<2:=fun b=>by cases b<;>simp
   simp only [T.all,nA,nS,nE,k1,w1,w2,hk,aag,if_true,awK,i0,true_and]
   by_cases c1:a=0<;>by_cases c2:lI mn mx st want=0<;>by_cases c3:5≤si<;>simp [c1,c2,c3,k2]
  ·have hn:(!JO ph mn mx st fb a si ||(decide (want<0) ||decide (want>80)))=true:=ant hk
   simp only [T.all,nA,nS,nE,hk,hn]
   simp
 ·cases h)
def ajT:List LV→T LV
 | [.v (.agg ⟨[.string _,.int .i64 _,.int .i64 ph,.int .i64 mn,.int .i64 mx,.int .i64 st,.int .i64 fb,.int .i64 _]⟩)]=> .ok (.v (.bool (KX ph mn mx st fb)))
 |_=> .no
noncomputable def ajE:List LV→T LV:=gB Tryz.prog Tryz.f91.params.toList ajT
theorem av8 (nm:ByteArray) (at_ ph mn mx st fb ow:Int):bT Tryz.prog aP (yu) eu aB Tryz.f91 [.v (.agg #[.string nm,.int .i64 at_,.int .i64 ph,.int .i64 mn,.int .i64 mx,.int .i64 st,.int .i64 fb,.int .i64 ow])]=.br ((decide (ph<1)) ||((decide (ph>7)) ||((decide (mn<1)) ||((decide (mx>80)) ||((decide (mn>mx)) ||((decide (st<1)) ||(decide (st>80)))))))) (.ok (.v (.bool false))) (.ok (.v (.bool ((fb==0) ||((decide (fb≥mn))&&(decide (fb≤mx))))))):=by kernel_rfl
theorem ay5:Valid Tryz.prog aP 91 ajE:=aH Tryz.func91 rfl zS aF (aW (by kernel_rfl)) (fun args lv h=>by
 unfold ajT at h
 split at h
 ·simp only [canL,canX]
  rw [av8]
  obtain rfl:=h
  refine ⟨fun hb=>?_,fun hb=>?_⟩
  ·exact congrArg (fun z=>LV.v (.bool z)) (aD7 hb)
  ·exact congrArg (fun z=>LV.v (.bool z)) (aD6 hb)
 ·cases h)
end Go.Proofs.YtlihnbimgclogaaGreatDoor
namespace Go.Proofs.YtlihnbimgclogaaGreatDoor
open Go.Sx
def ajV:List LV→T LV
 | [.v (.agg ⟨[.int .i64 nu,.int .i64 co,.int .i64 am,.int .i64 fr,.int .i64 tk]⟩)]=> .ok (.v (.bool (leV (nu,co,am,fr,tk))))
 |_=> .no
noncomputable def ajF:List LV→T LV:=gB Tryz.prog Tryz.f90.params.toList ajV
noncomputable def Py:Specs:=aZ []
theorem WU:∀g S,Py g=some S→Valid Tryz.prog aP g S:=aS (l:=[]) trivial
theorem awc (nu co am fr tk:Int):bT Tryz.prog aP (Py) eu aB Tryz.f90 [.v (.agg #[.int .i64 nu,.int .i64 co,.int .i64 am,.int .i64 fr,.int .i64 tk])]=.ok (.v (.bool ((decide (nu≥1))&&((decide (nu≤1000000))&&((decide (co≥0))&&((decide (co<16))&&((decide (am≥0))&&((decide (am≤80))&&((decide (fr≥0))&&((decide (fr≤1000000))&&((decide (tk≥1))&&(decide (tk≤1000))))))))))))):=by kernel_rfl
theorem ay6:Valid Tryz.prog aP 90 ajF:=aH Tryz.func90 rfl WU aF (aW (by kernel_rfl)) (fun args lv h=>by
 unfold ajV at h
 split at h
 ·simp only [canL,canX]
  rw [awc]
  obtain rfl:=h
  refine congrArg (fun z=>LV.v (.bool z)) ?_
  unfold leV
  rw [Bool.eq_iff_iff]
  simp only [Bool.and_eq_true,decide_eq_true_eq,dN]
  omega
 ·cases h)
structure pI where
 l:List Le
 r:Bool
 i:Int
def aDi (s:pI):List LV:=[.xl ng s.l,.v (.bool s.r),.v (.int .i64 s.i)]
def aCh (_:pI):List aU:=[]
noncomputable def AZ:Code:=((aC (Tryz.f50.body.getD .skip))[0]?).getD .skip
def Y1 (s:pI):T (Rd pI):=
 .br (decide (s.i<(List.length s.l:Int))) (.req (0≤s.i∧s.i<(List.length s.l:Int)) (.br (!(leV (gZ s.l s.i))) (.ok (.stop (.ret) {s with r:=false})) (.br (decide (s.i>0)) (.req (0≤s.i∧s.i<(List.length s.l:Int)) (.req (0≤(IntKind.i64.wrap (s.i-1))∧(IntKind.i64.wrap (s.i-1))<(List.length s.l:Int)) (.br (decide ((gZ s.l s.i).1≤(gZ s.l (IntKind.i64.wrap (s.i-1))).1)) (.ok (.stop (.ret) {s with r:=false})) (.req (0≤s.i∧s.i<(List.length s.l:Int)) (.req (0≤(IntKind.i64.wrap (s.i-1))∧(IntKind.i64.wrap (s.i-1))<(List.length s.l:Int)) (.br (decide ((gZ s.l s.i).2.2.2.1<(gZ s.l (IntKind.i64.wrap (s.i-1))).2.2.2.1)) (.ok (.stop (.ret) {s with r:=false})) (.ok (.next {s with i:=(IntKind.i64.wrap (s.i+1))})))))))) (.ok (.next {s with i:=(IntKind.i64.wrap (s.i+1))}))))) (.ok (.stop (.exit 0) s))
abbrev asa (s:pI):=(Y1 s).rd s
def ada (s:pI):Prop:=s.i=0∧(List.length s.l:Int)≤1000
def LX (s:pI):Prop:=(0≤s.i∧s.i≤(List.length s.l:Int))∧(List.length s.l:Int)≤1000∧∀j:Nat,(j:Int)<s.i→jM s.l j=true
def He (s:pI):Nat:=((List.length s.l:Int)-s.i).toNat
def akl (x:Ex) (_ s':pI):Prop:=(x=.exit 0∧∀j:Nat,(j:Int)<(List.length s'.l:Int)→jM s'.l j=true)∨(x=.ret∧s'.r=false∧∃j:Nat,(j:Int)<(List.length s'.l:Int)∧jM s'.l j=false)
theorem az7:∀s,ada s→LX s:=by
 intro s h
 obtain ⟨h0,h3⟩:=h
 exact ⟨by omega,h3,fun j hj=>by omega⟩
theorem avJ (s:pI) (hI:LX s):bJ (fun s'=>LX s'∧He s'<He s) (fun x s'=>akl x s s') (asa s):=by
 unfold asa Y1
 dsimp only [T.rd,T.rl]
 obtain ⟨⟨h0,h1⟩,h3,hA⟩:=hI
 refine au (fun c1=>?_) (fun c1=>?_)
 ·refine au (fun c2=>?_) (fun c2=>?_)
  ·have c1:s.i<(List.length s.l:Int):=by simpa using c1
   refine .inr ⟨rfl,rfl,s.i.toNat,by simp only;omega,?_⟩
   rw [Int.toNat_of_nonneg h0]
   show jM s.l s.i=false
   unfold jM Tj
   rw [ntW c2]
   rfl
  ·refine au (fun c3=>?_) (fun c3=>?_)
   ·refine au (fun c4=>?_) (fun c4=>?_)
    ·have c1:s.i<(List.length s.l:Int):=by simpa using c1
     have c3:0<s.i:=by simpa using c3
     rw [aK (x:=s.i-1) (by omega) (by omega)] at c4
     refine .inr ⟨rfl,rfl,s.i.toNat,by simp only;omega,?_⟩
     rw [Int.toNat_of_nonneg h0]
     show jM s.l s.i=false
     unfold jM Tj
     rw [NS c2,decide_eq_false (p:=s.i=0) (by omega)]
     simp only [decide_eq_true_eq] at c4
     rw [decide_eq_false (p:=(gZ s.l s.i).1>(gZ s.l (s.i-1)).1) (by omega)]
     simp
    ·refine au (fun c5=>?_) (fun c5=>?_)
     ·have c1:s.i<(List.length s.l:Int):=by simpa using c1
      have c3:0<s.i:=by simpa using c3
      rw [aK (x:=s.i-1) (by omega) (by omega)] at c4
      rw [aK (x:=s.i-1) (by omega) (by omega)] at c5
      refine .inr ⟨rfl,rfl,s.i.toNat,by simp only;omega,?_⟩
      rw [Int.toNat_of_nonneg h0]
      show jM s.l s.i=false
      unfold jM Tj
      rw [NS c2,decide_eq_false (p:=s.i=0) (by omega)]
      simp only [decide_eq_true_eq] at c5
      rw [decide_eq_false (p:=(gZ s.l s.i).2.2.2.1≥(gZ s.l (s.i-1)).2.2.2.1) (by omega)]
      simp
     ·have c1:s.i<(List.length s.l:Int):=by simpa using c1
      have c3:0<s.i:=by simpa using c3
      rw [aK (x:=s.i-1) (by omega) (by omega)] at c4
      rw [aK (x:=s.i-1) (by omega) (by omega)] at c5
      have hg:jM s.l s.i=true:=by
        unfold jM Tj
        simp only [decide_eq_false_iff_not] at c4 c5
        rw [NS c2,decide_eq_true (p:=(gZ s.l s.i).1>(gZ s.l (s.i-1)).1) (by omega),decide_eq_true (p:=(gZ s.l s.i).2.2.2.1≥(gZ s.l (s.i-1)).2.2.2.1) (by omega)]
        simp
      rw [aK (x:=s.i+1) (by omega) (by omega)]
      exact ⟨⟨⟨by simp only;omega,by simp only;omega⟩,h3,fun j hj=>by
       by_cases e:(j:Int)<s.i
       ·exact hA j e
       ·have e:(j:Int)=s.i:=by simp only at hj;omega
        show jM s.l j=true
        rw [e];exact hg⟩,by simp only [He];omega⟩
   ·have c1:s.i<(List.length s.l:Int):=by simpa using c1
    have hg:jM s.l s.i=true:=by
      unfold jM
      rw [NS c2,decide_eq_true (p:=s.i=0) (by simp at c3;omega)]
      rfl
    rw [aK (x:=s.i+1) (by omega) (by omega)]
    exact ⟨⟨⟨by simp only;omega,by simp only;omega⟩,h3,fun j hj=>by
     by_cases e:(j:Int)<s.i
     ·exact hA j e
     ·have e:(j:Int)=s.i:=by simp only at hj;omega
      show jM s.l j=true
      rw [e];exact hg⟩,by simp only [He];omega⟩
 ·have c1:(List.length s.l:Int)≤s.i:=by simpa using c1
  exact .inl ⟨rfl,fun j hj=>hA j (by omega)⟩
def ED:bK pI:=⟨0,51,[0,2,3],[],aDi,aCh,fun v _=>⟨aQ ng (v.getD 0 .junk),vg (v.getD 1 .junk),gI (v.getD 2 .junk)⟩,Y1,fun s r=> {r with l:=s.l},fun s=>s,fun _ s=>s,[.ret,.exit 0],ada,LX,He⟩
abbrev ZA:=ED.run
abbrev abo:=ED.jJ
abbrev aye:=ED.q
theorem auT (s:pI) (hI:LX s):(Y1 s).all (fun _=>True):=by
 refine ⟨fun c1=>⟨?_,fun _=>trivial,fun c2=>⟨fun c3=>⟨?_,?_,fun _=>trivial,fun c4=>⟨?_,?_,fun _=>trivial,fun _=>trivial⟩⟩,fun _=>trivial⟩⟩,fun _=>trivial⟩
 all_goals ((obtain ⟨⟨h0,h1⟩,h3,hA⟩:=hI;simp only [decide_eq_true_eq] at c1;first|omega|(simp only [decide_eq_true_eq,gt_iff_lt] at c3;rw [aK (x:=s.i-1) (by omega) (by omega)];omega)))
noncomputable def W9:Specs:=aZ [(90,ajF)]
theorem aiH:∀g S,W9 g=some S→Valid Tryz.prog aP g S:=aS (l:=[(90,ajF)]) ⟨ay6,trivial⟩
theorem ag1:ED.Ok:=⟨fun s=>by kernel_rfl,fun s=>by kernel_rfl,fun s=>rfl,fun s t r=>rfl,fun s=>rfl,fun s=>by kernel_rfl⟩
theorem afS:ED.Pf (akl):=⟨az7,fun _ _=>rfl,avJ,auT⟩
theorem al8:bg Tryz.prog aP (AN 0) (.loop AZ) ED.lp:=bK.snd ag1 afS (aT (Γ:=W9) (K:=eu) (L:=aB) aiH aF AZ (fun b hb=>by rw [show aC AZ=[] by kernel_rfl] at hb;cases hb)) (fun s=>by kernel_rfl)
theorem anj (s:pI) (hE:ada s):∃s',LX s'∧akl (abo s) s' (ZA s):=bK.fin ag1 afS s hE
def acd:List LV→T LV
 | [.xl (.pair (.int .i64) (.pair (.int .i64) (.pair (.int .i64) (.pair (.int .i64) (.int .i64))))) l]=> .req ((List.length l:Int)≤1000) (.ok (.v (.bool (oV l))))
 |_=> .no
noncomputable def Jb:List LV→T LV:=gB Tryz.prog Tryz.f50.params.toList acd
theorem an7 (l:List Le):bT Tryz.prog aP (W9) eu (fun i=>if i=2 then ED.lp else aB i) Tryz.f50 [.xl ng l]=.req (aye (⟨l,false,(0:Int)⟩:pI)) (.br (iy (abo (⟨l,false,(0:Int)⟩:pI)) (.ret)) (.ok (.v (.bool (ZA (⟨l,false,(0:Int)⟩:pI)).r))) (.ok (.v (.bool (decide ((List.length l:Int)≤64)))))):=by kernel_rfl
theorem aeP:Valid Tryz.prog aP 50 Jb:=aH Tryz.func50 rfl aiH aF (L:=(fun i=>if i=2 then ED.lp else aB i)) (fun b hb=>by
 rw [show aC _=[AZ] by kernel_rfl] at hb
 simp only [List.mem_cons,List.not_mem_nil,or_false] at hb
 subst hb
 exact al8) (fun args lv h=>by
 unfold acd at h
 split at h
 ·simp only [canL,canX]
  rw [an7]
  rename_i l
  obtain ⟨hn,rfl⟩:=h
  have hE:ada ⟨l,false,0⟩:=⟨rfl,hn⟩
  refine ⟨⟨hE,rfl,rfl⟩,?_⟩
  obtain ⟨_,_,hq⟩:=anj _ hE
  unfold oV
  rcases hq with ⟨q1,q2⟩ |⟨q1,q2,j,q3,q4⟩<;>rw [q1]
  ·have e:JL l.length (jM l)=true:=fU.2 q2
   rw [e,Bool.and_true]
   refine ⟨fun h=>(by cases h),fun _=>congrArg (fun z=>LV.v (.bool z)) ?_⟩
   by_cases h:l.length≤64
   ·rw [decide_eq_true h,decide_eq_true (by omega)]
   ·rw [decide_eq_false h,decide_eq_false (by omega)]
  ·have e:JL l.length (jM l)=false:=tN j q3 q4
   rw [q2,e,Bool.and_false]
   exact ⟨fun _=>rfl,fun h=>by cases h⟩
 ·cases h)
structure qC where
 Xx:Int
 level:Int
 x:Int
 qw:ByteArray
 Xo:Int
 qp:Int
 mn:Int
 mx:Int
 st:Int
 lu:Int
 mM:Int
def aDj (s:qC):List LV:=[.v (.int .i64 s.Xx),.own 0 0,.v (.int .i64 s.level),.v (.int .i64 s.x)]
def aCi (s:qC):List aU:=[⟨[.v (.string s.qw),.v (.int .i64 s.Xo),.v (.int .i64 s.qp),.v (.int .i64 s.mn),.v (.int .i64 s.mx),.v (.int .i64 s.st),.v (.int .i64 s.lu),.v (.int .i64 s.mM)],58,.cl,false⟩]
noncomputable def A7:Code:=((aC (Tryz.f83.body.getD .skip))[0]?).getD .skip
def Y2 (s:qC):T (Rd qC):=
 .br (decide (s.x≤s.mx)) (.br (decide (s.x≤s.Xx)) (.ok (.next {s with level:=s.x,x:=(IntKind.i64.wrap (s.x+s.st))})) (.ok (.next {s with x:=(IntKind.i64.wrap (s.x+s.st))}))) (.ok (.stop (.exit 0) s))
abbrev asb (s:qC):=(Y2 s).rd s
def ak6 (s:qC):Prop:=s.level=0∧s.x=s.mn∧uP s.mn s.mx s.st
def Jh (s:qC):Prop:=Pj s.mn s.mx s.st s.Xx s.level s.x
def Hf (s:qC):Nat:=(s.mx+1-s.x).toNat
def akm (x:Ex) (_ s':qC):Prop:=x=.exit 0∧s'.level=lI s'.mn s'.mx s'.st s'.Xx
theorem az8:∀s,ak6 s→Jh s:=by
 intro s h
 obtain ⟨h0,h1,h2⟩:=h
 unfold Jh
 rw [h0,h1]
 exact WI h2
theorem avK (s:qC) (hI:Jh s):bJ (fun s'=>Jh s'∧Hf s'<Hf s) (fun x s'=>akm x s s') (asb s):=by
 unfold asb Y2
 dsimp only [T.rd,T.rl]
 have hI':Pj s.mn s.mx s.st s.Xx s.level s.x:=hI
 have hc:=hI'.1
 unfold uP at hc
 refine au (fun c1=>?_) (fun c1=>⟨rfl,ah2 hI' (by simpa using c1)⟩)
 have c1:s.x≤s.mx:=by simpa using c1
 have hs:=adY hI' c1
 have hx:=hI'.2.1
 rw [aK (x:=s.x+s.st) (by omega) (by omega)]
 refine au (fun c2=>?_) (fun c2=>?_)
 ·rw [if_pos (by simpa using c2)] at hs
  exact ⟨hs,by simp only [Hf];omega⟩
 ·rw [if_neg (by simpa using c2)] at hs
  exact ⟨hs,by simp only [Hf];omega⟩
def EF:bK qC:=⟨0,22,[1,2,5,6],[],aDj,aCi,fun v b=>⟨gI (v.getD 0 .junk),gI (v.getD 2 .junk),gI (v.getD 3 .junk),gSr (aX (aO b 0) 0),gI (aX (aO b 0) 1),gI (aX (aO b 0) 2),gI (aX (aO b 0) 3),gI (aX (aO b 0) 4),gI (aX (aO b 0) 5),gI (aX (aO b 0) 6),gI (aX (aO b 0) 7)⟩,Y2,fun s r=> {r with Xx:=s.Xx,qw:=s.qw,Xo:=s.Xo,qp:=s.qp,mn:=s.mn,mx:=s.mx,st:=s.st,lu:=s.lu,mM:=s.mM},fun s=>s,fun _ s=>s,[.exit 0],ak6,Jh,Hf⟩
abbrev ZB:=EF.run
abbrev apw:=EF.jJ
abbrev ayf:=EF.q
theorem auU (s:qC) (_:Jh s):(Y2 s).all (fun _=>True):=by
 exact ⟨fun c1=>⟨fun _=>trivial,fun _=>trivial⟩,fun _=>trivial⟩
theorem ag2:EF.Ok:=⟨fun s=>by kernel_rfl,fun s=>by kernel_rfl,fun s=>rfl,fun s t r=>rfl,fun s=>rfl,fun s=>by kernel_rfl⟩
theorem afT:EF.Pf (akm):=⟨az8,fun _ _=>rfl,avK,auU⟩
theorem al9:bg Tryz.prog aP (AN 0) (.loop A7) EF.lp:=bK.snd ag2 afT (aT (Γ:=Py) (K:=eu) (L:=aB) WU aF A7 (fun b hb=>by rw [show aC A7=[] by kernel_rfl] at hb;cases hb)) (fun s=>by kernel_rfl)
theorem ank (s:qC) (hE:ak6 s):∃s',Jh s'∧akm (apw s) s' (ZB s):=bK.fin ag2 afT s hE
def aci:List LV→T LV
 | [.v (.agg ⟨[.string _,.int .i64 _,.int .i64 _,.int .i64 mn,.int .i64 mx,.int .i64 st,.int .i64 _,.int .i64 _]⟩),.v (.int .i64 a)]=> .req (uP mn mx st) (.ok (.v (.int .i64 (lI mn mx st a))))
 |_=> .no
noncomputable def XR:List LV→T LV:=gB Tryz.prog Tryz.f83.params.toList aci
theorem aoc (nm:ByteArray) (at_ ph mn mx st fb ow a:Int):bT Tryz.prog aP (Py) eu (fun i=>if i=3 then EF.lp else aB i) Tryz.f83 [.v (.agg #[.string nm,.int .i64 at_,.int .i64 ph,.int .i64 mn,.int .i64 mx,.int .i64 st,.int .i64 fb,.int .i64 ow]),.v (.int .i64 a)]=.req (ayf (⟨a,(0:Int),mn,nm,at_,ph,mn,mx,st,fb,ow⟩:qC)) (.ok (.v (.int .i64 (ZB (⟨a,(0:Int),mn,nm,at_,ph,mn,mx,st,fb,ow⟩:qC)).level))):=by kernel_rfl
theorem ato:Valid Tryz.prog aP 83 XR:=aH Tryz.func83 rfl WU aF (L:=(fun i=>if i=3 then EF.lp else aB i)) (fun b hb=>by
 rw [show aC _=[A7] by kernel_rfl] at hb
 simp only [List.mem_cons,List.not_mem_nil,or_false] at hb
 subst hb
 exact al9) (fun args lv h=>by
 unfold aci at h
 split at h
 ·simp only [canL,canX]
  rw [aoc]
  obtain ⟨hc,rfl⟩:=h
  refine mP ⟨⟨rfl,rfl,hc⟩,rfl,rfl⟩ (fun hE=>?_)
  obtain ⟨_,_,_,q⟩:=ank _ hE.1
  rw [q]
  exact rfl
 ·cases h)
def ach:List LV→T LV
 | [.v (.agg ⟨[.string _,.int .i64 _,.int .i64 ph,.int .i64 mn,.int .i64 mx,.int .i64 st,.int .i64 fb,.int .i64 _]⟩),.v (.agg ⟨[.int .i64 a,.int .i64 si]⟩)]=> .ok (.v (.bool (JO ph mn mx st fb a si)))
 |_=> .no
noncomputable def XQ:List LV→T LV:=gB Tryz.prog Tryz.f51.params.toList ach
noncomputable def ai1:Specs:=aZ [(83,XR),(91,ajE)]
theorem awW:∀g S,ai1 g=some S→Valid Tryz.prog aP g S:=aS (l:=[(83,XR),(91,ajE)]) ⟨ato,ay5,trivial⟩
theorem aob (nm:ByteArray) (at_ ph mn mx st fb ow a si:Int):bT Tryz.prog aP (ai1) eu aB Tryz.f51 [.v (.agg #[.string nm,.int .i64 at_,.int .i64 ph,.int .i64 mn,.int .i64 mx,.int .i64 st,.int .i64 fb,.int .i64 ow]),.v (.agg #[.int .i64 a,.int .i64 si])]=.br (KX ph mn mx st fb) (.br (decide (a≥0)) (.br (decide (si≥0)) (.br (decide (si≤1000000)) (.req (uP mn mx st) (.ok (.v (.bool ((lI mn mx st a)==a))))) (.ok (.v (.bool false)))) (.ok (.v (.bool false)))) (.ok (.v (.bool false)))) (.ok (.v (.bool false))):=by kernel_rfl
theorem atn:Valid Tryz.prog aP 51 XQ:=aH Tryz.func51 rfl awW aF (aW (by kernel_rfl)) (fun args lv h=>by
 unfold ach at h
 split at h
 ·simp only [canL,canX]
  rw [aob]
  rename_i nm at_ ph mn mx st fb ow a si
  obtain rfl:=h
  unfold JO
  cases hc:KX ph mn mx st fb with
  |false=>simp [T.all]
  |true=>
   have hp:=Xi hc
   by_cases h1:0≤a<;>by_cases h2:0≤si<;>by_cases h3:si≤1000000<;>simp [T.all,h1,h2,h3,hp]
 ·cases h)
end Go.Proofs.YtlihnbimgclogaaGreatDoor
namespace Go.Proofs.YtlihnbimgclogaaGreatDoor
open Go.Sx
def inG (n:Int):List ByteArray→ByteArray→Int
 | [],_=>-1
 |x::xs,w=>if (x==w)=true then n else inG (n+1) xs w
def inI (l:List ByteArray) (w:ByteArray):Int:=inG 0 l w
theorem aan {w:ByteArray}:∀ {l:List ByteArray}{n:Int},0≤n→(0≤inG n l w↔isIn l w=true)
 | [],n,_=>by simp [inG,isIn]
 | x::xs,n,h=>by
  rw [inG]
  have e:isIn (x::xs) w=(w==x ||isIn xs w):=rfl
  rw [e]
  split
  ·rename_i hx
   have:x=w:=by simpa using hx
   subst this
   simp [h]
  ·rename_i hx
   have hx:¬x=w:=by simpa using hx
   have:(w==x)=false:=by simpa using fun e=>hx e.symm
   rw [this,Bool.false_or]
   exact aan (by omega)
theorem FM {l:List ByteArray}{w:ByteArray}:decide (inI l w≥0)=isIn l w:=by
 rw [Bool.eq_iff_iff,decide_eq_true_eq]
 exact aan (Int.le_refl _)
theorem JQ {l:List ByteArray}{w:ByteArray}:isIn l w=l.contains w:=by
 unfold isIn
 rw [List.contains_eq_any_beq]
def yj (b j:Int):Bool:=chA b ||(!(j==0)&&((decide (b≥48)&&decide (b≤57)) ||b==95))
theorem aaw {b:Int}:yj b 0=chA b:=by simp [yj]
theorem KI {b j:Int}(h:j≠0):yj b j=chB b:=by
 unfold yj chB
 rw [show (j==0)=false by simpa using h]
 rfl
theorem ahO {w:ByteArray}:nameB w=(JL w.size (fun j=>yj (rW w j) j)&&(decide ((w.size:Int)≥1)&&(decide ((w.size:Int)≤12)&&!Fj w))):=by
 unfold nameB gwB
 by_cases h1:1≤w.size
 ·by_cases h2:w.size≤12
  ·rw [decide_eq_true (show 1≤w.size∧w.size≤12 from ⟨h1,h2⟩),decide_eq_true (show (w.size:Int)≥1 by omega),decide_eq_true (show (w.size:Int)≤12 by omega),Bool.true_and,Bool.true_and,Bool.true_and]
   congr 1
   rw [Bool.eq_iff_iff,Bool.and_eq_true,List.all_eq_true,fU]
   constructor
   ·rintro ⟨a,b⟩ j hj
    by_cases e:j=0
    ·subst e;exact (aaw (b:=rW w 0)).trans a
    ·have:=b j (List.mem_range.2 (by omega))
     rw [KI (by omega)]
     simpa [e] using this
   ·intro h
    refine ⟨(aaw (b:=rW w 0)).symm.trans (h 0 (by omega)),fun j hj=>?_⟩
    by_cases e:j=0
    ·simp [e]
    ·have:=h j (by have:=List.mem_range.1 hj;omega)
     rw [KI (by omega)] at this
     simp [this]
  ·rw [decide_eq_false (show ¬(1≤w.size∧w.size≤12) by omega),decide_eq_false (show ¬(w.size:Int)≤12 by omega)]
   simp
 ·rw [decide_eq_false (show ¬(1≤w.size∧w.size≤12) by omega),decide_eq_false (show ¬(w.size:Int)≥1 by omega)]
  simp
def nmR (l:List ByteArray):Prop:=∀w∈l,(w.size:Int)≤9223372036854775807
def nmB (l:List ByteArray):Bool:=l.all nameB&&once l
theorem ae0 {cs:List Cd}{os:List ByteArray}{ks:List Ko}{gs:List Ch}{bs:List Ba}(hd:1≤cs.length∧cs.length≤16∧os.length≤8∧ks.length≤32∧gs.length≤16∧bs.length≤24):fM cs os ks gs bs=(nmB (gJ cs os ks gs bs)&&U6 cs os ks gs bs):=by
 unfold fM nmB
 rw [decide_eq_true hd,Bool.true_and,Bool.and_assoc]
theorem aic {n a b:Int}:inB n a b=false↔¬(a≤n∧n≤b):=by
 rw [←dN]
 simp
theorem adC {ks:List Ko}{i c:Int}(h0:0≤i) (h:i≤(ks.length:Int)):((ks.take i.toNat).map (·.2.2.2)).contains c=true↔∃j:Nat,(j:Int)<i∧(nD ks j).2.2.2=c:=by
 rw [List.contains_iff_mem,List.mem_map]
 constructor
 ·rintro ⟨x,hx,rfl⟩
  obtain ⟨j,hj,rfl⟩:=List.mem_iff_getElem.1 hx
  rw [List.length_take] at hj
  exact ⟨j,by omega,by rw [ai3 (by simp only [Int.toNat_natCast];omega)];simp⟩
 ·rintro ⟨j,hj,rfl⟩
  refine ⟨nD ks j,?_,rfl⟩
  rw [ai3 (by simp only [Int.toNat_natCast];omega),List.mem_iff_getElem]
  exact ⟨j,by rw [List.length_take];omega,by simp⟩
end Go.Proofs.YtlihnbimgclogaaGreatDoor
namespace Go.Proofs.YtlihnbimgclogaaGreatDoor
open Go.Sx
structure mX where
 l:List ByteArray
 w:ByteArray
 r:Int
 i:Int
def aDB (s:mX):List LV:=[.xl .str s.l,.v (.string s.w),.v (.int .i64 s.r),.v (.int .i64 s.i)]
def aCA (_:mX):List aU:=[]
noncomputable def Bv:Code:=((aC (Tryz.f144.body.getD .skip))[0]?).getD .skip
def QU (s:mX):T (Rd mX):=
 .br (decide (s.i<(List.length s.l:Int))) (.req (0≤s.i∧s.i<(List.length s.l:Int)) (.br ((gS s.l s.i).toList==s.w.toList) (.ok (.stop (.ret) {s with r:=s.i})) (.ok (.next {s with i:=(IntKind.i64.wrap (s.i+1))})))) (.ok (.stop (.exit 0) s))
abbrev aa4 (s:mX):=(QU s).rd s
def ala (s:mX):Prop:=s.i=0∧(List.length s.l:Int)≤1000∧True
def UI (s:mX):Prop:=0≤s.i∧s.i≤(List.length s.l:Int)∧(List.length s.l:Int)≤1000∧True
def OH (s:mX):Nat:=((List.length s.l:Int)-s.i).toNat
def asR (_:Ex) (_ _:mX):Prop:=True
theorem aAB:∀s,ala s→UI s:=by
 intro s h
 obtain ⟨h0,h1,h2⟩:=h
 exact ⟨by omega,by omega,h1,h2⟩
theorem awH (s:mX) (hI:UI s):bJ (fun s'=>UI s'∧OH s'<OH s) (fun x s'=>asR x s s') (aa4 s):=by
 unfold aa4 QU
 dsimp only [T.rd,T.rl]
 obtain ⟨h0,h1,h2,h3⟩:=hI
 refine au (fun c1=>?_) (fun c1=>?_)
 ·refine au (fun c2=>?_) (fun c2=>?_)
  ·trivial
  ·have c1:s.i<(List.length s.l:Int):=by simpa using c1
   rw [aK (x:=s.i+1) (by omega) (by omega)]
   exact ⟨⟨by simp only;omega,by simp only;omega,h2,h3⟩,by simp only [OH];omega⟩
 ·trivial
def ER:bK mX:=⟨0,19,[0,1,4,5],[],aDB,aCA,fun v _=>⟨aQ .str (v.getD 0 .junk),gSr (v.getD 1 .junk),gI (v.getD 2 .junk),gI (v.getD 3 .junk)⟩,QU,fun s r=> {r with l:=s.l,w:=s.w},fun s=>s,fun _ s=>s,[.ret,.exit 0],ala,UI,OH⟩
abbrev ZG:=ER.run
abbrev abr:=ER.jJ
abbrev ayv:=ER.q
theorem avc (s:mX) (hI:UI s):(QU s).all (fun _=>True):=by
 refine ⟨fun c1=>⟨?_,fun _=>trivial,fun _=>trivial⟩,fun _=>trivial⟩
 ·(obtain ⟨h0,h1,h2,h3⟩:=hI;simp only [decide_eq_true_eq] at c1;omega)
noncomputable def Io:Specs:=aZ []
theorem KL:∀g S,Io g=some S→Valid Tryz.prog aP g S:=aS (l:=[]) trivial
theorem ahb:ER.Ok:=⟨fun s=>by kernel_rfl,fun s=>by kernel_rfl,fun s=>rfl,fun s t r=>rfl,fun s=>rfl,fun s=>by kernel_rfl⟩
theorem af4:ER.Pf (asR):=⟨aAB,fun _ _=>rfl,awH,avc⟩
theorem amq:bg Tryz.prog aP (AN 0) (.loop Bv) ER.lp:=bK.snd ahb af4 (aT (Γ:=Io) (K:=eu) (L:=aB) KL aF Bv (fun b hb=>by rw [show aC Bv=[] by kernel_rfl] at hb;cases hb)) (fun s=>by kernel_rfl)
theorem ao5 (s:mX) (hE:ala s):(fun (x:Ex) (s':mX) (v:Int)=>(x=.ret∧s'.r=v)∨(x=.exit 0∧v=-1)) (abr s) (ZG s) ((fun s:mX=>inG s.i (s.l.drop s.i.toNat) s.w) s):=by
 exact bK.uy ahb af4 (fun s:mX=>inG s.i (s.l.drop s.i.toNat) s.w) (fun x s' v=>(x=.ret∧s'.r=v)∨(x=.exit 0∧v=-1)) (fun s hI=>by
  show bJ _ _ (aa4 s)
  unfold aa4 QU
  dsimp only [T.rd,T.rl]
  obtain ⟨h0,h1,h2,h3⟩:=hI
  refine au (fun c1=>au (fun c2=>?_) (fun c2=>?_)) (fun c1=>?_)
  ·have c1:s.i<(List.length s.l:Int):=by simpa using c1
   rw [tu] at c2
   refine .inl ⟨rfl,?_⟩
   try simp only
   rw [(uq h0 c1).1,inG,if_pos c2]
  ·have c1:s.i<(List.length s.l:Int):=by simpa using c1
   rw [tu] at c2
   rw [aK (x:=s.i+1) (by omega) (by omega)]
   show inG _ _ _=inG _ _ _
   rw [(uq h0 c1).1,inG,if_neg (by rw [c2];simp)]
  ·have c1:(List.length s.l:Int)≤s.i:=by simpa using c1
   refine .inr ⟨rfl,?_⟩
   rw [List.drop_eq_nil_of_le (by omega)]
   rfl) s hE
def ajR:List LV→T LV
 | [.xl (.str) l,.v (.string w)]=> .req ((List.length l:Int)≤1000) (.ok (.v (.int .i64 (inI l w))))
 |_=> .no
noncomputable def ajC:List LV→T LV:=gB Tryz.prog Tryz.f144.params.toList ajR
theorem av6 (l:List ByteArray) (w:ByteArray):bT Tryz.prog aP (Io) eu (fun i=>if i=2 then ER.lp else aB i) Tryz.f144 [.xl .str l,.v (.string w)]=.req (ayv (⟨l,w,(0:Int),(0:Int)⟩:mX)) (.br (iy (abr (⟨l,w,(0:Int),(0:Int)⟩:mX)) (.ret)) (.ok (.v (.int .i64 (ZG (⟨l,w,(0:Int),(0:Int)⟩:mX)).r))) (.ok (.v (.int .i64 (-1))))):=by kernel_rfl
theorem ay3:Valid Tryz.prog aP 144 ajC:=aH Tryz.func144 rfl KL aF (L:=(fun i=>if i=2 then ER.lp else aB i)) (fun b hb=>by
 rw [show aC _=[Bv] by kernel_rfl] at hb
 simp only [List.mem_cons,List.not_mem_nil,or_false] at hb
 subst hb
 exact amq) (fun args lv h=>by
 unfold ajR at h
 split at h
 ·simp only [canL,canX]
  rw [av6]
  obtain ⟨hl,rfl⟩:=h
  refine mP ⟨⟨rfl,hl,trivial⟩,rfl,rfl⟩ (fun hE=>?_)
  rcases ao5 _ hE.1 with ⟨q1,q2⟩ |⟨q1,q2⟩
  ·rw [q1,q2]
   exact ⟨fun _=>rfl,fun h=>by cases h⟩
  ·rw [q1]
   refine ⟨fun h=>(by cases h),fun _=>congrArg (fun z=>LV.v (.int .i64 z)) ?_⟩
   exact q2.symm
 ·cases h)
def Ld:List LV→T LV
 | []=> .ok (.xl .str kinds)
 |_=> .no
noncomputable def I7:List LV→T LV:=gB Tryz.prog Tryz.f145.params.toList Ld
theorem adQ  :bT Tryz.prog aP (Io) eu aB Tryz.f145 []=.ok (.xl .str ([(ByteArray.mk #[102,101,101,100,101,114]),(ByteArray.mk #[99,97,98,108,101]),(ByteArray.mk #[111,119,110,101,114]),(ByteArray.mk #[99,111,110,116,114,97,99,116]),(ByteArray.mk #[99,104,97,114,103,101,114]),(ByteArray.mk #[98,97,121]),(ByteArray.mk #[116,97,114,105,102,102])])):=by kernel_rfl
theorem aeL:Valid Tryz.prog aP 145 I7:=aH Tryz.func145 rfl KL aF (aW (by kernel_rfl)) (fun args lv h=>by
 unfold Ld at h
 split at h
 ·simp only [canL]
  rw [adQ]
  exact h
 ·cases h)
def Lh:List LV→T LV
 | []=> .ok (.xl .str D9)
 |_=> .no
noncomputable def Ja:List LV→T LV:=gB Tryz.prog Tryz.f146.params.toList Lh
theorem adR  :bT Tryz.prog aP (Io) eu aB Tryz.f146 []=.ok (.xl .str ([(ByteArray.mk #[108,105,109,105,116]),(ByteArray.mk #[110,101,117,116,114,97,108]),(ByteArray.mk #[102,117,115,101]),(ByteArray.mk #[116,104,101,114,109,97,108]),(ByteArray.mk #[102,114,111,109]),(ByteArray.mk #[97,116]),(ByteArray.mk #[112,104,97,115,101,115]),(ByteArray.mk #[97,109,112,115]),(ByteArray.mk #[102,97,108,108,98,97,99,107]),(ByteArray.mk #[111,119,110,101,114]),(ByteArray.mk #[99,97,114,100]),(ByteArray.mk #[114,97,110,107]),(ByteArray.mk #[99,104,97,114,103,101,114])])):=by kernel_rfl
theorem aeO:Valid Tryz.prog aP 146 Ja:=aH Tryz.func146 rfl KL aF (aW (by kernel_rfl)) (fun args lv h=>by
 unfold Lh at h
 split at h
 ·simp only [canL]
  rw [adR]
  exact h
 ·cases h)
def BV:List LV→T LV
 | []=> .ok (.xl .str oD)
 |_=> .no
noncomputable def wH:List LV→T LV:=gB Tryz.prog Tryz.f147.params.toList BV
theorem NR  :bT Tryz.prog aP (Io) eu aB Tryz.f147 []=.ok (.xl .str ([(ByteArray.mk #[115,116,97,114,116]),(ByteArray.mk #[101,110,101,114,103,121]),(ByteArray.mk #[116,105,109,101]),(ByteArray.mk #[105,100,108,101]),(ByteArray.mk #[99,97,112]),(ByteArray.mk #[116,97,120])])):=by kernel_rfl
theorem Qr:Valid Tryz.prog aP 147 wH:=aH Tryz.func147 rfl KL aF (aW (by kernel_rfl)) (fun args lv h=>by
 unfold BV at h
 split at h
 ·simp only [canL]
  rw [NR]
  exact h
 ·cases h)
def Lc:List LV→T LV
 | []=> .ok (.xl .str words)
 |_=> .no
noncomputable def I4:List LV→T LV:=gB Tryz.prog Tryz.f148.params.toList Lc
theorem adP  :bT Tryz.prog aP (Io) eu aB Tryz.f148 []=.ok (.xl .str ([(ByteArray.mk #[111,110]),(ByteArray.mk #[119,111,114,107]),(ByteArray.mk #[115,97,116,117,114,100,97,121]),(ByteArray.mk #[115,117,110,100,97,121]),(ByteArray.mk #[98,101,116,119,101,101,110]),(ByteArray.mk #[112,101,114]),(ByteArray.mk #[102,114,101,101])])):=by kernel_rfl
theorem aeJ:Valid Tryz.prog aP 148 I4:=aH Tryz.func148 rfl KL aF (aW (by kernel_rfl)) (fun args lv h=>by
 unfold Lc at h
 split at h
 ·simp only [canL]
  rw [adP]
  exact h
 ·cases h)
structure oL where
 w:ByteArray
 r:Bool
 i:Int
def aC9 (s:oL):List LV:=[.v (.string s.w),.v (.bool s.r),.v (.int .i64 s.i)]
def aB8 (_:oL):List aU:=[]
noncomputable def AL:Code:=((aC (Tryz.f122.body.getD .skip))[0]?).getD .skip
def YZ (s:oL):T (Rd oL):=
 .br (decide (s.i<(s.w.size:Int))) (.req (0≤s.i∧s.i<(s.w.size:Int)) (.br (if decide ((rW s.w s.i)<97) then (s.i==0) ||(if decide ((rW s.w s.i)<48) then (rW s.w s.i) !=95 else (decide ((rW s.w s.i)>57))&&((rW s.w s.i) !=95)) else (decide ((rW s.w s.i)>122))&&((s.i==0) ||(if decide ((rW s.w s.i)<48) then (rW s.w s.i) !=95 else (decide ((rW s.w s.i)>57))&&((rW s.w s.i) !=95)))) (.ok (.stop (.ret) {s with r:=false})) (.ok (.next {s with i:=(IntKind.i64.wrap (s.i+1))})))) (.ok (.stop (.exit 0) s))
abbrev ar8 (s:oL):=(YZ s).rd s
def Js (s:oL) (j:Int):Bool:=yj (rW s.w j) j
def akZ (s:oL):Prop:=s.i=0∧0≤(s.w.size:Int)∧(s.w.size:Int)≤9223372036854775807∧True
def LU (s:oL):Prop:=0≤s.i∧s.i≤(s.w.size:Int)∧(s.w.size:Int)≤9223372036854775807∧(True)∧∀j:Nat,(j:Int)<s.i→Js s j=true
def Og (s:oL):Nat:=((s.w.size:Int)-s.i).toNat
def akk (x:Ex) (_ s':oL):Prop:=(x=.exit 0∧∀j:Nat,(j:Int)<(s'.w.size:Int)→Js s' j=true)∨(x=.ret∧s'.r=false∧∃j:Nat,(j:Int)<(s'.w.size:Int)∧Js s' j=false)
theorem azM:∀s,akZ s→LU s:=by
 intro s h
 obtain ⟨h0,h1,h2,h3⟩:=h
 exact ⟨by omega,by omega,h2,h3,fun j hj=>by omega⟩
theorem avw (s:oL) (hI:LU s):bJ (fun s'=>LU s'∧Og s'<Og s) (fun x s'=>akk x s s') (ar8 s):=by
 unfold ar8 YZ
 dsimp only [T.rd,T.rl]
 obtain ⟨h0,h1,h2,h3,h4⟩:=hI
 refine au (fun c1=>au (fun c2=>?_) (fun c2=>?_)) (fun c1=>?_)
 ·have c1:s.i<(s.w.size:Int):=by simpa using c1
  refine .inr ⟨rfl,rfl,s.i.toNat,by simp only;omega,?_⟩
  rw [Int.toNat_of_nonneg (by omega)]
  have hg:Js s s.i=false:=by unfold Js;(revert c2;unfold yj chA;generalize rW s.w s.i=b;intro c2;by_cases h1:b<97<;>by_cases h2:b≤122<;>by_cases h3:b<48<;>by_cases h4:b≤57<;>by_cases h5:b=95<;>by_cases h6:s.i=0<;>simp_all<;>omega)
  exact hg
 ·have c1:s.i<(s.w.size:Int):=by simpa using c1
  have hg:Js s s.i=true:=by unfold Js;(revert c2;unfold yj chA;generalize rW s.w s.i=b;intro c2;by_cases h1:b<97<;>by_cases h2:b≤122<;>by_cases h3:b<48<;>by_cases h4:b≤57<;>by_cases h5:b=95<;>by_cases h6:s.i=0<;>simp_all<;>omega)
  rw [aK (x:=s.i+1) (by omega) (by omega)]
  refine ⟨⟨by simp only;omega,by simp only;omega,h2,h3,fun j hj=>?_⟩,by simp only [Og];omega⟩
  by_cases hji:(j:Int)<s.i
  ·exact h4 j hji
  ·have:(j:Int)=s.i:=by simp only at hj;omega
   rw [this];exact hg
 ·have c1:(s.w.size:Int)≤s.i:=by simpa using c1
  exact .inl ⟨rfl,fun j hj=>h4 j (by omega)⟩
def Ep:bK oL:=⟨0,71,[0,2,3],[],aC9,aB8,fun v _=>⟨gSr (v.getD 0 .junk),vg (v.getD 1 .junk),gI (v.getD 2 .junk)⟩,YZ,fun s r=> {r with w:=s.w},fun s=>s,fun _ s=>s,[.ret,.exit 0],akZ,LU,Og⟩
abbrev Zy:=Ep.run
abbrev abl:=Ep.jJ
abbrev ax5:=Ep.q
theorem auK (s:oL) (hI:LU s):(YZ s).all (fun _=>True):=by
 refine ⟨fun c1=>⟨?_,fun _=>trivial,fun _=>trivial⟩,fun _=>trivial⟩
 ·(obtain ⟨h0,h1,h2,h3,h4⟩:=hI;simp at c1;omega)
noncomputable def aiS:Specs:=aZ [(144,ajC),(145,I7),(146,Ja),(147,wH),(148,I4)]
theorem arC:∀g S,aiS g=some S→Valid Tryz.prog aP g S:=aS (l:=[(144,ajC),(145,I7),(146,Ja),(147,wH),(148,I4)]) ⟨ay3,aeL,aeO,Qr,aeJ,trivial⟩
theorem agS:Ep.Ok:=⟨fun s=>by kernel_rfl,fun s=>by kernel_rfl,fun s=>rfl,fun s t r=>rfl,fun s=>rfl,fun s=>by kernel_rfl⟩
theorem afJ:Ep.Pf (akk):=⟨azM,fun _ _=>rfl,avw,auK⟩
theorem alZ:bg Tryz.prog aP (AN 0) (.loop AL) Ep.lp:=bK.snd agS afJ (aT (Γ:=aiS) (K:=eu) (L:=aB) arC aF AL (fun b hb=>by rw [show aC AL=[] by kernel_rfl] at hb;cases hb)) (fun s=>by kernel_rfl)
theorem am7 (s:oL) (hE:akZ s):∃s',LU s'∧akk (abl s) s' (Zy s):=bK.fin agS afJ s hE
def Uk:List LV→T LV
 | [.v (.string w)]=> .req ((w.size:Int)≤9223372036854775807) (.ok (.v (.bool (nameB w))))
 |_=> .no
noncomputable def P8:List LV→T LV:=gB Tryz.prog Tryz.f122.params.toList Uk
theorem ahD (w:ByteArray):bT Tryz.prog aP (aiS) eu (fun i=>if i=2 then Ep.lp else aB i) Tryz.f122 [.v (.string w)]=.req (ax5 (⟨w,false,(0:Int)⟩:oL)) (.br (iy (abl (⟨w,false,(0:Int)⟩:oL)) (.ret)) (.ok (.v (.bool (Zy (⟨w,false,(0:Int)⟩:oL)).r))) (.req ((List.length kinds:Int)≤1000) (.br (decide ((inI kinds w)≥0)) (.ok (.v (.bool false))) (.req ((List.length D9:Int)≤1000) (.br (decide ((inI D9 w)≥0)) (.ok (.v (.bool false))) (.req ((List.length oD:Int)≤1000) (.br (decide ((inI oD w)≥0)) (.ok (.v (.bool false))) (.req ((List.length words:Int)≤1000) (.ok (.v (.bool ((decide ((w.size:Int)≥1))&&((decide ((w.size:Int)≤12))&&(!(decide ((inI words w)≥0)))))))))))))))):=by kernel_rfl
theorem alp:Valid Tryz.prog aP 122 P8:=aH Tryz.func122 rfl arC aF (L:=(fun i=>if i=2 then Ep.lp else aB i)) (fun b hb=>by
 rw [show aC _=[AL] by kernel_rfl] at hb
 simp only [List.mem_cons,List.not_mem_nil,or_false] at hb
 subst hb
 exact alZ) (fun args lv h=>by
 unfold Uk at h
 split at h
 ·simp only [canL,canX]
  rw [ahD]
  rename_i w
  obtain ⟨hl,rfl⟩:=h
  refine mP ⟨⟨rfl,Int.natCast_nonneg _,hl,trivial⟩,rfl,rfl⟩ (fun hE=>?_)
  obtain ⟨s',_,hq⟩:=am7 _ hE.1
  rw [ahO]
  rcases hq with ⟨q1,q2⟩ |⟨q1,q2,j,q3,q4⟩
  ·have q2:JL w.size (fun j=>yj (rW w j) j)=true:=fU.2 q2
   rw [q1,q2,Bool.true_and]
   have k1:=FM (l:=kinds) (w:=w)
   have k2:=FM (l:=D9) (w:=w)
   have k3:=FM (l:=oD) (w:=w)
   have k4:=FM (l:=words) (w:=w)
   refine ⟨fun h=>(by cases h),fun _=>⟨by decide,fun c1=>?_,fun c1=>⟨by decide,fun c2=>?_,fun c2=>⟨by decide,fun c3=>?_,fun c3=>⟨by decide,?_⟩⟩⟩⟩⟩
   ·have:Fj w=true:=by unfold Fj;rw [←k1,c1];rfl
    rw [this]
    simp
    exact rfl
   ·have:Fj w=true:=by unfold Fj;rw [←k1,c1,←k2,c2];rfl
    rw [this]
    simp
    exact rfl
   ·have:Fj w=true:=by unfold Fj;rw [←k1,c1,←k2,c2,←k3,c3];rfl
    rw [this]
    simp
    exact rfl
   ·have:Fj w=decide (inI words w≥0):=by unfold Fj;rw [←k1,c1,←k2,c2,←k3,c3,←k4];rfl
    rw [this]
    exact rfl
  ·rw [q1,q2]
   refine ⟨fun _=>congrArg (fun z=>LV.v (.bool z)) ?_,fun h=>by cases h⟩
   rw [tN (n:=w.size) (f:=fun j=>yj (rW w j) j) j q3 q4]
   rfl
 ·cases h)
end Go.Proofs.YtlihnbimgclogaaGreatDoor
namespace Go.Proofs.YtlihnbimgclogaaGreatDoor
open Go.Sx
def ab5:List LV→T LV
 | [.v (.int .i64 n),.v (.int .i64 a),.v (.int .i64 b)]=> .ok (.v (.bool (inB n a b)))
 |_=> .no
noncomputable def I8:List LV→T LV:=gB Tryz.prog Tryz.f86.params.toList ab5
noncomputable def SV:Specs:=aZ []
theorem aaz:∀g S,SV g=some S→Valid Tryz.prog aP g S:=aS (l:=[]) trivial
theorem an2 (n a b:Int):bT Tryz.prog aP (SV) eu aB Tryz.f86 [.v (.int .i64 n),.v (.int .i64 a),.v (.int .i64 b)]=.ok (.v (.bool ((decide (n≥a))&&(decide (n≤b))))):=by kernel_rfl
theorem aeM:Valid Tryz.prog aP 86 I8:=aH Tryz.func86 rfl aaz aF (aW (by kernel_rfl)) (fun args lv h=>by
 unfold ab5 at h
 split at h
 ·simp only [canL,canX]
  rw [an2]
  exact h
 ·cases h)
def ab8:List LV→T LV
 | [.v (.agg ⟨[.string nm,.int .i64 at_,.int .i64 ph,.int .i64 mi,.int .i64 ma,.int .i64 st,.int .i64 fb,.int .i64 ow]⟩)]=> .ok (.v (.bool (chW (nm,at_,ph,mi,ma,st,fb,ow))))
 |_=> .no
noncomputable def XL:List LV→T LV:=gB Tryz.prog Tryz.f89.params.toList ab8
noncomputable def aiR:Specs:=aZ [(86,I8)]
theorem arB:∀g S,aiR g=some S→Valid Tryz.prog aP g S:=aS (l:=[(86,I8)]) ⟨aeM,trivial⟩
theorem an5 (nm:ByteArray) (at_ ph mi ma st fb ow:Int):bT Tryz.prog aP (aiR) eu aB Tryz.f89 [.v (.agg #[.string nm,.int .i64 at_,.int .i64 ph,.int .i64 mi,.int .i64 ma,.int .i64 st,.int .i64 fb,.int .i64 ow])]=.ok (.v (.bool ((inB ph (1:Int) (7:Int))&&((inB mi (1:Int) (80:Int))&&((inB ma mi (80:Int))&&((inB st (1:Int) (80:Int))&&((fb==0) ||(inB fb mi ma)))))))):=by kernel_rfl
theorem ath:Valid Tryz.prog aP 89 XL:=aH Tryz.func89 rfl arB aF (aW (by kernel_rfl)) (fun args lv h=>by
 unfold ab8 at h
 split at h
 ·simp only [canL,canX]
  rw [an5]
  exact h
 ·cases h)
def ab6:List LV→T LV
 | [.agg [.xl (.pair .str (.pair (.int .i64) (.pair (.int .i64) (.pair (.int .i64) (.pair (.pair (.int .i64) (.int .i64)) (.pair (.int .i64) (.pair (.int .i64) (.pair (.int .i64) (.pair (.int .i64) (.int .i64)))))))))) cs,.xl (.str) os,.xl (.pair .str (.pair (.int .i64) (.pair (.int .i64) (.int .i64)))) ks,.xl (.pair .str (.pair (.int .i64) (.pair (.int .i64) (.pair (.int .i64) (.pair (.int .i64) (.pair (.int .i64) (.pair (.int .i64) (.int .i64)))))))) gs,.xl (.pair .str (.int .i64)) bs]]=> .ok (.v (.bool (decide (List.length cs≤40∧List.length os≤40∧List.length ks≤40∧List.length gs≤40∧List.length bs≤40))))
 |_=> .no
noncomputable def XJ:List LV→T LV:=gB Tryz.prog Tryz.f34.params.toList ab6
theorem an3 (cs:List Cd) (os:List ByteArray) (ks:List Ko) (gs:List Ch) (bs:List Ba):bT Tryz.prog aP (SV) eu aB Tryz.f34 [.agg [.xl dX cs,.xl .str os,.xl dY ks,.xl dS gs,.xl dZ bs]]=.ok (.v (.bool ((decide ((List.length cs:Int)≤40))&&((decide ((List.length os:Int)≤40))&&((decide ((List.length ks:Int)≤40))&&((decide ((List.length gs:Int)≤40))&&(decide ((List.length bs:Int)≤40)))))))):=by kernel_rfl
theorem atf:Valid Tryz.prog aP 34 XJ:=aH Tryz.func34 rfl aaz aF (aW (by kernel_rfl)) (fun args lv h=>by
 unfold ab6 at h
 split at h
 ·simp only [canL,canX]
  rw [an3]
  obtain rfl:=h
  refine congrArg (fun z=>LV.v (.bool z)) ?_
  rw [Bool.eq_iff_iff]
  simp only [Bool.and_eq_true,decide_eq_true_eq]
  omega
 ·cases h)
def ab7:List LV→T LV
 | [.v (.agg ⟨[.string nm,.int .i64 xZ,.int .i64 li,.int .i64 ne,.int .i64 ra,.int .i64 he,.int .i64 am,.int .i64 mo,.int .i64 ga,.int .i64 lo,.int .i64 de]⟩),.v (.int .i64 i)]=> .req (0≤i∧i≤1000) (.ok (.v (.bool (D8 i (nm,xZ,li,ne,(ra,he),am,mo,ga,lo,de)))))
 |_=> .no
noncomputable def XK:List LV→T LV:=gB Tryz.prog Tryz.f88.params.toList ab7
theorem an4 (nm:ByteArray) (xZ li ne ra he am mo ga lo de i:Int):bT Tryz.prog aP (aiR) eu aB Tryz.f88 [.v (.agg #[.string nm,.int .i64 xZ,.int .i64 li,.int .i64 ne,.int .i64 ra,.int .i64 he,.int .i64 am,.int .i64 mo,.int .i64 ga,.int .i64 lo,.int .i64 de]),.v (.int .i64 i)]=.br ((!(inB li (1:Int) (1000:Int))) ||((!(inB ne (1:Int) (1000:Int))) ||(if i==0 then (xZ !=(-1)) ||((decide (i>0))&&(!(inB xZ (0:Int) (IntKind.i64.wrap (i-1))))) else (decide (i>0))&&(!(inB xZ (0:Int) (IntKind.i64.wrap (i-1))))))) (.ok (.v (.bool false))) (.br ((!((ra==0)&&(he==0)))&&((!(inB ra (1:Int) (1000:Int))) ||(!(inB he (0:Int) (1000000:Int))))) (.ok (.v (.bool false))) (.ok (.v (.bool (((am==0)&&((mo==0)&&((ga==0)&&((lo==0)&&(de==0))))) ||((inB am (0:Int) (200000:Int))&&((inB mo (IntKind.i64.wrap (am+1)) (200000:Int))&&((inB ga (0:Int) (1000:Int))&&((inB lo (0:Int) (1000:Int))&&(inB de (1:Int) (1000000:Int))))))))))):=by kernel_rfl
theorem atg:Valid Tryz.prog aP 88 XK:=aH Tryz.func88 rfl arB aF (aW (by kernel_rfl)) (fun args lv h=>by
 unfold ab7 at h
 split at h
 ·simp only [canL,canX]
  rw [an4]
  rename_i nm xZ li ne ra he am mo ga lo de i
  obtain ⟨⟨h0,h1⟩,rfl⟩:=h
  have hw:IntKind.i64.wrap (i-1)=i-1:=aK (by omega) (by omega)
  rw [hw]
  have hU:(if i==0 then (xZ !=(-1)) ||((decide (i>0))&&(!(inB xZ (0:Int) (i-1)))) else (decide (i>0))&&(!(inB xZ (0:Int) (i-1))))=!(if i=0 then xZ==-1 else inB xZ 0 (i-1)):=by
   by_cases e:i=0
   ·subst e
    simp
    rfl
   ·rw [if_neg (by simpa using e),if_neg e,decide_eq_true (by omega),Bool.true_and]
  rw [hU]
  unfold D8
  simp only
  generalize (if i=0 then xZ==-1 else inB xZ 0 (i-1))=u
  generalize inB li 1 1000=a
  generalize inB ne 1 1000=b
  have hC:((((am==0)&&((mo==0)&&((ga==0)&&((lo==0)&&(de==0))))) ||((inB am (0:Int) (200000:Int))&&((inB mo (IntKind.i64.wrap (am+1)) (200000:Int))&&((inB ga (0:Int) (1000:Int))&&((inB lo (0:Int) (1000:Int))&&(inB de (1:Int) (1000000:Int))))))))=PV (am,mo,ga,lo,de):=by
   unfold PV cbZ
   simp only
   congr 1
   by_cases ha:inB am 0 200000=true
   ·have:=dN.1 ha
    rw [aK (x:=am+1) (by omega) (by omega),ha,Bool.true_and,Bool.eq_iff_iff]
    simp only [Bool.and_eq_true,dN,decide_eq_true_eq]
    omega
   ·have ha:inB am 0 200000=false:=by simpa using ha
    rw [ha,Bool.false_and,eq_comm,Bool.eq_false_iff]
    have:=aic.1 ha
    simp only [ne_eq,Bool.and_eq_true,dN,decide_eq_true_eq]
    omega
  rw [hC]
  generalize PV (am,mo,ga,lo,de)=z
  generalize ((ra==0)&&(he==0))=f
  generalize inB ra 1 1000=r
  generalize inB he 0 1000000=q
  cases u<;>cases a<;>cases b<;>cases z<;>cases f<;>cases r<;>cases q<;>simp [T.all]
 ·cases h)
structure uH where
 l:List ByteArray
 w:ByteArray
 r:Bool
 i:Int
def aED (s:uH):List LV:=[.xl .str s.l,.v (.string s.w),.v (.bool s.r),.v (.int .i64 s.i)]
def aEv (_:uH):List aU:=[]
noncomputable def FZ:Code:=((aC (Tryz.f123.body.getD .skip))[0]?).getD .skip
def aeV (s:uH):T (Rd uH):=
 .br (decide (s.i<(List.length s.l:Int))) (.req (0≤s.i∧s.i<(List.length s.l:Int)) (.br ((gS s.l s.i).toList==s.w.toList) (.ok (.stop (.ret) {s with r:=true})) (.ok (.next {s with i:=(IntKind.i64.wrap (s.i+1))})))) (.ok (.stop (.exit 0) s))
abbrev apk (s:uH):=(aeV s).rd s
def ayd (s:uH):Prop:=s.i=0∧(List.length s.l:Int)≤1000∧True
def akN (s:uH):Prop:=0≤s.i∧s.i≤(List.length s.l:Int)∧(List.length s.l:Int)≤1000∧True
def Z8 (s:uH):Nat:=((List.length s.l:Int)-s.i).toNat
def aBK (_:Ex) (_ _:uH):Prop:=True
theorem aD4:∀s,ayd s→akN s:=by
 intro s h
 obtain ⟨h0,h1,h2⟩:=h
 exact ⟨by omega,by omega,h1,h2⟩
theorem azW (s:uH) (hI:akN s):bJ (fun s'=>akN s'∧Z8 s'<Z8 s) (fun x s'=>aBK x s s') (apk s):=by
 unfold apk aeV
 dsimp only [T.rd,T.rl]
 obtain ⟨h0,h1,h2,h3⟩:=hI
 refine au (fun c1=>?_) (fun c1=>?_)
 ·refine au (fun c2=>?_) (fun c2=>?_)
  ·trivial
  ·have c1:s.i<(List.length s.l:Int):=by simpa using c1
   rw [aK (x:=s.i+1) (by omega) (by omega)]
   exact ⟨⟨by simp only;omega,by simp only;omega,h2,h3⟩,by simp only [Z8];omega⟩
 ·trivial
def U3:bK uH:=⟨0,18,[0,1,4,5],[],aED,aEv,fun v _=>⟨aQ .str (v.getD 0 .junk),gSr (v.getD 1 .junk),vg (v.getD 2 .junk),gI (v.getD 3 .junk)⟩,aeV,fun s r=> {r with l:=s.l,w:=s.w},fun s=>s,fun _ s=>s,[.ret,.exit 0],ayd,akN,Z8⟩
abbrev aff:=U3.run
abbrev aja:=U3.jJ
abbrev aBN:=U3.q
theorem azD (s:uH) (hI:akN s):(aeV s).all (fun _=>True):=by
 refine ⟨fun c1=>⟨?_,fun _=>trivial,fun _=>trivial⟩,fun _=>trivial⟩
 ·(obtain ⟨h0,h1,h2,h3⟩:=hI;simp only [decide_eq_true_eq] at c1;omega)
theorem aqN:U3.Ok:=⟨fun s=>by kernel_rfl,fun s=>by kernel_rfl,fun s=>rfl,fun s t r=>rfl,fun s=>rfl,fun s=>by kernel_rfl⟩
theorem aqG:U3.Pf (aBK):=⟨aD4,fun _ _=>rfl,azW,azD⟩
theorem auc:bg Tryz.prog aP (AN 0) (.loop FZ) U3.lp:=bK.snd aqN aqG (aT (Γ:=SV) (K:=eu) (L:=aB) aaz aF FZ (fun b hb=>by rw [show aC FZ=[] by kernel_rfl] at hb;cases hb)) (fun s=>by kernel_rfl)
theorem avH (s:uH) (hE:ayd s):(fun (x:Ex) (s':uH) (v:Bool)=>(x=.ret∧s'.r=true∧v=true)∨(x=.exit 0∧v=false)) (aja s) (aff s) ((fun s:uH=>isIn (s.l.drop s.i.toNat) s.w) s):=by
 exact bK.uy aqN aqG (fun s:uH=>isIn (s.l.drop s.i.toNat) s.w) (fun x s' v=>(x=.ret∧s'.r=true∧v=true)∨(x=.exit 0∧v=false)) (fun s hI=>by
  show bJ _ _ (apk s)
  unfold apk aeV
  dsimp only [T.rd,T.rl]
  obtain ⟨h0,h1,h2,h3⟩:=hI
  have ic:∀(x:ByteArray) xs,isIn (x::xs) s.w=(s.w==x ||isIn xs s.w):=fun _ _=>rfl
  refine au (fun c1=>au (fun c2=>?_) (fun c2=>?_)) (fun c1=>?_)
  ·have c1:s.i<(List.length s.l:Int):=by simpa using c1
   rw [tu] at c2
   have c2:s.w==gS s.l s.i:=by simpa using (eq_of_beq c2).symm
   refine .inl ⟨rfl,rfl,?_⟩
   try simp only
   rw [(uq h0 c1).1,ic,c2]
   rfl
  ·have c1:s.i<(List.length s.l:Int):=by simpa using c1
   rw [tu] at c2
   have c2:(s.w==gS s.l s.i)=false:=by
    have:¬gS s.l s.i=s.w:=by simpa using c2
    simpa using fun e=>this e.symm
   rw [aK (x:=s.i+1) (by omega) (by omega)]
   show isIn _ _=isIn _ _
   rw [(uq h0 c1).1,ic,c2,Bool.false_or]
  ·have c1:(List.length s.l:Int)≤s.i:=by simpa using c1
   refine .inr ⟨rfl,?_⟩
   rw [List.drop_eq_nil_of_le (by omega)]
   rfl) s hE
def ajS:List LV→T LV
 | [.xl (.str) l,.v (.string w)]=> .req ((List.length l:Int)≤1000) (.ok (.v (.bool (isIn l w))))
 |_=> .no
noncomputable def ajD:List LV→T LV:=gB Tryz.prog Tryz.f123.params.toList ajS
theorem av7 (l:List ByteArray) (w:ByteArray):bT Tryz.prog aP (SV) eu (fun i=>if i=2 then U3.lp else aB i) Tryz.f123 [.xl .str l,.v (.string w)]=.req (aBN (⟨l,w,false,(0:Int)⟩:uH)) (.br (iy (aja (⟨l,w,false,(0:Int)⟩:uH)) (.ret)) (.ok (.v (.bool (aff (⟨l,w,false,(0:Int)⟩:uH)).r))) (.ok (.v (.bool false)))):=by kernel_rfl
theorem ay4:Valid Tryz.prog aP 123 ajD:=aH Tryz.func123 rfl aaz aF (L:=(fun i=>if i=2 then U3.lp else aB i)) (fun b hb=>by
 rw [show aC _=[FZ] by kernel_rfl] at hb
 simp only [List.mem_cons,List.not_mem_nil,or_false] at hb
 subst hb
 exact auc) (fun args lv h=>by
 unfold ajS at h
 split at h
 ·simp only [canL,canX]
  rw [av7]
  obtain ⟨hl,rfl⟩:=h
  refine mP ⟨⟨rfl,hl,trivial⟩,rfl,rfl⟩ (fun hE=>?_)
  rcases avH _ hE.1 with ⟨q1,q2,q3⟩ |⟨q1,q2⟩
  ·rw [q1,q2]
   exact ⟨fun _=>congrArg (fun z=>LV.v (.bool z)) q3.symm,fun h=>by cases h⟩
  ·rw [q1]
   exact ⟨fun h=>(by cases h),fun _=>congrArg (fun z=>LV.v (.bool z)) q2.symm⟩
 ·cases h)
structure iE where
 r:Bool
 i:Int
 ah:List Cd
 aA:List ByteArray
 ai:List Ko
 ak:List Ch
 aJ:List Ba
 l:List ByteArray
def aDf (s:iE):List LV:=[.own 0 0,.v (.bool s.r),.os 1 1 0 (List.length s.l),.v (.int .i64 s.i)]
def aCe (s:iE):List aU:=[⟨[.xl dX s.ah,.xl .str s.aA,.xl dY s.ai,.xl dS s.ak,.xl dZ s.aJ],28,.cl,false⟩,⟨[],9,.vec .str s.l,false⟩]
noncomputable def AX:Code:=((aC (Tryz.f87.body.getD .skip))[0]?).getD .skip
def QF (s:iE):T (Rd iE):=
 .br (decide (s.i<(List.length s.ah:Int))) (.req (0≤s.i∧s.i<(List.length s.ah:Int)) (.req (0+(List.length s.l)=List.length s.l∧((List.length s.l+List.length ([(fO s.ah s.i).1]):Nat):Int)*16≤2^47∧((List.length s.l+List.length ([(fO s.ah s.i).1]):Nat):Int)<2^62) (.req (0=0∧(List.length s.l+List.length ([(fO s.ah s.i).1]))=List.length (s.l++([(fO s.ah s.i).1]))) (.ok (.next {s with i:=(IntKind.i64.wrap (s.i+1)),l:=(s.l++([(fO s.ah s.i).1]))}))))) (.rl s.l (.ok (.stop (.exit 0) s)))
abbrev aaR (s:iE):=(QF s).rd s
def ak5 (s:iE):Prop:=s.i=0∧(List.length s.ah:Int)≤1000∧(s.l.length:Int)≤5000+s.i
def UD (s:iE):Prop:=0≤s.i∧s.i≤(List.length s.ah:Int)∧(List.length s.ah:Int)≤1000∧(s.l.length:Int)≤5000+s.i
def Oo (s:iE):Nat:=((List.length s.ah:Int)-s.i).toNat
def asL (_:Ex) (_ _:iE):Prop:=True
theorem azT:∀s,ak5 s→UD s:=by
 intro s h
 obtain ⟨h0,h1,h2⟩:=h
 exact ⟨by omega,by omega,h1,h2⟩
theorem avD (s:iE) (hI:UD s):bJ (fun s'=>UD s'∧Oo s'<Oo s) (fun x s'=>asL x s s') (aaR s):=by
 unfold aaR QF
 dsimp only [T.rd,T.rl]
 obtain ⟨h0,h1,h2,h3⟩:=hI
 refine au (fun c1=>?_) (fun c1=>?_)
 ·have c1:s.i<(List.length s.ah:Int):=by simpa using c1
  rw [aK (x:=s.i+1) (by omega) (by omega)]
  exact ⟨⟨by simp only;omega,by simp only;omega,h2,by simp only [List.length_append,List.length_cons,List.length_nil];omega⟩,by simp only [Oo];omega⟩
 ·trivial
def Ez:bK iE:=⟨0,112,[1,2,3,4],[.nl 3 9 .str],aDf,aCe,fun v b=>⟨vg (v.getD 1 .junk),gI (v.getD 3 .junk),aQ dX (aX (aO b 0) 0),aQ .str (aX (aO b 0) 1),aQ dY (aX (aO b 0) 2),aQ dS (aX (aO b 0) 3),aQ dZ (aX (aO b 0) 4),iT .str (aO b 1)⟩,QF,fun s r=> {r with r:=s.r,ah:=s.ah,aA:=s.aA,ai:=s.ai,ak:=s.ak,aJ:=s.aJ},fun s=>s,fun _ s=>s,[.exit 0],ak5,UD,Oo⟩
abbrev jD:=Ez.run
abbrev apu:=Ez.jJ
abbrev ayb:=Ez.q
theorem auQ (s:iE) (hI:UD s):(QF s).all (fun _=>True):=by
 refine ⟨fun c1=>⟨?_,?_,?_,trivial⟩,fun c1=>⟨⟨rfl,rfl⟩,trivial⟩⟩
 iterate 2 · (obtain ⟨h0,h1,h2,h3⟩:=hI;simp only [decide_eq_true_eq] at c1;first|omega|(refine ⟨by omega,?_,?_⟩<;>simp only [List.length_cons,List.length_nil]<;>omega))
 ·exact ⟨rfl,by simp⟩
noncomputable def DW:Specs:=aZ [(122,P8),(123,ajD)]
theorem Ii:∀g S,DW g=some S→Valid Tryz.prog aP g S:=aS (l:=[(122,P8),(123,ajD)]) ⟨alp,ay4,trivial⟩
theorem agY:Ez.Ok:=⟨fun s=>by kernel_rfl,fun s=>by kernel_rfl,fun s=>rfl,fun s t r=>rfl,fun s=>rfl,fun s=>by kernel_rfl⟩
theorem afP:Ez.Pf (asL):=⟨azT,fun _ _=>rfl,avD,auQ⟩
theorem al5:bg Tryz.prog aP (AN 0) (.loop AX) Ez.lp:=bK.snd agY afP (aT (Γ:=DW) (K:=eu) (L:=aB) Ii aF AX (fun b hb=>by rw [show aC AX=[] by kernel_rfl] at hb;cases hb)) (fun s=>by kernel_rfl)
theorem ane (s:iE) (hE:ak5 s):(fun (x:Ex) (s':iE) (v:List ByteArray)=>x=.exit 0∧s'.l=v) (apu s) (jD s) ((fun s:iE=>s.l++(s.ah.drop s.i.toNat).map (·.1)) s):=by
 exact bK.uy agY afP (fun s:iE=>s.l++(s.ah.drop s.i.toNat).map (·.1)) (fun x s' v=>x=.exit 0∧s'.l=v) (fun s hI=>by
  show bJ _ _ (aaR s)
  unfold aaR QF
  dsimp only [T.rd,T.rl]
  obtain ⟨h0,h1,h2,h3⟩:=hI
  refine au (fun c1=>?_) (fun c1=>?_)
  ·have c1:s.i<(List.length s.ah:Int):=by simpa using c1
   rw [aK (x:=s.i+1) (by omega) (by omega)]
   show _++_=_++_
   try simp only
   rw [(Td h0 c1).1]
   simp
  ·have c1:(List.length s.ah:Int)≤s.i:=by simpa using c1
   refine ⟨rfl,?_⟩
   rw [List.drop_eq_nil_of_le (by omega)]
   simp) s hE
structure iQ where
 r:Bool
 i:Int
 ah:List Cd
 aA:List ByteArray
 ai:List Ko
 ak:List Ch
 aJ:List Ba
 l:List ByteArray
def aDe (s:iQ):List LV:=[.own 0 0,.v (.bool s.r),.os 1 1 0 (List.length s.l),.v (.int .i64 s.i)]
def aCd (s:iQ):List aU:=[⟨[.xl dX s.ah,.xl .str s.aA,.xl dY s.ai,.xl dS s.ak,.xl dZ s.aJ],28,.cl,false⟩,⟨[],9,.vec .str s.l,false⟩]
noncomputable def AV:Code:=((aC (Tryz.f87.body.getD .skip))[1]?).getD .skip
def QE (s:iQ):T (Rd iQ):=
 .br (decide (s.i<(List.length s.aA:Int))) (.req (0≤s.i∧s.i<(List.length s.aA:Int)) (.req (0+(List.length s.l)=List.length s.l∧((List.length s.l+List.length ([(gS s.aA s.i)]):Nat):Int)*16≤2^47∧((List.length s.l+List.length ([(gS s.aA s.i)]):Nat):Int)<2^62) (.req (0=0∧(List.length s.l+List.length ([(gS s.aA s.i)]))=List.length (s.l++([(gS s.aA s.i)]))) (.ok (.next {s with i:=(IntKind.i64.wrap (s.i+1)),l:=(s.l++([(gS s.aA s.i)]))}))))) (.rl s.l (.ok (.stop (.exit 2) s)))
abbrev aaQ (s:iQ):=(QE s).rd s
def ak4 (s:iQ):Prop:=s.i=0∧(List.length s.aA:Int)≤1000∧(s.l.length:Int)≤5000+s.i
def UC (s:iQ):Prop:=0≤s.i∧s.i≤(List.length s.aA:Int)∧(List.length s.aA:Int)≤1000∧(s.l.length:Int)≤5000+s.i
def Om (s:iQ):Nat:=((List.length s.aA:Int)-s.i).toNat
def asK (_:Ex) (_ _:iQ):Prop:=True
theorem azS:∀s,ak4 s→UC s:=by
 intro s h
 obtain ⟨h0,h1,h2⟩:=h
 exact ⟨by omega,by omega,h1,h2⟩
theorem avC (s:iQ) (hI:UC s):bJ (fun s'=>UC s'∧Om s'<Om s) (fun x s'=>asK x s s') (aaQ s):=by
 unfold aaQ QE
 dsimp only [T.rd,T.rl]
 obtain ⟨h0,h1,h2,h3⟩:=hI
 refine au (fun c1=>?_) (fun c1=>?_)
 ·have c1:s.i<(List.length s.aA:Int):=by simpa using c1
  rw [aK (x:=s.i+1) (by omega) (by omega)]
  exact ⟨⟨by simp only;omega,by simp only;omega,h2,by simp only [List.length_append,List.length_cons,List.length_nil];omega⟩,by simp only [Om];omega⟩
 ·trivial
def Ey:bK iQ:=⟨0,112,[1,2,3,5],[],aDe,aCd,fun v b=>⟨vg (v.getD 1 .junk),gI (v.getD 3 .junk),aQ dX (aX (aO b 0) 0),aQ .str (aX (aO b 0) 1),aQ dY (aX (aO b 0) 2),aQ dS (aX (aO b 0) 3),aQ dZ (aX (aO b 0) 4),iT .str (aO b 1)⟩,QE,fun s r=> {r with r:=s.r,ah:=s.ah,aA:=s.aA,ai:=s.ai,ak:=s.ak,aJ:=s.aJ},fun s=>s,fun _ s=>s,[.exit 2],ak4,UC,Om⟩
abbrev kV:=Ey.run
abbrev apt:=Ey.jJ
abbrev aya:=Ey.q
theorem auP (s:iQ) (hI:UC s):(QE s).all (fun _=>True):=by
 refine ⟨fun c1=>⟨?_,?_,?_,trivial⟩,fun c1=>⟨⟨rfl,rfl⟩,trivial⟩⟩
 iterate 2 · (obtain ⟨h0,h1,h2,h3⟩:=hI;simp only [decide_eq_true_eq] at c1;first|omega|(refine ⟨by omega,?_,?_⟩<;>simp only [List.length_cons,List.length_nil]<;>omega))
 ·exact ⟨rfl,by simp⟩
theorem agX:Ey.Ok:=⟨fun s=>by kernel_rfl,fun s=>by kernel_rfl,fun s=>rfl,fun s t r=>rfl,fun s=>rfl,fun s=>by kernel_rfl⟩
theorem afO:Ey.Pf (asK):=⟨azS,fun _ _=>rfl,avC,auP⟩
theorem al4:bg Tryz.prog aP (AN 0) (.loop AV) Ey.lp:=bK.snd agX afO (aT (Γ:=DW) (K:=eu) (L:=aB) Ii aF AV (fun b hb=>by rw [show aC AV=[] by kernel_rfl] at hb;cases hb)) (fun s=>by kernel_rfl)
theorem anc (s:iQ) (hE:ak4 s):(fun (x:Ex) (s':iQ) (v:List ByteArray)=>x=.exit 2∧s'.l=v) (apt s) (kV s) ((fun s:iQ=>s.l++(s.aA.drop s.i.toNat)) s):=by
 exact bK.uy agX afO (fun s:iQ=>s.l++(s.aA.drop s.i.toNat)) (fun x s' v=>x=.exit 2∧s'.l=v) (fun s hI=>by
  show bJ _ _ (aaQ s)
  unfold aaQ QE
  dsimp only [T.rd,T.rl]
  obtain ⟨h0,h1,h2,h3⟩:=hI
  refine au (fun c1=>?_) (fun c1=>?_)
  ·have c1:s.i<(List.length s.aA:Int):=by simpa using c1
   rw [aK (x:=s.i+1) (by omega) (by omega)]
   show _++_=_++_
   try simp only
   rw [(uq h0 c1).1]
   simp
  ·have c1:(List.length s.aA:Int)≤s.i:=by simpa using c1
   refine ⟨rfl,?_⟩
   rw [List.drop_eq_nil_of_le (by omega)]
   simp) s hE
structure jA where
 r:Bool
 i:Int
 ah:List Cd
 aA:List ByteArray
 ai:List Ko
 ak:List Ch
 aJ:List Ba
 l:List ByteArray
def aDd (s:jA):List LV:=[.own 0 0,.v (.bool s.r),.os 1 1 0 (List.length s.l),.v (.int .i64 s.i)]
def aCc (s:jA):List aU:=[⟨[.xl dX s.ah,.xl .str s.aA,.xl dY s.ai,.xl dS s.ak,.xl dZ s.aJ],28,.cl,false⟩,⟨[],9,.vec .str s.l,false⟩]
noncomputable def AU:Code:=((aC (Tryz.f87.body.getD .skip))[2]?).getD .skip
def QD (s:jA):T (Rd jA):=
 .br (decide (s.i<(List.length s.ai:Int))) (.req (0≤s.i∧s.i<(List.length s.ai:Int)) (.req (0+(List.length s.l)=List.length s.l∧((List.length s.l+List.length ([(nD s.ai s.i).1]):Nat):Int)*16≤2^47∧((List.length s.l+List.length ([(nD s.ai s.i).1]):Nat):Int)<2^62) (.req (0=0∧(List.length s.l+List.length ([(nD s.ai s.i).1]))=List.length (s.l++([(nD s.ai s.i).1]))) (.ok (.next {s with i:=(IntKind.i64.wrap (s.i+1)),l:=(s.l++([(nD s.ai s.i).1]))}))))) (.rl s.l (.ok (.stop (.exit 4) s)))
abbrev aaP (s:jA):=(QD s).rd s
def ak3 (s:jA):Prop:=s.i=0∧(List.length s.ai:Int)≤1000∧(s.l.length:Int)≤5000+s.i
def UB (s:jA):Prop:=0≤s.i∧s.i≤(List.length s.ai:Int)∧(List.length s.ai:Int)≤1000∧(s.l.length:Int)≤5000+s.i
def Ol (s:jA):Nat:=((List.length s.ai:Int)-s.i).toNat
def asJ (_:Ex) (_ _:jA):Prop:=True
theorem azR:∀s,ak3 s→UB s:=by
 intro s h
 obtain ⟨h0,h1,h2⟩:=h
 exact ⟨by omega,by omega,h1,h2⟩
theorem avA (s:jA) (hI:UB s):bJ (fun s'=>UB s'∧Ol s'<Ol s) (fun x s'=>asJ x s s') (aaP s):=by
 unfold aaP QD
 dsimp only [T.rd,T.rl]
 obtain ⟨h0,h1,h2,h3⟩:=hI
 refine au (fun c1=>?_) (fun c1=>?_)
 ·have c1:s.i<(List.length s.ai:Int):=by simpa using c1
  rw [aK (x:=s.i+1) (by omega) (by omega)]
  exact ⟨⟨by simp only;omega,by simp only;omega,h2,by simp only [List.length_append,List.length_cons,List.length_nil];omega⟩,by simp only [Ol];omega⟩
 ·trivial
def Ew:bK jA:=⟨0,112,[1,2,3,6],[],aDd,aCc,fun v b=>⟨vg (v.getD 1 .junk),gI (v.getD 3 .junk),aQ dX (aX (aO b 0) 0),aQ .str (aX (aO b 0) 1),aQ dY (aX (aO b 0) 2),aQ dS (aX (aO b 0) 3),aQ dZ (aX (aO b 0) 4),iT .str (aO b 1)⟩,QD,fun s r=> {r with r:=s.r,ah:=s.ah,aA:=s.aA,ai:=s.ai,ak:=s.ak,aJ:=s.aJ},fun s=>s,fun _ s=>s,[.exit 4],ak3,UB,Ol⟩
abbrev nT:=Ew.run
abbrev aps:=Ew.jJ
abbrev ax9:=Ew.q
theorem auO (s:jA) (hI:UB s):(QD s).all (fun _=>True):=by
 refine ⟨fun c1=>⟨?_,?_,?_,trivial⟩,fun c1=>⟨⟨rfl,rfl⟩,trivial⟩⟩
 iterate 2 · (obtain ⟨h0,h1,h2,h3⟩:=hI;simp only [decide_eq_true_eq] at c1;first|omega|(refine ⟨by omega,?_,?_⟩<;>simp only [List.length_cons,List.length_nil]<;>omega))
 ·exact ⟨rfl,by simp⟩
theorem agW:Ew.Ok:=⟨fun s=>by kernel_rfl,fun s=>by kernel_rfl,fun s=>rfl,fun s t r=>rfl,fun s=>rfl,fun s=>by kernel_rfl⟩
theorem afN:Ew.Pf (asJ):=⟨azR,fun _ _=>rfl,avA,auO⟩
theorem al3:bg Tryz.prog aP (AN 0) (.loop AU) Ew.lp:=bK.snd agW afN (aT (Γ:=DW) (K:=eu) (L:=aB) Ii aF AU (fun b hb=>by rw [show aC AU=[] by kernel_rfl] at hb;cases hb)) (fun s=>by kernel_rfl)
theorem anb (s:jA) (hE:ak3 s):(fun (x:Ex) (s':jA) (v:List ByteArray)=>x=.exit 4∧s'.l=v) (aps s) (nT s) ((fun s:jA=>s.l++(s.ai.drop s.i.toNat).map (·.1)) s):=by
 exact bK.uy agW afN (fun s:jA=>s.l++(s.ai.drop s.i.toNat).map (·.1)) (fun x s' v=>x=.exit 4∧s'.l=v) (fun s hI=>by
  show bJ _ _ (aaP s)
  unfold aaP QD
  dsimp only [T.rd,T.rl]
  obtain ⟨h0,h1,h2,h3⟩:=hI
  refine au (fun c1=>?_) (fun c1=>?_)
  ·have c1:s.i<(List.length s.ai:Int):=by simpa using c1
   rw [aK (x:=s.i+1) (by omega) (by omega)]
   show _++_=_++_
   try simp only
   rw [(Iq h0 c1).1]
   simp
  ·have c1:(List.length s.ai:Int)≤s.i:=by simpa using c1
   refine ⟨rfl,?_⟩
   rw [List.drop_eq_nil_of_le (by omega)]
   simp) s hE
structure jR where
 r:Bool
 i:Int
 ah:List Cd
 aA:List ByteArray
 ai:List Ko
 ak:List Ch
 aJ:List Ba
 l:List ByteArray
def aDc (s:jR):List LV:=[.own 0 0,.v (.bool s.r),.os 1 1 0 (List.length s.l),.v (.int .i64 s.i)]
def aCb (s:jR):List aU:=[⟨[.xl dX s.ah,.xl .str s.aA,.xl dY s.ai,.xl dS s.ak,.xl dZ s.aJ],28,.cl,false⟩,⟨[],9,.vec .str s.l,false⟩]
noncomputable def AQ:Code:=((aC (Tryz.f87.body.getD .skip))[3]?).getD .skip
def QC (s:jR):T (Rd jR):=
 .br (decide (s.i<(List.length s.ak:Int))) (.req (0≤s.i∧s.i<(List.length s.ak:Int)) (.req (0+(List.length s.l)=List.length s.l∧((List.length s.l+List.length ([(bC s.ak s.i).1]):Nat):Int)*16≤2^47∧((List.length s.l+List.length ([(bC s.ak s.i).1]):Nat):Int)<2^62) (.req (0=0∧(List.length s.l+List.length ([(bC s.ak s.i).1]))=List.length (s.l++([(bC s.ak s.i).1]))) (.ok (.next {s with i:=(IntKind.i64.wrap (s.i+1)),l:=(s.l++([(bC s.ak s.i).1]))}))))) (.rl s.l (.ok (.stop (.exit 6) s)))
abbrev aaO (s:jR):=(QC s).rd s
def ak2 (s:jR):Prop:=s.i=0∧(List.length s.ak:Int)≤1000∧(s.l.length:Int)≤5000+s.i
def UA (s:jR):Prop:=0≤s.i∧s.i≤(List.length s.ak:Int)∧(List.length s.ak:Int)≤1000∧(s.l.length:Int)≤5000+s.i
def Oj (s:jR):Nat:=((List.length s.ak:Int)-s.i).toNat
def asI (_:Ex) (_ _:jR):Prop:=True
theorem azQ:∀s,ak2 s→UA s:=by
 intro s h
 obtain ⟨h0,h1,h2⟩:=h
 exact ⟨by omega,by omega,h1,h2⟩
theorem avz (s:jR) (hI:UA s):bJ (fun s'=>UA s'∧Oj s'<Oj s) (fun x s'=>asI x s s') (aaO s):=by
 unfold aaO QC
 dsimp only [T.rd,T.rl]
 obtain ⟨h0,h1,h2,h3⟩:=hI
 refine au (fun c1=>?_) (fun c1=>?_)
 ·have c1:s.i<(List.length s.ak:Int):=by simpa using c1
  rw [aK (x:=s.i+1) (by omega) (by omega)]
  exact ⟨⟨by simp only;omega,by simp only;omega,h2,by simp only [List.length_append,List.length_cons,List.length_nil];omega⟩,by simp only [Oj];omega⟩
 ·trivial
def Eu:bK jR:=⟨0,112,[1,2,3,7],[],aDc,aCb,fun v b=>⟨vg (v.getD 1 .junk),gI (v.getD 3 .junk),aQ dX (aX (aO b 0) 0),aQ .str (aX (aO b 0) 1),aQ dY (aX (aO b 0) 2),aQ dS (aX (aO b 0) 3),aQ dZ (aX (aO b 0) 4),iT .str (aO b 1)⟩,QC,fun s r=> {r with r:=s.r,ah:=s.ah,aA:=s.aA,ai:=s.ai,ak:=s.ak,aJ:=s.aJ},fun s=>s,fun _ s=>s,[.exit 6],ak2,UA,Oj⟩
abbrev qP:=Eu.run
abbrev apr:=Eu.jJ
abbrev ax8:=Eu.q
theorem auN (s:jR) (hI:UA s):(QC s).all (fun _=>True):=by
 refine ⟨fun c1=>⟨?_,?_,?_,trivial⟩,fun c1=>⟨⟨rfl,rfl⟩,trivial⟩⟩
 iterate 2 · (obtain ⟨h0,h1,h2,h3⟩:=hI;simp only [decide_eq_true_eq] at c1;first|omega|(refine ⟨by omega,?_,?_⟩<;>simp only [List.length_cons,List.length_nil]<;>omega))
 ·exact ⟨rfl,by simp⟩
theorem agV:Eu.Ok:=⟨fun s=>by kernel_rfl,fun s=>by kernel_rfl,fun s=>rfl,fun s t r=>rfl,fun s=>rfl,fun s=>by kernel_rfl⟩
theorem afM:Eu.Pf (asI):=⟨azQ,fun _ _=>rfl,avz,auN⟩
theorem al2:bg Tryz.prog aP (AN 0) (.loop AQ) Eu.lp:=bK.snd agV afM (aT (Γ:=DW) (K:=eu) (L:=aB) Ii aF AQ (fun b hb=>by rw [show aC AQ=[] by kernel_rfl] at hb;cases hb)) (fun s=>by kernel_rfl)
theorem ana (s:jR) (hE:ak2 s):(fun (x:Ex) (s':jR) (v:List ByteArray)=>x=.exit 6∧s'.l=v) (apr s) (qP s) ((fun s:jR=>s.l++(s.ak.drop s.i.toNat).map (·.1)) s):=by
 exact bK.uy agV afM (fun s:jR=>s.l++(s.ak.drop s.i.toNat).map (·.1)) (fun x s' v=>x=.exit 6∧s'.l=v) (fun s hI=>by
  show bJ _ _ (aaO s)
  unfold aaO QC
  dsimp only [T.rd,T.rl]
  obtain ⟨h0,h1,h2,h3⟩:=hI
  refine au (fun c1=>?_) (fun c1=>?_)
  ·have c1:s.i<(List.length s.ak:Int):=by simpa using c1
   rw [aK (x:=s.i+1) (by omega) (by omega)]
   show _++_=_++_
   try simp only
   rw [(Tc h0 c1).1]
   simp
  ·have c1:(List.length s.ak:Int)≤s.i:=by simpa using c1
   refine ⟨rfl,?_⟩
   rw [List.drop_eq_nil_of_le (by omega)]
   simp) s hE
structure kR where
 r:Bool
 i:Int
 ah:List Cd
 aA:List ByteArray
 ai:List Ko
 ak:List Ch
 aJ:List Ba
 l:List ByteArray
def aDb (s:kR):List LV:=[.own 0 0,.v (.bool s.r),.os 1 1 0 (List.length s.l),.v (.int .i64 s.i)]
def aCa (s:kR):List aU:=[⟨[.xl dX s.ah,.xl .str s.aA,.xl dY s.ai,.xl dS s.ak,.xl dZ s.aJ],28,.cl,false⟩,⟨[],9,.vec .str s.l,false⟩]
noncomputable def AP:Code:=((aC (Tryz.f87.body.getD .skip))[4]?).getD .skip
def QB (s:kR):T (Rd kR):=
 .br (decide (s.i<(List.length s.aJ:Int))) (.req (0≤s.i∧s.i<(List.length s.aJ:Int)) (.req (0+(List.length s.l)=List.length s.l∧((List.length s.l+List.length ([(Ce s.aJ s.i).1]):Nat):Int)*16≤2^47∧((List.length s.l+List.length ([(Ce s.aJ s.i).1]):Nat):Int)<2^62) (.req (0=0∧(List.length s.l+List.length ([(Ce s.aJ s.i).1]))=List.length (s.l++([(Ce s.aJ s.i).1]))) (.ok (.next {s with i:=(IntKind.i64.wrap (s.i+1)),l:=(s.l++([(Ce s.aJ s.i).1]))}))))) (.rl s.l (.ok (.stop (.exit 8) s)))
abbrev aaN (s:kR):=(QB s).rd s
def ak1 (s:kR):Prop:=s.i=0∧(List.length s.aJ:Int)≤1000∧(s.l.length:Int)≤5000+s.i
def Uz (s:kR):Prop:=0≤s.i∧s.i≤(List.length s.aJ:Int)∧(List.length s.aJ:Int)≤1000∧(s.l.length:Int)≤5000+s.i
def Oi (s:kR):Nat:=((List.length s.aJ:Int)-s.i).toNat
def asH (_:Ex) (_ _:kR):Prop:=True
theorem azP:∀s,ak1 s→Uz s:=by
 intro s h
 obtain ⟨h0,h1,h2⟩:=h
 exact ⟨by omega,by omega,h1,h2⟩
theorem avy (s:kR) (hI:Uz s):bJ (fun s'=>Uz s'∧Oi s'<Oi s) (fun x s'=>asH x s s') (aaN s):=by
 unfold aaN QB
 dsimp only [T.rd,T.rl]
 obtain ⟨h0,h1,h2,h3⟩:=hI
 refine au (fun c1=>?_) (fun c1=>?_)
 ·have c1:s.i<(List.length s.aJ:Int):=by simpa using c1
  rw [aK (x:=s.i+1) (by omega) (by omega)]
  exact ⟨⟨by simp only;omega,by simp only;omega,h2,by simp only [List.length_append,List.length_cons,List.length_nil];omega⟩,by simp only [Oi];omega⟩
 ·trivial
def Et:bK kR:=⟨0,112,[1,2,3,8],[],aDb,aCa,fun v b=>⟨vg (v.getD 1 .junk),gI (v.getD 3 .junk),aQ dX (aX (aO b 0) 0),aQ .str (aX (aO b 0) 1),aQ dY (aX (aO b 0) 2),aQ dS (aX (aO b 0) 3),aQ dZ (aX (aO b 0) 4),iT .str (aO b 1)⟩,QB,fun s r=> {r with r:=s.r,ah:=s.ah,aA:=s.aA,ai:=s.ai,ak:=s.ak,aJ:=s.aJ},fun s=>s,fun _ s=>s,[.exit 8],ak1,Uz,Oi⟩
abbrev wU:=Et.run
abbrev apq:=Et.jJ
abbrev ax7:=Et.q
theorem auM (s:kR) (hI:Uz s):(QB s).all (fun _=>True):=by
 refine ⟨fun c1=>⟨?_,?_,?_,trivial⟩,fun c1=>⟨⟨rfl,rfl⟩,trivial⟩⟩
 iterate 2 · (obtain ⟨h0,h1,h2,h3⟩:=hI;simp only [decide_eq_true_eq] at c1;first|omega|(refine ⟨by omega,?_,?_⟩<;>simp only [List.length_cons,List.length_nil]<;>omega))
 ·exact ⟨rfl,by simp⟩
theorem agU:Et.Ok:=⟨fun s=>by kernel_rfl,fun s=>by kernel_rfl,fun s=>rfl,fun s t r=>rfl,fun s=>rfl,fun s=>by kernel_rfl⟩
theorem afL:Et.Pf (asH):=⟨azP,fun _ _=>rfl,avy,auM⟩
theorem al1:bg Tryz.prog aP (AN 0) (.loop AP) Et.lp:=bK.snd agU afL (aT (Γ:=DW) (K:=eu) (L:=aB) Ii aF AP (fun b hb=>by rw [show aC AP=[] by kernel_rfl] at hb;cases hb)) (fun s=>by kernel_rfl)
theorem am9 (s:kR) (hE:ak1 s):(fun (x:Ex) (s':kR) (v:List ByteArray)=>x=.exit 8∧s'.l=v) (apq s) (wU s) ((fun s:kR=>s.l++(s.aJ.drop s.i.toNat).map (·.1)) s):=by
 exact bK.uy agU afL (fun s:kR=>s.l++(s.aJ.drop s.i.toNat).map (·.1)) (fun x s' v=>x=.exit 8∧s'.l=v) (fun s hI=>by
  show bJ _ _ (aaN s)
  unfold aaN QB
  dsimp only [T.rd,T.rl]
  obtain ⟨h0,h1,h2,h3⟩:=hI
  refine au (fun c1=>?_) (fun c1=>?_)
  ·have c1:s.i<(List.length s.aJ:Int):=by simpa using c1
   rw [aK (x:=s.i+1) (by omega) (by omega)]
   show _++_=_++_
   try simp only
   rw [(Tf h0 c1).1]
   simp
  ·have c1:(List.length s.aJ:Int)≤s.i:=by simpa using c1
   refine ⟨rfl,?_⟩
   rw [List.drop_eq_nil_of_le (by omega)]
   simp) s hE
structure nH where
 r:Bool
 i:Int
 l:List ByteArray
def aDa (s:nH):List LV:=[.v (.bool s.r),.os 0 1 0 (List.length s.l),.v (.int .i64 s.i)]
def aB9 (s:nH):List aU:=[⟨[],9,.vec .str s.l,false⟩]
noncomputable def AO:Code:=((aC (Tryz.f87.body.getD .skip))[5]?).getD .skip
def Y0 (s:nH):T (Rd nH):=
 .br (decide (s.i<((List.length s.l:Nat):Int))) (.req (0≤s.i∧s.i<((List.length s.l:Nat):Int)) (.req (s.i.toNat<List.length s.l) (.req (((s.l.getD s.i.toNat (Ty.dflt .str)).size:Int)≤9223372036854775807) (.br (!(nameB (s.l.getD s.i.toNat (Ty.dflt .str)))) (.rl s.l (.ok (.stop (.ret) {s with r:=false}))) (.req (0≤(0:Int)∧(0:Int)≤s.i∧s.i≤((List.length s.l:Nat):Int)) (.req (0≤s.i∧s.i<((List.length s.l:Nat):Int)) (.req (s.i.toNat<List.length s.l) (.req ((0+(0:Int).toNat)+(s.i.toNat-(0:Int).toNat)≤List.length s.l) (.req ((List.length ((s.l.drop (0+(0:Int).toNat)).take (s.i.toNat-(0:Int).toNat)):Int)≤1000) (.br (isIn ((s.l.drop (0+(0:Int).toNat)).take (s.i.toNat-(0:Int).toNat)) (s.l.getD s.i.toNat (Ty.dflt .str))) (.rl s.l (.ok (.stop (.ret) {s with r:=false}))) (.rl s.l (.ok (.next {s with i:=(IntKind.i64.wrap (s.i+1))}))))))))))))) (.rl s.l (.ok (.stop (.exit 10) s)))
abbrev ar9 (s:nH):=(Y0 s).rd s
def Na (s:nH) (j:Int):Bool:=nameB (gS s.l j)&&!(((s.l.take j.toNat).map id).contains (id (gS s.l j)))
theorem azN (s:nH) (_:0≤s.i):Na s s.i=(nameB (s.l.getD s.i.toNat (Ty.dflt .str))&&!(isIn ((s.l.drop (0+(0:Int).toNat)).take (s.i.toNat-(0:Int).toNat)) (s.l.getD s.i.toNat (Ty.dflt .str)))):=by
 unfold Na
 rw [List.map_id,JQ]
 rfl
def ak0 (s:nH):Prop:=s.i=0∧(List.length s.l:Int)≤1000∧nmR s.l
def LW (s:nH):Prop:=(0≤s.i∧s.i≤(List.length s.l:Int))∧(∀j:Nat,(j:Int)<s.i→Na s j=true)∧(List.length s.l:Int)≤1000∧nmR s.l
def Oh (s:nH):Nat:=((List.length s.l:Int)-s.i).toNat
def ac1 (x:Ex) (_ s':nH):Prop:=(x=.exit 10∧∀j:Nat,(j:Int)<(List.length s'.l:Int)→Na s' j=true)∨(x=.ret∧s'.r=false∧∃j:Nat,(j:Int)<(List.length s'.l:Int)∧Na s' j=false)
theorem azO:∀s,ak0 s→LW s:=by
 intro s h
 obtain ⟨h0,h1,h2⟩:=h
 exact ⟨by omega,fun j hj=>by omega,h1,h2⟩
theorem avx (s:nH) (hI:LW s):bJ (fun s'=>LW s'∧Oh s'<Oh s) (fun x s'=>ac1 x s s') (ar9 s):=by
 unfold ar9 Y0
 dsimp only [T.rd,T.rl]
 obtain ⟨⟨h0,h1⟩,h2,h3,h4⟩:=hI
 have hg:=azN s h0
 refine au (fun c1=>?_) (fun c1=>?_)
 rotate_left
 ·have c1:(List.length s.l:Int)≤s.i:=by simpa using c1
  exact .inl ⟨rfl,fun j hj=>h2 j (by omega)⟩
 have c1:s.i<(List.length s.l:Int):=by simpa using c1
 have bad:Na s s.i=false→ac1 .ret s {s with r:=false}:=fun hg=> .inr ⟨rfl,rfl,s.i.toNat,by simp only;omega,by rw [Int.toNat_of_nonneg h0];exact hg⟩
 refine au (fun c2=>bad ?_) (fun c2=>au (fun c3=>bad ?_) (fun c3=>?_))
 ·rw [hg]
  simp only [Bool.not_eq_true'] at c2
  rw [c2]
  rfl
 ·rw [hg,c3]
  simp
 ·rw [c3] at hg
  simp only [Bool.not_eq_false'] at c2
  rw [c2] at hg
  rw [aK (x:=s.i+1) (by omega) (by omega)]
  refine ⟨⟨⟨by simp only;omega,by simp only;omega⟩,fun j hj=>?_,h3,h4⟩,by simp only [Oh];omega⟩
  by_cases hji:(j:Int)<s.i
  ·exact h2 j hji
  ·have:(j:Int)=s.i:=by simp only at hj;omega
   rw [this];exact hg
def Es:bK nH:=⟨0,112,[2,3,9],[],aDa,aB9,fun v b=>⟨vg (v.getD 0 .junk),gI (v.getD 2 .junk),iT .str (aO b 0)⟩,Y0,fun s r=> {r with l:=s.l},fun s=>s,fun _ s=>s,[.ret,.exit 10],ak0,LW,Oh⟩
abbrev Zz:=Es.run
abbrev abm:=Es.jJ
abbrev ax6:=Es.q
theorem auL (s:nH) (hI:LW s):(Y0 s).all (fun _=>True):=by
 refine ⟨fun c1=>⟨?_,?_,?_,fun c2=>⟨⟨rfl,rfl⟩,trivial⟩,fun c2=>⟨?_,?_,?_,?_,?_,fun c3=>⟨⟨rfl,rfl⟩,trivial⟩,fun c3=>⟨⟨rfl,rfl⟩,trivial⟩⟩⟩,fun c1=>⟨⟨rfl,rfl⟩,trivial⟩⟩
 iterate 2 · (obtain ⟨⟨h0,h1⟩,h2,h3,h4⟩:=hI;simp only [decide_eq_true_eq] at c1;first|omega|(simp only [List.length_take,List.length_drop];omega))
 ·(obtain ⟨⟨h0,h1⟩,h2,h3,h4⟩:=hI;simp only [decide_eq_true_eq] at c1;have hm:gS s.l s.i∈s.l:=(by rw [aA8 (by omega)];exact List.getElem_mem _);exact h4 _ hm)
 iterate 5 · (obtain ⟨⟨h0,h1⟩,h2,h3,h4⟩:=hI;simp only [decide_eq_true_eq] at c1;first|omega|(simp only [List.length_take,List.length_drop];omega))
theorem agT:Es.Ok:=⟨fun s=>by kernel_rfl,fun s=>by kernel_rfl,fun s=>rfl,fun s t r=>rfl,fun s=>rfl,fun s=>by kernel_rfl⟩
theorem afK:Es.Pf (ac1):=⟨azO,fun _ _=>rfl,avx,auL⟩
theorem al0:bg Tryz.prog aP (AN 0) (.loop AO) Es.lp:=bK.snd agT afK (aT (Γ:=DW) (K:=eu) (L:=aB) Ii aF AO (fun b hb=>by rw [show aC AO=[] by kernel_rfl] at hb;cases hb)) (fun s=>by kernel_rfl)
theorem am8 (s:nH) (hE:ak0 s):∃s',LW s'∧ac1 (abm s) s' (Zz s):=bK.fin agT afK s hE
def ab4:List LV→T LV
 | [.agg [.xl (.pair .str (.pair (.int .i64) (.pair (.int .i64) (.pair (.int .i64) (.pair (.pair (.int .i64) (.int .i64)) (.pair (.int .i64) (.pair (.int .i64) (.pair (.int .i64) (.pair (.int .i64) (.int .i64)))))))))) cs,.xl (.str) os,.xl (.pair .str (.pair (.int .i64) (.pair (.int .i64) (.int .i64)))) ks,.xl (.pair .str (.pair (.int .i64) (.pair (.int .i64) (.pair (.int .i64) (.pair (.int .i64) (.pair (.int .i64) (.pair (.int .i64) (.int .i64)))))))) gs,.xl (.pair .str (.int .i64)) bs]]=> .req (((List.length cs:Int)≤100∧(List.length os:Int)≤100∧(List.length ks:Int)≤100∧(List.length gs:Int)≤100∧(List.length bs:Int)≤100)∧nmR (gJ cs os ks gs bs)) (.ok (.v (.bool (nmB (gJ cs os ks gs bs)))))
 |_=> .no
noncomputable def XI:List LV→T LV:=gB Tryz.prog Tryz.f87.params.toList ab4
theorem an1 (cs:List Cd) (os:List ByteArray) (ks:List Ko) (gs:List Ch) (bs:List Ba):bT Tryz.prog aP (DW) eu (fun i=>if i=3 then Ez.lp else if i=7 then Ey.lp else if i=11 then Ew.lp else if i=15 then Eu.lp else if i=19 then Et.lp else if i=23 then Es.lp else aB i) Tryz.f87 [.agg [.xl dX cs,.xl .str os,.xl dY ks,.xl dS gs,.xl dZ bs]]=.req (0=0∧0=List.length ([]:List ByteArray)) (.req (ayb (⟨false,(0:Int),cs,os,ks,gs,bs,([]:List ByteArray)⟩:iE)) (.rl (jD (⟨false,(0:Int),cs,os,ks,gs,bs,([]:List ByteArray)⟩:iE)).l (.req (aya (⟨false,(0:Int),cs,os,ks,gs,bs,(jD (⟨false,(0:Int),cs,os,ks,gs,bs,([]:List ByteArray)⟩:iE)).l⟩:iQ)) (.rl (kV (⟨false,(0:Int),cs,os,ks,gs,bs,(jD (⟨false,(0:Int),cs,os,ks,gs,bs,([]:List ByteArray)⟩:iE)).l⟩:iQ)).l (.req (ax9 (⟨false,(0:Int),cs,os,ks,gs,bs,(kV (⟨false,(0:Int),cs,os,ks,gs,bs,(jD (⟨false,(0:Int),cs,os,ks,gs,bs,([]:List ByteArray)⟩:iE)).l⟩:iQ)).l⟩:jA)) (.rl (nT (⟨false,(0:Int),cs,os,ks,gs,bs,(kV (⟨false,(0:Int),cs,os,ks,gs,bs,(jD (⟨false,(0:Int),cs,os,ks,gs,bs,([]:List ByteArray)⟩:iE)).l⟩:iQ)).l⟩:jA)).l (.req (ax8 (⟨false,(0:Int),cs,os,ks,gs,bs,(nT (⟨false,(0:Int),cs,os,ks,gs,bs,(kV (⟨false,(0:Int),cs,os,ks,gs,bs,(jD (⟨false,(0:Int),cs,os,ks,gs,bs,([]:List ByteArray)⟩:iE)).l⟩:iQ)).l⟩:jA)).l⟩:jR)) (.rl (qP (⟨false,(0:Int),cs,os,ks,gs,bs,(nT (⟨false,(0:Int),cs,os,ks,gs,bs,(kV (⟨false,(0:Int),cs,os,ks,gs,bs,(jD (⟨false,(0:Int),cs,os,ks,gs,bs,([]:List ByteArray)⟩:iE)).l⟩:iQ)).l⟩:jA)).l⟩:jR)).l (.req (ax7 (⟨false,(0:Int),cs,os,ks,gs,bs,(qP (⟨false,(0:Int),cs,os,ks,gs,bs,(nT (⟨false,(0:Int),cs,os,ks,gs,bs,(kV (⟨false,(0:Int),cs,os,ks,gs,bs,(jD (⟨false,(0:Int),cs,os,ks,gs,bs,([]:List ByteArray)⟩:iE)).l⟩:iQ)).l⟩:jA)).l⟩:jR)).l⟩:kR)) (.rl (wU (⟨false,(0:Int),cs,os,ks,gs,bs,(qP (⟨false,(0:Int),cs,os,ks,gs,bs,(nT (⟨false,(0:Int),cs,os,ks,gs,bs,(kV (⟨false,(0:Int),cs,os,ks,gs,bs,(jD (⟨false,(0:Int),cs,os,ks,gs,bs,([]:List ByteArray)⟩:iE)).l⟩:iQ)).l⟩:jA)).l⟩:jR)).l⟩:kR)).l (.req (ax6 (⟨false,(0:Int),(wU (⟨false,(0:Int),cs,os,ks,gs,bs,(qP (⟨false,(0:Int),cs,os,ks,gs,bs,(nT (⟨false,(0:Int),cs,os,ks,gs,bs,(kV (⟨false,(0:Int),cs,os,ks,gs,bs,(jD (⟨false,(0:Int),cs,os,ks,gs,bs,([]:List ByteArray)⟩:iE)).l⟩:iQ)).l⟩:jA)).l⟩:jR)).l⟩:kR)).l⟩:nH)) (.br (iy (abm (⟨false,(0:Int),(wU (⟨false,(0:Int),cs,os,ks,gs,bs,(qP (⟨false,(0:Int),cs,os,ks,gs,bs,(nT (⟨false,(0:Int),cs,os,ks,gs,bs,(kV (⟨false,(0:Int),cs,os,ks,gs,bs,(jD (⟨false,(0:Int),cs,os,ks,gs,bs,([]:List ByteArray)⟩:iE)).l⟩:iQ)).l⟩:jA)).l⟩:jR)).l⟩:kR)).l⟩:nH)) (.ret)) (.ok (.v (.bool (Zz (⟨false,(0:Int),(wU (⟨false,(0:Int),cs,os,ks,gs,bs,(qP (⟨false,(0:Int),cs,os,ks,gs,bs,(nT (⟨false,(0:Int),cs,os,ks,gs,bs,(kV (⟨false,(0:Int),cs,os,ks,gs,bs,(jD (⟨false,(0:Int),cs,os,ks,gs,bs,([]:List ByteArray)⟩:iE)).l⟩:iQ)).l⟩:jA)).l⟩:jR)).l⟩:kR)).l⟩:nH)).r))) (.ok (.v (.bool true))))))))))))))):=by kernel_rfl
theorem ate:Valid Tryz.prog aP 87 XI:=aH Tryz.func87 rfl Ii aF (L:=(fun i=>if i=3 then Ez.lp else if i=7 then Ey.lp else if i=11 then Ew.lp else if i=15 then Eu.lp else if i=19 then Et.lp else if i=23 then Es.lp else aB i)) (fun b hb=>by
 rw [show aC _=[AX,AV,AU,AQ,AP,AO] by kernel_rfl] at hb
 simp only [List.mem_cons,List.not_mem_nil,or_false] at hb
 rcases hb with rfl|rfl|rfl|rfl|rfl|rfl
 ·exact al5
 ·exact al4
 ·exact al3
 ·exact al2
 ·exact al1
 ·exact al0) (fun args lv h=>by
 unfold ab4 at h
 split at h
 ·simp only [canL,canX]
  rw [an1]
  rename_i cs os ks gs bs
  obtain ⟨⟨⟨hc,ho,hk,hg,hb⟩,hn⟩,rfl⟩:=h
  refine ⟨⟨rfl,rfl⟩,mP ⟨⟨rfl,by simp only;omega,by simp only;decide⟩,rfl,rfl⟩ (fun hE0=>?_)⟩
  have o0:=(ane _ hE0.1).2
  generalize (jD ⟨false,(0:Int),cs,os,ks,gs,bs,([]:List ByteArray)⟩).l=r0 at o0⊢
  have o0:r0=([]:List ByteArray)++cs.map (·.1):=o0
  have l0:(List.length r0:Int)≤100:=by rw [o0];simp only [List.length_append,List.length_map,List.length_nil];omega
  refine ⟨⟨rfl,rfl⟩,mP ⟨⟨rfl,by simp only;omega,by simp only;omega⟩,rfl,rfl⟩ (fun hE1=>?_)⟩
  have o1:=(anc _ hE1.1).2
  generalize (kV ⟨false,(0:Int),cs,os,ks,gs,bs,r0⟩).l=r1 at o1⊢
  have o1:r1=r0++os:=o1
  have l1:(List.length r1:Int)≤200:=by rw [o1];simp only [List.length_append];omega
  refine ⟨⟨rfl,rfl⟩,mP ⟨⟨rfl,by simp only;omega,by simp only;omega⟩,rfl,rfl⟩ (fun hE2=>?_)⟩
  have o2:=(anb _ hE2.1).2
  generalize (nT ⟨false,(0:Int),cs,os,ks,gs,bs,r1⟩).l=r2 at o2⊢
  have o2:r2=r1++ks.map (·.1):=o2
  have l2:(List.length r2:Int)≤300:=by rw [o2];simp only [List.length_append,List.length_map];omega
  refine ⟨⟨rfl,rfl⟩,mP ⟨⟨rfl,by simp only;omega,by simp only;omega⟩,rfl,rfl⟩ (fun hE3=>?_)⟩
  have o3:=(ana _ hE3.1).2
  generalize (qP ⟨false,(0:Int),cs,os,ks,gs,bs,r2⟩).l=r3 at o3⊢
  have o3:r3=r2++gs.map (·.1):=o3
  have l3:(List.length r3:Int)≤400:=by rw [o3];simp only [List.length_append,List.length_map];omega
  refine ⟨⟨rfl,rfl⟩,mP ⟨⟨rfl,by simp only;omega,by simp only;omega⟩,rfl,rfl⟩ (fun hE4=>?_)⟩
  have o4:=(am9 _ hE4.1).2
  generalize (wU ⟨false,(0:Int),cs,os,ks,gs,bs,r3⟩).l=r4 at o4⊢
  have o4:r4=r3++bs.map (·.1):=o4
  have l4:(List.length r4:Int)≤500:=by rw [o4];simp only [List.length_append,List.length_map];omega
  have e:r4=gJ cs os ks gs bs:=by rw [o4,o3,o2,o1,o0,List.nil_append];rfl
  subst e
  refine ⟨⟨rfl,rfl⟩,mP ⟨⟨rfl,by simp only;omega,hn⟩,rfl,rfl⟩ (fun hE=>?_)⟩
  obtain ⟨s',_,hq⟩:=am8 _ hE.1
  unfold nmB
  generalize gJ cs os ks gs bs=l at*
  rcases hq with ⟨q1,q2⟩ |⟨q1,q2,j,q3,q4⟩
  ·rw [q1]
   have hk:=(kN (d:=emp) (p:=nameB) (k:=id)).1 q2
   rw [List.map_id] at hk
   rw [show (l.all nameB&&once l)=true from hk]
   exact ⟨fun h=>(by cases h),fun _=>rfl⟩
  ·rw [q1,q2]
   refine ⟨fun _=>congrArg (fun z=>LV.v (.bool z)) ?_,fun h=>by cases h⟩
   rw [eq_comm,Bool.eq_false_iff]
   intro hx
   have:=(kN (d:=emp) (p:=nameB) (k:=id)).2 (by rw [List.map_id];exact hx) j q3
   exact Bool.noConfusion (this.symm.trans q4)
 ·cases h)
end Go.Proofs.YtlihnbimgclogaaGreatDoor
namespace Go.Proofs.YtlihnbimgclogaaGreatDoor
open Go.Sx
structure iW where
 r:Bool
 i:Int
 ah:List Cd
 aA:List ByteArray
 ai:List Ko
 ak:List Ch
 aJ:List Ba
def aC6 (s:iW):List LV:=[.own 0 0,.v (.bool s.r),.v (.int .i64 s.i)]
def aB5 (s:iW):List aU:=[⟨[.xl dX s.ah,.xl .str s.aA,.xl dY s.ai,.xl dS s.ak,.xl dZ s.aJ],28,.cl,false⟩]
noncomputable def Az:Code:=((aC (Tryz.f49.body.getD .skip))[0]?).getD .skip
def YW (s:iW):T (Rd iW):=
 .br (decide (s.i<(List.length s.ah:Int))) (.req (0≤s.i∧s.i<(List.length s.ah:Int)) (.req (0≤s.i∧s.i≤1000) (.br (!(D8 s.i (fO s.ah s.i))) (.ok (.stop (.ret) {s with r:=false})) (.ok (.next {s with i:=(IntKind.i64.wrap (s.i+1))}))))) (.ok (.stop (.exit 0) s))
abbrev ar6 (s:iW):=(YW s).rd s
def Jq (s:iW) (j:Int):Bool:=D8 j (fO s.ah j)
def akW (s:iW):Prop:=s.i=0∧0≤(List.length s.ah:Int)∧(List.length s.ah:Int)≤1000∧True
def LM (s:iW):Prop:=0≤s.i∧s.i≤(List.length s.ah:Int)∧(List.length s.ah:Int)≤1000∧(True)∧∀j:Nat,(j:Int)<s.i→Jq s j=true
def Ob (s:iW):Nat:=((List.length s.ah:Int)-s.i).toNat
def aki (x:Ex) (_ s':iW):Prop:=(x=.exit 0∧∀j:Nat,(j:Int)<(List.length s'.ah:Int)→Jq s' j=true)∨(x=.ret∧s'.r=false∧∃j:Nat,(j:Int)<(List.length s'.ah:Int)∧Jq s' j=false)
theorem azx:∀s,akW s→LM s:=by
 intro s h
 obtain ⟨h0,h1,h2,h3⟩:=h
 exact ⟨by omega,by omega,h2,h3,fun j hj=>by omega⟩
theorem aup (s:iW) (hI:LM s):bJ (fun s'=>LM s'∧Ob s'<Ob s) (fun x s'=>aki x s s') (ar6 s):=by
 unfold ar6 YW
 dsimp only [T.rd,T.rl]
 obtain ⟨h0,h1,h2,h3,h4⟩:=hI
 refine au (fun c1=>au (fun c2=>?_) (fun c2=>?_)) (fun c1=>?_)
 ·have c1:s.i<(List.length s.ah:Int):=by simpa using c1
  refine .inr ⟨rfl,rfl,s.i.toNat,by simp only;omega,?_⟩
  rw [Int.toNat_of_nonneg (by omega)]
  have hg:Jq s s.i=false:=by unfold Jq;(first|(have c2:(!(D8 s.i (fO s.ah s.i)))=false:=c2;simpa using c2) |(have c2:(!(D8 s.i (fO s.ah s.i)))=true:=c2;simpa using c2))
  exact hg
 ·have c1:s.i<(List.length s.ah:Int):=by simpa using c1
  have hg:Jq s s.i=true:=by unfold Jq;(first|(have c2:(!(D8 s.i (fO s.ah s.i)))=false:=c2;simpa using c2) |(have c2:(!(D8 s.i (fO s.ah s.i)))=true:=c2;simpa using c2))
  rw [aK (x:=s.i+1) (by omega) (by omega)]
  refine ⟨⟨by simp only;omega,by simp only;omega,h2,h3,fun j hj=>?_⟩,by simp only [Ob];omega⟩
  by_cases hji:(j:Int)<s.i
  ·exact h4 j hji
  ·have:(j:Int)=s.i:=by simp only at hj;omega
   rw [this];exact hg
 ·have c1:(List.length s.ah:Int)≤s.i:=by simpa using c1
  exact .inl ⟨rfl,fun j hj=>h4 j (by omega)⟩
def Em:bK iW:=⟨0,159,[1,2,3],[],aC6,aB5,fun v b=>⟨vg (v.getD 1 .junk),gI (v.getD 2 .junk),aQ dX (aX (aO b 0) 0),aQ .str (aX (aO b 0) 1),aQ dY (aX (aO b 0) 2),aQ dS (aX (aO b 0) 3),aQ dZ (aX (aO b 0) 4)⟩,YW,fun s r=> {r with ah:=s.ah,aA:=s.aA,ai:=s.ai,ak:=s.ak,aJ:=s.aJ},fun s=>s,fun _ s=>s,[.ret,.exit 0],akW,LM,Ob⟩
abbrev l9:=Em.run
abbrev abj:=Em.jJ
abbrev ax2:=Em.q
theorem auH (s:iW) (hI:LM s):(YW s).all (fun _=>True):=by
 refine ⟨fun c1=>⟨?_,?_,fun _=>trivial,fun _=>trivial⟩,fun _=>trivial⟩
 all_goals ((obtain ⟨h0,h1,h2,h3,h4⟩:=hI;simp at c1;omega))
noncomputable def Il:Specs:=aZ [(86,I8),(87,XI),(88,XK),(89,XL)]
theorem KJ:∀g S,Il g=some S→Valid Tryz.prog aP g S:=aS (l:=[(86,I8),(87,XI),(88,XK),(89,XL)]) ⟨aeM,ate,atg,ath,trivial⟩
theorem agO:Em.Ok:=⟨fun s=>by kernel_rfl,fun s=>by kernel_rfl,fun s=>rfl,fun s t r=>rfl,fun s=>rfl,fun s=>by kernel_rfl⟩
theorem afF:Em.Pf (aki):=⟨azx,fun _ _=>rfl,aup,auH⟩
theorem alW:bg Tryz.prog aP (AN 0) (.loop Az) Em.lp:=bK.snd agO afF (aT (Γ:=Il) (K:=eu) (L:=aB) KJ aF Az (fun b hb=>by rw [show aC Az=[] by kernel_rfl] at hb;cases hb)) (fun s=>by kernel_rfl)
theorem amV (s:iW) (hE:akW s):∃s',LM s'∧aki (abj s) s' (l9 s):=bK.fin agO afF s hE
structure oI where
 r:Bool
 i:Int
 k:Int
 ah:List Cd
 aA:List ByteArray
 ai:List Ko
 ak:List Ch
 aJ:List Ba
 qw:ByteArray
 mM:Int
 Xn:Int
 rV:Int
def aC2 (s:oI):List LV:=[.own 0 0,.v (.bool s.r),.v (.int .i64 s.i),.own 1 0,.v (.int .i64 s.k)]
def aB1 (s:oI):List aU:=[⟨[.xl dX s.ah,.xl .str s.aA,.xl dY s.ai,.xl dS s.ak,.xl dZ s.aJ],28,.cl,false⟩,⟨[.v (.string s.qw),.v (.int .i64 s.mM),.v (.int .i64 s.Xn),.v (.int .i64 s.rV)],139,.cl,false⟩]
noncomputable def Ar:Code:=((aC (((aC (Tryz.f49.body.getD .skip))[1]?).getD .skip))[0]?).getD .skip
def YS (s:oI):T (Rd oI):=
 .br (decide (s.k<s.i)) (.req (0≤s.k∧s.k<(List.length s.ai:Int)) (.br ((nD s.ai s.k).2.2.2==s.rV) (.ok (.stop (.ret) {s with r:=false})) (.ok (.next {s with k:=(IntKind.i64.wrap (s.k+1))})))) (.ok (.stop (.exit 4) s))
abbrev ar1 (s:oI):=(YS s).rd s
def Jm (s:oI) (j:Int):Bool:=!((nD s.ai j).2.2.2==s.rV)
def UN (s:oI):Prop:=s.k=0∧0≤s.i∧s.i≤1000∧s.i≤(List.length s.ai:Int)
def LH (s:oI):Prop:=0≤s.k∧s.k≤s.i∧s.i≤1000∧(s.i≤(List.length s.ai:Int))∧∀j:Nat,(j:Int)<s.k→Jm s j=true
def N7 (s:oI):Nat:=(s.i-s.k).toNat
def akf (x:Ex) (_ s':oI):Prop:=(x=.exit 4∧∀j:Nat,(j:Int)<s'.i→Jm s' j=true)∨(x=.ret∧s'.r=false∧∃j:Nat,(j:Int)<s'.i∧Jm s' j=false)
theorem azt:∀s,UN s→LH s:=by
 intro s h
 obtain ⟨h0,h1,h2,h3⟩:=h
 exact ⟨by omega,by omega,h2,h3,fun j hj=>by omega⟩
theorem aul (s:oI) (hI:LH s):bJ (fun s'=>LH s'∧N7 s'<N7 s) (fun x s'=>akf x s s') (ar1 s):=by
 unfold ar1 YS
 dsimp only [T.rd,T.rl]
 obtain ⟨h0,h1,h2,h3,h4⟩:=hI
 refine au (fun c1=>au (fun c2=>?_) (fun c2=>?_)) (fun c1=>?_)
 ·have c1:s.k<s.i:=by simpa using c1
  refine .inr ⟨rfl,rfl,s.k.toNat,by simp only;omega,?_⟩
  rw [Int.toNat_of_nonneg (by omega)]
  have hg:Jm s s.k=false:=by unfold Jm;(simpa using c2)
  exact hg
 ·have c1:s.k<s.i:=by simpa using c1
  have hg:Jm s s.k=true:=by unfold Jm;(simpa using c2)
  rw [aK (x:=s.k+1) (by omega) (by omega)]
  refine ⟨⟨by simp only;omega,by simp only;omega,h2,h3,fun j hj=>?_⟩,by simp only [N7];omega⟩
  by_cases hji:(j:Int)<s.k
  ·exact h4 j hji
  ·have:(j:Int)=s.k:=by simp only at hj;omega
   rw [this];exact hg
 ·have c1:s.i≤s.k:=by simpa using c1
  exact .inl ⟨rfl,fun j hj=>h4 j (by omega)⟩
def JC:bK oI:=⟨0,159,[1,2,4,5,6],[],aC2,aB1,fun v b=>⟨vg (v.getD 1 .junk),gI (v.getD 2 .junk),gI (v.getD 4 .junk),aQ dX (aX (aO b 0) 0),aQ .str (aX (aO b 0) 1),aQ dY (aX (aO b 0) 2),aQ dS (aX (aO b 0) 3),aQ dZ (aX (aO b 0) 4),gSr (aX (aO b 1) 0),gI (aX (aO b 1) 1),gI (aX (aO b 1) 2),gI (aX (aO b 1) 3)⟩,YS,fun s r=> {r with i:=s.i,ah:=s.ah,aA:=s.aA,ai:=s.ai,ak:=s.ak,aJ:=s.aJ,qw:=s.qw,mM:=s.mM,Xn:=s.Xn,rV:=s.rV},fun s=>s,fun _ s=>s,[.ret,.exit 4],UN,LH,N7⟩
abbrev zy:=JC.run
abbrev xI:=JC.jJ
abbrev axY:=JC.q
theorem auD (s:oI) (hI:LH s):(YS s).all (fun _=>True):=by
 refine ⟨fun c1=>⟨?_,fun _=>trivial,fun _=>trivial⟩,fun _=>trivial⟩
 ·(obtain ⟨h0,h1,h2,h3,h4⟩:=hI;simp at c1;omega)
theorem agK:JC.Ok:=⟨fun s=>by kernel_rfl,fun s=>by kernel_rfl,fun s=>rfl,fun s t r=>rfl,fun s=>rfl,fun s=>by kernel_rfl⟩
theorem afB:JC.Pf (akf):=⟨azt,fun _ _=>rfl,aul,auD⟩
theorem alS:bg Tryz.prog aP (AN 0) (.loop Ar) JC.lp:=bK.snd agK afB (aT (Γ:=Il) (K:=eu) (L:=aB) KJ aF Ar (fun b hb=>by rw [show aC Ar=[] by kernel_rfl] at hb;cases hb)) (fun s=>by kernel_rfl)
theorem amR (s:oI) (hE:UN s):∃s',LH s'∧akf (xI s) s' (zy s):=bK.fin agK afB s hE
theorem amQ (s:oI) (hE:UN s):(xI s=.exit 4∧((s.ai.take s.i.toNat).map (·.2.2.2)).contains s.rV=false)∨(xI s=.ret∧(zy s).r=false∧((s.ai.take s.i.toNat).map (·.2.2.2)).contains s.rV=true):=by
 obtain ⟨s',_,hq⟩:=amR s hE
 obtain ⟨h0,h1,h2,h3⟩:=hE
 have hc:=adC (c:=s.rV) h1 h3
 rcases hq with ⟨q1,q2⟩ |⟨q1,q2,j,q3,q4⟩
 ·refine .inl ⟨q1,?_⟩
  rw [Bool.eq_false_iff,ne_eq,hc]
  rintro ⟨j,hj,e⟩
  have:(!((nD s.ai j).2.2.2==s.rV))=true:=q2 j hj
  rw [e] at this
  simp at this
 ·refine .inr ⟨q1,q2,hc.2 ⟨j,q3,?_⟩⟩
  have q4:(!((nD s.ai j).2.2.2==s.rV))=false:=q4
  simpa using q4
structure iV where
 r:Bool
 i:Int
 ah:List Cd
 aA:List ByteArray
 ai:List Ko
 ak:List Ch
 aJ:List Ba
def aC5 (s:iV):List LV:=[.own 0 0,.v (.bool s.r),.v (.int .i64 s.i)]
def aB4 (s:iV):List aU:=[⟨[.xl dX s.ah,.xl .str s.aA,.xl dY s.ai,.xl dS s.ak,.xl dZ s.aJ],28,.cl,false⟩]
noncomputable def IJ:Code:=((aC (Tryz.f49.body.getD .skip))[1]?).getD .skip
def qM (s:iV):oI:=(⟨s.r,s.i,(0:Int),s.ah,s.aA,s.ai,s.ak,s.aJ,(nD s.ai s.i).1,(nD s.ai s.i).2.1,(nD s.ai s.i).2.2.1,(nD s.ai s.i).2.2.2⟩:oI)
def YV (s:iV):T (Rd iV):=
 .br (decide (s.i<(List.length s.ai:Int))) (.req (0≤s.i∧s.i<(List.length s.ai:Int)) (.br ((!(inB (nD s.ai s.i).2.1 (0:Int) (IntKind.i64.wrap ((List.length s.aA:Int)-1)))) ||((!(inB (nD s.ai s.i).2.2.1 (1:Int) (9:Int))) ||(!(inB (nD s.ai s.i).2.2.2 (1:Int) (1000000:Int))))) (.ok (.stop (.ret) {s with r:=false})) (.req (axY (qM s)) (.br (iy (xI (qM s)) (.ret)) (.ok (.stop (.ret) {s with r:=(zy (qM s)).r})) (.ok (.next {s with r:=(zy (qM s)).r,i:=(IntKind.i64.wrap (s.i+1))})))))) (.ok (.stop (.exit 2) s))
abbrev ar5 (s:iV):=(YV s).rd s
def MZ (s:iV) (j:Int):Bool:=koV (List.length s.aA:Int) (nD s.ai j)&&!(((s.ai.take j.toNat).map (·.2.2.2)).contains (nD s.ai j).2.2.2)
def akV (s:iV):Prop:=s.i=0∧(List.length s.ai:Int)≤1000∧(List.length s.aA:Int)≤1000
def Jg (s:iV):Prop:=(0≤s.i∧s.i≤(List.length s.ai:Int))∧(∀j:Nat,(j:Int)<s.i→MZ s j=true)∧(List.length s.ai:Int)≤1000∧(List.length s.aA:Int)≤1000
def Oa (s:iV):Nat:=((List.length s.ai:Int)-s.i).toNat
def ac0 (x:Ex) (_ s':iV):Prop:=(x=.exit 2∧∀j:Nat,(j:Int)<(List.length s'.ai:Int)→MZ s' j=true)∨(x=.ret∧s'.r=false∧∃j:Nat,(j:Int)<(List.length s'.ai:Int)∧MZ s' j=false)
theorem azw:∀s,akV s→Jg s:=by
 intro s h
 obtain ⟨h0,h1,h2⟩:=h
 exact ⟨by omega,fun j hj=>by omega,h1,h2⟩
theorem afd (s:iV) (hI:Jg s) (c1:s.i<(List.length s.ai:Int)):UN (qM s):=by
 obtain ⟨⟨h0,h1⟩,h2,h3,h4⟩:=hI
 exact ⟨rfl,h0,by show s.i≤1000;omega,h1⟩
theorem auo (s:iV) (hI:Jg s):bJ (fun s'=>Jg s'∧Oa s'<Oa s) (fun x s'=>ac0 x s s') (ar5 s):=by
 unfold ar5 YV
 dsimp only [T.rd,T.rl]
 have hin:=fun c1=>afd s hI c1
 obtain ⟨⟨h0,h1⟩,h2,h3,h4⟩:=hI
 refine au (fun c1=>?_) (fun c1=>?_)
 rotate_left
 ·have c1:(List.length s.ai:Int)≤s.i:=by simpa using c1
  exact .inl ⟨rfl,fun j hj=>h2 j (by omega)⟩
 have c1:s.i<(List.length s.ai:Int):=by simpa using c1
 have bad:∀s2:iV,s2.r=false→s2.ai=s.ai→s2.aA=s.aA→MZ s s.i=false→ac0 .ret s s2:=fun s2 e1 e2 e3 hg=> .inr ⟨rfl,e1,s.i.toNat,by rw [e2];omega,by
  unfold MZ at hg⊢
  rw [Int.toNat_of_nonneg h0,e2,e3]
  exact hg⟩
 rw [aK (x:=(List.length s.aA:Int)-1) (by omega) (by omega)]
 have hk:=amQ _ (hin c1)
 have hk:(xI (qM s)=.exit 4∧((s.ai.take s.i.toNat).map (·.2.2.2)).contains (nD s.ai s.i).2.2.2=false)∨(xI (qM s)=.ret∧(zy (qM s)).r=false∧((s.ai.take s.i.toNat).map (·.2.2.2)).contains (nD s.ai s.i).2.2.2=true):=hk
 have hg:MZ s s.i=(koV (List.length s.aA:Int) (nD s.ai s.i)&&!(((s.ai.take s.i.toNat).map (·.2.2.2)).contains (nD s.ai s.i).2.2.2)):=rfl
 have hkv:koV (List.length s.aA:Int) (nD s.ai s.i)=(inB (nD s.ai s.i).2.1 0 ((List.length s.aA:Int)-1)&&(inB (nD s.ai s.i).2.2.1 1 9&&inB (nD s.ai s.i).2.2.2 1 1000000)):=rfl
 refine au (fun c2=>bad _ rfl rfl rfl ?_) (fun c2=>?_)
 ·rw [hg,hkv]
  revert c2
  generalize inB (nD s.ai s.i).2.1 _ _=a
  generalize inB (nD s.ai s.i).2.2.1 _ _=b
  generalize inB (nD s.ai s.i).2.2.2 _ _=c
  cases a<;>cases b<;>cases c<;>simp
 have hkt:koV (List.length s.aA:Int) (nD s.ai s.i)=true:=by
  rw [hkv]
  revert c2
  generalize inB (nD s.ai s.i).2.1 _ _=a
  generalize inB (nD s.ai s.i).2.2.1 _ _=b
  generalize inB (nD s.ai s.i).2.2.2 _ _=c
  cases a<;>cases b<;>cases c<;>simp
 rw [hkt,Bool.true_and] at hg
 rcases hk with ⟨q1,q2⟩ |⟨q1,q2,q3⟩
 ·rw [q1]
  refine au (fun c3=>by cases c3) (fun _=>?_)
  rw [aK (x:=s.i+1) (by omega) (by omega)]
  rw [q2] at hg
  refine ⟨⟨⟨by simp only;omega,by simp only;omega⟩,fun j hj=>?_,h3,h4⟩,by simp only [Oa];omega⟩
  by_cases hji:(j:Int)<s.i
  ·exact h2 j hji
  ·have:(j:Int)=s.i:=by simp only at hj;omega
   rw [this];exact hg
 ·rw [q1]
  refine au (fun _=>bad _ q2 rfl rfl ?_) (fun c3=>by cases c3)
  rw [hg,q3]
  rfl
def Ej:bK iV:=⟨0,159,[1,2,4],[],aC5,aB4,fun v b=>⟨vg (v.getD 1 .junk),gI (v.getD 2 .junk),aQ dX (aX (aO b 0) 0),aQ .str (aX (aO b 0) 1),aQ dY (aX (aO b 0) 2),aQ dS (aX (aO b 0) 3),aQ dZ (aX (aO b 0) 4)⟩,YV,fun s r=> {r with ah:=s.ah,aA:=s.aA,ai:=s.ai,ak:=s.ak,aJ:=s.aJ},fun s=>s,fun _ s=>s,[.ret,.exit 2],akV,Jg,Oa⟩
abbrev qO:=Ej.run
abbrev abh:=Ej.jJ
abbrev ax1:=Ej.q
theorem auG (s:iV) (hI:Jg s):(YV s).all (fun _=>True):=by
 refine ⟨fun c1=>⟨?_,fun _=>trivial,fun c2=>⟨?_,fun _=>trivial,fun _=>trivial⟩⟩,fun _=>trivial⟩
 ·(obtain ⟨⟨h0,h1⟩,h2,h3,h4⟩:=hI;simp only [decide_eq_true_eq] at c1;omega)
 ·exact ⟨afd s hI (by simpa using c1),rfl,rfl⟩
theorem agN:Ej.Ok:=⟨fun s=>by kernel_rfl,fun s=>by kernel_rfl,fun s=>rfl,fun s t r=>rfl,fun s=>rfl,fun s=>by kernel_rfl⟩
theorem afE:Ej.Pf (ac0):=⟨azw,fun _ _=>rfl,auo,auG⟩
theorem alV:bg Tryz.prog aP (AN 0) (.loop IJ) Ej.lp:=bK.snd agN afE (aT (Γ:=Il) (K:=eu) (L:=(fun i=>if i=15 then JC.lp else aB i)) KJ aF IJ (fun b hb=>by
 rw [show aC _=[Ar] by kernel_rfl] at hb
 simp only [List.mem_cons,List.not_mem_nil,or_false] at hb
 subst hb
 exact alS)) (fun s=>by kernel_rfl)
theorem amU (s:iV) (hE:akV s):∃s',Jg s'∧ac0 (abh s) s' (qO s):=bK.fin agN afE s hE
structure lM where
 r:Bool
 i:Int
 ah:List Cd
 aA:List ByteArray
 ai:List Ko
 ak:List Ch
 aJ:List Ba
def aC4 (s:lM):List LV:=[.own 0 0,.v (.bool s.r),.v (.int .i64 s.i)]
def aB3 (s:lM):List aU:=[⟨[.xl dX s.ah,.xl .str s.aA,.xl dY s.ai,.xl dS s.ak,.xl dZ s.aJ],28,.cl,false⟩]
noncomputable def Aw:Code:=((aC (Tryz.f49.body.getD .skip))[2]?).getD .skip
def YU (s:lM):T (Rd lM):=
 .br (decide (s.i<(List.length s.ak:Int))) (.req (0≤s.i∧s.i<(List.length s.ak:Int)) (.br ((!(chW (bC s.ak s.i))) ||((!(inB (bC s.ak s.i).2.1 (0:Int) (IntKind.i64.wrap ((List.length s.ah:Int)-1)))) ||(!(inB (bC s.ak s.i).2.2.2.2.2.2.2 (0:Int) (IntKind.i64.wrap ((List.length s.aA:Int)-1)))))) (.ok (.stop (.ret) {s with r:=false})) (.ok (.next {s with i:=(IntKind.i64.wrap (s.i+1))})))) (.ok (.stop (.exit 6) s))
abbrev ar4 (s:lM):=(YU s).rd s
def Jp (s:lM) (j:Int):Bool:=FW s.ah.length s.aA.length (bC s.ak j)
def akU (s:lM):Prop:=s.i=0∧0≤(List.length s.ak:Int)∧(List.length s.ak:Int)≤1000∧(s.ah.length:Int)≤1000∧(s.aA.length:Int)≤1000
def LK (s:lM):Prop:=0≤s.i∧s.i≤(List.length s.ak:Int)∧(List.length s.ak:Int)≤1000∧((s.ah.length:Int)≤1000∧(s.aA.length:Int)≤1000)∧∀j:Nat,(j:Int)<s.i→Jp s j=true
def N9 (s:lM):Nat:=((List.length s.ak:Int)-s.i).toNat
def akh (x:Ex) (_ s':lM):Prop:=(x=.exit 6∧∀j:Nat,(j:Int)<(List.length s'.ak:Int)→Jp s' j=true)∨(x=.ret∧s'.r=false∧∃j:Nat,(j:Int)<(List.length s'.ak:Int)∧Jp s' j=false)
theorem azv:∀s,akU s→LK s:=by
 intro s h
 obtain ⟨h0,h1,h2,h3⟩:=h
 exact ⟨by omega,by omega,h2,h3,fun j hj=>by omega⟩
theorem aun (s:lM) (hI:LK s):bJ (fun s'=>LK s'∧N9 s'<N9 s) (fun x s'=>akh x s s') (ar4 s):=by
 unfold ar4 YU
 dsimp only [T.rd,T.rl]
 obtain ⟨h0,h1,h2,h3,h4⟩:=hI
 refine au (fun c1=>au (fun c2=>?_) (fun c2=>?_)) (fun c1=>?_)
 ·have c1:s.i<(List.length s.ak:Int):=by simpa using c1
  refine .inr ⟨rfl,rfl,s.i.toNat,by simp only;omega,?_⟩
  rw [Int.toNat_of_nonneg (by omega)]
  have hg:Jp s s.i=false:=by unfold Jp;(obtain ⟨e1,e2⟩:=h3;rw [aK (x:=(List.length s.ah:Int)-1) (by omega) (by omega),aK (x:=(List.length s.aA:Int)-1) (by omega) (by omega)] at c2;unfold FW;revert c2;generalize chW (bC s.ak s.i)=a;generalize inB (bC s.ak s.i).2.1 _ _=b;generalize inB (bC s.ak s.i).2.2.2.2.2.2.2 _ _=c;cases a<;>cases b<;>cases c<;>simp)
  exact hg
 ·have c1:s.i<(List.length s.ak:Int):=by simpa using c1
  have hg:Jp s s.i=true:=by unfold Jp;(obtain ⟨e1,e2⟩:=h3;rw [aK (x:=(List.length s.ah:Int)-1) (by omega) (by omega),aK (x:=(List.length s.aA:Int)-1) (by omega) (by omega)] at c2;unfold FW;revert c2;generalize chW (bC s.ak s.i)=a;generalize inB (bC s.ak s.i).2.1 _ _=b;generalize inB (bC s.ak s.i).2.2.2.2.2.2.2 _ _=c;cases a<;>cases b<;>cases c<;>simp)
  rw [aK (x:=s.i+1) (by omega) (by omega)]
  refine ⟨⟨by simp only;omega,by simp only;omega,h2,h3,fun j hj=>?_⟩,by simp only [N9];omega⟩
  by_cases hji:(j:Int)<s.i
  ·exact h4 j hji
  ·have:(j:Int)=s.i:=by simp only at hj;omega
   rw [this];exact hg
 ·have c1:(List.length s.ak:Int)≤s.i:=by simpa using c1
  exact .inl ⟨rfl,fun j hj=>h4 j (by omega)⟩
def Ei:bK lM:=⟨0,159,[1,2,7],[],aC4,aB3,fun v b=>⟨vg (v.getD 1 .junk),gI (v.getD 2 .junk),aQ dX (aX (aO b 0) 0),aQ .str (aX (aO b 0) 1),aQ dY (aX (aO b 0) 2),aQ dS (aX (aO b 0) 3),aQ dZ (aX (aO b 0) 4)⟩,YU,fun s r=> {r with ah:=s.ah,aA:=s.aA,ai:=s.ai,ak:=s.ak,aJ:=s.aJ},fun s=>s,fun _ s=>s,[.ret,.exit 6],akU,LK,N9⟩
abbrev zA:=Ei.run
abbrev abg:=Ei.jJ
abbrev ax0:=Ei.q
theorem auF (s:lM) (hI:LK s):(YU s).all (fun _=>True):=by
 refine ⟨fun c1=>⟨?_,fun _=>trivial,fun _=>trivial⟩,fun _=>trivial⟩
 ·(obtain ⟨h0,h1,h2,h3,h4⟩:=hI;simp at c1;omega)
theorem agM:Ei.Ok:=⟨fun s=>by kernel_rfl,fun s=>by kernel_rfl,fun s=>rfl,fun s t r=>rfl,fun s=>rfl,fun s=>by kernel_rfl⟩
theorem afD:Ei.Pf (akh):=⟨azv,fun _ _=>rfl,aun,auF⟩
theorem alU:bg Tryz.prog aP (AN 0) (.loop Aw) Ei.lp:=bK.snd agM afD (aT (Γ:=Il) (K:=eu) (L:=aB) KJ aF Aw (fun b hb=>by rw [show aC Aw=[] by kernel_rfl] at hb;cases hb)) (fun s=>by kernel_rfl)
theorem amT (s:lM) (hE:akU s):∃s',LK s'∧akh (abg s) s' (zA s):=bK.fin agM afD s hE
structure oJ where
 r:Bool
 i:Int
 ah:List Cd
 aA:List ByteArray
 ai:List Ko
 ak:List Ch
 aJ:List Ba
def aC3 (s:oJ):List LV:=[.own 0 0,.v (.bool s.r),.v (.int .i64 s.i)]
def aB2 (s:oJ):List aU:=[⟨[.xl dX s.ah,.xl .str s.aA,.xl dY s.ai,.xl dS s.ak,.xl dZ s.aJ],28,.cl,false⟩]
noncomputable def Au:Code:=((aC (Tryz.f49.body.getD .skip))[3]?).getD .skip
def YT (s:oJ):T (Rd oJ):=
 .br (decide (s.i<(List.length s.aJ:Int))) (.req (0≤s.i∧s.i<(List.length s.aJ:Int)) (.br (!(inB (Ce s.aJ s.i).2 (0:Int) (IntKind.i64.wrap ((List.length s.ak:Int)-1)))) (.ok (.stop (.ret) {s with r:=false})) (.ok (.next {s with i:=(IntKind.i64.wrap (s.i+1))})))) (.ok (.stop (.exit 8) s))
abbrev ar2 (s:oJ):=(YT s).rd s
def Jo (s:oJ) (j:Int):Bool:=inB (Ce s.aJ j).2 0 (IntKind.i64.wrap ((List.length s.ak:Int)-1))
def akT (s:oJ):Prop:=s.i=0∧0≤(List.length s.aJ:Int)∧(List.length s.aJ:Int)≤1000∧True
def LJ (s:oJ):Prop:=0≤s.i∧s.i≤(List.length s.aJ:Int)∧(List.length s.aJ:Int)≤1000∧(True)∧∀j:Nat,(j:Int)<s.i→Jo s j=true
def N8 (s:oJ):Nat:=((List.length s.aJ:Int)-s.i).toNat
def akg (x:Ex) (_ s':oJ):Prop:=(x=.exit 8∧∀j:Nat,(j:Int)<(List.length s'.aJ:Int)→Jo s' j=true)∨(x=.ret∧s'.r=false∧∃j:Nat,(j:Int)<(List.length s'.aJ:Int)∧Jo s' j=false)
theorem azu:∀s,akT s→LJ s:=by
 intro s h
 obtain ⟨h0,h1,h2,h3⟩:=h
 exact ⟨by omega,by omega,h2,h3,fun j hj=>by omega⟩
theorem aum (s:oJ) (hI:LJ s):bJ (fun s'=>LJ s'∧N8 s'<N8 s) (fun x s'=>akg x s s') (ar2 s):=by
 unfold ar2 YT
 dsimp only [T.rd,T.rl]
 obtain ⟨h0,h1,h2,h3,h4⟩:=hI
 refine au (fun c1=>au (fun c2=>?_) (fun c2=>?_)) (fun c1=>?_)
 ·have c1:s.i<(List.length s.aJ:Int):=by simpa using c1
  refine .inr ⟨rfl,rfl,s.i.toNat,by simp only;omega,?_⟩
  rw [Int.toNat_of_nonneg (by omega)]
  have hg:Jo s s.i=false:=by unfold Jo;(first|(have c2:(!(inB (Ce s.aJ s.i).2 0 (IntKind.i64.wrap ((List.length s.ak:Int)-1))))=false:=c2;simpa using c2) |(have c2:(!(inB (Ce s.aJ s.i).2 0 (IntKind.i64.wrap ((List.length s.ak:Int)-1))))=true:=c2;simpa using c2))
  exact hg
 ·have c1:s.i<(List.length s.aJ:Int):=by simpa using c1
  have hg:Jo s s.i=true:=by unfold Jo;(first|(have c2:(!(inB (Ce s.aJ s.i).2 0 (IntKind.i64.wrap ((List.length s.ak:Int)-1))))=false:=c2;simpa using c2) |(have c2:(!(inB (Ce s.aJ s.i).2 0 (IntKind.i64.wrap ((List.length s.ak:Int)-1))))=true:=c2;simpa using c2))
  rw [aK (x:=s.i+1) (by omega) (by omega)]
  refine ⟨⟨by simp only;omega,by simp only;omega,h2,h3,fun j hj=>?_⟩,by simp only [N8];omega⟩
  by_cases hji:(j:Int)<s.i
  ·exact h4 j hji
  ·have:(j:Int)=s.i:=by simp only at hj;omega
   rw [this];exact hg
 ·have c1:(List.length s.aJ:Int)≤s.i:=by simpa using c1
  exact .inl ⟨rfl,fun j hj=>h4 j (by omega)⟩
def Eh:bK oJ:=⟨0,159,[1,2,9],[],aC3,aB2,fun v b=>⟨vg (v.getD 1 .junk),gI (v.getD 2 .junk),aQ dX (aX (aO b 0) 0),aQ .str (aX (aO b 0) 1),aQ dY (aX (aO b 0) 2),aQ dS (aX (aO b 0) 3),aQ dZ (aX (aO b 0) 4)⟩,YT,fun s r=> {r with ah:=s.ah,aA:=s.aA,ai:=s.ai,ak:=s.ak,aJ:=s.aJ},fun s=>s,fun _ s=>s,[.ret,.exit 8],akT,LJ,N8⟩
abbrev Zw:=Eh.run
abbrev abf:=Eh.jJ
abbrev axZ:=Eh.q
theorem auE (s:oJ) (hI:LJ s):(YT s).all (fun _=>True):=by
 refine ⟨fun c1=>⟨?_,fun _=>trivial,fun _=>trivial⟩,fun _=>trivial⟩
 ·(obtain ⟨h0,h1,h2,h3,h4⟩:=hI;simp at c1;omega)
theorem agL:Eh.Ok:=⟨fun s=>by kernel_rfl,fun s=>by kernel_rfl,fun s=>rfl,fun s t r=>rfl,fun s=>rfl,fun s=>by kernel_rfl⟩
theorem afC:Eh.Pf (akg):=⟨azu,fun _ _=>rfl,aum,auE⟩
theorem alT:bg Tryz.prog aP (AN 0) (.loop Au) Eh.lp:=bK.snd agL afC (aT (Γ:=Il) (K:=eu) (L:=aB) KJ aF Au (fun b hb=>by rw [show aC Au=[] by kernel_rfl] at hb;cases hb)) (fun s=>by kernel_rfl)
theorem amS (s:oJ) (hE:akT s):∃s',LJ s'∧akg (abf s) s' (Zw s):=bK.fin agL afC s hE
def abZ:List LV→T LV
 | [.agg [.xl (.pair .str (.pair (.int .i64) (.pair (.int .i64) (.pair (.int .i64) (.pair (.pair (.int .i64) (.int .i64)) (.pair (.int .i64) (.pair (.int .i64) (.pair (.int .i64) (.pair (.int .i64) (.int .i64)))))))))) cs,.xl (.str) os,.xl (.pair .str (.pair (.int .i64) (.pair (.int .i64) (.int .i64)))) ks,.xl (.pair .str (.pair (.int .i64) (.pair (.int .i64) (.pair (.int .i64) (.pair (.int .i64) (.pair (.int .i64) (.pair (.int .i64) (.int .i64)))))))) gs,.xl (.pair .str (.int .i64)) bs]]=> .req (nmR (gJ cs os ks gs bs)) (.ok (.v (.bool (fM cs os ks gs bs))))
 |_=> .no
noncomputable def XG:List LV→T LV:=gB Tryz.prog Tryz.f49.params.toList abZ
theorem anX (cs:List Cd) (os:List ByteArray) (ks:List Ko) (gs:List Ch) (bs:List Ba):bT Tryz.prog aP (Il) eu (fun i=>if i=4 then Em.lp else if i=9 then Ej.lp else if i=20 then Ei.lp else if i=26 then Eh.lp else aB i) Tryz.f49 [.agg [.xl dX cs,.xl .str os,.xl dY ks,.xl dS gs,.xl dZ bs]]=.br (!(inB (List.length cs:Int) (1:Int) (16:Int))) (.ok (.v (.bool false))) (.br (decide ((List.length os:Int)>8)) (.ok (.v (.bool false))) (.br (decide ((List.length ks:Int)>32)) (.ok (.v (.bool false))) (.br (decide ((List.length gs:Int)>16)) (.ok (.v (.bool false))) (.br (decide ((List.length bs:Int)>24)) (.ok (.v (.bool false))) (.req (((List.length cs:Int)≤100∧(List.length os:Int)≤100∧(List.length ks:Int)≤100∧(List.length gs:Int)≤100∧(List.length bs:Int)≤100)∧nmR (gJ cs os ks gs bs)) (.br (!(nmB (gJ cs os ks gs bs))) (.ok (.v (.bool false))) (.req (ax2 (⟨false,(0:Int),cs,os,ks,gs,bs⟩:iW)) (.br (iy (abj (⟨false,(0:Int),cs,os,ks,gs,bs⟩:iW)) (.ret)) (.ok (.v (.bool (l9 (⟨false,(0:Int),cs,os,ks,gs,bs⟩:iW)).r))) (.req (ax1 (⟨(l9 (⟨false,(0:Int),cs,os,ks,gs,bs⟩:iW)).r,(0:Int),cs,os,ks,gs,bs⟩:iV)) (.br (iy (abh (⟨(l9 (⟨false,(0:Int),cs,os,ks,gs,bs⟩:iW)).r,(0:Int),cs,os,ks,gs,bs⟩:iV)) (.ret)) (.ok (.v (.bool (qO (⟨(l9 (⟨false,(0:Int),cs,os,ks,gs,bs⟩:iW)).r,(0:Int),cs,os,ks,gs,bs⟩:iV)).r))) (.req (ax0 (⟨(qO (⟨(l9 (⟨false,(0:Int),cs,os,ks,gs,bs⟩:iW)).r,(0:Int),cs,os,ks,gs,bs⟩:iV)).r,(0:Int),cs,os,ks,gs,bs⟩:lM)) (.br (iy (abg (⟨(qO (⟨(l9 (⟨false,(0:Int),cs,os,ks,gs,bs⟩:iW)).r,(0:Int),cs,os,ks,gs,bs⟩:iV)).r,(0:Int),cs,os,ks,gs,bs⟩:lM)) (.ret)) (.ok (.v (.bool (zA (⟨(qO (⟨(l9 (⟨false,(0:Int),cs,os,ks,gs,bs⟩:iW)).r,(0:Int),cs,os,ks,gs,bs⟩:iV)).r,(0:Int),cs,os,ks,gs,bs⟩:lM)).r))) (.req (axZ (⟨(zA (⟨(qO (⟨(l9 (⟨false,(0:Int),cs,os,ks,gs,bs⟩:iW)).r,(0:Int),cs,os,ks,gs,bs⟩:iV)).r,(0:Int),cs,os,ks,gs,bs⟩:lM)).r,(0:Int),cs,os,ks,gs,bs⟩:oJ)) (.br (iy (abf (⟨(zA (⟨(qO (⟨(l9 (⟨false,(0:Int),cs,os,ks,gs,bs⟩:iW)).r,(0:Int),cs,os,ks,gs,bs⟩:iV)).r,(0:Int),cs,os,ks,gs,bs⟩:lM)).r,(0:Int),cs,os,ks,gs,bs⟩:oJ)) (.ret)) (.ok (.v (.bool (Zw (⟨(zA (⟨(qO (⟨(l9 (⟨false,(0:Int),cs,os,ks,gs,bs⟩:iW)).r,(0:Int),cs,os,ks,gs,bs⟩:iV)).r,(0:Int),cs,os,ks,gs,bs⟩:lM)).r,(0:Int),cs,os,ks,gs,bs⟩:oJ)).r))) (.ok (.v (.bool true))))))))))))))))):=by kernel_rfl
theorem atc:Valid Tryz.prog aP 49 XG:=aH Tryz.func49 rfl KJ aF (L:=(fun i=>if i=4 then Em.lp else if i=9 then Ej.lp else if i=20 then Ei.lp else if i=26 then Eh.lp else aB i)) (fun b hb=>by
 rw [show aC _=[Az,IJ,Aw,Au] by kernel_rfl] at hb
 simp only [List.mem_cons,List.not_mem_nil,or_false] at hb
 rcases hb with rfl|rfl|rfl|rfl
 ·exact alW
 ·exact alV
 ·exact alU
 ·exact alT) (fun args lv h=>by
 unfold abZ at h
 split at h
 ·simp only [canL,canX]
  rw [anX]
  rename_i cs os ks gs bs
  obtain ⟨hn,rfl⟩:=h
  have bad:¬(1≤cs.length∧cs.length≤16∧os.length≤8∧ks.length≤32∧gs.length≤16∧bs.length≤24)→LV.v (.bool false)=LV.v (.bool (fM cs os ks gs bs)):=fun hd=>congrArg (fun z=>LV.v (.bool z)) (by
   rw [eq_comm,Bool.eq_false_iff]
   intro hx
   exact hd (gq.1 hx).1)
  refine ⟨fun c=>bad (by simp only [Bool.not_eq_true',aic] at c;omega),fun c=>⟨fun c2=>bad (by simp at c2;omega),fun c2=>⟨fun c3=>bad (by simp at c3;omega),fun c3=>⟨fun c4=>bad (by simp at c4;omega),fun c4=>⟨fun c5=>bad (by simp at c5;omega),fun c5=>?_⟩⟩⟩⟩⟩
  have hd:1≤cs.length∧cs.length≤16∧os.length≤8∧ks.length≤32∧gs.length≤16∧bs.length≤24:=by
   simp only [Bool.not_eq_false',dN,decide_eq_false_iff_not] at c c2 c3 c4 c5
   omega
  rw [ae0 hd]
  refine ⟨⟨by omega,hn⟩,fun c6=>?_,fun c6=>?_⟩
  ·have c6:nmB (gJ cs os ks gs bs)=false:=by simpa using c6
   rw [c6]
   exact rfl
  have c6:nmB (gJ cs os ks gs bs)=true:=by simpa using c6
  rw [c6,Bool.true_and]
  refine mP ⟨⟨rfl,by simp only;omega,by simp only;omega,trivial⟩,rfl,rfl⟩ (fun hE0=>?_)
  obtain ⟨s',_,hq⟩:=amV _ hE0.1
  rcases hq with ⟨q1,q2⟩ |⟨q1,q2,j,q3,q4⟩
  rotate_left
  ·rw [q1,q2]
   refine ⟨fun _=>congrArg (fun z=>LV.v (.bool z)) ?_,fun h=>by cases h⟩
   unfold U6
   rw [tN (n:=cs.length) (f:=fun j=>D8 j (fO cs j)) j q3 q4]
   rfl
  rw [q1]
  refine ⟨fun h=>(by cases h),fun _=>?_⟩
  have g0:JL cs.length (fun j=>D8 j (fO cs j))=true:=fU.2 q2
  refine mP ⟨⟨rfl,by simp only;omega,by simp only;omega⟩,rfl,rfl⟩ (fun hE1=>?_)
  obtain ⟨s',_,hq⟩:=amU _ hE1.1
  rcases hq with ⟨q1,q2⟩ |⟨q1,q2,j,q3,q4⟩
  rotate_left
  ·rw [q1,q2]
   refine ⟨fun _=>congrArg (fun z=>LV.v (.bool z)) ?_,fun h=>by cases h⟩
   unfold U6
   have hn:(ks.all (koV os.length)&&once (ks.map (·.2.2.2)))=false:=by
    rw [Bool.eq_false_iff];intro hx
    have:=(kN (d:=(emp,0,0,0))).2 hx j q3
    exact Bool.noConfusion (this.symm.trans q4)
   rw [g0,Bool.true_and,←Bool.and_assoc,hn]
   rfl
  rw [q1]
  refine ⟨fun h=>(by cases h),fun _=>?_⟩
  have g1:(ks.all (koV os.length)&&once (ks.map (·.2.2.2)))=true:=(kN (d:=(emp,0,0,0))).1 q2
  refine mP ⟨⟨rfl,by simp only;omega,by simp only;omega,by simp only;omega,by simp only;omega⟩,rfl,rfl⟩ (fun hE2=>?_)
  obtain ⟨s',_,hq⟩:=amT _ hE2.1
  rcases hq with ⟨q1,q2⟩ |⟨q1,q2,j,q3,q4⟩
  rotate_left
  ·rw [q1,q2]
   refine ⟨fun _=>congrArg (fun z=>LV.v (.bool z)) ?_,fun h=>by cases h⟩
   unfold U6
   have hn:gs.all (FW cs.length os.length)=false:=by
    rw [Bool.eq_false_iff];intro hx
    have:=(iO (d:=(emp,0,0,0,0,0,0,0))).2 hx j q3
    exact Bool.noConfusion (this.symm.trans q4)
   rw [g0,Bool.true_and,←Bool.and_assoc,g1,hn]
   rfl
  rw [q1]
  refine ⟨fun h=>(by cases h),fun _=>?_⟩
  have g2:gs.all (FW cs.length os.length)=true:=(iO (d:=(emp,0,0,0,0,0,0,0))).1 q2
  have hw:=aK (x:=(List.length gs:Int)-1) (by omega) (by omega)
  refine mP ⟨⟨rfl,by simp only;omega,by simp only;omega,trivial⟩,rfl,rfl⟩ (fun hE3=>?_)
  obtain ⟨s',_,hq⟩:=amS _ hE3.1
  rcases hq with ⟨q1,q2⟩ |⟨q1,q2,j,q3,q4⟩
  rotate_left
  ·rw [q1,q2]
   refine ⟨fun _=>congrArg (fun z=>LV.v (.bool z)) ?_,fun h=>by cases h⟩
   unfold U6
   have hn:bs.all (fun b=>inB b.2 0 ((gs.length:Int)-1))=false:=by
    rw [Bool.eq_false_iff];intro hx
    have:=(iO (d:=(emp,0))).2 hx j q3
    have q4:inB (Ce bs j).2 0 (IntKind.i64.wrap ((List.length gs:Int)-1))=false:=q4
    rw [hw] at q4
    exact Bool.noConfusion (this.symm.trans q4)
   rw [g0,Bool.true_and,←Bool.and_assoc,g1,g2,hn]
   rfl
  rw [q1]
  refine ⟨fun h=>(by cases h),fun _=>?_⟩
  have g3:bs.all (fun b=>inB b.2 0 ((gs.length:Int)-1))=true:=(iO (d:=(emp,0))).1 (fun j hj=>by
   have:inB (Ce bs j).2 0 (IntKind.i64.wrap ((List.length gs:Int)-1))=true:=q2 j hj
   rw [hw] at this
   exact this)
  refine congrArg (fun z=>LV.v (.bool z)) ?_
  unfold U6
  rw [g0,Bool.true_and,←Bool.and_assoc,g1,g2,g3]
  rfl
 ·cases h)
end Go.Proofs.YtlihnbimgclogaaGreatDoor
namespace Go.Proofs.YtlihnbimgclogaaGreatDoor
open Go.Sx
section
variable {lt : Int → Int → Bool}
def Fq (lt:Int→Int→Bool):List Int→Int→List Int
 | [],x=>[x]
 |y::q,x=>if lt x y=true then y::Fq lt q x else x::y::q
theorem xG {x:Int}:∀ {q:List Int},(Fq lt q x).Perm (x::q)
 | []=>List.Perm.refl _
 |y::q=>by
  unfold Fq
  split
  ·exact (List.Perm.cons y xG).trans (List.Perm.swap x y q)
  ·exact List.Perm.refl _
theorem aia {q:List Int}{x:Int}:(Fq lt q x).length=q.length+1:=by rw [xG.length_eq];rfl
theorem Iu:∀ {l acc:List Int},(l.foldl (Fq lt) acc).Perm (acc++l)
 | [],acc=>by simp
 |x::l,acc=>by
  rw [List.foldl_cons]
  refine Iu.trans ?_
  refine (List.Perm.append_right l xG).trans ?_
  rw [List.cons_append]
  exact List.perm_middle.symm
def sortB (lt:Int→Int→Bool) (l:List Int):List Int:=(l.foldl (Fq lt) []).reverse
theorem Vm {l:List Int}:(sortB lt l).Perm l:=by
 unfold sortB
 exact (List.reverse_perm _).trans (by have:=Iu (lt:=lt) (l:=l) (acc:=[]);simpa using this)
def exB (l:List Int) (j:Nat):List Int:=(l.set (j+1) (l.getD j 0)).set j (l.getD (j+1) 0)
def bub (lt:Int→Int→Bool):Nat→List Int→List Int
 |0,l=>l
 |j+1,l=>if lt (l.getD (j+1) 0) (l.getD j 0)=true then bub lt j (exB l j) else l
theorem apQ {p post:List Int}{x y:Int}:exB (p++y::x::post) p.length=p++x::y::post:=by
 unfold exB
 have e1:(p++y::x::post).getD p.length 0=y:=by simp [List.getD]
 have e2:(p++y::x::post).getD (p.length+1) 0=x:=by simp [List.getD]
 rw [e1,e2,List.set_append_right _ _ (by omega),List.set_append_right _ _ (by omega)]
 simp
theorem PX {post:List Int}{x:Int}:∀ {q:List Int},bub lt q.length (q.reverse++x::post)=(Fq lt q x).reverse++post
 | []=>by simp [bub,Fq]
 | y::q=>by
  have hl:q.length=q.reverse.length:=by simp
  have e1:((y::q).reverse++x::post)=q.reverse++y::x::post:=by simp
  rw [e1,List.length_cons,bub]
  have g1:(q.reverse++y::x::post).getD q.length 0=y:=by rw [hl];simp [List.getD]
  have g2:(q.reverse++y::x::post).getD (q.length+1) 0=x:=by rw [hl];simp [List.getD]
  rw [g1,g2]
  unfold Fq
  split
  ·have e2:exB (q.reverse++y::x::post) q.length=q.reverse++x::y::post:=by
    have:=apQ (p:=q.reverse) (x:=x) (y:=y) (post:=post)
    rwa [←hl] at this
   rw [e2,PX]
   simp
  ·simp
theorem ajs:∀ {j:Nat}{l:List Int},j<l.length→(bub lt j l).Perm l:=fun {j l} h=>by
 have e:l=(l.take j).reverse.reverse++l[j]::l.drop (j+1):=by rw [List.reverse_reverse,List.getElem_cons_drop,List.take_append_drop]
 have hj:(l.take j).reverse.length=j:=by simp;omega
 have h2:=PX (lt:=lt) (q:=(l.take j).reverse) (x:=l[j]) (post:=l.drop (j+1))
 rw [hj,←e] at h2
 rw [h2]
 refine (List.Perm.append_right _ ((List.reverse_perm _).trans xG)).trans ?_
 rw [List.cons_append]
 refine (List.perm_middle.symm.trans ?_)
 refine (List.Perm.append_right _ (List.reverse_perm _)).trans ?_
 rw [List.getElem_cons_drop,List.take_append_drop]
def uK (lt:Int→Int→Bool) (l:List Int) (i:Nat):List Int:=((l.drop i).foldl (Fq lt) (l.take i).reverse).reverse
theorem Vy {l:List Int}{i:Nat}(h:i<l.length):uK lt (bub lt i l) (i+1)=uK lt l i:=by
 have e:l=(l.take i).reverse.reverse++l[i]::l.drop (i+1):=by rw [List.reverse_reverse,List.getElem_cons_drop,List.take_append_drop]
 have hi:(l.take i).reverse.length=i:=by simp;omega
 have h2:=PX (lt:=lt) (q:=(l.take i).reverse) (x:=l[i]) (post:=l.drop (i+1))
 rw [hi,←e] at h2
 have hl:((Fq lt (l.take i).reverse l[i]).reverse).length=i+1:=by rw [List.length_reverse,aia,hi]
 unfold uK
 rw [h2,List.drop_append_of_le_length (by omega),List.take_append_of_le_length (by omega),List.drop_of_length_le (by omega),List.take_of_length_le (by omega),List.nil_append,List.reverse_reverse]
 conv=>rhs;rw [←List.getElem_cons_drop h,List.foldl_cons]
theorem adG {l:List Int}:uK lt l 1=sortB lt l:=by
 cases l with
 |nil=>rfl
 |cons x l=>simp [uK,sortB,Fq]
theorem adH {l:List Int}{i:Nat}(h:l.length≤i):uK lt l i=l:=by
 unfold uK
 rw [List.drop_of_length_le h,List.take_of_length_le h]
 simp
end
abbrev qG:Ty:=.pair .bool (.pair (.int .i64) (.pair (.int .i64) (.int .i64)))
abbrev Dm:=Bool×Int×Int×Int
def qI (l:List Dm) (n:Int):Dm:=l.getD n.toNat (false,0,0,0)
def slk (d:List Dm) (t i:Int):Int:=(qI d i).2.2.1-t-(qI d i).2.1
def cm (a b:Int):Int:=if a<b then -1 else if a>b then 1 else 0
def orI:List Int→Int
 | []=>0
 |x::l=>if (x !=0)=true then x else orI l
def cmD (d:List Dm) (t a b:Int):Int:=orI [cm (qI d a).2.2.2 (qI d b).2.2.2,cm (slk d t a) (slk d t b),cm a b]
def ltD (d:List Dm) (t a b:Int):Bool:=decide (cmD d t a b<0)
def xQ (d:List Dm) (t:Int):Prop:=(∀x∈d,(-2000000000≤x.2.1∧x.2.1≤2000000000)∧-2000000000≤x.2.2.1∧x.2.2.1≤2000000000)∧-2000000000≤t∧t≤2000000000
theorem apc {d:List Dm}{i:Int}(h0:0≤i) (h1:i<(d.length:Int)):qI d i∈d:=by
 unfold qI
 have h:i.toNat<d.length:=by omega
 simp [List.getD,h]
theorem asZ {d:List Dm}{t i:Int}(h:xQ d t) (h0:0≤i) (h1:i<(d.length:Int)):(-2000000000≤(qI d i).2.1∧(qI d i).2.1≤2000000000)∧-2000000000≤(qI d i).2.2.1∧(qI d i).2.2.1≤2000000000:=h.1 _ (apc h0 h1)
def yJ (n:Nat):List Int:=(List.range n).map (fun k:Nat=>(k:Int))
def jI (d:List Dm) (t:Int):List Int:=sortB (ltD d t) (yJ d.length)
theorem adF {n:Nat}:yJ (n+1)=yJ n++[(n:Int)]:=by simp [yJ,List.range_succ]
theorem qg {n:Nat}:(yJ n).length=n:=by simp [yJ]
theorem Rx {n:Nat}{x:Int}:x∈yJ n↔0≤x∧x<(n:Int):=by
 unfold yJ
 rw [List.mem_map]
 constructor
 ·rintro ⟨k,hk,rfl⟩
  rw [List.mem_range] at hk
  omega
 ·exact fun h=>⟨x.toNat,by rw [List.mem_range];omega,by omega⟩
theorem Vu {n:Nat}:(yJ n).Nodup:=List.Pairwise.map _ (fun a b h=>by omega) List.nodup_range
theorem CP {d:List Dm}{t:Int}:(jI d t).Perm (yJ d.length):=Vm
theorem RQ {d:List Dm}{t:Int}:(jI d t).length=d.length:=by rw [CP.length_eq,qg]
theorem agw {d:List Dm}{t x:Int}:x∈jI d t↔0≤x∧x<(d.length:Int):=CP.mem_iff.trans Rx
theorem VQ {d:List Dm}{t:Int}:(jI d t).Nodup:=CP.nodup_iff.2 Vu
end Go.Proofs.YtlihnbimgclogaaGreatDoor
namespace Go.Proofs.YtlihnbimgclogaaGreatDoor
open Go.Sx
theorem Ph {mi ma st a k:Int}(hh:mJ mi ma st=true) (ha:0≤a) (h0:0≤k) (h1:k<CW mi ma st):Cf mi st k≤a↔k≤SB mi ma st a:=by
 obtain ⟨g1,g2,g3,g4,g5⟩:=fG.1 hh
 have hn:¬(mJ mi ma st=false∨a<0):=by simp [hh];omega
 unfold SB
 rw [if_neg hn]
 unfold Cf
 by_cases e:k=0
 ·subst e
  simp only [if_true]
  split
  ·omega
  ·have:=Dj (x:=a-mi) (st:=st) (by omega) (by omega)
   omega
 ·rw [if_neg e]
  have hp:0≤(k-1)*st:=Int.mul_nonneg (by omega) (by omega)
  split
  ·omega
  ·have:=(Int.le_ediv_iff_mul_le (a:=k-1) (b:=a-mi) (c:=st) (by omega))
   omega
theorem ah1 {mi ma st a:Int}(hh:mJ mi ma st=true):SB mi ma st a<CW mi ma st:=by
 have:=O9 hh
 unfold SB
 split
 ·omega
 ·split<;>omega
theorem WG {mi ma st a:Int}(hh:mJ mi ma st=true) (ha:0≤a):0≤SB mi ma st a:=by
 have:=O9 hh
 obtain ⟨g1,g2,g3,g4,g5⟩:=fG.1 hh
 have hn:¬(mJ mi ma st=false∨a<0):=by simp [hh];omega
 unfold SB
 rw [if_neg hn]
 split
 ·omega
 ·have:=Dj (x:=a-mi) (st:=st) (by omega) (by omega)
  omega
theorem VS {l:List Int}:once l=true↔l.Nodup:=by
 rw [G6,List.nodup_iff_pairwise_ne,List.pairwise_iff_getElem]
 constructor
 ·intro h i j hi hj hij e
  exact h j hj (by rw [←e,List.mem_iff_getElem];exact ⟨i,by rw [List.length_take];omega,by simp⟩)
 ·intro h j hj hm
  obtain ⟨i,hi,e⟩:=List.mem_iff_getElem.1 hm
  rw [List.length_take] at hi
  have:l[i]=l[j]:=by simpa using e
  exact h i j (by omega) hj (by omega) this
theorem vM:∀ {r l:List Int},r.Nodup→(∀x∈r,x∈l)→r.length=l.length→l.Nodup∧∀x∈l,x∈r
 | [],l,_,_,h=>by
  have:l=[]:=List.length_eq_zero_iff.1 h.symm
  subst this
  simp
 | x::r,l,hn,hs,h=>by
  obtain ⟨n1,n2⟩:=List.nodup_cons.1 hn
  have hx:=hs x (by simp)
  have hp:=List.perm_cons_erase hx
  have hl:(l.erase x).length=l.length-1:=List.length_erase_of_mem hx
  obtain ⟨i1,i2⟩:=vM (l:=l.erase x) n2 (fun y hy=>by
   have hy2:=hs y (by simp [hy])
   have hne:y≠x:=fun e=>n1 (e▸hy)
   exact (List.mem_erase_of_ne hne).2 hy2) (by rw [hl];simp only [List.length_cons] at h;omega)
  refine ⟨hp.nodup_iff.2 (List.nodup_cons.2 ⟨fun hm=>n1 (i2 x hm),i1⟩),fun y hy=>?_⟩
  by_cases e:y=x
  ·simp [e]
  ·exact List.mem_cons_of_mem _ (i2 y ((List.mem_erase_of_ne e).2 hy))
def afo (n:Nat):List Int:=(List.range n).map (fun k:Nat=>(k:Int))
theorem Ry {n:Nat}{x:Int}:x∈afo n↔0≤x∧x<(n:Int):=by
 unfold afo
 rw [List.mem_map]
 constructor
 ·rintro ⟨k,hk,rfl⟩
  have:=List.mem_range.1 hk
  omega
 ·rintro ⟨h1,h2⟩
  exact ⟨x.toNat,List.mem_range.2 (by omega),by omega⟩
theorem Rz {n:Nat}:(afo n).length=n:=by simp [afo]
theorem KG {l:List Int}{n:Nat}:mG l n=true↔l.length=n∧l.Nodup∧∀i∈l,0≤i∧i<(n:Int):=by
 unfold mG
 simp only [Bool.and_eq_true,decide_eq_true_eq,List.all_eq_true,zD,VS]
 constructor
 ·rintro ⟨h1,h2,h3⟩;exact ⟨by omega,h3,h2⟩
 ·rintro ⟨h1,h2,h3⟩;exact ⟨by omega,h3,h2⟩
theorem ad3 {l:List Int}{n:Nat}(h:mG l n=true) {i:Int}(h0:0≤i) (h1:i<(n:Int)):i∈l:=by
 obtain ⟨g1,g2,g3⟩:=KG.1 h
 exact (vM g2 (l:=afo n) (fun x hx=>Ry.2 (g3 x hx)) (by rw [Rz];exact g1)).2 i (Ry.2 ⟨h0,h1⟩)
def Rf (al am ms:List Int):Int:=(ms.map (fun m=>mx (gi al m) (gi am m))).sum
def rowB (al am:List Int) (r:Rw):Bool:=r.2.all (fun m=>gi am m==0) ||decide (Rf al am r.2≤r.1)
def uM (rows:List Rw) (al am:List Int):Bool:=rows.all (rowB al am)
def Gu (al am:List Int) (r:Rw):Prop:=(r.2.length:Int)≤1000∧(∀m∈r.2,0≤m∧m<(al.length:Int)∧m<(am.length:Int))∧(∀a∈al,0≤a∧a≤1000000)∧∀a∈am,0≤a∧a≤1000000
theorem og {al am ms:List Int}{m:Int}:Rf al am (m::ms)=mx (gi al m) (gi am m)+Rf al am ms:=by simp [Rf]
theorem aAn {a b:Int}(ha:0≤a∧a≤1000000) (hb:0≤b∧b≤1000000):0≤mx a b∧mx a b≤1000000:=by
 unfold mx
 split<;>omega
end Go.Proofs.YtlihnbimgclogaaGreatDoor
namespace Go.Proofs.YtlihnbimgclogaaGreatDoor
open Go.Sx
def aBE (gs:List Ch) (i k:Int):Int:=amA (bC gs i).2.2.2.1 (bC gs i).2.2.2.2.1 (bC gs i).2.2.2.2.2.1 k
def aBD (gs:List Ch) (i k:Int):Int:=amE (bC gs i).2.2.2.1 (bC gs i).2.2.2.2.1 (bC gs i).2.2.2.2.2.1 k
structure aBI (rows:List Rw) (gs:List Ch) (al mo od:List Int):Prop where
 ol:(od.length:Int)≤1000
 ord:∀i∈od,0≤i∧i<(gs.length:Int)
 rl:(rows.length:Int)≤1000
 all:al.length=gs.length
 mol:mo.length=gs.length
 row:∀r∈rows,(r.2.length:Int)≤1000∧∀m∈r.2,0≤m∧m<(gs.length:Int)
 al:∀a∈al,0≤a∧a≤1000000
structure aek (gs:List Ch) (out:List Int):Prop where
 len:out.length=gs.length
 bd:∀a∈out,0≤a∧a≤1000000
theorem aBI.Gu {rows:List Rw}{gs:List Ch}{al mo od out:List Int}(h:aBI rows gs al mo od) (ho:aek gs out):∀r∈rows,Gu al out r:=fun r hr=>
 ⟨(h.row r hr).1,fun m hm=>by
  have:=(h.row r hr).2 m hm
  have:=h.all
  have:=ho.len
  omega,h.al,ho.bd⟩
theorem aek.put {gs:List Ch}{out:List Int}(h:aek gs out) {k:Nat}{v:Int}(hv:0≤v∧v≤1000000):aek gs (out.set k v):=
 ⟨by rw [List.length_set];exact h.len,fun a ha=>by
  rcases List.mem_or_eq_of_mem_set ha with h2|h2
  ·exact h.bd a h2
  ·rw [h2];exact hv⟩
end Go.Proofs.YtlihnbimgclogaaGreatDoor
namespace Go.Proofs.YtlihnbimgclogaaGreatDoor
open Go.Sx
end Go.Proofs.YtlihnbimgclogaaGreatDoor
namespace Go.Proofs.YtlihnbimgclogaaGreatDoor
open Go.Sx
section
variable {P : List Int → Bool} {tp : Int → Int}
def SH (P:List Int→Bool) (tp:Int→Int) (L:Int) (lv:List Int) (i:Int):List Int:=
 if gi lv i=L-1∧L≤tp i then (if P (lv.set i.toNat L)=true then lv.set i.toNat L else lv) else lv
def gsw (P:List Int→Bool) (tp:Int→Int) (L:Int) (lv l:List Int):List Int:=l.foldl (SH P tp L) lv
def JR (P:List Int→Bool) (tp:Int→Int) (od:List Int):Nat→Int→List Int→List Int
 |0,_,lv=>lv
 |f+1,L,lv=>JR P tp od f (L+1) (gsw P tp L lv od)
theorem oZ {l:List Int}{i j v:Int}(h0:0≤i) (h1:i<(l.length:Int)) (hj:0≤j):gi (l.set i.toNat v) j=if j=i then v else gi l j:=by
 unfold gi
 rw [qm]
 by_cases e:j=i
 ·subst e
  rw [if_pos ⟨rfl,by omega⟩,if_pos rfl]
 ·rw [if_neg (by omega),if_neg e]
def Vx (n:Nat) (l:List Int):Prop:=∀i∈l,0≤i∧i<(n:Int)
theorem Pv {L i:Int}{lv:List Int}:(SH P tp L lv i).length=lv.length:=by
 unfold SH
 split
 ·split
  ·rw [List.length_set]
  ·rfl
 ·rfl
theorem awM {L i j:Int}{lv:List Int}(h:0≤i∧i<(lv.length:Int)) (hj:0≤j):gi lv j≤gi (SH P tp L lv i) j:=by
 unfold SH
 split
 ·rename_i hc
  split
  ·rw [oZ h.1 h.2 hj]
   split
   ·rename_i e;subst e;omega
   ·exact Int.le_refl _
  ·exact Int.le_refl _
 ·exact Int.le_refl _
theorem awN {L i j:Int}{lv:List Int}(h:0≤i∧i<(lv.length:Int)) (hj:0≤j):gi (SH P tp L lv i) j≤gi lv j∨(gi (SH P tp L lv i) j=L∧L≤tp j):=by
 unfold SH
 split
 ·rename_i hc
  split
  ·rw [oZ h.1 h.2 hj]
   split
   ·rename_i e;subst e;exact .inr ⟨rfl,hc.2⟩
   ·exact .inl (Int.le_refl _)
  ·exact .inl (Int.le_refl _)
 ·exact .inl (Int.le_refl _)
theorem aAO {L i:Int}{lv:List Int}(h:P lv=true):P (SH P tp L lv i)=true:=by
 unfold SH
 split
 ·split
  ·rename_i hp;exact hp
  ·exact h
 ·exact h
theorem vW {L i:Int}{lv l:List Int}:gsw P tp L lv (i::l)=gsw P tp L (SH P tp L lv i) l:=rfl
theorem FN {L:Int}:∀ {l lv:List Int},(gsw P tp L lv l).length=lv.length
 | [],_=>rfl
 |i::l,lv=>by rw [vW,FN (l:=l),Pv]
theorem aix {L j:Int}(hj:0≤j):∀ {l lv:List Int},Vx lv.length l→gi lv j≤gi (gsw P tp L lv l) j
 | [],_,_=>Int.le_refl _
 |i::l,lv,h=>by
  rw [vW]
  have h1:=awM (P:=P) (tp:=tp) (L:=L) (h i (by simp)) hj
  have h2:=aix (L:=L) hj (l:=l) (lv:=SH P tp L lv i) (by rw [Pv];exact fun x hx=>h x (by simp [hx]))
  omega
theorem WS {L j:Int}(hj:0≤j):∀ {l lv:List Int},Vx lv.length l→gi (gsw P tp L lv l) j≤gi lv j∨(gi (gsw P tp L lv l) j≤L∧gi (gsw P tp L lv l) j≤tp j)
 | [],_,_=> .inl (Int.le_refl _)
 |i::l,lv,h=>by
  rw [vW]
  have h1:=awN (P:=P) (tp:=tp) (L:=L) (h i (by simp)) hj
  have h2:=WS (L:=L) hj (l:=l) (lv:=SH P tp L lv i) (by rw [Pv];exact fun x hx=>h x (by simp [hx]))
  omega
theorem arp {L:Int}:∀ {l lv:List Int},P lv=true→P (gsw P tp L lv l)=true
 | [],_,h=>h
 |i::l,lv,h=>by rw [vW];exact arp (l:=l) (aAO h)
theorem aav {od:List Int}:∀ {f:Nat}{L:Int}{lv:List Int},(JR P tp od f L lv).length=lv.length
 |0,_,_=>rfl
 |f+1,L,lv=>by rw [JR,aav,FN]
theorem aiy {od:List Int}{j:Int}(hj:0≤j):∀ {f:Nat}{L:Int}{lv:List Int},Vx lv.length od→gi lv j≤gi (JR P tp od f L lv) j
 |0,_,_,_=>Int.le_refl _
 |f+1,L,lv,h=>by
  rw [JR]
  have h1:=aix (P:=P) (tp:=tp) (L:=L) hj h
  have h2:=aiy (f:=f) (L:=L+1) (lv:=gsw P tp L lv od) hj (by rw [FN];exact h)
  omega
theorem aiz {od:List Int}{j:Int}(hj:0≤j):∀ {f:Nat}{L:Int}{lv:List Int},Vx lv.length od→gi (JR P tp od f L lv) j≤gi lv j∨(gi (JR P tp od f L lv) j≤L+f-1∧gi (JR P tp od f L lv) j≤tp j)
 |0,_,_,_=> .inl (Int.le_refl _)
 |f+1,L,lv,h=>by
  rw [JR]
  have h1:=WS (P:=P) (tp:=tp) (L:=L) hj h
  have h2:=aiz (f:=f) (L:=L+1) (lv:=gsw P tp L lv od) hj (by rw [FN];exact h)
  omega
theorem arq {od:List Int}:∀ {f:Nat}{L:Int}{lv:List Int},P lv=true→P (JR P tp od f L lv)=true
 |0,_,_,h=>h
 |f+1,L,lv,h=>by rw [JR];exact arq (arp h)
theorem SI {od:List Int}:∀ {f:Nat}{L:Int}{lv:List Int},JR P tp od (f+1) L lv=gsw P tp (L+f) (JR P tp od f L lv) od
 |0,L,lv=>by simp [JR]
 |f+1,L,lv=>by
  rw [JR,SI (f:=f) (L:=L+1),JR,show L+1+(f:Int)=L+((f+1:Nat):Int) by omega]
theorem C9 {L:Int}:∀ {l lv:List Int},(∀i∈l,gi lv i≠L-1∨tp i<L)→gsw P tp L lv l=lv
 | [],_,_=>rfl
 | i::l,lv,h=>by
  have e:SH P tp L lv i=lv:=by
   unfold SH
   rw [if_neg (by have:=h i (by simp);omega)]
  rw [vW,e,C9 (fun j hj=>h j (by simp [hj]))]
theorem KH {od:List Int}:∀ {f:Nat}{L:Int}{lv:List Int},(∀i∈od,gi lv i<L-1)→JR P tp od f L lv=lv
 |0,_,_,_=>rfl
 |f+1,L,lv,h=>by
  rw [JR,C9 (fun i hi=> .inl (by have:=h i hi;omega)),KH (fun i hi=>by have:=h i hi;omega)]
end
end Go.Proofs.YtlihnbimgclogaaGreatDoor
namespace Go.Proofs.YtlihnbimgclogaaGreatDoor
open Go.Sx
structure uY (rows:List Rw) (gs:List Ch) (al mo od:List Int):Prop where
 mem:∀r∈rows,r.2.Nodup∧∀m∈r.2,0≤m∧m<(gs.length:Int)
 has:∀i:Int,0≤i→i<(gs.length:Int)→mJ (bC gs i).2.2.2.1 (bC gs i).2.2.2.2.1 (bC gs i).2.2.2.2.2.1=true
 gl:gs.length≤16
 all:al.length=gs.length
 mol:mo.length=gs.length
 al:∀a∈al,0≤a∧a≤80
 mo:∀a∈mo,0≤a∧a≤80
 nd:od.Nodup
 ord:Vx gs.length od
 cov:∀i:Int,0≤i→i<(gs.length:Int)→i∈od
theorem ae6 {cs:List Cd}{os:List ByteArray}{ks:List Ko}{gs:List Ch}{bs:List Ba}{al mo od:List Int}(h:qH cs os ks gs bs al mo od=true):uY (jc cs gs cs.length) gs al mo od:=by
 obtain ⟨hv,h1,h2,h3,h4,h5⟩:=iP.1 h
 have hl:=(gq.1 hv).1
 obtain ⟨o1,o2,o3⟩:=KG.1 h5
 refine ⟨fun r hr=>⟨(row_mem hr).1,(row_mem hr).2.1⟩,fun i h0 h1=>?_,by omega,h1,h2,fun a ha=>oC.1 (List.all_eq_true.1 h3 a ha),fun a ha=>oC.1 (List.all_eq_true.1 h4 a ha),o2,o3,fun i h0 h1=>ad3 h5 h0 h1⟩
 have:=su hv h0 h1
 unfold FW chW at this
 simp only [Bool.and_eq_true,dN] at this
 exact fG.2 (by omega)
def PP (rows:List Rw) (gs:List Ch) (al lv:List Int):Bool:=uM rows al (o8 gs lv)
def tpO (gs:List Ch) (mo:List Int) (i:Int):Int:=yh gs i (gi mo i)
theorem TW {gs:List Ch}{lv:List Int}:(o8 gs lv).length=gs.length:=by simp [o8]
theorem um {gs:List Ch}{lv:List Int}{i:Int}(h0:0≤i) (h1:i<(gs.length:Int)):gi (o8 gs lv) i=xO gs i (gi lv i):=by
 rw [pG (by rw [TW];omega)]
 simp only [o8,List.getElem_map,List.getElem_range]
 rw [Int.toNat_of_nonneg h0]
 rfl
theorem ajx {gs:List Ch}{i:Int}:xO gs i 0=0:=by simp [xO,Cf]
theorem Ua {gs:List Ch}{i a b:Int}(hh:mJ (bC gs i).2.2.2.1 (bC gs i).2.2.2.2.1 (bC gs i).2.2.2.2.2.1=true) (h0:0≤a) (h1:a≤b):xO gs i a≤xO gs i b:=by
 obtain ⟨g1,g2,g3,g4,g5⟩:=fG.1 hh
 exact TY ⟨g1,g4⟩ h0 h1
theorem ajw {gs:List Ch}{i a b:Int}(hh:mJ (bC gs i).2.2.2.1 (bC gs i).2.2.2.2.1 (bC gs i).2.2.2.2.2.1=true) (h0:0≤a) (h1:a<b):xO gs i a<xO gs i b:=by
 obtain ⟨g1,g2,g3,g4,g5⟩:=fG.1 hh
 have h2:=Ua hh (show 0≤a+1 by omega) (show a+1≤b by omega)
 have h3:xO gs i a<xO gs i (a+1):=by
  unfold xO Cf
  rw [if_neg (show ¬a+1=0 by omega)]
  split
  ·rename_i e;subst e;simp;omega
  ·have:(a+1-1)*(bC gs i).2.2.2.2.2.1=(a-1)*(bC gs i).2.2.2.2.2.1+(bC gs i).2.2.2.2.2.1:=by
    rw [show a+1-1=(a-1)+1 by omega,Int.add_mul,Int.one_mul]
   omega
 omega
theorem ajv {gs:List Ch}{i a:Int}(hh:mJ (bC gs i).2.2.2.1 (bC gs i).2.2.2.2.1 (bC gs i).2.2.2.2.2.1=true) (h0:0≤a):0≤xO gs i a:=by
 have:=Ua hh (Int.le_refl 0) h0
 rw [ajx] at this
 exact this
theorem aoN {a b c:Int}(h:b≤c):mx a b≤mx a c:=by
 unfold mx
 split<;>split<;>omega
theorem Q9 {al am bm:List Int}:∀ {ms:List Int},(∀m∈ms,gi am m≤gi bm m)→Rf al am ms≤Rf al bm ms
 | [],_=>Int.le_refl _
 |m::ms,h=>by
  have h1:=Q9 (al:=al) (ms:=ms) (fun x hx=>h x (by simp [hx]))
  have h2:=aoN (a:=gi al m) (h m (by simp))
  rw [og,og]
  omega
theorem wR {al am bm:List Int}:∀ {ms:List Int},(∀m∈ms,gi am m=gi bm m)→Rf al am ms=Rf al bm ms
 | [],_=>rfl
 |m::ms,h=>by rw [og,og,wR (ms:=ms) (fun x hx=>h x (by simp [hx])),h m (by simp)]
theorem Zq {al am bm:List Int}{i:Int}:∀ {ms:List Int},ms.Nodup→i∈ms→(∀m∈ms,m≠i→gi am m=gi bm m)→Rf al bm ms=Rf al am ms+(mx (gi al i) (gi bm i)-mx (gi al i) (gi am i))
 | [],_,h,_=>by cases h
 | m::ms,hn,hi,h=>by
  obtain ⟨n1,n2⟩:=List.nodup_cons.1 hn
  rw [og,og]
  by_cases e:m=i
  ·subst e
   rw [wR (am:=am) (bm:=bm) (fun x hx=>h x (by simp [hx]) (fun e=>n1 (e▸hx)))]
   omega
  ·have hi2:i∈ms:=by
    rcases List.mem_cons.1 hi with h|h
    ·exact absurd h.symm e
    ·exact h
   rw [Zq n2 hi2 (fun x hx=>h x (by simp [hx])),h m (by simp) e]
   omega
theorem Vr {al am bm:List Int}{r:Rw}(h:∀m∈r.2,gi am m=gi bm m):rowB al am r=rowB al bm r:=by
 unfold rowB
 rw [wR h]
 congr 1
 rw [Bool.eq_iff_iff,List.all_eq_true,List.all_eq_true]
 constructor
 ·intro g m hm;rw [←h m hm];exact g m hm
 ·intro g m hm;rw [h m hm];exact g m hm
structure Inv (rows:List Rw) (gs:List Ch) (al sm lv:List Int):Prop where
 sl:sm.length=rows.length
 sm:∀k:Nat,k<rows.length→sm.getD k 0=Rf al (o8 gs lv) (o5 rows k).2
 ll:lv.length=gs.length
 nn:∀j,0≤j→0≤gi lv j
 pp:PP rows gs al lv=true
theorem FP {rows:List Rw}{k:Int}(h0:0≤k) (h1:k<(rows.length:Int)):o5 rows k∈rows:=by
 rw [yO (by omega)];exact List.getElem_mem _
theorem P6 {rows:List Rw}{gs:List Ch}{al mo od lv:List Int}(H:uY rows gs al mo od) {i L:Int}(hl:lv.length=gs.length) (h0:0≤i) (h1:i<(gs.length:Int)) {r:Rw}(hr:r∈rows):
  (∀m∈r.2,m≠i→gi (o8 gs lv) m=gi (o8 gs (lv.set i.toNat L)) m)∧gi (o8 gs (lv.set i.toNat L)) i=xO gs i L:=by
 refine ⟨fun m hm e=>?_,?_⟩
 ·obtain ⟨m0,m1⟩:=(H.mem r hr).2 m hm
  rw [um m0 m1,um m0 m1,oZ h0 (by omega) m0,if_neg e]
 ·rw [um h0 h1,oZ h0 (by omega) h0,if_pos rfl]
theorem aeX {rows:List Rw}{gs:List Ch}{al mo od lv:List Int}(H:uY rows gs al mo od) {i L:Int}(hl:lv.length=gs.length) (h0:0≤i) (h1:i<(gs.length:Int)) {r:Rw}(hr:r∈rows) (hc:gi lv i=L-1):
  Rf al (o8 gs (lv.set i.toNat L)) r.2=Rf al (o8 gs lv) r.2+(if i∈r.2 then Kz gs al i L else 0):=by
 obtain ⟨p1,p2⟩:=P6 (L:=L) H hl h0 h1 hr
 split
 ·rename_i hi
  rw [Zq (am:=o8 gs lv) (H.mem r hr).1 hi p1,p2,um h0 h1,hc]
  rfl
 ·rename_i hi
  rw [←wR (am:=o8 gs lv) (fun m hm=>p1 m hm (fun e=>hi (e▸hm)))]
  omega
theorem apg {rows:List Rw}{gs:List Ch}{al mo od sm lv:List Int}(H:uY rows gs al mo od) (hI:Inv rows gs al sm lv) {i L:Int}(h0:0≤i) (h1:i<(gs.length:Int)) (hL:1≤L) (hc:gi lv i=L-1):
  ((OL rows).getD i.toNat []).all (zZ rows sm (Kz gs al i L))=PP rows gs al (lv.set i.toNat L):=by
 have hg:=H.gl
 rw [Yr (fun r hr=>⟨(H.mem r hr).1,fun m hm=>((H.mem r hr).2 m hm).1⟩) (by omega),Bool.eq_iff_iff,List.all_eq_true]
 unfold PP uM
 rw [List.all_eq_true]
 have hpp:=hI.pp
 unfold PP uM at hpp
 rw [List.all_eq_true] at hpp
 have hpos:1≤xO gs i L:=by
  have:=ajw (H.has i h0 h1) (Int.le_refl 0) (show 0<L by omega)
  rw [ajx] at this
  omega
 have hfit:∀k:Int,0≤k→k<(rows.length:Int)→i∈(o5 rows k).2→(zZ rows sm (Kz gs al i L) k=rowB al (o8 gs (lv.set i.toNat L)) (o5 rows k)):=fun k k0 k1 hk=>by
  have hr:=FP k0 k1
  have hs:=hI.sm k.toNat (by omega)
  rw [Int.toNat_of_nonneg k0] at hs
  have hp:=aeX (L:=L) H hI.ll h0 h1 hr hc
  rw [if_pos hk] at hp
  have hz:(o5 rows k).2.all (fun m=>gi (o8 gs (lv.set i.toNat L)) m==0)=false:=by
   rw [Bool.eq_false_iff]
   intro hz
   have:=List.all_eq_true.1 hz i hk
   rw [(P6 (L:=L) H hI.ll h0 h1 hr).2,beq_iff_eq] at this
   omega
  unfold zZ rowB
  rw [hz,Bool.false_or,hp,hs]
 constructor
 ·intro h r hr
  obtain ⟨k,hk,rfl⟩:=List.mem_iff_getElem.1 hr
  have ek:o5 rows (k:Int)=rows[k]:=yO (by simpa using hk)
  by_cases hi:i∈rows[k].2
  ·have:=h (k:Int) (tV.2 ⟨by omega,by omega,by
    rw [Int.sub_zero,ek,Int.toNat_of_nonneg h0]
    simpa using hi⟩)
   rw [hfit k (by omega) (by omega) (by rw [ek];exact hi),ek] at this
   exact this
  ·rw [←Vr (am:=o8 gs lv) (fun m hm=>(P6 (L:=L) H hI.ll h0 h1 hr).1 m hm (fun e=>hi (e▸hm)))]
   exact hpp _ hr
 ·intro h x hx
  obtain ⟨x0,x1,x2⟩:=tV.1 hx
  rw [Int.sub_zero,Int.toNat_of_nonneg h0] at x2
  rw [hfit x x0 (by omega) (by simpa using x2)]
  exact h _ (FP x0 (by omega))
theorem amY {rows:List Rw}{gs:List Ch}{al mo od sm lv:List Int}{b:Bool}(H:uY rows gs al mo od) (hI:Inv rows gs al sm lv) {i L:Int}(h0:0≤i) (h1:i<(gs.length:Int)) (hL:1≤L):
  (CJ (OL rows) rows gs al mo L (sm,lv,b) i).2.1=SH (PP rows gs al) (tpO gs mo) L lv i∧Inv rows gs al (CJ (OL rows) rows gs al mo L (sm,lv,b) i).1 (CJ (OL rows) rows gs al mo L (sm,lv,b) i).2.1∧((CJ (OL rows) rows gs al mo L (sm,lv,b) i).2.2=false→b=false∧(CJ (OL rows) rows gs al mo L (sm,lv,b) i).2.1=lv):=by
 unfold CJ SH
 simp only
 by_cases hc:gi lv i=L-1∧L≤tpO gs mo i
 ·have hf:=apg H hI h0 h1 hL hc.1
  rw [if_pos (show lv.getD i.toNat 0=L-1∧L≤yh gs i (gi mo i) from hc),if_pos hc,hf]
  by_cases hp:PP rows gs al (lv.set i.toNat L)=true
  ·rw [if_pos hp,if_pos hp]
   have hg:=H.gl
   refine ⟨rfl,⟨by rw [rF];exact hI.sl,fun k hk=>?_,by rw [List.length_set];exact hI.ll,fun j hj=>?_,hp⟩,fun h=>by cases h⟩
   ·have hr:o5 rows (k:Int)∈rows:=FP (by omega) (by omega)
    simp only
    rw [Yr (fun r hr=>⟨(H.mem r hr).1,fun m hm=>((H.mem r hr).2 m hm).1⟩) (by omega),IW xA (fun r hr=>(tV.1 hr).1) (by rw [hI.sl];exact hk),hI.sm k hk,aeX (L:=L) H hI.ll h0 h1 hr hc.1]
    have:(k:Int)∈ofF 0 rows (i.toNat:Int)↔i∈(o5 rows (k:Int)).2:=by
     rw [tV,Int.sub_zero,Int.toNat_of_nonneg h0]
     simp only [List.contains_iff_mem]
     constructor
     ·exact fun h=>h.2.2
     ·exact fun h=>⟨by omega,by omega,h⟩
    by_cases hm:i∈(o5 rows (k:Int)).2
    ·rw [if_pos (this.2 hm),if_pos hm]
    ·rw [if_neg (fun h=>hm (this.1 h)),if_neg hm]
   ·simp only
    rw [oZ h0 (by rw [hI.ll];exact h1) hj]
    split
    ·omega
    ·exact hI.nn j hj
  ·rw [if_neg hp,if_neg hp]
   exact ⟨rfl,hI,fun h=>⟨h,rfl⟩⟩
 ·rw [if_neg (show ¬(lv.getD i.toNat 0=L-1∧L≤yh gs i (gi mo i)) from hc),if_neg hc]
  exact ⟨rfl,hI,fun h=>⟨h,rfl⟩⟩
theorem Zm {rows:List Rw}{gs:List Ch}{al mo od:List Int}(H:uY rows gs al mo od) {L:Int}(hL:1≤L):∀ {l sm lv:List Int}{b:Bool},Vx gs.length l→Inv rows gs al sm lv→
  (swp (OL rows) rows gs al mo L (sm,lv,b) l).2.1=gsw (PP rows gs al) (tpO gs mo) L lv l∧Inv rows gs al (swp (OL rows) rows gs al mo L (sm,lv,b) l).1 (swp (OL rows) rows gs al mo L (sm,lv,b) l).2.1∧((swp (OL rows) rows gs al mo L (sm,lv,b) l).2.2=false→b=false∧(swp (OL rows) rows gs al mo L (sm,lv,b) l).2.1=lv)
 | [],sm,lv,b,_,hI=>⟨rfl,hI,fun h=>⟨h,rfl⟩⟩
 |i::l,sm,lv,b,hr,hI=>by
  obtain ⟨i0,i1⟩:=hr i (by simp)
  obtain ⟨r1,r2,r3⟩:=amY (b:=b) H hI i0 i1 hL
  obtain ⟨s1,s2,s3⟩:=Zm H hL (l:=l) (b:=(CJ (OL rows) rows gs al mo L (sm,lv,b) i).2.2) (fun x hx=>hr x (by simp [hx])) r2
  refine ⟨s1.trans (by rw [r1];rfl),s2,fun h=>?_⟩
  obtain ⟨t1,t2⟩:=s3 h
  obtain ⟨t3,t4⟩:=r3 t1
  exact ⟨t3,t2.trans t4⟩
theorem Zr {rows:List Rw}{gs:List Ch}{al mo od:List Int}(H:uY rows gs al mo od):∀ {f:Nat}{L:Int}{sm lv:List Int},1≤L→Inv rows gs al sm lv→(∀i∈od,gi lv i≤L-1)→shl (OL rows) rows gs al mo od f L sm lv=JR (PP rows gs al) (tpO gs mo) od f L lv
 |0,_,_,_,_,_,_=>rfl
 | f+1,L,sm,lv,hL,hI,hb=>by
  obtain ⟨s1,s2,s3⟩:=Zm (b:=false) H hL H.ord hI
  rw [shl,JR]
  split
  ·rw [Zr H (by omega) s2 (fun i hi=>by
    rw [s1]
    have h1:=WS (P:=PP rows gs al) (tp:=tpO gs mo) (L:=L) (H.ord i hi).1 (l:=od) (lv:=lv) (by rw [hI.ll];exact H.ord)
    have h2:=hb i hi
    omega),s1]
  ·rename_i hc
   have hc:(swp (OL rows) rows gs al mo L (sm,lv,false) od).2.2=false:=by simpa using hc
   have e:=(s3 hc).2
   rw [←s1,e,KH (fun i hi=>by have:=hb i hi;omega)]
theorem vY {n:Nat}{j:Int}:gi (List.replicate n 0) j=0:=by
 unfold gi
 simp only [List.getD,List.getElem?_replicate]
 split<;>rfl
theorem aqX {rows:List Rw}{gs:List Ch}{al mo od:List Int}(H:uY rows gs al mo od):Inv rows gs al (SM al rows) (List.replicate gs.length 0):=by
 have hz:∀r∈rows,∀m∈r.2,gi (o8 gs (List.replicate gs.length 0)) m=0:=fun r hr m hm=>by
  obtain ⟨m0,m1⟩:=(H.mem r hr).2 m hm
  rw [um m0 m1,vY,ajx]
 refine ⟨Du,fun k hk=>?_,List.length_replicate,fun j _=>by rw [vY];omega,?_⟩
 ·rw [ajO hk]
  have hr:o5 rows (k:Int)∈rows:=FP (by omega) (by omega)
  unfold smA Rf
  congr 1
  refine List.map_congr_left (fun m hm=>?_)
  obtain ⟨m0,m1⟩:=(H.mem _ hr).2 m hm
  rw [hz _ hr m hm]
  have:=H.al _ (lq m0 (by rw [H.all];exact m1))
  unfold mx
  rw [if_neg (by omega)]
 ·unfold PP uM
  rw [List.all_eq_true]
  intro r hr
  unfold rowB
  rw [Bool.or_eq_true,List.all_eq_true]
  exact .inl (fun m hm=>by rw [hz r hr m hm];rfl)
def lvF (rows:List Rw) (gs:List Ch) (al mo od:List Int):List Int:=JR (PP rows gs al) (tpO gs mo) od 80 1 (List.replicate gs.length 0)
theorem Vk {rows:List Rw}{gs:List Ch}{al mo od:List Int}(H:uY rows gs al mo od) {i:Int}(h0:0≤i) (h1:i<(gs.length:Int)):0≤tpO gs mo i∧tpO gs mo i≤80∧tpO gs mo i<CW (bC gs i).2.2.2.1 (bC gs i).2.2.2.2.1 (bC gs i).2.2.2.2.2.1:=
 ⟨WG (H.has i h0 h1) (H.mo _ (lq h0 (by rw [H.mol];exact h1))).1,WH,ah1 (H.has i h0 h1)⟩
theorem auj {rows:List Rw}{gs:List Ch}{al mo od:List Int}(H:uY rows gs al mo od):shV rows gs al mo od=lvF rows gs al mo od:=by
 unfold shV lvF
 rw [H.all,Zr H (by omega) (aqX H) (fun i _=>by rw [vY];omega),SI,C9 (fun i hi=> .inr ?_)]
 have:=Vk H (H.ord i hi).1 (H.ord i hi).2
 omega
end Go.Proofs.YtlihnbimgclogaaGreatDoor
namespace Go.Proofs.YtlihnbimgclogaaGreatDoor
open Go.Sx
section
variable {rows : List Rw} {gs : List Ch} {al mo od : List Int}
theorem aoS:(lvF rows gs al mo od).length=gs.length:=by
 unfold lvF
 rw [aav,List.length_replicate]
theorem ZT (H:uY rows gs al mo od):Vx (List.replicate gs.length (0:Int)).length od:=by rw [List.length_replicate];exact H.ord
theorem awt (H:uY rows gs al mo od) {j:Int}(hj:0≤j):0≤gi (lvF rows gs al mo od) j:=by
 have:=aiy (P:=PP rows gs al) (tp:=tpO gs mo) (f:=80) (L:=1) hj (ZT H)
 rw [vY] at this
 exact this
theorem ahV (H:uY rows gs al mo od) {j:Int}(h0:0≤j) (h1:j<(gs.length:Int)):gi (lvF rows gs al mo od) j≤tpO gs mo j:=by
 have h2:=aiz (P:=PP rows gs al) (tp:=tpO gs mo) (f:=80) (L:=1) h0 (ZT H)
 rw [vY] at h2
 have h3:=Vk H h0 h1
 unfold lvF
 omega
theorem aws (H:uY rows gs al mo od):PP rows gs al (lvF rows gs al mo od)=true:=arq (aqX H).pp
theorem aoY {i k:Int}(hh:mJ (bC gs i).2.2.2.1 (bC gs i).2.2.2.2.1 (bC gs i).2.2.2.2.2.1=true) (h0:0≤k) (h1:k<CW (bC gs i).2.2.2.1 (bC gs i).2.2.2.2.1 (bC gs i).2.2.2.2.2.1):yh gs i (xO gs i k)=k:=by
 have h2:=ajv hh h0
 have h3:=(Ph hh h2 h0 h1).1 (Int.le_refl _)
 have h4:=ah1 (a:=xO gs i k) hh
 have h5:=(Ph hh h2 (k:=SB (bC gs i).2.2.2.1 (bC gs i).2.2.2.2.1 (bC gs i).2.2.2.2.2.1 (xO gs i k)) (by omega) h4).2 (Int.le_refl _)
 by_cases e:k<SB (bC gs i).2.2.2.1 (bC gs i).2.2.2.2.1 (bC gs i).2.2.2.2.2.1 (xO gs i k)
 ·have:=ajw hh h0 e
  have h5:xO gs i (SB (bC gs i).2.2.2.1 (bC gs i).2.2.2.2.1 (bC gs i).2.2.2.2.2.1 (xO gs i k))≤xO gs i k:=h5
  omega
 ·unfold yh
  omega
end
theorem aqf {mi ma st k:Int}(hh:mJ mi ma st=true) (_:0≤k) (h1:k<CW mi ma st):Cf mi st k≤ma:=by
 obtain ⟨g1,g2,g3,g4,g5⟩:=fG.1 hh
 unfold Cf
 split
 ·omega
 ·unfold CW at h1
  rw [if_pos hh] at h1
  have h2:(k-1)≤(ma-mi) / st:=by omega
  have:=(Int.le_ediv_iff_mul_le (a:=k-1) (b:=ma-mi) (c:=st) (by omega)).1 h2
  omega
theorem axF {mi ma st k:Int}(h0:0≤k) (h1:k<CW mi ma st):amA mi ma st k=Cf mi st k∧amE mi ma st k=0:=by
 unfold amA amE
 rw [if_neg (by omega),if_neg (by omega)]
 exact ⟨rfl,rfl⟩
end Go.Proofs.YtlihnbimgclogaaGreatDoor
namespace Go.Proofs.YtlihnbimgclogaaGreatDoor
open Go.Sx
section
variable {rows : List Rw} {gs : List Ch} {al mo od lv : List Int}
def lvR (gs:List Ch) (lv:List Int):Prop:=lv.length=gs.length∧∀j,0≤j→j<(gs.length:Int)→0≤gi lv j∧gi lv j<CW (bC gs j).2.2.2.1 (bC gs j).2.2.2.2.1 (bC gs j).2.2.2.2.2.1
theorem ahW (H:uY rows gs al mo od):lvR gs (lvF rows gs al mo od):=⟨aoS,fun j h0 h1=>⟨awt H h0,by
 have:=ahV H h0 h1
 have:=Vk H h0 h1
 omega⟩⟩
theorem aqg (H:uY rows gs al mo od) {j k:Int}(h0:0≤j) (h1:j<(gs.length:Int)) (k0:0≤k) (k1:k<CW (bC gs j).2.2.2.1 (bC gs j).2.2.2.2.1 (bC gs j).2.2.2.2.2.1):(0≤xO gs j k∧xO gs j k≤80)∧aBD gs j k=0∧aBE gs j k=xO gs j k∧yh gs j (xO gs j k)=k:=by
 have hh:=H.has j h0 h1
 obtain ⟨g1,g2,g3,g4,g5⟩:=fG.1 hh
 have h2:=aqf hh k0 k1
 obtain ⟨e1,e2⟩:=axF k0 k1
 refine ⟨⟨ajv hh k0,?_⟩,e2,e1,aoY hh k0 k1⟩
 unfold xO
 omega
theorem axE (H:uY rows gs al mo od) (R:lvR gs lv) {j:Int}(h0:0≤j) (h1:j<(gs.length:Int)):yh gs j (gi (o8 gs lv) j)=gi lv j∧aBD gs j (gi lv j)=0∧aBE gs j (gi lv j)=gi (o8 gs lv) j∧0≤gi (o8 gs lv) j∧gi (o8 gs lv) j≤80:=by
 obtain ⟨r0,r1⟩:=R.2 j h0 h1
 obtain ⟨a1,a2,a3,a4⟩:=aqg H h0 h1 r0 r1
 rw [um h0 h1]
 exact ⟨a4,a2,a3,a1⟩
theorem azh (H:uY rows gs al mo od) {j k:Int}(h0:0≤j) (h1:j<(gs.length:Int)) (k0:0≤k) (k1:k<CW (bC gs j).2.2.2.1 (bC gs j).2.2.2.2.1 (bC gs j).2.2.2.2.2.1):xO gs j k≤gi mo j↔k≤tpO gs mo j:=
 Ph (H.has j h0 h1) (H.mo _ (lq h0 (by rw [H.mol];exact h1))).1 k0 k1
theorem vZ {a b:List Int}(hl:a.length=b.length) (h:∀j:Int,0≤j→j<(b.length:Int)→gi a j=gi b j):a=b:=List.ext_getElem hl fun k h1 h2=>by
 have:=h (k:Int) (by omega) (by omega)
 rw [pG (by simpa using h1),pG (by simpa using h2)] at this
 simpa using this
def g4 (gs:List Ch) (mo b am:List Int) (j:Int):Prop:=(0≤gi b j∧gi b j<CW (bC gs j).2.2.2.1 (bC gs j).2.2.2.2.1 (bC gs j).2.2.2.2.2.1)∧gi am j=xO gs j (gi b j)∧gi am j≤gi mo j
end
section
variable {cs : List Cd} {os : List ByteArray} {ks : List Ko} {gs : List Ch} {bs : List Ba} {al mo od : List Int}
theorem ae8 (h:qH cs os ks gs bs al mo od=true):wS cs os ks gs bs al mo od=o8 gs (lvF (jc cs gs cs.length) gs al mo od):=by
 unfold wS
 rw [if_pos h,auj (ae6 h)]
theorem afa (h:qH cs os ks gs bs al mo od=true):shE cs os ks gs bs al mo od=0:=by unfold shE;rw [if_pos h]
theorem avv (h:qH cs os ks gs bs al mo od=true):fQ cs os ks gs bs=jc cs gs cs.length∧vG cs os ks gs bs=0∧(jc cs gs cs.length).length≤48:=by
 have hv:=(iP.1 h).1
 have:=vF (cs:=cs) (gs:=gs) (k:=cs.length)
 have:=(gq.1 hv).1
 unfold fQ vG
 rw [if_pos hv,if_pos hv]
 exact ⟨rfl,rfl,by omega⟩
end
end Go.Proofs.YtlihnbimgclogaaGreatDoor
namespace Go.Proofs.YtlihnbimgclogaaGreatDoor
open Go.Sx
abbrev Fg:Ty:=.pair (.int .i64) (.int .i64)
abbrev Ra:=Int×Int
def kJ (l:List Ra) (n:Int):Ra:=l.getD n.toNat (0,0)
theorem Xa {l:List Ra}{n:Int}(h:n.toNat<l.length):kJ l n=l[n.toNat]:=vV h
theorem aiJ {l:List Int}{j:Int}(h:l.length≤j.toNat):gi l j=0:=by
 unfold gi
 rw [List.getD_eq_getElem?_getD,List.getElem?_eq_none h]
 rfl
theorem ahQ {l:List Int}{a:Int}(h:a∈l):∃j:Int,(0≤j∧j<(l.length:Int))∧gi l j=a:=by
 obtain ⟨k,hk,e⟩:=List.mem_iff_getElem.1 h
 exact ⟨k,by omega,by rw [pG (by simpa using hk)];simpa using e⟩
theorem neN {a b:Nat}:((a:Int) !=(b:Int))=!decide (a=b):=by
 by_cases h:a=b
 ·simp [h]
 ·have h':(a:Int)≠(b:Int):=by omega
  simp [h,h']
def xY (t:Int) (x:Le):Bool:=decide (x.2.2.2.1≤t)&&decide (JS x>t)
def kpA (o:List Int) (x:Le):List Int:=o.set x.2.1.toNat (mx (gi o x.2.1) x.2.2.1)
def Ub (n:Nat) (l:List Le) (t:Int):List Int:=(l.filter (xY t)).foldl kpA (List.replicate n 0)
def below (n:Int) (l:List Le):Bool:=l.all (fun x=>decide (x.2.1<n))
def Dp (l:List Le) (n t:Int):Bool:=(oV l&&(inB n 0 16&&inB t 0 1100000))&&below n l
def oG (l:List Le) (n t:Int):List Int:=if Dp l n t=true then Ub n.toNat l t else []
def Uc (l:List Le) (n t:Int):Int:=if Dp l n t=true then 0 else 1
theorem aoZ {o:List Int}{x:Le}:(kpA o x).length=o.length:=by simp [kpA]
theorem aaf:∀ {l:List Le}{o:List Int},(l.foldl kpA o).length=o.length
 | [],_=>rfl
 |x::l,o=>by rw [List.foldl_cons,aaf,aoZ]
theorem wF {n:Nat}{l:List Le}{t:Int}:(Ub n l t).length=n:=by rw [Ub,aaf,List.length_replicate]
theorem adZ {l:List Le}(h:oV l=true):l.Pairwise (fun a b=>a.1<b.1∧a.2.2.2.1≤b.2.2.2.1):=by
 unfold oV at h
 rw [Bool.and_eq_true] at h
 have hs:∀k:Nat,(hk:k+1<l.length)→l[k].1<l[k+1].1∧l[k].2.2.2.1≤l[k+1].2.2.2.1:=fun k hk=>by
  have:=fU.1 h.2 (k+1) (by omega)
  unfold jM Tj at this
  rw [Pz (n:=((k+1:Nat):Int)) (by simpa using hk),Pz (n:=((k+1:Nat):Int)-1) (by omega)] at this
  simp only [Bool.and_eq_true,Bool.or_eq_true,decide_eq_true_eq] at this
  obtain ⟨_,h1|h1⟩:=this
  ·omega
  ·have e:(((k+1:Nat):Int)-1).toNat=k:=by omega
   simp only [e,Int.toNat_natCast] at h1
   omega
 rw [List.pairwise_iff_getElem]
 intro i j hi hj hij
 induction j with
 |zero=>omega
 | succ j ih=>
  have h1:=hs j (by omega)
  by_cases e:i=j
  ·subst e;exact h1
  ·have h2:=ih (by omega) (by omega)
   omega
def Ac (c:Ch):Int:=c.2.2.2.2.2.2.1
def RI (c:Ch) (r:Ra):Bool:=JO c.2.2.1 c.2.2.2.1 c.2.2.2.2.1 c.2.2.2.2.2.1 (Ac c) r.1 r.2
def U8 (x:Dm):Bool:=inB x.2.1 0 1000000000&&(inB x.2.2.1 0 1000000&&inB x.2.2.2 1 9)
def Gf (cs:List Cd) (os:List ByteArray) (ks:List Ko) (gs:List Ch) (bs:List Ba) (l:List Le) (rs:List Ra) (d:List Dm) (t n:Int):Bool:=
 (fM cs os ks gs bs&&oV l)&&((decide (rs.length=gs.length)&&(decide (d.length=gs.length)&&(inB t 0 1000000&&inB n 1 999900)))&&(below gs.length l&&JL gs.length (fun j=>RI (bC gs j) (kJ rs j)&&U8 (qI d j))))
def oz (n:Nat) (f:Int→Int):List Int:=(List.range n).map (fun k:Nat=>f (k:Int))
theorem ao7 {x a b:Int}:(decide (x<a) ||decide (x>b))=!inB x a b:=by
 unfold inB
 by_cases h1:x<a
 ·rw [decide_eq_true h1,decide_eq_false (p:=x≥a) (by omega)];rfl
 ·rw [decide_eq_false h1,decide_eq_true (p:=x≥a) (by omega)]
  by_cases h2:x>b
  ·rw [decide_eq_true h2,decide_eq_false (p:=x≤b) (by omega)];rfl
  ·rw [decide_eq_false h2,decide_eq_true (p:=x≤b) (by omega)];rfl
theorem ao6 {x a b:Int}{y:Bool}:(decide (x<a) ||(decide (x>b) ||y))=(!inB x a b ||y):=by rw [←Bool.or_assoc,ao7]
theorem vbE {c:Ch}{r:Ra}{x:Dm}:((!JO c.2.2.1 c.2.2.2.1 c.2.2.2.2.1 c.2.2.2.2.2.1 c.2.2.2.2.2.2.1 r.1 r.2) ||(decide (x.2.1<0) ||(decide (x.2.1>1000000000) ||(decide (x.2.2.1<0) ||(decide (x.2.2.1>1000000) ||(decide (x.2.2.2<1) ||decide (x.2.2.2>9)))))))=!(RI c r&&U8 x):=by
 unfold RI Ac U8
 rw [ao6,ao6,ao7,Bool.not_and,Bool.not_and,Bool.not_and]
def aph (cs:List Cd) (os:List ByteArray) (ks:List Ko) (gs:List Ch) (bs:List Ba) (l:List Le) (rs:List Ra) (d:List Dm):Bool:=decide (cs.length≤40∧os.length≤40∧ks.length≤40∧gs.length≤40∧bs.length≤40)&&(decide ((l.length:Int)≤100)&&(decide ((rs.length:Int)≤40)&&decide ((d.length:Int)≤40)))
theorem bW {n:Nat}{f:Int→Int}:(oz n f).length=n:=by simp [oz]
theorem xB {n:Nat}{f:Int→Int}:oz (n+1) f=oz n f++[f (n:Int)]:=by simp [oz,List.range_succ]
theorem jF {n:Nat}{f:Int→Int}{j:Int}(h0:0≤j) (h1:j<(n:Int)):gi (oz n f) j=f j:=by
 rw [pG (by rw [bW];omega)]
 simp only [oz,List.getElem_map,List.getElem_range]
 rw [Int.toNat_of_nonneg h0]
theorem Hz {n:Nat}{f:Int→Int}{x:Int}(h:x∈oz n f):∃j,(0≤j∧j<(n:Int))∧f j=x:=by
 obtain ⟨k,hk,e⟩:=List.mem_map.1 h
 exact ⟨k,⟨by omega,by have:=List.mem_range.1 hk;omega⟩,e⟩
def mO (gs:List Ch):List Int:=oz gs.length (fun k=>Ac (bC gs k))
def oU (gs:List Ch) (d:List Dm):List Int:=oz gs.length (fun k=>if (qI d k).1=true then (bC gs k).2.2.2.2.1 else 0)
def xX (gs:List Ch) (l:List Le) (t:Int):List Int:=oz gs.length (fun k=>mx (Ac (bC gs k)) (gi (Ub gs.length l t) k))
def YK (cs:List Cd) (os:List ByteArray) (ks:List Ko) (gs:List Ch) (bs:List Ba) (d:List Dm) (t:Int):List Int:=wS cs os ks gs bs (mO gs) (oU gs d) (jI d t)
def RX (cs:List Cd) (os:List ByteArray) (ks:List Ko) (gs:List Ch) (bs:List Ba) (l:List Le) (d:List Dm) (t:Int):List Int:=wS cs os ks gs bs (xX gs l t) (YK cs os ks gs bs d t) (jI d t)
theorem aaG {l:List Ra}{i j:Int}{v:Ra}(h0:0≤i) (h1:i<(l.length:Int)) (hj:0≤j):kJ (l.set i.toNat v) j=if j=i then v else kJ l j:=by
 unfold kJ
 rw [List.getD_eq_getElem?_getD,List.getD_eq_getElem?_getD,List.getElem?_set]
 by_cases e:j=i
 ·subst e
  rw [if_pos rfl,if_pos rfl,if_pos (by omega)]
  rfl
 ·rw [if_neg (by omega),if_neg e]
theorem apa {a b:List Ra}(hl:a.length=b.length) (h:∀j:Int,0≤j→j<(b.length:Int)→kJ a j=kJ b j):a=b:=List.ext_getElem hl fun k h1 h2=>by
 have:=h (k:Int) (by omega) (by omega)
 rw [Xa (by simpa using h1),Xa (by simpa using h2)] at this
 simpa using this
def NP (cs:List Cd) (os:List ByteArray) (ks:List Ko) (gs:List Ch) (bs:List Ba) (l:List Le) (d:List Dm) (t:Int) (od:List Int):List Int:=wS cs os ks gs bs (xX gs l t) (wS cs os ks gs bs (mO gs) (oU gs d) od) od
def nwO (a t:Int):Option Le→Bool
 |none=>true
 |some x=>x.2.2.1 !=a ||decide (x.2.2.2.1≤t-6)
def nwB (gs:List Ch) (l:List Le) (t i a:Int):Bool:=!decide (a≤Ac (bC gs i))&&nwO a t (l.reverse.find? (fun x=>x.2.1==i))
def nxA (c:Ch) (r:Ra) (w:Int):Int:=nA c.2.2.1 c.2.2.2.1 c.2.2.2.2.1 c.2.2.2.2.2.1 (Ac c) r.1 r.2 w
def nxS (c:Ch) (r:Ra) (w:Int):Int:=nS c.2.2.1 c.2.2.2.1 c.2.2.2.2.1 c.2.2.2.2.2.1 (Ac c) r.1 r.2 w
def PS (gs:List Ch) (rs:List Ra) (w:List Int) (k:Nat):List Int:=oz k (fun k=>nxA (bC gs k) (kJ rs k) (gi w k))
def dcR (gs:List Ch) (rs:List Ra) (w:List Int) (k:Nat):List Ra:=(List.range k).map (fun k:Nat=>(nxA (bC gs k) (kJ rs k) (gi w k),nxS (bC gs k) (kJ rs k) (gi w k)))
def dcL (gs:List Ch) (l:List Le) (t n:Int) (am:List Int):Nat→List Le
 |0=>[]
 |k+1=>dcL gs l t n am k++(if nwB gs l t k (gi am k)=true then [(n+(dcL gs l t n am k).length,(k:Int),gi am k,t,12)] else [])
theorem FU {gs:List Ch}{rs:List Ra}{w:List Int}{k:Nat}:(dcR gs rs w k).length=k:=by simp [dcR]
theorem ajl {gs:List Ch}{rs:List Ra}{w:List Int}{k:Nat}{j:Int}(h0:0≤j) (h1:j<(k:Int)):kJ (dcR gs rs w k) j=(nxA (bC gs j) (kJ rs j) (gi w j),nxS (bC gs j) (kJ rs j) (gi w j)):=by
 rw [Xa (by rw [FU];omega)]
 simp only [dcR,List.getElem_map,List.getElem_range]
 rw [Int.toNat_of_nonneg h0]
def okC (c:Ch) (r:Ra) (w:Int):Bool:=okB c.2.2.1 c.2.2.2.1 c.2.2.2.2.1 c.2.2.2.2.2.1 (Ac c) r.1 r.2 w
def dcK (gs:List Ch) (rs:List Ra) (w:List Int):Prop:=∀j,0≤j→j<(gs.length:Int)→okC (bC gs j) (kJ rs j) (gi w j)=true
theorem FV {gs:List Ch}{l:List Le}{t n:Int}{am:List Int}:∀ {k:Nat},(dcL gs l t n am k).length≤k
 |0=>by simp [dcL]
 |k+1=>by
  have:=FV (gs:=gs) (l:=l) (t:=t) (n:=n) (am:=am) (k:=k)
  rw [dcL,List.length_append]
  split
  ·simp only [List.length_cons,List.length_nil];omega
  ·simp only [List.length_nil];omega
section
variable (cs : List Cd) (os : List ByteArray) (ks : List Ko) (gs : List Ch) (bs : List Ba) (l : List Le) (rs : List Ra) (d : List Dm) (t n : Int)
def IE:List Int:=if Gf cs os ks gs bs l rs d t n=true then PS gs rs (RX cs os ks gs bs l d t) gs.length else []
def Xg:List Ra:=if Gf cs os ks gs bs l rs d t n=true then dcR gs rs (RX cs os ks gs bs l d t) gs.length else []
def deL:List Le:=if Gf cs os ks gs bs l rs d t n=true then dcL gs l t n (PS gs rs (RX cs os ks gs bs l d t) gs.length) gs.length else []
def deE:Int:=if Gf cs os ks gs bs l rs d t n=true then 0 else 1
end
section
variable {cs : List Cd} {os : List ByteArray} {ks : List Ko} {gs : List Ch} {bs : List Ba} {l : List Le} {rs : List Ra} {d : List Dm} {t n : Int}
structure Vd (cs:List Cd) (os:List ByteArray) (ks:List Ko) (gs:List Ch) (bs:List Ba) (l:List Le) (rs:List Ra) (d:List Dm) (t n:Int):Prop where
 site:fM cs os ks gs bs=true
 les:oV l=true
 rl:rs.length=gs.length
 dl:d.length=gs.length
 gl:gs.length≤16
 tb:0≤t∧t≤1000000
 nb:1≤n∧n≤999900
 co:below gs.length l=true
 ra:∀j:Int,0≤j→j<(gs.length:Int)→RI (bC gs j) (kJ rs j)=true
 dm:∀j:Int,0≤j→j<(gs.length:Int)→U8 (qI d j)=true
 ch:∀j:Int,0≤j→j<(gs.length:Int)→chW (bC gs j)=true
theorem aqt (h:Gf cs os ks gs bs l rs d t n=true):Vd cs os ks gs bs l rs d t n:=by
 unfold Gf at h
 simp only [Bool.and_eq_true,decide_eq_true_eq,dN] at h
 obtain ⟨⟨h1,h2⟩,⟨h3,h4,h5,h6⟩,h7,h8⟩:=h
 have hj:∀j:Int,0≤j→j<(gs.length:Int)→RI (bC gs j) (kJ rs j)=true∧U8 (qI d j)=true:=fun j h0 hj=>by
  have:=fU.1 h8 j.toNat (by omega)
  rw [Int.toNat_of_nonneg h0,Bool.and_eq_true] at this
  exact this
 exact ⟨h1,h2,h3,h4,(gq.1 h1).1.2.2.2.2.1,h5,h6,h7,fun j h0 h1=>(hj j h0 h1).1,fun j h0 h1=>(hj j h0 h1).2,fun j h0 hj=>by
  have:=su h1 h0 hj
  unfold FW at this
  simp only [Bool.and_eq_true] at this
  exact this.2.2⟩
theorem Xh {c:Ch}(h:chW c=true):(1≤c.2.2.1∧c.2.2.1≤7)∧(1≤c.2.2.2.1∧c.2.2.2.1≤c.2.2.2.2.1)∧c.2.2.2.2.1≤80∧(1≤c.2.2.2.2.2.1∧c.2.2.2.2.2.1≤80)∧0≤Ac c∧Ac c≤c.2.2.2.2.1:=by
 unfold chW at h
 unfold Ac
 simp only [Bool.and_eq_true,Bool.or_eq_true,dN,beq_iff_eq] at h
 omega
theorem aqh (hv:oV l=true) {m:Nat}:∀a∈Ub m l t,0≤a∧a≤80:=by
 have key:∀(l:List Le) (o:List Int),(∀x∈l,leV x=true)→(∀a∈o,0≤a∧a≤80)→∀a∈l.foldl kpA o,0≤a∧a≤80:=fun l=>by
  induction l with
  |nil=>exact fun o _ h=>h
  | cons x l ih=>
   intro o hl ho
   rw [List.foldl_cons]
   refine ih _ (fun y hy=>hl y (by simp [hy])) fun a ha=>?_
   have hx:=Pm.1 (hl x (by simp))
   rcases List.mem_or_eq_of_mem_set ha with ha|rfl
   ·exact ho a ha
   ·have:0≤gi o x.2.1∧gi o x.2.1≤80:=by
     by_cases h:x.2.1.toNat<o.length
     ·rw [pG h];exact ho _ (List.getElem_mem _)
     ·rw [aiJ (by omega)];omega
    unfold mx
    split<;>omega
 refine key _ _ (fun x hx=>(vT hv).2 x (List.mem_filter.1 hx).1) fun a ha=>?_
 rw [List.eq_of_mem_replicate ha]
 omega
theorem aaj (hd:d.length=gs.length):mG (jI d t) gs.length=true:=by
 unfold mG
 rw [RQ,hd,decide_eq_true rfl,Bool.true_and,Bool.and_eq_true,List.all_eq_true]
 refine ⟨fun x hx=>zD.2 (by have:=agw.1 hx;rw [hd] at this;exact this),G6.2 fun j hj hm=>?_⟩
 obtain ⟨k,hk,e⟩:=List.mem_iff_getElem.1 hm
 rw [List.length_take] at hk
 rw [List.getElem_take] at e
 have:=(List.pairwise_iff_getElem.1 (VQ (d:=d) (t:=t))) k j (by omega) hj (by omega)
 exact this e
theorem arG {l:List Int}{a b:Int}(hz:a≤0∧0≤b) (h:∀x∈l,a≤x∧x≤b) {j:Int}:a≤gi l j∧gi l j≤b:=by
 by_cases hj:j.toNat<l.length
 ·rw [pG hj];exact h _ (List.getElem_mem _)
 ·rw [aiJ (by omega)];exact hz
structure Si (cs:List Cd) (os:List ByteArray) (ks:List Ko) (gs:List Ch) (bs:List Ba) (d:List Dm):Prop where
 site:fM cs os ks gs bs=true
 dl:d.length=gs.length
theorem Si.ch (h:Si cs os ks gs bs d) {j:Int}(h0:0≤j) (hj:j<(gs.length:Int)):chW (bC gs j)=true:=by
 have:=su h.site h0 hj
 unfold FW at this
 simp only [Bool.and_eq_true] at this
 exact this.2.2
theorem Vd.si (h:Vd cs os ks gs bs l rs d t n):Si cs os ks gs bs d:=⟨h.site,h.dl⟩
theorem axC (h:Si cs os ks gs bs d):∀a∈mO gs,0≤a∧a≤80:=fun a ha=>by
 obtain ⟨j,⟨h0,h1⟩,rfl⟩:=Hz ha
 have:=Xh (h.ch h0 h1)
 omega
theorem asY (h:Si cs os ks gs bs d):∀a∈oU gs d,0≤a∧a≤80:=fun a ha=>by
 obtain ⟨j,⟨h0,h1⟩,rfl⟩:=Hz ha
 have:=Xh (h.ch h0 h1)
 split<;>omega
theorem ajy (h:Vd cs os ks gs bs l rs d t n):∀a∈xX gs l t,0≤a∧a≤80:=fun a ha=>by
 obtain ⟨j,⟨h0,h1⟩,rfl⟩:=Hz ha
 have:=Xh (h.ch j h0 h1)
 have:=arG (j:=j) ⟨Int.le_refl 0,by decide⟩ (aqh h.les (m:=gs.length) (t:=t))
 unfold mx
 split<;>omega
theorem ae9 {al mo od:List Int}(hk:qH cs os ks gs bs al mo od=true):(wS cs os ks gs bs al mo od).length=gs.length∧∀j,0≤j→j<(gs.length:Int)→(0≤gi (wS cs os ks gs bs al mo od) j∧gi (wS cs os ks gs bs al mo od) j≤80)∧gi (wS cs os ks gs bs al mo od) j≤gi mo j:=by
 have H:=ae6 hk
 rw [ae8 hk]
 refine ⟨TW,fun j h0 h1=>?_⟩
 obtain ⟨_,_,_,e4,e5⟩:=axE H (ahW H) h0 h1
 have h3:=(azh H h0 h1 ((ahW H).2 j h0 h1).1 ((ahW H).2 j h0 h1).2).2 (ahV H h0 h1)
 rw [um h0 h1] at e4 e5⊢
 exact ⟨⟨e4,e5⟩,h3⟩
theorem Zt {al mo od:List Int}(hk:qH cs os ks gs bs al mo od=true):(wS cs os ks gs bs al mo od).length=gs.length∧∀a∈wS cs os ks gs bs al mo od,0≤a∧a≤80:=by
 obtain ⟨h1,h2⟩:=ae9 hk
 refine ⟨h1,fun a ha=>?_⟩
 obtain ⟨j,hj,rfl⟩:=ahQ ha
 rw [h1] at hj
 exact (h2 j hj.1 hj.2).1
theorem YJ (h:Si cs os ks gs bs d):qH cs os ks gs bs (mO gs) (oU gs d) (jI d t)=true:=
 iP.2 ⟨h.site,bW,bW,List.all_eq_true.2 fun a ha=>oC.2 (axC h a ha),List.all_eq_true.2 fun a ha=>oC.2 (asY h a ha),aaj h.dl⟩
theorem aeT (h:Si cs os ks gs bs d):(YK cs os ks gs bs d t).length=gs.length∧∀a∈YK cs os ks gs bs d t,0≤a∧a≤80:=by
 exact Zt (YJ (t:=t) h)
theorem ZW (h:Vd cs os ks gs bs l rs d t n):qH cs os ks gs bs (xX gs l t) (YK cs os ks gs bs d t) (jI d t)=true:=
 iP.2 ⟨h.site,bW,(aeT h.si).1,List.all_eq_true.2 fun a ha=>oC.2 (ajy h a ha),List.all_eq_true.2 fun a ha=>oC.2 ((aeT h.si).2 a ha),aaj h.dl⟩
theorem aqS (h:Vd cs os ks gs bs l rs d t n):(RX cs os ks gs bs l d t).length=gs.length∧∀a∈RX cs os ks gs bs l d t,0≤a∧a≤80:=by
 exact Zt (ZW h)
theorem aqR (h:Vd cs os ks gs bs l rs d t n) {j:Int}:0≤gi (RX cs os ks gs bs l d t) j∧gi (RX cs os ks gs bs l d t) j≤80:=arG ⟨Int.le_refl 0,by decide⟩ (aqS h).2
theorem ajk (h:Vd cs os ks gs bs l rs d t n):dcK gs rs (RX cs os ks gs bs l d t):=fun j j0 j1=>by
 have hr:=h.ra j j0 j1
 have hb:=aqR h (j:=j)
 unfold RI at hr
 unfold okC okB
 rw [hr,decide_eq_true hb.1,decide_eq_true hb.2]
 rfl
theorem abN (h:Vd cs os ks gs bs l rs d t n):Dp l gs.length t=true:=by
 have:=h.gl
 have:=h.tb
 unfold Dp
 rw [h.les,dN.2 ⟨by omega,by omega⟩,dN.2 ⟨by omega,by omega⟩,h.co]
 rfl
theorem ayW (h:Vd cs os ks gs bs l rs d t n):xQ d t∧d.length≤19:=by
 refine ⟨⟨fun x hx=>?_,by have:=h.tb;omega,by have:=h.tb;omega⟩,by have:=h.gl;have:=h.dl;omega⟩
 obtain ⟨k,hk,rfl⟩:=List.mem_iff_getElem.1 hx
 have:=h.dm k (by omega) (by rw [←h.dl];omega)
 unfold U8 qI at this
 rw [vV (by simpa using hk)] at this
 simp only [Bool.and_eq_true,dN,Int.toNat_natCast] at this
 omega
end
end Go.Proofs.YtlihnbimgclogaaGreatDoor
namespace Go.Proofs.YtlihnbimgclogaaGreatDoor
open Go.Sx
def acf:List LV→T LV
 | [.agg [.xl (.pair .str (.pair (.int .i64) (.pair (.int .i64) (.pair (.int .i64) (.pair (.pair (.int .i64) (.int .i64)) (.pair (.int .i64) (.pair (.int .i64) (.pair (.int .i64) (.pair (.int .i64) (.int .i64)))))))))) cs,.xl (.str) os,.xl (.pair .str (.pair (.int .i64) (.pair (.int .i64) (.int .i64)))) ks,.xl (.pair .str (.pair (.int .i64) (.pair (.int .i64) (.pair (.int .i64) (.pair (.int .i64) (.pair (.int .i64) (.pair (.int .i64) (.int .i64)))))))) gs,.xl (.pair .str (.int .i64)) bs],.xl (.pair (.int .i64) (.pair (.int .i64) (.pair (.int .i64) (.pair (.int .i64) (.int .i64))))) l,.xl (.pair (.int .i64) (.int .i64)) rs,.xl (.pair .bool (.pair (.int .i64) (.pair (.int .i64) (.int .i64)))) d]=> .ok (.v (.bool (aph cs os ks gs bs l rs d)))
 |_=> .no
noncomputable def XO:List LV→T LV:=gB Tryz.prog Tryz.f12.params.toList acf
noncomputable def ai0:Specs:=aZ [(34,XJ)]
theorem awV:∀g S,ai0 g=some S→Valid Tryz.prog aP g S:=aS (l:=[(34,XJ)]) ⟨atf,trivial⟩
theorem an9 (cs:List Cd) (os:List ByteArray) (ks:List Ko) (gs:List Ch) (bs:List Ba) (l:List Le) (rs:List Ra) (d:List Dm):bT Tryz.prog aP (ai0) eu aB Tryz.f12 [.agg [.xl dX cs,.xl .str os,.xl dY ks,.xl dS gs,.xl dZ bs],.xl ng l,.xl Fg rs,.xl qG d]=.ok (.v (.bool ((decide (List.length cs≤40∧List.length os≤40∧List.length ks≤40∧List.length gs≤40∧List.length bs≤40))&&((decide ((List.length l:Int)≤100))&&((decide ((List.length rs:Int)≤40))&&(decide ((List.length d:Int)≤40))))))):=by kernel_rfl
theorem atj:Valid Tryz.prog aP 12 XO:=aH Tryz.func12 rfl awV aF (aW (by kernel_rfl)) (fun args lv h=>by
 unfold acf at h
 split at h
 ·simp only [canL,canX]
  rw [an9]
  exact h
 ·cases h)
structure lQ where
 m:List Le
 GH:List Ra
 d:List Dm
 r:Bool
 n:Int
 i:Int
 ah:List Cd
 aA:List ByteArray
 ai:List Ko
 ak:List Ch
 aJ:List Ba
def aDF (s:lQ):List LV:=[.xl ng s.m,.xl Fg s.GH,.xl qG s.d,.own 0 0,.v (.bool s.r),.v (.int .i64 s.n),.v (.int .i64 s.i)]
def aCE (s:lQ):List aU:=[⟨[.xl dX s.ah,.xl .str s.aA,.xl dY s.ai,.xl dS s.ak,.xl dZ s.aJ],28,.cl,false⟩]
noncomputable def BA:Code:=((aC (Tryz.f22.body.getD .skip))[0]?).getD .skip
def Zc (s:lQ):T (Rd lQ):=
 .br (decide (s.i<(List.length s.m:Int))) (.req (0≤s.i∧s.i<(List.length s.m:Int)) (.br (decide ((gZ s.m s.i).2.1≥s.n)) (.ok (.stop (.ret) {s with r:=false})) (.ok (.next {s with i:=(IntKind.i64.wrap (s.i+1))})))) (.ok (.stop (.exit 0) s))
abbrev asq (s:lQ):=(Zc s).rd s
def Jw (s:lQ) (j:Int):Bool:=decide ((gZ s.m j).2.1<s.n)
def ado (s:lQ):Prop:=s.i=0∧0≤(List.length s.m:Int)∧(List.length s.m:Int)≤1000∧True
def ML (s:lQ):Prop:=0≤s.i∧s.i≤(List.length s.m:Int)∧(List.length s.m:Int)≤1000∧(True)∧∀j:Nat,(j:Int)<s.i→Jw s j=true
def OO (s:lQ):Nat:=((List.length s.m:Int)-s.i).toNat
def akC (x:Ex) (_ s':lQ):Prop:=(x=.exit 0∧∀j:Nat,(j:Int)<(List.length s'.m:Int)→Jw s' j=true)∨(x=.ret∧s'.r=false∧∃j:Nat,(j:Int)<(List.length s'.m:Int)∧Jw s' j=false)
theorem aBl:∀s,ado s→ML s:=by
 intro s h
 obtain ⟨h0,h1,h2,h3⟩:=h
 exact ⟨by omega,by omega,h2,h3,fun j hj=>by omega⟩
theorem axc (s:lQ) (hI:ML s):bJ (fun s'=>ML s'∧OO s'<OO s) (fun x s'=>akC x s s') (asq s):=by
 unfold asq Zc
 dsimp only [T.rd,T.rl]
 obtain ⟨h0,h1,h2,h3,h4⟩:=hI
 refine au (fun c1=>au (fun c2=>?_) (fun c2=>?_)) (fun c1=>?_)
 ·have c1:s.i<(List.length s.m:Int):=by simpa using c1
  refine .inr ⟨rfl,rfl,s.i.toNat,by simp only;omega,?_⟩
  rw [Int.toNat_of_nonneg (by omega)]
  have hg:Jw s s.i=false:=by unfold Jw;(simp only [decide_eq_true_eq,decide_eq_false_iff_not] at c2⊢;omega)
  exact hg
 ·have c1:s.i<(List.length s.m:Int):=by simpa using c1
  have hg:Jw s s.i=true:=by unfold Jw;(simp only [decide_eq_true_eq,decide_eq_false_iff_not] at c2⊢;omega)
  rw [aK (x:=s.i+1) (by omega) (by omega)]
  refine ⟨⟨by simp only;omega,by simp only;omega,h2,h3,fun j hj=>?_⟩,by simp only [OO];omega⟩
  by_cases hji:(j:Int)<s.i
  ·exact h4 j hji
  ·have:(j:Int)=s.i:=by simp only at hj;omega
   rw [this];exact hg
 ·have c1:(List.length s.m:Int)≤s.i:=by simpa using c1
  exact .inl ⟨rfl,fun j hj=>h4 j (by omega)⟩
def ET:bK lQ:=⟨0,119,[1,2,3,6,12,13,14],[],aDF,aCE,fun v b=>⟨aQ ng (v.getD 0 .junk),aQ Fg (v.getD 1 .junk),aQ qG (v.getD 2 .junk),vg (v.getD 4 .junk),gI (v.getD 5 .junk),gI (v.getD 6 .junk),aQ dX (aX (aO b 0) 0),aQ .str (aX (aO b 0) 1),aQ dY (aX (aO b 0) 2),aQ dS (aX (aO b 0) 3),aQ dZ (aX (aO b 0) 4)⟩,Zc,fun s r=> {r with m:=s.m,GH:=s.GH,d:=s.d,n:=s.n,ah:=s.ah,aA:=s.aA,ai:=s.ai,ak:=s.ak,aJ:=s.aJ},fun s=>s,fun _ s=>s,[.ret,.exit 0],ado,ML,OO⟩
abbrev wX:=ET.run
abbrev abu:=ET.jJ
abbrev ayz:=ET.q
theorem avg (s:lQ) (hI:ML s):(Zc s).all (fun _=>True):=by
 refine ⟨fun c1=>⟨?_,fun _=>trivial,fun _=>trivial⟩,fun _=>trivial⟩
 ·(obtain ⟨h0,h1,h2,h3,h4⟩:=hI;simp at c1;omega)
noncomputable def Px:Specs:=aZ [(49,XG),(50,Jb),(51,XQ)]
theorem WT:∀g S,Px g=some S→Valid Tryz.prog aP g S:=aS (l:=[(49,XG),(50,Jb),(51,XQ)]) ⟨atc,aeP,atn,trivial⟩
theorem ahf:ET.Ok:=⟨fun s=>by kernel_rfl,fun s=>by kernel_rfl,fun s=>rfl,fun s t r=>rfl,fun s=>rfl,fun s=>by kernel_rfl⟩
theorem af8:ET.Pf (akC):=⟨aBl,fun _ _=>rfl,axc,avg⟩
theorem ams:bg Tryz.prog aP (AN 0) (.loop BA) ET.lp:=bK.snd ahf af8 (aT (Γ:=Px) (K:=eu) (L:=aB) WT aF BA (fun b hb=>by rw [show aC BA=[] by kernel_rfl] at hb;cases hb)) (fun s=>by kernel_rfl)
theorem apU (s:lQ) (hE:ado s):∃s',ML s'∧akC (abu s) s' (wX s):=bK.fin ahf af8 s hE
structure oO where
 rs:List Ra
 d:List Dm
 r:Bool
 n:Int
 i:Int
 ah:List Cd
 aA:List ByteArray
 ai:List Ko
 ak:List Ch
 aJ:List Ba
def aDE (s:oO):List LV:=[.xl Fg s.rs,.xl qG s.d,.own 0 0,.v (.bool s.r),.v (.int .i64 s.n),.v (.int .i64 s.i)]
def aCD (s:oO):List aU:=[⟨[.xl dX s.ah,.xl .str s.aA,.xl dY s.ai,.xl dS s.ak,.xl dZ s.aJ],28,.cl,false⟩]
noncomputable def Bz:Code:=((aC (Tryz.f22.body.getD .skip))[1]?).getD .skip
def Zb (s:oO):T (Rd oO):=
 .br (decide (s.i<s.n)) (.req (0≤s.i∧s.i<(List.length s.d:Int)) (.req (0≤s.i∧s.i<(List.length s.ak:Int)) (.req (0≤s.i∧s.i<(List.length s.rs:Int)) (.br ((!(JO (bC s.ak s.i).2.2.1 (bC s.ak s.i).2.2.2.1 (bC s.ak s.i).2.2.2.2.1 (bC s.ak s.i).2.2.2.2.2.1 (bC s.ak s.i).2.2.2.2.2.2.1 (kJ s.rs s.i).1 (kJ s.rs s.i).2)) ||((decide ((qI s.d s.i).2.1<0)) ||((decide ((qI s.d s.i).2.1>1000000000)) ||((decide ((qI s.d s.i).2.2.1<0)) ||((decide ((qI s.d s.i).2.2.1>1000000)) ||((decide ((qI s.d s.i).2.2.2<1)) ||(decide ((qI s.d s.i).2.2.2>9)))))))) (.ok (.stop (.ret) {s with r:=false})) (.ok (.next {s with i:=(IntKind.i64.wrap (s.i+1))})))))) (.ok (.stop (.exit 2) s))
abbrev aso (s:oO):=(Zb s).rd s
def Jv (s:oO) (j:Int):Bool:=RI (bC s.ak j) (kJ s.rs j)&&U8 (qI s.d j)
def adn (s:oO):Prop:=s.i=0∧0≤s.n∧s.n≤1000∧s.n=(s.ak.length:Int)∧s.rs.length=s.ak.length∧s.d.length=s.ak.length
def MK (s:oO):Prop:=0≤s.i∧s.i≤s.n∧s.n≤1000∧(s.n=(s.ak.length:Int)∧s.rs.length=s.ak.length∧s.d.length=s.ak.length)∧∀j:Nat,(j:Int)<s.i→Jv s j=true
def OM (s:oO):Nat:=(s.n-s.i).toNat
def akB (x:Ex) (_ s':oO):Prop:=(x=.exit 2∧∀j:Nat,(j:Int)<s'.n→Jv s' j=true)∨(x=.ret∧s'.r=false∧∃j:Nat,(j:Int)<s'.n∧Jv s' j=false)
theorem aBk:∀s,adn s→MK s:=by
 intro s h
 obtain ⟨h0,h1,h2,h3⟩:=h
 exact ⟨by omega,by omega,h2,h3,fun j hj=>by omega⟩
theorem axb (s:oO) (hI:MK s):bJ (fun s'=>MK s'∧OM s'<OM s) (fun x s'=>akB x s s') (aso s):=by
 unfold aso Zb
 dsimp only [T.rd,T.rl]
 obtain ⟨h0,h1,h2,h3,h4⟩:=hI
 refine au (fun c1=>au (fun c2=>?_) (fun c2=>?_)) (fun c1=>?_)
 ·have c1:s.i<s.n:=by simpa using c1
  refine .inr ⟨rfl,rfl,s.i.toNat,by simp only;omega,?_⟩
  rw [Int.toNat_of_nonneg (by omega)]
  have hg:Jv s s.i=false:=by unfold Jv;(rw [vbE] at c2;first|exact NS c2|exact ntW c2)
  exact hg
 ·have c1:s.i<s.n:=by simpa using c1
  have hg:Jv s s.i=true:=by unfold Jv;(rw [vbE] at c2;first|exact NS c2|exact ntW c2)
  rw [aK (x:=s.i+1) (by omega) (by omega)]
  refine ⟨⟨by simp only;omega,by simp only;omega,h2,h3,fun j hj=>?_⟩,by simp only [OM];omega⟩
  by_cases hji:(j:Int)<s.i
  ·exact h4 j hji
  ·have:(j:Int)=s.i:=by simp only at hj;omega
   rw [this];exact hg
 ·have c1:s.n≤s.i:=by simpa using c1
  exact .inl ⟨rfl,fun j hj=>h4 j (by omega)⟩
def ES:bK oO:=⟨0,119,[2,3,6,12,13,15],[],aDE,aCD,fun v b=>⟨aQ Fg (v.getD 0 .junk),aQ qG (v.getD 1 .junk),vg (v.getD 3 .junk),gI (v.getD 4 .junk),gI (v.getD 5 .junk),aQ dX (aX (aO b 0) 0),aQ .str (aX (aO b 0) 1),aQ dY (aX (aO b 0) 2),aQ dS (aX (aO b 0) 3),aQ dZ (aX (aO b 0) 4)⟩,Zb,fun s r=> {r with rs:=s.rs,d:=s.d,n:=s.n,ah:=s.ah,aA:=s.aA,ai:=s.ai,ak:=s.ak,aJ:=s.aJ},fun s=>s,fun _ s=>s,[.ret,.exit 2],adn,MK,OM⟩
abbrev ZH:=ES.run
abbrev abt:=ES.jJ
abbrev ayy:=ES.q
theorem avf (s:oO) (hI:MK s):(Zb s).all (fun _=>True):=by
 refine ⟨fun c1=>⟨?_,?_,?_,fun _=>trivial,fun _=>trivial⟩,fun _=>trivial⟩
 all_goals ((obtain ⟨h0,h1,h2,h3,h4⟩:=hI;obtain ⟨h3,h5,h6⟩:=h3;simp at c1;omega))
theorem ahe:ES.Ok:=⟨fun s=>by kernel_rfl,fun s=>by kernel_rfl,fun s=>rfl,fun s t r=>rfl,fun s=>rfl,fun s=>by kernel_rfl⟩
theorem af7:ES.Pf (akB):=⟨aBk,fun _ _=>rfl,axb,avf⟩
theorem amr:bg Tryz.prog aP (AN 0) (.loop Bz) ES.lp:=bK.snd ahe af7 (aT (Γ:=Px) (K:=eu) (L:=aB) WT aF Bz (fun b hb=>by rw [show aC Bz=[] by kernel_rfl] at hb;cases hb)) (fun s=>by kernel_rfl)
theorem apT (s:oO) (hE:adn s):∃s',MK s'∧akB (abt s) s' (ZH s):=bK.fin ahe af7 s hE
def ace:List LV→T LV
 | [.agg [.xl (.pair .str (.pair (.int .i64) (.pair (.int .i64) (.pair (.int .i64) (.pair (.pair (.int .i64) (.int .i64)) (.pair (.int .i64) (.pair (.int .i64) (.pair (.int .i64) (.pair (.int .i64) (.int .i64)))))))))) cs,.xl (.str) os,.xl (.pair .str (.pair (.int .i64) (.pair (.int .i64) (.int .i64)))) ks,.xl (.pair .str (.pair (.int .i64) (.pair (.int .i64) (.pair (.int .i64) (.pair (.int .i64) (.pair (.int .i64) (.pair (.int .i64) (.int .i64)))))))) gs,.xl (.pair .str (.int .i64)) bs],.xl (.pair (.int .i64) (.pair (.int .i64) (.pair (.int .i64) (.pair (.int .i64) (.int .i64))))) l,.xl (.pair (.int .i64) (.int .i64)) rs,.xl (.pair .bool (.pair (.int .i64) (.pair (.int .i64) (.int .i64)))) d,.v (.int .i64 t),.v (.int .i64 n)]=> .req (nmR (gJ cs os ks gs bs)∧(List.length l:Int)≤1000) (.ok (.v (.bool (Gf cs os ks gs bs l rs d t n))))
 |_=> .no
noncomputable def XM:List LV→T LV:=gB Tryz.prog Tryz.f22.params.toList ace
theorem an8 (cs:List Cd) (os:List ByteArray) (ks:List Ko) (gs:List Ch) (bs:List Ba) (l:List Le) (rs:List Ra) (d:List Dm) (t n:Int):bT Tryz.prog aP (Px) eu (fun i=>if i=5 then ET.lp else if i=10 then ES.lp else aB i) Tryz.f22 [.agg [.xl dX cs,.xl .str os,.xl dY ks,.xl dS gs,.xl dZ bs],.xl ng l,.xl Fg rs,.xl qG d,.v (.int .i64 t),.v (.int .i64 n)]=.req (nmR (gJ cs os ks gs bs)) (.br (!(fM cs os ks gs bs)) (.ok (.v (.bool false))) (.req ((List.length l:Int)≤1000) (.br ((!(oV l)) ||(((List.length rs:Int) !=(List.length gs:Int)) ||(((List.length d:Int) !=(List.length gs:Int)) ||((decide (t<0)) ||((decide (t>1000000)) ||((decide (n<1)) ||(decide (n>999900)))))))) (.ok (.v (.bool false))) (.req (ayz (⟨l,rs,d,false,(List.length gs:Int),(0:Int),cs,os,ks,gs,bs⟩:lQ)) (.br (iy (abu (⟨l,rs,d,false,(List.length gs:Int),(0:Int),cs,os,ks,gs,bs⟩:lQ)) (.ret)) (.ok (.v (.bool (wX (⟨l,rs,d,false,(List.length gs:Int),(0:Int),cs,os,ks,gs,bs⟩:lQ)).r))) (.req (ayy (⟨rs,d,(wX (⟨l,rs,d,false,(List.length gs:Int),(0:Int),cs,os,ks,gs,bs⟩:lQ)).r,(List.length gs:Int),(0:Int),cs,os,ks,gs,bs⟩:oO)) (.br (iy (abt (⟨rs,d,(wX (⟨l,rs,d,false,(List.length gs:Int),(0:Int),cs,os,ks,gs,bs⟩:lQ)).r,(List.length gs:Int),(0:Int),cs,os,ks,gs,bs⟩:oO)) (.ret)) (.ok (.v (.bool (ZH (⟨rs,d,(wX (⟨l,rs,d,false,(List.length gs:Int),(0:Int),cs,os,ks,gs,bs⟩:lQ)).r,(List.length gs:Int),(0:Int),cs,os,ks,gs,bs⟩:oO)).r))) (.ok (.v (.bool true)))))))))):=by kernel_rfl
theorem ati:Valid Tryz.prog aP 22 XM:=aH Tryz.func22 rfl WT aF (L:=(fun i=>if i=5 then ET.lp else if i=10 then ES.lp else aB i)) (fun b hb=>by
 rw [show aC _=[BA,Bz] by kernel_rfl] at hb
 simp only [List.mem_cons,List.not_mem_nil,or_false] at hb
 rcases hb with rfl|rfl
 ·exact ams
 ·exact amr) (fun args lv h=>by
 unfold ace at h
 split at h
 ·simp only [canL,canX]
  rw [an8]
  rename_i cs os ks gs bs l rs d t n
  obtain ⟨⟨hn,hl⟩,rfl⟩:=h
  have bad:Gf cs os ks gs bs l rs d t n=false→LV.v (.bool false)=LV.v (.bool (Gf cs os ks gs bs l rs d t n)):=fun h=>by rw [h]
  refine ⟨hn,fun c=>bad (by unfold Gf;rw [ntW c];rfl),fun c=>⟨hl,?_⟩⟩
  have c:=NS c
  rw [neN,neN,ao6,ao7,←Bool.not_and,←Bool.not_and,←Bool.not_and,←Bool.not_and]
  refine ⟨fun c2=>bad ?_,fun c2=>?_⟩
  ·unfold Gf
   rw [c,Bool.true_and,←Bool.and_assoc,ntW c2,Bool.false_and]
  have c2:=NS c2
  have c2':=c2
  simp only [Bool.and_eq_true,decide_eq_true_eq] at c2'
  have hg:=(gq.1 c).1.2.2.2.2.1
  have hE:ado ⟨l,rs,d,false,(List.length gs:Int),0,cs,os,ks,gs,bs⟩:=⟨rfl,by simp only;omega,hl,trivial⟩
  have ev:Gf cs os ks gs bs l rs d t n=(below gs.length l&&JL gs.length (fun j=>RI (bC gs j) (kJ rs j)&&U8 (qI d j))):=by
   unfold Gf
   rw [c,Bool.true_and,←Bool.and_assoc,c2,Bool.true_and]
  refine ⟨⟨hE,rfl,rfl⟩,?_⟩
  obtain ⟨_,_,hq⟩:=apU _ hE
  have eb:below gs.length l=JL l.length (fun j=>decide ((gZ l j).2.1<(gs.length:Int))):=by
   rw [Bool.eq_iff_iff,fU]
   exact (iO (d:=(0,0,0,0,0)) (p:=fun x:Le=>decide (x.2.1<(gs.length:Int)))).symm
  rcases hq with ⟨q1,q2⟩ |⟨q1,q2,j,q3,q4⟩<;>rw [q1]
  rotate_left
  ·rw [q2]
   exact ⟨fun _=>bad (by rw [ev,eb,tN (n:=l.length) (f:=fun j=>decide ((gZ l j).2.1<(gs.length:Int))) j q3 q4];rfl),fun h=>by cases h⟩
  refine ⟨fun h=>(by cases h),fun _=>?_⟩
  have g0:below gs.length l=true:=by rw [eb];exact fU.2 q2
  have hE2:adn ⟨rs,d,(wX ⟨l,rs,d,false,(List.length gs:Int),0,cs,os,ks,gs,bs⟩).r,(List.length gs:Int),0,cs,os,ks,gs,bs⟩:=⟨rfl,by simp only;omega,by simp only;omega,rfl,c2'.2.1,c2'.2.2.1⟩
  refine ⟨⟨hE2,rfl,rfl⟩,?_⟩
  obtain ⟨_,_,hq⟩:=apT _ hE2
  rcases hq with ⟨q5,q6⟩ |⟨q5,q6,j,q7,q8⟩<;>rw [q5]
  ·exact ⟨fun h=>(by cases h),fun _=>by rw [ev,g0,(fU (f:=fun j=>RI (bC gs j) (kJ rs j)&&U8 (qI d j))).2 q6];rfl⟩
  ·rw [q6]
   exact ⟨fun _=>bad (by rw [ev,tN (n:=gs.length) (f:=fun j=>RI (bC gs j) (kJ rs j)&&U8 (qI d j)) j q7 q8,Bool.and_false]),fun h=>by cases h⟩
 ·cases h)
end Go.Proofs.YtlihnbimgclogaaGreatDoor
namespace Go.Proofs.YtlihnbimgclogaaGreatDoor
open Go.Sx
def aj3:List LV→T LV
 | [.v (.int .i64 r),.v (.int .i64 m)]=> .req ((0≤r∧r≤1000000)∧0≤m∧m≤3000000) (.ok (.v (.int .i64 (m*r / 1000000))))
 |_=> .no
noncomputable def ajM:List LV→T LV:=gB Tryz.prog Tryz.f156.params.toList aj3
noncomputable def aiP:Specs:=aZ []
theorem arz:∀g S,aiP g=some S→Valid Tryz.prog aP g S:=aS (l:=[]) trivial
theorem awk (r m:Int):bT Tryz.prog aP (aiP) eu aB Tryz.f156 [.v (.int .i64 r),.v (.int .i64 m)]=.req ((1000000:Int)≠0) (.ok (.v (.int .i64 (IntKind.i64.wrap ((IntKind.i64.wrap (m*r)).tdiv 1000000))))):=by kernel_rfl
theorem azd:Valid Tryz.prog aP 156 ajM:=aH Tryz.func156 rfl arz aF (aW (by kernel_rfl)) (fun args lv h=>by
 unfold aj3 at h
 split at h
 ·simp only [canL,canX]
  rw [awk]
  rename_i r m
  obtain ⟨⟨hr,hm⟩,rfl⟩:=h
  have h1:=aEb (a:=m) (b:=r) hm.1 hm.2 hr.1 hr.2
  have h2:0≤m*r / 1000000∧m*r / 1000000≤m*r:=by omega
  refine ⟨by omega,congrArg (fun z=>LV.v (.int .i64 z)) ?_⟩
  rw [aK (x:=m*r) (by omega) (by omega),Int.tdiv_eq_ediv_of_nonneg h1.1,aK (by omega) (by omega)]
 ·cases h)
def acG:List LV→T LV
 | [.v (.int .i64 n)]=> .ok (.v (.bool (inB n 0 1000000)))
 |_=> .no
noncomputable def Yb:List LV→T LV:=gB Tryz.prog Tryz.f154.params.toList acG
theorem aov (n:Int):bT Tryz.prog aP (aiP) eu aB Tryz.f154 [.v (.int .i64 n)]=.ok (.v (.bool ((decide (n≥0))&&(decide (n≤1000000))))):=by kernel_rfl
theorem atG:Valid Tryz.prog aP 154 Yb:=aH Tryz.func154 rfl arz aF (aW (by kernel_rfl)) (fun args lv h=>by
 unfold acG at h
 split at h
 ·simp only [canL,canX]
  rw [aov]
  exact h
 ·cases h)
structure qF where
 low:Int
 high:Int
 r:Int
 n:Int
def aDw (s:qF):List LV:=[.v (.int .i64 s.low),.v (.int .i64 s.high),.fn 162 [.own 1 0,.own 0 0,.own 2 0]]
def aCv (s:qF):List aU:=[⟨[.v (.int .i64 s.r)],202,.cl,false⟩,⟨[.fn 156 []],203,.cl,false⟩,⟨[.v (.int .i64 s.n)],3,.cl,false⟩]
noncomputable def TL:Code:=((aC (Tryz.f161.body.getD .skip))[0]?).getD .skip
def Y7 (s:qF):T (Rd qF):=
 .br (decide (s.low<s.high)) (.req ((2:Int)≠0) (.req ((0≤s.r∧s.r≤1000000)∧0≤(IntKind.i64.wrap (s.low+(IntKind.i64.wrap ((IntKind.i64.wrap (s.high-s.low)).tdiv 2))))∧(IntKind.i64.wrap (s.low+(IntKind.i64.wrap ((IntKind.i64.wrap (s.high-s.low)).tdiv 2))))≤3000000) (.br (decide (((IntKind.i64.wrap (s.low+(IntKind.i64.wrap ((IntKind.i64.wrap (s.high-s.low)).tdiv 2))))*s.r / 1000000)≥s.n)) (.ok (.next {s with high:=(IntKind.i64.wrap (s.low+(IntKind.i64.wrap ((IntKind.i64.wrap (s.high-s.low)).tdiv 2))))})) (.ok (.next {s with low:=(IntKind.i64.wrap ((IntKind.i64.wrap (s.low+(IntKind.i64.wrap ((IntKind.i64.wrap (s.high-s.low)).tdiv 2))))+1))}))))) (.ok (.stop (.exit 0) s))
abbrev asi (s:qF):=(Y7 s).rd s
def adh (s:qF):Prop:=s.low=0∧s.high=2*s.n+2∧s.r=999800∧0≤s.n∧s.n≤1000000
def MC (s:qF):Prop:=(0≤s.low∧s.low≤wt s.n)∧(wt s.n≤s.high∧s.high≤2*s.n+2)∧s.r=999800∧0≤s.n∧s.n≤1000000
def Ho (s:qF):Nat:=(s.high-s.low).toNat
def akx (x:Ex) (_ s':qF):Prop:=x=.exit 0∧s'.low=wt s'.n
theorem aAq:∀s,adh s→MC s:=by
 intro s h
 obtain ⟨h0,h1,h2,h3,h4⟩:=h
 have:=aeC h3
 exact ⟨by omega,by omega,h2,h3,h4⟩
theorem awv (s:qF) (hI:MC s):bJ (fun s'=>MC s'∧Ho s'<Ho s) (fun x s'=>akx x s s') (asi s):=by
 unfold asi Y7
 dsimp only [T.rd,T.rl]
 obtain ⟨⟨h0,h1⟩,⟨h2,h3⟩,h4,h5,h6⟩:=hI
 refine au (fun c1=>?_) (fun c1=>?_)
 ·have c1:s.low<s.high:=by simpa using c1
  have hd:(s.high-s.low).tdiv 2=(s.high-s.low) / 2:=Int.tdiv_eq_ediv_of_nonneg (by omega)
  have hm:IntKind.i64.wrap (s.low+IntKind.i64.wrap ((IntKind.i64.wrap (s.high-s.low)).tdiv 2))=s.low+(s.high-s.low) / 2:=by
   rw [aK (x:=s.high-s.low) (by omega) (by omega),hd,aK (x:=(s.high-s.low) / 2) (by omega) (by omega),aK (by omega) (by omega)]
  rw [hm]
  refine au (fun c2=>?_) (fun c2=>?_)
  ·rw [decide_eq_true_eq,h4,aeB] at c2
   exact ⟨⟨⟨h0,h1⟩,⟨by simp only;omega,by simp only;omega⟩,h4,h5,h6⟩,by simp only [Ho];omega⟩
  ·rw [decide_eq_false_iff_not,h4,aeB] at c2
   rw [aK (x:=s.low+(s.high-s.low) / 2+1) (by omega) (by omega)]
   exact ⟨⟨⟨by simp only;omega,by simp only;omega⟩,⟨h2,h3⟩,h4,h5,h6⟩,by simp only [Ho];omega⟩
 ·have c1:s.high≤s.low:=by simpa using c1
  exact ⟨rfl,by omega⟩
def JF:bK qF:=⟨3,24,[0,1,2],[],aDw,aCv,fun v b=>⟨gI (v.getD 0 .junk),gI (v.getD 1 .junk),gI (aX (aO b 0) 0),gI (aX (aO b 2) 0)⟩,Y7,fun s r=> {r with r:=s.r,n:=s.n},fun s=>s,fun _ s=>s,[.exit 0],adh,MC,Ho⟩
abbrev ZE:=JF.run
abbrev apG:=JF.jJ
abbrev ayr:=JF.q
noncomputable def DV:Specs:=aZ [(154,Yb),(156,ajM)]
theorem Ih:∀g S,DV g=some S→Valid Tryz.prog aP g S:=aS (l:=[(154,Yb),(156,ajM)]) ⟨atG,azd,trivial⟩
noncomputable def aio:Hand:=inl Tryz.prog aP DV (lm Tryz.prog aP (DV) 20 2) 9
theorem aq1:dD Tryz.prog aP aio:=bP Ih (dR Ih) 9
theorem au7 (s:qF) (hI:MC s):(Y7 s).all (fun _=>True):=by
 refine ⟨fun c1=>⟨?_,?_,fun _=>trivial,fun _=>trivial⟩,fun _=>trivial⟩
 all_goals ((obtain ⟨⟨h0,h1⟩,⟨h2,h3⟩,h4,h5,h6⟩:=hI;simp only [decide_eq_true_eq] at c1;first|decide|(have hd:(s.high-s.low).tdiv 2=(s.high-s.low) / 2:=Int.tdiv_eq_ediv_of_nonneg (by omega);have hm:IntKind.i64.wrap (s.low+IntKind.i64.wrap ((IntKind.i64.wrap (s.high-s.low)).tdiv 2))=s.low+(s.high-s.low) / 2:=(by rw [aK (x:=s.high-s.low) (by omega) (by omega),hd,aK (x:=(s.high-s.low) / 2) (by omega) (by omega),aK (by omega) (by omega)]);rw [hm];omega)))
theorem ag7:JF.Ok:=⟨fun s=>by kernel_rfl,fun s=>by kernel_rfl,fun s=>rfl,fun s t r=>rfl,fun s=>rfl,fun s=>by kernel_rfl⟩
theorem afY:JF.Pf (akx):=⟨aAq,fun _ _=>rfl,awv,au7⟩
theorem aml:bg Tryz.prog aP (AN 3) (.loop TL) JF.lp:=bK.snd ag7 afY (bF (Γ:=DV) (K:=aio) (L:=(rY Tryz.prog aP DV aio 20 2)) Ih aq1 TL (fun b _=>dU Ih aq1 20 2 b)) (fun s=>by kernel_rfl)
theorem aoU (s:qF) (hE:adh s):∃s',MC s'∧akx (apG s) s' (ZE s):=bK.fin ag7 afY s hE
def abS:List LV→T LV
 | [.v (.int .i64 n)]=> .ok (.v (.tuple #[.int .i64 (wtA n),.int .i64 (wtE n)]))
 |_=> .no
noncomputable def XB:List LV→T LV:=gB Tryz.prog Tryz.f136.params.toList abS
noncomputable def ard:Hand:=inl Tryz.prog aP DV (kE 161 3 1 (JF.lp) (lm Tryz.prog aP (DV) 20 2)) 9
theorem aAE:dD Tryz.prog aP ard:=bP Ih (dF Tryz.func161 rfl (by kernel_rfl) aml (dR Ih)) 9
theorem anQ (n:Int):bT Tryz.prog aP (DV) ard aB Tryz.f136 [.v (.int .i64 n)]=.br (!(inB n 0 1000000)) (.ok (.v (.tuple #[.int .i64 0,.int .i64 1]))) (.req (ayr (⟨(0:Int),(IntKind.i64.wrap ((IntKind.i64.wrap (2*n))+2)),(999800:Int),n⟩:qF)) (.ok (.v (.tuple #[.int .i64 (ZE (⟨(0:Int),(IntKind.i64.wrap ((IntKind.i64.wrap (2*n))+2)),(999800:Int),n⟩:qF)).low,.int .i64 0])))):=by kernel_rfl
theorem as7:Valid Tryz.prog aP 136 XB:=aH Tryz.func136 rfl Ih aAE (aW (by kernel_rfl)) (fun args lv h=>by
 unfold abS at h
 split at h
 ·simp only [canL,canX]
  rw [anQ]
  rename_i n
  obtain rfl:=h
  refine ⟨fun c=>?_,fun c=>?_⟩
  ·have c:inB n 0 1000000=false:=ntW c
   unfold wtA wtE
   rw [c]
   rfl
  ·have c:inB n 0 1000000=true:=NS c
   have hb:=dN.1 c
   have hE:adh ⟨0,IntKind.i64.wrap (IntKind.i64.wrap (2*n)+2),999800,n⟩:=⟨rfl,by
    show IntKind.i64.wrap (IntKind.i64.wrap (2*n)+2)=2*n+2
    rw [aK (x:=2*n) (by omega) (by omega),aK (by omega) (by omega)],rfl,hb.1,hb.2⟩
   obtain ⟨_,_,_,q⟩:=aoU _ hE
   refine ⟨⟨hE,rfl,rfl⟩,?_⟩
   rw [q]
   unfold wtA wtE
   rw [if_pos c,if_pos c]
   exact rfl
 ·cases h)
end Go.Proofs.YtlihnbimgclogaaGreatDoor
namespace Go.Proofs.YtlihnbimgclogaaGreatDoor
open Go.Sx
def aj0:List LV→T LV
 | [.v (.int .i64 n),.v (.int .i64 a),.v (.int .i64 b)]=> .ok (.v (.bool (inB n a b)))
 |_=> .no
noncomputable def Uf:List LV→T LV:=gB Tryz.prog Tryz.f108.params.toList aj0
noncomputable def aiO:Specs:=aZ []
theorem arx:∀g S,aiO g=some S→Valid Tryz.prog aP g S:=aS (l:=[]) trivial
theorem awh (n a b:Int):bT Tryz.prog aP (aiO) eu aB Tryz.f108 [.v (.int .i64 n),.v (.int .i64 a),.v (.int .i64 b)]=.ok (.v (.bool ((decide (n≥a))&&(decide (n≤b))))):=by kernel_rfl
theorem aqv:Valid Tryz.prog aP 108 Uf:=aH Tryz.func108 rfl arx aF (aW (by kernel_rfl)) (fun args lv h=>by
 unfold aj0 at h
 split at h
 ·simp only [canL,canX]
  rw [awh]
  exact h
 ·cases h)
def acC:List LV→T LV
 | [.v (.agg ⟨[.int .i64 nu,.int .i64 co,.int .i64 am,.int .i64 fr,.int .i64 tk]⟩)]=> .ok (.v (.bool (leV (nu,co,am,fr,tk))))
 |_=> .no
noncomputable def X7:List LV→T LV:=gB Tryz.prog Tryz.f63.params.toList acC
noncomputable def arK:Specs:=aZ [(108,Uf)]
theorem aAU:∀g S,arK g=some S→Valid Tryz.prog aP g S:=aS (l:=[(108,Uf)]) ⟨aqv,trivial⟩
theorem aor (nu co am fr tk:Int):bT Tryz.prog aP (arK) eu aB Tryz.f63 [.v (.agg #[.int .i64 nu,.int .i64 co,.int .i64 am,.int .i64 fr,.int .i64 tk])]=.ok (.v (.bool ((inB nu (1:Int) (1000000:Int))&&((inB co (0:Int) (15:Int))&&((inB am (0:Int) (80:Int))&&((inB fr (0:Int) (1000000:Int))&&(inB tk (1:Int) (1000:Int)))))))):=by kernel_rfl
theorem atC:Valid Tryz.prog aP 63 X7:=aH Tryz.func63 rfl aAU aF (aW (by kernel_rfl)) (fun args lv h=>by
 unfold acC at h
 split at h
 ·simp only [canL,canX]
  rw [aor]
  exact h
 ·cases h)
def aj1:List LV→T LV
 | [.v (.agg ⟨[.int .i64 nu,.int .i64 co,.int .i64 am,.int .i64 fr,.int .i64 tk]⟩),.v (.agg ⟨[.int .i64 nu2,.int .i64 co2,.int .i64 am2,.int .i64 fr2,.int .i64 tk2]⟩)]=> .ok (.v (.bool (Tj (nu,co,am,fr,tk) (nu2,co2,am2,fr2,tk2))))
 |_=> .no
noncomputable def ajK:List LV→T LV:=gB Tryz.prog Tryz.f64.params.toList aj1
theorem awi (nu co am fr tk nu2 co2 am2 fr2 tk2:Int):bT Tryz.prog aP (aiO) eu aB Tryz.f64 [.v (.agg #[.int .i64 nu,.int .i64 co,.int .i64 am,.int .i64 fr,.int .i64 tk]),.v (.agg #[.int .i64 nu2,.int .i64 co2,.int .i64 am2,.int .i64 fr2,.int .i64 tk2])]=.ok (.v (.bool ((decide (nu2>nu))&&(decide (fr2≥fr))))):=by kernel_rfl
theorem azb:Valid Tryz.prog aP 64 ajK:=aH Tryz.func64 rfl arx aF (aW (by kernel_rfl)) (fun args lv h=>by
 unfold aj1 at h
 split at h
 ·simp only [canL,canX]
  rw [awi]
  exact h
 ·cases h)
def acD:List LV→T LV
 | [.v (.agg ⟨[.int .i64 nu,.int .i64 co,.int .i64 am,.int .i64 fr,.int .i64 tk]⟩)]=> .req ((0≤fr∧fr≤1000000)∧0≤tk∧tk≤1000000) (.ok (.v (.int .i64 (JS (nu,co,am,fr,tk)))))
 |_=> .no
noncomputable def X8:List LV→T LV:=gB Tryz.prog Tryz.f109.params.toList acD
noncomputable def arJ:Specs:=aZ [(136,XB)]
theorem aAT:∀g S,arJ g=some S→Valid Tryz.prog aP g S:=aS (l:=[(136,XB)]) ⟨as7,trivial⟩
theorem aos (nu co am fr tk:Int):bT Tryz.prog aP (arJ) eu aB Tryz.f109 [.v (.agg #[.int .i64 nu,.int .i64 co,.int .i64 am,.int .i64 fr,.int .i64 tk])]=.br ((wtE tk) !=0) (.ok (.v (.int .i64 fr))) (.ok (.v (.int .i64 (IntKind.i64.wrap ((IntKind.i64.wrap (fr+10))+(wtA tk)))))):=by kernel_rfl
theorem atD:Valid Tryz.prog aP 109 X8:=aH Tryz.func109 rfl aAT aF (aW (by kernel_rfl)) (fun args lv h=>by
 unfold acD at h
 split at h
 ·simp only [canL,canX]
  rw [aos]
  rename_i nu co am fr tk
  obtain ⟨⟨hf,ht⟩,rfl⟩:=h
  have c:inB tk 0 1000000=true:=dN.2 ht
  have hw:=aeC ht.1
  have ea:wtA tk=wt tk:=by unfold wtA;rw [if_pos c]
  have ee:wtE tk=0:=by unfold wtE;rw [if_pos c]
  rw [ea,ee,aK (x:=fr+10) (by omega) (by omega),aK (by omega) (by omega)]
  exact ⟨fun h=>(by cases h),fun _=>rfl⟩
 ·cases h)
structure pK where
 l:List Le
 r:Bool
 m:List Le
 n:Int
 i:Int
def aDu (s:pK):List LV:=[.xl ng s.l,.v (.bool s.r),.xl ng s.m,.v (.int .i64 s.n),.v (.int .i64 s.i)]
def aCt (_:pK):List aU:=[]
noncomputable def Bj:Code:=((aC (Tryz.f62.body.getD .skip))[0]?).getD .skip
def Y5 (s:pK):T (Rd pK):=
 .br (decide (s.i<s.n)) (.req (0≤s.i∧s.i<(List.length s.m:Int)) (.br (!(leV (gZ s.m s.i))) (.ok (.stop (.ret) {s with r:=false})) (.br (decide (s.i>0)) (.req (0≤(IntKind.i64.wrap (s.i-1))∧(IntKind.i64.wrap (s.i-1))<(List.length s.l:Int)) (.br (!(Tj (gZ s.l (IntKind.i64.wrap (s.i-1))) (gZ s.m s.i))) (.ok (.stop (.ret) {s with r:=false})) (.ok (.next {s with i:=(IntKind.i64.wrap (s.i+1))})))) (.ok (.next {s with i:=(IntKind.i64.wrap (s.i+1))}))))) (.ok (.stop (.exit 0) s))
abbrev asf (s:pK):=(Y5 s).rd s
def adf (s:pK):Prop:=s.i=0∧s.n=(List.length s.l:Int)∧s.n≤1000∧s.m=s.l
def Me (s:pK):Prop:=(0≤s.i∧s.i≤s.n)∧s.n=(List.length s.l:Int)∧s.n≤1000∧s.m=s.l∧∀j:Nat,(j:Int)<s.i→jM s.l j=true
def Hg (s:pK):Nat:=(s.n-s.i).toNat
def akv (x:Ex) (_ s':pK):Prop:=(x=.exit 0∧∀j:Nat,(j:Int)<s'.n→jM s'.l j=true)∨(x=.ret∧s'.r=false∧∃j:Nat,(j:Int)<s'.n∧jM s'.l j=false)
theorem aAo:∀s,adf s→Me s:=by
 intro s h
 obtain ⟨h0,h2,h3,h4⟩:=h
 exact ⟨by omega,h2,h3,h4,fun j hj=>by omega⟩
theorem awr (s:pK) (hI:Me s):bJ (fun s'=>Me s'∧Hg s'<Hg s) (fun x s'=>akv x s s') (asf s):=by
 unfold asf Y5
 dsimp only [T.rd,T.rl]
 obtain ⟨⟨h0,h1⟩,h2,h3,h4,hA⟩:=hI
 refine au (fun c1=>?_) (fun c1=>?_)
 ·refine au (fun c2=>?_) (fun c2=>?_)
  ·have c1:s.i<s.n:=by simpa using c1
   rw [h4] at c2
   refine .inr ⟨rfl,rfl,s.i.toNat,by simp only;omega,?_⟩
   rw [Int.toNat_of_nonneg h0]
   show jM s.l s.i=false
   unfold jM
   rw [ntW c2]
   rfl
  ·refine au (fun c3=>?_) (fun c3=>?_)
   ·refine au (fun c4=>?_) (fun c4=>?_)
    ·have c1:s.i<s.n:=by simpa using c1
     rw [h4] at c2
     have c3:0<s.i:=by simpa using c3
     rw [aK (x:=s.i-1) (by omega) (by omega),h4] at c4
     refine .inr ⟨rfl,rfl,s.i.toNat,by simp only;omega,?_⟩
     rw [Int.toNat_of_nonneg h0]
     show jM s.l s.i=false
     unfold jM
     rw [NS c2,decide_eq_false (by omega),ntW c4]
     rfl
    ·have c1:s.i<s.n:=by simpa using c1
     rw [h4] at c2
     have c3:0<s.i:=by simpa using c3
     rw [aK (x:=s.i-1) (by omega) (by omega),h4] at c4
     have hg:jM s.l s.i=true:=by unfold jM;rw [NS c2,decide_eq_false (by omega),NS c4];rfl
     rw [aK (x:=s.i+1) (by omega) (by omega)]
     exact ⟨⟨⟨by simp only;omega,by simp only;omega⟩,h2,h3,h4,fun j hj=>by
      by_cases e:(j:Int)<s.i
      ·exact hA j e
      ·have e:(j:Int)=s.i:=by simp only at hj;omega
       show jM s.l j=true
       rw [e];exact hg⟩,by simp only [Hg];omega⟩
   ·have c1:s.i<s.n:=by simpa using c1
    rw [h4] at c2
    have hg:jM s.l s.i=true:=by unfold jM;rw [NS c2,decide_eq_true (by simp at c3;omega)];rfl
    rw [aK (x:=s.i+1) (by omega) (by omega)]
    exact ⟨⟨⟨by simp only;omega,by simp only;omega⟩,h2,h3,h4,fun j hj=>by
     by_cases e:(j:Int)<s.i
     ·exact hA j e
     ·have e:(j:Int)=s.i:=by simp only at hj;omega
      show jM s.l j=true
      rw [e];exact hg⟩,by simp only [Hg];omega⟩
 ·have c1:s.n≤s.i:=by simpa using c1
  exact .inl ⟨rfl,fun j hj=>hA j (by omega)⟩
def EN:bK pK:=⟨0,33,[0,2,8,9,10],[],aDu,aCt,fun v _=>⟨aQ ng (v.getD 0 .junk),vg (v.getD 1 .junk),aQ ng (v.getD 2 .junk),gI (v.getD 3 .junk),gI (v.getD 4 .junk)⟩,Y5,fun s r=> {r with l:=s.l,m:=s.m,n:=s.n},fun s=>s,fun _ s=>s,[.ret,.exit 0],adf,Me,Hg⟩
abbrev ZC:=EN.run
abbrev abp:=EN.jJ
abbrev ayp:=EN.q
theorem au5 (s:pK) (hI:Me s):(Y5 s).all (fun _=>True):=by
 refine ⟨fun c1=>⟨?_,fun _=>trivial,fun c2=>⟨fun c3=>⟨?_,fun _=>trivial,fun _=>trivial⟩,fun _=>trivial⟩⟩,fun _=>trivial⟩
 all_goals ((obtain ⟨⟨h0,h1⟩,h2,h3,h4,hA⟩:=hI;simp only [decide_eq_true_eq] at c1;have hl:s.m.length=s.l.length:=congrArg List.length h4;first|omega|(simp only [decide_eq_true_eq,gt_iff_lt] at c3;rw [aK (x:=s.i-1) (by omega) (by omega)];omega)))
noncomputable def aiN:Specs:=aZ [(63,X7),(64,ajK)]
theorem arw:∀g S,aiN g=some S→Valid Tryz.prog aP g S:=aS (l:=[(63,X7),(64,ajK)]) ⟨atC,azb,trivial⟩
theorem ag5:EN.Ok:=⟨fun s=>by kernel_rfl,fun s=>by kernel_rfl,fun s=>rfl,fun s t r=>rfl,fun s=>rfl,fun s=>by kernel_rfl⟩
theorem afW:EN.Pf (akv):=⟨aAo,fun _ _=>rfl,awr,au5⟩
theorem amj:bg Tryz.prog aP (AN 0) (.loop Bj) EN.lp:=bK.snd ag5 afW (aT (Γ:=aiN) (K:=eu) (L:=aB) arw aF Bj (fun b hb=>by rw [show aC Bj=[] by kernel_rfl] at hb;cases hb)) (fun s=>by kernel_rfl)
theorem aoR (s:pK) (hE:adf s):∃s',Me s'∧akv (abp s) s' (ZC s):=bK.fin ag5 afW s hE
def acy:List LV→T LV
 | [.xl (.pair (.int .i64) (.pair (.int .i64) (.pair (.int .i64) (.pair (.int .i64) (.int .i64))))) l]=> .ok (.v (.bool (oV l)))
 |_=> .no
noncomputable def Jc:List LV→T LV:=gB Tryz.prog Tryz.f62.params.toList acy
theorem aon (l:List Le):bT Tryz.prog aP (aiN) eu (fun i=>if i=4 then EN.lp else aB i) Tryz.f62 [.xl ng l]=.br (decide ((List.length l:Int)>64)) (.ok (.v (.bool false))) (.req (ayp (⟨l,false,l,(List.length l:Int),(0:Int)⟩:pK)) (.br (iy (abp (⟨l,false,l,(List.length l:Int),(0:Int)⟩:pK)) (.ret)) (.ok (.v (.bool (ZC (⟨l,false,l,(List.length l:Int),(0:Int)⟩:pK)).r))) (.ok (.v (.bool true))))):=by kernel_rfl
theorem aeQ:Valid Tryz.prog aP 62 Jc:=aH Tryz.func62 rfl arw aF (L:=(fun i=>if i=4 then EN.lp else aB i)) (fun b hb=>by
 rw [show aC _=[Bj] by kernel_rfl] at hb
 simp only [List.mem_cons,List.not_mem_nil,or_false] at hb
 subst hb
 exact amj) (fun args lv h=>by
 unfold acy at h
 split at h
 ·simp only [canL,canX]
  rw [aon]
  rename_i l
  obtain rfl:=h
  refine ⟨fun c=>congrArg (fun z=>LV.v (.bool z)) ?_,fun c=>?_⟩
  ·have c:64<(List.length l:Int):=by simpa using c
   unfold oV
   rw [decide_eq_false (by omega)]
   rfl
  ·have c:(List.length l:Int)≤64:=by simpa using c
   have hE:adf ⟨l,false,l,(List.length l:Int),0⟩:=⟨rfl,rfl,by simp only;omega,rfl⟩
   refine ⟨⟨hE,rfl,rfl⟩,?_⟩
   obtain ⟨_,_,hq⟩:=aoR _ hE
   rcases hq with ⟨q1,q2⟩ |⟨q1,q2,j,q3,q4⟩<;>rw [q1]
   ·have e:JL l.length (jM l)=true:=fU.2 (fun j hj=>q2 j (by show (j:Int)<(List.length l:Int);omega))
    unfold oV
    rw [decide_eq_true (by omega),e]
    exact ⟨fun h=>(by cases h),fun _=>rfl⟩
   ·have e:JL l.length (jM l)=false:=tN j (by have q3:(j:Int)<(List.length l:Int):=q3;omega) q4
    rw [q2]
    unfold oV
    rw [decide_eq_true (by omega),e]
    exact ⟨fun _=>rfl,fun h=>by cases h⟩
 ·cases h)
end Go.Proofs.YtlihnbimgclogaaGreatDoor
namespace Go.Proofs.YtlihnbimgclogaaGreatDoor
open Go.Sx
structure pO where
 l:List Le
 iD:Int
 tick:Int
 e:Int
 m:List Le
 k:Int
 i:Int
def aDS (s:pO):List LV:=[.xl ng s.l,.v (.int .i64 s.iD),.v (.int .i64 s.tick),.v (.slice none 0 0),.v (.int .i64 s.e),.xl ng s.m,.v (.int .i64 s.k),.v (.int .i64 s.i)]
def aCR (_:pO):List aU:=[]
noncomputable def BN:Code:=((aC (Tryz.f66.body.getD .skip))[0]?).getD .skip
def Zl (s:pO):T (Rd pO):=
 .br (decide (s.i<s.k)) (.req (0≤s.i∧s.i<(List.length s.m:Int)) (.br (decide ((gZ s.m s.i).2.1≥s.iD)) (.ok (.stop (.ret) {s with e:=(1:Int)})) (.ok (.next {s with i:=(IntKind.i64.wrap (s.i+1))})))) (.ok (.stop (.exit 0) s))
abbrev asz (s:pO):=(Zl s).rd s
def adz (s:pO):Prop:=s.i=0∧s.k=(List.length s.m:Int)∧s.k≤1000
def MX (s:pO):Prop:=(0≤s.i∧s.i≤s.k)∧s.k=(List.length s.m:Int)∧s.k≤1000∧∀x∈s.m.take s.i.toNat,x.2.1<s.iD
def O0 (s:pO):Nat:=(s.k-s.i).toNat
def akL (x:Ex) (_ s':pO):Prop:=(x=.exit 0∧below s'.iD s'.m=true)∨(x=.ret∧s'.e=1∧below s'.iD s'.m=false)
theorem aBG:∀s,adz s→MX s:=by
 intro s h
 obtain ⟨h0,h1,h2⟩:=h
 exact ⟨by omega,h1,h2,by rw [h0];intro x hx;cases hx⟩
theorem axH (s:pO) (hI:MX s):bJ (fun s'=>MX s'∧O0 s'<O0 s) (fun x s'=>akL x s s') (asz s):=by
 unfold asz Zl
 dsimp only [T.rd,T.rl]
 obtain ⟨⟨h0,h1⟩,h2,h3,h4⟩:=hI
 refine au (fun c1=>?_) (fun c1=>?_)
 ·have c1:s.i<s.k:=by simpa using c1
  refine au (fun c2=>?_) (fun c2=>?_)
  ·refine .inr ⟨rfl,rfl,?_⟩
   unfold below
   rw [List.all_eq_false]
   exact ⟨gZ s.m s.i,kC h0 (by simp only;omega),by simpa using c2⟩
  ·rw [aK (x:=s.i+1) (by omega) (by omega)]
   refine ⟨⟨⟨by simp only;omega,by simp only;omega⟩,h2,h3,fun x hx=>?_⟩,by simp only [O0];omega⟩
   rw [(sN h0 (by simp only;omega)).2,List.mem_append,List.mem_singleton] at hx
   rcases hx with hx|rfl
   ·exact h4 x hx
   ·simpa using c2
 ·have c1:s.k≤s.i:=by simpa using c1
  refine .inl ⟨rfl,?_⟩
  rw [List.take_of_length_le (by omega)] at h4
  unfold below
  rw [List.all_eq_true]
  exact fun x hx=>decide_eq_true (h4 x hx)
def Fe:bK pO:=⟨0,48,[0,1,2,6,7,26,27,28],[],aDS,aCR,fun v _=>⟨aQ ng (v.getD 0 .junk),gI (v.getD 1 .junk),gI (v.getD 2 .junk),gI (v.getD 4 .junk),aQ ng (v.getD 5 .junk),gI (v.getD 6 .junk),gI (v.getD 7 .junk)⟩,Zl,fun s r=> {r with l:=s.l,iD:=s.iD,tick:=s.tick,m:=s.m,k:=s.k},fun s=>s,fun _ s=>s,[.ret,.exit 0],adz,MX,O0⟩
abbrev ZM:=Fe.run
abbrev abz:=Fe.jJ
abbrev ayM:=Fe.q
theorem avt (s:pO) (hI:MX s):(Zl s).all (fun _=>True):=by
 refine ⟨fun c1=>⟨?_,fun _=>trivial,fun _=>trivial⟩,fun _=>trivial⟩
 ·(obtain ⟨⟨h0,h1⟩,h2,h3,h4⟩:=hI;simp only [decide_eq_true_eq] at c1;omega)
noncomputable def zV:Specs:=aZ [(62,Jc),(108,Uf),(109,X8)]
theorem DL:∀g S,zV g=some S→Valid Tryz.prog aP g S:=aS (l:=[(62,Jc),(108,Uf),(109,X8)]) ⟨aeQ,aqv,atD,trivial⟩
noncomputable def aap:Hand:=inl Tryz.prog aP zV (lm Tryz.prog aP (zV) 20 2) 9
theorem aid:dD Tryz.prog aP aap:=bP DL (dR DL) 9
theorem ahq:Fe.Ok:=⟨fun s=>by kernel_rfl,fun s=>by kernel_rfl,fun s=>rfl,fun s t r=>rfl,fun s=>rfl,fun s=>by kernel_rfl⟩
theorem agl:Fe.Pf (akL):=⟨aBG,fun _ _=>rfl,axH,avt⟩
theorem amJ:bg Tryz.prog aP (AN 0) (.loop BN) Fe.lp:=bK.snd ahq agl (aT (Γ:=zV) (K:=aap) (L:=aB) DL aid BN (fun b hb=>by rw [show aC BN=[] by kernel_rfl] at hb;cases hb)) (fun s=>by kernel_rfl)
theorem aqj (s:pO) (hE:adz s):∃s',MX s'∧akL (abz s) s' (ZM s):=bK.fin ahq agl s hE
noncomputable def afk:Array Tmp×Code×Code:=((jL (Tryz.f66.body.getD .skip))[0]?).getD (#[],.skip,.skip)
noncomputable def azJ:Array Tmp:=afk.1
noncomputable def az4:Code:=afk.2.1
noncomputable def azZ:Code:=afk.2.2
structure kU where
 m:List Le
 k:Int
 i:Int
 o:List Int
 q:List Le
 t:Int
 st:LS
def aDR (s:kU):List LV:=[.uI 5,.own 4 0,.xl ng s.m,.v (.int .i64 s.k),.v (.int .i64 s.i)]
noncomputable def aCQ (s:kU):List aU:=[⟨[],3,.vec (.int .i64) s.o,false⟩,⟨[.os 0 1 0 (List.length s.o)],35,.cl,false⟩,⟨[.fn 110 [.own 1 0]],160,.cl,false⟩,⟨[.xl ng s.q],29,.cl,false⟩,⟨[.v (.int .i64 s.t)],3,.cl,false⟩,⟨[.junk,.junk,.junk,.junk,.junk,.junk,.junk,.junk,.junk,.junk,.junk,.own 2 0,.junk,.junk,.junk,.junk,.junk,.junk,.junk,.junk,.junk,.junk,.junk,.junk,.junk,.junk,.junk,.junk,.junk,.junk,.junk,.junk,.junk,.junk,.junk,.junk,.junk,.junk,.junk,.junk,.junk,.junk,.junk,.junk,.junk,.junk,.junk,.junk],0,.kM azJ az4 azZ s.st,false⟩]
noncomputable def TT:Code:=((aC (Tryz.f137.body.getD .skip))[0]?).getD .skip
def QY (s:kU):T (Rd kU):=
 .br (decide (s.i<s.k)) (.req (0≤s.i∧s.i<(List.length s.m:Int)) (.br (decide ((gZ s.m s.i).2.2.2.1>s.t)) (.rl s.o (.ok (.stop (.exit 0) s))) (.req ((0≤(gZ s.m s.i).2.2.2.1∧(gZ s.m s.i).2.2.2.1≤1000000)∧0≤(gZ s.m s.i).2.2.2.2∧(gZ s.m s.i).2.2.2.2≤1000000) (.br (decide ((JS (gZ s.m s.i))≤s.t)) (.rl s.o (.ok (.next {s with i:=(IntKind.i64.wrap (s.i+1))}))) (.req (0≤(gZ s.m s.i).2.1∧(gZ s.m s.i).2.1<((List.length s.o:Nat):Int)) (.req ((gZ s.m s.i).2.1.toNat<List.length s.o) (.req (0≤(gZ s.m s.i).2.1∧(gZ s.m s.i).2.1<((List.length s.o:Nat):Int)) (.req ((gZ s.m s.i).2.1.toNat<List.length s.o) (.req (0=0∧(List.length s.o)=List.length (s.o.set (gZ s.m s.i).2.1.toNat (if (s.o.getD (gZ s.m s.i).2.1.toNat (Ty.dflt (.int .i64)))<(gZ s.m s.i).2.2.1 then (gZ s.m s.i).2.2.1 else (s.o.getD (gZ s.m s.i).2.1.toNat (Ty.dflt (.int .i64)))))) (.ok (.next {s with i:=(IntKind.i64.wrap (s.i+1)),o:=(s.o.set (gZ s.m s.i).2.1.toNat (if (s.o.getD (gZ s.m s.i).2.1.toNat (Ty.dflt (.int .i64)))<(gZ s.m s.i).2.2.1 then (gZ s.m s.i).2.2.1 else (s.o.getD (gZ s.m s.i).2.1.toNat (Ty.dflt (.int .i64)))))}))))))))))) (.rl s.o (.ok (.stop (.exit 0) s)))
abbrev aa8 (s:kU):=(QY s).rd s
def ady (s:kU):Prop:=s.st=.ready∧s.i=0∧s.k=(List.length s.m:Int)∧s.k≤1000∧(∀x∈s.m,leV x=true∧x.2.1<(s.o.length:Int))∧s.m.Pairwise (fun a b=>a.1<b.1∧a.2.2.2.1≤b.2.2.2.1)
def UL (s:kU):Prop:=s.st=.ready∧(0≤s.i∧s.i≤s.k)∧s.k=(List.length s.m:Int)∧s.k≤1000∧(∀x∈s.m,leV x=true∧x.2.1<(s.o.length:Int))∧s.m.Pairwise (fun a b=>a.1<b.1∧a.2.2.2.1≤b.2.2.2.1)
def Ht (s:kU):Nat:=(s.k-s.i).toNat
def asV (x:Ex) (_ _:kU):Prop:=x=.exit 0
theorem aBF:∀s,ady s→UL s:=by
 intro s h
 obtain ⟨h0,h1,h2⟩:=h
 exact ⟨h0,by omega,h2⟩
theorem axG (s:kU) (hI:UL s):bJ (fun s'=>UL s'∧Ht s'<Ht s) (fun x s'=>asV x s s') (aa8 s):=by
 unfold aa8 QY
 dsimp only [T.rd,T.rl]
 obtain ⟨hs,⟨h0,h1⟩,h2,h3,h4,h5⟩:=hI
 refine au (fun c1=>?_) (fun c1=>rfl)
 have c1:s.i<s.k:=by simpa using c1
 rw [aK (x:=s.i+1) (by omega) (by omega)]
 refine au (fun c2=>rfl) (fun c2=>au (fun c3=>?_) (fun c3=>?_))
 ·exact ⟨⟨hs,⟨by simp only;omega,by simp only;omega⟩,h2,h3,h4,h5⟩,by simp only [Ht];omega⟩
 ·exact ⟨⟨hs,⟨by simp only;omega,by simp only;omega⟩,h2,h3,fun x hx=>by simp only [List.length_set];exact h4 x hx,h5⟩,by simp only [Ht];omega⟩
noncomputable def JJ:bK kU:=⟨6,27,[0,2,6,7,8],[],aDR,aCQ,fun v b=>⟨aQ ng (v.getD 2 .junk),gI (v.getD 3 .junk),gI (v.getD 4 .junk),iT (.int .i64) (aO b 0),aQ ng (aX (aO b 3) 0),gI (aX (aO b 4) 0),.ready⟩,QY,fun s r=> {r with m:=s.m,k:=s.k,q:=s.q,t:=s.t,st:=s.st},fun s=> {s with st:=.ready},fun x s=> {s with st:=(match x with| .exit 0=> .ready|_=> .ready)},[.exit 0],ady,UL,Ht⟩
noncomputable abbrev xg:=JJ.run
noncomputable abbrev apP:=JJ.jJ
abbrev ayL:=JJ.q
theorem avs (s:kU) (hI:UL s):(QY s).all (fun _=>True):=by
 refine ⟨fun c1=>⟨?_,fun c2=>⟨⟨rfl,rfl⟩,trivial⟩,fun c2=>⟨?_,fun c3=>⟨⟨rfl,rfl⟩,trivial⟩,fun c3=>⟨?_,?_,?_,?_,?_,trivial⟩⟩⟩,fun c1=>⟨⟨rfl,rfl⟩,trivial⟩⟩
 all_goals ((obtain ⟨hs,⟨h0,h1⟩,h2,h3,h4,h5⟩:=hI;simp only [decide_eq_true_eq] at c1;have hv:=(h4 _ (kC h0 (show s.i<s.m.length by omega))).2;have hl:=Pm.1 (h4 _ (kC h0 (show s.i<s.m.length by omega))).1;first|omega|exact ⟨rfl,by simp⟩))
theorem ahp:JJ.Ok:=⟨fun s=>by kernel_rfl,fun s=>by kernel_rfl,fun s=>rfl,fun s t r=>rfl,fun s=>rfl,fun s=>by kernel_rfl⟩
theorem agk:JJ.Pf (asV):=⟨aBF,fun s h=>by
 obtain ⟨m,k,i,o,q,t,st⟩:=s
 have e:st=.ready:=h.1
 subst e
 rfl,axG,avs⟩
theorem amI:bg Tryz.prog aP (AN 6) (.loop TT) JJ.lp:=bK.snd ahp agk (bF (Γ:=zV) (K:=aap) (L:=(rY Tryz.prog aP zV aap 20 2)) DL aid TT (fun b _=>dU DL aid 20 2 b)) (fun s=>by kernel_rfl)
theorem aqi (s:kU) (hE:ady s):(fun (x:Ex) (s':kU) (v:List Int)=>x=.exit 0∧s'.o=v) (apP s) (xg s) ((fun s:kU=>((s.m.drop s.i.toNat).filter (xY s.t)).foldl kpA s.o) s):=by
 exact bK.uy ahp agk (fun s:kU=>((s.m.drop s.i.toNat).filter (xY s.t)).foldl kpA s.o) (fun x s' v=>x=.exit 0∧s'.o=v) (fun s hI=>by
  show bJ _ _ (aa8 s)
  unfold aa8 QY
  dsimp only [T.rd,T.rl]
  obtain ⟨hs,⟨h0,h1⟩,h2,h3,h4,h5⟩:=hI
  refine au (fun c1=>?_) (fun c1=>?_)
  ·have c1:s.i<s.k:=by simpa using c1
   have e:=(sN h0 (show s.i<(List.length s.m:Int) by omega)).1
   rw [aK (x:=s.i+1) (by omega) (by omega)]
   refine au (fun c2=>?_) (fun c2=>au (fun c3=>?_) (fun c3=>?_))
   ·refine ⟨rfl,?_⟩
    have c2:(gZ s.m s.i).2.2.2.1>s.t:=by simpa using c2
    have hp:(s.m.drop s.i.toNat).Pairwise (fun a b=>a.1<b.1∧a.2.2.2.1≤b.2.2.2.1):=List.Pairwise.sublist (List.drop_sublist _ _) h5
    rw [e,List.pairwise_cons] at hp
    rw [List.filter_eq_nil_iff.2]
    ·rfl
    ·rw [e]
     intro x hx
     unfold xY
     rw [decide_eq_false,Bool.false_and]
     ·decide
     ·rcases List.mem_cons.1 hx with rfl|hx
      ·omega
      ·have:=(hp.1 x hx).2
       omega
   ·show List.foldl _ _ _=List.foldl _ _ _
    have c3:JS (gZ s.m s.i)≤s.t:=by simpa using c3
    have hb:¬xY s.t (gZ s.m s.i)=true:=by
     unfold xY
     rw [decide_eq_false (p:=JS _>_) (by omega),Bool.and_false]
     decide
    simp only
    rw [e,List.filter_cons,if_neg hb]
   ·show List.foldl _ _ _=List.foldl _ _ _
    have c2:(gZ s.m s.i).2.2.2.1≤s.t:=by simpa using c2
    have c3:s.t<JS (gZ s.m s.i):=by simpa using c3
    have hb:xY s.t (gZ s.m s.i)=true:=by
     unfold xY
     rw [decide_eq_true c2,decide_eq_true c3]
     rfl
    simp only
    rw [e,List.filter_cons,if_pos hb,List.foldl_cons]
    rfl
  ·have c1:s.k≤s.i:=by simpa using c1
   refine ⟨rfl,?_⟩
   rw [List.drop_eq_nil_of_le (by omega)]
   rfl) s hE
def acX:List LV→T LV
 | [.xl (.pair (.int .i64) (.pair (.int .i64) (.pair (.int .i64) (.pair (.int .i64) (.int .i64))))) l,.v (.int .i64 n),.v (.int .i64 t)]=> .ok (.iF [.xl (.int .i64) (oG l n t),.v (.int .i64 (Uc l n t))])
 |_=> .no
noncomputable def Yp:List LV→T LV:=gB Tryz.prog Tryz.f66.params.toList acX
noncomputable def arb:Hand:=inl Tryz.prog aP zV (kE 137 6 1 (JJ.lp) (lm Tryz.prog aP (zV) 20 2)) 9
theorem aAD:dD Tryz.prog aP arb:=bP DL (dF Tryz.func137 rfl (by kernel_rfl) amI (dR DL)) 9
theorem aoM (l:List Le) (n t:Int):bT Tryz.prog aP (zV) arb (fun i=>if i=4 then Fe.lp else aB i) Tryz.f66 [.xl ng l,.v (.int .i64 n),.v (.int .i64 t)]=.br ((!(oV l)) ||((!(inB n (0:Int) (16:Int))) ||(!(inB t (0:Int) (1100000:Int))))) (.ok (.iF [.xl (.int .i64) ([]:List Int),.v (.int .i64 1)])) (.req (ayM (⟨l,n,t,(0:Int),l,(List.length l:Int),(0:Int)⟩:pO)) (.br (iy (abz (⟨l,n,t,(0:Int),l,(List.length l:Int),(0:Int)⟩:pO)) (.ret)) (.ok (.iF [.xl (.int .i64) ([]:List Int),.v (.int .i64 (ZM (⟨l,n,t,(0:Int),l,(List.length l:Int),(0:Int)⟩:pO)).e)])) (.req (0≤n∧n≤n∧8*n≤2^48∧n<2^63) (.req (0=0∧n.toNat=List.length (List.replicate n.toNat (0:Int))) (.req (ayL (⟨l,(List.length l:Int),(0:Int),(List.replicate n.toNat (0:Int)),l,t,.ready⟩:kU)) (.req (0+(List.length (xg (⟨l,(List.length l:Int),(0:Int),(List.replicate n.toNat (0:Int)),l,t,.ready⟩:kU)).o)≤List.length (xg (⟨l,(List.length l:Int),(0:Int),(List.replicate n.toNat (0:Int)),l,t,.ready⟩:kU)).o) (.ok (.iF [.xl (.int .i64) (((xg (⟨l,(List.length l:Int),(0:Int),(List.replicate n.toNat (0:Int)),l,t,.ready⟩:kU)).o.drop 0).take (List.length (xg (⟨l,(List.length l:Int),(0:Int),(List.replicate n.toNat (0:Int)),l,t,.ready⟩:kU)).o)),.v (.int .i64 0)])))))))):=by kernel_rfl
theorem atV:Valid Tryz.prog aP 66 Yp:=aH Tryz.func66 rfl DL aAD (L:=(fun i=>if i=4 then Fe.lp else aB i)) (fun b hb=>by
 rw [show aC _=[BN] by kernel_rfl] at hb
 simp only [List.mem_cons,List.not_mem_nil,or_false] at hb
 subst hb
 exact amJ) (fun args lv h=>by
 unfold acX at h
 split at h
 ·simp only [canL,canX]
  rw [aoM]
  rename_i l n t
  obtain rfl:=h
  have bad:Dp l n t=false→LV.iF [.xl (.int .i64) ([]:List Int),.v (.int .i64 1)]=LV.iF [.xl (.int .i64) (oG l n t),.v (.int .i64 (Uc l n t))]:=fun c=>by
   unfold oG Uc
   rw [c]
   rfl
  refine ⟨fun c=>bad ?_,fun c=>?_⟩
  ·unfold Dp
   cases e1:oV l<;>cases e2:inB n 0 16<;>cases e3:inB t 0 1100000<;>simp_all
  have c:(oV l&&(inB n 0 16&&inB t 0 1100000))=true:=by cases e1:oV l<;>cases e2:inB n 0 16<;>cases e3:inB t 0 1100000<;>simp_all
  have c':=c
  rw [Bool.and_eq_true,Bool.and_eq_true,dN,dN] at c'
  obtain ⟨hv,hn,ht⟩:=c'
  have hl:=vT hv
  have hE:adz ⟨l,n,t,0,l,(List.length l:Int),0⟩:=⟨rfl,rfl,by simp only;omega⟩
  refine ⟨⟨hE,rfl,rfl⟩,?_⟩
  obtain ⟨_,_,hq⟩:=aqj _ hE
  rcases hq with ⟨q1,q2⟩ |⟨q1,q2,q3⟩<;>rw [q1]
  ·refine ⟨fun h=>(by cases h),fun _=>?_⟩
   have q2:below n l=true:=q2
   have hE2:ady ⟨l,(List.length l:Int),0,List.replicate n.toNat 0,l,t,.ready⟩:=⟨rfl,rfl,rfl,by simp only;omega,fun x hx=>⟨hl.2 x hx,by
    have:=of_decide_eq_true (List.all_eq_true.1 q2 x hx)
    simp only [List.length_replicate]
    omega⟩,adZ hv⟩
   obtain ⟨_,q4⟩:=aqi _ hE2
   have q4:(xg ⟨l,(List.length l:Int),0,List.replicate n.toNat 0,l,t,.ready⟩).o=Ub n.toNat l t:=q4
   refine ⟨by omega,⟨rfl,by simp⟩,⟨hE2,rfl,rfl⟩,by omega,?_⟩
   show LV.iF [LV.xl _ _,_]=_
   rw [List.drop_zero,List.take_length,q4]
   unfold oG Uc Dp
   rw [c,q2]
   rfl
  ·have q3:below n l=false:=q3
   rw [q2]
   exact ⟨fun _=>bad (by unfold Dp;rw [q3,Bool.and_false]),fun h=>by cases h⟩
 ·cases h)
end Go.Proofs.YtlihnbimgclogaaGreatDoor
namespace Go.Proofs.YtlihnbimgclogaaGreatDoor
open Go.Sx
def acw:List LV→T LV
 | [.v (.agg ⟨[.string _,.int .i64 _,.int .i64 _,.int .i64 mi,.int .i64 ma,.int .i64 st,.int .i64 _,.int .i64 _]⟩)]=> .ok (.v (.int .i64 (CW mi ma st)))
 |_=> .no
noncomputable def X4:List LV→T LV:=gB Tryz.prog Tryz.f28.params.toList acw
noncomputable def awX:Specs:=aZ []
theorem aA4:∀g S,awX g=some S→Valid Tryz.prog aP g S:=aS (l:=[]) trivial
theorem aom (nm:ByteArray) (at_ ph mi ma st fb ow:Int):bT Tryz.prog aP (awX) eu aB Tryz.f28 [.v (.agg #[.string nm,.int .i64 at_,.int .i64 ph,.int .i64 mi,.int .i64 ma,.int .i64 st,.int .i64 fb,.int .i64 ow])]=.br ((decide (mi<1)) ||((decide (mi>ma)) ||((decide (ma>80)) ||((decide (st<1)) ||(decide (st>80)))))) (.ok (.v (.int .i64 0))) (.req (st≠0) (.ok (.v (.int .i64 (IntKind.i64.wrap ((IntKind.i64.wrap ((IntKind.i64.wrap (ma-mi)).tdiv st))+2)))))):=by kernel_rfl
theorem aty:Valid Tryz.prog aP 28 X4:=aH Tryz.func28 rfl aA4 aF (aW (by kernel_rfl)) (fun args lv h=>by
 unfold acw at h
 split at h
 ·simp only [canL,canX]
  rw [aom]
  rename_i mi ma st _ _
  obtain rfl:=h
  refine ⟨fun c=>congrArg (fun z=>LV.v (.int .i64 z)) ?_,fun c=>⟨?_,congrArg (fun z=>LV.v (.int .i64 z)) ?_⟩⟩
  ·have:mJ mi ma st=false:=by
    rw [Bool.eq_false_iff];intro h;have:=fG.1 h;simp at c;omega
   rw [Sr this]
  ·simp at c;omega
  ·have hh:mJ mi ma st=true:=fG.2 (by simp at c;omega)
   obtain ⟨h1,h2,h3,h4,h5⟩:=fG.1 hh
   have:=Dj (x:=ma-mi) (st:=st) (by omega) (by omega)
   rw [aK (x:=ma-mi) (by omega) (by omega),Int.tdiv_eq_ediv_of_nonneg (by omega),aK (x:=(ma-mi) / st) (by omega) (by omega),aK (by omega) (by omega)]
   simp [CW,hh]
 ·cases h)
def acW:List LV→T LV
 | [.v (.agg ⟨[.string _,.int .i64 _,.int .i64 _,.int .i64 mi,.int .i64 _,.int .i64 st,.int .i64 _,.int .i64 _]⟩),.v (.int .i64 k)]=> .req ((1≤mi∧mi≤80∧1≤st∧st≤80)∧0≤k∧k≤1000) (.ok (.v (.int .i64 (Cf mi st k))))
 |_=> .no
noncomputable def qA:List LV→T LV:=gB Tryz.prog Tryz.f61.params.toList acW
theorem aoL (nm:ByteArray) (at_ ph mi ma st fb ow k:Int):bT Tryz.prog aP (awX) eu aB Tryz.f61 [.v (.agg #[.string nm,.int .i64 at_,.int .i64 ph,.int .i64 mi,.int .i64 ma,.int .i64 st,.int .i64 fb,.int .i64 ow]),.v (.int .i64 k)]=.br (k==0) (.ok (.v (.int .i64 0))) (.ok (.v (.int .i64 (IntKind.i64.wrap (mi+(IntKind.i64.wrap ((IntKind.i64.wrap (k-1))*st))))))):=by kernel_rfl
theorem Gj:Valid Tryz.prog aP 61 qA:=aH Tryz.func61 rfl aA4 aF (aW (by kernel_rfl)) (fun args lv h=>by
 unfold acW at h
 split at h
 ·simp only [canL,canX]
  rw [aoL]
  rename_i mi _ st _ _ k
  obtain ⟨⟨⟨h1,h2,h3,h4⟩,h5,h6⟩,rfl⟩:=h
  refine ⟨fun c=>congrArg (fun z=>LV.v (.int .i64 z)) ?_,fun c=>congrArg (fun z=>LV.v (.int .i64 z)) ?_⟩
  ·have c:k=0:=by simpa using c
   simp [Cf,c]
  ·have c:k≠0:=by simpa using c
   have:=awq (a:=k-1) (b:=st) (by omega) (by omega) (by omega) (by omega)
   rw [aK (x:=k-1) (by omega) (by omega),aK (x:=(k-1)*st) (by omega) (by omega),aK (by omega) (by omega)]
   simp [Cf,c]
 ·cases h)
def acB:List LV→T LV
 | [.v (.agg ⟨[.string _,.int .i64 _,.int .i64 _,.int .i64 mi,.int .i64 ma,.int .i64 st,.int .i64 _,.int .i64 _]⟩),.v (.int .i64 a)]=> .req (a≤9223372036854775807) (.ok (.v (.int .i64 (SB mi ma st a))))
 |_=> .no
noncomputable def qx:List LV→T LV:=gB Tryz.prog Tryz.f96.params.toList acB
noncomputable def aA7:Specs:=aZ [(28,X4)]
theorem aEk:∀g S,aA7 g=some S→Valid Tryz.prog aP g S:=aS (l:=[(28,X4)]) ⟨aty,trivial⟩
theorem aoq (nm:ByteArray) (at_ ph mi ma st fb ow a:Int):bT Tryz.prog aP (aA7) eu aB Tryz.f96 [.v (.agg #[.string nm,.int .i64 at_,.int .i64 ph,.int .i64 mi,.int .i64 ma,.int .i64 st,.int .i64 fb,.int .i64 ow]),.v (.int .i64 a)]=.br (((CW mi ma st)==0) ||(decide (a<0))) (.ok (.v (.int .i64 (-1)))) (.br (decide (a<mi)) (.ok (.v (.int .i64 0))) (.req (st≠0) (.ok (.v (.int .i64 (if (IntKind.i64.wrap ((IntKind.i64.wrap ((IntKind.i64.wrap (a-mi)).tdiv st))+1))<(IntKind.i64.wrap ((CW mi ma st)-1)) then IntKind.i64.wrap ((IntKind.i64.wrap ((IntKind.i64.wrap (a-mi)).tdiv st))+1) else IntKind.i64.wrap ((CW mi ma st)-1))))))):=by kernel_rfl
theorem Gg:Valid Tryz.prog aP 96 qx:=aH Tryz.func96 rfl aEk aF (aW (by kernel_rfl)) (fun args lv h=>by
 unfold acB at h
 split at h
 ·simp only [canL,canX]
  rw [aoq]
  rename_i mi ma st _ _ a
  obtain ⟨ha,rfl⟩:=h
  have hb:=ahU (mi:=mi) (ma:=ma) (st:=st)
  refine ⟨fun c=>congrArg (fun z=>LV.v (.int .i64 z)) ?_,fun c=>⟨fun c2=>congrArg (fun z=>LV.v (.int .i64 z)) ?_,fun c2=>?_⟩⟩
  ·have c:mJ mi ma st=false∨a<0:=by
    simp at c
    rcases c with c|c
    ·left
     cases e:mJ mi ma st with
     |false=>rfl
     |true=>have:=O9 e;omega
    ·exact .inr c
   simp only [SB,if_pos c]
  all_goals
   simp at c c2
   have hh:mJ mi ma st=true:=by
    cases e:mJ mi ma st with
    |true=>rfl
    |false=>exact absurd (Sr e) c.1
   have hn:¬(mJ mi ma st=false∨a<0):=by simp [hh];omega
   have:=fG.1 hh
  ·simp only [SB,if_neg hn,if_pos c2]
  ·have:=Dj (x:=a-mi) (st:=st) (by omega) (by omega)
   refine ⟨by omega,congrArg (fun z=>LV.v (.int .i64 z)) ?_⟩
   rw [aK (x:=a-mi) (by omega) (by omega),Int.tdiv_eq_ediv_of_nonneg (by omega),aK (x:=(a-mi) / st) (by omega) (by omega),aK (x:=(a-mi) / st+1) (by omega) (by omega),aK (x:=CW mi ma st-1) (by omega) (by omega)]
   simp only [SB,if_neg hn,if_neg (show ¬a<mi by omega)]
   split<;>omega
 ·cases h)
end Go.Proofs.YtlihnbimgclogaaGreatDoor
namespace Go.Proofs.YtlihnbimgclogaaGreatDoor
open Go.Sx
def Lj:List LV→T LV
 | [.v (.string w)]=> .ok (.v (.bool (isIn D9 w)))
 |_=> .no
noncomputable def wI:List LV→T LV:=gB Tryz.prog Tryz.f165.params.toList Lj
noncomputable def WW:Specs:=aZ []
theorem ad7:∀g S,WW g=some S→Valid Tryz.prog aP g S:=aS (l:=[]) trivial
theorem adS (w:ByteArray):bT Tryz.prog aP (WW) eu aB Tryz.f165 [.v (.string w)]=.br (w.toList==(ByteArray.mk #[108,105,109,105,116]).toList) (.ok (.v (.bool true))) (.br (w.toList==(ByteArray.mk #[110,101,117,116,114,97,108]).toList) (.ok (.v (.bool true))) (.br (w.toList==(ByteArray.mk #[102,117,115,101]).toList) (.ok (.v (.bool true))) (.br (w.toList==(ByteArray.mk #[116,104,101,114,109,97,108]).toList) (.ok (.v (.bool true))) (.br (w.toList==(ByteArray.mk #[102,114,111,109]).toList) (.ok (.v (.bool true))) (.br (w.toList==(ByteArray.mk #[97,116]).toList) (.ok (.v (.bool true))) (.br (w.toList==(ByteArray.mk #[112,104,97,115,101,115]).toList) (.ok (.v (.bool true))) (.br (w.toList==(ByteArray.mk #[97,109,112,115]).toList) (.ok (.v (.bool true))) (.br (w.toList==(ByteArray.mk #[102,97,108,108,98,97,99,107]).toList) (.ok (.v (.bool true))) (.br (w.toList==(ByteArray.mk #[111,119,110,101,114]).toList) (.ok (.v (.bool true))) (.br (w.toList==(ByteArray.mk #[99,97,114,100]).toList) (.ok (.v (.bool true))) (.br (w.toList==(ByteArray.mk #[114,97,110,107]).toList) (.ok (.v (.bool true))) (.br (w.toList==(ByteArray.mk #[99,104,97,114,103,101,114]).toList) (.ok (.v (.bool true))) (.ok (.v (.bool false))))))))))))))):=by kernel_rfl
theorem Qs:Valid Tryz.prog aP 165 wI:=aH Tryz.func165 rfl ad7 aF (aW (by kernel_rfl)) (fun args lv h=>by
 unfold Lj at h
 split at h
 ·simp only [canL,canX]
  rw [adS]
  obtain rfl:=h
  simp only [tu]
  unfold isIn D9
  simp only [List.any_cons,List.any_nil]
  refine ⟨fun c0=>by simp [c0,T.all],fun c0=>?_⟩
  rw [c0,Bool.false_or]
  refine ⟨fun c1=>by simp [c1,T.all],fun c1=>?_⟩
  rw [c1,Bool.false_or]
  refine ⟨fun c2=>by simp [c2,T.all],fun c2=>?_⟩
  rw [c2,Bool.false_or]
  refine ⟨fun c3=>by simp [c3,T.all],fun c3=>?_⟩
  rw [c3,Bool.false_or]
  refine ⟨fun c4=>by simp [c4,T.all],fun c4=>?_⟩
  rw [c4,Bool.false_or]
  refine ⟨fun c5=>by simp [c5,T.all],fun c5=>?_⟩
  rw [c5,Bool.false_or]
  refine ⟨fun c6=>by simp [c6,T.all],fun c6=>?_⟩
  rw [c6,Bool.false_or]
  refine ⟨fun c7=>by simp [c7,T.all],fun c7=>?_⟩
  rw [c7,Bool.false_or]
  refine ⟨fun c8=>by simp [c8,T.all],fun c8=>?_⟩
  rw [c8,Bool.false_or]
  refine ⟨fun c9=>by simp [c9,T.all],fun c9=>?_⟩
  rw [c9,Bool.false_or]
  refine ⟨fun c10=>by simp [c10,T.all],fun c10=>?_⟩
  rw [c10,Bool.false_or]
  refine ⟨fun c11=>by simp [c11,T.all],fun c11=>?_⟩
  rw [c11,Bool.false_or]
  refine ⟨fun c12=>by simp [c12,T.all],fun c12=>?_⟩
  rw [c12,Bool.false_or]
  rfl
 ·cases h)
def Ur:List LV→T LV
 | [.v (.string w)]=> .ok (.v (.bool (isIn oD w)))
 |_=> .no
noncomputable def BU:List LV→T LV:=gB Tryz.prog Tryz.f166.params.toList Ur
theorem ahI (w:ByteArray):bT Tryz.prog aP (WW) eu aB Tryz.f166 [.v (.string w)]=.br (w.toList==(ByteArray.mk #[115,116,97,114,116]).toList) (.ok (.v (.bool true))) (.br (w.toList==(ByteArray.mk #[101,110,101,114,103,121]).toList) (.ok (.v (.bool true))) (.br (w.toList==(ByteArray.mk #[116,105,109,101]).toList) (.ok (.v (.bool true))) (.br (w.toList==(ByteArray.mk #[105,100,108,101]).toList) (.ok (.v (.bool true))) (.br (w.toList==(ByteArray.mk #[99,97,112]).toList) (.ok (.v (.bool true))) (.br (w.toList==(ByteArray.mk #[116,97,120]).toList) (.ok (.v (.bool true))) (.ok (.v (.bool false)))))))):=by kernel_rfl
theorem YD:Valid Tryz.prog aP 166 BU:=aH Tryz.func166 rfl ad7 aF (aW (by kernel_rfl)) (fun args lv h=>by
 unfold Ur at h
 split at h
 ·simp only [canL,canX]
  rw [ahI]
  obtain rfl:=h
  simp only [tu]
  unfold isIn oD
  simp only [List.any_cons,List.any_nil]
  refine ⟨fun c0=>by simp [c0,T.all],fun c0=>?_⟩
  rw [c0,Bool.false_or]
  refine ⟨fun c1=>by simp [c1,T.all],fun c1=>?_⟩
  rw [c1,Bool.false_or]
  refine ⟨fun c2=>by simp [c2,T.all],fun c2=>?_⟩
  rw [c2,Bool.false_or]
  refine ⟨fun c3=>by simp [c3,T.all],fun c3=>?_⟩
  rw [c3,Bool.false_or]
  refine ⟨fun c4=>by simp [c4,T.all],fun c4=>?_⟩
  rw [c4,Bool.false_or]
  refine ⟨fun c5=>by simp [c5,T.all],fun c5=>?_⟩
  rw [c5,Bool.false_or]
  rfl
 ·cases h)
def Un:List LV→T LV
 | [.v (.string w)]=> .ok (.v (.bool (isIn words w)))
 |_=> .no
noncomputable def BR:List LV→T LV:=gB Tryz.prog Tryz.f169.params.toList Un
theorem ahG (w:ByteArray):bT Tryz.prog aP (WW) eu aB Tryz.f169 [.v (.string w)]=.br (w.toList==(ByteArray.mk #[111,110]).toList) (.ok (.v (.bool true))) (.br (w.toList==(ByteArray.mk #[119,111,114,107]).toList) (.ok (.v (.bool true))) (.br (w.toList==(ByteArray.mk #[115,97,116,117,114,100,97,121]).toList) (.ok (.v (.bool true))) (.br (w.toList==(ByteArray.mk #[115,117,110,100,97,121]).toList) (.ok (.v (.bool true))) (.br (w.toList==(ByteArray.mk #[98,101,116,119,101,101,110]).toList) (.ok (.v (.bool true))) (.br (w.toList==(ByteArray.mk #[112,101,114]).toList) (.ok (.v (.bool true))) (.br (w.toList==(ByteArray.mk #[102,114,101,101]).toList) (.ok (.v (.bool true))) (.ok (.v (.bool false))))))))):=by kernel_rfl
theorem YC:Valid Tryz.prog aP 169 BR:=aH Tryz.func169 rfl ad7 aF (aW (by kernel_rfl)) (fun args lv h=>by
 unfold Un at h
 split at h
 ·simp only [canL,canX]
  rw [ahG]
  obtain rfl:=h
  simp only [tu]
  unfold isIn words
  simp only [List.any_cons,List.any_nil]
  refine ⟨fun c0=>by simp [c0,T.all],fun c0=>?_⟩
  rw [c0,Bool.false_or]
  refine ⟨fun c1=>by simp [c1,T.all],fun c1=>?_⟩
  rw [c1,Bool.false_or]
  refine ⟨fun c2=>by simp [c2,T.all],fun c2=>?_⟩
  rw [c2,Bool.false_or]
  refine ⟨fun c3=>by simp [c3,T.all],fun c3=>?_⟩
  rw [c3,Bool.false_or]
  refine ⟨fun c4=>by simp [c4,T.all],fun c4=>?_⟩
  rw [c4,Bool.false_or]
  refine ⟨fun c5=>by simp [c5,T.all],fun c5=>?_⟩
  rw [c5,Bool.false_or]
  refine ⟨fun c6=>by simp [c6,T.all],fun c6=>?_⟩
  rw [c6,Bool.false_or]
  rfl
 ·cases h)
def acF:List LV→T LV
 | [.v (.string w)]=> .ok (.v (.int .i64 (ad2 1 kinds w)))
 |_=> .no
noncomputable def Ya:List LV→T LV:=gB Tryz.prog Tryz.f168.params.toList acF
theorem aou (w:ByteArray):bT Tryz.prog aP (WW) eu aB Tryz.f168 [.v (.string w)]=.br (w.toList==(ByteArray.mk #[102,101,101,100,101,114]).toList) (.ok (.v (.int .i64 1))) (.br (w.toList==(ByteArray.mk #[99,97,98,108,101]).toList) (.ok (.v (.int .i64 2))) (.br (w.toList==(ByteArray.mk #[111,119,110,101,114]).toList) (.ok (.v (.int .i64 3))) (.br (w.toList==(ByteArray.mk #[99,111,110,116,114,97,99,116]).toList) (.ok (.v (.int .i64 4))) (.br (w.toList==(ByteArray.mk #[99,104,97,114,103,101,114]).toList) (.ok (.v (.int .i64 5))) (.br (w.toList==(ByteArray.mk #[98,97,121]).toList) (.ok (.v (.int .i64 6))) (.br (w.toList==(ByteArray.mk #[116,97,114,105,102,102]).toList) (.ok (.v (.int .i64 7))) (.ok (.v (.int .i64 0))))))))):=by kernel_rfl
theorem atF:Valid Tryz.prog aP 168 Ya:=aH Tryz.func168 rfl ad7 aF (aW (by kernel_rfl)) (fun args lv h=>by
 unfold acF at h
 split at h
 ·simp only [canL,canX]
  rw [aou]
  obtain rfl:=h
  simp only [tu]
  simp only [ad2,kinds]
  refine ⟨fun c0=>by rw [if_pos c0];rfl,fun c0=>?_⟩
  rw [if_neg (by simp [c0])]
  refine ⟨fun c1=>by rw [if_pos c1];rfl,fun c1=>?_⟩
  rw [if_neg (by simp [c1])]
  refine ⟨fun c2=>by rw [if_pos c2];rfl,fun c2=>?_⟩
  rw [if_neg (by simp [c2])]
  refine ⟨fun c3=>by rw [if_pos c3];rfl,fun c3=>?_⟩
  rw [if_neg (by simp [c3])]
  refine ⟨fun c4=>by rw [if_pos c4];rfl,fun c4=>?_⟩
  rw [if_neg (by simp [c4])]
  refine ⟨fun c5=>by rw [if_pos c5];rfl,fun c5=>?_⟩
  rw [if_neg (by simp [c5])]
  refine ⟨fun c6=>by rw [if_pos c6];rfl,fun c6=>?_⟩
  rw [if_neg (by simp [c6])]
  rfl
 ·cases h)
def Uo:List LV→T LV
 | [.v (.string w)]=> .ok (.v (.bool (Fj w)))
 |_=> .no
noncomputable def Qb:List LV→T LV:=gB Tryz.prog Tryz.f164.params.toList Uo
noncomputable def aA6:Specs:=aZ [(165,wI),(166,BU),(168,Ya),(169,BR)]
theorem aEj:∀g S,aA6 g=some S→Valid Tryz.prog aP g S:=aS (l:=[(165,wI),(166,BU),(168,Ya),(169,BR)]) ⟨Qs,YD,atF,YC,trivial⟩
theorem ahH (w:ByteArray):bT Tryz.prog aP (aA6) eu aB Tryz.f164 [.v (.string w)]=.ok (.v (.bool (((ad2 1 kinds w) !=0) ||((isIn D9 w) ||((isIn oD w) ||(isIn words w)))))):=by kernel_rfl
theorem als:Valid Tryz.prog aP 164 Qb:=aH Tryz.func164 rfl aEj aF (aW (by kernel_rfl)) (fun args lv h=>by
 unfold Uo at h
 split at h
 ·simp only [canL,canX]
  rw [ahH]
  obtain rfl:=h
  show LV.v (.bool _)=_
  rw [SE 1 kinds _ (by decide)]
  rfl
 ·cases h)
structure wM where
 text:ByteArray
 r:Bool
 i:Int
def aEE (s:wM):List LV:=[.v (.string s.text),.v (.bool s.r),.v (.int .i64 s.i)]
def aEw (_:wM):List aU:=[]
noncomputable def F5:Code:=((aC (Tryz.f163.body.getD .skip))[0]?).getD .skip
def alD (s:wM):T (Rd wM):=
 .br (decide (s.i<(s.text.size:Int))) (.req (0≤s.i∧s.i<(s.text.size:Int)) (.br (if decide ((rW s.text s.i)≥97) then !(decide ((rW s.text s.i)≤122))&&(if decide ((rW s.text s.i)≥48) then !(decide ((rW s.text s.i)≤57))&&(!((rW s.text s.i)==95)) else !((rW s.text s.i)==95)) else if decide ((rW s.text s.i)≥48) then !(decide ((rW s.text s.i)≤57))&&(!((rW s.text s.i)==95)) else !((rW s.text s.i)==95)) (.ok (.stop (.ret) {s with r:=false})) (.ok (.next {s with i:=(IntKind.i64.wrap (s.i+1))})))) (.ok (.stop (.exit 0) s))
abbrev aBf (s:wM):=(alD s).rd s
def JX (s:wM) (j:Int):Bool:=decide (j<1) ||(chB (rW s.text j))
def aqp (s:wM):Prop:=s.i=1∧1≤(s.text.size:Int)∧(s.text.size:Int)≤1000∧True
def aeo (s:wM):Prop:=1≤s.i∧s.i≤(s.text.size:Int)∧(s.text.size:Int)≤1000∧(True)∧∀j:Nat,(j:Int)<s.i→JX s j=true
def Z9 (s:wM):Nat:=((s.text.size:Int)-s.i).toNat
def axM (x:Ex) (_ s':wM):Prop:=(x=.exit 0∧∀j:Nat,(j:Int)<(s'.text.size:Int)→JX s' j=true)∨(x=.ret∧s'.r=false∧∃j:Nat,(j:Int)<(s'.text.size:Int)∧JX s' j=false)
theorem aEg:∀s,aqp s→aeo s:=by
 intro s h
 obtain ⟨h0,h1,h2,h3⟩:=h
 exact ⟨by omega,by omega,h2,h3,fun j hj=>by unfold JX;rw [decide_eq_true (by omega)];rfl⟩
theorem aAN (s:wM) (hI:aeo s):bJ (fun s'=>aeo s'∧Z9 s'<Z9 s) (fun x s'=>axM x s s') (aBf s):=by
 unfold aBf alD
 dsimp only [T.rd,T.rl]
 obtain ⟨h0,h1,h2,h3,h4⟩:=hI
 refine au (fun c1=>au (fun c2=>?_) (fun c2=>?_)) (fun c1=>?_)
 ·have c1:s.i<(s.text.size:Int):=by simpa using c1
  refine .inr ⟨rfl,rfl,s.i.toNat,by simp only;omega,?_⟩
  rw [Int.toNat_of_nonneg (by omega)]
  have hg:JX s s.i=false:=by unfold JX;(simp only [show decide (s.i<1)=false from decide_eq_false (by omega),Bool.false_or];(simp only [chB,chA];revert c2;generalize rW s.text s.i=b;intro c2;by_cases h1:b≥97<;>by_cases h2:b≤122<;>by_cases h3:b≥48<;>by_cases h4:b≤57<;>simp_all))
  exact hg
 ·have c1:s.i<(s.text.size:Int):=by simpa using c1
  have hg:JX s s.i=true:=by unfold JX;(simp only [show decide (s.i<1)=false from decide_eq_false (by omega),Bool.false_or];(simp only [chB,chA];revert c2;generalize rW s.text s.i=b;intro c2;by_cases h1:b≥97<;>by_cases h2:b≤122<;>by_cases h3:b≥48<;>by_cases h4:b≤57<;>simp_all))
  rw [aK (x:=s.i+1) (by omega) (by omega)]
  refine ⟨⟨by simp only;omega,by simp only;omega,h2,h3,fun j hj=>?_⟩,by simp only [Z9];omega⟩
  by_cases hji:(j:Int)<s.i
  ·exact h4 j hji
  ·have:(j:Int)=s.i:=by simp only at hj;omega
   rw [this];exact hg
 ·have c1:(s.text.size:Int)≤s.i:=by simpa using c1
  exact .inl ⟨rfl,fun j hj=>h4 j (by omega)⟩
def U4:bK wM:=⟨0,51,[0,2,3],[],aEE,aEw,fun v _=>⟨gSr (v.getD 0 .junk),vg (v.getD 1 .junk),gI (v.getD 2 .junk)⟩,alD,fun s r=> {r with text:=s.text},fun s=>s,fun _ s=>s,[.ret,.exit 0],aqp,aeo,Z9⟩
abbrev NG:=U4.run
abbrev ajb:=U4.jJ
abbrev aBO:=U4.q
theorem azE (s:wM) (hI:aeo s):(alD s).all (fun _=>True):=by
 refine ⟨fun c1=>⟨?_,fun _=>trivial,fun _=>trivial⟩,fun _=>trivial⟩
 ·(obtain ⟨h0,h1,h2,h3,h4⟩:=hI;simp at c1;omega)
theorem aqO:U4.Ok:=⟨fun s=>by kernel_rfl,fun s=>by kernel_rfl,fun s=>rfl,fun s t r=>rfl,fun s=>rfl,fun s=>by kernel_rfl⟩
theorem aqH:U4.Pf (axM):=⟨aEg,fun _ _=>rfl,aAN,azE⟩
theorem aud:bg Tryz.prog aP (AN 0) (.loop F5) U4.lp:=bK.snd aqO aqH (aT (Γ:=WW) (K:=eu) (L:=aB) ad7 aF F5 (fun b hb=>by rw [show aC F5=[] by kernel_rfl] at hb;cases hb)) (fun s=>by kernel_rfl)
theorem awL (s:wM) (hE:aqp s):∃s',aeo s'∧axM (ajb s) s' (NG s):=bK.fin aqO aqH s hE
def Uu:List LV→T LV
 | [.v (.string w)]=> .ok (.v (.bool (gwB w)))
 |_=> .no
noncomputable def Qd:List LV→T LV:=gB Tryz.prog Tryz.f163.params.toList Uu
theorem ahL (w:ByteArray):bT Tryz.prog aP (WW) eu (fun i=>if i=4 then U4.lp else aB i) Tryz.f163 [.v (.string w)]=.br (decide ((w.size:Int)<1)) (.ok (.v (.bool false))) (.br (decide ((w.size:Int)>12)) (.ok (.v (.bool false))) (.req (0≤(0:Int)∧(0:Int)<(w.size:Int)) (.br (decide ((rW w (0:Int))<97)) (.ok (.v (.bool false))) (.req (0≤(0:Int)∧(0:Int)<(w.size:Int)) (.br (decide ((rW w (0:Int))>122)) (.ok (.v (.bool false))) (.req (aBO (⟨w,false,(1:Int)⟩:wM)) (.br (iy (ajb (⟨w,false,(1:Int)⟩:wM)) (.ret)) (.ok (.v (.bool (NG (⟨w,false,(1:Int)⟩:wM)).r))) (.ok (.v (.bool true)))))))))):=by kernel_rfl
theorem alv:Valid Tryz.prog aP 163 Qd:=aH Tryz.func163 rfl ad7 aF (L:=(fun i=>if i=4 then U4.lp else aB i)) (fun b hb=>by
 rw [show aC _=[F5] by kernel_rfl] at hb
 simp only [List.mem_cons,List.not_mem_nil,or_false] at hb
 subst hb
 exact aud) (fun args lv h=>by
 unfold Uu at h
 split at h
 ·simp only [canL,canX]
  rw [ahL]
  rename_i w
  obtain rfl:=h
  have bad:¬(((1≤w.size∧w.size≤12)∧(97≤rW w 0∧rW w 0≤122)))→LV.v (.bool false)=LV.v (.bool (gwB w)):=fun hn=>congrArg (fun z=>LV.v (.bool z)) (by
   rw [eq_comm,Bool.eq_false_iff];intro h
   simp only [gwB,chA,Bool.and_eq_true,decide_eq_true_eq] at h
   exact hn ⟨h.1,by omega,by omega⟩)
  refine ⟨fun c=>bad (by simp at c;omega),fun c=>⟨fun c2=>bad (by simp at c2;omega),fun c2=>⟨by simp at c;omega,fun c3=>bad (by simp at c3;omega),fun c3=>⟨by simp at c;omega,fun c4=>bad (by simp at c4;omega),fun c4=>?_⟩⟩⟩⟩
  simp only [decide_eq_false_iff_not] at c c2 c3 c4
  have hE:aqp ⟨w,false,1⟩:=⟨rfl,by simp only;omega,by simp only;omega,trivial⟩
  have key:gwB w=(List.range w.size).all fun i=>i==0 ||chB (rW w i):=by
   simp only [gwB,chA]
   rw [decide_eq_true (by omega),decide_eq_true (by omega),decide_eq_true (by omega)]
   rfl
  obtain ⟨s',_,hq⟩:=awL _ hE
  refine ⟨⟨hE,rfl,rfl⟩,?_⟩
  rw [key]
  rcases hq with ⟨h1,h2⟩ |⟨h1,h2,j,h3,h4⟩
  ·rw [h1]
   refine ⟨fun h=>(by cases h),fun _=>congrArg (fun z=>LV.v (.bool z)) ?_⟩
   rw [eq_comm,List.all_eq_true]
   intro i hi
   have:=h2 i (by show (i:Int)<(w.size:Int);have:=List.mem_range.1 hi;omega)
   simp only [JX] at this
   rw [show (NG ⟨w,false,1⟩).text=w from rfl] at this
   rw [Bool.or_eq_true] at this
   rcases this with h|h
   ·have:i=0:=by simp at h;omega
    simp [this]
   ·rw [h];simp
  ·rw [h1,h2]
   refine ⟨fun _=>congrArg (fun z=>LV.v (.bool z)) ?_,fun h=>by cases h⟩
   rw [eq_comm,Bool.eq_false_iff]
   intro hx
   rw [List.all_eq_true] at hx
   have h3:(j:Int)<(w.size:Int):=h3
   have:=hx j (List.mem_range.2 (by omega))
   simp only [JX] at h4
   rw [show (NG ⟨w,false,1⟩).text=w from rfl] at h4
   rw [Bool.or_eq_false_iff] at h4
   have h5:=h4.1
   simp at h5
   rw [h4.2] at this
   simp at this
   omega
 ·cases h)
def Uw:List LV→T LV
 | [.v (.string w)]=> .ok (.v (.bool (nameB w)))
 |_=> .no
noncomputable def Qe:List LV→T LV:=gB Tryz.prog Tryz.f159.params.toList Uw
noncomputable def aA5:Specs:=aZ [(163,Qd),(164,Qb)]
theorem aEi:∀g S,aA5 g=some S→Valid Tryz.prog aP g S:=aS (l:=[(163,Qd),(164,Qb)]) ⟨alv,als,trivial⟩
theorem ahM (w:ByteArray):bT Tryz.prog aP (aA5) eu aB Tryz.f159 [.v (.string w)]=.ok (.v (.bool ((gwB w)&&(!(Fj w))))):=by kernel_rfl
theorem aly:Valid Tryz.prog aP 159 Qe:=aH Tryz.func159 rfl aEi aF (aW (by kernel_rfl)) (fun args lv h=>by
 unfold Uw at h
 split at h
 ·simp only [canL,canX]
  rw [ahM]
  exact h
 ·cases h)
def acJ:List LV→T LV
 | [.v (.string w)]=> .ok (.v (.bool (nameB w)))
 |_=> .no
noncomputable def Yd:List LV→T LV:=gB Tryz.prog Tryz.f99.params.toList acJ
noncomputable def ao9:Specs:=aZ [(159,Qe),(165,wI),(166,BU),(169,BR)]
theorem awQ:∀g S,ao9 g=some S→Valid Tryz.prog aP g S:=aS (l:=[(159,Qe),(165,wI),(166,BU),(169,BR)]) ⟨aly,Qs,YD,YC,trivial⟩
noncomputable def aAM:Hand:=inl Tryz.prog aP ao9 (lm Tryz.prog aP (ao9) 20 2) 9
theorem aEf:dD Tryz.prog aP aAM:=bP awQ (dR awQ) 9
theorem aoy (w:ByteArray):bT Tryz.prog aP (ao9) aAM aB Tryz.f99 [.v (.string w)]=.br (((1:Int) !=1) ||((!(ByteArray.empty.toList==(ByteArray.mk #[]).toList)) ||((0:Int) !=0))) (.ok (.v (.bool false))) (.br (((2:Int) !=2) ||((decide ((3:Int)<1)) ||((decide ((3:Int)>7)) ||(!(nameB w))))) (.br (!false) (.ok (.v (.bool false))) (.ok (.v (.bool true)))) (.br (!true) (.ok (.v (.bool false))) (.ok (.v (.bool true))))):=by kernel_rfl
theorem atI:Valid Tryz.prog aP 99 Yd:=aH Tryz.func99 rfl awQ aEf (aW (by kernel_rfl)) (fun args lv h=>by
 unfold acJ at h
 split at h
 ·simp only [canL,canX]
  rw [aoy]
  rename_i w
  obtain rfl:=h
  refine ⟨fun c=>?_,fun _=>?_⟩
  ·exfalso
   rw [tu] at c
   revert c
   decide
  ·cases nameB w<;>simp [T.all]
 ·cases h)
end Go.Proofs.YtlihnbimgclogaaGreatDoor
namespace Go.Proofs.YtlihnbimgclogaaGreatDoor
open Go.Sx
def Ut:List LV→T LV
 | [.v (.agg ⟨[.int .i64 a,.int .i64 b]⟩),.v (.int .i64 n)]=> .ok (.v (.bool (inB n a b)))
 |_=> .no
noncomputable def uG:List LV→T LV:=gB Tryz.prog Tryz.f127.params.toList Ut
noncomputable def ao8:Specs:=aZ []
theorem awP:∀g S,ao8 g=some S→Valid Tryz.prog aP g S:=aS (l:=[]) trivial
theorem ahK (a b n:Int):bT Tryz.prog aP (ao8) eu aB Tryz.f127 [.v (.agg #[.int .i64 a,.int .i64 b]),.v (.int .i64 n)]=.ok (.v (.bool ((decide (n≥a))&&(decide (n≤b))))):=by kernel_rfl
theorem Nk:Valid Tryz.prog aP 127 uG:=aH Tryz.func127 rfl awP aF (aW (by kernel_rfl)) (fun args lv h=>by
 unfold Ut at h
 split at h
 ·simp only [canL,canX]
  rw [ahK]
  exact h
 ·cases h)
def acK:List LV→T LV
 | [.v (.agg ⟨[.int .i64 am,.int .i64 mo,.int .i64 _,.int .i64 _,.int .i64 _]⟩)]=> .ok (.v (.bool (decide (mo>am))))
 |_=> .no
noncomputable def Ye:List LV→T LV:=gB Tryz.prog Tryz.f150.params.toList acK
theorem aoz (am mo ga lo de:Int):bT Tryz.prog aP (ao8) eu aB Tryz.f150 [.v (.agg #[.int .i64 am,.int .i64 mo,.int .i64 ga,.int .i64 lo,.int .i64 de])]=.ok (.v (.bool (decide (mo>am)))):=by kernel_rfl
theorem atJ:Valid Tryz.prog aP 150 Ye:=aH Tryz.func150 rfl awP aF (aW (by kernel_rfl)) (fun args lv h=>by
 unfold acK at h
 split at h
 ·simp only [canL,canX]
  rw [aoz]
  exact h
 ·cases h)
def acL:List LV→T LV
 | [.v (.agg ⟨[.string _,.int .i64 _,.int .i64 _,.int .i64 mi,.int .i64 ma,.int .i64 _,.int .i64 fb,.int .i64 _]⟩)]=> .ok (.v (.bool (decide (mi≤ma)&&((fb==0) ||inB fb mi ma))))
 |_=> .no
noncomputable def Yf:List LV→T LV:=gB Tryz.prog Tryz.f151.params.toList acL
theorem aoA (nm:ByteArray) (at_ ph mi ma st fb ow:Int):bT Tryz.prog aP (ao8) eu aB Tryz.f151 [.v (.agg #[.string nm,.int .i64 at_,.int .i64 ph,.int .i64 mi,.int .i64 ma,.int .i64 st,.int .i64 fb,.int .i64 ow])]=.ok (.v (.bool ((decide (mi≤ma))&&((fb==0) ||((decide (fb≥mi))&&(decide (fb≤ma))))))):=by kernel_rfl
theorem atK:Valid Tryz.prog aP 151 Yf:=aH Tryz.func151 rfl awP aF (aW (by kernel_rfl)) (fun args lv h=>by
 unfold acL at h
 split at h
 ·simp only [canL,canX]
  rw [aoA]
  exact h
 ·cases h)
def abU:List LV→T LV
 | [.v (.agg ⟨[.string nm,.int .i64 xZ,.int .i64 li,.int .i64 ne,.int .i64 ra,.int .i64 he,.int .i64 am,.int .i64 mo,.int .i64 ga,.int .i64 lo,.int .i64 de]⟩),.v (.int .i64 i)]=> .req (0≤i) (.ok (.v (.bool (D8 i (nm,xZ,li,ne,(ra,he),am,mo,ga,lo,de)))))
 |_=> .no
noncomputable def XD:List LV→T LV:=gB Tryz.prog Tryz.f126.params.toList abU
noncomputable def arT:Specs:=aZ [(127,uG),(150,Ye)]
theorem aA3:∀g S,arT g=some S→Valid Tryz.prog aP g S:=aS (l:=[(127,uG),(150,Ye)]) ⟨Nk,atJ,trivial⟩
theorem anS (nm:ByteArray) (xZ li ne ra he am mo ga lo de i:Int):bT Tryz.prog aP (arT) eu aB Tryz.f126 [.v (.agg #[.string nm,.int .i64 xZ,.int .i64 li,.int .i64 ne,.int .i64 ra,.int .i64 he,.int .i64 am,.int .i64 mo,.int .i64 ga,.int .i64 lo,.int .i64 de]),.v (.int .i64 i)]=.br (if i==0 then (xZ !=(-1)) ||((decide (i>0))&&((decide (xZ<0)) ||(decide (xZ≥i)))) else (decide (i>0))&&((decide (xZ<0)) ||(decide (xZ≥i)))) (.ok (.v (.bool false))) (.br ((!(inB li (1:Int) (1000:Int))) ||(!(inB ne (1:Int) (1000:Int)))) (.ok (.v (.bool false))) (.br ((!((ra==0)&&(he==0)))&&(!(inB ra (1:Int) (1000:Int)) ||(!(inB he (0:Int) (1000000:Int))))) (.ok (.v (.bool false))) (.br ((am==0)&&((mo==0)&&((ga==0)&&((lo==0)&&(de==0))))) (.ok (.v (.bool true))) (.ok (.v (.bool ((inB am (0:Int) (200000:Int))&&((inB mo (0:Int) (200000:Int))&&((inB ga (0:Int) (1000:Int))&&((inB lo (0:Int) (1000:Int))&&((inB de (1:Int) (1000000:Int))&&(decide (mo>am))))))))))))):=by kernel_rfl
theorem as9:Valid Tryz.prog aP 126 XD:=aH Tryz.func126 rfl aA3 aF (aW (by kernel_rfl)) (fun args lv h=>by
 unfold abU at h
 split at h
 ·simp only [canL,canX]
  rw [anS]
  obtain ⟨hi,h⟩:=h
  exact axw (K:=fun z=>LV.v (.bool z)=lv) hi h
 ·cases h)
def abV:List LV→T LV
 | [.agg [.xl (.pair .str (.pair (.int .i64) (.pair (.int .i64) (.pair (.int .i64) (.pair (.pair (.int .i64) (.int .i64)) (.pair (.int .i64) (.pair (.int .i64) (.pair (.int .i64) (.pair (.int .i64) (.int .i64)))))))))) cs,.xl (.str) os,.xl (.pair .str (.pair (.int .i64) (.pair (.int .i64) (.int .i64)))) _,.xl (.pair .str (.pair (.int .i64) (.pair (.int .i64) (.pair (.int .i64) (.pair (.int .i64) (.pair (.int .i64) (.pair (.int .i64) (.int .i64)))))))) _,.xl (.pair .str (.int .i64)) _],.v (.agg ⟨[.string nm,.int .i64 at_,.int .i64 ph,.int .i64 mi,.int .i64 ma,.int .i64 st,.int .i64 fb,.int .i64 ow]⟩)]=> .req ((List.length cs:Int)≤1000∧(List.length os:Int)≤1000) (.ok (.v (.bool (FW cs.length os.length (nm,at_,ph,mi,ma,st,fb,ow)))))
 |_=> .no
noncomputable def XE:List LV→T LV:=gB Tryz.prog Tryz.f128.params.toList abV
noncomputable def arS:Specs:=aZ [(127,uG),(151,Yf)]
theorem aA2:∀g S,arS g=some S→Valid Tryz.prog aP g S:=aS (l:=[(127,uG),(151,Yf)]) ⟨Nk,atK,trivial⟩
theorem anT (cs:List Cd) (os:List ByteArray) (ks:List Ko) (gs:List Ch) (bs:List Ba) (nm:ByteArray) (at_ ph mi ma st fb ow:Int):bT Tryz.prog aP (arS) eu aB Tryz.f128 [.agg [.xl dX cs,.xl .str os,.xl dY ks,.xl dS gs,.xl dZ bs],.v (.agg #[.string nm,.int .i64 at_,.int .i64 ph,.int .i64 mi,.int .i64 ma,.int .i64 st,.int .i64 fb,.int .i64 ow])]=.ok (.v (.bool ((inB at_ (0:Int) (IntKind.i64.wrap ((List.length cs:Int)-1)))&&((inB ow (0:Int) (IntKind.i64.wrap ((List.length os:Int)-1)))&&((inB ph (1:Int) (7:Int))&&((inB mi (1:Int) (80:Int))&&((inB ma (1:Int) (80:Int))&&((inB st (1:Int) (80:Int))&&((inB fb (0:Int) (80:Int))&&(decide (mi≤ma)&&((fb==0) ||inB fb mi ma))))))))))):=by kernel_rfl
theorem ata:Valid Tryz.prog aP 128 XE:=aH Tryz.func128 rfl aA2 aF (aW (by kernel_rfl)) (fun args lv h=>by
 unfold abV at h
 split at h
 ·simp only [canL,canX]
  rw [anT]
  rename_i cs os _ _ _ _ at_ ph mi ma st fb ow
  obtain ⟨⟨h1,h2⟩,rfl⟩:=h
  refine congrArg (fun z=>LV.v (.bool z)) ?_
  rw [aK (x:=(List.length cs:Int)-1) (by omega) (by omega),aK (x:=(List.length os:Int)-1) (by omega) (by omega)]
  unfold FW chW
  rw [Bool.eq_iff_iff]
  simp only [Bool.and_eq_true,Bool.or_eq_true,dN,decide_eq_true_eq,beq_iff_eq]
  omega
 ·cases h)
end Go.Proofs.YtlihnbimgclogaaGreatDoor
namespace Go.Proofs.YtlihnbimgclogaaGreatDoor
open Go.Sx
structure iR where
 l:List Cd
 n:Int
 i:Int
 ah:List Cd
 aA:List ByteArray
 ai:List Ko
 ak:List Ch
 aJ:List Ba
 out:List ByteArray
def aDt (s:iR):List LV:=[.own 0 0,.os 1 1 0 (List.length s.out),.xl dX s.l,.v (.int .i64 s.n),.v (.int .i64 s.i)]
def aCs (s:iR):List aU:=[⟨[.xl dX s.ah,.xl .str s.aA,.xl dY s.ai,.xl dS s.ak,.xl dZ s.aJ],28,.cl,false⟩,⟨[],9,.vec .str s.out,false⟩]
noncomputable def Bh:Code:=((aC (Tryz.f98.body.getD .skip))[0]?).getD .skip
def QO (s:iR):T (Rd iR):=
 .br (decide (s.i<s.n)) (.req (0≤s.i∧s.i<(List.length s.l:Int)) (.req (0+(List.length s.out)=List.length s.out∧((List.length s.out+List.length ([(fO s.l s.i).1]):Nat):Int)*16≤2^47∧((List.length s.out+List.length ([(fO s.l s.i).1]):Nat):Int)<2^62) (.req (0=0∧(List.length s.out+List.length ([(fO s.l s.i).1]))=List.length (s.out++([(fO s.l s.i).1]))) (.ok (.next {s with i:=(IntKind.i64.wrap (s.i+1)),out:=(s.out++([(fO s.l s.i).1]))}))))) (.rl s.out (.ok (.stop (.exit 0) s)))
abbrev aa0 (s:iR):=(QO s).rd s
def UX (s:iR):Prop:=s.i=0∧s.n=(s.l.length:Int)∧s.n≤1000∧(s.out.length:Int)≤10000
def Md (s:iR):Prop:=0≤s.i∧s.i≤s.n∧s.n=(s.l.length:Int)∧s.n≤1000∧(s.out.length:Int)≤10000+s.i
def OB (s:iR):Nat:=(s.n-s.i).toNat
def aku (x:Ex) (_ s':iR):Prop:=x=.exit 0∧s'.i=s'.n
theorem aAj:∀s,UX s→Md s:=by
 intro s h
 obtain ⟨h0,h1,h2,h3⟩:=h
 exact ⟨by omega,by omega,h1,h2,by omega⟩
theorem av2 (s:iR) (hI:Md s):bJ (fun s'=>Md s'∧OB s'<OB s) (fun x s'=>aku x s s') (aa0 s):=by
 unfold aa0 QO
 dsimp only [T.rd,T.rl]
 obtain ⟨h0,h1,h2,h3,h4⟩:=hI
 refine au (fun c1=>?_) (fun c1=>?_)
 ·have c1:s.i<s.n:=by simpa using c1
  rw [aK (x:=s.i+1) (by omega) (by omega)]
  exact ⟨⟨by simp only;omega,by simp only;omega,h2,h3,by simp only [List.length_append,List.length_cons,List.length_nil];omega⟩,by simp only [OB];omega⟩
 ·have c1:s.n≤s.i:=by simpa using c1
  exact ⟨rfl,by omega⟩
def EM:bK iR:=⟨0,80,[1,3,15,16,17],[.nl 3 9 .str],aDt,aCs,fun v b=>⟨aQ dX (v.getD 2 .junk),gI (v.getD 3 .junk),gI (v.getD 4 .junk),aQ dX (aX (aO b 0) 0),aQ .str (aX (aO b 0) 1),aQ dY (aX (aO b 0) 2),aQ dS (aX (aO b 0) 3),aQ dZ (aX (aO b 0) 4),iT .str (aO b 1)⟩,QO,fun s r=> {r with l:=s.l,n:=s.n,ah:=s.ah,aA:=s.aA,ai:=s.ai,ak:=s.ak,aJ:=s.aJ},fun s=>s,fun _ s=>s,[.exit 0],UX,Md,OB⟩
abbrev gK:=EM.run
abbrev apE:=EM.jJ
abbrev ayo:=EM.q
theorem au4 (s:iR) (hI:Md s):(QO s).all (fun _=>True):=by
 refine ⟨fun c1=>⟨?_,?_,?_,trivial⟩,fun c1=>⟨⟨rfl,rfl⟩,trivial⟩⟩
 all_goals ((obtain ⟨h0,h1,h2,h3,h4⟩:=hI;(try simp only [decide_eq_true_eq] at c1);first|omega|(refine ⟨by omega,?_,?_⟩<;>simp only [List.length_cons,List.length_nil]<;>omega) |(simp only [List.length_append,List.length_cons,List.length_nil];omega) |exact ⟨rfl,by simp⟩ |exact ⟨rfl,rfl⟩))
noncomputable def Ip:Specs:=aZ []
theorem KN:∀g S,Ip g=some S→Valid Tryz.prog aP g S:=aS (l:=[]) trivial
theorem V5:EM.Ok:=⟨fun s=>by kernel_rfl,fun s=>by kernel_rfl,fun s=>rfl,fun s t r=>rfl,fun s=>rfl,fun s=>by kernel_rfl⟩
theorem VJ:EM.Pf (aku):=⟨aAj,fun _ _=>rfl,av2,au4⟩
theorem ami:bg Tryz.prog aP (AN 0) (.loop Bh) EM.lp:=bK.snd V5 VJ (aT (Γ:=Ip) (K:=eu) (L:=aB) KN aF Bh (fun b hb=>by rw [show aC Bh=[] by kernel_rfl] at hb;cases hb)) (fun s=>by kernel_rfl)
theorem anM (s:iR) (hE:UX s):∃s',Md s'∧aku (apE s) s' (gK s):=bK.fin V5 VJ s hE
theorem anL (s:iR) (hE:UX s):(gK s).out=s.out++s.l.map (·.1):=by
 have hk:=bK.uO V5 VJ (fun s=>s.out++(s.l.drop s.i.toNat).map (·.1)) (fun s hI=>by
  obtain ⟨h0,h1,h2,h3,h4⟩:=hI
  show bJ _ _ (aa0 s)
  unfold aa0 QO
  dsimp only [T.rd,T.rl]
  refine au (fun c1=>?_) (fun c1=>?_)
  ·have c1:s.i<s.n:=by simpa using c1
   rw [aK (x:=s.i+1) (by omega) (by omega)]
   show _++_=_++_
   simp only
   rw [(Td h0 (show s.i<s.l.length by omega)).1]
   simp
  ·rfl) s hE
 obtain ⟨s',hI,q1,q2⟩:=anM s hE
 have q3:(gK s).i=(gK s).n:=q2
 have hn:(gK s).n=(s.l.length:Int):=hE.2.1
 have hl:(gK s).l=s.l:=rfl
 rw [q3,hn,hl,List.drop_eq_nil_of_le (by omega),hE.1] at hk
 simpa using hk
structure jB where
 l:List ByteArray
 n:Int
 i:Int
 ah:List Cd
 aA:List ByteArray
 ai:List Ko
 ak:List Ch
 aJ:List Ba
 out:List ByteArray
def aDs (s:jB):List LV:=[.own 0 0,.os 1 1 0 (List.length s.out),.xl .str s.l,.v (.int .i64 s.n),.v (.int .i64 s.i)]
def aCr (s:jB):List aU:=[⟨[.xl dX s.ah,.xl .str s.aA,.xl dY s.ai,.xl dS s.ak,.xl dZ s.aJ],28,.cl,false⟩,⟨[],9,.vec .str s.out,false⟩]
noncomputable def Bg:Code:=((aC (Tryz.f98.body.getD .skip))[1]?).getD .skip
def QN (s:jB):T (Rd jB):=
 .br (decide (s.i<s.n)) (.req (0≤s.i∧s.i<(List.length s.l:Int)) (.req (0+(List.length s.out)=List.length s.out∧((List.length s.out+List.length ([(gS s.l s.i)]):Nat):Int)*16≤2^47∧((List.length s.out+List.length ([(gS s.l s.i)]):Nat):Int)<2^62) (.req (0=0∧(List.length s.out+List.length ([(gS s.l s.i)]))=List.length (s.out++([(gS s.l s.i)]))) (.ok (.next {s with i:=(IntKind.i64.wrap (s.i+1)),out:=(s.out++([(gS s.l s.i)]))}))))) (.rl s.out (.ok (.stop (.exit 2) s)))
abbrev aaZ (s:jB):=(QN s).rd s
def UW (s:jB):Prop:=s.i=0∧s.n=(s.l.length:Int)∧s.n≤1000∧(s.out.length:Int)≤10000
def Mc (s:jB):Prop:=0≤s.i∧s.i≤s.n∧s.n=(s.l.length:Int)∧s.n≤1000∧(s.out.length:Int)≤10000+s.i
def OA (s:jB):Nat:=(s.n-s.i).toNat
def akt (x:Ex) (_ s':jB):Prop:=x=.exit 2∧s'.i=s'.n
theorem aAi:∀s,UW s→Mc s:=by
 intro s h
 obtain ⟨h0,h1,h2,h3⟩:=h
 exact ⟨by omega,by omega,h1,h2,by omega⟩
theorem av1 (s:jB) (hI:Mc s):bJ (fun s'=>Mc s'∧OA s'<OA s) (fun x s'=>akt x s s') (aaZ s):=by
 unfold aaZ QN
 dsimp only [T.rd,T.rl]
 obtain ⟨h0,h1,h2,h3,h4⟩:=hI
 refine au (fun c1=>?_) (fun c1=>?_)
 ·have c1:s.i<s.n:=by simpa using c1
  rw [aK (x:=s.i+1) (by omega) (by omega)]
  exact ⟨⟨by simp only;omega,by simp only;omega,h2,h3,by simp only [List.length_append,List.length_cons,List.length_nil];omega⟩,by simp only [OA];omega⟩
 ·have c1:s.n≤s.i:=by simpa using c1
  exact ⟨rfl,by omega⟩
def EL:bK jB:=⟨0,80,[1,3,28,29,30],[],aDs,aCr,fun v b=>⟨aQ .str (v.getD 2 .junk),gI (v.getD 3 .junk),gI (v.getD 4 .junk),aQ dX (aX (aO b 0) 0),aQ .str (aX (aO b 0) 1),aQ dY (aX (aO b 0) 2),aQ dS (aX (aO b 0) 3),aQ dZ (aX (aO b 0) 4),iT .str (aO b 1)⟩,QN,fun s r=> {r with l:=s.l,n:=s.n,ah:=s.ah,aA:=s.aA,ai:=s.ai,ak:=s.ak,aJ:=s.aJ},fun s=>s,fun _ s=>s,[.exit 2],UW,Mc,OA⟩
abbrev iw:=EL.run
abbrev apD:=EL.jJ
abbrev ayn:=EL.q
theorem au3 (s:jB) (hI:Mc s):(QN s).all (fun _=>True):=by
 refine ⟨fun c1=>⟨?_,?_,?_,trivial⟩,fun c1=>⟨⟨rfl,rfl⟩,trivial⟩⟩
 all_goals ((obtain ⟨h0,h1,h2,h3,h4⟩:=hI;(try simp only [decide_eq_true_eq] at c1);first|omega|(refine ⟨by omega,?_,?_⟩<;>simp only [List.length_cons,List.length_nil]<;>omega) |(simp only [List.length_append,List.length_cons,List.length_nil];omega) |exact ⟨rfl,by simp⟩ |exact ⟨rfl,rfl⟩))
theorem V4:EL.Ok:=⟨fun s=>by kernel_rfl,fun s=>by kernel_rfl,fun s=>rfl,fun s t r=>rfl,fun s=>rfl,fun s=>by kernel_rfl⟩
theorem VI:EL.Pf (akt):=⟨aAi,fun _ _=>rfl,av1,au3⟩
theorem amh:bg Tryz.prog aP (AN 0) (.loop Bg) EL.lp:=bK.snd V4 VI (aT (Γ:=Ip) (K:=eu) (L:=aB) KN aF Bg (fun b hb=>by rw [show aC Bg=[] by kernel_rfl] at hb;cases hb)) (fun s=>by kernel_rfl)
theorem anK (s:jB) (hE:UW s):∃s',Mc s'∧akt (apD s) s' (iw s):=bK.fin V4 VI s hE
theorem anJ (s:jB) (hE:UW s):(iw s).out=s.out++s.l:=by
 have hk:=bK.uO V4 VI (fun s=>s.out++(s.l.drop s.i.toNat)) (fun s hI=>by
  obtain ⟨h0,h1,h2,h3,h4⟩:=hI
  show bJ _ _ (aaZ s)
  unfold aaZ QN
  dsimp only [T.rd,T.rl]
  refine au (fun c1=>?_) (fun c1=>?_)
  ·have c1:s.i<s.n:=by simpa using c1
   rw [aK (x:=s.i+1) (by omega) (by omega)]
   show _++_=_++_
   simp only
   rw [(uq h0 (show s.i<s.l.length by omega)).1]
   simp
  ·rfl) s hE
 obtain ⟨s',hI,q1,q2⟩:=anK s hE
 have q3:(iw s).i=(iw s).n:=q2
 have hn:(iw s).n=(s.l.length:Int):=hE.2.1
 have hl:(iw s).l=s.l:=rfl
 rw [q3,hn,hl,List.drop_eq_nil_of_le (by omega),hE.1] at hk
 simpa using hk
structure jT where
 l:List Ko
 n:Int
 i:Int
 ah:List Cd
 aA:List ByteArray
 ai:List Ko
 ak:List Ch
 aJ:List Ba
 out:List ByteArray
def aDr (s:jT):List LV:=[.own 0 0,.os 1 1 0 (List.length s.out),.xl dY s.l,.v (.int .i64 s.n),.v (.int .i64 s.i)]
def aCq (s:jT):List aU:=[⟨[.xl dX s.ah,.xl .str s.aA,.xl dY s.ai,.xl dS s.ak,.xl dZ s.aJ],28,.cl,false⟩,⟨[],9,.vec .str s.out,false⟩]
noncomputable def Bf:Code:=((aC (Tryz.f98.body.getD .skip))[2]?).getD .skip
def QM (s:jT):T (Rd jT):=
 .br (decide (s.i<s.n)) (.req (0≤s.i∧s.i<(List.length s.l:Int)) (.req (0+(List.length s.out)=List.length s.out∧((List.length s.out+List.length ([(nD s.l s.i).1]):Nat):Int)*16≤2^47∧((List.length s.out+List.length ([(nD s.l s.i).1]):Nat):Int)<2^62) (.req (0=0∧(List.length s.out+List.length ([(nD s.l s.i).1]))=List.length (s.out++([(nD s.l s.i).1]))) (.ok (.next {s with i:=(IntKind.i64.wrap (s.i+1)),out:=(s.out++([(nD s.l s.i).1]))}))))) (.rl s.out (.ok (.stop (.exit 4) s)))
abbrev aaY (s:jT):=(QM s).rd s
def UU (s:jT):Prop:=s.i=0∧s.n=(s.l.length:Int)∧s.n≤1000∧(s.out.length:Int)≤10000
def L9 (s:jT):Prop:=0≤s.i∧s.i≤s.n∧s.n=(s.l.length:Int)∧s.n≤1000∧(s.out.length:Int)≤10000+s.i
def Oz (s:jT):Nat:=(s.n-s.i).toNat
def aks (x:Ex) (_ s':jT):Prop:=x=.exit 4∧s'.i=s'.n
theorem aAh:∀s,UU s→L9 s:=by
 intro s h
 obtain ⟨h0,h1,h2,h3⟩:=h
 exact ⟨by omega,by omega,h1,h2,by omega⟩
theorem avZ (s:jT) (hI:L9 s):bJ (fun s'=>L9 s'∧Oz s'<Oz s) (fun x s'=>aks x s s') (aaY s):=by
 unfold aaY QM
 dsimp only [T.rd,T.rl]
 obtain ⟨h0,h1,h2,h3,h4⟩:=hI
 refine au (fun c1=>?_) (fun c1=>?_)
 ·have c1:s.i<s.n:=by simpa using c1
  rw [aK (x:=s.i+1) (by omega) (by omega)]
  exact ⟨⟨by simp only;omega,by simp only;omega,h2,h3,by simp only [List.length_append,List.length_cons,List.length_nil];omega⟩,by simp only [Oz];omega⟩
 ·have c1:s.n≤s.i:=by simpa using c1
  exact ⟨rfl,by omega⟩
def EK:bK jT:=⟨0,80,[1,3,41,42,43],[],aDr,aCq,fun v b=>⟨aQ dY (v.getD 2 .junk),gI (v.getD 3 .junk),gI (v.getD 4 .junk),aQ dX (aX (aO b 0) 0),aQ .str (aX (aO b 0) 1),aQ dY (aX (aO b 0) 2),aQ dS (aX (aO b 0) 3),aQ dZ (aX (aO b 0) 4),iT .str (aO b 1)⟩,QM,fun s r=> {r with l:=s.l,n:=s.n,ah:=s.ah,aA:=s.aA,ai:=s.ai,ak:=s.ak,aJ:=s.aJ},fun s=>s,fun _ s=>s,[.exit 4],UU,L9,Oz⟩
abbrev ja:=EK.run
abbrev apC:=EK.jJ
abbrev aym:=EK.q
theorem au2 (s:jT) (hI:L9 s):(QM s).all (fun _=>True):=by
 refine ⟨fun c1=>⟨?_,?_,?_,trivial⟩,fun c1=>⟨⟨rfl,rfl⟩,trivial⟩⟩
 all_goals ((obtain ⟨h0,h1,h2,h3,h4⟩:=hI;(try simp only [decide_eq_true_eq] at c1);first|omega|(refine ⟨by omega,?_,?_⟩<;>simp only [List.length_cons,List.length_nil]<;>omega) |(simp only [List.length_append,List.length_cons,List.length_nil];omega) |exact ⟨rfl,by simp⟩ |exact ⟨rfl,rfl⟩))
theorem V3:EK.Ok:=⟨fun s=>by kernel_rfl,fun s=>by kernel_rfl,fun s=>rfl,fun s t r=>rfl,fun s=>rfl,fun s=>by kernel_rfl⟩
theorem VH:EK.Pf (aks):=⟨aAh,fun _ _=>rfl,avZ,au2⟩
theorem amg:bg Tryz.prog aP (AN 0) (.loop Bf) EK.lp:=bK.snd V3 VH (aT (Γ:=Ip) (K:=eu) (L:=aB) KN aF Bf (fun b hb=>by rw [show aC Bf=[] by kernel_rfl] at hb;cases hb)) (fun s=>by kernel_rfl)
theorem anI (s:jT) (hE:UU s):∃s',L9 s'∧aks (apC s) s' (ja s):=bK.fin V3 VH s hE
theorem anH (s:jT) (hE:UU s):(ja s).out=s.out++s.l.map (·.1):=by
 have hk:=bK.uO V3 VH (fun s=>s.out++(s.l.drop s.i.toNat).map (·.1)) (fun s hI=>by
  obtain ⟨h0,h1,h2,h3,h4⟩:=hI
  show bJ _ _ (aaY s)
  unfold aaY QM
  dsimp only [T.rd,T.rl]
  refine au (fun c1=>?_) (fun c1=>?_)
  ·have c1:s.i<s.n:=by simpa using c1
   rw [aK (x:=s.i+1) (by omega) (by omega)]
   show _++_=_++_
   simp only
   rw [(Iq h0 (show s.i<s.l.length by omega)).1]
   simp
  ·rfl) s hE
 obtain ⟨s',hI,q1,q2⟩:=anI s hE
 have q3:(ja s).i=(ja s).n:=q2
 have hn:(ja s).n=(s.l.length:Int):=hE.2.1
 have hl:(ja s).l=s.l:=rfl
 rw [q3,hn,hl,List.drop_eq_nil_of_le (by omega),hE.1] at hk
 simpa using hk
structure kS where
 l:List Ch
 n:Int
 i:Int
 ah:List Cd
 aA:List ByteArray
 ai:List Ko
 ak:List Ch
 aJ:List Ba
 out:List ByteArray
def aDq (s:kS):List LV:=[.own 0 0,.os 1 1 0 (List.length s.out),.xl dS s.l,.v (.int .i64 s.n),.v (.int .i64 s.i)]
def aCp (s:kS):List aU:=[⟨[.xl dX s.ah,.xl .str s.aA,.xl dY s.ai,.xl dS s.ak,.xl dZ s.aJ],28,.cl,false⟩,⟨[],9,.vec .str s.out,false⟩]
noncomputable def Be:Code:=((aC (Tryz.f98.body.getD .skip))[3]?).getD .skip
def QL (s:kS):T (Rd kS):=
 .br (decide (s.i<s.n)) (.req (0≤s.i∧s.i<(List.length s.l:Int)) (.req (0+(List.length s.out)=List.length s.out∧((List.length s.out+List.length ([(bC s.l s.i).1]):Nat):Int)*16≤2^47∧((List.length s.out+List.length ([(bC s.l s.i).1]):Nat):Int)<2^62) (.req (0=0∧(List.length s.out+List.length ([(bC s.l s.i).1]))=List.length (s.out++([(bC s.l s.i).1]))) (.ok (.next {s with i:=(IntKind.i64.wrap (s.i+1)),out:=(s.out++([(bC s.l s.i).1]))}))))) (.rl s.out (.ok (.stop (.exit 6) s)))
abbrev aaX (s:kS):=(QL s).rd s
def UR (s:kS):Prop:=s.i=0∧s.n=(s.l.length:Int)∧s.n≤1000∧(s.out.length:Int)≤10000
def L8 (s:kS):Prop:=0≤s.i∧s.i≤s.n∧s.n=(s.l.length:Int)∧s.n≤1000∧(s.out.length:Int)≤10000+s.i
def Oy (s:kS):Nat:=(s.n-s.i).toNat
def akr (x:Ex) (_ s':kS):Prop:=x=.exit 6∧s'.i=s'.n
theorem aAg:∀s,UR s→L8 s:=by
 intro s h
 obtain ⟨h0,h1,h2,h3⟩:=h
 exact ⟨by omega,by omega,h1,h2,by omega⟩
theorem avY (s:kS) (hI:L8 s):bJ (fun s'=>L8 s'∧Oy s'<Oy s) (fun x s'=>akr x s s') (aaX s):=by
 unfold aaX QL
 dsimp only [T.rd,T.rl]
 obtain ⟨h0,h1,h2,h3,h4⟩:=hI
 refine au (fun c1=>?_) (fun c1=>?_)
 ·have c1:s.i<s.n:=by simpa using c1
  rw [aK (x:=s.i+1) (by omega) (by omega)]
  exact ⟨⟨by simp only;omega,by simp only;omega,h2,h3,by simp only [List.length_append,List.length_cons,List.length_nil];omega⟩,by simp only [Oy];omega⟩
 ·have c1:s.n≤s.i:=by simpa using c1
  exact ⟨rfl,by omega⟩
def EJ:bK kS:=⟨0,80,[1,3,54,55,56],[],aDq,aCp,fun v b=>⟨aQ dS (v.getD 2 .junk),gI (v.getD 3 .junk),gI (v.getD 4 .junk),aQ dX (aX (aO b 0) 0),aQ .str (aX (aO b 0) 1),aQ dY (aX (aO b 0) 2),aQ dS (aX (aO b 0) 3),aQ dZ (aX (aO b 0) 4),iT .str (aO b 1)⟩,QL,fun s r=> {r with l:=s.l,n:=s.n,ah:=s.ah,aA:=s.aA,ai:=s.ai,ak:=s.ak,aJ:=s.aJ},fun s=>s,fun _ s=>s,[.exit 6],UR,L8,Oy⟩
abbrev jX:=EJ.run
abbrev apB:=EJ.jJ
abbrev ayl:=EJ.q
theorem au1 (s:kS) (hI:L8 s):(QL s).all (fun _=>True):=by
 refine ⟨fun c1=>⟨?_,?_,?_,trivial⟩,fun c1=>⟨⟨rfl,rfl⟩,trivial⟩⟩
 all_goals ((obtain ⟨h0,h1,h2,h3,h4⟩:=hI;(try simp only [decide_eq_true_eq] at c1);first|omega|(refine ⟨by omega,?_,?_⟩<;>simp only [List.length_cons,List.length_nil]<;>omega) |(simp only [List.length_append,List.length_cons,List.length_nil];omega) |exact ⟨rfl,by simp⟩ |exact ⟨rfl,rfl⟩))
theorem VZ:EJ.Ok:=⟨fun s=>by kernel_rfl,fun s=>by kernel_rfl,fun s=>rfl,fun s t r=>rfl,fun s=>rfl,fun s=>by kernel_rfl⟩
theorem VG:EJ.Pf (akr):=⟨aAg,fun _ _=>rfl,avY,au1⟩
theorem amf:bg Tryz.prog aP (AN 0) (.loop Be) EJ.lp:=bK.snd VZ VG (aT (Γ:=Ip) (K:=eu) (L:=aB) KN aF Be (fun b hb=>by rw [show aC Be=[] by kernel_rfl] at hb;cases hb)) (fun s=>by kernel_rfl)
theorem anG (s:kS) (hE:UR s):∃s',L8 s'∧akr (apB s) s' (jX s):=bK.fin VZ VG s hE
theorem anF (s:kS) (hE:UR s):(jX s).out=s.out++s.l.map (·.1):=by
 have hk:=bK.uO VZ VG (fun s=>s.out++(s.l.drop s.i.toNat).map (·.1)) (fun s hI=>by
  obtain ⟨h0,h1,h2,h3,h4⟩:=hI
  show bJ _ _ (aaX s)
  unfold aaX QL
  dsimp only [T.rd,T.rl]
  refine au (fun c1=>?_) (fun c1=>?_)
  ·have c1:s.i<s.n:=by simpa using c1
   rw [aK (x:=s.i+1) (by omega) (by omega)]
   show _++_=_++_
   simp only
   rw [(Tc h0 (show s.i<s.l.length by omega)).1]
   simp
  ·rfl) s hE
 obtain ⟨s',hI,q1,q2⟩:=anG s hE
 have q3:(jX s).i=(jX s).n:=q2
 have hn:(jX s).n=(s.l.length:Int):=hE.2.1
 have hl:(jX s).l=s.l:=rfl
 rw [q3,hn,hl,List.drop_eq_nil_of_le (by omega),hE.1] at hk
 simpa using hk
structure mQ where
 l:List Ba
 n:Int
 i:Int
 out:List ByteArray
def aDp (s:mQ):List LV:=[.os 0 1 0 (List.length s.out),.xl dZ s.l,.v (.int .i64 s.n),.v (.int .i64 s.i)]
def aCo (s:mQ):List aU:=[⟨[],9,.vec .str s.out,false⟩]
noncomputable def Bd:Code:=((aC (Tryz.f98.body.getD .skip))[4]?).getD .skip
def QK (s:mQ):T (Rd mQ):=
 .br (decide (s.i<s.n)) (.req (0≤s.i∧s.i<(List.length s.l:Int)) (.req (0+(List.length s.out)=List.length s.out∧((List.length s.out+List.length ([(Ce s.l s.i).1]):Nat):Int)*16≤2^47∧((List.length s.out+List.length ([(Ce s.l s.i).1]):Nat):Int)<2^62) (.req (0=0∧(List.length s.out+List.length ([(Ce s.l s.i).1]))=List.length (s.out++([(Ce s.l s.i).1]))) (.ok (.next {s with i:=(IntKind.i64.wrap (s.i+1)),out:=(s.out++([(Ce s.l s.i).1]))}))))) (.rl s.out (.ok (.stop (.exit 8) s)))
abbrev aaW (s:mQ):=(QK s).rd s
def UQ (s:mQ):Prop:=s.i=0∧s.n=(s.l.length:Int)∧s.n≤1000∧(s.out.length:Int)≤10000
def L6 (s:mQ):Prop:=0≤s.i∧s.i≤s.n∧s.n=(s.l.length:Int)∧s.n≤1000∧(s.out.length:Int)≤10000+s.i
def Ox (s:mQ):Nat:=(s.n-s.i).toNat
def akq (x:Ex) (_ s':mQ):Prop:=x=.exit 8∧s'.i=s'.n
theorem aAf:∀s,UQ s→L6 s:=by
 intro s h
 obtain ⟨h0,h1,h2,h3⟩:=h
 exact ⟨by omega,by omega,h1,h2,by omega⟩
theorem avX (s:mQ) (hI:L6 s):bJ (fun s'=>L6 s'∧Ox s'<Ox s) (fun x s'=>akq x s s') (aaW s):=by
 unfold aaW QK
 dsimp only [T.rd,T.rl]
 obtain ⟨h0,h1,h2,h3,h4⟩:=hI
 refine au (fun c1=>?_) (fun c1=>?_)
 ·have c1:s.i<s.n:=by simpa using c1
  rw [aK (x:=s.i+1) (by omega) (by omega)]
  exact ⟨⟨by simp only;omega,by simp only;omega,h2,h3,by simp only [List.length_append,List.length_cons,List.length_nil];omega⟩,by simp only [Ox];omega⟩
 ·have c1:s.n≤s.i:=by simpa using c1
  exact ⟨rfl,by omega⟩
def EI:bK mQ:=⟨0,80,[3,67,68,69],[],aDp,aCo,fun v b=>⟨aQ dZ (v.getD 1 .junk),gI (v.getD 2 .junk),gI (v.getD 3 .junk),iT .str (aO b 0)⟩,QK,fun s r=> {r with l:=s.l,n:=s.n},fun s=>s,fun _ s=>s,[.exit 8],UQ,L6,Ox⟩
abbrev mg:=EI.run
abbrev apA:=EI.jJ
abbrev ayk:=EI.q
theorem au0 (s:mQ) (hI:L6 s):(QK s).all (fun _=>True):=by
 refine ⟨fun c1=>⟨?_,?_,?_,trivial⟩,fun c1=>⟨⟨rfl,rfl⟩,trivial⟩⟩
 all_goals ((obtain ⟨h0,h1,h2,h3,h4⟩:=hI;(try simp only [decide_eq_true_eq] at c1);first|omega|(refine ⟨by omega,?_,?_⟩<;>simp only [List.length_cons,List.length_nil]<;>omega) |(simp only [List.length_append,List.length_cons,List.length_nil];omega) |exact ⟨rfl,by simp⟩ |exact ⟨rfl,rfl⟩))
theorem VY:EI.Ok:=⟨fun s=>by kernel_rfl,fun s=>by kernel_rfl,fun s=>rfl,fun s t r=>rfl,fun s=>rfl,fun s=>by kernel_rfl⟩
theorem VF:EI.Pf (akq):=⟨aAf,fun _ _=>rfl,avX,au0⟩
theorem ame:bg Tryz.prog aP (AN 0) (.loop Bd) EI.lp:=bK.snd VY VF (aT (Γ:=Ip) (K:=eu) (L:=aB) KN aF Bd (fun b hb=>by rw [show aC Bd=[] by kernel_rfl] at hb;cases hb)) (fun s=>by kernel_rfl)
theorem anE (s:mQ) (hE:UQ s):∃s',L6 s'∧akq (apA s) s' (mg s):=bK.fin VY VF s hE
theorem anD (s:mQ) (hE:UQ s):(mg s).out=s.out++s.l.map (·.1):=by
 have hk:=bK.uO VY VF (fun s=>s.out++(s.l.drop s.i.toNat).map (·.1)) (fun s hI=>by
  obtain ⟨h0,h1,h2,h3,h4⟩:=hI
  show bJ _ _ (aaW s)
  unfold aaW QK
  dsimp only [T.rd,T.rl]
  refine au (fun c1=>?_) (fun c1=>?_)
  ·have c1:s.i<s.n:=by simpa using c1
   rw [aK (x:=s.i+1) (by omega) (by omega)]
   show _++_=_++_
   simp only
   rw [(Tf h0 (show s.i<s.l.length by omega)).1]
   simp
  ·rfl) s hE
 obtain ⟨s',hI,q1,q2⟩:=anE s hE
 have q3:(mg s).i=(mg s).n:=q2
 have hn:(mg s).n=(s.l.length:Int):=hE.2.1
 have hl:(mg s).l=s.l:=rfl
 rw [q3,hn,hl,List.drop_eq_nil_of_le (by omega),hE.1] at hk
 simpa using hk
def acu:List LV→T LV
 | [.agg [.xl (.pair .str (.pair (.int .i64) (.pair (.int .i64) (.pair (.int .i64) (.pair (.pair (.int .i64) (.int .i64)) (.pair (.int .i64) (.pair (.int .i64) (.pair (.int .i64) (.pair (.int .i64) (.int .i64)))))))))) cs,.xl (.str) os,.xl (.pair .str (.pair (.int .i64) (.pair (.int .i64) (.int .i64)))) ks,.xl (.pair .str (.pair (.int .i64) (.pair (.int .i64) (.pair (.int .i64) (.pair (.int .i64) (.pair (.int .i64) (.pair (.int .i64) (.int .i64)))))))) gs,.xl (.pair .str (.int .i64)) bs]]=> .req ((List.length cs:Int)≤1000∧(List.length os:Int)≤1000∧(List.length ks:Int)≤1000∧(List.length gs:Int)≤1000∧(List.length bs:Int)≤1000) (.ok (.xl .str (gJ cs os ks gs bs)))
 |_=> .no
noncomputable def X0:List LV→T LV:=gB Tryz.prog Tryz.f98.params.toList acu
end Go.Proofs.YtlihnbimgclogaaGreatDoor
