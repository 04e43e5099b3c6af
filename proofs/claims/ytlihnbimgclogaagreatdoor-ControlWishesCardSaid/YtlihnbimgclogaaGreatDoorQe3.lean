/- ControlWishes returns true for all arguments: who does not want gets nothing, and if the greatest levels of all that want are permitted, the targets are these. Conditions: none; the table ramp.happens holds what its text says. -/
import Derived.Test.YtlihnbimgclogaaGreatDoorQe2
namespace Go.Proofs.YtlihnbimgclogaaGreatDoor
open Go.Sx
theorem GZ {cs:List Cd}{gs:List Ch}{r:Rw}:∀ {k:Nat},r∈jB cs gs k→∃c p:Int,(0≤c∧c<(k:Int))∧(p=0∨p=1∨p=2)∧r=(dO (fO cs c),gX gs p (tq cs gs c gs.length))∧r.2.length>0
 |0,h=>by cases h
 | k+1,h=>by
  rw [jB,List.mem_append] at h
  rcases h with h|h
  ·obtain ⟨c,p,h1,h2,h3⟩:=GZ h
   exact ⟨c,p,⟨h1.1,by omega⟩,h2,h3⟩
  ·unfold am6 at h
   rw [List.mem_append,List.mem_append] at h
   rcases h with (h|h) |h
   ·obtain ⟨h1,h2⟩:=GV h
    exact ⟨k,0,⟨by omega,by omega⟩,by simp,h1,by rw [h1];exact h2⟩
   ·obtain ⟨h1,h2⟩:=GV h
    exact ⟨k,1,⟨by omega,by omega⟩,by simp,h1,by rw [h1];exact h2⟩
   ·obtain ⟨h1,h2⟩:=GV h
    exact ⟨k,2,⟨by omega,by omega⟩,by simp,h1,by rw [h1];exact h2⟩
theorem row_mem {cs:List Cd}{gs:List Ch}{r:Rw}{k:Nat}(h:r∈jB cs gs k):r.2.Nodup∧(∀m∈r.2,0≤m∧m<(gs.length:Int))∧r.2.length≤gs.length∧r.2.length>0:=by
 obtain ⟨c,p,h1,h2,h3,h4⟩:=GZ h
 subst h3
 refine ⟨zI _ XF,fun m hm=>Us (apZ.1 hm).1,Nat.le_trans ap0 Jf,h4⟩
def kZ (gs:List Ch) (lv:List Int):List Int:=(List.range gs.length).map (fun k:Nat=>uX gs (k:Int) (lv.getD k 0))
def OL (rows:List Rw):List (List Int):=QY (List.replicate 16 []) 0 rows
def SM (alive:List Int) (rows:List Rw):List Int:=QX alive (List.replicate rows.length 0) 0 rows
def rU (cs:List Cd) (os:List ByteArray) (ks:List Ko) (gs:List Ch) (bs:List Ba) (al mo od:List Int):Bool:=fM cs os ks gs bs&&(decide (al.length=gs.length)&&(decide (mo.length=gs.length)&&(al.all uI&&(mo.all uI&&mG od gs.length))))
def shV (rows:List Rw) (gs:List Ch) (al mo od:List Int):List Int:=shl (OL rows) rows gs al mo od 81 1 (SM al rows) (List.replicate al.length 0)
def shE (cs:List Cd) (os:List ByteArray) (ks:List Ko) (gs:List Ch) (bs:List Ba) (al mo od:List Int):Int:=if rU cs os ks gs bs al mo od=true then 0 else 1
def xR (cs:List Cd) (os:List ByteArray) (ks:List Ko) (gs:List Ch) (bs:List Ba) (al mo od:List Int):List Int:=if rU cs os ks gs bs al mo od=true then kZ gs (shV (jB cs gs cs.length) gs al mo od) else []
theorem iO {cs:List Cd}{os:List ByteArray}{ks:List Ko}{gs:List Ch}{bs:List Ba}{al mo od:List Int}:rU cs os ks gs bs al mo od=true↔fM cs os ks gs bs=true∧al.length=gs.length∧mo.length=gs.length∧al.all uI=true∧mo.all uI=true∧mG od gs.length=true:=by
 simp [rU]
theorem ah6:∀ {l:List Int}{f:Int},WT f l≤f
 | [],f=>Int.le_refl _
 |n::l,f=>by
  have:WT f (n::l)=WT (if n<f then n else f) l:=rfl
  rw [this]
  have:=ah6 (l:=l) (f:=if n<f then n else f)
  split at this<;>rename_i h
  ·rw [if_pos h];omega
  ·rw [if_neg h];exact this
theorem aoR {c:Cd}:dO c≤c.2.2.1:=by
 unfold dO
 split<;>exact ah6
theorem DJ {rows:List Rw}:(OL rows).length=16:=by rw [OL,GH,List.length_replicate]
theorem YI {rows:List Rw}(h:∀r∈rows,ah0 r) {k:Nat}(hk:k<16):(OL rows).getD k []=ofF 0 rows k:=by
 rw [OL,YW h (by simpa using hk)]
 have:(List.replicate 16 ([]:List Int)).getD k []=[]:=by
  rw [List.getD_eq_getElem?_getD,List.getElem?_replicate]
  split<;>rfl
 rw [this,List.nil_append]
theorem am5 {cs:List Cd}{gs:List Ch}{k:Nat}:∀r∈jB cs gs k,ah0 r:=fun _ hr=>⟨(row_mem hr).1,fun m hm=>((row_mem hr).2.1 m hm).1⟩
theorem DI {al:List Int}{rows:List Rw}:(SM al rows).length=rows.length:=by rw [SM,Gy,List.length_replicate]
theorem ajN {al:List Int}{rows:List Rw}{k:Nat}(hk:k<rows.length):(SM al rows).getD k 0=smA al (o7 rows k).2:=by
 rw [SM,YV (Int.le_refl _) (by simpa using hk),if_pos (by omega),Int.sub_zero]
 simp [List.getD,hk]
theorem Dj {od:List Int}{n i:Int}(h:mG od n=true) (hi:i∈od):0≤i∧i<n:=by
 unfold mG at h
 simp only [Bool.and_eq_true,List.all_eq_true] at h
 exact zF.1 (h.2.1 i hi)
theorem az9 {cs:List Cd}{os:List ByteArray}{ks:List Ko}{gs:List Ch}{bs:List Ba}{al mo od:List Int}(h:rU cs os ks gs bs al mo od=true):OkT (OL (jB cs gs cs.length)) (jB cs gs cs.length) gs al mo od∧OkS (jB cs gs cs.length) od (SM al (jB cs gs cs.length)) (List.replicate al.length 0):=by
 obtain ⟨hv,h1,h2,h3,h4,h5⟩:=iO.1 h
 have hl:=(fP.1 hv).1
 have ha:∀a∈al,0≤a∧a≤80:=fun a ha=>oJ.1 (List.all_eq_true.1 h3 a ha)
 refine ⟨⟨DJ,fun i hi=>?_,ha,fun a ha=>oJ.1 (List.all_eq_true.1 h4 a ha),fun i hi=>?_,fun o ho=>?_,fun r hr=>?_⟩,⟨DI,fun k=>?_,fun i hi=>?_,fun k=>?_⟩⟩
 ·have:=Dj h5 hi
  omega
 ·have hi:=Dj h5 hi
  have:=sK hv hi.1 hi.2
  unfold Gi chW at this
  simp only [Bool.and_eq_true,eU] at this
  exact dV.2 (by omega)
 ·obtain ⟨k,hk,rfl⟩:=List.mem_iff_getElem.1 ho
  rw [DJ] at hk
  have e:=YI (rows:=jB cs gs cs.length) am5 hk
  rw [List.getD_eq_getElem?_getD,List.getElem?_eq_getElem (by rw [DJ];exact hk),Option.getD_some] at e
  rw [e]
  have hln:=aak (rs:=jB cs gs cs.length) (i:=0) (j:=k)
  have hrn:=vK (cs:=cs) (gs:=gs) (k:=cs.length)
  refine ⟨xw,by omega,fun r hr=>?_⟩
  have:=uj.1 hr
  omega
 ·obtain ⟨c,p,hc,hp,rfl,_⟩:=GZ hr
  have hcv:=Sl hv hc.1 hc.2
  unfold Eh at hcv
  simp only [Bool.and_eq_true,eU] at hcv
  have:=aoR (c:=fO cs c)
  simp only
  omega
 ·by_cases hk:k<(jB cs gs cs.length).length
  ·rw [ajN hk]
   have hr:o7 (jB cs gs cs.length) (k:Int)∈jB cs gs cs.length:=by rw [yO (by simpa using hk)];exact List.getElem_mem _
   obtain ⟨m1,m2,m3,_⟩:=row_mem hr
   have:=ae9 ha (l:=(o7 (jB cs gs cs.length) (k:Int)).2) (fun m hm=>by have:=m2 m hm;omega)
   omega
  ·rw [List.getD_eq_getElem?_getD,List.getElem?_eq_none (by rw [DI];omega)]
   simp
 ·have:=Dj h5 hi
  rw [List.length_replicate]
  omega
 ·have:(List.replicate al.length (0:Int)).getD k 0=0:=by
   simp only [List.getD,List.getElem?_replicate]
   split<;>rfl
  rw [this]
  omega
theorem ZM {xs:List Int}{r:Nat}{v:Int}:(xs++List.replicate (r+1) 0).set xs.length v=xs++[v]++List.replicate r 0:=by
 rw [List.set_append_right _ _ (Nat.le_refl _),Nat.sub_self,List.replicate_succ,List.set_cons_zero,List.append_assoc,List.singleton_append]
def XL (gs:List Ch) (lv:List Int) (n:Nat):List Int:=(List.range n).map (fun k:Nat=>uX gs (k:Int) (lv.getD k 0))
theorem aev {gs:List Ch}{lv:List Int}{n:Nat}:XL gs lv (n+1)=XL gs lv n++[uX gs (n:Int) (lv.getD n 0)]:=by
 simp [XL,List.range_succ]
theorem wE {gs:List Ch}{lv:List Int}{n:Nat}:(XL gs lv n).length=n:=by simp [XL]
end Go.Proofs.YtlihnbimgclogaaGreatDoor
namespace Go.Proofs.YtlihnbimgclogaaGreatDoor
open Go.Sx
theorem ntW {b:Bool}(h:(!b)=true):b=false:=by cases b<;>simp_all
theorem Ot {b:Bool}(h:(!b)=false):b=true:=by cases b<;>simp_all
def wt (n:Int):Int:=(n*1000000+999799) / 999800
def wtA (n:Int):Int:=if inB n 0 1000000=true then wt n else 0
def wtE (n:Int):Int:=if inB n 0 1000000=true then 0 else 1
theorem aeP {m n:Int}:m*999800 / 1000000≥n↔wt n≤m:=by
 unfold wt
 omega
theorem aEb {a b:Int}(a0:0≤a) (a1:a≤3000000) (b0:0≤b) (b1:b≤1000000):0≤a*b∧a*b≤3000000000000:=
 ⟨Int.mul_nonneg a0 b0,Int.le_trans (Int.mul_le_mul_of_nonneg_left b1 a0) (by omega)⟩
theorem aql {n:Int}(h0:0≤n):0≤wt n∧wt n≤2*n+2:=by
 unfold wt
 omega
abbrev nC:Ty:=.pair (.int .i64) (.pair (.int .i64) (.pair (.int .i64) (.pair (.int .i64) (.int .i64))))
abbrev Le:=Int×Int×Int×Int×Int
def iH (l:List Le) (n:Int):Le:=l.getD n.toNat (0,0,0,0,0)
def leV (x:Le):Bool:=inB x.1 1 1000000&&(inB x.2.1 0 15&&(inB x.2.2.1 0 80&&(inB x.2.2.2.1 0 1000000&&inB x.2.2.2.2 1 1000)))
def TT (b x:Le):Bool:=decide (x.1>b.1)&&decide (x.2.2.2.1≥b.2.2.2.1)
def jJ (l:List Le) (j:Int):Bool:=leV (iH l j)&&(decide (j=0) ||TT (iH l (j-1)) (iH l j))
def qx (l:List Le):Bool:=decide (l.length≤64)&&J6 l.length (jJ l)
theorem Qa {l:List Le}{n:Int}(h:n.toNat<l.length):iH l n=l[n.toNat]:=vY h
theorem IU {l:List Le}{i:Int}(h0:0≤i) (h:i<l.length):l.drop i.toNat=iH l i::l.drop (i+1).toNat∧l.take (i+1).toNat=l.take i.toNat++[iH l i]:=uD h0 h
theorem F9 {l:List Le}{i:Int}(h0:0≤i) (h:i<l.length):iH l i∈l:=by
 rw [Qa (by omega)]
 exact List.getElem_mem _
theorem aau {x:Le}:leV x=true↔(1≤x.1∧x.1≤1000000)∧(0≤x.2.1∧x.2.1≤15)∧(0≤x.2.2.1∧x.2.2.1≤80)∧(0≤x.2.2.2.1∧x.2.2.2.1≤1000000)∧1≤x.2.2.2.2∧x.2.2.2.2≤1000:=by
 unfold leV
 simp only [Bool.and_eq_true,eU]
theorem zO {l:List Le}(h:qx l=true):l.length≤64∧∀x∈l,leV x=true:=by
 unfold qx at h
 rw [Bool.and_eq_true] at h
 refine ⟨of_decide_eq_true h.1,fun x hx=>?_⟩
 obtain ⟨k,hk,rfl⟩:=List.mem_iff_getElem.1 hx
 have:=fQ.1 h.2 k (by omega)
 unfold jJ at this
 rw [Bool.and_eq_true,Qa (by simpa using hk)] at this
 simpa using this.1
def aem (x:Le):Int:=x.2.2.2.1+10+wt x.2.2.2.2
end Go.Proofs.YtlihnbimgclogaaGreatDoor
namespace Go.Proofs.YtlihnbimgclogaaGreatDoor
open Go.Sx
def LJ (ph mn mx st fb:Int):Bool:=inB ph 1 7&&(inB mn 1 80&&(inB mx 1 80&&(inB st 1 80&&(decide (mn≤mx)&&(fb==0 ||inB fb mn mx)))))
theorem Gj {ph mn mx st fb:Int}:LJ ph mn mx st fb=true↔1≤ph∧ph≤7∧1≤mn∧mn≤80∧1≤mx∧mx≤80∧1≤st∧st≤80∧mn≤mx∧(fb=0∨(mn≤fb∧fb≤mx)):=by
 simp [LJ,inB];omega
def lD (mn mx st a:Int):Int:=if a<mn then 0 else min a mx-(min a mx-mn) %st
theorem uH {x s:Int}(hx:0≤x) (hs:1≤s):0≤x%s∧x%s≤x∧x%s<s:=by
 have h1:=Int.mul_ediv_add_emod x s
 have h2:0≤x / s:=Int.ediv_nonneg hx (by omega)
 have h3:0≤s*(x / s):=Int.mul_nonneg (by omega) h2
 have h4:=Int.emod_nonneg x (b:=s) (by omega)
 have h5:=Int.emod_lt_of_pos x (b:=s) (by omega)
 omega
theorem qw {mn mx st a:Int}(h1:1≤mn) (h2:mn≤mx) (h3:mx≤80) (h4:1≤st):0≤lD mn mx st a∧lD mn mx st a≤80∧(a<mn→lD mn mx st a=0)∧(mn≤a→mn≤lD mn mx st a∧lD mn mx st a≤a∧lD mn mx st a≤mx):=by
 unfold lD
 split
 ·omega
 ·have e1:=uH (x:=min a mx-mn) (s:=st) (by omega) h4
  omega
def uV (mn mx st:Int):Prop:=1≤mn∧mn≤mx∧mx≤80∧1≤st∧st≤80
theorem Xy {ph mn mx st fb:Int}(h:LJ ph mn mx st fb=true):uV mn mx st:=by
 rw [Gj] at h;unfold uV;omega
def J8 (ph mn mx st fb a s:Int):Bool:=LJ ph mn mx st fb&&(decide (0≤s)&&(decide (s≤1000000)&&(decide (0≤a)&&(lD mn mx st a==a))))
def okB (ph mn mx st fb a s want:Int):Bool:=J8 ph mn mx st fb a s&&(decide (0≤want)&&decide (want≤80))
def nE (ph mn mx st fb a s want:Int):Int:=if okB ph mn mx st fb a s want then 0 else 1
def nA (ph mn mx st fb a s want:Int):Int:=
 if okB ph mn mx st fb a s want then (if a=0 then (if lD mn mx st want≠0∧5≤s then mn else 0) else if lD mn mx st want=0 then 0 else min (lD mn mx st want) (a+st)) else 0
def nS (ph mn mx st fb a s want:Int):Int:=
 if okB ph mn mx st fb a s want then (if a=0 then (if lD mn mx st want≠0∧5≤s then 0 else min (s+1) 1000000) else if lD mn mx st want=0 then 0 else min (s+1) 1000000) else 0
theorem aaw (x y:Int):(if y<x then y else x)=min x y:=by omega
theorem axv {mn mx st am:Int}(h:am<mn):0=lD mn mx st am:=by rw [lD,if_pos h]
theorem axu {mn mx st am:Int}(hc:uV mn mx st) (h:mn≤am):IntKind.i64.wrap ((if mx<am then mx else am)-(IntKind.i64.wrap ((if mx<am then mx else am)-mn)).tmod st)=lD mn mx st am:=by
 unfold uV at hc
 rw [aaw]
 have e1:=uH (x:=min am mx-mn) (s:=st) (by omega) (by omega)
 rw [aK (x:=min am mx-mn) (by omega) (by omega),Int.tmod_eq_emod_of_nonneg (by omega),aK (by omega) (by omega),lD,if_neg (by omega)]
theorem aD8 {ph mn mx st fb a s:Int}(h:((!LJ ph mn mx st fb) ||(decide (s<0) ||(decide (s>1000000) ||decide (a<0))))=true):false=J8 ph mn mx st fb a s:=by
 cases hr:J8 ph mn mx st fb a s
 ·rfl
 ·simp [J8] at hr h
  rw [hr.1] at h
  simp at h
  omega
theorem az0 {ph mn mx st fb a s:Int}(h:((!LJ ph mn mx st fb) ||(decide (s<0) ||(decide (s>1000000) ||decide (a<0))))=false):uV mn mx st∧(lD mn mx st a==a)=J8 ph mn mx st fb a s:=by
 simp at h
 obtain ⟨h1,h2,h3,h4⟩:=h
 exact ⟨Xy h1,by simp [J8,h1,h2,h3,h4]⟩
theorem aaj {ph mn mx st fb a s want:Int}(h:okB ph mn mx st fb a s want=true):(!J8 ph mn mx st fb a s ||(decide (want<0) ||decide (want>80)))=false∧uV mn mx st∧(0≤s∧s≤1000000)∧(0≤want∧want≤80)∧0≤a∧a≤80∧1≤st∧st≤80:=by
 simp only [okB,J8,Bool.and_eq_true,decide_eq_true_eq,beq_iff_eq] at h
 obtain ⟨⟨h1,h2,h3,h4,h5⟩,h6,h7⟩:=h
 have hc:=Xy h1
 have hc':=hc
 unfold uV at hc'
 have:=qw (a:=a) hc'.1 hc'.2.1 hc'.2.2.1 hc'.2.2.2.1
 refine ⟨?_,hc,⟨h2,h3⟩,⟨h6,h7⟩,h4,by omega,hc'.2.2.2.1,hc'.2.2.2.2⟩
 simp [J8,h1,h2,h3,h4,h5];omega
theorem anr {ph mn mx st fb a s want:Int}(h:¬okB ph mn mx st fb a s want=true):(!J8 ph mn mx st fb a s ||(decide (want<0) ||decide (want>80)))=true:=by
 cases hr:J8 ph mn mx st fb a s
 ·rfl
 ·simp [okB,hr] at h⊢;omega
theorem aD7 {ph mn mx st fb:Int}(h:(decide (ph<1) ||(decide (ph>7) ||(decide (mn<1) ||(decide (mx>80) ||(decide (mn>mx) ||(decide (st<1) ||decide (st>80)))))))=true):false=LJ ph mn mx st fb:=by
 cases hc:LJ ph mn mx st fb
 ·rfl
 ·rw [Gj] at hc;simp at h;omega
theorem aD6 {ph mn mx st fb:Int}(h:(decide (ph<1) ||(decide (ph>7) ||(decide (mn<1) ||(decide (mx>80) ||(decide (mn>mx) ||(decide (st<1) ||decide (st>80)))))))=false):(fb==0 ||(decide (fb≥mn)&&decide (fb≤mx)))=LJ ph mn mx st fb:=by
 simp at h
 cases hc:LJ ph mn mx st fb
 ·cases hf:(fb==0 ||(decide (fb≥mn)&&decide (fb≤mx)))
  ·rfl
  ·have:LJ ph mn mx st fb=true:=Gj.2 (by simp at hf;omega)
   rw [this] at hc;cases hc
 ·rw [Gj] at hc;simp;omega
def PZ (mn mx st am lv x:Int):Prop:=
 uV mn mx st∧mn≤x∧x≤mx+st∧(x-mn) %st=0∧((lv=0∧(x=mn∨am<mn))∨(mn≤lv∧lv≤am∧lv+st≤x∧(lv-mn) %st=0∧(lv+st=x∨am<lv+st)))
theorem Xb {mn mx st am:Int}(h:uV mn mx st):PZ mn mx st am 0 mn:=by
 unfold PZ
 refine ⟨h,Int.le_refl _,by unfold uV at h;omega,by simp,.inl ⟨rfl,.inl rfl⟩⟩
theorem aea {mn mx st am lv x:Int}(h:PZ mn mx st am lv x) (hx:x≤mx):PZ mn mx st am (if x≤am then x else lv) (x+st):=by
 unfold PZ at h⊢
 obtain ⟨h1,h2,h3,h4,h5⟩:=h
 have e:(x+st-mn) %st=0:=by rw [show x+st-mn=(x-mn)+st by omega,Int.add_emod_right];exact h4
 have h1':=h1
 unfold uV at h1'
 refine ⟨h1,by omega,by omega,e,?_⟩
 split
 ·exact .inr ⟨h2,by omega,by omega,h4,.inl rfl⟩
 ·rcases h5 with h5|h5
  ·refine .inl ⟨h5.1,.inr (by omega)⟩
  ·exact .inr ⟨h5.1,h5.2.1,by omega,h5.2.2.2.1,.inr (by omega)⟩
theorem aia {mn mx st am lv x:Int}(h:PZ mn mx st am lv x) (hx:mx<x):lv=lD mn mx st am:=by
 unfold PZ uV at h
 obtain ⟨h1,h2,h3,h4,h5⟩:=h
 unfold lD
 rcases h5 with ⟨h5,h6⟩ |⟨h5,h6,h7,h8,h9⟩
 ·rw [if_pos (by omega)];exact h5
 ·rw [if_neg (by omega)]
  have e:(min am mx-mn) %st=min am mx-lv:=by
   rw [show min am mx-mn=(min am mx-lv)+(lv-mn) by omega,Int.add_emod,h8,Int.add_zero,Int.emod_emod_of_dvd _ (Int.dvd_refl _)]
   exact Int.emod_eq_of_lt (by omega) (by omega)
  rw [e];omega
end Go.Proofs.YtlihnbimgclogaaGreatDoor
namespace Go.Proofs.YtlihnbimgclogaaGreatDoor
open Go.Sx
def Xg:Nat→Int
 |0=>1
 |1=>1
 |2=>1
 |3=>0
 |4=>2
 |5=>2
 |_=>3
def aS:bW:=fun
 |0=>some (8,fun j=> .int .i64 (Xg j))
 |_=>none
end Go.Proofs.YtlihnbimgclogaaGreatDoor
namespace Go.Proofs.YtlihnbimgclogaaGreatDoor
open Go.Sx
def LY:List LV→T LV
 | [.v (.int .i64 n),.v (.int .i64 a),.v (.int .i64 b)]=> .ok (.v (.bool (inB n a b)))
 |_=> .no
noncomputable def wI:List LV→T LV:=gJ Tryz.prog Tryz.f140.params.toList LY
noncomputable def yt:Specs:=bf []
theorem zV:∀g S,yt g=some S→Valid Tryz.prog aS g S:=aT (l:=[]) trivial
theorem ad4 (n a b:Int):bT Tryz.prog aS (yt) dY aC Tryz.f140 [.v (.int .i64 n),.v (.int .i64 a),.v (.int .i64 b)]=.ok (.v (.bool ((decide (n≥a))&&(decide (n≤b))))):=by kernel_rfl
theorem QW:Valid Tryz.prog aS 140 wI:=aH Tryz.func140 rfl zV aF (aY (by kernel_rfl)) (fun args lv h=>by
 unfold LY at h
 split at h
 ·simp only [canL,canX]
  rw [ad4]
  exact h
 ·cases h)
def ajP:List LV→T LV
 | [.v (.agg ⟨[.string _,.int .i64 _,.int .i64 ph,.int .i64 mn,.int .i64 mx,.int .i64 st,.int .i64 fb,.int .i64 _]⟩)]=> .ok (.v (.bool (LJ ph mn mx st fb)))
 |_=> .no
noncomputable def ajA:List LV→T LV:=gJ Tryz.prog Tryz.f139.params.toList ajP
noncomputable def arF:Specs:=bf [(140,wI)]
theorem aAX:∀g S,arF g=some S→Valid Tryz.prog aS g S:=aT (l:=[(140,wI)]) ⟨QW,trivial⟩
theorem avX (nm:ByteArray) (at_ ph mn mx st fb ow:Int):bT Tryz.prog aS (arF) dY aC Tryz.f139 [.v (.agg #[.string nm,.int .i64 at_,.int .i64 ph,.int .i64 mn,.int .i64 mx,.int .i64 st,.int .i64 fb,.int .i64 ow])]=.ok (.v (.bool ((inB ph (1:Int) (7:Int))&&((inB mn (1:Int) (80:Int))&&((inB mx (1:Int) (80:Int))&&((inB st (1:Int) (80:Int))&&((decide (mn≤mx))&&((fb==0) ||(inB fb mn mx))))))))):=by kernel_rfl
theorem ay1:Valid Tryz.prog aS 139 ajA:=aH Tryz.func139 rfl aAX aF (aY (by kernel_rfl)) (fun args lv h=>by
 unfold ajP at h
 split at h
 ·simp only [canL,canX]
  rw [avX]
  exact h
 ·cases h)
def UD:List LV→T LV
 | []=> .ok (.v (.agg #[.int .i64 0,.int .i64 0,.int .i64 0,.bool false]))
 |_=> .no
noncomputable def Cb:List LV→T LV:=gJ Tryz.prog Tryz.f114.params.toList UD
theorem ahK  :bT Tryz.prog aS (yt) dY aC Tryz.f114 []=.ok (.v (.agg #[.int .i64 0,.int .i64 0,.int .i64 0,.bool false])):=by kernel_rfl
theorem YQ:Valid Tryz.prog aS 114 Cb:=aH Tryz.func114 rfl zV aF (aY (by kernel_rfl)) (fun args lv h=>by
 unfold UD at h
 split at h
 ·simp only [canL]
  rw [ahK]
  exact h
 ·cases h)
def aj7:List LV→T LV
 | [.v (.agg ⟨[.string _,.int .i64 _,.int .i64 ph,.int .i64 mn,.int .i64 mx,.int .i64 st,.int .i64 fb,.int .i64 _]⟩),.v (.agg ⟨[.int .i64 0,.int .i64 0,.int .i64 0,.bool false]⟩)]=> .ok (.v (.bool (LJ ph mn mx st fb)))
 |_=> .no
noncomputable def ajM:List LV→T LV:=gJ Tryz.prog Tryz.f113.params.toList aj7
noncomputable def arE:Specs:=bf [(114,Cb),(139,ajA),(140,wI)]
theorem aAW:∀g S,arE g=some S→Valid Tryz.prog aS g S:=aT (l:=[(114,Cb),(139,ajA),(140,wI)]) ⟨YQ,ay1,QW,trivial⟩
theorem awg (nm:ByteArray) (at_ ph mn mx st fb ow:Int):bT Tryz.prog aS (arE) dY aC Tryz.f113 [.v (.agg #[.string nm,.int .i64 at_,.int .i64 ph,.int .i64 mn,.int .i64 mx,.int .i64 st,.int .i64 fb,.int .i64 ow]),.v (.agg #[.int .i64 0,.int .i64 0,.int .i64 0,.bool false])]=.br (!(LJ ph mn mx st fb)) (.ok (.v (.bool false))) (.br (((0:Int)==0)&&(((0:Int)==0)&&(((0:Int)==0)&&(false==false)))) (.ok (.v (.bool true))) (.ok (.v (.bool ((inB (0:Int) (0:Int) (5:Int))&&((inB (0:Int) (0:Int) (1000000:Int))&&((inB (0:Int) (0:Int) mx)&&(if (0:Int) !=0 then (!false) ||((0:Int)==5) else ((0:Int)==0)&&((!false) ||((0:Int)==5)))))))))):=by kernel_rfl
theorem azd:Valid Tryz.prog aS 113 ajM:=aH Tryz.func113 rfl aAW aF (aY (by kernel_rfl)) (fun args lv h=>by
 unfold aj7 at h
 split at h
 ·simp only [canL,canX]
  rw [awg]
  obtain rfl:=h
  refine ⟨fun hb=>?_,fun hb=>⟨fun _=>?_,fun hf=>absurd hf (by decide)⟩⟩
  ·show LV.v (.bool false)=_
   rw [show LJ _ _ _ _ _=false by simpa using hb]
  ·show LV.v (.bool true)=_
   rw [show LJ _ _ _ _ _=true by simpa using hb]
 ·cases h)
def acs:List LV→T LV
 | [.v (.agg ⟨[.string _,.int .i64 _,.int .i64 _,.int .i64 mn,.int .i64 mx,.int .i64 st,.int .i64 _,.int .i64 _]⟩),.v (.int .i64 am)]=> .req (uV mn mx st) (.ok (.v (.int .i64 (lD mn mx st am))))
 |_=> .no
noncomputable def Js:List LV→T LV:=gJ Tryz.prog Tryz.f73.params.toList acs
theorem an4 (nm:ByteArray) (at_ ph mn mx st fb ow am:Int):bT Tryz.prog aS (yt) dY aC Tryz.f73 [.v (.agg #[.string nm,.int .i64 at_,.int .i64 ph,.int .i64 mn,.int .i64 mx,.int .i64 st,.int .i64 fb,.int .i64 ow]),.v (.int .i64 am)]=.br (decide (am<mn)) (.ok (.v (.int .i64 0))) (.req (st≠0) (.ok (.v (.int .i64 (IntKind.i64.wrap ((if mx<am then mx else am)-((IntKind.i64.wrap ((if mx<am then mx else am)-mn)).tmod st))))))):=by kernel_rfl
theorem aeZ:Valid Tryz.prog aS 73 Js:=aH Tryz.func73 rfl zV aF (aY (by kernel_rfl)) (fun args lv h=>by
 unfold acs at h
 split at h
 ·simp only [canL,canX]
  rw [an4]
  obtain ⟨hc,rfl⟩:=h
  refine ⟨fun hb=>?_,fun hb=>⟨by unfold uV at hc;omega,?_⟩⟩
  ·exact congrArg (fun z=>LV.v (.int .i64 z)) (axv (by simpa using hb))
  ·exact congrArg (fun z=>LV.v (.int .i64 z)) (axu hc (by simpa using hb))
 ·cases h)
def ajT:List LV→T LV
 | [.v (.agg ⟨[.string _,.int .i64 _,.int .i64 ph,.int .i64 mn,.int .i64 mx,.int .i64 st,.int .i64 fb,.int .i64 _]⟩),.v (.agg ⟨[.int .i64 a,.int .i64 si]⟩)]=> .ok (.v (.bool (J8 ph mn mx st fb a si)))
 |_=> .no
noncomputable def Uz:List LV→T LV:=gJ Tryz.prog Tryz.f69.params.toList ajT
noncomputable def arD:Specs:=bf [(73,Js),(113,ajM),(114,Cb)]
theorem aAV:∀g S,arD g=some S→Valid Tryz.prog aS g S:=aT (l:=[(73,Js),(113,ajM),(114,Cb)]) ⟨aeZ,azd,YQ,trivial⟩
theorem av2 (nm:ByteArray) (at_ ph mn mx st fb ow a si:Int):bT Tryz.prog aS (arD) dY aC Tryz.f69 [.v (.agg #[.string nm,.int .i64 at_,.int .i64 ph,.int .i64 mn,.int .i64 mx,.int .i64 st,.int .i64 fb,.int .i64 ow]),.v (.agg #[.int .i64 a,.int .i64 si])]=.br ((!(LJ ph mn mx st fb)) ||((decide (si<0)) ||((decide (si>1000000)) ||(decide (a<0))))) (.ok (.v (.bool false))) (.req (uV mn mx st) (.ok (.v (.bool ((lD mn mx st a)==a))))):=by kernel_rfl
theorem aqo:Valid Tryz.prog aS 69 Uz:=aH Tryz.func69 rfl aAV aF (aY (by kernel_rfl)) (fun args lv h=>by
 unfold ajT at h
 split at h
 ·simp only [canL,canX]
  rw [av2]
  obtain rfl:=h
  refine ⟨fun hb=>?_,fun hb=>⟨?_,?_⟩⟩
  ·exact congrArg (fun z=>LV.v (.bool z)) (aD8 hb)
  ·exact (az0 hb).1
  ·exact congrArg (fun z=>LV.v (.bool z)) (az0 hb).2
 ·cases h)
def UL:List LV→T LV
 | [.v (.bool b)]=> .ok (.v (.int .i64 (if b then (1:Int) else 0)))
 |_=> .no
noncomputable def QA:List LV→T LV:=gJ Tryz.prog Tryz.f78.params.toList UL
theorem ahS (b:Bool):bT Tryz.prog aS (yt) dY aC Tryz.f78 [.v (.bool b)]=.br b (.ok (.v (.int .i64 1))) (.ok (.v (.int .i64 0))):=by kernel_rfl
theorem alu:Valid Tryz.prog aS 78 QA:=aH Tryz.func78 rfl zV aF (aY (by kernel_rfl)) (fun args lv h=>by
 unfold UL at h
 split at h
 ·simp only [canL,canX]
  rw [ahS]
  rename_i b
  obtain rfl:=h
  cases b
  ·exact ⟨fun hb=>(by cases hb),fun _=>rfl⟩
  ·exact ⟨fun _=>rfl,fun hb=>(by cases hb)⟩
 ·cases h)
def ajY:List LV→T LV
 | [.xq 8 q0]=>(match ([q0 0,q0 1,q0 2,q0 3,q0 4,q0 5,q0 6,q0 7]:List LV) with
  | [.v (.string _),.v (.int .i64 _),.v (.int .i64 _),.v (.int .i64 mn),.v (.int .i64 _),.v (.int .i64 _),.v (.int .i64 _),.v (.int .i64 _)]=> .ok (.v (.agg #[.int .i64 mn,.int .i64 0]))
  |_=> .no)
 |_=> .no
noncomputable def ajI:List LV→T LV:=gJ Tryz.prog Tryz.f74.params.toList ajY
theorem av7 (nm:ByteArray) (at_ ph mn mx st fb ow:Int):bT Tryz.prog aS (yt) dY aC Tryz.f74 [.xq 8 (fun j=>([.v (.string nm),.v (.int .i64 at_),.v (.int .i64 ph),.v (.int .i64 mn),.v (.int .i64 mx),.v (.int .i64 st),.v (.int .i64 fb),.v (.int .i64 ow)]:List LV).getD j .junk)]=.ok (.v (.agg #[.int .i64 mn,.int .i64 0])):=by kernel_rfl
theorem ay9:Valid Tryz.prog aS 74 ajI:=aH Tryz.func74 rfl zV aF (aY (by kernel_rfl)) (fun args lv h=>by
 unfold ajY at h
 split at h
 ·split at h
  case h_2=>cases h
  rename_i heq0
  simp only [canL,canX]
  rw [o9 (n:=8) heq0]
  simp only [canL,canX]
  rw [av7]
  exact h
 ·cases h)
def ajX:List LV→T LV
 | [.xq 1 q0]=>(match ([q0 0]:List LV) with
  | [.v (.int .i64 lo)]=> .ok (.v (.agg #[.int .i64 0,.int .i64 lo]))
  |_=> .no)
 |_=> .no
noncomputable def ajH:List LV→T LV:=gJ Tryz.prog Tryz.f75.params.toList ajX
theorem av6 (lo:Int):bT Tryz.prog aS (yt) dY aC Tryz.f75 [.xq 1 (fun j=>([.v (.int .i64 lo)]:List LV).getD j .junk)]=.ok (.v (.agg #[.int .i64 0,.int .i64 lo])):=by kernel_rfl
theorem ay8:Valid Tryz.prog aS 75 ajH:=aH Tryz.func75 rfl zV aF (aY (by kernel_rfl)) (fun args lv h=>by
 unfold ajX at h
 split at h
 ·split at h
  case h_2=>cases h
  rename_i heq0
  simp only [canL,canX]
  rw [o9 (n:=1) heq0]
  simp only [canL,canX]
  rw [av6]
  exact h
 ·cases h)
def ajW:List LV→T LV
 | []=> .ok (.v (.agg #[.int .i64 0,.int .i64 0]))
 |_=> .no
noncomputable def ajG:List LV→T LV:=gJ Tryz.prog Tryz.f76.params.toList ajW
theorem av5  :bT Tryz.prog aS (yt) dY aC Tryz.f76 []=.ok (.v (.agg #[.int .i64 0,.int .i64 0])):=by kernel_rfl
theorem ay7:Valid Tryz.prog aS 76 ajG:=aH Tryz.func76 rfl zV aF (aY (by kernel_rfl)) (fun args lv h=>by
 unfold ajW at h
 split at h
 ·simp only [canL]
  rw [av5]
  exact h
 ·cases h)
def ajV:List LV→T LV
 | [.xq 1 q0,.xq 2 q1,.xq 8 q2,.xq 1 q3]=>(match ([q0 0]:List LV) with
  | [.v (.int .i64 lv)]=>(match ([q1 0,q1 1]:List LV) with
  | [.v (.int .i64 a),.v (.int .i64 _)]=>(match ([q2 0,q2 1,q2 2,q2 3,q2 4,q2 5,q2 6,q2 7]:List LV) with
  | [.v (.string _),.v (.int .i64 _),.v (.int .i64 _),.v (.int .i64 _),.v (.int .i64 _),.v (.int .i64 st),.v (.int .i64 _),.v (.int .i64 _)]=>(match ([q3 0]:List LV) with
  | [.v (.int .i64 lo)]=> .ok (.v (.agg #[.int .i64 (if IntKind.i64.wrap (a+st)<lv then IntKind.i64.wrap (a+st) else lv),.int .i64 lo]))
  |_=> .no)
  |_=> .no)
  |_=> .no)
  |_=> .no)
 |_=> .no
noncomputable def ajF:List LV→T LV:=gJ Tryz.prog Tryz.f77.params.toList ajV
theorem av4 (lv a si:Int) (nm:ByteArray) (at_ ph mn mx st fb ow lo:Int):bT Tryz.prog aS (yt) dY aC Tryz.f77 [.xq 1 (fun j=>([.v (.int .i64 lv)]:List LV).getD j .junk),.xq 2 (fun j=>([.v (.int .i64 a),.v (.int .i64 si)]:List LV).getD j .junk),.xq 8 (fun j=>([.v (.string nm),.v (.int .i64 at_),.v (.int .i64 ph),.v (.int .i64 mn),.v (.int .i64 mx),.v (.int .i64 st),.v (.int .i64 fb),.v (.int .i64 ow)]:List LV).getD j .junk),.xq 1 (fun j=>([.v (.int .i64 lo)]:List LV).getD j .junk)]=.ok (.v (.agg #[.int .i64 (if (IntKind.i64.wrap (a+st))<lv then IntKind.i64.wrap (a+st) else lv),.int .i64 lo])):=by kernel_rfl
theorem ay6:Valid Tryz.prog aS 77 ajF:=aH Tryz.func77 rfl zV aF (aY (by kernel_rfl)) (fun args lv h=>by
 unfold ajV at h
 split at h
 ·split at h
  case h_2=>cases h
  rename_i heq0
  split at h
  case h_2=>cases h
  rename_i heq1
  split at h
  case h_2=>cases h
  rename_i heq2
  split at h
  case h_2=>cases h
  rename_i heq3
  simp only [canL,canX]
  rw [o9 (n:=1) heq0]
  simp only [canL,canX]
  rw [o9 (n:=2) heq1]
  simp only [canL,canX]
  rw [o9 (n:=8) heq2]
  simp only [canL,canX]
  rw [o9 (n:=1) heq3]
  simp only [canL,canX]
  rw [av4]
  exact h
 ·cases h)
theorem awH {a l si:Int}:Xg ((if (a !=0) then (1:Int) else 0).toNat*4+((if (l !=0) then (1:Int) else 0).toNat*2+((if (decide (si≥5)) then (1:Int) else 0).toNat*1+0)))=if a=0 then (if l=0 then 1 else if 5≤si then 0 else 1) else if l=0 then 2 else 3:=by
 by_cases c1:a=0<;>by_cases c2:l=0<;>by_cases c3:5≤si<;>simp [c1,c2,c3,Xg]
def acG:List LV→T LV
 | [.v (.agg ⟨[.string _,.int .i64 _,.int .i64 ph,.int .i64 mn,.int .i64 mx,.int .i64 st,.int .i64 fb,.int .i64 _]⟩),.v (.agg ⟨[.int .i64 a,.int .i64 si]⟩),.v (.int .i64 want)]=> .ok (.v (.tuple #[.agg #[.int .i64 (nA ph mn mx st fb a si want),.int .i64 (nS ph mn mx st fb a si want)],.int .i64 (nE ph mn mx st fb a si want)]))
 |_=> .no
noncomputable def Yj:List LV→T LV:=gJ Tryz.prog Tryz.f37.params.toList acG
noncomputable def arC:Specs:=bf [(69,Uz),(73,Js),(74,ajI),(75,ajH),(76,ajG),(77,ajF),(78,QA)]
theorem aAU:∀g S,arC g=some S→Valid Tryz.prog aS g S:=aT (l:=[(69,Uz),(73,Js),(74,ajI),(75,ajH),(76,ajG),(77,ajF),(78,QA)]) ⟨aqo,aeZ,ay9,ay8,ay7,ay6,alu,trivial⟩
theorem aog (nm:ByteArray) (at_ ph mn mx st fb ow a si want:Int):bT Tryz.prog aS (arC) dY aC Tryz.f37 [.v (.agg #[.string nm,.int .i64 at_,.int .i64 ph,.int .i64 mn,.int .i64 mx,.int .i64 st,.int .i64 fb,.int .i64 ow]),.v (.agg #[.int .i64 a,.int .i64 si]),.v (.int .i64 want)]=.br ((!(J8 ph mn mx st fb a si)) ||((decide (want<0)) ||(decide (want>80)))) (.ok (.v (.tuple #[.agg #[.int .i64 0,.int .i64 0],.int .i64 1]))) (.req (uV mn mx st) (.req (0≤(if (a !=0) then (1:Int) else 0)∧(if (a !=0) then (1:Int) else 0)<(2:Int)) (.req (0≤(if ((lD mn mx st want) !=0) then (1:Int) else 0)∧(if ((lD mn mx st want) !=0) then (1:Int) else 0)<(2:Int)) (.req (0≤(if (decide (si≥5)) then (1:Int) else 0)∧(if (decide (si≥5)) then (1:Int) else 0)<(2:Int)) (.br ((Xg ((if (a !=0) then (1:Int) else 0).toNat*4+((if ((lD mn mx st want) !=0) then (1:Int) else 0).toNat*2+((if (decide (si≥5)) then (1:Int) else 0).toNat*1+0))))==0) (.ok (.v (.tuple #[.agg #[.int .i64 mn,.int .i64 0],.int .i64 0]))) (.br ((Xg ((if (a !=0) then (1:Int) else 0).toNat*4+((if ((lD mn mx st want) !=0) then (1:Int) else 0).toNat*2+((if (decide (si≥5)) then (1:Int) else 0).toNat*1+0))))==1) (.ok (.v (.tuple #[.agg #[.int .i64 0,.int .i64 (if (1000000:Int)<(IntKind.i64.wrap (si+1)) then 1000000 else IntKind.i64.wrap (si+1))],.int .i64 0]))) (.br ((Xg ((if (a !=0) then (1:Int) else 0).toNat*4+((if ((lD mn mx st want) !=0) then (1:Int) else 0).toNat*2+((if (decide (si≥5)) then (1:Int) else 0).toNat*1+0))))==2) (.ok (.v (.tuple #[.agg #[.int .i64 0,.int .i64 0],.int .i64 0]))) (.br ((Xg ((if (a !=0) then (1:Int) else 0).toNat*4+((if ((lD mn mx st want) !=0) then (1:Int) else 0).toNat*2+((if (decide (si≥5)) then (1:Int) else 0).toNat*1+0))))==3) (.ok (.v (.tuple #[.agg #[.int .i64 (if IntKind.i64.wrap (a+st)<(lD mn mx st want) then IntKind.i64.wrap (a+st) else (lD mn mx st want)),.int .i64 (if (1000000:Int)<(IntKind.i64.wrap (si+1)) then 1000000 else IntKind.i64.wrap (si+1))],.int .i64 0]))) (.no))))))))):=by kernel_rfl
theorem ato:Valid Tryz.prog aS 37 Yj:=aH Tryz.func37 rfl aAU aF (aY (by kernel_rfl)) (fun args lv h=>by
 unfold acG at h
 split at h
 ·simp only [canL,canX]
  rw [aog]
  rename_i nm at_ ph mn mx st fb ow a si want
  obtain rfl:=h
  by_cases hk:okB ph mn mx st fb a si want=true
  ·obtain ⟨k1,k2,k3,k4,k5⟩:=aaj hk
   have w1:IntKind.i64.wrap (si+1)=si+1:=aK (by omega) (by omega)
   have w2:IntKind.i64.wrap (a+st)=a+st:=aK (by omega) (by omega)
   have i0:∀b:Bool,0≤(if b=true then (1:Int) else 0)∧(if b=true then (1:Int) else 0)<2:=fun b=>by cases b<;>simp
   simp only [T.all,nA,nS,nE,k1,w1,w2,hk,aaw,if_true,awH,i0,true_and]
   by_cases c1:a=0<;>by_cases c2:lD mn mx st want=0<;>by_cases c3:5≤si<;>simp [c1,c2,c3,k2]
  ·have hn:(!J8 ph mn mx st fb a si ||(decide (want<0) ||decide (want>80)))=true:=anr hk
   simp only [T.all,nA,nS,nE,hk,hn]
   simp
 ·cases h)
def ajS:List LV→T LV
 | [.v (.agg ⟨[.string _,.int .i64 _,.int .i64 ph,.int .i64 mn,.int .i64 mx,.int .i64 st,.int .i64 fb,.int .i64 _]⟩)]=> .ok (.v (.bool (LJ ph mn mx st fb)))
 |_=> .no
noncomputable def ajD:List LV→T LV:=gJ Tryz.prog Tryz.f91.params.toList ajS
theorem av1 (nm:ByteArray) (at_ ph mn mx st fb ow:Int):bT Tryz.prog aS (yt) dY aC Tryz.f91 [.v (.agg #[.string nm,.int .i64 at_,.int .i64 ph,.int .i64 mn,.int .i64 mx,.int .i64 st,.int .i64 fb,.int .i64 ow])]=.br ((decide (ph<1)) ||((decide (ph>7)) ||((decide (mn<1)) ||((decide (mx>80)) ||((decide (mn>mx)) ||((decide (st<1)) ||(decide (st>80)))))))) (.ok (.v (.bool false))) (.ok (.v (.bool ((fb==0) ||((decide (fb≥mn))&&(decide (fb≤mx))))))):=by kernel_rfl
theorem ay4:Valid Tryz.prog aS 91 ajD:=aH Tryz.func91 rfl zV aF (aY (by kernel_rfl)) (fun args lv h=>by
 unfold ajS at h
 split at h
 ·simp only [canL,canX]
  rw [av1]
  obtain rfl:=h
  refine ⟨fun hb=>?_,fun hb=>?_⟩
  ·exact congrArg (fun z=>LV.v (.bool z)) (aD7 hb)
  ·exact congrArg (fun z=>LV.v (.bool z)) (aD6 hb)
 ·cases h)
end Go.Proofs.YtlihnbimgclogaaGreatDoor
namespace Go.Proofs.YtlihnbimgclogaaGreatDoor
open Go.Sx
def ajU:List LV→T LV
 | [.v (.agg ⟨[.int .i64 nu,.int .i64 co,.int .i64 am,.int .i64 fr,.int .i64 tk]⟩)]=> .ok (.v (.bool (leV (nu,co,am,fr,tk))))
 |_=> .no
noncomputable def ajE:List LV→T LV:=gJ Tryz.prog Tryz.f90.params.toList ajU
noncomputable def P9:Specs:=bf []
theorem Xk:∀g S,P9 g=some S→Valid Tryz.prog aS g S:=aT (l:=[]) trivial
theorem av3 (nu co am fr tk:Int):bT Tryz.prog aS (P9) dY aC Tryz.f90 [.v (.agg #[.int .i64 nu,.int .i64 co,.int .i64 am,.int .i64 fr,.int .i64 tk])]=.ok (.v (.bool ((decide (nu≥1))&&((decide (nu≤1000000))&&((decide (co≥0))&&((decide (co<16))&&((decide (am≥0))&&((decide (am≤80))&&((decide (fr≥0))&&((decide (fr≤1000000))&&((decide (tk≥1))&&(decide (tk≤1000))))))))))))):=by kernel_rfl
theorem ay5:Valid Tryz.prog aS 90 ajE:=aH Tryz.func90 rfl Xk aF (aY (by kernel_rfl)) (fun args lv h=>by
 unfold ajU at h
 split at h
 ·simp only [canL,canX]
  rw [av3]
  obtain rfl:=h
  refine congrArg (fun z=>LV.v (.bool z)) ?_
  unfold leV
  rw [Bool.eq_iff_iff]
  simp only [Bool.and_eq_true,decide_eq_true_eq,eU]
  omega
 ·cases h)
structure pK where
 l:List Le
 r:Bool
 i:Int
def aDi (s:pK):List LV:=[.xl nC s.l,.v (.bool s.r),.v (.int .i64 s.i)]
def aCh (_:pK):List aU:=[]
noncomputable def Be:Code:=((aB (Tryz.f50.body.getD .skip))[0]?).getD .skip
def Zi (s:pK):T (Rd pK):=
 .br (decide (s.i<(List.length s.l:Int))) (.req (0≤s.i∧s.i<(List.length s.l:Int)) (.br (!(leV (iH s.l s.i))) (.ok (.stop (.ret) {s with r:=false})) (.br (decide (s.i>0)) (.req (0≤s.i∧s.i<(List.length s.l:Int)) (.req (0≤(IntKind.i64.wrap (s.i-1))∧(IntKind.i64.wrap (s.i-1))<(List.length s.l:Int)) (.br (decide ((iH s.l s.i).1≤(iH s.l (IntKind.i64.wrap (s.i-1))).1)) (.ok (.stop (.ret) {s with r:=false})) (.req (0≤s.i∧s.i<(List.length s.l:Int)) (.req (0≤(IntKind.i64.wrap (s.i-1))∧(IntKind.i64.wrap (s.i-1))<(List.length s.l:Int)) (.br (decide ((iH s.l s.i).2.2.2.1<(iH s.l (IntKind.i64.wrap (s.i-1))).2.2.2.1)) (.ok (.stop (.ret) {s with r:=false})) (.ok (.next {s with i:=(IntKind.i64.wrap (s.i+1))})))))))) (.ok (.next {s with i:=(IntKind.i64.wrap (s.i+1))}))))) (.ok (.stop (.exit 0) s))
abbrev ar4 (s:pK):=(Zi s).rd s
def ado (s:pK):Prop:=s.i=0∧(List.length s.l:Int)≤1000
def MQ (s:pK):Prop:=(0≤s.i∧s.i≤(List.length s.l:Int))∧(List.length s.l:Int)≤1000∧∀j:Nat,(j:Int)<s.i→jJ s.l j=true
def HY (s:pK):Nat:=((List.length s.l:Int)-s.i).toNat
def akn (x:Ex) (_ s':pK):Prop:=(x=.exit 0∧∀j:Nat,(j:Int)<(List.length s'.l:Int)→jJ s'.l j=true)∨(x=.ret∧s'.r=false∧∃j:Nat,(j:Int)<(List.length s'.l:Int)∧jJ s'.l j=false)
theorem az5:∀s,ado s→MQ s:=by
 intro s h
 obtain ⟨h0,h3⟩:=h
 exact ⟨by omega,h3,fun j hj=>by omega⟩
theorem avA (s:pK) (hI:MQ s):bJ (fun s'=>MQ s'∧HY s'<HY s) (fun x s'=>akn x s s') (ar4 s):=by
 unfold ar4 Zi
 dsimp only [T.rd,T.rl]
 obtain ⟨⟨h0,h1⟩,h3,hA⟩:=hI
 refine au (fun c1=>?_) (fun c1=>?_)
 ·refine au (fun c2=>?_) (fun c2=>?_)
  ·have c1:s.i<(List.length s.l:Int):=by simpa using c1
   refine .inr ⟨rfl,rfl,s.i.toNat,by simp only;omega,?_⟩
   rw [Int.toNat_of_nonneg h0]
   show jJ s.l s.i=false
   unfold jJ TT
   rw [ntW c2]
   rfl
  ·refine au (fun c3=>?_) (fun c3=>?_)
   ·refine au (fun c4=>?_) (fun c4=>?_)
    ·have c1:s.i<(List.length s.l:Int):=by simpa using c1
     have c3:0<s.i:=by simpa using c3
     rw [aK (x:=s.i-1) (by omega) (by omega)] at c4
     refine .inr ⟨rfl,rfl,s.i.toNat,by simp only;omega,?_⟩
     rw [Int.toNat_of_nonneg h0]
     show jJ s.l s.i=false
     unfold jJ TT
     rw [Ot c2,decide_eq_false (p:=s.i=0) (by omega)]
     simp only [decide_eq_true_eq] at c4
     rw [decide_eq_false (p:=(iH s.l s.i).1>(iH s.l (s.i-1)).1) (by omega)]
     simp
    ·refine au (fun c5=>?_) (fun c5=>?_)
     ·have c1:s.i<(List.length s.l:Int):=by simpa using c1
      have c3:0<s.i:=by simpa using c3
      rw [aK (x:=s.i-1) (by omega) (by omega)] at c4
      rw [aK (x:=s.i-1) (by omega) (by omega)] at c5
      refine .inr ⟨rfl,rfl,s.i.toNat,by simp only;omega,?_⟩
      rw [Int.toNat_of_nonneg h0]
      show jJ s.l s.i=false
      unfold jJ TT
      rw [Ot c2,decide_eq_false (p:=s.i=0) (by omega)]
      simp only [decide_eq_true_eq] at c5
      rw [decide_eq_false (p:=(iH s.l s.i).2.2.2.1≥(iH s.l (s.i-1)).2.2.2.1) (by omega)]
      simp
     ·have c1:s.i<(List.length s.l:Int):=by simpa using c1
      have c3:0<s.i:=by simpa using c3
      rw [aK (x:=s.i-1) (by omega) (by omega)] at c4
      rw [aK (x:=s.i-1) (by omega) (by omega)] at c5
      have hg:jJ s.l s.i=true:=by
        unfold jJ TT
        simp only [decide_eq_false_iff_not] at c4 c5
        rw [Ot c2,decide_eq_true (p:=(iH s.l s.i).1>(iH s.l (s.i-1)).1) (by omega),decide_eq_true (p:=(iH s.l s.i).2.2.2.1≥(iH s.l (s.i-1)).2.2.2.1) (by omega)]
        simp
      rw [aK (x:=s.i+1) (by omega) (by omega)]
      exact ⟨⟨⟨by simp only;omega,by simp only;omega⟩,h3,fun j hj=>by
       by_cases e:(j:Int)<s.i
       ·exact hA j e
       ·have e:(j:Int)=s.i:=by simp only at hj;omega
        show jJ s.l j=true
        rw [e];exact hg⟩,by simp only [HY];omega⟩
   ·have c1:s.i<(List.length s.l:Int):=by simpa using c1
    have hg:jJ s.l s.i=true:=by
      unfold jJ
      rw [Ot c2,decide_eq_true (p:=s.i=0) (by simp at c3;omega)]
      rfl
    rw [aK (x:=s.i+1) (by omega) (by omega)]
    exact ⟨⟨⟨by simp only;omega,by simp only;omega⟩,h3,fun j hj=>by
     by_cases e:(j:Int)<s.i
     ·exact hA j e
     ·have e:(j:Int)=s.i:=by simp only at hj;omega
      show jJ s.l j=true
      rw [e];exact hg⟩,by simp only [HY];omega⟩
 ·have c1:(List.length s.l:Int)≤s.i:=by simpa using c1
  exact .inl ⟨rfl,fun j hj=>hA j (by omega)⟩
def EP:bK pK:=⟨0,51,[0,2,3],[],aDi,aCh,fun v _=>⟨aQ nC (v.getD 0 .junk),uT (v.getD 1 .junk),gI (v.getD 2 .junk)⟩,Zi,fun s r=> {r with l:=s.l},fun s=>s,fun _ s=>s,[.ret,.exit 0],ado,MQ,HY⟩
abbrev ZV:=EP.run
abbrev abB:=EP.jG
abbrev ax9:=EP.q
theorem auN (s:pK) (hI:MQ s):(Zi s).all (fun _=>True):=by
 refine ⟨fun c1=>⟨?_,fun _=>trivial,fun c2=>⟨fun c3=>⟨?_,?_,fun _=>trivial,fun c4=>⟨?_,?_,fun _=>trivial,fun _=>trivial⟩⟩,fun _=>trivial⟩⟩,fun _=>trivial⟩
 all_goals ((obtain ⟨⟨h0,h1⟩,h3,hA⟩:=hI;simp only [decide_eq_true_eq] at c1;first|omega|(simp only [decide_eq_true_eq,gt_iff_lt] at c3;rw [aK (x:=s.i-1) (by omega) (by omega)];omega)))
noncomputable def Xq:Specs:=bf [(90,ajE)]
theorem aiM:∀g S,Xq g=some S→Valid Tryz.prog aS g S:=aT (l:=[(90,ajE)]) ⟨ay5,trivial⟩
theorem ag9:EP.Ok:=⟨fun s=>by kernel_rfl,fun s=>by kernel_rfl,fun s=>rfl,fun s t r=>rfl,fun s=>rfl,fun s=>by kernel_rfl⟩
theorem af2:EP.Pf (akn):=⟨az5,fun _ _=>rfl,avA,auN⟩
theorem amb:bn Tryz.prog aS (AN 0) (.loop Be) EP.lp:=bK.snd ag9 af2 (aP (Γ:=Xq) (K:=dY) (L:=aC) aiM aF Be (fun b hb=>by rw [show aB Be=[] by kernel_rfl] at hb;cases hb)) (fun s=>by kernel_rfl)
theorem ani (s:pK) (hE:ado s):∃s',MQ s'∧akn (abB s) s' (ZV s):=bK.fin ag9 af2 s hE
def acu:List LV→T LV
 | [.xl (.pair (.int .i64) (.pair (.int .i64) (.pair (.int .i64) (.pair (.int .i64) (.int .i64))))) l]=> .req ((List.length l:Int)≤1000) (.ok (.v (.bool (qx l))))
 |_=> .no
noncomputable def X9:List LV→T LV:=gJ Tryz.prog Tryz.f50.params.toList acu
theorem an5 (l:List Le):bT Tryz.prog aS (Xq) dY (fun i=>if i=2 then EP.lp else aC i) Tryz.f50 [.xl nC l]=.req (ax9 (⟨l,false,(0:Int)⟩:pK)) (.br (iw (abB (⟨l,false,(0:Int)⟩:pK)) (.ret)) (.ok (.v (.bool (ZV (⟨l,false,(0:Int)⟩:pK)).r))) (.ok (.v (.bool (decide ((List.length l:Int)≤64)))))):=by kernel_rfl
theorem atc:Valid Tryz.prog aS 50 X9:=aH Tryz.func50 rfl aiM aF (L:=(fun i=>if i=2 then EP.lp else aC i)) (fun b hb=>by
 rw [show aB _=[Be] by kernel_rfl] at hb
 simp only [List.mem_cons,List.not_mem_nil,or_false] at hb
 subst hb
 exact amb) (fun args lv h=>by
 unfold acu at h
 split at h
 ·simp only [canL,canX]
  rw [an5]
  rename_i l
  obtain ⟨hn,rfl⟩:=h
  have hE:ado ⟨l,false,0⟩:=⟨rfl,hn⟩
  refine ⟨⟨hE,rfl,rfl⟩,?_⟩
  obtain ⟨_,_,hq⟩:=ani _ hE
  unfold qx
  rcases hq with ⟨q1,q2⟩ |⟨q1,q2,j,q3,q4⟩<;>rw [q1]
  ·have e:J6 l.length (jJ l)=true:=fQ.2 q2
   rw [e,Bool.and_true]
   refine ⟨fun h=>(by cases h),fun _=>congrArg (fun z=>LV.v (.bool z)) ?_⟩
   by_cases h:l.length≤64
   ·rw [decide_eq_true h,decide_eq_true (by omega)]
   ·rw [decide_eq_false h,decide_eq_false (by omega)]
  ·have e:J6 l.length (jJ l)=false:=uh j q3 q4
   rw [q2,e,Bool.and_false]
   exact ⟨fun _=>rfl,fun h=>by cases h⟩
 ·cases h)
structure qJ where
 XM:Int
 level:Int
 x:Int
 qE:ByteArray
 XE:Int
 qC:Int
 mn:Int
 mx:Int
 st:Int
 kY:Int
 mO:Int
def aDj (s:qJ):List LV:=[.v (.int .i64 s.XM),.own 0 0,.v (.int .i64 s.level),.v (.int .i64 s.x)]
def aCi (s:qJ):List aU:=[⟨[.v (.string s.qE),.v (.int .i64 s.XE),.v (.int .i64 s.qC),.v (.int .i64 s.mn),.v (.int .i64 s.mx),.v (.int .i64 s.st),.v (.int .i64 s.kY),.v (.int .i64 s.mO)],58,.cl,false⟩]
noncomputable def Bf:Code:=((aB (Tryz.f83.body.getD .skip))[0]?).getD .skip
def Zj (s:qJ):T (Rd qJ):=
 .br (decide (s.x≤s.mx)) (.br (decide (s.x≤s.XM)) (.ok (.next {s with level:=s.x,x:=(IntKind.i64.wrap (s.x+s.st))})) (.ok (.next {s with x:=(IntKind.i64.wrap (s.x+s.st))}))) (.ok (.stop (.exit 0) s))
abbrev ar5 (s:qJ):=(Zj s).rd s
def ak7 (s:qJ):Prop:=s.level=0∧s.x=s.mn∧uV s.mn s.mx s.st
def JA (s:qJ):Prop:=PZ s.mn s.mx s.st s.XM s.level s.x
def H6 (s:qJ):Nat:=(s.mx+1-s.x).toNat
def ako (x:Ex) (_ s':qJ):Prop:=x=.exit 0∧s'.level=lD s'.mn s'.mx s'.st s'.XM
theorem az6:∀s,ak7 s→JA s:=by
 intro s h
 obtain ⟨h0,h1,h2⟩:=h
 unfold JA
 rw [h0,h1]
 exact Xb h2
theorem avC (s:qJ) (hI:JA s):bJ (fun s'=>JA s'∧H6 s'<H6 s) (fun x s'=>ako x s s') (ar5 s):=by
 unfold ar5 Zj
 dsimp only [T.rd,T.rl]
 have hI':PZ s.mn s.mx s.st s.XM s.level s.x:=hI
 have hc:=hI'.1
 unfold uV at hc
 refine au (fun c1=>?_) (fun c1=>⟨rfl,aia hI' (by simpa using c1)⟩)
 have c1:s.x≤s.mx:=by simpa using c1
 have hs:=aea hI' c1
 have hx:=hI'.2.1
 rw [aK (x:=s.x+s.st) (by omega) (by omega)]
 refine au (fun c2=>?_) (fun c2=>?_)
 ·rw [if_pos (by simpa using c2)] at hs
  exact ⟨hs,by simp only [H6];omega⟩
 ·rw [if_neg (by simpa using c2)] at hs
  exact ⟨hs,by simp only [H6];omega⟩
def EQ:bK qJ:=⟨0,22,[1,2,5,6],[],aDj,aCi,fun v b=>⟨gI (v.getD 0 .junk),gI (v.getD 2 .junk),gI (v.getD 3 .junk),gSr (aX (aO b 0) 0),gI (aX (aO b 0) 1),gI (aX (aO b 0) 2),gI (aX (aO b 0) 3),gI (aX (aO b 0) 4),gI (aX (aO b 0) 5),gI (aX (aO b 0) 6),gI (aX (aO b 0) 7)⟩,Zj,fun s r=> {r with XM:=s.XM,qE:=s.qE,XE:=s.XE,qC:=s.qC,mn:=s.mn,mx:=s.mx,st:=s.st,kY:=s.kY,mO:=s.mO},fun s=>s,fun _ s=>s,[.exit 0],ak7,JA,H6⟩
abbrev ZW:=EQ.run
abbrev apo:=EQ.jG
abbrev aya:=EQ.q
theorem auO (s:qJ) (_:JA s):(Zj s).all (fun _=>True):=by
 exact ⟨fun c1=>⟨fun _=>trivial,fun _=>trivial⟩,fun _=>trivial⟩
theorem aha:EQ.Ok:=⟨fun s=>by kernel_rfl,fun s=>by kernel_rfl,fun s=>rfl,fun s t r=>rfl,fun s=>rfl,fun s=>by kernel_rfl⟩
theorem af4:EQ.Pf (ako):=⟨az6,fun _ _=>rfl,avC,auO⟩
theorem amc:bn Tryz.prog aS (AN 0) (.loop Bf) EQ.lp:=bK.snd aha af4 (aP (Γ:=P9) (K:=dY) (L:=aC) Xk aF Bf (fun b hb=>by rw [show aB Bf=[] by kernel_rfl] at hb;cases hb)) (fun s=>by kernel_rfl)
theorem anj (s:qJ) (hE:ak7 s):∃s',JA s'∧ako (apo s) s' (ZW s):=bK.fin aha af4 s hE
def acA:List LV→T LV
 | [.v (.agg ⟨[.string _,.int .i64 _,.int .i64 _,.int .i64 mn,.int .i64 mx,.int .i64 st,.int .i64 _,.int .i64 _]⟩),.v (.int .i64 a)]=> .req (uV mn mx st) (.ok (.v (.int .i64 (lD mn mx st a))))
 |_=> .no
noncomputable def Ye:List LV→T LV:=gJ Tryz.prog Tryz.f83.params.toList acA
theorem aoa (nm:ByteArray) (at_ ph mn mx st fb ow a:Int):bT Tryz.prog aS (P9) dY (fun i=>if i=3 then EQ.lp else aC i) Tryz.f83 [.v (.agg #[.string nm,.int .i64 at_,.int .i64 ph,.int .i64 mn,.int .i64 mx,.int .i64 st,.int .i64 fb,.int .i64 ow]),.v (.int .i64 a)]=.req (aya (⟨a,(0:Int),mn,nm,at_,ph,mn,mx,st,fb,ow⟩:qJ)) (.ok (.v (.int .i64 (ZW (⟨a,(0:Int),mn,nm,at_,ph,mn,mx,st,fb,ow⟩:qJ)).level))):=by kernel_rfl
theorem ath:Valid Tryz.prog aS 83 Ye:=aH Tryz.func83 rfl Xk aF (L:=(fun i=>if i=3 then EQ.lp else aC i)) (fun b hb=>by
 rw [show aB _=[Bf] by kernel_rfl] at hb
 simp only [List.mem_cons,List.not_mem_nil,or_false] at hb
 subst hb
 exact amc) (fun args lv h=>by
 unfold acA at h
 split at h
 ·simp only [canL,canX]
  rw [aoa]
  obtain ⟨hc,rfl⟩:=h
  refine mQ ⟨⟨rfl,rfl,hc⟩,rfl,rfl⟩ (fun hE=>?_)
  obtain ⟨_,_,_,q⟩:=anj _ hE.1
  rw [q]
  exact rfl
 ·cases h)
def acz:List LV→T LV
 | [.v (.agg ⟨[.string _,.int .i64 _,.int .i64 ph,.int .i64 mn,.int .i64 mx,.int .i64 st,.int .i64 fb,.int .i64 _]⟩),.v (.agg ⟨[.int .i64 a,.int .i64 si]⟩)]=> .ok (.v (.bool (J8 ph mn mx st fb a si)))
 |_=> .no
noncomputable def Yd:List LV→T LV:=gJ Tryz.prog Tryz.f51.params.toList acz
noncomputable def ai3:Specs:=bf [(83,Ye),(91,ajD)]
theorem awP:∀g S,ai3 g=some S→Valid Tryz.prog aS g S:=aT (l:=[(83,Ye),(91,ajD)]) ⟨ath,ay4,trivial⟩
theorem an9 (nm:ByteArray) (at_ ph mn mx st fb ow a si:Int):bT Tryz.prog aS (ai3) dY aC Tryz.f51 [.v (.agg #[.string nm,.int .i64 at_,.int .i64 ph,.int .i64 mn,.int .i64 mx,.int .i64 st,.int .i64 fb,.int .i64 ow]),.v (.agg #[.int .i64 a,.int .i64 si])]=.br (LJ ph mn mx st fb) (.br (decide (a≥0)) (.br (decide (si≥0)) (.br (decide (si≤1000000)) (.req (uV mn mx st) (.ok (.v (.bool ((lD mn mx st a)==a))))) (.ok (.v (.bool false)))) (.ok (.v (.bool false)))) (.ok (.v (.bool false)))) (.ok (.v (.bool false))):=by kernel_rfl
theorem atg:Valid Tryz.prog aS 51 Yd:=aH Tryz.func51 rfl awP aF (aY (by kernel_rfl)) (fun args lv h=>by
 unfold acz at h
 split at h
 ·simp only [canL,canX]
  rw [an9]
  rename_i nm at_ ph mn mx st fb ow a si
  obtain rfl:=h
  unfold J8
  cases hc:LJ ph mn mx st fb with
  |false=>simp [T.all]
  |true=>
   have hp:=Xy hc
   by_cases h1:0≤a<;>by_cases h2:0≤si<;>by_cases h3:si≤1000000<;>simp [T.all,h1,h2,h3,hp]
 ·cases h)
end Go.Proofs.YtlihnbimgclogaaGreatDoor
namespace Go.Proofs.YtlihnbimgclogaaGreatDoor
open Go.Sx
def inG (n:Int):List ByteArray→ByteArray→Int
 | [],_=>-1
 |x::xs,w=>if (x==w)=true then n else inG (n+1) xs w
def inI (l:List ByteArray) (w:ByteArray):Int:=inG 0 l w
theorem aaD {w:ByteArray}:∀ {l:List ByteArray}{n:Int},0≤n→(0≤inG n l w↔isIn l w=true)
 | [],n,_=>by simp [inG,isIn]
 | x::xs,n,h=>by
  rw [inG]
  have e:isIn (x::xs) w=(w==x ||isIn xs w):=rfl
  rw [e]
  split
  ·rename_i hx
   have:x=w:=by simpa using hx
   subst this
   simp [h]
  ·rename_i hx
   have hx:¬x=w:=by simpa using hx
   have:(w==x)=false:=by simpa using fun e=>hx e.symm
   rw [this,Bool.false_or]
   exact aaD (by omega)
theorem F6 {l:List ByteArray}{w:ByteArray}:decide (inI l w≥0)=isIn l w:=by
 rw [Bool.eq_iff_iff,decide_eq_true_eq]
 exact aaD (Int.le_refl _)
theorem Kq {l:List ByteArray}{w:ByteArray}:isIn l w=l.contains w:=by
 unfold isIn
 rw [List.contains_eq_any_beq]
def yh (b j:Int):Bool:=chA b ||(!(j==0)&&((decide (b≥48)&&decide (b≤57)) ||b==95))
theorem aaL {b:Int}:yh b 0=chA b:=by simp [yh]
theorem Lj {b j:Int}(h:j≠0):yh b j=chB b:=by
 unfold yh chB
 rw [show (j==0)=false by simpa using h]
 rfl
theorem ahY {w:ByteArray}:nameB w=(J6 w.size (fun j=>yh (sG w j) j)&&(decide ((w.size:Int)≥1)&&(decide ((w.size:Int)≤12)&&!FK w))):=by
 unfold nameB gwB
 by_cases h1:1≤w.size
 ·by_cases h2:w.size≤12
  ·rw [decide_eq_true (show 1≤w.size∧w.size≤12 from ⟨h1,h2⟩),decide_eq_true (show (w.size:Int)≥1 by omega),decide_eq_true (show (w.size:Int)≤12 by omega),Bool.true_and,Bool.true_and,Bool.true_and]
   congr 1
   rw [Bool.eq_iff_iff,Bool.and_eq_true,List.all_eq_true,fQ]
   constructor
   ·rintro ⟨a,b⟩ j hj
    by_cases e:j=0
    ·subst e;exact (aaL (b:=sG w 0)).trans a
    ·have:=b j (List.mem_range.2 (by omega))
     rw [Lj (by omega)]
     simpa [e] using this
   ·intro h
    refine ⟨(aaL (b:=sG w 0)).symm.trans (h 0 (by omega)),fun j hj=>?_⟩
    by_cases e:j=0
    ·simp [e]
    ·have:=h j (by have:=List.mem_range.1 hj;omega)
     rw [Lj (by omega)] at this
     simp [this]
  ·rw [decide_eq_false (show ¬(1≤w.size∧w.size≤12) by omega),decide_eq_false (show ¬(w.size:Int)≤12 by omega)]
   simp
 ·rw [decide_eq_false (show ¬(1≤w.size∧w.size≤12) by omega),decide_eq_false (show ¬(w.size:Int)≥1 by omega)]
  simp
def nmR (l:List ByteArray):Prop:=∀w∈l,(w.size:Int)≤9223372036854775807
def nmB (l:List ByteArray):Bool:=l.all nameB&&once l
theorem afb {cs:List Cd}{os:List ByteArray}{ks:List Ko}{gs:List Ch}{bs:List Ba}(hd:1≤cs.length∧cs.length≤16∧os.length≤8∧ks.length≤32∧gs.length≤16∧bs.length≤24):fM cs os ks gs bs=(nmB (gB cs os ks gs bs)&&Vr cs os ks gs bs):=by
 unfold fM nmB
 rw [decide_eq_true hd,Bool.true_and,Bool.and_assoc]
theorem aim {n a b:Int}:inB n a b=false↔¬(a≤n∧n≤b):=by
 rw [←eU]
 simp
theorem adM {ks:List Ko}{i c:Int}(h0:0≤i) (h:i≤(ks.length:Int)):((ks.take i.toNat).map (·.2.2.2)).contains c=true↔∃j:Nat,(j:Int)<i∧(nG ks j).2.2.2=c:=by
 rw [List.contains_iff_mem,List.mem_map]
 constructor
 ·rintro ⟨x,hx,rfl⟩
  obtain ⟨j,hj,rfl⟩:=List.mem_iff_getElem.1 hx
  rw [List.length_take] at hj
  exact ⟨j,by omega,by rw [ai5 (by simp only [Int.toNat_natCast];omega)];simp⟩
 ·rintro ⟨j,hj,rfl⟩
  refine ⟨nG ks j,?_,rfl⟩
  rw [ai5 (by simp only [Int.toNat_natCast];omega),List.mem_iff_getElem]
  exact ⟨j,by rw [List.length_take];omega,by simp⟩
end Go.Proofs.YtlihnbimgclogaaGreatDoor
namespace Go.Proofs.YtlihnbimgclogaaGreatDoor
open Go.Sx
structure mY where
 l:List ByteArray
 w:ByteArray
 r:Int
 i:Int
def aDB (s:mY):List LV:=[.xl .str s.l,.v (.string s.w),.v (.int .i64 s.r),.v (.int .i64 s.i)]
def aCA (_:mY):List aU:=[]
noncomputable def BF:Code:=((aB (Tryz.f144.body.getD .skip))[0]?).getD .skip
def RI (s:mY):T (Rd mY):=
 .br (decide (s.i<(List.length s.l:Int))) (.req (0≤s.i∧s.i<(List.length s.l:Int)) (.br ((gS s.l s.i).toList==s.w.toList) (.ok (.stop (.ret) {s with r:=s.i})) (.ok (.next {s with i:=(IntKind.i64.wrap (s.i+1))})))) (.ok (.stop (.exit 0) s))
abbrev abk (s:mY):=(RI s).rd s
def alb (s:mY):Prop:=s.i=0∧(List.length s.l:Int)≤1000∧True
def U3 (s:mY):Prop:=0≤s.i∧s.i≤(List.length s.l:Int)∧(List.length s.l:Int)≤1000∧True
def Ph (s:mY):Nat:=((List.length s.l:Int)-s.i).toNat
def asJ (_:Ex) (_ _:mY):Prop:=True
theorem aAB:∀s,alb s→U3 s:=by
 intro s h
 obtain ⟨h0,h1,h2⟩:=h
 exact ⟨by omega,by omega,h1,h2⟩
theorem awz (s:mY) (hI:U3 s):bJ (fun s'=>U3 s'∧Ph s'<Ph s) (fun x s'=>asJ x s s') (abk s):=by
 unfold abk RI
 dsimp only [T.rd,T.rl]
 obtain ⟨h0,h1,h2,h3⟩:=hI
 refine au (fun c1=>?_) (fun c1=>?_)
 ·refine au (fun c2=>?_) (fun c2=>?_)
  ·trivial
  ·have c1:s.i<(List.length s.l:Int):=by simpa using c1
   rw [aK (x:=s.i+1) (by omega) (by omega)]
   exact ⟨⟨by simp only;omega,by simp only;omega,h2,h3⟩,by simp only [Ph];omega⟩
 ·trivial
def Fb:bK mY:=⟨0,19,[0,1,4,5],[],aDB,aCA,fun v _=>⟨aQ .str (v.getD 0 .junk),gSr (v.getD 1 .junk),gI (v.getD 2 .junk),gI (v.getD 3 .junk)⟩,RI,fun s r=> {r with l:=s.l,w:=s.w},fun s=>s,fun _ s=>s,[.ret,.exit 0],alb,U3,Ph⟩
abbrev Z5:=Fb.run
abbrev abE:=Fb.jG
abbrev ayq:=Fb.q
theorem au6 (s:mY) (hI:U3 s):(RI s).all (fun _=>True):=by
 refine ⟨fun c1=>⟨?_,fun _=>trivial,fun _=>trivial⟩,fun _=>trivial⟩
 ·(obtain ⟨h0,h1,h2,h3⟩:=hI;simp only [decide_eq_true_eq] at c1;omega)
noncomputable def IL:Specs:=bf []
theorem Lm:∀g S,IL g=some S→Valid Tryz.prog aS g S:=aT (l:=[]) trivial
theorem ahj:Fb.Ok:=⟨fun s=>by kernel_rfl,fun s=>by kernel_rfl,fun s=>rfl,fun s t r=>rfl,fun s=>rfl,fun s=>by kernel_rfl⟩
theorem agd:Fb.Pf (asJ):=⟨aAB,fun _ _=>rfl,awz,au6⟩
theorem amu:bn Tryz.prog aS (AN 0) (.loop BF) Fb.lp:=bK.snd ahj agd (aP (Γ:=IL) (K:=dY) (L:=aC) Lm aF BF (fun b hb=>by rw [show aB BF=[] by kernel_rfl] at hb;cases hb)) (fun s=>by kernel_rfl)
theorem aoZ (s:mY) (hE:alb s):(fun (x:Ex) (s':mY) (v:Int)=>(x=.ret∧s'.r=v)∨(x=.exit 0∧v=-1)) (abE s) (Z5 s) ((fun s:mY=>inG s.i (s.l.drop s.i.toNat) s.w) s):=by
 exact bK.wu ahj agd (fun s:mY=>inG s.i (s.l.drop s.i.toNat) s.w) (fun x s' v=>(x=.ret∧s'.r=v)∨(x=.exit 0∧v=-1)) (fun s hI=>by
  show bJ _ _ (abk s)
  unfold abk RI
  dsimp only [T.rd,T.rl]
  obtain ⟨h0,h1,h2,h3⟩:=hI
  refine au (fun c1=>au (fun c2=>?_) (fun c2=>?_)) (fun c1=>?_)
  ·have c1:s.i<(List.length s.l:Int):=by simpa using c1
   rw [tX] at c2
   refine .inl ⟨rfl,?_⟩
   try simp only
   rw [(uF h0 c1).1,inG,if_pos c2]
  ·have c1:s.i<(List.length s.l:Int):=by simpa using c1
   rw [tX] at c2
   rw [aK (x:=s.i+1) (by omega) (by omega)]
   show inG _ _ _=inG _ _ _
   rw [(uF h0 c1).1,inG,if_neg (by rw [c2];simp)]
  ·have c1:(List.length s.l:Int)≤s.i:=by simpa using c1
   refine .inr ⟨rfl,?_⟩
   rw [List.drop_eq_nil_of_le (by omega)]
   rfl) s hE
def ajQ:List LV→T LV
 | [.xl (.str) l,.v (.string w)]=> .req ((List.length l:Int)≤1000) (.ok (.v (.int .i64 (inI l w))))
 |_=> .no
noncomputable def ajB:List LV→T LV:=gJ Tryz.prog Tryz.f144.params.toList ajQ
theorem avY (l:List ByteArray) (w:ByteArray):bT Tryz.prog aS (IL) dY (fun i=>if i=2 then Fb.lp else aC i) Tryz.f144 [.xl .str l,.v (.string w)]=.req (ayq (⟨l,w,(0:Int),(0:Int)⟩:mY)) (.br (iw (abE (⟨l,w,(0:Int),(0:Int)⟩:mY)) (.ret)) (.ok (.v (.int .i64 (Z5 (⟨l,w,(0:Int),(0:Int)⟩:mY)).r))) (.ok (.v (.int .i64 (-1))))):=by kernel_rfl
theorem ay2:Valid Tryz.prog aS 144 ajB:=aH Tryz.func144 rfl Lm aF (L:=(fun i=>if i=2 then Fb.lp else aC i)) (fun b hb=>by
 rw [show aB _=[BF] by kernel_rfl] at hb
 simp only [List.mem_cons,List.not_mem_nil,or_false] at hb
 subst hb
 exact amu) (fun args lv h=>by
 unfold ajQ at h
 split at h
 ·simp only [canL,canX]
  rw [avY]
  obtain ⟨hl,rfl⟩:=h
  refine mQ ⟨⟨rfl,hl,trivial⟩,rfl,rfl⟩ (fun hE=>?_)
  rcases aoZ _ hE.1 with ⟨q1,q2⟩ |⟨q1,q2⟩
  ·rw [q1,q2]
   exact ⟨fun _=>rfl,fun h=>by cases h⟩
  ·rw [q1]
   refine ⟨fun h=>(by cases h),fun _=>congrArg (fun z=>LV.v (.int .i64 z)) ?_⟩
   exact q2.symm
 ·cases h)
def LU:List LV→T LV
 | []=> .ok (.xl .str kinds)
 |_=> .no
noncomputable def Jq:List LV→T LV:=gJ Tryz.prog Tryz.f145.params.toList LU
theorem ad1  :bT Tryz.prog aS (IL) dY aC Tryz.f145 []=.ok (.xl .str ([(ByteArray.mk #[102,101,101,100,101,114]),(ByteArray.mk #[99,97,98,108,101]),(ByteArray.mk #[111,119,110,101,114]),(ByteArray.mk #[99,111,110,116,114,97,99,116]),(ByteArray.mk #[99,104,97,114,103,101,114]),(ByteArray.mk #[98,97,121]),(ByteArray.mk #[116,97,114,105,102,102])])):=by kernel_rfl
theorem aeX:Valid Tryz.prog aS 145 Jq:=aH Tryz.func145 rfl Lm aF (aY (by kernel_rfl)) (fun args lv h=>by
 unfold LU at h
 split at h
 ·simp only [canL]
  rw [ad1]
  exact h
 ·cases h)
def LW:List LV→T LV
 | []=> .ok (.xl .str Ei)
 |_=> .no
noncomputable def Jt:List LV→T LV:=gJ Tryz.prog Tryz.f146.params.toList LW
theorem ad2  :bT Tryz.prog aS (IL) dY aC Tryz.f146 []=.ok (.xl .str ([(ByteArray.mk #[108,105,109,105,116]),(ByteArray.mk #[110,101,117,116,114,97,108]),(ByteArray.mk #[102,117,115,101]),(ByteArray.mk #[116,104,101,114,109,97,108]),(ByteArray.mk #[102,114,111,109]),(ByteArray.mk #[97,116]),(ByteArray.mk #[112,104,97,115,101,115]),(ByteArray.mk #[97,109,112,115]),(ByteArray.mk #[102,97,108,108,98,97,99,107]),(ByteArray.mk #[111,119,110,101,114]),(ByteArray.mk #[99,97,114,100]),(ByteArray.mk #[114,97,110,107]),(ByteArray.mk #[99,104,97,114,103,101,114])])):=by kernel_rfl
theorem ae0:Valid Tryz.prog aS 146 Jt:=aH Tryz.func146 rfl Lm aF (aY (by kernel_rfl)) (fun args lv h=>by
 unfold LW at h
 split at h
 ·simp only [canL]
  rw [ad2]
  exact h
 ·cases h)
def Ci:List LV→T LV
 | []=> .ok (.xl .str oK)
 |_=> .no
noncomputable def wG:List LV→T LV:=gJ Tryz.prog Tryz.f147.params.toList Ci
theorem Oq  :bT Tryz.prog aS (IL) dY aC Tryz.f147 []=.ok (.xl .str ([(ByteArray.mk #[115,116,97,114,116]),(ByteArray.mk #[101,110,101,114,103,121]),(ByteArray.mk #[116,105,109,101]),(ByteArray.mk #[105,100,108,101]),(ByteArray.mk #[99,97,112]),(ByteArray.mk #[116,97,120])])):=by kernel_rfl
theorem QU:Valid Tryz.prog aS 147 wG:=aH Tryz.func147 rfl Lm aF (aY (by kernel_rfl)) (fun args lv h=>by
 unfold Ci at h
 split at h
 ·simp only [canL]
  rw [Oq]
  exact h
 ·cases h)
def LQ:List LV→T LV
 | []=> .ok (.xl .str words)
 |_=> .no
noncomputable def Jo:List LV→T LV:=gJ Tryz.prog Tryz.f148.params.toList LQ
theorem adZ  :bT Tryz.prog aS (IL) dY aC Tryz.f148 []=.ok (.xl .str ([(ByteArray.mk #[111,110]),(ByteArray.mk #[119,111,114,107]),(ByteArray.mk #[115,97,116,117,114,100,97,121]),(ByteArray.mk #[115,117,110,100,97,121]),(ByteArray.mk #[98,101,116,119,101,101,110]),(ByteArray.mk #[112,101,114]),(ByteArray.mk #[102,114,101,101])])):=by kernel_rfl
theorem aeV:Valid Tryz.prog aS 148 Jo:=aH Tryz.func148 rfl Lm aF (aY (by kernel_rfl)) (fun args lv h=>by
 unfold LQ at h
 split at h
 ·simp only [canL]
  rw [adZ]
  exact h
 ·cases h)
structure oQ where
 w:ByteArray
 r:Bool
 i:Int
def aDa (s:oQ):List LV:=[.v (.string s.w),.v (.bool s.r),.v (.int .i64 s.i)]
def aB9 (_:oQ):List aU:=[]
noncomputable def AV:Code:=((aB (Tryz.f122.body.getD .skip))[0]?).getD .skip
def Zf (s:oQ):T (Rd oQ):=
 .br (decide (s.i<(s.w.size:Int))) (.req (0≤s.i∧s.i<(s.w.size:Int)) (.br (if decide ((sG s.w s.i)<97) then (s.i==0) ||(if decide ((sG s.w s.i)<48) then (sG s.w s.i) !=95 else (decide ((sG s.w s.i)>57))&&((sG s.w s.i) !=95)) else (decide ((sG s.w s.i)>122))&&((s.i==0) ||(if decide ((sG s.w s.i)<48) then (sG s.w s.i) !=95 else (decide ((sG s.w s.i)>57))&&((sG s.w s.i) !=95)))) (.ok (.stop (.ret) {s with r:=false})) (.ok (.next {s with i:=(IntKind.i64.wrap (s.i+1))})))) (.ok (.stop (.exit 0) s))
abbrev ar0 (s:oQ):=(Zf s).rd s
def JK (s:oQ) (j:Int):Bool:=yh (sG s.w j) j
def ak0 (s:oQ):Prop:=s.i=0∧0≤(s.w.size:Int)∧(s.w.size:Int)≤9223372036854775807∧True
def MN (s:oQ):Prop:=0≤s.i∧s.i≤(s.w.size:Int)∧(s.w.size:Int)≤9223372036854775807∧(True)∧∀j:Nat,(j:Int)<s.i→JK s j=true
def OM (s:oQ):Nat:=((s.w.size:Int)-s.i).toNat
def akl (x:Ex) (_ s':oQ):Prop:=(x=.exit 0∧∀j:Nat,(j:Int)<(s'.w.size:Int)→JK s' j=true)∨(x=.ret∧s'.r=false∧∃j:Nat,(j:Int)<(s'.w.size:Int)∧JK s' j=false)
theorem azL:∀s,ak0 s→MN s:=by
 intro s h
 obtain ⟨h0,h1,h2,h3⟩:=h
 exact ⟨by omega,by omega,h2,h3,fun j hj=>by omega⟩
theorem avp (s:oQ) (hI:MN s):bJ (fun s'=>MN s'∧OM s'<OM s) (fun x s'=>akl x s s') (ar0 s):=by
 unfold ar0 Zf
 dsimp only [T.rd,T.rl]
 obtain ⟨h0,h1,h2,h3,h4⟩:=hI
 refine au (fun c1=>au (fun c2=>?_) (fun c2=>?_)) (fun c1=>?_)
 ·have c1:s.i<(s.w.size:Int):=by simpa using c1
  refine .inr ⟨rfl,rfl,s.i.toNat,by simp only;omega,?_⟩
  rw [Int.toNat_of_nonneg (by omega)]
  have hg:JK s s.i=false:=by unfold JK;(revert c2;unfold yh chA;generalize sG s.w s.i=b;intro c2;by_cases h1:b<97<;>by_cases h2:b≤122<;>by_cases h3:b<48<;>by_cases h4:b≤57<;>by_cases h5:b=95<;>by_cases h6:s.i=0<;>simp_all<;>omega)
  exact hg
 ·have c1:s.i<(s.w.size:Int):=by simpa using c1
  have hg:JK s s.i=true:=by unfold JK;(revert c2;unfold yh chA;generalize sG s.w s.i=b;intro c2;by_cases h1:b<97<;>by_cases h2:b≤122<;>by_cases h3:b<48<;>by_cases h4:b≤57<;>by_cases h5:b=95<;>by_cases h6:s.i=0<;>simp_all<;>omega)
  rw [aK (x:=s.i+1) (by omega) (by omega)]
  refine ⟨⟨by simp only;omega,by simp only;omega,h2,h3,fun j hj=>?_⟩,by simp only [OM];omega⟩
  by_cases hji:(j:Int)<s.i
  ·exact h4 j hji
  ·have:(j:Int)=s.i:=by simp only at hj;omega
   rw [this];exact hg
 ·have c1:(s.w.size:Int)≤s.i:=by simpa using c1
  exact .inl ⟨rfl,fun j hj=>h4 j (by omega)⟩
def EH:bK oQ:=⟨0,71,[0,2,3],[],aDa,aB9,fun v _=>⟨gSr (v.getD 0 .junk),uT (v.getD 1 .junk),gI (v.getD 2 .junk)⟩,Zf,fun s r=> {r with w:=s.w},fun s=>s,fun _ s=>s,[.ret,.exit 0],ak0,MN,OM⟩
abbrev ZT:=EH.run
abbrev abz:=EH.jG
abbrev ax0:=EH.q
theorem auF (s:oQ) (hI:MN s):(Zf s).all (fun _=>True):=by
 refine ⟨fun c1=>⟨?_,fun _=>trivial,fun _=>trivial⟩,fun _=>trivial⟩
 ·(obtain ⟨h0,h1,h2,h3,h4⟩:=hI;simp at c1;omega)
noncomputable def aiX:Specs:=bf [(144,ajB),(145,Jq),(146,Jt),(147,wG),(148,Jo)]
theorem arq:∀g S,aiX g=some S→Valid Tryz.prog aS g S:=aT (l:=[(144,ajB),(145,Jq),(146,Jt),(147,wG),(148,Jo)]) ⟨ay2,aeX,ae0,QU,aeV,trivial⟩
theorem ag1:EH.Ok:=⟨fun s=>by kernel_rfl,fun s=>by kernel_rfl,fun s=>rfl,fun s t r=>rfl,fun s=>rfl,fun s=>by kernel_rfl⟩
theorem afT:EH.Pf (akl):=⟨azL,fun _ _=>rfl,avp,auF⟩
theorem al3:bn Tryz.prog aS (AN 0) (.loop AV) EH.lp:=bK.snd ag1 afT (aP (Γ:=aiX) (K:=dY) (L:=aC) arq aF AV (fun b hb=>by rw [show aB AV=[] by kernel_rfl] at hb;cases hb)) (fun s=>by kernel_rfl)
theorem am7 (s:oQ) (hE:ak0 s):∃s',MN s'∧akl (abz s) s' (ZT s):=bK.fin ag1 afT s hE
def UF:List LV→T LV
 | [.v (.string w)]=> .req ((w.size:Int)≤9223372036854775807) (.ok (.v (.bool (nameB w))))
 |_=> .no
noncomputable def Qx:List LV→T LV:=gJ Tryz.prog Tryz.f122.params.toList UF
theorem ahM (w:ByteArray):bT Tryz.prog aS (aiX) dY (fun i=>if i=2 then EH.lp else aC i) Tryz.f122 [.v (.string w)]=.req (ax0 (⟨w,false,(0:Int)⟩:oQ)) (.br (iw (abz (⟨w,false,(0:Int)⟩:oQ)) (.ret)) (.ok (.v (.bool (ZT (⟨w,false,(0:Int)⟩:oQ)).r))) (.req ((List.length kinds:Int)≤1000) (.br (decide ((inI kinds w)≥0)) (.ok (.v (.bool false))) (.req ((List.length Ei:Int)≤1000) (.br (decide ((inI Ei w)≥0)) (.ok (.v (.bool false))) (.req ((List.length oK:Int)≤1000) (.br (decide ((inI oK w)≥0)) (.ok (.v (.bool false))) (.req ((List.length words:Int)≤1000) (.ok (.v (.bool ((decide ((w.size:Int)≥1))&&((decide ((w.size:Int)≤12))&&(!(decide ((inI words w)≥0)))))))))))))))):=by kernel_rfl
theorem alq:Valid Tryz.prog aS 122 Qx:=aH Tryz.func122 rfl arq aF (L:=(fun i=>if i=2 then EH.lp else aC i)) (fun b hb=>by
 rw [show aB _=[AV] by kernel_rfl] at hb
 simp only [List.mem_cons,List.not_mem_nil,or_false] at hb
 subst hb
 exact al3) (fun args lv h=>by
 unfold UF at h
 split at h
 ·simp only [canL,canX]
  rw [ahM]
  rename_i w
  obtain ⟨hl,rfl⟩:=h
  refine mQ ⟨⟨rfl,Int.natCast_nonneg _,hl,trivial⟩,rfl,rfl⟩ (fun hE=>?_)
  obtain ⟨s',_,hq⟩:=am7 _ hE.1
  rw [ahY]
  rcases hq with ⟨q1,q2⟩ |⟨q1,q2,j,q3,q4⟩
  ·have q2:J6 w.size (fun j=>yh (sG w j) j)=true:=fQ.2 q2
   rw [q1,q2,Bool.true_and]
   have k1:=F6 (l:=kinds) (w:=w)
   have k2:=F6 (l:=Ei) (w:=w)
   have k3:=F6 (l:=oK) (w:=w)
   have k4:=F6 (l:=words) (w:=w)
   refine ⟨fun h=>(by cases h),fun _=>⟨by decide,fun c1=>?_,fun c1=>⟨by decide,fun c2=>?_,fun c2=>⟨by decide,fun c3=>?_,fun c3=>⟨by decide,?_⟩⟩⟩⟩⟩
   ·have:FK w=true:=by unfold FK;rw [←k1,c1];rfl
    rw [this]
    simp
    exact rfl
   ·have:FK w=true:=by unfold FK;rw [←k1,c1,←k2,c2];rfl
    rw [this]
    simp
    exact rfl
   ·have:FK w=true:=by unfold FK;rw [←k1,c1,←k2,c2,←k3,c3];rfl
    rw [this]
    simp
    exact rfl
   ·have:FK w=decide (inI words w≥0):=by unfold FK;rw [←k1,c1,←k2,c2,←k3,c3,←k4];rfl
    rw [this]
    exact rfl
  ·rw [q1,q2]
   refine ⟨fun _=>congrArg (fun z=>LV.v (.bool z)) ?_,fun h=>by cases h⟩
   rw [uh (n:=w.size) (f:=fun j=>yh (sG w j) j) j q3 q4]
   rfl
 ·cases h)
end Go.Proofs.YtlihnbimgclogaaGreatDoor
namespace Go.Proofs.YtlihnbimgclogaaGreatDoor
open Go.Sx
def acn:List LV→T LV
 | [.v (.int .i64 n),.v (.int .i64 a),.v (.int .i64 b)]=> .ok (.v (.bool (inB n a b)))
 |_=> .no
noncomputable def Jr:List LV→T LV:=gJ Tryz.prog Tryz.f86.params.toList acn
noncomputable def TJ:Specs:=bf []
theorem aaO:∀g S,TJ g=some S→Valid Tryz.prog aS g S:=aT (l:=[]) trivial
theorem an0 (n a b:Int):bT Tryz.prog aS (TJ) dY aC Tryz.f86 [.v (.int .i64 n),.v (.int .i64 a),.v (.int .i64 b)]=.ok (.v (.bool ((decide (n≥a))&&(decide (n≤b))))):=by kernel_rfl
theorem aeY:Valid Tryz.prog aS 86 Jr:=aH Tryz.func86 rfl aaO aF (aY (by kernel_rfl)) (fun args lv h=>by
 unfold acn at h
 split at h
 ·simp only [canL,canX]
  rw [an0]
  exact h
 ·cases h)
def acr:List LV→T LV
 | [.v (.agg ⟨[.string nm,.int .i64 at_,.int .i64 ph,.int .i64 mi,.int .i64 ma,.int .i64 st,.int .i64 fb,.int .i64 ow]⟩)]=> .ok (.v (.bool (chW (nm,at_,ph,mi,ma,st,fb,ow))))
 |_=> .no
noncomputable def X8:List LV→T LV:=gJ Tryz.prog Tryz.f89.params.toList acr
noncomputable def aiW:Specs:=bf [(86,Jr)]
theorem arp:∀g S,aiW g=some S→Valid Tryz.prog aS g S:=aT (l:=[(86,Jr)]) ⟨aeY,trivial⟩
theorem an3 (nm:ByteArray) (at_ ph mi ma st fb ow:Int):bT Tryz.prog aS (aiW) dY aC Tryz.f89 [.v (.agg #[.string nm,.int .i64 at_,.int .i64 ph,.int .i64 mi,.int .i64 ma,.int .i64 st,.int .i64 fb,.int .i64 ow])]=.ok (.v (.bool ((inB ph (1:Int) (7:Int))&&((inB mi (1:Int) (80:Int))&&((inB ma mi (80:Int))&&((inB st (1:Int) (80:Int))&&((fb==0) ||(inB fb mi ma)))))))):=by kernel_rfl
theorem atb:Valid Tryz.prog aS 89 X8:=aH Tryz.func89 rfl arp aF (aY (by kernel_rfl)) (fun args lv h=>by
 unfold acr at h
 split at h
 ·simp only [canL,canX]
  rw [an3]
  exact h
 ·cases h)
def aco:List LV→T LV
 | [.agg [.xl (.pair .str (.pair (.int .i64) (.pair (.int .i64) (.pair (.int .i64) (.pair (.pair (.int .i64) (.int .i64)) (.pair (.int .i64) (.pair (.int .i64) (.pair (.int .i64) (.pair (.int .i64) (.int .i64)))))))))) cs,.xl (.str) os,.xl (.pair .str (.pair (.int .i64) (.pair (.int .i64) (.int .i64)))) ks,.xl (.pair .str (.pair (.int .i64) (.pair (.int .i64) (.pair (.int .i64) (.pair (.int .i64) (.pair (.int .i64) (.pair (.int .i64) (.int .i64)))))))) gs,.xl (.pair .str (.int .i64)) bs]]=> .ok (.v (.bool (decide (List.length cs≤40∧List.length os≤40∧List.length ks≤40∧List.length gs≤40∧List.length bs≤40))))
 |_=> .no
noncomputable def X6:List LV→T LV:=gJ Tryz.prog Tryz.f34.params.toList aco
theorem an1 (cs:List Cd) (os:List ByteArray) (ks:List Ko) (gs:List Ch) (bs:List Ba):bT Tryz.prog aS (TJ) dY aC Tryz.f34 [.agg [.xl dU cs,.xl .str os,.xl dW ks,.xl dM gs,.xl dX bs]]=.ok (.v (.bool ((decide ((List.length cs:Int)≤40))&&((decide ((List.length os:Int)≤40))&&((decide ((List.length ks:Int)≤40))&&((decide ((List.length gs:Int)≤40))&&(decide ((List.length bs:Int)≤40)))))))):=by kernel_rfl
theorem as9:Valid Tryz.prog aS 34 X6:=aH Tryz.func34 rfl aaO aF (aY (by kernel_rfl)) (fun args lv h=>by
 unfold aco at h
 split at h
 ·simp only [canL,canX]
  rw [an1]
  obtain rfl:=h
  refine congrArg (fun z=>LV.v (.bool z)) ?_
  rw [Bool.eq_iff_iff]
  simp only [Bool.and_eq_true,decide_eq_true_eq]
  omega
 ·cases h)
def acp:List LV→T LV
 | [.v (.agg ⟨[.string nm,.int .i64 vF,.int .i64 li,.int .i64 ne,.int .i64 ra,.int .i64 he,.int .i64 am,.int .i64 mo,.int .i64 ga,.int .i64 lo,.int .i64 de]⟩),.v (.int .i64 i)]=> .req (0≤i∧i≤1000) (.ok (.v (.bool (Eh i (nm,vF,li,ne,(ra,he),am,mo,ga,lo,de)))))
 |_=> .no
noncomputable def X7:List LV→T LV:=gJ Tryz.prog Tryz.f88.params.toList acp
theorem an2 (nm:ByteArray) (vF li ne ra he am mo ga lo de i:Int):bT Tryz.prog aS (aiW) dY aC Tryz.f88 [.v (.agg #[.string nm,.int .i64 vF,.int .i64 li,.int .i64 ne,.int .i64 ra,.int .i64 he,.int .i64 am,.int .i64 mo,.int .i64 ga,.int .i64 lo,.int .i64 de]),.v (.int .i64 i)]=.br ((!(inB li (1:Int) (1000:Int))) ||((!(inB ne (1:Int) (1000:Int))) ||(if i==0 then (vF !=(-1)) ||((decide (i>0))&&(!(inB vF (0:Int) (IntKind.i64.wrap (i-1))))) else (decide (i>0))&&(!(inB vF (0:Int) (IntKind.i64.wrap (i-1))))))) (.ok (.v (.bool false))) (.br ((!((ra==0)&&(he==0)))&&((!(inB ra (1:Int) (1000:Int))) ||(!(inB he (0:Int) (1000000:Int))))) (.ok (.v (.bool false))) (.ok (.v (.bool (((am==0)&&((mo==0)&&((ga==0)&&((lo==0)&&(de==0))))) ||((inB am (0:Int) (200000:Int))&&((inB mo (IntKind.i64.wrap (am+1)) (200000:Int))&&((inB ga (0:Int) (1000:Int))&&((inB lo (0:Int) (1000:Int))&&(inB de (1:Int) (1000000:Int))))))))))):=by kernel_rfl
theorem ata:Valid Tryz.prog aS 88 X7:=aH Tryz.func88 rfl arp aF (aY (by kernel_rfl)) (fun args lv h=>by
 unfold acp at h
 split at h
 ·simp only [canL,canX]
  rw [an2]
  rename_i nm vF li ne ra he am mo ga lo de i
  obtain ⟨⟨h0,h1⟩,rfl⟩:=h
  have hw:IntKind.i64.wrap (i-1)=i-1:=aK (by omega) (by omega)
  rw [hw]
  have hU:(if i==0 then (vF !=(-1)) ||((decide (i>0))&&(!(inB vF (0:Int) (i-1)))) else (decide (i>0))&&(!(inB vF (0:Int) (i-1))))=!(if i=0 then vF==-1 else inB vF 0 (i-1)):=by
   by_cases e:i=0
   ·subst e
    simp
    rfl
   ·rw [if_neg (by simpa using e),if_neg e,decide_eq_true (by omega),Bool.true_and]
  rw [hU]
  unfold Eh
  simp only
  generalize (if i=0 then vF==-1 else inB vF 0 (i-1))=u
  generalize inB li 1 1000=a
  generalize inB ne 1 1000=b
  have hC:((((am==0)&&((mo==0)&&((ga==0)&&((lo==0)&&(de==0))))) ||((inB am (0:Int) (200000:Int))&&((inB mo (IntKind.i64.wrap (am+1)) (200000:Int))&&((inB ga (0:Int) (1000:Int))&&((inB lo (0:Int) (1000:Int))&&(inB de (1:Int) (1000000:Int))))))))=Qn (am,mo,ga,lo,de):=by
   unfold Qn cbZ
   simp only
   congr 1
   by_cases ha:inB am 0 200000=true
   ·have:=eU.1 ha
    rw [aK (x:=am+1) (by omega) (by omega),ha,Bool.true_and,Bool.eq_iff_iff]
    simp only [Bool.and_eq_true,eU,decide_eq_true_eq]
    omega
   ·have ha:inB am 0 200000=false:=by simpa using ha
    rw [ha,Bool.false_and,eq_comm,Bool.eq_false_iff]
    have:=aim.1 ha
    simp only [ne_eq,Bool.and_eq_true,eU,decide_eq_true_eq]
    omega
  rw [hC]
  generalize Qn (am,mo,ga,lo,de)=z
  generalize ((ra==0)&&(he==0))=f
  generalize inB ra 1 1000=r
  generalize inB he 0 1000000=q
  cases u<;>cases a<;>cases b<;>cases z<;>cases f<;>cases r<;>cases q<;>simp [T.all]
 ·cases h)
structure uM where
 l:List ByteArray
 w:ByteArray
 r:Bool
 i:Int
def aEC (s:uM):List LV:=[.xl .str s.l,.v (.string s.w),.v (.bool s.r),.v (.int .i64 s.i)]
def aEu (_:uM):List aU:=[]
noncomputable def Gm:Code:=((aB (Tryz.f123.body.getD .skip))[0]?).getD .skip
def ae6 (s:uM):T (Rd uM):=
 .br (decide (s.i<(List.length s.l:Int))) (.req (0≤s.i∧s.i<(List.length s.l:Int)) (.br ((gS s.l s.i).toList==s.w.toList) (.ok (.stop (.ret) {s with r:=true})) (.ok (.next {s with i:=(IntKind.i64.wrap (s.i+1))})))) (.ok (.stop (.exit 0) s))
abbrev apc (s:uM):=(ae6 s).rd s
def ax7 (s:uM):Prop:=s.i=0∧(List.length s.l:Int)≤1000∧True
def akO (s:uM):Prop:=0≤s.i∧s.i≤(List.length s.l:Int)∧(List.length s.l:Int)≤1000∧True
def aap (s:uM):Nat:=((List.length s.l:Int)-s.i).toNat
def aBJ (_:Ex) (_ _:uM):Prop:=True
theorem aD4:∀s,ax7 s→akO s:=by
 intro s h
 obtain ⟨h0,h1,h2⟩:=h
 exact ⟨by omega,by omega,h1,h2⟩
theorem azT (s:uM) (hI:akO s):bJ (fun s'=>akO s'∧aap s'<aap s) (fun x s'=>aBJ x s s') (apc s):=by
 unfold apc ae6
 dsimp only [T.rd,T.rl]
 obtain ⟨h0,h1,h2,h3⟩:=hI
 refine au (fun c1=>?_) (fun c1=>?_)
 ·refine au (fun c2=>?_) (fun c2=>?_)
  ·trivial
  ·have c1:s.i<(List.length s.l:Int):=by simpa using c1
   rw [aK (x:=s.i+1) (by omega) (by omega)]
   exact ⟨⟨by simp only;omega,by simp only;omega,h2,h3⟩,by simp only [aap];omega⟩
 ·trivial
def Vo:bK uM:=⟨0,18,[0,1,4,5],[],aEC,aEu,fun v _=>⟨aQ .str (v.getD 0 .junk),gSr (v.getD 1 .junk),uT (v.getD 2 .junk),gI (v.getD 3 .junk)⟩,ae6,fun s r=> {r with l:=s.l,w:=s.w},fun s=>s,fun _ s=>s,[.ret,.exit 0],ax7,akO,aap⟩
abbrev afn:=Vo.run
abbrev ajc:=Vo.jG
abbrev aBM:=Vo.q
theorem azC (s:uM) (hI:akO s):(ae6 s).all (fun _=>True):=by
 refine ⟨fun c1=>⟨?_,fun _=>trivial,fun _=>trivial⟩,fun _=>trivial⟩
 ·(obtain ⟨h0,h1,h2,h3⟩:=hI;simp only [decide_eq_true_eq] at c1;omega)
theorem aqI:Vo.Ok:=⟨fun s=>by kernel_rfl,fun s=>by kernel_rfl,fun s=>rfl,fun s t r=>rfl,fun s=>rfl,fun s=>by kernel_rfl⟩
theorem aqB:Vo.Pf (aBJ):=⟨aD4,fun _ _=>rfl,azT,azC⟩
theorem atY:bn Tryz.prog aS (AN 0) (.loop Gm) Vo.lp:=bK.snd aqI aqB (aP (Γ:=TJ) (K:=dY) (L:=aC) aaO aF Gm (fun b hb=>by rw [show aB Gm=[] by kernel_rfl] at hb;cases hb)) (fun s=>by kernel_rfl)
theorem avx (s:uM) (hE:ax7 s):(fun (x:Ex) (s':uM) (v:Bool)=>(x=.ret∧s'.r=true∧v=true)∨(x=.exit 0∧v=false)) (ajc s) (afn s) ((fun s:uM=>isIn (s.l.drop s.i.toNat) s.w) s):=by
 exact bK.wu aqI aqB (fun s:uM=>isIn (s.l.drop s.i.toNat) s.w) (fun x s' v=>(x=.ret∧s'.r=true∧v=true)∨(x=.exit 0∧v=false)) (fun s hI=>by
  show bJ _ _ (apc s)
  unfold apc ae6
  dsimp only [T.rd,T.rl]
  obtain ⟨h0,h1,h2,h3⟩:=hI
  have ic:∀(x:ByteArray) xs,isIn (x::xs) s.w=(s.w==x ||isIn xs s.w):=fun _ _=>rfl
  refine au (fun c1=>au (fun c2=>?_) (fun c2=>?_)) (fun c1=>?_)
  ·have c1:s.i<(List.length s.l:Int):=by simpa using c1
   rw [tX] at c2
   have c2:s.w==gS s.l s.i:=by simpa using (eq_of_beq c2).symm
   refine .inl ⟨rfl,rfl,?_⟩
   try simp only
   rw [(uF h0 c1).1,ic,c2]
   rfl
  ·have c1:s.i<(List.length s.l:Int):=by simpa using c1
   rw [tX] at c2
   have c2:(s.w==gS s.l s.i)=false:=by
    have:¬gS s.l s.i=s.w:=by simpa using c2
    simpa using fun e=>this e.symm
   rw [aK (x:=s.i+1) (by omega) (by omega)]
   show isIn _ _=isIn _ _
   rw [(uF h0 c1).1,ic,c2,Bool.false_or]
  ·have c1:(List.length s.l:Int)≤s.i:=by simpa using c1
   refine .inr ⟨rfl,?_⟩
   rw [List.drop_eq_nil_of_le (by omega)]
   rfl) s hE
def ajR:List LV→T LV
 | [.xl (.str) l,.v (.string w)]=> .req ((List.length l:Int)≤1000) (.ok (.v (.bool (isIn l w))))
 |_=> .no
noncomputable def ajC:List LV→T LV:=gJ Tryz.prog Tryz.f123.params.toList ajR
theorem avZ (l:List ByteArray) (w:ByteArray):bT Tryz.prog aS (TJ) dY (fun i=>if i=2 then Vo.lp else aC i) Tryz.f123 [.xl .str l,.v (.string w)]=.req (aBM (⟨l,w,false,(0:Int)⟩:uM)) (.br (iw (ajc (⟨l,w,false,(0:Int)⟩:uM)) (.ret)) (.ok (.v (.bool (afn (⟨l,w,false,(0:Int)⟩:uM)).r))) (.ok (.v (.bool false)))):=by kernel_rfl
theorem ay3:Valid Tryz.prog aS 123 ajC:=aH Tryz.func123 rfl aaO aF (L:=(fun i=>if i=2 then Vo.lp else aC i)) (fun b hb=>by
 rw [show aB _=[Gm] by kernel_rfl] at hb
 simp only [List.mem_cons,List.not_mem_nil,or_false] at hb
 subst hb
 exact atY) (fun args lv h=>by
 unfold ajR at h
 split at h
 ·simp only [canL,canX]
  rw [avZ]
  obtain ⟨hl,rfl⟩:=h
  refine mQ ⟨⟨rfl,hl,trivial⟩,rfl,rfl⟩ (fun hE=>?_)
  rcases avx _ hE.1 with ⟨q1,q2,q3⟩ |⟨q1,q2⟩
  ·rw [q1,q2]
   exact ⟨fun _=>congrArg (fun z=>LV.v (.bool z)) q3.symm,fun h=>by cases h⟩
  ·rw [q1]
   exact ⟨fun h=>(by cases h),fun _=>congrArg (fun z=>LV.v (.bool z)) q2.symm⟩
 ·cases h)
structure iC where
 r:Bool
 i:Int
 ah:List Cd
 aA:List ByteArray
 aj:List Ko
 ai:List Ch
 aJ:List Ba
 l:List ByteArray
def aDg (s:iC):List LV:=[.own 0 0,.v (.bool s.r),.os 1 1 0 (List.length s.l),.v (.int .i64 s.i)]
def aCf (s:iC):List aU:=[⟨[.xl dU s.ah,.xl .str s.aA,.xl dW s.aj,.xl dM s.ai,.xl dX s.aJ],28,.cl,false⟩,⟨[],9,.vec .str s.l,false⟩]
noncomputable def Bc:Code:=((aB (Tryz.f87.body.getD .skip))[0]?).getD .skip
def Rj (s:iC):T (Rd iC):=
 .br (decide (s.i<(List.length s.ah:Int))) (.req (0≤s.i∧s.i<(List.length s.ah:Int)) (.req (0+(List.length s.l)=List.length s.l∧((List.length s.l+List.length ([(fO s.ah s.i).1]):Nat):Int)*16≤2^47∧((List.length s.l+List.length ([(fO s.ah s.i).1]):Nat):Int)<2^62) (.req (0=0∧(List.length s.l+List.length ([(fO s.ah s.i).1]))=List.length (s.l++([(fO s.ah s.i).1]))) (.ok (.next {s with i:=(IntKind.i64.wrap (s.i+1)),l:=(s.l++([(fO s.ah s.i).1]))}))))) (.rl s.l (.ok (.stop (.exit 0) s)))
abbrev aa6 (s:iC):=(Rj s).rd s
def ak6 (s:iC):Prop:=s.i=0∧(List.length s.ah:Int)≤1000∧(s.l.length:Int)≤5000+s.i
def U0 (s:iC):Prop:=0≤s.i∧s.i≤(List.length s.ah:Int)∧(List.length s.ah:Int)≤1000∧(s.l.length:Int)≤5000+s.i
def OW (s:iC):Nat:=((List.length s.ah:Int)-s.i).toNat
def asF (_:Ex) (_ _:iC):Prop:=True
theorem azS:∀s,ak6 s→U0 s:=by
 intro s h
 obtain ⟨h0,h1,h2⟩:=h
 exact ⟨by omega,by omega,h1,h2⟩
theorem avv (s:iC) (hI:U0 s):bJ (fun s'=>U0 s'∧OW s'<OW s) (fun x s'=>asF x s s') (aa6 s):=by
 unfold aa6 Rj
 dsimp only [T.rd,T.rl]
 obtain ⟨h0,h1,h2,h3⟩:=hI
 refine au (fun c1=>?_) (fun c1=>?_)
 ·have c1:s.i<(List.length s.ah:Int):=by simpa using c1
  rw [aK (x:=s.i+1) (by omega) (by omega)]
  exact ⟨⟨by simp only;omega,by simp only;omega,h2,by simp only [List.length_append,List.length_cons,List.length_nil];omega⟩,by simp only [OW];omega⟩
 ·trivial
def EN:bK iC:=⟨0,112,[1,2,3,4],[.nl 3 9 .str],aDg,aCf,fun v b=>⟨uT (v.getD 1 .junk),gI (v.getD 3 .junk),aQ dU (aX (aO b 0) 0),aQ .str (aX (aO b 0) 1),aQ dW (aX (aO b 0) 2),aQ dM (aX (aO b 0) 3),aQ dX (aX (aO b 0) 4),iT .str (aO b 1)⟩,Rj,fun s r=> {r with r:=s.r,ah:=s.ah,aA:=s.aA,aj:=s.aj,ai:=s.ai,aJ:=s.aJ},fun s=>s,fun _ s=>s,[.exit 0],ak6,U0,OW⟩
abbrev jD:=EN.run
abbrev apm:=EN.jG
abbrev ax6:=EN.q
theorem auL (s:iC) (hI:U0 s):(Rj s).all (fun _=>True):=by
 refine ⟨fun c1=>⟨?_,?_,?_,trivial⟩,fun c1=>⟨⟨rfl,rfl⟩,trivial⟩⟩
 iterate 2 · (obtain ⟨h0,h1,h2,h3⟩:=hI;simp only [decide_eq_true_eq] at c1;first|omega|(refine ⟨by omega,?_,?_⟩<;>simp only [List.length_cons,List.length_nil]<;>omega))
 ·exact ⟨rfl,by simp⟩
noncomputable def Ea:Specs:=bf [(122,Qx),(123,ajC)]
theorem IG:∀g S,Ea g=some S→Valid Tryz.prog aS g S:=aT (l:=[(122,Qx),(123,ajC)]) ⟨alq,ay3,trivial⟩
theorem ag7:EN.Ok:=⟨fun s=>by kernel_rfl,fun s=>by kernel_rfl,fun s=>rfl,fun s t r=>rfl,fun s=>rfl,fun s=>by kernel_rfl⟩
theorem afZ:EN.Pf (asF):=⟨azS,fun _ _=>rfl,avv,auL⟩
theorem al9:bn Tryz.prog aS (AN 0) (.loop Bc) EN.lp:=bK.snd ag7 afZ (aP (Γ:=Ea) (K:=dY) (L:=aC) IG aF Bc (fun b hb=>by rw [show aB Bc=[] by kernel_rfl] at hb;cases hb)) (fun s=>by kernel_rfl)
theorem ane (s:iC) (hE:ak6 s):(fun (x:Ex) (s':iC) (v:List ByteArray)=>x=.exit 0∧s'.l=v) (apm s) (jD s) ((fun s:iC=>s.l++(s.ah.drop s.i.toNat).map (·.1)) s):=by
 exact bK.wu ag7 afZ (fun s:iC=>s.l++(s.ah.drop s.i.toNat).map (·.1)) (fun x s' v=>x=.exit 0∧s'.l=v) (fun s hI=>by
  show bJ _ _ (aa6 s)
  unfold aa6 Rj
  dsimp only [T.rd,T.rl]
  obtain ⟨h0,h1,h2,h3⟩:=hI
  refine au (fun c1=>?_) (fun c1=>?_)
  ·have c1:s.i<(List.length s.ah:Int):=by simpa using c1
   rw [aK (x:=s.i+1) (by omega) (by omega)]
   show _++_=_++_
   try simp only
   rw [(TP h0 c1).1]
   simp
  ·have c1:(List.length s.ah:Int)≤s.i:=by simpa using c1
   refine ⟨rfl,?_⟩
   rw [List.drop_eq_nil_of_le (by omega)]
   simp) s hE
structure iQ where
 r:Bool
 i:Int
 ah:List Cd
 aA:List ByteArray
 aj:List Ko
 ai:List Ch
 aJ:List Ba
 l:List ByteArray
def aDf (s:iQ):List LV:=[.own 0 0,.v (.bool s.r),.os 1 1 0 (List.length s.l),.v (.int .i64 s.i)]
def aCe (s:iQ):List aU:=[⟨[.xl dU s.ah,.xl .str s.aA,.xl dW s.aj,.xl dM s.ai,.xl dX s.aJ],28,.cl,false⟩,⟨[],9,.vec .str s.l,false⟩]
noncomputable def A8:Code:=((aB (Tryz.f87.body.getD .skip))[1]?).getD .skip
def Ri (s:iQ):T (Rd iQ):=
 .br (decide (s.i<(List.length s.aA:Int))) (.req (0≤s.i∧s.i<(List.length s.aA:Int)) (.req (0+(List.length s.l)=List.length s.l∧((List.length s.l+List.length ([(gS s.aA s.i)]):Nat):Int)*16≤2^47∧((List.length s.l+List.length ([(gS s.aA s.i)]):Nat):Int)<2^62) (.req (0=0∧(List.length s.l+List.length ([(gS s.aA s.i)]))=List.length (s.l++([(gS s.aA s.i)]))) (.ok (.next {s with i:=(IntKind.i64.wrap (s.i+1)),l:=(s.l++([(gS s.aA s.i)]))}))))) (.rl s.l (.ok (.stop (.exit 2) s)))
abbrev aa5 (s:iQ):=(Ri s).rd s
def ak5 (s:iQ):Prop:=s.i=0∧(List.length s.aA:Int)≤1000∧(s.l.length:Int)≤5000+s.i
def UZ (s:iQ):Prop:=0≤s.i∧s.i≤(List.length s.aA:Int)∧(List.length s.aA:Int)≤1000∧(s.l.length:Int)≤5000+s.i
def OV (s:iQ):Nat:=((List.length s.aA:Int)-s.i).toNat
def asE (_:Ex) (_ _:iQ):Prop:=True
theorem azR:∀s,ak5 s→UZ s:=by
 intro s h
 obtain ⟨h0,h1,h2⟩:=h
 exact ⟨by omega,by omega,h1,h2⟩
theorem avu (s:iQ) (hI:UZ s):bJ (fun s'=>UZ s'∧OV s'<OV s) (fun x s'=>asE x s s') (aa5 s):=by
 unfold aa5 Ri
 dsimp only [T.rd,T.rl]
 obtain ⟨h0,h1,h2,h3⟩:=hI
 refine au (fun c1=>?_) (fun c1=>?_)
 ·have c1:s.i<(List.length s.aA:Int):=by simpa using c1
  rw [aK (x:=s.i+1) (by omega) (by omega)]
  exact ⟨⟨by simp only;omega,by simp only;omega,h2,by simp only [List.length_append,List.length_cons,List.length_nil];omega⟩,by simp only [OV];omega⟩
 ·trivial
def EM:bK iQ:=⟨0,112,[1,2,3,5],[],aDf,aCe,fun v b=>⟨uT (v.getD 1 .junk),gI (v.getD 3 .junk),aQ dU (aX (aO b 0) 0),aQ .str (aX (aO b 0) 1),aQ dW (aX (aO b 0) 2),aQ dM (aX (aO b 0) 3),aQ dX (aX (aO b 0) 4),iT .str (aO b 1)⟩,Ri,fun s r=> {r with r:=s.r,ah:=s.ah,aA:=s.aA,aj:=s.aj,ai:=s.ai,aJ:=s.aJ},fun s=>s,fun _ s=>s,[.exit 2],ak5,UZ,OV⟩
abbrev kQ:=EM.run
abbrev apl:=EM.jG
abbrev ax5:=EM.q
theorem auK (s:iQ) (hI:UZ s):(Ri s).all (fun _=>True):=by
 refine ⟨fun c1=>⟨?_,?_,?_,trivial⟩,fun c1=>⟨⟨rfl,rfl⟩,trivial⟩⟩
 iterate 2 · (obtain ⟨h0,h1,h2,h3⟩:=hI;simp only [decide_eq_true_eq] at c1;first|omega|(refine ⟨by omega,?_,?_⟩<;>simp only [List.length_cons,List.length_nil]<;>omega))
 ·exact ⟨rfl,by simp⟩
theorem ag6:EM.Ok:=⟨fun s=>by kernel_rfl,fun s=>by kernel_rfl,fun s=>rfl,fun s t r=>rfl,fun s=>rfl,fun s=>by kernel_rfl⟩
theorem afY:EM.Pf (asE):=⟨azR,fun _ _=>rfl,avu,auK⟩
theorem al8:bn Tryz.prog aS (AN 0) (.loop A8) EM.lp:=bK.snd ag6 afY (aP (Γ:=Ea) (K:=dY) (L:=aC) IG aF A8 (fun b hb=>by rw [show aB A8=[] by kernel_rfl] at hb;cases hb)) (fun s=>by kernel_rfl)
theorem anc (s:iQ) (hE:ak5 s):(fun (x:Ex) (s':iQ) (v:List ByteArray)=>x=.exit 2∧s'.l=v) (apl s) (kQ s) ((fun s:iQ=>s.l++(s.aA.drop s.i.toNat)) s):=by
 exact bK.wu ag6 afY (fun s:iQ=>s.l++(s.aA.drop s.i.toNat)) (fun x s' v=>x=.exit 2∧s'.l=v) (fun s hI=>by
  show bJ _ _ (aa5 s)
  unfold aa5 Ri
  dsimp only [T.rd,T.rl]
  obtain ⟨h0,h1,h2,h3⟩:=hI
  refine au (fun c1=>?_) (fun c1=>?_)
  ·have c1:s.i<(List.length s.aA:Int):=by simpa using c1
   rw [aK (x:=s.i+1) (by omega) (by omega)]
   show _++_=_++_
   try simp only
   rw [(uF h0 c1).1]
   simp
  ·have c1:(List.length s.aA:Int)≤s.i:=by simpa using c1
   refine ⟨rfl,?_⟩
   rw [List.drop_eq_nil_of_le (by omega)]
   simp) s hE
structure jw where
 r:Bool
 i:Int
 ah:List Cd
 aA:List ByteArray
 aj:List Ko
 ai:List Ch
 aJ:List Ba
 l:List ByteArray
def aDe (s:jw):List LV:=[.own 0 0,.v (.bool s.r),.os 1 1 0 (List.length s.l),.v (.int .i64 s.i)]
def aCd (s:jw):List aU:=[⟨[.xl dU s.ah,.xl .str s.aA,.xl dW s.aj,.xl dM s.ai,.xl dX s.aJ],28,.cl,false⟩,⟨[],9,.vec .str s.l,false⟩]
noncomputable def A7:Code:=((aB (Tryz.f87.body.getD .skip))[2]?).getD .skip
def Rh (s:jw):T (Rd jw):=
 .br (decide (s.i<(List.length s.aj:Int))) (.req (0≤s.i∧s.i<(List.length s.aj:Int)) (.req (0+(List.length s.l)=List.length s.l∧((List.length s.l+List.length ([(nG s.aj s.i).1]):Nat):Int)*16≤2^47∧((List.length s.l+List.length ([(nG s.aj s.i).1]):Nat):Int)<2^62) (.req (0=0∧(List.length s.l+List.length ([(nG s.aj s.i).1]))=List.length (s.l++([(nG s.aj s.i).1]))) (.ok (.next {s with i:=(IntKind.i64.wrap (s.i+1)),l:=(s.l++([(nG s.aj s.i).1]))}))))) (.rl s.l (.ok (.stop (.exit 4) s)))
abbrev aa4 (s:jw):=(Rh s).rd s
def ak4 (s:jw):Prop:=s.i=0∧(List.length s.aj:Int)≤1000∧(s.l.length:Int)≤5000+s.i
def UY (s:jw):Prop:=0≤s.i∧s.i≤(List.length s.aj:Int)∧(List.length s.aj:Int)≤1000∧(s.l.length:Int)≤5000+s.i
def OU (s:jw):Nat:=((List.length s.aj:Int)-s.i).toNat
def asD (_:Ex) (_ _:jw):Prop:=True
theorem azQ:∀s,ak4 s→UY s:=by
 intro s h
 obtain ⟨h0,h1,h2⟩:=h
 exact ⟨by omega,by omega,h1,h2⟩
theorem avt (s:jw) (hI:UY s):bJ (fun s'=>UY s'∧OU s'<OU s) (fun x s'=>asD x s s') (aa4 s):=by
 unfold aa4 Rh
 dsimp only [T.rd,T.rl]
 obtain ⟨h0,h1,h2,h3⟩:=hI
 refine au (fun c1=>?_) (fun c1=>?_)
 ·have c1:s.i<(List.length s.aj:Int):=by simpa using c1
  rw [aK (x:=s.i+1) (by omega) (by omega)]
  exact ⟨⟨by simp only;omega,by simp only;omega,h2,by simp only [List.length_append,List.length_cons,List.length_nil];omega⟩,by simp only [OU];omega⟩
 ·trivial
def EL:bK jw:=⟨0,112,[1,2,3,6],[],aDe,aCd,fun v b=>⟨uT (v.getD 1 .junk),gI (v.getD 3 .junk),aQ dU (aX (aO b 0) 0),aQ .str (aX (aO b 0) 1),aQ dW (aX (aO b 0) 2),aQ dM (aX (aO b 0) 3),aQ dX (aX (aO b 0) 4),iT .str (aO b 1)⟩,Rh,fun s r=> {r with r:=s.r,ah:=s.ah,aA:=s.aA,aj:=s.aj,ai:=s.ai,aJ:=s.aJ},fun s=>s,fun _ s=>s,[.exit 4],ak4,UY,OU⟩
abbrev nZ:=EL.run
abbrev apk:=EL.jG
abbrev ax4:=EL.q
theorem auJ (s:jw) (hI:UY s):(Rh s).all (fun _=>True):=by
 refine ⟨fun c1=>⟨?_,?_,?_,trivial⟩,fun c1=>⟨⟨rfl,rfl⟩,trivial⟩⟩
 iterate 2 · (obtain ⟨h0,h1,h2,h3⟩:=hI;simp only [decide_eq_true_eq] at c1;first|omega|(refine ⟨by omega,?_,?_⟩<;>simp only [List.length_cons,List.length_nil]<;>omega))
 ·exact ⟨rfl,by simp⟩
theorem ag5:EL.Ok:=⟨fun s=>by kernel_rfl,fun s=>by kernel_rfl,fun s=>rfl,fun s t r=>rfl,fun s=>rfl,fun s=>by kernel_rfl⟩
theorem afX:EL.Pf (asD):=⟨azQ,fun _ _=>rfl,avt,auJ⟩
theorem al7:bn Tryz.prog aS (AN 0) (.loop A7) EL.lp:=bK.snd ag5 afX (aP (Γ:=Ea) (K:=dY) (L:=aC) IG aF A7 (fun b hb=>by rw [show aB A7=[] by kernel_rfl] at hb;cases hb)) (fun s=>by kernel_rfl)
theorem anb (s:jw) (hE:ak4 s):(fun (x:Ex) (s':jw) (v:List ByteArray)=>x=.exit 4∧s'.l=v) (apk s) (nZ s) ((fun s:jw=>s.l++(s.aj.drop s.i.toNat).map (·.1)) s):=by
 exact bK.wu ag5 afX (fun s:jw=>s.l++(s.aj.drop s.i.toNat).map (·.1)) (fun x s' v=>x=.exit 4∧s'.l=v) (fun s hI=>by
  show bJ _ _ (aa4 s)
  unfold aa4 Rh
  dsimp only [T.rd,T.rl]
  obtain ⟨h0,h1,h2,h3⟩:=hI
  refine au (fun c1=>?_) (fun c1=>?_)
  ·have c1:s.i<(List.length s.aj:Int):=by simpa using c1
   rw [aK (x:=s.i+1) (by omega) (by omega)]
   show _++_=_++_
   try simp only
   rw [(IV h0 c1).1]
   simp
  ·have c1:(List.length s.aj:Int)≤s.i:=by simpa using c1
   refine ⟨rfl,?_⟩
   rw [List.drop_eq_nil_of_le (by omega)]
   simp) s hE
structure jO where
 r:Bool
 i:Int
 ah:List Cd
 aA:List ByteArray
 aj:List Ko
 ai:List Ch
 aJ:List Ba
 l:List ByteArray
def aDd (s:jO):List LV:=[.own 0 0,.v (.bool s.r),.os 1 1 0 (List.length s.l),.v (.int .i64 s.i)]
def aCc (s:jO):List aU:=[⟨[.xl dU s.ah,.xl .str s.aA,.xl dW s.aj,.xl dM s.ai,.xl dX s.aJ],28,.cl,false⟩,⟨[],9,.vec .str s.l,false⟩]
noncomputable def AZ:Code:=((aB (Tryz.f87.body.getD .skip))[3]?).getD .skip
def Rf (s:jO):T (Rd jO):=
 .br (decide (s.i<(List.length s.ai:Int))) (.req (0≤s.i∧s.i<(List.length s.ai:Int)) (.req (0+(List.length s.l)=List.length s.l∧((List.length s.l+List.length ([(aW s.ai s.i).1]):Nat):Int)*16≤2^47∧((List.length s.l+List.length ([(aW s.ai s.i).1]):Nat):Int)<2^62) (.req (0=0∧(List.length s.l+List.length ([(aW s.ai s.i).1]))=List.length (s.l++([(aW s.ai s.i).1]))) (.ok (.next {s with i:=(IntKind.i64.wrap (s.i+1)),l:=(s.l++([(aW s.ai s.i).1]))}))))) (.rl s.l (.ok (.stop (.exit 6) s)))
abbrev aa3 (s:jO):=(Rf s).rd s
def ak3 (s:jO):Prop:=s.i=0∧(List.length s.ai:Int)≤1000∧(s.l.length:Int)≤5000+s.i
def UX (s:jO):Prop:=0≤s.i∧s.i≤(List.length s.ai:Int)∧(List.length s.ai:Int)≤1000∧(s.l.length:Int)≤5000+s.i
def OT (s:jO):Nat:=((List.length s.ai:Int)-s.i).toNat
def asC (_:Ex) (_ _:jO):Prop:=True
theorem azP:∀s,ak3 s→UX s:=by
 intro s h
 obtain ⟨h0,h1,h2⟩:=h
 exact ⟨by omega,by omega,h1,h2⟩
theorem avs (s:jO) (hI:UX s):bJ (fun s'=>UX s'∧OT s'<OT s) (fun x s'=>asC x s s') (aa3 s):=by
 unfold aa3 Rf
 dsimp only [T.rd,T.rl]
 obtain ⟨h0,h1,h2,h3⟩:=hI
 refine au (fun c1=>?_) (fun c1=>?_)
 ·have c1:s.i<(List.length s.ai:Int):=by simpa using c1
  rw [aK (x:=s.i+1) (by omega) (by omega)]
  exact ⟨⟨by simp only;omega,by simp only;omega,h2,by simp only [List.length_append,List.length_cons,List.length_nil];omega⟩,by simp only [OT];omega⟩
 ·trivial
def EK:bK jO:=⟨0,112,[1,2,3,7],[],aDd,aCc,fun v b=>⟨uT (v.getD 1 .junk),gI (v.getD 3 .junk),aQ dU (aX (aO b 0) 0),aQ .str (aX (aO b 0) 1),aQ dW (aX (aO b 0) 2),aQ dM (aX (aO b 0) 3),aQ dX (aX (aO b 0) 4),iT .str (aO b 1)⟩,Rf,fun s r=> {r with r:=s.r,ah:=s.ah,aA:=s.aA,aj:=s.aj,ai:=s.ai,aJ:=s.aJ},fun s=>s,fun _ s=>s,[.exit 6],ak3,UX,OT⟩
abbrev qW:=EK.run
abbrev apj:=EK.jG
abbrev ax3:=EK.q
theorem auI (s:jO) (hI:UX s):(Rf s).all (fun _=>True):=by
 refine ⟨fun c1=>⟨?_,?_,?_,trivial⟩,fun c1=>⟨⟨rfl,rfl⟩,trivial⟩⟩
 iterate 2 · (obtain ⟨h0,h1,h2,h3⟩:=hI;simp only [decide_eq_true_eq] at c1;first|omega|(refine ⟨by omega,?_,?_⟩<;>simp only [List.length_cons,List.length_nil]<;>omega))
 ·exact ⟨rfl,by simp⟩
theorem ag4:EK.Ok:=⟨fun s=>by kernel_rfl,fun s=>by kernel_rfl,fun s=>rfl,fun s t r=>rfl,fun s=>rfl,fun s=>by kernel_rfl⟩
theorem afW:EK.Pf (asC):=⟨azP,fun _ _=>rfl,avs,auI⟩
theorem al6:bn Tryz.prog aS (AN 0) (.loop AZ) EK.lp:=bK.snd ag4 afW (aP (Γ:=Ea) (K:=dY) (L:=aC) IG aF AZ (fun b hb=>by rw [show aB AZ=[] by kernel_rfl] at hb;cases hb)) (fun s=>by kernel_rfl)
theorem ana (s:jO) (hE:ak3 s):(fun (x:Ex) (s':jO) (v:List ByteArray)=>x=.exit 6∧s'.l=v) (apj s) (qW s) ((fun s:jO=>s.l++(s.ai.drop s.i.toNat).map (·.1)) s):=by
 exact bK.wu ag4 afW (fun s:jO=>s.l++(s.ai.drop s.i.toNat).map (·.1)) (fun x s' v=>x=.exit 6∧s'.l=v) (fun s hI=>by
  show bJ _ _ (aa3 s)
  unfold aa3 Rf
  dsimp only [T.rd,T.rl]
  obtain ⟨h0,h1,h2,h3⟩:=hI
  refine au (fun c1=>?_) (fun c1=>?_)
  ·have c1:s.i<(List.length s.ai:Int):=by simpa using c1
   rw [aK (x:=s.i+1) (by omega) (by omega)]
   show _++_=_++_
   try simp only
   rw [(TN h0 c1).1]
   simp
  ·have c1:(List.length s.ai:Int)≤s.i:=by simpa using c1
   refine ⟨rfl,?_⟩
   rw [List.drop_eq_nil_of_le (by omega)]
   simp) s hE
structure kL where
 r:Bool
 i:Int
 ah:List Cd
 aA:List ByteArray
 aj:List Ko
 ai:List Ch
 aJ:List Ba
 l:List ByteArray
def aDc (s:kL):List LV:=[.own 0 0,.v (.bool s.r),.os 1 1 0 (List.length s.l),.v (.int .i64 s.i)]
def aCb (s:kL):List aU:=[⟨[.xl dU s.ah,.xl .str s.aA,.xl dW s.aj,.xl dM s.ai,.xl dX s.aJ],28,.cl,false⟩,⟨[],9,.vec .str s.l,false⟩]
noncomputable def AY:Code:=((aB (Tryz.f87.body.getD .skip))[4]?).getD .skip
def Q9 (s:kL):T (Rd kL):=
 .br (decide (s.i<(List.length s.aJ:Int))) (.req (0≤s.i∧s.i<(List.length s.aJ:Int)) (.req (0+(List.length s.l)=List.length s.l∧((List.length s.l+List.length ([(CJ s.aJ s.i).1]):Nat):Int)*16≤2^47∧((List.length s.l+List.length ([(CJ s.aJ s.i).1]):Nat):Int)<2^62) (.req (0=0∧(List.length s.l+List.length ([(CJ s.aJ s.i).1]))=List.length (s.l++([(CJ s.aJ s.i).1]))) (.ok (.next {s with i:=(IntKind.i64.wrap (s.i+1)),l:=(s.l++([(CJ s.aJ s.i).1]))}))))) (.rl s.l (.ok (.stop (.exit 8) s)))
abbrev aa2 (s:kL):=(Q9 s).rd s
def ak2 (s:kL):Prop:=s.i=0∧(List.length s.aJ:Int)≤1000∧(s.l.length:Int)≤5000+s.i
def UW (s:kL):Prop:=0≤s.i∧s.i≤(List.length s.aJ:Int)∧(List.length s.aJ:Int)≤1000∧(s.l.length:Int)≤5000+s.i
def OQ (s:kL):Nat:=((List.length s.aJ:Int)-s.i).toNat
def asB (_:Ex) (_ _:kL):Prop:=True
theorem azO:∀s,ak2 s→UW s:=by
 intro s h
 obtain ⟨h0,h1,h2⟩:=h
 exact ⟨by omega,by omega,h1,h2⟩
theorem avr (s:kL) (hI:UW s):bJ (fun s'=>UW s'∧OQ s'<OQ s) (fun x s'=>asB x s s') (aa2 s):=by
 unfold aa2 Q9
 dsimp only [T.rd,T.rl]
 obtain ⟨h0,h1,h2,h3⟩:=hI
 refine au (fun c1=>?_) (fun c1=>?_)
 ·have c1:s.i<(List.length s.aJ:Int):=by simpa using c1
  rw [aK (x:=s.i+1) (by omega) (by omega)]
  exact ⟨⟨by simp only;omega,by simp only;omega,h2,by simp only [List.length_append,List.length_cons,List.length_nil];omega⟩,by simp only [OQ];omega⟩
 ·trivial
def EJ:bK kL:=⟨0,112,[1,2,3,8],[],aDc,aCb,fun v b=>⟨uT (v.getD 1 .junk),gI (v.getD 3 .junk),aQ dU (aX (aO b 0) 0),aQ .str (aX (aO b 0) 1),aQ dW (aX (aO b 0) 2),aQ dM (aX (aO b 0) 3),aQ dX (aX (aO b 0) 4),iT .str (aO b 1)⟩,Q9,fun s r=> {r with r:=s.r,ah:=s.ah,aA:=s.aA,aj:=s.aj,ai:=s.ai,aJ:=s.aJ},fun s=>s,fun _ s=>s,[.exit 8],ak2,UW,OQ⟩
abbrev wR:=EJ.run
abbrev aph:=EJ.jG
abbrev ax2:=EJ.q
theorem auH (s:kL) (hI:UW s):(Q9 s).all (fun _=>True):=by
 refine ⟨fun c1=>⟨?_,?_,?_,trivial⟩,fun c1=>⟨⟨rfl,rfl⟩,trivial⟩⟩
 iterate 2 · (obtain ⟨h0,h1,h2,h3⟩:=hI;simp only [decide_eq_true_eq] at c1;first|omega|(refine ⟨by omega,?_,?_⟩<;>simp only [List.length_cons,List.length_nil]<;>omega))
 ·exact ⟨rfl,by simp⟩
theorem ag3:EJ.Ok:=⟨fun s=>by kernel_rfl,fun s=>by kernel_rfl,fun s=>rfl,fun s t r=>rfl,fun s=>rfl,fun s=>by kernel_rfl⟩
theorem afV:EJ.Pf (asB):=⟨azO,fun _ _=>rfl,avr,auH⟩
theorem al5:bn Tryz.prog aS (AN 0) (.loop AY) EJ.lp:=bK.snd ag3 afV (aP (Γ:=Ea) (K:=dY) (L:=aC) IG aF AY (fun b hb=>by rw [show aB AY=[] by kernel_rfl] at hb;cases hb)) (fun s=>by kernel_rfl)
theorem am9 (s:kL) (hE:ak2 s):(fun (x:Ex) (s':kL) (v:List ByteArray)=>x=.exit 8∧s'.l=v) (aph s) (wR s) ((fun s:kL=>s.l++(s.aJ.drop s.i.toNat).map (·.1)) s):=by
 exact bK.wu ag3 afV (fun s:kL=>s.l++(s.aJ.drop s.i.toNat).map (·.1)) (fun x s' v=>x=.exit 8∧s'.l=v) (fun s hI=>by
  show bJ _ _ (aa2 s)
  unfold aa2 Q9
  dsimp only [T.rd,T.rl]
  obtain ⟨h0,h1,h2,h3⟩:=hI
  refine au (fun c1=>?_) (fun c1=>?_)
  ·have c1:s.i<(List.length s.aJ:Int):=by simpa using c1
   rw [aK (x:=s.i+1) (by omega) (by omega)]
   show _++_=_++_
   try simp only
   rw [(TQ h0 c1).1]
   simp
  ·have c1:(List.length s.aJ:Int)≤s.i:=by simpa using c1
   refine ⟨rfl,?_⟩
   rw [List.drop_eq_nil_of_le (by omega)]
   simp) s hE
structure nJ where
 r:Bool
 i:Int
 l:List ByteArray
def aDb (s:nJ):List LV:=[.v (.bool s.r),.os 0 1 0 (List.length s.l),.v (.int .i64 s.i)]
def aCa (s:nJ):List aU:=[⟨[],9,.vec .str s.l,false⟩]
noncomputable def AX:Code:=((aB (Tryz.f87.body.getD .skip))[5]?).getD .skip
def Zg (s:nJ):T (Rd nJ):=
 .br (decide (s.i<((List.length s.l:Nat):Int))) (.req (0≤s.i∧s.i<((List.length s.l:Nat):Int)) (.req (s.i.toNat<List.length s.l) (.req (((s.l.getD s.i.toNat (Ty.dflt .str)).size:Int)≤9223372036854775807) (.br (!(nameB (s.l.getD s.i.toNat (Ty.dflt .str)))) (.rl s.l (.ok (.stop (.ret) {s with r:=false}))) (.req (0≤(0:Int)∧(0:Int)≤s.i∧s.i≤((List.length s.l:Nat):Int)) (.req (0≤s.i∧s.i<((List.length s.l:Nat):Int)) (.req (s.i.toNat<List.length s.l) (.req ((0+(0:Int).toNat)+(s.i.toNat-(0:Int).toNat)≤List.length s.l) (.req ((List.length ((s.l.drop (0+(0:Int).toNat)).take (s.i.toNat-(0:Int).toNat)):Int)≤1000) (.br (isIn ((s.l.drop (0+(0:Int).toNat)).take (s.i.toNat-(0:Int).toNat)) (s.l.getD s.i.toNat (Ty.dflt .str))) (.rl s.l (.ok (.stop (.ret) {s with r:=false}))) (.rl s.l (.ok (.next {s with i:=(IntKind.i64.wrap (s.i+1))}))))))))))))) (.rl s.l (.ok (.stop (.exit 10) s)))
abbrev ar1 (s:nJ):=(Zg s).rd s
def NG (s:nJ) (j:Int):Bool:=nameB (gS s.l j)&&!(((s.l.take j.toNat).map id).contains (id (gS s.l j)))
theorem azM (s:nJ) (_:0≤s.i):NG s s.i=(nameB (s.l.getD s.i.toNat (Ty.dflt .str))&&!(isIn ((s.l.drop (0+(0:Int).toNat)).take (s.i.toNat-(0:Int).toNat)) (s.l.getD s.i.toNat (Ty.dflt .str)))):=by
 unfold NG
 rw [List.map_id,Kq]
 rfl
def ak1 (s:nJ):Prop:=s.i=0∧(List.length s.l:Int)≤1000∧nmR s.l
def MO (s:nJ):Prop:=(0≤s.i∧s.i≤(List.length s.l:Int))∧(∀j:Nat,(j:Int)<s.i→NG s j=true)∧(List.length s.l:Int)≤1000∧nmR s.l
def OO (s:nJ):Nat:=((List.length s.l:Int)-s.i).toNat
def adb (x:Ex) (_ s':nJ):Prop:=(x=.exit 10∧∀j:Nat,(j:Int)<(List.length s'.l:Int)→NG s' j=true)∨(x=.ret∧s'.r=false∧∃j:Nat,(j:Int)<(List.length s'.l:Int)∧NG s' j=false)
theorem azN:∀s,ak1 s→MO s:=by
 intro s h
 obtain ⟨h0,h1,h2⟩:=h
 exact ⟨by omega,fun j hj=>by omega,h1,h2⟩
theorem avq (s:nJ) (hI:MO s):bJ (fun s'=>MO s'∧OO s'<OO s) (fun x s'=>adb x s s') (ar1 s):=by
 unfold ar1 Zg
 dsimp only [T.rd,T.rl]
 obtain ⟨⟨h0,h1⟩,h2,h3,h4⟩:=hI
 have hg:=azM s h0
 refine au (fun c1=>?_) (fun c1=>?_)
 rotate_left
 ·have c1:(List.length s.l:Int)≤s.i:=by simpa using c1
  exact .inl ⟨rfl,fun j hj=>h2 j (by omega)⟩
 have c1:s.i<(List.length s.l:Int):=by simpa using c1
 have bad:NG s s.i=false→adb .ret s {s with r:=false}:=fun hg=> .inr ⟨rfl,rfl,s.i.toNat,by simp only;omega,by rw [Int.toNat_of_nonneg h0];exact hg⟩
 refine au (fun c2=>bad ?_) (fun c2=>au (fun c3=>bad ?_) (fun c3=>?_))
 ·rw [hg]
  simp only [Bool.not_eq_true'] at c2
  rw [c2]
  rfl
 ·rw [hg,c3]
  simp
 ·rw [c3] at hg
  simp only [Bool.not_eq_false'] at c2
  rw [c2] at hg
  rw [aK (x:=s.i+1) (by omega) (by omega)]
  refine ⟨⟨⟨by simp only;omega,by simp only;omega⟩,fun j hj=>?_,h3,h4⟩,by simp only [OO];omega⟩
  by_cases hji:(j:Int)<s.i
  ·exact h2 j hji
  ·have:(j:Int)=s.i:=by simp only at hj;omega
   rw [this];exact hg
def EI:bK nJ:=⟨0,112,[2,3,9],[],aDb,aCa,fun v b=>⟨uT (v.getD 0 .junk),gI (v.getD 2 .junk),iT .str (aO b 0)⟩,Zg,fun s r=> {r with l:=s.l},fun s=>s,fun _ s=>s,[.ret,.exit 10],ak1,MO,OO⟩
abbrev ZU:=EI.run
abbrev abA:=EI.jG
abbrev ax1:=EI.q
theorem auG (s:nJ) (hI:MO s):(Zg s).all (fun _=>True):=by
 refine ⟨fun c1=>⟨?_,?_,?_,fun c2=>⟨⟨rfl,rfl⟩,trivial⟩,fun c2=>⟨?_,?_,?_,?_,?_,fun c3=>⟨⟨rfl,rfl⟩,trivial⟩,fun c3=>⟨⟨rfl,rfl⟩,trivial⟩⟩⟩,fun c1=>⟨⟨rfl,rfl⟩,trivial⟩⟩
 iterate 2 · (obtain ⟨⟨h0,h1⟩,h2,h3,h4⟩:=hI;simp only [decide_eq_true_eq] at c1;first|omega|(simp only [List.length_take,List.length_drop];omega))
 ·(obtain ⟨⟨h0,h1⟩,h2,h3,h4⟩:=hI;simp only [decide_eq_true_eq] at c1;have hm:gS s.l s.i∈s.l:=(by rw [aA8 (by omega)];exact List.getElem_mem _);exact h4 _ hm)
 iterate 5 · (obtain ⟨⟨h0,h1⟩,h2,h3,h4⟩:=hI;simp only [decide_eq_true_eq] at c1;first|omega|(simp only [List.length_take,List.length_drop];omega))
theorem ag2:EI.Ok:=⟨fun s=>by kernel_rfl,fun s=>by kernel_rfl,fun s=>rfl,fun s t r=>rfl,fun s=>rfl,fun s=>by kernel_rfl⟩
theorem afU:EI.Pf (adb):=⟨azN,fun _ _=>rfl,avq,auG⟩
theorem al4:bn Tryz.prog aS (AN 0) (.loop AX) EI.lp:=bK.snd ag2 afU (aP (Γ:=Ea) (K:=dY) (L:=aC) IG aF AX (fun b hb=>by rw [show aB AX=[] by kernel_rfl] at hb;cases hb)) (fun s=>by kernel_rfl)
theorem am8 (s:nJ) (hE:ak1 s):∃s',MO s'∧adb (abA s) s' (ZU s):=bK.fin ag2 afU s hE
def ack:List LV→T LV
 | [.agg [.xl (.pair .str (.pair (.int .i64) (.pair (.int .i64) (.pair (.int .i64) (.pair (.pair (.int .i64) (.int .i64)) (.pair (.int .i64) (.pair (.int .i64) (.pair (.int .i64) (.pair (.int .i64) (.int .i64)))))))))) cs,.xl (.str) os,.xl (.pair .str (.pair (.int .i64) (.pair (.int .i64) (.int .i64)))) ks,.xl (.pair .str (.pair (.int .i64) (.pair (.int .i64) (.pair (.int .i64) (.pair (.int .i64) (.pair (.int .i64) (.pair (.int .i64) (.int .i64)))))))) gs,.xl (.pair .str (.int .i64)) bs]]=> .req (((List.length cs:Int)≤100∧(List.length os:Int)≤100∧(List.length ks:Int)≤100∧(List.length gs:Int)≤100∧(List.length bs:Int)≤100)∧nmR (gB cs os ks gs bs)) (.ok (.v (.bool (nmB (gB cs os ks gs bs)))))
 |_=> .no
noncomputable def X5:List LV→T LV:=gJ Tryz.prog Tryz.f87.params.toList ack
theorem anZ (cs:List Cd) (os:List ByteArray) (ks:List Ko) (gs:List Ch) (bs:List Ba):bT Tryz.prog aS (Ea) dY (fun i=>if i=3 then EN.lp else if i=7 then EM.lp else if i=11 then EL.lp else if i=15 then EK.lp else if i=19 then EJ.lp else if i=23 then EI.lp else aC i) Tryz.f87 [.agg [.xl dU cs,.xl .str os,.xl dW ks,.xl dM gs,.xl dX bs]]=.req (0=0∧0=List.length ([]:List ByteArray)) (.req (ax6 (⟨false,(0:Int),cs,os,ks,gs,bs,([]:List ByteArray)⟩:iC)) (.rl (jD (⟨false,(0:Int),cs,os,ks,gs,bs,([]:List ByteArray)⟩:iC)).l (.req (ax5 (⟨false,(0:Int),cs,os,ks,gs,bs,(jD (⟨false,(0:Int),cs,os,ks,gs,bs,([]:List ByteArray)⟩:iC)).l⟩:iQ)) (.rl (kQ (⟨false,(0:Int),cs,os,ks,gs,bs,(jD (⟨false,(0:Int),cs,os,ks,gs,bs,([]:List ByteArray)⟩:iC)).l⟩:iQ)).l (.req (ax4 (⟨false,(0:Int),cs,os,ks,gs,bs,(kQ (⟨false,(0:Int),cs,os,ks,gs,bs,(jD (⟨false,(0:Int),cs,os,ks,gs,bs,([]:List ByteArray)⟩:iC)).l⟩:iQ)).l⟩:jw)) (.rl (nZ (⟨false,(0:Int),cs,os,ks,gs,bs,(kQ (⟨false,(0:Int),cs,os,ks,gs,bs,(jD (⟨false,(0:Int),cs,os,ks,gs,bs,([]:List ByteArray)⟩:iC)).l⟩:iQ)).l⟩:jw)).l (.req (ax3 (⟨false,(0:Int),cs,os,ks,gs,bs,(nZ (⟨false,(0:Int),cs,os,ks,gs,bs,(kQ (⟨false,(0:Int),cs,os,ks,gs,bs,(jD (⟨false,(0:Int),cs,os,ks,gs,bs,([]:List ByteArray)⟩:iC)).l⟩:iQ)).l⟩:jw)).l⟩:jO)) (.rl (qW (⟨false,(0:Int),cs,os,ks,gs,bs,(nZ (⟨false,(0:Int),cs,os,ks,gs,bs,(kQ (⟨false,(0:Int),cs,os,ks,gs,bs,(jD (⟨false,(0:Int),cs,os,ks,gs,bs,([]:List ByteArray)⟩:iC)).l⟩:iQ)).l⟩:jw)).l⟩:jO)).l (.req (ax2 (⟨false,(0:Int),cs,os,ks,gs,bs,(qW (⟨false,(0:Int),cs,os,ks,gs,bs,(nZ (⟨false,(0:Int),cs,os,ks,gs,bs,(kQ (⟨false,(0:Int),cs,os,ks,gs,bs,(jD (⟨false,(0:Int),cs,os,ks,gs,bs,([]:List ByteArray)⟩:iC)).l⟩:iQ)).l⟩:jw)).l⟩:jO)).l⟩:kL)) (.rl (wR (⟨false,(0:Int),cs,os,ks,gs,bs,(qW (⟨false,(0:Int),cs,os,ks,gs,bs,(nZ (⟨false,(0:Int),cs,os,ks,gs,bs,(kQ (⟨false,(0:Int),cs,os,ks,gs,bs,(jD (⟨false,(0:Int),cs,os,ks,gs,bs,([]:List ByteArray)⟩:iC)).l⟩:iQ)).l⟩:jw)).l⟩:jO)).l⟩:kL)).l (.req (ax1 (⟨false,(0:Int),(wR (⟨false,(0:Int),cs,os,ks,gs,bs,(qW (⟨false,(0:Int),cs,os,ks,gs,bs,(nZ (⟨false,(0:Int),cs,os,ks,gs,bs,(kQ (⟨false,(0:Int),cs,os,ks,gs,bs,(jD (⟨false,(0:Int),cs,os,ks,gs,bs,([]:List ByteArray)⟩:iC)).l⟩:iQ)).l⟩:jw)).l⟩:jO)).l⟩:kL)).l⟩:nJ)) (.br (iw (abA (⟨false,(0:Int),(wR (⟨false,(0:Int),cs,os,ks,gs,bs,(qW (⟨false,(0:Int),cs,os,ks,gs,bs,(nZ (⟨false,(0:Int),cs,os,ks,gs,bs,(kQ (⟨false,(0:Int),cs,os,ks,gs,bs,(jD (⟨false,(0:Int),cs,os,ks,gs,bs,([]:List ByteArray)⟩:iC)).l⟩:iQ)).l⟩:jw)).l⟩:jO)).l⟩:kL)).l⟩:nJ)) (.ret)) (.ok (.v (.bool (ZU (⟨false,(0:Int),(wR (⟨false,(0:Int),cs,os,ks,gs,bs,(qW (⟨false,(0:Int),cs,os,ks,gs,bs,(nZ (⟨false,(0:Int),cs,os,ks,gs,bs,(kQ (⟨false,(0:Int),cs,os,ks,gs,bs,(jD (⟨false,(0:Int),cs,os,ks,gs,bs,([]:List ByteArray)⟩:iC)).l⟩:iQ)).l⟩:jw)).l⟩:jO)).l⟩:kL)).l⟩:nJ)).r))) (.ok (.v (.bool true))))))))))))))):=by kernel_rfl
theorem as8:Valid Tryz.prog aS 87 X5:=aH Tryz.func87 rfl IG aF (L:=(fun i=>if i=3 then EN.lp else if i=7 then EM.lp else if i=11 then EL.lp else if i=15 then EK.lp else if i=19 then EJ.lp else if i=23 then EI.lp else aC i)) (fun b hb=>by
 rw [show aB _=[Bc,A8,A7,AZ,AY,AX] by kernel_rfl] at hb
 simp only [List.mem_cons,List.not_mem_nil,or_false] at hb
 rcases hb with rfl|rfl|rfl|rfl|rfl|rfl
 ·exact al9
 ·exact al8
 ·exact al7
 ·exact al6
 ·exact al5
 ·exact al4) (fun args lv h=>by
 unfold ack at h
 split at h
 ·simp only [canL,canX]
  rw [anZ]
  rename_i cs os ks gs bs
  obtain ⟨⟨⟨hc,ho,hk,hg,hb⟩,hn⟩,rfl⟩:=h
  refine ⟨⟨rfl,rfl⟩,mQ ⟨⟨rfl,by simp only;omega,by simp only;decide⟩,rfl,rfl⟩ (fun hE0=>?_)⟩
  have o0:=(ane _ hE0.1).2
  generalize (jD ⟨false,(0:Int),cs,os,ks,gs,bs,([]:List ByteArray)⟩).l=r0 at o0⊢
  have o0:r0=([]:List ByteArray)++cs.map (·.1):=o0
  have l0:(List.length r0:Int)≤100:=by rw [o0];simp only [List.length_append,List.length_map,List.length_nil];omega
  refine ⟨⟨rfl,rfl⟩,mQ ⟨⟨rfl,by simp only;omega,by simp only;omega⟩,rfl,rfl⟩ (fun hE1=>?_)⟩
  have o1:=(anc _ hE1.1).2
  generalize (kQ ⟨false,(0:Int),cs,os,ks,gs,bs,r0⟩).l=r1 at o1⊢
  have o1:r1=r0++os:=o1
  have l1:(List.length r1:Int)≤200:=by rw [o1];simp only [List.length_append];omega
  refine ⟨⟨rfl,rfl⟩,mQ ⟨⟨rfl,by simp only;omega,by simp only;omega⟩,rfl,rfl⟩ (fun hE2=>?_)⟩
  have o2:=(anb _ hE2.1).2
  generalize (nZ ⟨false,(0:Int),cs,os,ks,gs,bs,r1⟩).l=r2 at o2⊢
  have o2:r2=r1++ks.map (·.1):=o2
  have l2:(List.length r2:Int)≤300:=by rw [o2];simp only [List.length_append,List.length_map];omega
  refine ⟨⟨rfl,rfl⟩,mQ ⟨⟨rfl,by simp only;omega,by simp only;omega⟩,rfl,rfl⟩ (fun hE3=>?_)⟩
  have o3:=(ana _ hE3.1).2
  generalize (qW ⟨false,(0:Int),cs,os,ks,gs,bs,r2⟩).l=r3 at o3⊢
  have o3:r3=r2++gs.map (·.1):=o3
  have l3:(List.length r3:Int)≤400:=by rw [o3];simp only [List.length_append,List.length_map];omega
  refine ⟨⟨rfl,rfl⟩,mQ ⟨⟨rfl,by simp only;omega,by simp only;omega⟩,rfl,rfl⟩ (fun hE4=>?_)⟩
  have o4:=(am9 _ hE4.1).2
  generalize (wR ⟨false,(0:Int),cs,os,ks,gs,bs,r3⟩).l=r4 at o4⊢
  have o4:r4=r3++bs.map (·.1):=o4
  have l4:(List.length r4:Int)≤500:=by rw [o4];simp only [List.length_append,List.length_map];omega
  have e:r4=gB cs os ks gs bs:=by rw [o4,o3,o2,o1,o0,List.nil_append];rfl
  subst e
  refine ⟨⟨rfl,rfl⟩,mQ ⟨⟨rfl,by simp only;omega,hn⟩,rfl,rfl⟩ (fun hE=>?_)⟩
  obtain ⟨s',_,hq⟩:=am8 _ hE.1
  unfold nmB
  generalize gB cs os ks gs bs=l at*
  rcases hq with ⟨q1,q2⟩ |⟨q1,q2,j,q3,q4⟩
  ·rw [q1]
   have hk:=(kH (d:=emp) (p:=nameB) (k:=id)).1 q2
   rw [List.map_id] at hk
   rw [show (l.all nameB&&once l)=true from hk]
   exact ⟨fun h=>(by cases h),fun _=>rfl⟩
  ·rw [q1,q2]
   refine ⟨fun _=>congrArg (fun z=>LV.v (.bool z)) ?_,fun h=>by cases h⟩
   rw [eq_comm,Bool.eq_false_iff]
   intro hx
   have:=(kH (d:=emp) (p:=nameB) (k:=id)).2 (by rw [List.map_id];exact hx) j q3
   exact Bool.noConfusion (this.symm.trans q4)
 ·cases h)
end Go.Proofs.YtlihnbimgclogaaGreatDoor
namespace Go.Proofs.YtlihnbimgclogaaGreatDoor
open Go.Sx
structure iW where
 r:Bool
 i:Int
 ah:List Cd
 aA:List ByteArray
 aj:List Ko
 ai:List Ch
 aJ:List Ba
def aC7 (s:iW):List LV:=[.own 0 0,.v (.bool s.r),.v (.int .i64 s.i)]
def aB6 (s:iW):List aU:=[⟨[.xl dU s.ah,.xl .str s.aA,.xl dW s.aj,.xl dM s.ai,.xl dX s.aJ],28,.cl,false⟩]
noncomputable def AP:Code:=((aB (Tryz.f49.body.getD .skip))[0]?).getD .skip
def Zd (s:iW):T (Rd iW):=
 .br (decide (s.i<(List.length s.ah:Int))) (.req (0≤s.i∧s.i<(List.length s.ah:Int)) (.req (0≤s.i∧s.i≤1000) (.br (!(Eh s.i (fO s.ah s.i))) (.ok (.stop (.ret) {s with r:=false})) (.ok (.next {s with i:=(IntKind.i64.wrap (s.i+1))}))))) (.ok (.stop (.exit 0) s))
abbrev arY (s:iW):=(Zd s).rd s
def JI (s:iW) (j:Int):Bool:=Eh j (fO s.ah j)
def akX (s:iW):Prop:=s.i=0∧0≤(List.length s.ah:Int)∧(List.length s.ah:Int)≤1000∧True
def MJ (s:iW):Prop:=0≤s.i∧s.i≤(List.length s.ah:Int)∧(List.length s.ah:Int)≤1000∧(True)∧∀j:Nat,(j:Int)<s.i→JI s j=true
def OH (s:iW):Nat:=((List.length s.ah:Int)-s.i).toNat
def akj (x:Ex) (_ s':iW):Prop:=(x=.exit 0∧∀j:Nat,(j:Int)<(List.length s'.ah:Int)→JI s' j=true)∨(x=.ret∧s'.r=false∧∃j:Nat,(j:Int)<(List.length s'.ah:Int)∧JI s' j=false)
theorem azw:∀s,akX s→MJ s:=by
 intro s h
 obtain ⟨h0,h1,h2,h3⟩:=h
 exact ⟨by omega,by omega,h2,h3,fun j hj=>by omega⟩
theorem aui (s:iW) (hI:MJ s):bJ (fun s'=>MJ s'∧OH s'<OH s) (fun x s'=>akj x s s') (arY s):=by
 unfold arY Zd
 dsimp only [T.rd,T.rl]
 obtain ⟨h0,h1,h2,h3,h4⟩:=hI
 refine au (fun c1=>au (fun c2=>?_) (fun c2=>?_)) (fun c1=>?_)
 ·have c1:s.i<(List.length s.ah:Int):=by simpa using c1
  refine .inr ⟨rfl,rfl,s.i.toNat,by simp only;omega,?_⟩
  rw [Int.toNat_of_nonneg (by omega)]
  have hg:JI s s.i=false:=by unfold JI;(first|(have c2:(!(Eh s.i (fO s.ah s.i)))=false:=c2;simpa using c2) |(have c2:(!(Eh s.i (fO s.ah s.i)))=true:=c2;simpa using c2))
  exact hg
 ·have c1:s.i<(List.length s.ah:Int):=by simpa using c1
  have hg:JI s s.i=true:=by unfold JI;(first|(have c2:(!(Eh s.i (fO s.ah s.i)))=false:=c2;simpa using c2) |(have c2:(!(Eh s.i (fO s.ah s.i)))=true:=c2;simpa using c2))
  rw [aK (x:=s.i+1) (by omega) (by omega)]
  refine ⟨⟨by simp only;omega,by simp only;omega,h2,h3,fun j hj=>?_⟩,by simp only [OH];omega⟩
  by_cases hji:(j:Int)<s.i
  ·exact h4 j hji
  ·have:(j:Int)=s.i:=by simp only at hj;omega
   rw [this];exact hg
 ·have c1:(List.length s.ah:Int)≤s.i:=by simpa using c1
  exact .inl ⟨rfl,fun j hj=>h4 j (by omega)⟩
def ED:bK iW:=⟨0,159,[1,2,3],[],aC7,aB6,fun v b=>⟨uT (v.getD 1 .junk),gI (v.getD 2 .junk),aQ dU (aX (aO b 0) 0),aQ .str (aX (aO b 0) 1),aQ dW (aX (aO b 0) 2),aQ dM (aX (aO b 0) 3),aQ dX (aX (aO b 0) 4)⟩,Zd,fun s r=> {r with ah:=s.ah,aA:=s.aA,aj:=s.aj,ai:=s.ai,aJ:=s.aJ},fun s=>s,fun _ s=>s,[.ret,.exit 0],akX,MJ,OH⟩
abbrev l9:=ED.run
abbrev abx:=ED.jG
abbrev axX:=ED.q
theorem auC (s:iW) (hI:MJ s):(Zd s).all (fun _=>True):=by
 refine ⟨fun c1=>⟨?_,?_,fun _=>trivial,fun _=>trivial⟩,fun _=>trivial⟩
 all_goals ((obtain ⟨h0,h1,h2,h3,h4⟩:=hI;simp at c1;omega))
noncomputable def IK:Specs:=bf [(86,Jr),(87,X5),(88,X7),(89,X8)]
theorem Ll:∀g S,IK g=some S→Valid Tryz.prog aS g S:=aT (l:=[(86,Jr),(87,X5),(88,X7),(89,X8)]) ⟨aeY,as8,ata,atb,trivial⟩
theorem agX:ED.Ok:=⟨fun s=>by kernel_rfl,fun s=>by kernel_rfl,fun s=>rfl,fun s t r=>rfl,fun s=>rfl,fun s=>by kernel_rfl⟩
theorem afP:ED.Pf (akj):=⟨azw,fun _ _=>rfl,aui,auC⟩
theorem al0:bn Tryz.prog aS (AN 0) (.loop AP) ED.lp:=bK.snd agX afP (aP (Γ:=IK) (K:=dY) (L:=aC) Ll aF AP (fun b hb=>by rw [show aB AP=[] by kernel_rfl] at hb;cases hb)) (fun s=>by kernel_rfl)
theorem amX (s:iW) (hE:akX s):∃s',MJ s'∧akj (abx s) s' (l9 s):=bK.fin agX afP s hE
structure oN where
 r:Bool
 i:Int
 k:Int
 ah:List Cd
 aA:List ByteArray
 aj:List Ko
 ai:List Ch
 aJ:List Ba
 qE:ByteArray
 mO:Int
 XD:Int
 sF:Int
def aC3 (s:oN):List LV:=[.own 0 0,.v (.bool s.r),.v (.int .i64 s.i),.own 1 0,.v (.int .i64 s.k)]
def aB2 (s:oN):List aU:=[⟨[.xl dU s.ah,.xl .str s.aA,.xl dW s.aj,.xl dM s.ai,.xl dX s.aJ],28,.cl,false⟩,⟨[.v (.string s.qE),.v (.int .i64 s.mO),.v (.int .i64 s.XD),.v (.int .i64 s.sF)],139,.cl,false⟩]
noncomputable def AB:Code:=((aB (((aB (Tryz.f49.body.getD .skip))[1]?).getD .skip))[0]?).getD .skip
def Y9 (s:oN):T (Rd oN):=
 .br (decide (s.k<s.i)) (.req (0≤s.k∧s.k<(List.length s.aj:Int)) (.br ((nG s.aj s.k).2.2.2==s.sF) (.ok (.stop (.ret) {s with r:=false})) (.ok (.next {s with k:=(IntKind.i64.wrap (s.k+1))})))) (.ok (.stop (.exit 4) s))
abbrev arU (s:oN):=(Y9 s).rd s
def JF (s:oN) (j:Int):Bool:=!((nG s.aj j).2.2.2==s.sF)
def U8 (s:oN):Prop:=s.k=0∧0≤s.i∧s.i≤1000∧s.i≤(List.length s.aj:Int)
def MG (s:oN):Prop:=0≤s.k∧s.k≤s.i∧s.i≤1000∧(s.i≤(List.length s.aj:Int))∧∀j:Nat,(j:Int)<s.k→JF s j=true
def OC (s:oN):Nat:=(s.i-s.k).toNat
def akg (x:Ex) (_ s':oN):Prop:=(x=.exit 4∧∀j:Nat,(j:Int)<s'.i→JF s' j=true)∨(x=.ret∧s'.r=false∧∃j:Nat,(j:Int)<s'.i∧JF s' j=false)
theorem azs:∀s,U8 s→MG s:=by
 intro s h
 obtain ⟨h0,h1,h2,h3⟩:=h
 exact ⟨by omega,by omega,h2,h3,fun j hj=>by omega⟩
theorem aue (s:oN) (hI:MG s):bJ (fun s'=>MG s'∧OC s'<OC s) (fun x s'=>akg x s s') (arU s):=by
 unfold arU Y9
 dsimp only [T.rd,T.rl]
 obtain ⟨h0,h1,h2,h3,h4⟩:=hI
 refine au (fun c1=>au (fun c2=>?_) (fun c2=>?_)) (fun c1=>?_)
 ·have c1:s.k<s.i:=by simpa using c1
  refine .inr ⟨rfl,rfl,s.k.toNat,by simp only;omega,?_⟩
  rw [Int.toNat_of_nonneg (by omega)]
  have hg:JF s s.k=false:=by unfold JF;(simpa using c2)
  exact hg
 ·have c1:s.k<s.i:=by simpa using c1
  have hg:JF s s.k=true:=by unfold JF;(simpa using c2)
  rw [aK (x:=s.k+1) (by omega) (by omega)]
  refine ⟨⟨by simp only;omega,by simp only;omega,h2,h3,fun j hj=>?_⟩,by simp only [OC];omega⟩
  by_cases hji:(j:Int)<s.k
  ·exact h4 j hji
  ·have:(j:Int)=s.k:=by simp only at hj;omega
   rw [this];exact hg
 ·have c1:s.i≤s.k:=by simpa using c1
  exact .inl ⟨rfl,fun j hj=>h4 j (by omega)⟩
def JV:bK oN:=⟨0,159,[1,2,4,5,6],[],aC3,aB2,fun v b=>⟨uT (v.getD 1 .junk),gI (v.getD 2 .junk),gI (v.getD 4 .junk),aQ dU (aX (aO b 0) 0),aQ .str (aX (aO b 0) 1),aQ dW (aX (aO b 0) 2),aQ dM (aX (aO b 0) 3),aQ dX (aX (aO b 0) 4),gSr (aX (aO b 1) 0),gI (aX (aO b 1) 1),gI (aX (aO b 1) 2),gI (aX (aO b 1) 3)⟩,Y9,fun s r=> {r with i:=s.i,ah:=s.ah,aA:=s.aA,aj:=s.aj,ai:=s.ai,aJ:=s.aJ,qE:=s.qE,mO:=s.mO,XD:=s.XD,sF:=s.sF},fun s=>s,fun _ s=>s,[.ret,.exit 4],U8,MG,OC⟩
abbrev zA:=JV.run
abbrev xH:=JV.jG
abbrev axT:=JV.q
theorem auy (s:oN) (hI:MG s):(Y9 s).all (fun _=>True):=by
 refine ⟨fun c1=>⟨?_,fun _=>trivial,fun _=>trivial⟩,fun _=>trivial⟩
 ·(obtain ⟨h0,h1,h2,h3,h4⟩:=hI;simp at c1;omega)
theorem agT:JV.Ok:=⟨fun s=>by kernel_rfl,fun s=>by kernel_rfl,fun s=>rfl,fun s t r=>rfl,fun s=>rfl,fun s=>by kernel_rfl⟩
theorem afL:JV.Pf (akg):=⟨azs,fun _ _=>rfl,aue,auy⟩
theorem alW:bn Tryz.prog aS (AN 0) (.loop AB) JV.lp:=bK.snd agT afL (aP (Γ:=IK) (K:=dY) (L:=aC) Ll aF AB (fun b hb=>by rw [show aB AB=[] by kernel_rfl] at hb;cases hb)) (fun s=>by kernel_rfl)
theorem amT (s:oN) (hE:U8 s):∃s',MG s'∧akg (xH s) s' (zA s):=bK.fin agT afL s hE
theorem amS (s:oN) (hE:U8 s):(xH s=.exit 4∧((s.aj.take s.i.toNat).map (·.2.2.2)).contains s.sF=false)∨(xH s=.ret∧(zA s).r=false∧((s.aj.take s.i.toNat).map (·.2.2.2)).contains s.sF=true):=by
 obtain ⟨s',_,hq⟩:=amT s hE
 obtain ⟨h0,h1,h2,h3⟩:=hE
 have hc:=adM (c:=s.sF) h1 h3
 rcases hq with ⟨q1,q2⟩ |⟨q1,q2,j,q3,q4⟩
 ·refine .inl ⟨q1,?_⟩
  rw [Bool.eq_false_iff,ne_eq,hc]
  rintro ⟨j,hj,e⟩
  have:(!((nG s.aj j).2.2.2==s.sF))=true:=q2 j hj
  rw [e] at this
  simp at this
 ·refine .inr ⟨q1,q2,hc.2 ⟨j,q3,?_⟩⟩
  have q4:(!((nG s.aj j).2.2.2==s.sF))=false:=q4
  simpa using q4
structure iV where
 r:Bool
 i:Int
 ah:List Cd
 aA:List ByteArray
 aj:List Ko
 ai:List Ch
 aJ:List Ba
def aC6 (s:iV):List LV:=[.own 0 0,.v (.bool s.r),.v (.int .i64 s.i)]
def aB5 (s:iV):List aU:=[⟨[.xl dU s.ah,.xl .str s.aA,.xl dW s.aj,.xl dM s.ai,.xl dX s.aJ],28,.cl,false⟩]
noncomputable def Jc:Code:=((aB (Tryz.f49.body.getD .skip))[1]?).getD .skip
def qR (s:iV):oN:=(⟨s.r,s.i,(0:Int),s.ah,s.aA,s.aj,s.ai,s.aJ,(nG s.aj s.i).1,(nG s.aj s.i).2.1,(nG s.aj s.i).2.2.1,(nG s.aj s.i).2.2.2⟩:oN)
def Zc (s:iV):T (Rd iV):=
 .br (decide (s.i<(List.length s.aj:Int))) (.req (0≤s.i∧s.i<(List.length s.aj:Int)) (.br ((!(inB (nG s.aj s.i).2.1 (0:Int) (IntKind.i64.wrap ((List.length s.aA:Int)-1)))) ||((!(inB (nG s.aj s.i).2.2.1 (1:Int) (9:Int))) ||(!(inB (nG s.aj s.i).2.2.2 (1:Int) (1000000:Int))))) (.ok (.stop (.ret) {s with r:=false})) (.req (axT (qR s)) (.br (iw (xH (qR s)) (.ret)) (.ok (.stop (.ret) {s with r:=(zA (qR s)).r})) (.ok (.next {s with r:=(zA (qR s)).r,i:=(IntKind.i64.wrap (s.i+1))})))))) (.ok (.stop (.exit 2) s))
abbrev arX (s:iV):=(Zc s).rd s
def NF (s:iV) (j:Int):Bool:=koV (List.length s.aA:Int) (nG s.aj j)&&!(((s.aj.take j.toNat).map (·.2.2.2)).contains (nG s.aj j).2.2.2)
def akW (s:iV):Prop:=s.i=0∧(List.length s.aj:Int)≤1000∧(List.length s.aA:Int)≤1000
def Jz (s:iV):Prop:=(0≤s.i∧s.i≤(List.length s.aj:Int))∧(∀j:Nat,(j:Int)<s.i→NF s j=true)∧(List.length s.aj:Int)≤1000∧(List.length s.aA:Int)≤1000
def OG (s:iV):Nat:=((List.length s.aj:Int)-s.i).toNat
def ada (x:Ex) (_ s':iV):Prop:=(x=.exit 2∧∀j:Nat,(j:Int)<(List.length s'.aj:Int)→NF s' j=true)∨(x=.ret∧s'.r=false∧∃j:Nat,(j:Int)<(List.length s'.aj:Int)∧NF s' j=false)
theorem azv:∀s,akW s→Jz s:=by
 intro s h
 obtain ⟨h0,h1,h2⟩:=h
 exact ⟨by omega,fun j hj=>by omega,h1,h2⟩
theorem afl (s:iV) (hI:Jz s) (c1:s.i<(List.length s.aj:Int)):U8 (qR s):=by
 obtain ⟨⟨h0,h1⟩,h2,h3,h4⟩:=hI
 exact ⟨rfl,h0,by show s.i≤1000;omega,h1⟩
theorem auh (s:iV) (hI:Jz s):bJ (fun s'=>Jz s'∧OG s'<OG s) (fun x s'=>ada x s s') (arX s):=by
 unfold arX Zc
 dsimp only [T.rd,T.rl]
 have hin:=fun c1=>afl s hI c1
 obtain ⟨⟨h0,h1⟩,h2,h3,h4⟩:=hI
 refine au (fun c1=>?_) (fun c1=>?_)
 rotate_left
 ·have c1:(List.length s.aj:Int)≤s.i:=by simpa using c1
  exact .inl ⟨rfl,fun j hj=>h2 j (by omega)⟩
 have c1:s.i<(List.length s.aj:Int):=by simpa using c1
 have bad:∀s2:iV,s2.r=false→s2.aj=s.aj→s2.aA=s.aA→NF s s.i=false→ada .ret s s2:=fun s2 e1 e2 e3 hg=> .inr ⟨rfl,e1,s.i.toNat,by rw [e2];omega,by
  unfold NF at hg⊢
  rw [Int.toNat_of_nonneg h0,e2,e3]
  exact hg⟩
 rw [aK (x:=(List.length s.aA:Int)-1) (by omega) (by omega)]
 have hk:=amS _ (hin c1)
 have hk:(xH (qR s)=.exit 4∧((s.aj.take s.i.toNat).map (·.2.2.2)).contains (nG s.aj s.i).2.2.2=false)∨(xH (qR s)=.ret∧(zA (qR s)).r=false∧((s.aj.take s.i.toNat).map (·.2.2.2)).contains (nG s.aj s.i).2.2.2=true):=hk
 have hg:NF s s.i=(koV (List.length s.aA:Int) (nG s.aj s.i)&&!(((s.aj.take s.i.toNat).map (·.2.2.2)).contains (nG s.aj s.i).2.2.2)):=rfl
 have hkv:koV (List.length s.aA:Int) (nG s.aj s.i)=(inB (nG s.aj s.i).2.1 0 ((List.length s.aA:Int)-1)&&(inB (nG s.aj s.i).2.2.1 1 9&&inB (nG s.aj s.i).2.2.2 1 1000000)):=rfl
 refine au (fun c2=>bad _ rfl rfl rfl ?_) (fun c2=>?_)
 ·rw [hg,hkv]
  revert c2
  generalize inB (nG s.aj s.i).2.1 _ _=a
  generalize inB (nG s.aj s.i).2.2.1 _ _=b
  generalize inB (nG s.aj s.i).2.2.2 _ _=c
  cases a<;>cases b<;>cases c<;>simp
 have hkt:koV (List.length s.aA:Int) (nG s.aj s.i)=true:=by
  rw [hkv]
  revert c2
  generalize inB (nG s.aj s.i).2.1 _ _=a
  generalize inB (nG s.aj s.i).2.2.1 _ _=b
  generalize inB (nG s.aj s.i).2.2.2 _ _=c
  cases a<;>cases b<;>cases c<;>simp
 rw [hkt,Bool.true_and] at hg
 rcases hk with ⟨q1,q2⟩ |⟨q1,q2,q3⟩
 ·rw [q1]
  refine au (fun c3=>by cases c3) (fun _=>?_)
  rw [aK (x:=s.i+1) (by omega) (by omega)]
  rw [q2] at hg
  refine ⟨⟨⟨by simp only;omega,by simp only;omega⟩,fun j hj=>?_,h3,h4⟩,by simp only [OG];omega⟩
  by_cases hji:(j:Int)<s.i
  ·exact h2 j hji
  ·have:(j:Int)=s.i:=by simp only at hj;omega
   rw [this];exact hg
 ·rw [q1]
  refine au (fun _=>bad _ q2 rfl rfl ?_) (fun c3=>by cases c3)
  rw [hg,q3]
  rfl
def EC:bK iV:=⟨0,159,[1,2,4],[],aC6,aB5,fun v b=>⟨uT (v.getD 1 .junk),gI (v.getD 2 .junk),aQ dU (aX (aO b 0) 0),aQ .str (aX (aO b 0) 1),aQ dW (aX (aO b 0) 2),aQ dM (aX (aO b 0) 3),aQ dX (aX (aO b 0) 4)⟩,Zc,fun s r=> {r with ah:=s.ah,aA:=s.aA,aj:=s.aj,ai:=s.ai,aJ:=s.aJ},fun s=>s,fun _ s=>s,[.ret,.exit 2],akW,Jz,OG⟩
abbrev qV:=EC.run
abbrev abw:=EC.jG
abbrev axW:=EC.q
theorem auB (s:iV) (hI:Jz s):(Zc s).all (fun _=>True):=by
 refine ⟨fun c1=>⟨?_,fun _=>trivial,fun c2=>⟨?_,fun _=>trivial,fun _=>trivial⟩⟩,fun _=>trivial⟩
 ·(obtain ⟨⟨h0,h1⟩,h2,h3,h4⟩:=hI;simp only [decide_eq_true_eq] at c1;omega)
 ·exact ⟨afl s hI (by simpa using c1),rfl,rfl⟩
theorem agW:EC.Ok:=⟨fun s=>by kernel_rfl,fun s=>by kernel_rfl,fun s=>rfl,fun s t r=>rfl,fun s=>rfl,fun s=>by kernel_rfl⟩
theorem afO:EC.Pf (ada):=⟨azv,fun _ _=>rfl,auh,auB⟩
theorem alZ:bn Tryz.prog aS (AN 0) (.loop Jc) EC.lp:=bK.snd agW afO (aP (Γ:=IK) (K:=dY) (L:=(fun i=>if i=15 then JV.lp else aC i)) Ll aF Jc (fun b hb=>by
 rw [show aB _=[AB] by kernel_rfl] at hb
 simp only [List.mem_cons,List.not_mem_nil,or_false] at hb
 subst hb
 exact alW)) (fun s=>by kernel_rfl)
theorem amW (s:iV) (hE:akW s):∃s',Jz s'∧ada (abw s) s' (qV s):=bK.fin agW afO s hE
structure lH where
 r:Bool
 i:Int
 ah:List Cd
 aA:List ByteArray
 aj:List Ko
 ai:List Ch
 aJ:List Ba
def aC5 (s:lH):List LV:=[.own 0 0,.v (.bool s.r),.v (.int .i64 s.i)]
def aB4 (s:lH):List aU:=[⟨[.xl dU s.ah,.xl .str s.aA,.xl dW s.aj,.xl dM s.ai,.xl dX s.aJ],28,.cl,false⟩]
noncomputable def AO:Code:=((aB (Tryz.f49.body.getD .skip))[2]?).getD .skip
def Zb (s:lH):T (Rd lH):=
 .br (decide (s.i<(List.length s.ai:Int))) (.req (0≤s.i∧s.i<(List.length s.ai:Int)) (.br ((!(chW (aW s.ai s.i))) ||((!(inB (aW s.ai s.i).2.1 (0:Int) (IntKind.i64.wrap ((List.length s.ah:Int)-1)))) ||(!(inB (aW s.ai s.i).2.2.2.2.2.2.2 (0:Int) (IntKind.i64.wrap ((List.length s.aA:Int)-1)))))) (.ok (.stop (.ret) {s with r:=false})) (.ok (.next {s with i:=(IntKind.i64.wrap (s.i+1))})))) (.ok (.stop (.exit 6) s))
abbrev arW (s:lH):=(Zb s).rd s
def JH (s:lH) (j:Int):Bool:=Gi s.ah.length s.aA.length (aW s.ai j)
def akV (s:lH):Prop:=s.i=0∧0≤(List.length s.ai:Int)∧(List.length s.ai:Int)≤1000∧(s.ah.length:Int)≤1000∧(s.aA.length:Int)≤1000
def MI (s:lH):Prop:=0≤s.i∧s.i≤(List.length s.ai:Int)∧(List.length s.ai:Int)≤1000∧((s.ah.length:Int)≤1000∧(s.aA.length:Int)≤1000)∧∀j:Nat,(j:Int)<s.i→JH s j=true
def OE (s:lH):Nat:=((List.length s.ai:Int)-s.i).toNat
def aki (x:Ex) (_ s':lH):Prop:=(x=.exit 6∧∀j:Nat,(j:Int)<(List.length s'.ai:Int)→JH s' j=true)∨(x=.ret∧s'.r=false∧∃j:Nat,(j:Int)<(List.length s'.ai:Int)∧JH s' j=false)
theorem azu:∀s,akV s→MI s:=by
 intro s h
 obtain ⟨h0,h1,h2,h3⟩:=h
 exact ⟨by omega,by omega,h2,h3,fun j hj=>by omega⟩
theorem aug (s:lH) (hI:MI s):bJ (fun s'=>MI s'∧OE s'<OE s) (fun x s'=>aki x s s') (arW s):=by
 unfold arW Zb
 dsimp only [T.rd,T.rl]
 obtain ⟨h0,h1,h2,h3,h4⟩:=hI
 refine au (fun c1=>au (fun c2=>?_) (fun c2=>?_)) (fun c1=>?_)
 ·have c1:s.i<(List.length s.ai:Int):=by simpa using c1
  refine .inr ⟨rfl,rfl,s.i.toNat,by simp only;omega,?_⟩
  rw [Int.toNat_of_nonneg (by omega)]
  have hg:JH s s.i=false:=by unfold JH;(obtain ⟨e1,e2⟩:=h3;rw [aK (x:=(List.length s.ah:Int)-1) (by omega) (by omega),aK (x:=(List.length s.aA:Int)-1) (by omega) (by omega)] at c2;unfold Gi;revert c2;generalize chW (aW s.ai s.i)=a;generalize inB (aW s.ai s.i).2.1 _ _=b;generalize inB (aW s.ai s.i).2.2.2.2.2.2.2 _ _=c;cases a<;>cases b<;>cases c<;>simp)
  exact hg
 ·have c1:s.i<(List.length s.ai:Int):=by simpa using c1
  have hg:JH s s.i=true:=by unfold JH;(obtain ⟨e1,e2⟩:=h3;rw [aK (x:=(List.length s.ah:Int)-1) (by omega) (by omega),aK (x:=(List.length s.aA:Int)-1) (by omega) (by omega)] at c2;unfold Gi;revert c2;generalize chW (aW s.ai s.i)=a;generalize inB (aW s.ai s.i).2.1 _ _=b;generalize inB (aW s.ai s.i).2.2.2.2.2.2.2 _ _=c;cases a<;>cases b<;>cases c<;>simp)
  rw [aK (x:=s.i+1) (by omega) (by omega)]
  refine ⟨⟨by simp only;omega,by simp only;omega,h2,h3,fun j hj=>?_⟩,by simp only [OE];omega⟩
  by_cases hji:(j:Int)<s.i
  ·exact h4 j hji
  ·have:(j:Int)=s.i:=by simp only at hj;omega
   rw [this];exact hg
 ·have c1:(List.length s.ai:Int)≤s.i:=by simpa using c1
  exact .inl ⟨rfl,fun j hj=>h4 j (by omega)⟩
def Ez:bK lH:=⟨0,159,[1,2,7],[],aC5,aB4,fun v b=>⟨uT (v.getD 1 .junk),gI (v.getD 2 .junk),aQ dU (aX (aO b 0) 0),aQ .str (aX (aO b 0) 1),aQ dW (aX (aO b 0) 2),aQ dM (aX (aO b 0) 3),aQ dX (aX (aO b 0) 4)⟩,Zb,fun s r=> {r with ah:=s.ah,aA:=s.aA,aj:=s.aj,ai:=s.ai,aJ:=s.aJ},fun s=>s,fun _ s=>s,[.ret,.exit 6],akV,MI,OE⟩
abbrev zB:=Ez.run
abbrev abv:=Ez.jG
abbrev axV:=Ez.q
theorem auA (s:lH) (hI:MI s):(Zb s).all (fun _=>True):=by
 refine ⟨fun c1=>⟨?_,fun _=>trivial,fun _=>trivial⟩,fun _=>trivial⟩
 ·(obtain ⟨h0,h1,h2,h3,h4⟩:=hI;simp at c1;omega)
theorem agV:Ez.Ok:=⟨fun s=>by kernel_rfl,fun s=>by kernel_rfl,fun s=>rfl,fun s t r=>rfl,fun s=>rfl,fun s=>by kernel_rfl⟩
theorem afN:Ez.Pf (aki):=⟨azu,fun _ _=>rfl,aug,auA⟩
theorem alY:bn Tryz.prog aS (AN 0) (.loop AO) Ez.lp:=bK.snd agV afN (aP (Γ:=IK) (K:=dY) (L:=aC) Ll aF AO (fun b hb=>by rw [show aB AO=[] by kernel_rfl] at hb;cases hb)) (fun s=>by kernel_rfl)
theorem amV (s:lH) (hE:akV s):∃s',MI s'∧aki (abv s) s' (zB s):=bK.fin agV afN s hE
structure oO where
 r:Bool
 i:Int
 ah:List Cd
 aA:List ByteArray
 aj:List Ko
 ai:List Ch
 aJ:List Ba
def aC4 (s:oO):List LV:=[.own 0 0,.v (.bool s.r),.v (.int .i64 s.i)]
def aB3 (s:oO):List aU:=[⟨[.xl dU s.ah,.xl .str s.aA,.xl dW s.aj,.xl dM s.ai,.xl dX s.aJ],28,.cl,false⟩]
noncomputable def AL:Code:=((aB (Tryz.f49.body.getD .skip))[3]?).getD .skip
def Za (s:oO):T (Rd oO):=
 .br (decide (s.i<(List.length s.aJ:Int))) (.req (0≤s.i∧s.i<(List.length s.aJ:Int)) (.br (!(inB (CJ s.aJ s.i).2 (0:Int) (IntKind.i64.wrap ((List.length s.ai:Int)-1)))) (.ok (.stop (.ret) {s with r:=false})) (.ok (.next {s with i:=(IntKind.i64.wrap (s.i+1))})))) (.ok (.stop (.exit 8) s))
abbrev arV (s:oO):=(Za s).rd s
def JG (s:oO) (j:Int):Bool:=inB (CJ s.aJ j).2 0 (IntKind.i64.wrap ((List.length s.ai:Int)-1))
def akU (s:oO):Prop:=s.i=0∧0≤(List.length s.aJ:Int)∧(List.length s.aJ:Int)≤1000∧True
def MH (s:oO):Prop:=0≤s.i∧s.i≤(List.length s.aJ:Int)∧(List.length s.aJ:Int)≤1000∧(True)∧∀j:Nat,(j:Int)<s.i→JG s j=true
def OD (s:oO):Nat:=((List.length s.aJ:Int)-s.i).toNat
def akh (x:Ex) (_ s':oO):Prop:=(x=.exit 8∧∀j:Nat,(j:Int)<(List.length s'.aJ:Int)→JG s' j=true)∨(x=.ret∧s'.r=false∧∃j:Nat,(j:Int)<(List.length s'.aJ:Int)∧JG s' j=false)
theorem azt:∀s,akU s→MH s:=by
 intro s h
 obtain ⟨h0,h1,h2,h3⟩:=h
 exact ⟨by omega,by omega,h2,h3,fun j hj=>by omega⟩
theorem auf (s:oO) (hI:MH s):bJ (fun s'=>MH s'∧OD s'<OD s) (fun x s'=>akh x s s') (arV s):=by
 unfold arV Za
 dsimp only [T.rd,T.rl]
 obtain ⟨h0,h1,h2,h3,h4⟩:=hI
 refine au (fun c1=>au (fun c2=>?_) (fun c2=>?_)) (fun c1=>?_)
 ·have c1:s.i<(List.length s.aJ:Int):=by simpa using c1
  refine .inr ⟨rfl,rfl,s.i.toNat,by simp only;omega,?_⟩
  rw [Int.toNat_of_nonneg (by omega)]
  have hg:JG s s.i=false:=by unfold JG;(first|(have c2:(!(inB (CJ s.aJ s.i).2 0 (IntKind.i64.wrap ((List.length s.ai:Int)-1))))=false:=c2;simpa using c2) |(have c2:(!(inB (CJ s.aJ s.i).2 0 (IntKind.i64.wrap ((List.length s.ai:Int)-1))))=true:=c2;simpa using c2))
  exact hg
 ·have c1:s.i<(List.length s.aJ:Int):=by simpa using c1
  have hg:JG s s.i=true:=by unfold JG;(first|(have c2:(!(inB (CJ s.aJ s.i).2 0 (IntKind.i64.wrap ((List.length s.ai:Int)-1))))=false:=c2;simpa using c2) |(have c2:(!(inB (CJ s.aJ s.i).2 0 (IntKind.i64.wrap ((List.length s.ai:Int)-1))))=true:=c2;simpa using c2))
  rw [aK (x:=s.i+1) (by omega) (by omega)]
  refine ⟨⟨by simp only;omega,by simp only;omega,h2,h3,fun j hj=>?_⟩,by simp only [OD];omega⟩
  by_cases hji:(j:Int)<s.i
  ·exact h4 j hji
  ·have:(j:Int)=s.i:=by simp only at hj;omega
   rw [this];exact hg
 ·have c1:(List.length s.aJ:Int)≤s.i:=by simpa using c1
  exact .inl ⟨rfl,fun j hj=>h4 j (by omega)⟩
def Ey:bK oO:=⟨0,159,[1,2,9],[],aC4,aB3,fun v b=>⟨uT (v.getD 1 .junk),gI (v.getD 2 .junk),aQ dU (aX (aO b 0) 0),aQ .str (aX (aO b 0) 1),aQ dW (aX (aO b 0) 2),aQ dM (aX (aO b 0) 3),aQ dX (aX (aO b 0) 4)⟩,Za,fun s r=> {r with ah:=s.ah,aA:=s.aA,aj:=s.aj,ai:=s.ai,aJ:=s.aJ},fun s=>s,fun _ s=>s,[.ret,.exit 8],akU,MH,OD⟩
abbrev ZQ:=Ey.run
abbrev abu:=Ey.jG
abbrev axU:=Ey.q
theorem auz (s:oO) (hI:MH s):(Za s).all (fun _=>True):=by
 refine ⟨fun c1=>⟨?_,fun _=>trivial,fun _=>trivial⟩,fun _=>trivial⟩
 ·(obtain ⟨h0,h1,h2,h3,h4⟩:=hI;simp at c1;omega)
theorem agU:Ey.Ok:=⟨fun s=>by kernel_rfl,fun s=>by kernel_rfl,fun s=>rfl,fun s t r=>rfl,fun s=>rfl,fun s=>by kernel_rfl⟩
theorem afM:Ey.Pf (akh):=⟨azt,fun _ _=>rfl,auf,auz⟩
theorem alX:bn Tryz.prog aS (AN 0) (.loop AL) Ey.lp:=bK.snd agU afM (aP (Γ:=IK) (K:=dY) (L:=aC) Ll aF AL (fun b hb=>by rw [show aB AL=[] by kernel_rfl] at hb;cases hb)) (fun s=>by kernel_rfl)
theorem amU (s:oO) (hE:akU s):∃s',MH s'∧akh (abu s) s' (ZQ s):=bK.fin agU afM s hE
def acg:List LV→T LV
 | [.agg [.xl (.pair .str (.pair (.int .i64) (.pair (.int .i64) (.pair (.int .i64) (.pair (.pair (.int .i64) (.int .i64)) (.pair (.int .i64) (.pair (.int .i64) (.pair (.int .i64) (.pair (.int .i64) (.int .i64)))))))))) cs,.xl (.str) os,.xl (.pair .str (.pair (.int .i64) (.pair (.int .i64) (.int .i64)))) ks,.xl (.pair .str (.pair (.int .i64) (.pair (.int .i64) (.pair (.int .i64) (.pair (.int .i64) (.pair (.int .i64) (.pair (.int .i64) (.int .i64)))))))) gs,.xl (.pair .str (.int .i64)) bs]]=> .req (nmR (gB cs os ks gs bs)) (.ok (.v (.bool (fM cs os ks gs bs))))
 |_=> .no
noncomputable def X3:List LV→T LV:=gJ Tryz.prog Tryz.f49.params.toList acg
theorem anV (cs:List Cd) (os:List ByteArray) (ks:List Ko) (gs:List Ch) (bs:List Ba):bT Tryz.prog aS (IK) dY (fun i=>if i=4 then ED.lp else if i=9 then EC.lp else if i=20 then Ez.lp else if i=26 then Ey.lp else aC i) Tryz.f49 [.agg [.xl dU cs,.xl .str os,.xl dW ks,.xl dM gs,.xl dX bs]]=.br (!(inB (List.length cs:Int) (1:Int) (16:Int))) (.ok (.v (.bool false))) (.br (decide ((List.length os:Int)>8)) (.ok (.v (.bool false))) (.br (decide ((List.length ks:Int)>32)) (.ok (.v (.bool false))) (.br (decide ((List.length gs:Int)>16)) (.ok (.v (.bool false))) (.br (decide ((List.length bs:Int)>24)) (.ok (.v (.bool false))) (.req (((List.length cs:Int)≤100∧(List.length os:Int)≤100∧(List.length ks:Int)≤100∧(List.length gs:Int)≤100∧(List.length bs:Int)≤100)∧nmR (gB cs os ks gs bs)) (.br (!(nmB (gB cs os ks gs bs))) (.ok (.v (.bool false))) (.req (axX (⟨false,(0:Int),cs,os,ks,gs,bs⟩:iW)) (.br (iw (abx (⟨false,(0:Int),cs,os,ks,gs,bs⟩:iW)) (.ret)) (.ok (.v (.bool (l9 (⟨false,(0:Int),cs,os,ks,gs,bs⟩:iW)).r))) (.req (axW (⟨(l9 (⟨false,(0:Int),cs,os,ks,gs,bs⟩:iW)).r,(0:Int),cs,os,ks,gs,bs⟩:iV)) (.br (iw (abw (⟨(l9 (⟨false,(0:Int),cs,os,ks,gs,bs⟩:iW)).r,(0:Int),cs,os,ks,gs,bs⟩:iV)) (.ret)) (.ok (.v (.bool (qV (⟨(l9 (⟨false,(0:Int),cs,os,ks,gs,bs⟩:iW)).r,(0:Int),cs,os,ks,gs,bs⟩:iV)).r))) (.req (axV (⟨(qV (⟨(l9 (⟨false,(0:Int),cs,os,ks,gs,bs⟩:iW)).r,(0:Int),cs,os,ks,gs,bs⟩:iV)).r,(0:Int),cs,os,ks,gs,bs⟩:lH)) (.br (iw (abv (⟨(qV (⟨(l9 (⟨false,(0:Int),cs,os,ks,gs,bs⟩:iW)).r,(0:Int),cs,os,ks,gs,bs⟩:iV)).r,(0:Int),cs,os,ks,gs,bs⟩:lH)) (.ret)) (.ok (.v (.bool (zB (⟨(qV (⟨(l9 (⟨false,(0:Int),cs,os,ks,gs,bs⟩:iW)).r,(0:Int),cs,os,ks,gs,bs⟩:iV)).r,(0:Int),cs,os,ks,gs,bs⟩:lH)).r))) (.req (axU (⟨(zB (⟨(qV (⟨(l9 (⟨false,(0:Int),cs,os,ks,gs,bs⟩:iW)).r,(0:Int),cs,os,ks,gs,bs⟩:iV)).r,(0:Int),cs,os,ks,gs,bs⟩:lH)).r,(0:Int),cs,os,ks,gs,bs⟩:oO)) (.br (iw (abu (⟨(zB (⟨(qV (⟨(l9 (⟨false,(0:Int),cs,os,ks,gs,bs⟩:iW)).r,(0:Int),cs,os,ks,gs,bs⟩:iV)).r,(0:Int),cs,os,ks,gs,bs⟩:lH)).r,(0:Int),cs,os,ks,gs,bs⟩:oO)) (.ret)) (.ok (.v (.bool (ZQ (⟨(zB (⟨(qV (⟨(l9 (⟨false,(0:Int),cs,os,ks,gs,bs⟩:iW)).r,(0:Int),cs,os,ks,gs,bs⟩:iV)).r,(0:Int),cs,os,ks,gs,bs⟩:lH)).r,(0:Int),cs,os,ks,gs,bs⟩:oO)).r))) (.ok (.v (.bool true))))))))))))))))):=by kernel_rfl
theorem as6:Valid Tryz.prog aS 49 X3:=aH Tryz.func49 rfl Ll aF (L:=(fun i=>if i=4 then ED.lp else if i=9 then EC.lp else if i=20 then Ez.lp else if i=26 then Ey.lp else aC i)) (fun b hb=>by
 rw [show aB _=[AP,Jc,AO,AL] by kernel_rfl] at hb
 simp only [List.mem_cons,List.not_mem_nil,or_false] at hb
 rcases hb with rfl|rfl|rfl|rfl
 ·exact al0
 ·exact alZ
 ·exact alY
 ·exact alX) (fun args lv h=>by
 unfold acg at h
 split at h
 ·simp only [canL,canX]
  rw [anV]
  rename_i cs os ks gs bs
  obtain ⟨hn,rfl⟩:=h
  have bad:¬(1≤cs.length∧cs.length≤16∧os.length≤8∧ks.length≤32∧gs.length≤16∧bs.length≤24)→LV.v (.bool false)=LV.v (.bool (fM cs os ks gs bs)):=fun hd=>congrArg (fun z=>LV.v (.bool z)) (by
   rw [eq_comm,Bool.eq_false_iff]
   intro hx
   exact hd (fP.1 hx).1)
  refine ⟨fun c=>bad (by simp only [Bool.not_eq_true',aim] at c;omega),fun c=>⟨fun c2=>bad (by simp at c2;omega),fun c2=>⟨fun c3=>bad (by simp at c3;omega),fun c3=>⟨fun c4=>bad (by simp at c4;omega),fun c4=>⟨fun c5=>bad (by simp at c5;omega),fun c5=>?_⟩⟩⟩⟩⟩
  have hd:1≤cs.length∧cs.length≤16∧os.length≤8∧ks.length≤32∧gs.length≤16∧bs.length≤24:=by
   simp only [Bool.not_eq_false',eU,decide_eq_false_iff_not] at c c2 c3 c4 c5
   omega
  rw [afb hd]
  refine ⟨⟨by omega,hn⟩,fun c6=>?_,fun c6=>?_⟩
  ·have c6:nmB (gB cs os ks gs bs)=false:=by simpa using c6
   rw [c6]
   exact rfl
  have c6:nmB (gB cs os ks gs bs)=true:=by simpa using c6
  rw [c6,Bool.true_and]
  refine mQ ⟨⟨rfl,by simp only;omega,by simp only;omega,trivial⟩,rfl,rfl⟩ (fun hE0=>?_)
  obtain ⟨s',_,hq⟩:=amX _ hE0.1
  rcases hq with ⟨q1,q2⟩ |⟨q1,q2,j,q3,q4⟩
  rotate_left
  ·rw [q1,q2]
   refine ⟨fun _=>congrArg (fun z=>LV.v (.bool z)) ?_,fun h=>by cases h⟩
   unfold Vr
   rw [uh (n:=cs.length) (f:=fun j=>Eh j (fO cs j)) j q3 q4]
   rfl
  rw [q1]
  refine ⟨fun h=>(by cases h),fun _=>?_⟩
  have g0:J6 cs.length (fun j=>Eh j (fO cs j))=true:=fQ.2 q2
  refine mQ ⟨⟨rfl,by simp only;omega,by simp only;omega⟩,rfl,rfl⟩ (fun hE1=>?_)
  obtain ⟨s',_,hq⟩:=amW _ hE1.1
  rcases hq with ⟨q1,q2⟩ |⟨q1,q2,j,q3,q4⟩
  rotate_left
  ·rw [q1,q2]
   refine ⟨fun _=>congrArg (fun z=>LV.v (.bool z)) ?_,fun h=>by cases h⟩
   unfold Vr
   have hn:(ks.all (koV os.length)&&once (ks.map (·.2.2.2)))=false:=by
    rw [Bool.eq_false_iff];intro hx
    have:=(kH (d:=(emp,0,0,0))).2 hx j q3
    exact Bool.noConfusion (this.symm.trans q4)
   rw [g0,Bool.true_and,←Bool.and_assoc,hn]
   rfl
  rw [q1]
  refine ⟨fun h=>(by cases h),fun _=>?_⟩
  have g1:(ks.all (koV os.length)&&once (ks.map (·.2.2.2)))=true:=(kH (d:=(emp,0,0,0))).1 q2
  refine mQ ⟨⟨rfl,by simp only;omega,by simp only;omega,by simp only;omega,by simp only;omega⟩,rfl,rfl⟩ (fun hE2=>?_)
  obtain ⟨s',_,hq⟩:=amV _ hE2.1
  rcases hq with ⟨q1,q2⟩ |⟨q1,q2,j,q3,q4⟩
  rotate_left
  ·rw [q1,q2]
   refine ⟨fun _=>congrArg (fun z=>LV.v (.bool z)) ?_,fun h=>by cases h⟩
   unfold Vr
   have hn:gs.all (Gi cs.length os.length)=false:=by
    rw [Bool.eq_false_iff];intro hx
    have:=(iM (d:=(emp,0,0,0,0,0,0,0))).2 hx j q3
    exact Bool.noConfusion (this.symm.trans q4)
   rw [g0,Bool.true_and,←Bool.and_assoc,g1,hn]
   rfl
  rw [q1]
  refine ⟨fun h=>(by cases h),fun _=>?_⟩
  have g2:gs.all (Gi cs.length os.length)=true:=(iM (d:=(emp,0,0,0,0,0,0,0))).1 q2
  have hw:=aK (x:=(List.length gs:Int)-1) (by omega) (by omega)
  refine mQ ⟨⟨rfl,by simp only;omega,by simp only;omega,trivial⟩,rfl,rfl⟩ (fun hE3=>?_)
  obtain ⟨s',_,hq⟩:=amU _ hE3.1
  rcases hq with ⟨q1,q2⟩ |⟨q1,q2,j,q3,q4⟩
  rotate_left
  ·rw [q1,q2]
   refine ⟨fun _=>congrArg (fun z=>LV.v (.bool z)) ?_,fun h=>by cases h⟩
   unfold Vr
   have hn:bs.all (fun b=>inB b.2 0 ((gs.length:Int)-1))=false:=by
    rw [Bool.eq_false_iff];intro hx
    have:=(iM (d:=(emp,0))).2 hx j q3
    have q4:inB (CJ bs j).2 0 (IntKind.i64.wrap ((List.length gs:Int)-1))=false:=q4
    rw [hw] at q4
    exact Bool.noConfusion (this.symm.trans q4)
   rw [g0,Bool.true_and,←Bool.and_assoc,g1,g2,hn]
   rfl
  rw [q1]
  refine ⟨fun h=>(by cases h),fun _=>?_⟩
  have g3:bs.all (fun b=>inB b.2 0 ((gs.length:Int)-1))=true:=(iM (d:=(emp,0))).1 (fun j hj=>by
   have:inB (CJ bs j).2 0 (IntKind.i64.wrap ((List.length gs:Int)-1))=true:=q2 j hj
   rw [hw] at this
   exact this)
  refine congrArg (fun z=>LV.v (.bool z)) ?_
  unfold Vr
  rw [g0,Bool.true_and,←Bool.and_assoc,g1,g2,g3]
  rfl
 ·cases h)
end Go.Proofs.YtlihnbimgclogaaGreatDoor
namespace Go.Proofs.YtlihnbimgclogaaGreatDoor
open Go.Sx
section
variable {lt : Int → Int → Bool}
def FN (lt:Int→Int→Bool):List Int→Int→List Int
 | [],x=>[x]
 |y::q,x=>if lt x y=true then y::FN lt q x else x::y::q
theorem xC {x:Int}:∀ {q:List Int},(FN lt q x).Perm (x::q)
 | []=>List.Perm.refl _
 |y::q=>by
  unfold FN
  split
  ·exact (List.Perm.cons y xC).trans (List.Perm.swap x y q)
  ·exact List.Perm.refl _
theorem aik {q:List Int}{x:Int}:(FN lt q x).length=q.length+1:=by rw [xC.length_eq];rfl
theorem IX:∀ {l acc:List Int},(l.foldl (FN lt) acc).Perm (acc++l)
 | [],acc=>by simp
 |x::l,acc=>by
  rw [List.foldl_cons]
  refine IX.trans ?_
  refine (List.Perm.append_right l xC).trans ?_
  rw [List.cons_append]
  exact List.perm_middle.symm
def sortB (lt:Int→Int→Bool) (l:List Int):List Int:=(l.foldl (FN lt) []).reverse
theorem VI {l:List Int}:(sortB lt l).Perm l:=by
 unfold sortB
 exact (List.reverse_perm _).trans (by have:=IX (lt:=lt) (l:=l) (acc:=[]);simpa using this)
def exB (l:List Int) (j:Nat):List Int:=(l.set (j+1) (l.getD j 0)).set j (l.getD (j+1) 0)
def bub (lt:Int→Int→Bool):Nat→List Int→List Int
 |0,l=>l
 |j+1,l=>if lt (l.getD (j+1) 0) (l.getD j 0)=true then bub lt j (exB l j) else l
theorem apJ {p post:List Int}{x y:Int}:exB (p++y::x::post) p.length=p++x::y::post:=by
 unfold exB
 have e1:(p++y::x::post).getD p.length 0=y:=by simp [List.getD]
 have e2:(p++y::x::post).getD (p.length+1) 0=x:=by simp [List.getD]
 rw [e1,e2,List.set_append_right _ _ (by omega),List.set_append_right _ _ (by omega)]
 simp
theorem Qp {post:List Int}{x:Int}:∀ {q:List Int},bub lt q.length (q.reverse++x::post)=(FN lt q x).reverse++post
 | []=>by simp [bub,FN]
 | y::q=>by
  have hl:q.length=q.reverse.length:=by simp
  have e1:((y::q).reverse++x::post)=q.reverse++y::x::post:=by simp
  rw [e1,List.length_cons,bub]
  have g1:(q.reverse++y::x::post).getD q.length 0=y:=by rw [hl];simp [List.getD]
  have g2:(q.reverse++y::x::post).getD (q.length+1) 0=x:=by rw [hl];simp [List.getD]
  rw [g1,g2]
  unfold FN
  split
  ·have e2:exB (q.reverse++y::x::post) q.length=q.reverse++x::y::post:=by
    have:=apJ (p:=q.reverse) (x:=x) (y:=y) (post:=post)
    rwa [←hl] at this
   rw [e2,Qp]
   simp
  ·simp
theorem ajq:∀ {j:Nat}{l:List Int},j<l.length→(bub lt j l).Perm l:=fun {j l} h=>by
 have e:l=(l.take j).reverse.reverse++l[j]::l.drop (j+1):=by rw [List.reverse_reverse,List.getElem_cons_drop,List.take_append_drop]
 have hj:(l.take j).reverse.length=j:=by simp;omega
 have h2:=Qp (lt:=lt) (q:=(l.take j).reverse) (x:=l[j]) (post:=l.drop (j+1))
 rw [hj,←e] at h2
 rw [h2]
 refine (List.Perm.append_right _ ((List.reverse_perm _).trans xC)).trans ?_
 rw [List.cons_append]
 refine (List.perm_middle.symm.trans ?_)
 refine (List.Perm.append_right _ (List.reverse_perm _)).trans ?_
 rw [List.getElem_cons_drop,List.take_append_drop]
def uP (lt:Int→Int→Bool) (l:List Int) (i:Nat):List Int:=((l.drop i).foldl (FN lt) (l.take i).reverse).reverse
theorem VR {l:List Int}{i:Nat}(h:i<l.length):uP lt (bub lt i l) (i+1)=uP lt l i:=by
 have e:l=(l.take i).reverse.reverse++l[i]::l.drop (i+1):=by rw [List.reverse_reverse,List.getElem_cons_drop,List.take_append_drop]
 have hi:(l.take i).reverse.length=i:=by simp;omega
 have h2:=Qp (lt:=lt) (q:=(l.take i).reverse) (x:=l[i]) (post:=l.drop (i+1))
 rw [hi,←e] at h2
 have hl:((FN lt (l.take i).reverse l[i]).reverse).length=i+1:=by rw [List.length_reverse,aik,hi]
 unfold uP
 rw [h2,List.drop_append_of_le_length (by omega),List.take_append_of_le_length (by omega),List.drop_of_length_le (by omega),List.take_of_length_le (by omega),List.nil_append,List.reverse_reverse]
 conv=>rhs;rw [←List.getElem_cons_drop h,List.foldl_cons]
theorem adQ {l:List Int}:uP lt l 1=sortB lt l:=by
 cases l with
 |nil=>rfl
 |cons x l=>simp [uP,sortB,FN]
theorem adR {l:List Int}{i:Nat}(h:l.length≤i):uP lt l i=l:=by
 unfold uP
 rw [List.drop_of_length_le h,List.take_of_length_le h]
 simp
end
abbrev pU:Ty:=.pair .bool (.pair (.int .i64) (.pair (.int .i64) (.int .i64)))
abbrev Dm:=Bool×Int×Int×Int
def lV (l:List Dm) (n:Int):Dm:=l.getD n.toNat (false,0,0,0)
def slk (d:List Dm) (t i:Int):Int:=(lV d i).2.2.1-t-(lV d i).2.1
def cm (a b:Int):Int:=if a<b then -1 else if a>b then 1 else 0
def orI:List Int→Int
 | []=>0
 |x::l=>if (x !=0)=true then x else orI l
def cmD (d:List Dm) (t a b:Int):Int:=orI [cm (lV d a).2.2.2 (lV d b).2.2.2,cm (slk d t a) (slk d t b),cm a b]
def ltD (d:List Dm) (t a b:Int):Bool:=decide (cmD d t a b<0)
def xP (d:List Dm) (t:Int):Prop:=(∀x∈d,(-2000000000≤x.2.1∧x.2.1≤2000000000)∧-2000000000≤x.2.2.1∧x.2.2.1≤2000000000)∧-2000000000≤t∧t≤2000000000
theorem ao5 {d:List Dm}{i:Int}(h0:0≤i) (h1:i<(d.length:Int)):lV d i∈d:=by
 unfold lV
 have h:i.toNat<d.length:=by omega
 simp [List.getD,h]
theorem asT {d:List Dm}{t i:Int}(h:xP d t) (h0:0≤i) (h1:i<(d.length:Int)):(-2000000000≤(lV d i).2.1∧(lV d i).2.1≤2000000000)∧-2000000000≤(lV d i).2.2.1∧(lV d i).2.2.1≤2000000000:=h.1 _ (ao5 h0 h1)
def yI (n:Nat):List Int:=(List.range n).map (fun k:Nat=>(k:Int))
def jF (d:List Dm) (t:Int):List Int:=sortB (ltD d t) (yI d.length)
theorem adP {n:Nat}:yI (n+1)=yI n++[(n:Int)]:=by simp [yI,List.range_succ]
theorem ql {n:Nat}:(yI n).length=n:=by simp [yI]
theorem SC {n:Nat}{x:Int}:x∈yI n↔0≤x∧x<(n:Int):=by
 unfold yI
 rw [List.mem_map]
 constructor
 ·rintro ⟨k,hk,rfl⟩
  rw [List.mem_range] at hk
  omega
 ·exact fun h=>⟨x.toNat,by rw [List.mem_range];omega,by omega⟩
theorem VQ {n:Nat}:(yI n).Nodup:=List.Pairwise.map _ (fun a b h=>by omega) List.nodup_range
theorem Dc {d:List Dm}{t:Int}:(jF d t).Perm (yI d.length):=VI
theorem SS {d:List Dm}{t:Int}:(jF d t).length=d.length:=by rw [Dc.length_eq,ql]
theorem agD {d:List Dm}{t x:Int}:x∈jF d t↔0≤x∧x<(d.length:Int):=Dc.mem_iff.trans SC
theorem Wi {d:List Dm}{t:Int}:(jF d t).Nodup:=Dc.nodup_iff.2 VQ
end Go.Proofs.YtlihnbimgclogaaGreatDoor
namespace Go.Proofs.YtlihnbimgclogaaGreatDoor
open Go.Sx
theorem PY {mi ma st a k:Int}(hh:kC mi ma st=true) (ha:0≤a) (h0:0≤k) (h1:k<pI mi ma st):BX mi st k≤a↔k≤QN mi ma st a:=by
 obtain ⟨g1,g2,g3,g4,g5⟩:=dV.1 hh
 have hn:¬(kC mi ma st=false∨a<0):=by simp [hh];omega
 unfold QN
 rw [if_neg hn]
 unfold BX
 by_cases e:k=0
 ·subst e
  simp only [if_true]
  split
  ·omega
  ·have:=Dv (x:=a-mi) (st:=st) (by omega) (by omega)
   omega
 ·rw [if_neg e]
  have hp:0≤(k-1)*st:=Int.mul_nonneg (by omega) (by omega)
  split
  ·omega
  ·have:=(Int.le_ediv_iff_mul_le (a:=k-1) (b:=a-mi) (c:=st) (by omega))
   omega
theorem ah9 {mi ma st a:Int}(hh:kC mi ma st=true):QN mi ma st a<pI mi ma st:=by
 have:=F5 hh
 unfold QN
 split
 ·omega
 ·split<;>omega
theorem W9 {mi ma st a:Int}(hh:kC mi ma st=true) (ha:0≤a):0≤QN mi ma st a:=by
 have:=F5 hh
 obtain ⟨g1,g2,g3,g4,g5⟩:=dV.1 hh
 have hn:¬(kC mi ma st=false∨a<0):=by simp [hh];omega
 unfold QN
 rw [if_neg hn]
 split
 ·omega
 ·have:=Dv (x:=a-mi) (st:=st) (by omega) (by omega)
  omega
theorem Wl {l:List Int}:once l=true↔l.Nodup:=by
 rw [Ht,List.nodup_iff_pairwise_ne,List.pairwise_iff_getElem]
 constructor
 ·intro h i j hi hj hij e
  exact h j hj (by rw [←e,List.mem_iff_getElem];exact ⟨i,by rw [List.length_take];omega,by simp⟩)
 ·intro h j hj hm
  obtain ⟨i,hi,e⟩:=List.mem_iff_getElem.1 hm
  rw [List.length_take] at hi
  have:l[i]=l[j]:=by simpa using e
  exact h i j (by omega) hj (by omega) this
theorem vS:∀ {r l:List Int},r.Nodup→(∀x∈r,x∈l)→r.length=l.length→l.Nodup∧∀x∈l,x∈r
 | [],l,_,_,h=>by
  have:l=[]:=List.length_eq_zero_iff.1 h.symm
  subst this
  simp
 | x::r,l,hn,hs,h=>by
  obtain ⟨n1,n2⟩:=List.nodup_cons.1 hn
  have hx:=hs x (by simp)
  have hp:=List.perm_cons_erase hx
  have hl:(l.erase x).length=l.length-1:=List.length_erase_of_mem hx
  obtain ⟨i1,i2⟩:=vS (l:=l.erase x) n2 (fun y hy=>by
   have hy2:=hs y (by simp [hy])
   have hne:y≠x:=fun e=>n1 (e▸hy)
   exact (List.mem_erase_of_ne hne).2 hy2) (by rw [hl];simp only [List.length_cons] at h;omega)
  refine ⟨hp.nodup_iff.2 (List.nodup_cons.2 ⟨fun hm=>n1 (i2 x hm),i1⟩),fun y hy=>?_⟩
  by_cases e:y=x
  ·simp [e]
  ·exact List.mem_cons_of_mem _ (i2 y ((List.mem_erase_of_ne e).2 hy))
def afw (n:Nat):List Int:=(List.range n).map (fun k:Nat=>(k:Int))
theorem SE {n:Nat}{x:Int}:x∈afw n↔0≤x∧x<(n:Int):=by
 unfold afw
 rw [List.mem_map]
 constructor
 ·rintro ⟨k,hk,rfl⟩
  have:=List.mem_range.1 hk
  omega
 ·rintro ⟨h1,h2⟩
  exact ⟨x.toNat,List.mem_range.2 (by omega),by omega⟩
theorem SG {n:Nat}:(afw n).length=n:=by simp [afw]
theorem La {l:List Int}{n:Nat}:mG l n=true↔l.length=n∧l.Nodup∧∀i∈l,0≤i∧i<(n:Int):=by
 unfold mG
 simp only [Bool.and_eq_true,decide_eq_true_eq,List.all_eq_true,zF,Wl]
 constructor
 ·rintro ⟨h1,h2,h3⟩;exact ⟨by omega,h3,h2⟩
 ·rintro ⟨h1,h2,h3⟩;exact ⟨by omega,h3,h2⟩
theorem aee {l:List Int}{n:Nat}(h:mG l n=true) {i:Int}(h0:0≤i) (h1:i<(n:Int)):i∈l:=by
 obtain ⟨g1,g2,g3⟩:=La.1 h
 exact (vS g2 (l:=afw n) (fun x hx=>SE.2 (g3 x hx)) (by rw [SG];exact g1)).2 i (SE.2 ⟨h0,h1⟩)
def RZ (al am ms:List Int):Int:=(ms.map (fun m=>mx (gi al m) (gi am m))).sum
def rowB (al am:List Int) (r:Rw):Bool:=r.2.all (fun m=>gi am m==0) ||decide (RZ al am r.2≤r.1)
def yc (rows:List Rw) (al am:List Int):Bool:=rows.all (rowB al am)
def GU (al am:List Int) (r:Rw):Prop:=(r.2.length:Int)≤1000∧(∀m∈r.2,0≤m∧m<(al.length:Int)∧m<(am.length:Int))∧(∀a∈al,0≤a∧a≤1000000)∧∀a∈am,0≤a∧a≤1000000
theorem oD {al am ms:List Int}{m:Int}:RZ al am (m::ms)=mx (gi al m) (gi am m)+RZ al am ms:=by simp [RZ]
theorem aAm {a b:Int}(ha:0≤a∧a≤1000000) (hb:0≤b∧b≤1000000):0≤mx a b∧mx a b≤1000000:=by
 unfold mx
 split<;>omega
end Go.Proofs.YtlihnbimgclogaaGreatDoor
namespace Go.Proofs.YtlihnbimgclogaaGreatDoor
open Go.Sx
def aBD (gs:List Ch) (i k:Int):Int:=Qv (aW gs i).2.2.2.1 (aW gs i).2.2.2.2.1 (aW gs i).2.2.2.2.2.1 k
def aBC (gs:List Ch) (i k:Int):Int:=amE (aW gs i).2.2.2.1 (aW gs i).2.2.2.2.1 (aW gs i).2.2.2.2.2.1 k
structure aBH (rows:List Rw) (gs:List Ch) (al mo od:List Int):Prop where
 ol:(od.length:Int)≤1000
 ord:∀i∈od,0≤i∧i<(gs.length:Int)
 rl:(rows.length:Int)≤1000
 all:al.length=gs.length
 mol:mo.length=gs.length
 row:∀r∈rows,(r.2.length:Int)≤1000∧∀m∈r.2,0≤m∧m<(gs.length:Int)
 al:∀a∈al,0≤a∧a≤1000000
structure YH (gs:List Ch) (out:List Int):Prop where
 len:out.length=gs.length
 bd:∀a∈out,0≤a∧a≤1000000
theorem aBH.GU {rows:List Rw}{gs:List Ch}{al mo od out:List Int}(h:aBH rows gs al mo od) (ho:YH gs out):∀r∈rows,GU al out r:=fun r hr=>
 ⟨(h.row r hr).1,fun m hm=>by
  have:=(h.row r hr).2 m hm
  have:=h.all
  have:=ho.len
  omega,h.al,ho.bd⟩
theorem YH.put {gs:List Ch}{out:List Int}(h:YH gs out) {k:Nat}{v:Int}(hv:0≤v∧v≤1000000):YH gs (out.set k v):=
 ⟨by rw [List.length_set];exact h.len,fun a ha=>by
  rcases List.mem_or_eq_of_mem_set ha with h2|h2
  ·exact h.bd a h2
  ·rw [h2];exact hv⟩
end Go.Proofs.YtlihnbimgclogaaGreatDoor
namespace Go.Proofs.YtlihnbimgclogaaGreatDoor
open Go.Sx
end Go.Proofs.YtlihnbimgclogaaGreatDoor
namespace Go.Proofs.YtlihnbimgclogaaGreatDoor
open Go.Sx
section
variable {P : List Int → Bool} {tp : Int → Int}
def Kr (P:List Int→Bool) (tp:Int→Int) (L:Int) (lv:List Int) (i:Int):List Int:=
 if gi lv i=L-1∧L≤tp i then (if P (lv.set i.toNat L)=true then lv.set i.toNat L else lv) else lv
def xY (P:List Int→Bool) (tp:Int→Int) (L:Int) (lv l:List Int):List Int:=l.foldl (Kr P tp L) lv
def FO (P:List Int→Bool) (tp:Int→Int) (od:List Int):Nat→Int→List Int→List Int
 |0,_,lv=>lv
 |f+1,L,lv=>FO P tp od f (L+1) (xY P tp L lv od)
theorem mJ {l:List Int}{i j v:Int}(h0:0≤i) (h1:i<(l.length:Int)) (hj:0≤j):gi (l.set i.toNat v) j=if j=i then v else gi l j:=by
 unfold gi
 rw [qy]
 by_cases e:j=i
 ·subst e
  rw [if_pos ⟨rfl,by omega⟩,if_pos rfl]
 ·rw [if_neg (by omega),if_neg e]
def CZ (n:Nat) (l:List Int):Prop:=∀i∈l,0≤i∧i<(n:Int)
theorem zU {L i:Int}{lv:List Int}:(Kr P tp L lv i).length=lv.length:=by
 unfold Kr
 split
 ·split
  ·rw [List.length_set]
  ·rfl
 ·rfl
theorem aiD {L i j:Int}{lv:List Int}(h:0≤i∧i<(lv.length:Int)) (hj:0≤j):gi lv j≤gi (Kr P tp L lv i) j:=by
 unfold Kr
 split
 ·rename_i hc
  split
  ·rw [mJ h.1 h.2 hj]
   split
   ·rename_i e;subst e;omega
   ·exact Int.le_refl _
  ·exact Int.le_refl _
 ·exact Int.le_refl _
theorem aei {L i j:Int}{lv:List Int}(h:0≤i∧i<(lv.length:Int)) (hj:0≤j) (hn:j≠i∨gi lv j≠L-1):gi (Kr P tp L lv i) j=gi lv j:=by
 unfold Kr
 split
 ·rename_i hc
  split
  ·rw [mJ h.1 h.2 hj]
   split
   ·rename_i e;subst e;rcases hn with hn|hn
    ·exact absurd rfl hn
    ·exact absurd hc.1 hn
   ·rfl
  ·rfl
 ·rfl
theorem awJ {L i j:Int}{lv:List Int}(h:0≤i∧i<(lv.length:Int)) (hj:0≤j):gi (Kr P tp L lv i) j≤gi lv j∨(gi (Kr P tp L lv i) j=L∧L≤tp j):=by
 unfold Kr
 split
 ·rename_i hc
  split
  ·rw [mJ h.1 h.2 hj]
   split
   ·rename_i e;subst e;exact .inr ⟨rfl,hc.2⟩
   ·exact .inl (Int.le_refl _)
  ·exact .inl (Int.le_refl _)
 ·exact .inl (Int.le_refl _)
theorem ao0 {L:Int}{lv l1 l2:List Int}:xY P tp L lv (l1++l2)=xY P tp L (xY P tp L lv l1) l2:=by simp [xY]
theorem sU {L i:Int}{lv l:List Int}:xY P tp L lv (i::l)=xY P tp L (Kr P tp L lv i) l:=rfl
theorem oh {L:Int}:∀ {l lv:List Int},(xY P tp L lv l).length=lv.length
 | [],_=>rfl
 |i::l,lv=>by rw [sU,oh (l:=l),zU]
theorem Iz {L j:Int}(hj:0≤j):∀ {l lv:List Int},CZ lv.length l→gi lv j≤gi (xY P tp L lv l) j
 | [],_,_=>Int.le_refl _
 |i::l,lv,h=>by
  rw [sU]
  have h1:=aiD (P:=P) (tp:=tp) (L:=L) (h i (by simp)) hj
  have h2:=Iz (L:=L) hj (l:=l) (lv:=Kr P tp L lv i) (by rw [zU];exact fun x hx=>h x (by simp [hx]))
  omega
theorem xE {L j:Int}(hj:0≤j):∀ {l lv:List Int},CZ lv.length l→(j∉l∨gi lv j≠L-1)→gi (xY P tp L lv l) j=gi lv j
 | [],_,_,_=>rfl
 | i::l,lv,h,hn=>by
  have e:=aei (P:=P) (tp:=tp) (L:=L) (h i (by simp)) hj (by
   rcases hn with hn|hn
   ·exact .inl (fun e=>hn (by simp [e]))
   ·exact .inr hn)
  rw [sU,xE hj (by rw [zU];exact fun x hx=>h x (by simp [hx])) (by
   rcases hn with hn|hn
   ·exact .inl (fun hm=>hn (by simp [hm]))
   ·exact .inr (by rw [e];exact hn)),e]
theorem IA {L j:Int}(hj:0≤j):∀ {l lv:List Int},CZ lv.length l→gi (xY P tp L lv l) j≤gi lv j∨(gi (xY P tp L lv l) j≤L∧gi (xY P tp L lv l) j≤tp j)
 | [],_,_=> .inl (Int.le_refl _)
 |i::l,lv,h=>by
  rw [sU]
  have h1:=awJ (P:=P) (tp:=tp) (L:=L) (h i (by simp)) hj
  have h2:=IA (L:=L) hj (l:=l) (lv:=Kr P tp L lv i) (by rw [zU];exact fun x hx=>h x (by simp [hx]))
  omega
theorem aaK {od:List Int}:∀ {f:Nat}{L:Int}{lv:List Int},(FO P tp od f L lv).length=lv.length
 |0,_,_=>rfl
 |f+1,L,lv=>by rw [FO,aaK,oh]
theorem Xh {od:List Int}{j:Int}(hj:0≤j):∀ {f:Nat}{L:Int}{lv:List Int},CZ lv.length od→gi lv j≤gi (FO P tp od f L lv) j
 |0,_,_,_=>Int.le_refl _
 |f+1,L,lv,h=>by
  rw [FO]
  have h1:=Iz (P:=P) (tp:=tp) (L:=L) hj h
  have h2:=Xh (f:=f) (L:=L+1) (lv:=xY P tp L lv od) hj (by rw [oh];exact h)
  omega
theorem Lh {od:List Int}{j:Int}(hj:0≤j):∀ {f:Nat}{L:Int}{lv:List Int},CZ lv.length od→gi lv j<L-1→gi (FO P tp od f L lv) j=gi lv j
 |0,_,_,_,_=>rfl
 |f+1,L,lv,h,hl=>by
  have e:=xE (P:=P) (tp:=tp) (L:=L) hj h (.inr (by omega))
  rw [FO,Lh hj (by rw [oh];exact h) (by omega),e]
theorem aiE {od:List Int}{j:Int}(hj:0≤j):∀ {f:Nat}{L:Int}{lv:List Int},CZ lv.length od→gi (FO P tp od f L lv) j≤gi lv j∨(gi (FO P tp od f L lv) j≤L+f-1∧gi (FO P tp od f L lv) j≤tp j)
 |0,_,_,_=> .inl (Int.le_refl _)
 |f+1,L,lv,h=>by
  rw [FO]
  have h1:=IA (P:=P) (tp:=tp) (L:=L) hj h
  have h2:=aiE (f:=f) (L:=L+1) (lv:=xY P tp L lv od) hj (by rw [oh];exact h)
  omega
theorem TA {od:List Int}:∀ {f:Nat}{L:Int}{lv:List Int},FO P tp od (f+1) L lv=xY P tp (L+f) (FO P tp od f L lv) od
 |0,L,lv=>by simp [FO]
 |f+1,L,lv=>by
  rw [FO,TA (f:=f) (L:=L+1),FO,show L+1+(f:Int)=L+((f+1:Nat):Int) by omega]
theorem Dn {L:Int}:∀ {l lv:List Int},(∀i∈l,gi lv i≠L-1∨tp i<L)→xY P tp L lv l=lv
 | [],_,_=>rfl
 | i::l,lv,h=>by
  have e:Kr P tp L lv i=lv:=by
   unfold Kr
   rw [if_neg (by have:=h i (by simp);omega)]
  rw [sU,e,Dn (fun j hj=>h j (by simp [hj]))]
theorem Ld {od:List Int}:∀ {f:Nat}{L:Int}{lv:List Int},(∀i∈od,gi lv i<L-1)→FO P tp od f L lv=lv
 |0,_,_,_=>rfl
 |f+1,L,lv,h=>by
  rw [FO,Dn (fun i hi=> .inl (by have:=h i hi;omega)),Ld (fun i hi=>by have:=h i hi;omega)]
theorem Lc {od:List Int}(hn:od.Nodup) {l1 l2:List Int}{i:Int}(ho:od=l1++i::l2):∀ {f:Nat}{L0:Int}{lv:List Int},CZ lv.length od→(∀j,0≤j→gi lv j≤L0-1)→∀ {L:Int},L0≤L→L<L0+f→gi (FO P tp od f L0 lv) i=L-1→L≤tp i→
  ∃cur:List Int,cur.length=lv.length∧P (cur.set i.toNat L)=false∧(∀j,0≤j→gi lv j≤gi cur j∧gi cur j≤gi (FO P tp od f L0 lv) j∧gi cur j≤L)∧∀j∈i::l2,gi cur j≤L-1
 |0,L0,lv,_,_,L,h1,h2,_,_=>by omega
 | f +1,L0,lv,hr,hb,L,h1,h2,hs,ht=>by
  have hi:0≤i∧i<(lv.length:Int):=hr i (by rw [ho];simp)
  have hr2:CZ (xY P tp L0 lv od).length od:=by rw [oh];exact hr
  rw [FO] at hs⊢
  by_cases e:L=L0
  ·subst e
   have hr1:CZ lv.length l1:=fun x hx=>hr x (by rw [ho];simp [hx])
   have hrl:CZ (xY P tp L lv l1).length (i::l2):=by rw [oh];exact fun x hx=>hr x (by rw [ho];simp only [List.mem_append];exact .inr hx)
   have hnd:∀j∈i::l2,j∉l1:=by
    rw [ho] at hn
    intro j hj hj1
    exact (List.nodup_append.1 hn).2.2 j hj1 j hj rfl
   have hcur:∀j∈i::l2,gi (xY P tp L lv l1) j=gi lv j:=fun j hj=>xE (hr j (by rw [ho];simp only [List.mem_append];exact .inr hj)).1 hr1 (.inl (hnd j hj))
   have happ:xY P tp L lv od=xY P tp L (Kr P tp L (xY P tp L lv l1) i) l2:=by rw [ho,ao0,sU]
   have hfin:∀j,0≤j→gi (xY P tp L lv od) j≤gi (FO P tp od f (L+1) (xY P tp L lv od)) j:=fun j hj=>Xh hj hr2
   have hst:∀j,0≤j→gi (Kr P tp L (xY P tp L lv l1) i) j≤gi (xY P tp L lv od) j:=fun j hj=>by
    rw [happ]
    exact Iz hj (by rw [zU];exact fun x hx=>hrl x (by simp [hx]))
   have hci:gi (xY P tp L lv l1) i=L-1:=by
    have h3:=hcur i (by simp)
    have h4:=hb i hi.1
    by_cases h5:gi lv i=L-1
    ·omega
    ·have h6:=xE (P:=P) (tp:=tp) (L:=L) hi.1 hr (.inr h5)
     have h7:=Lh (P:=P) (tp:=tp) (f:=f) (L:=L+1) hi.1 hr2 (by omega)
     omega
   refine ⟨xY P tp L lv l1,oh,?_,fun j hj=>⟨Iz hj hr1,?_,?_⟩,fun j hj=>?_⟩
   ·cases hp:P ((xY P tp L lv l1).set i.toNat L) with
    |false=>rfl
    | true=>
     have h3:gi (Kr P tp L (xY P tp L lv l1) i) i=L:=by
      unfold Kr
      rw [if_pos ⟨hci,ht⟩,if_pos hp,mJ hi.1 (by rw [oh];exact hi.2) hi.1,if_pos rfl]
     have h4:=hst i hi.1
     have h5:=hfin i hi.1
     omega
   ·have h3:=aiD (P:=P) (tp:=tp) (L:=L) (hrl i (by simp)) hj
    have h4:=hst j hj
    have h5:=hfin j hj
    omega
   ·have h3:=IA (P:=P) (tp:=tp) (L:=L) hj hr1
    have h4:=hb j hj
    omega
   ·rw [hcur j hj]
    exact hb j (hr j (by rw [ho];simp only [List.mem_append];exact .inr hj)).1
  ·obtain ⟨cur,c1,c2,c3,c4⟩:=Lc hn ho (f:=f) (L0:=L0+1) (lv:=xY P tp L0 lv od) hr2 (fun j hj=>by
    have h3:=IA (P:=P) (tp:=tp) (L:=L0) hj hr
    have h4:=hb j hj
    omega) (L:=L) (by omega) (by omega) hs ht
   refine ⟨cur,by rw [c1,oh],c2,fun j hj=>?_,c4⟩
   have h3:=Iz (P:=P) (tp:=tp) (L:=L0) hj hr
   have h4:=c3 j hj
   exact ⟨by omega,h4.2⟩
end
end Go.Proofs.YtlihnbimgclogaaGreatDoor
namespace Go.Proofs.YtlihnbimgclogaaGreatDoor
open Go.Sx
structure qh (rows:List Rw) (gs:List Ch) (al mo od:List Int):Prop where
 mem:∀r∈rows,r.2.Nodup∧∀m∈r.2,0≤m∧m<(gs.length:Int)
 has:∀i:Int,0≤i→i<(gs.length:Int)→kC (aW gs i).2.2.2.1 (aW gs i).2.2.2.2.1 (aW gs i).2.2.2.2.2.1=true
 gl:gs.length≤16
 all:al.length=gs.length
 mol:mo.length=gs.length
 al:∀a∈al,0≤a∧a≤80
 mo:∀a∈mo,0≤a∧a≤80
 nd:od.Nodup
 ord:CZ gs.length od
 cov:∀i:Int,0≤i→i<(gs.length:Int)→i∈od
theorem ZK {cs:List Cd}{os:List ByteArray}{ks:List Ko}{gs:List Ch}{bs:List Ba}{al mo od:List Int}(h:rU cs os ks gs bs al mo od=true):qh (jB cs gs cs.length) gs al mo od:=by
 obtain ⟨hv,h1,h2,h3,h4,h5⟩:=iO.1 h
 have hl:=(fP.1 hv).1
 obtain ⟨o1,o2,o3⟩:=La.1 h5
 refine ⟨fun r hr=>⟨(row_mem hr).1,(row_mem hr).2.1⟩,fun i h0 h1=>?_,by omega,h1,h2,fun a ha=>oJ.1 (List.all_eq_true.1 h3 a ha),fun a ha=>oJ.1 (List.all_eq_true.1 h4 a ha),o2,o3,fun i h0 h1=>aee h5 h0 h1⟩
 have:=sK hv h0 h1
 unfold Gi chW at this
 simp only [Bool.and_eq_true,eU] at this
 exact dV.2 (by omega)
def PP (rows:List Rw) (gs:List Ch) (al lv:List Int):Bool:=yc rows al (kZ gs lv)
def tpO (gs:List Ch) (mo:List Int) (i:Int):Int:=xW gs i (gi mo i)
theorem qF {gs:List Ch}{lv:List Int}:(kZ gs lv).length=gs.length:=by simp [kZ]
theorem mM {gs:List Ch}{lv:List Int}{i:Int}(h0:0≤i) (h1:i<(gs.length:Int)):gi (kZ gs lv) i=uX gs i (gi lv i):=by
 rw [nH (by rw [qF];omega)]
 simp only [kZ,List.getElem_map,List.getElem_range]
 rw [Int.toNat_of_nonneg h0]
 rfl
theorem ab1 {gs:List Ch}{i:Int}:uX gs i 0=0:=by simp [uX,BX]
theorem Jh {gs:List Ch}{i a b:Int}(hh:kC (aW gs i).2.2.2.1 (aW gs i).2.2.2.2.1 (aW gs i).2.2.2.2.2.1=true) (h0:0≤a) (h1:a≤b):uX gs i a≤uX gs i b:=by
 obtain ⟨g1,g2,g3,g4,g5⟩:=dV.1 hh
 exact Uu ⟨g1,g4⟩ h0 h1
theorem ajw {gs:List Ch}{i a b:Int}(hh:kC (aW gs i).2.2.2.1 (aW gs i).2.2.2.2.1 (aW gs i).2.2.2.2.2.1=true) (h0:0≤a) (h1:a<b):uX gs i a<uX gs i b:=by
 obtain ⟨g1,g2,g3,g4,g5⟩:=dV.1 hh
 have h2:=Jh hh (show 0≤a+1 by omega) (show a+1≤b by omega)
 have h3:uX gs i a<uX gs i (a+1):=by
  unfold uX BX
  rw [if_neg (show ¬a+1=0 by omega)]
  split
  ·rename_i e;subst e;simp;omega
  ·have:(a+1-1)*(aW gs i).2.2.2.2.2.1=(a-1)*(aW gs i).2.2.2.2.2.1+(aW gs i).2.2.2.2.2.1:=by
    rw [show a+1-1=(a-1)+1 by omega,Int.add_mul,Int.one_mul]
   omega
 omega
theorem XO {gs:List Ch}{i a:Int}(hh:kC (aW gs i).2.2.2.1 (aW gs i).2.2.2.2.1 (aW gs i).2.2.2.2.2.1=true) (h0:0≤a):0≤uX gs i a:=by
 have:=Jh hh (Int.le_refl 0) h0
 rw [ab1] at this
 exact this
theorem aoI {a b c:Int}(h:b≤c):mx a b≤mx a c:=by
 unfold mx
 split<;>split<;>omega
theorem RY {al am bm:List Int}:∀ {ms:List Int},(∀m∈ms,gi am m≤gi bm m)→RZ al am ms≤RZ al bm ms
 | [],_=>Int.le_refl _
 |m::ms,h=>by
  have h1:=RY (al:=al) (ms:=ms) (fun x hx=>h x (by simp [hx]))
  have h2:=aoI (a:=gi al m) (h m (by simp))
  rw [oD,oD]
  omega
theorem wQ {al am bm:List Int}:∀ {ms:List Int},(∀m∈ms,gi am m=gi bm m)→RZ al am ms=RZ al bm ms
 | [],_=>rfl
 |m::ms,h=>by rw [oD,oD,wQ (ms:=ms) (fun x hx=>h x (by simp [hx])),h m (by simp)]
theorem ZI {al am bm:List Int}{i:Int}:∀ {ms:List Int},ms.Nodup→i∈ms→(∀m∈ms,m≠i→gi am m=gi bm m)→RZ al bm ms=RZ al am ms+(mx (gi al i) (gi bm i)-mx (gi al i) (gi am i))
 | [],_,h,_=>by cases h
 | m::ms,hn,hi,h=>by
  obtain ⟨n1,n2⟩:=List.nodup_cons.1 hn
  rw [oD,oD]
  by_cases e:m=i
  ·subst e
   rw [wQ (am:=am) (bm:=bm) (fun x hx=>h x (by simp [hx]) (fun e=>n1 (e▸hx)))]
   omega
  ·have hi2:i∈ms:=by
    rcases List.mem_cons.1 hi with h|h
    ·exact absurd h.symm e
    ·exact h
   rw [ZI n2 hi2 (fun x hx=>h x (by simp [hx])),h m (by simp) e]
   omega
theorem VO {al am bm:List Int}{r:Rw}(h:∀m∈r.2,gi am m=gi bm m):rowB al am r=rowB al bm r:=by
 unfold rowB
 rw [wQ h]
 congr 1
 rw [Bool.eq_iff_iff,List.all_eq_true,List.all_eq_true]
 constructor
 ·intro g m hm;rw [←h m hm];exact g m hm
 ·intro g m hm;rw [h m hm];exact g m hm
theorem aqe {rows:List Rw}{gs:List Ch}{al mo od:List Int}(H:qh rows gs al mo od) {a b:List Int}(h:∀j,0≤j→j<(gs.length:Int)→0≤gi a j∧gi a j≤gi b j) (hb:PP rows gs al b=true):PP rows gs al a=true:=by
 unfold PP yc at*
 rw [List.all_eq_true] at*
 intro r hr
 have hm:=(H.mem r hr).2
 have hle:∀m∈r.2,gi (kZ gs a) m≤gi (kZ gs b) m:=fun m hm'=>by
  obtain ⟨m0,m1⟩:=hm m hm'
  rw [mM m0 m1,mM m0 m1]
  exact Jh (H.has m m0 m1) (h m m0 m1).1 (h m m0 m1).2
 have h1:=hb r hr
 unfold rowB at*
 rw [Bool.or_eq_true,List.all_eq_true,decide_eq_true_eq] at*
 rcases h1 with h1|h1
 ·refine .inl (fun m hm'=>?_)
  obtain ⟨m0,m1⟩:=hm m hm'
  have h2:=h1 m hm'
  have h3:=hle m hm'
  have h4:0≤gi (kZ gs a) m:=by rw [mM m0 m1];exact XO (H.has m m0 m1) (h m m0 m1).1
  simp only [beq_iff_eq] at*
  omega
 ·exact .inr (Int.le_trans (RY hle) h1)
structure Inv (rows:List Rw) (gs:List Ch) (al sm lv:List Int):Prop where
 sl:sm.length=rows.length
 sm:∀k:Nat,k<rows.length→sm.getD k 0=RZ al (kZ gs lv) (o7 rows k).2
 ll:lv.length=gs.length
 nn:∀j,0≤j→0≤gi lv j
 pp:PP rows gs al lv=true
theorem F8 {rows:List Rw}{k:Int}(h0:0≤k) (h1:k<(rows.length:Int)):o7 rows k∈rows:=by
 rw [yO (by omega)];exact List.getElem_mem _
theorem Qu {rows:List Rw}{gs:List Ch}{al mo od lv:List Int}(H:qh rows gs al mo od) {i L:Int}(hl:lv.length=gs.length) (h0:0≤i) (h1:i<(gs.length:Int)) {r:Rw}(hr:r∈rows):
  (∀m∈r.2,m≠i→gi (kZ gs lv) m=gi (kZ gs (lv.set i.toNat L)) m)∧gi (kZ gs (lv.set i.toNat L)) i=uX gs i L:=by
 refine ⟨fun m hm e=>?_,?_⟩
 ·obtain ⟨m0,m1⟩:=(H.mem r hr).2 m hm
  rw [mM m0 m1,mM m0 m1,mJ h0 (by omega) m0,if_neg e]
 ·rw [mM h0 h1,mJ h0 (by omega) h0,if_pos rfl]
theorem ae8 {rows:List Rw}{gs:List Ch}{al mo od lv:List Int}(H:qh rows gs al mo od) {i L:Int}(hl:lv.length=gs.length) (h0:0≤i) (h1:i<(gs.length:Int)) {r:Rw}(hr:r∈rows) (hc:gi lv i=L-1):
  RZ al (kZ gs (lv.set i.toNat L)) r.2=RZ al (kZ gs lv) r.2+(if i∈r.2 then KT gs al i L else 0):=by
 obtain ⟨p1,p2⟩:=Qu (L:=L) H hl h0 h1 hr
 split
 ·rename_i hi
  rw [ZI (am:=kZ gs lv) (H.mem r hr).1 hi p1,p2,mM h0 h1,hc]
  rfl
 ·rename_i hi
  rw [←wQ (am:=kZ gs lv) (fun m hm=>p1 m hm (fun e=>hi (e▸hm)))]
  omega
theorem ao9 {rows:List Rw}{gs:List Ch}{al mo od sm lv:List Int}(H:qh rows gs al mo od) (hI:Inv rows gs al sm lv) {i L:Int}(h0:0≤i) (h1:i<(gs.length:Int)) (hL:1≤L) (hc:gi lv i=L-1):
  ((OL rows).getD i.toNat []).all (Ad rows sm (KT gs al i L))=PP rows gs al (lv.set i.toNat L):=by
 have hg:=H.gl
 rw [YI (fun r hr=>⟨(H.mem r hr).1,fun m hm=>((H.mem r hr).2 m hm).1⟩) (by omega),Bool.eq_iff_iff,List.all_eq_true]
 unfold PP yc
 rw [List.all_eq_true]
 have hpp:=hI.pp
 unfold PP yc at hpp
 rw [List.all_eq_true] at hpp
 have hpos:1≤uX gs i L:=by
  have:=ajw (H.has i h0 h1) (Int.le_refl 0) (show 0<L by omega)
  rw [ab1] at this
  omega
 have hfit:∀k:Int,0≤k→k<(rows.length:Int)→i∈(o7 rows k).2→(Ad rows sm (KT gs al i L) k=rowB al (kZ gs (lv.set i.toNat L)) (o7 rows k)):=fun k k0 k1 hk=>by
  have hr:=F8 k0 k1
  have hs:=hI.sm k.toNat (by omega)
  rw [Int.toNat_of_nonneg k0] at hs
  have hp:=ae8 (L:=L) H hI.ll h0 h1 hr hc
  rw [if_pos hk] at hp
  have hz:(o7 rows k).2.all (fun m=>gi (kZ gs (lv.set i.toNat L)) m==0)=false:=by
   rw [Bool.eq_false_iff]
   intro hz
   have:=List.all_eq_true.1 hz i hk
   rw [(Qu (L:=L) H hI.ll h0 h1 hr).2,beq_iff_eq] at this
   omega
  unfold Ad rowB
  rw [hz,Bool.false_or,hp,hs]
 constructor
 ·intro h r hr
  obtain ⟨k,hk,rfl⟩:=List.mem_iff_getElem.1 hr
  have ek:o7 rows (k:Int)=rows[k]:=yO (by simpa using hk)
  by_cases hi:i∈rows[k].2
  ·have:=h (k:Int) (uj.2 ⟨by omega,by omega,by
    rw [Int.sub_zero,ek,Int.toNat_of_nonneg h0]
    simpa using hi⟩)
   rw [hfit k (by omega) (by omega) (by rw [ek];exact hi),ek] at this
   exact this
  ·rw [←VO (am:=kZ gs lv) (fun m hm=>(Qu (L:=L) H hI.ll h0 h1 hr).1 m hm (fun e=>hi (e▸hm)))]
   exact hpp _ hr
 ·intro h x hx
  obtain ⟨x0,x1,x2⟩:=uj.1 hx
  rw [Int.sub_zero,Int.toNat_of_nonneg h0] at x2
  rw [hfit x x0 (by omega) (by simpa using x2)]
  exact h _ (F8 x0 (by omega))
theorem am0 {rows:List Rw}{gs:List Ch}{al mo od sm lv:List Int}{b:Bool}(H:qh rows gs al mo od) (hI:Inv rows gs al sm lv) {i L:Int}(h0:0≤i) (h1:i<(gs.length:Int)) (hL:1≤L):
  (CY (OL rows) rows gs al mo L (sm,lv,b) i).2.1=Kr (PP rows gs al) (tpO gs mo) L lv i∧Inv rows gs al (CY (OL rows) rows gs al mo L (sm,lv,b) i).1 (CY (OL rows) rows gs al mo L (sm,lv,b) i).2.1∧((CY (OL rows) rows gs al mo L (sm,lv,b) i).2.2=false→b=false∧(CY (OL rows) rows gs al mo L (sm,lv,b) i).2.1=lv):=by
 unfold CY Kr
 simp only
 by_cases hc:gi lv i=L-1∧L≤tpO gs mo i
 ·have hf:=ao9 H hI h0 h1 hL hc.1
  rw [if_pos (show lv.getD i.toNat 0=L-1∧L≤xW gs i (gi mo i) from hc),if_pos hc,hf]
  by_cases hp:PP rows gs al (lv.set i.toNat L)=true
  ·rw [if_pos hp,if_pos hp]
   have hg:=H.gl
   refine ⟨rfl,⟨by rw [rO];exact hI.sl,fun k hk=>?_,by rw [List.length_set];exact hI.ll,fun j hj=>?_,hp⟩,fun h=>by cases h⟩
   ·have hr:o7 rows (k:Int)∈rows:=F8 (by omega) (by omega)
    simp only
    rw [YI (fun r hr=>⟨(H.mem r hr).1,fun m hm=>((H.mem r hr).2 m hm).1⟩) (by omega),Jj xw (fun r hr=>(uj.1 hr).1) (by rw [hI.sl];exact hk),hI.sm k hk,ae8 (L:=L) H hI.ll h0 h1 hr hc.1]
    have:(k:Int)∈ofF 0 rows (i.toNat:Int)↔i∈(o7 rows (k:Int)).2:=by
     rw [uj,Int.sub_zero,Int.toNat_of_nonneg h0]
     simp only [List.contains_iff_mem]
     constructor
     ·exact fun h=>h.2.2
     ·exact fun h=>⟨by omega,by omega,h⟩
    by_cases hm:i∈(o7 rows (k:Int)).2
    ·rw [if_pos (this.2 hm),if_pos hm]
    ·rw [if_neg (fun h=>hm (this.1 h)),if_neg hm]
   ·simp only
    rw [mJ h0 (by rw [hI.ll];exact h1) hj]
    split
    ·omega
    ·exact hI.nn j hj
  ·rw [if_neg hp,if_neg hp]
   exact ⟨rfl,hI,fun h=>⟨h,rfl⟩⟩
 ·rw [if_neg (show ¬(lv.getD i.toNat 0=L-1∧L≤xW gs i (gi mo i)) from hc),if_neg hc]
  exact ⟨rfl,hI,fun h=>⟨h,rfl⟩⟩
theorem ZE {rows:List Rw}{gs:List Ch}{al mo od:List Int}(H:qh rows gs al mo od) {L:Int}(hL:1≤L):∀ {l sm lv:List Int}{b:Bool},CZ gs.length l→Inv rows gs al sm lv→
  (swp (OL rows) rows gs al mo L (sm,lv,b) l).2.1=xY (PP rows gs al) (tpO gs mo) L lv l∧Inv rows gs al (swp (OL rows) rows gs al mo L (sm,lv,b) l).1 (swp (OL rows) rows gs al mo L (sm,lv,b) l).2.1∧((swp (OL rows) rows gs al mo L (sm,lv,b) l).2.2=false→b=false∧(swp (OL rows) rows gs al mo L (sm,lv,b) l).2.1=lv)
 | [],sm,lv,b,_,hI=>⟨rfl,hI,fun h=>⟨h,rfl⟩⟩
 |i::l,sm,lv,b,hr,hI=>by
  obtain ⟨i0,i1⟩:=hr i (by simp)
  obtain ⟨r1,r2,r3⟩:=am0 (b:=b) H hI i0 i1 hL
  obtain ⟨s1,s2,s3⟩:=ZE H hL (l:=l) (b:=(CY (OL rows) rows gs al mo L (sm,lv,b) i).2.2) (fun x hx=>hr x (by simp [hx])) r2
  refine ⟨s1.trans (by rw [r1];rfl),s2,fun h=>?_⟩
  obtain ⟨t1,t2⟩:=s3 h
  obtain ⟨t3,t4⟩:=r3 t1
  exact ⟨t3,t2.trans t4⟩
theorem ZJ {rows:List Rw}{gs:List Ch}{al mo od:List Int}(H:qh rows gs al mo od):∀ {f:Nat}{L:Int}{sm lv:List Int},1≤L→Inv rows gs al sm lv→(∀i∈od,gi lv i≤L-1)→shl (OL rows) rows gs al mo od f L sm lv=FO (PP rows gs al) (tpO gs mo) od f L lv
 |0,_,_,_,_,_,_=>rfl
 | f+1,L,sm,lv,hL,hI,hb=>by
  obtain ⟨s1,s2,s3⟩:=ZE (b:=false) H hL H.ord hI
  rw [shl,FO]
  split
  ·rw [ZJ H (by omega) s2 (fun i hi=>by
    rw [s1]
    have h1:=IA (P:=PP rows gs al) (tp:=tpO gs mo) (L:=L) (H.ord i hi).1 (l:=od) (lv:=lv) (by rw [hI.ll];exact H.ord)
    have h2:=hb i hi
    omega),s1]
  ·rename_i hc
   have hc:(swp (OL rows) rows gs al mo L (sm,lv,false) od).2.2=false:=by simpa using hc
   have e:=(s3 hc).2
   rw [←s1,e,Ld (fun i hi=>by have:=hb i hi;omega)]
theorem rZ {n:Nat}{j:Int}:gi (List.replicate n 0) j=0:=by
 unfold gi
 simp only [List.getD,List.getElem?_replicate]
 split<;>rfl
theorem aAA {rows:List Rw}{gs:List Ch}{al mo od:List Int}(H:qh rows gs al mo od):Inv rows gs al (SM al rows) (List.replicate gs.length 0):=by
 have hz:∀r∈rows,∀m∈r.2,gi (kZ gs (List.replicate gs.length 0)) m=0:=fun r hr m hm=>by
  obtain ⟨m0,m1⟩:=(H.mem r hr).2 m hm
  rw [mM m0 m1,rZ,ab1]
 refine ⟨DI,fun k hk=>?_,List.length_replicate,fun j _=>by rw [rZ];omega,?_⟩
 ·rw [ajN hk]
  have hr:o7 rows (k:Int)∈rows:=F8 (by omega) (by omega)
  unfold smA RZ
  congr 1
  refine List.map_congr_left (fun m hm=>?_)
  obtain ⟨m0,m1⟩:=(H.mem _ hr).2 m hm
  rw [hz _ hr m hm]
  have:=H.al _ (kX m0 (by rw [H.all];exact m1))
  unfold mx
  rw [if_neg (by omega)]
 ·unfold PP yc
  rw [List.all_eq_true]
  intro r hr
  unfold rowB
  rw [Bool.or_eq_true,List.all_eq_true]
  exact .inl (fun m hm=>by rw [hz r hr m hm];rfl)
def QM (rows:List Rw) (gs:List Ch) (al mo od:List Int):List Int:=FO (PP rows gs al) (tpO gs mo) od 80 1 (List.replicate gs.length 0)
theorem CP {rows:List Rw}{gs:List Ch}{al mo od:List Int}(H:qh rows gs al mo od) {i:Int}(h0:0≤i) (h1:i<(gs.length:Int)):0≤tpO gs mo i∧tpO gs mo i≤80∧tpO gs mo i<pI (aW gs i).2.2.2.1 (aW gs i).2.2.2.2.1 (aW gs i).2.2.2.2.2.1:=
 ⟨W9 (H.has i h0 h1) (H.mo _ (kX h0 (by rw [H.mol];exact h1))).1,Xa,ah9 (H.has i h0 h1)⟩
theorem auc {rows:List Rw}{gs:List Ch}{al mo od:List Int}(H:qh rows gs al mo od):shV rows gs al mo od=QM rows gs al mo od:=by
 unfold shV QM
 rw [H.all,ZJ H (by omega) (aAA H) (fun i _=>by rw [rZ];omega),TA,Dn (fun i hi=> .inr ?_)]
 have:=CP H (H.ord i hi).1 (H.ord i hi).2
 omega
end Go.Proofs.YtlihnbimgclogaaGreatDoor
namespace Go.Proofs.YtlihnbimgclogaaGreatDoor
open Go.Sx
section
variable {rows : List Rw} {gs : List Ch} {al mo od : List Int}
theorem aat:(QM rows gs al mo od).length=gs.length:=by
 unfold QM
 rw [aaK,List.length_replicate]
theorem Oi (H:qh rows gs al mo od):CZ (List.replicate gs.length (0:Int)).length od:=by rw [List.length_replicate];exact H.ord
theorem ah3 (H:qh rows gs al mo od) {j:Int}(hj:0≤j):0≤gi (QM rows gs al mo od) j:=by
 have:=Xh (P:=PP rows gs al) (tp:=tpO gs mo) (f:=80) (L:=1) hj (Oi H)
 rw [rZ] at this
 exact this
theorem Il (H:qh rows gs al mo od) {j:Int}(h0:0≤j) (h1:j<(gs.length:Int)):gi (QM rows gs al mo od) j≤tpO gs mo j:=by
 have h2:=aiE (P:=PP rows gs al) (tp:=tpO gs mo) (f:=80) (L:=1) h0 (Oi H)
 rw [rZ] at h2
 have h3:=CP H h0 h1
 unfold QM
 omega
theorem ad8 (H:qh rows gs al mo od) {l1 l2:List Int}{i L:Int}(ho:od=l1++i::l2) (hL:1≤L) (hs:gi (QM rows gs al mo od) i=L-1) (ht:L≤tpO gs mo i):
  ∃cur:List Int,cur.length=gs.length∧PP rows gs al (cur.set i.toNat L)=false∧(∀j,0≤j→0≤gi cur j∧gi cur j≤gi (QM rows gs al mo od) j∧gi cur j≤L)∧∀j∈i::l2,gi cur j≤L-1:=by
 have hi:=H.ord i (by rw [ho];simp)
 have h3:=CP H hi.1 hi.2
 obtain ⟨cur,c1,c2,c3,c4⟩:=Lc (P:=PP rows gs al) (tp:=tpO gs mo) H.nd ho (f:=80) (L0:=1) (Oi H) (fun j _=>by rw [rZ];omega) hL (by omega) hs ht
 refine ⟨cur,by rw [c1,List.length_replicate],c2,fun j hj=>?_,c4⟩
 have h4:=c3 j hj
 rw [rZ] at h4
 exact h4
theorem awm (H:qh rows gs al mo od) {l1 l2 b:List Int}{i L:Int}(ho:od=l1++i::l2) (hL:1≤L) (hs:gi (QM rows gs al mo od) i=L-1) (ht:L≤tpO gs mo i) (hb:L≤gi b i)
  (h1:∀j∈l1,∀v,v≤gi (QM rows gs al mo od) j→v≤L→1≤v→v≤gi b j) (h2:∀j∈l2,∀v,v≤gi (QM rows gs al mo od) j→v≤L-1→1≤v→v≤gi b j) (hn:∀j,0≤j→j<(gs.length:Int)→0≤gi b j):PP rows gs al b=false:=by
 obtain ⟨cur,c1,c2,c3,c4⟩:=ad8 H ho hL hs ht
 have hi:=H.ord i (by rw [ho];simp)
 cases hp:PP rows gs al b with
 |false=>rfl
 | true=>
  rw [←c2]
  symm
  refine aqe H (fun j j0 j1=>?_) hp
  rw [mJ hi.1 (by rw [c1];exact hi.2) j0]
  split
  ·rename_i e;rw [e];omega
  ·rename_i e
   have h3:=c3 j j0
   have h4:=hn j j0 j1
   have hm:=H.cov j j0 j1
   rw [ho,List.mem_append,List.mem_cons] at hm
   refine ⟨h3.1,?_⟩
   rcases hm with hm|hm|hm
   ·have:=h1 j hm (gi cur j) h3.2.1 h3.2.2
    omega
   ·exact absurd hm e
   ·have:=h2 j hm (gi cur j) h3.2.1 (c4 j (by simp [hm]))
    omega
theorem WS (H:qh rows gs al mo od) {b:List Int}(hb:∀j,0≤j→j<(gs.length:Int)→gi b j=tpO gs mo j) (hp:PP rows gs al b=true) {i:Int}(h0:0≤i) (h1:i<(gs.length:Int)):gi (QM rows gs al mo od) i=tpO gs mo i:=by
 have h2:=Il H h0 h1
 by_cases e:gi (QM rows gs al mo od) i=tpO gs mo i
 ·exact e
 ·obtain ⟨l1,l2,ho⟩:=List.append_of_mem (H.cov i h0 h1)
  have h3:=ah3 H h0
  have:=awm (b:=b) H ho (L:=gi (QM rows gs al mo od) i+1) (by omega) (by omega) (by omega) (by rw [hb i h0 h1];omega) (fun j hj v v1 _ _=>by
   have hr:=H.ord j (by rw [ho];simp [hj])
   have:=Il H hr.1 hr.2
   rw [hb j hr.1 hr.2];omega) (fun j hj v v1 _ _=>by
   have hr:=H.ord j (by rw [ho];simp [hj])
   have:=Il H hr.1 hr.2
   rw [hb j hr.1 hr.2];omega) (fun j j0 j1=>by rw [hb j j0 j1];exact (CP H j0 j1).1)
  rw [hp] at this
  cases this
theorem aoS {i k:Int}(hh:kC (aW gs i).2.2.2.1 (aW gs i).2.2.2.2.1 (aW gs i).2.2.2.2.2.1=true) (h0:0≤k) (h1:k<pI (aW gs i).2.2.2.1 (aW gs i).2.2.2.2.1 (aW gs i).2.2.2.2.2.1):xW gs i (uX gs i k)=k:=by
 have h2:=XO hh h0
 have h3:=(PY hh h2 h0 h1).1 (Int.le_refl _)
 have h4:=ah9 (a:=uX gs i k) hh
 have h5:=(PY hh h2 (k:=QN (aW gs i).2.2.2.1 (aW gs i).2.2.2.2.1 (aW gs i).2.2.2.2.2.1 (uX gs i k)) (by omega) h4).2 (Int.le_refl _)
 by_cases e:k<QN (aW gs i).2.2.2.1 (aW gs i).2.2.2.2.1 (aW gs i).2.2.2.2.2.1 (uX gs i k)
 ·have:=ajw hh h0 e
  have h5:uX gs i (QN (aW gs i).2.2.2.1 (aW gs i).2.2.2.2.1 (aW gs i).2.2.2.2.2.1 (uX gs i k))≤uX gs i k:=h5
  omega
 ·unfold xW
  omega
end
theorem ap7 {mi ma st k:Int}(hh:kC mi ma st=true) (_:0≤k) (h1:k<pI mi ma st):BX mi st k≤ma:=by
 obtain ⟨g1,g2,g3,g4,g5⟩:=dV.1 hh
 unfold BX
 split
 ·omega
 ·unfold pI at h1
  rw [if_pos hh] at h1
  have h2:(k-1)≤(ma-mi) / st:=by omega
  have:=(Int.le_ediv_iff_mul_le (a:=k-1) (b:=ma-mi) (c:=st) (by omega)).1 h2
  omega
theorem ajx {mi ma st k:Int}(h0:0≤k) (h1:k<pI mi ma st):Qv mi ma st k=BX mi st k∧amE mi ma st k=0:=by
 unfold Qv amE
 rw [if_neg (by omega),if_neg (by omega)]
 exact ⟨rfl,rfl⟩
end Go.Proofs.YtlihnbimgclogaaGreatDoor
namespace Go.Proofs.YtlihnbimgclogaaGreatDoor
open Go.Sx
section
variable {rows : List Rw} {gs : List Ch} {al mo od lv : List Int}
def lvR (gs:List Ch) (lv:List Int):Prop:=lv.length=gs.length∧∀j,0≤j→j<(gs.length:Int)→0≤gi lv j∧gi lv j<pI (aW gs j).2.2.2.1 (aW gs j).2.2.2.2.1 (aW gs j).2.2.2.2.2.1
theorem ah4 (H:qh rows gs al mo od):lvR gs (QM rows gs al mo od):=⟨aat,fun j h0 h1=>⟨ah3 H h0,by
 have:=Il H h0 h1
 have:=CP H h0 h1
 omega⟩⟩
theorem ap8 (H:qh rows gs al mo od) {j k:Int}(h0:0≤j) (h1:j<(gs.length:Int)) (k0:0≤k) (k1:k<pI (aW gs j).2.2.2.1 (aW gs j).2.2.2.2.1 (aW gs j).2.2.2.2.2.1):(0≤uX gs j k∧uX gs j k≤80)∧aBC gs j k=0∧aBD gs j k=uX gs j k∧xW gs j (uX gs j k)=k:=by
 have hh:=H.has j h0 h1
 obtain ⟨g1,g2,g3,g4,g5⟩:=dV.1 hh
 have h2:=ap7 hh k0 k1
 obtain ⟨e1,e2⟩:=ajx k0 k1
 refine ⟨⟨XO hh k0,?_⟩,e2,e1,aoS hh k0 k1⟩
 unfold uX
 omega
theorem aju (H:qh rows gs al mo od) (R:lvR gs lv) {j:Int}(h0:0≤j) (h1:j<(gs.length:Int)):xW gs j (gi (kZ gs lv) j)=gi lv j∧aBC gs j (gi lv j)=0∧aBD gs j (gi lv j)=gi (kZ gs lv) j∧0≤gi (kZ gs lv) j∧gi (kZ gs lv) j≤80:=by
 obtain ⟨r0,r1⟩:=R.2 j h0 h1
 obtain ⟨a1,a2,a3,a4⟩:=ap8 H h0 h1 r0 r1
 rw [mM h0 h1]
 exact ⟨a4,a2,a3,a1⟩
theorem axy (H:qh rows gs al mo od) (R:lvR gs lv):YH gs (kZ gs lv):=⟨qF,fun a ha=>by
 obtain ⟨k,hk,rfl⟩:=List.mem_iff_getElem.1 ha
 rw [qF] at hk
 have:=aju H R (j:=(k:Int)) (by omega) (by omega)
 rw [nH (by rw [qF];simpa using hk)] at this
 simp only [Int.toNat_natCast] at this
 omega⟩
theorem azg (H:qh rows gs al mo od) {j k:Int}(h0:0≤j) (h1:j<(gs.length:Int)) (k0:0≤k) (k1:k<pI (aW gs j).2.2.2.1 (aW gs j).2.2.2.2.1 (aW gs j).2.2.2.2.2.1):uX gs j k≤gi mo j↔k≤tpO gs mo j:=
 PY (H.has j h0 h1) (H.mo _ (kX h0 (by rw [H.mol];exact h1))).1 k0 k1
def NT (gs:List Ch) (mo:List Int):List Int:=(List.range gs.length).map (fun k:Nat=>tpO gs mo (k:Int))
theorem zn:(NT gs mo).length=gs.length:=by simp [NT]
theorem FQ {j:Int}(h0:0≤j) (h1:j<(gs.length:Int)):gi (NT gs mo) j=tpO gs mo j:=by
 rw [nH (by rw [zn];omega)]
 simp only [NT,List.getElem_map,List.getElem_range]
 rw [Int.toNat_of_nonneg h0]
theorem atO (H:qh rows gs al mo od):lvR gs (NT gs mo):=⟨zn,fun j h0 h1=>by
 rw [FQ h0 h1]
 have:=CP H h0 h1
 exact ⟨this.1,this.2.2⟩⟩
theorem yN {a b:List Int}(hl:a.length=b.length) (h:∀j:Int,0≤j→j<(b.length:Int)→gi a j=gi b j):a=b:=List.ext_getElem hl fun k h1 h2=>by
 have:=h (k:Int) (by omega) (by omega)
 rw [nH (by simpa using h1),nH (by simpa using h2)] at this
 simpa using this
theorem alC (H:qh rows gs al mo od) (hp:yc rows al (kZ gs (NT gs mo))=true):QM rows gs al mo od=NT gs mo:=yN (by rw [aat,zn]) fun j h0 h1=>by
 rw [zn] at h1
 rw [FQ h0 h1]
 exact WS H (b:=NT gs mo) (fun j h0 h1=>FQ h0 h1) hp h0 h1
def g4 (gs:List Ch) (mo b am:List Int) (j:Int):Prop:=(0≤gi b j∧gi b j<pI (aW gs j).2.2.2.1 (aW gs j).2.2.2.2.1 (aW gs j).2.2.2.2.2.1)∧gi am j=uX gs j (gi b j)∧gi am j≤gi mo j
end
section
variable {cs : List Cd} {os : List ByteArray} {ks : List Ko} {gs : List Ch} {bs : List Ba} {al mo od : List Int}
theorem afh (h:rU cs os ks gs bs al mo od=true):xR cs os ks gs bs al mo od=kZ gs (QM (jB cs gs cs.length) gs al mo od):=by
 unfold xR
 rw [if_pos h,auc (ZK h)]
theorem afi (h:rU cs os ks gs bs al mo od=true):shE cs os ks gs bs al mo od=0:=by unfold shE;rw [if_pos h]
theorem avo (h:rU cs os ks gs bs al mo od=true):gQ cs os ks gs bs=jB cs gs cs.length∧FH cs os ks gs bs=0∧(jB cs gs cs.length).length≤48:=by
 have hv:=(iO.1 h).1
 have:=vK (cs:=cs) (gs:=gs) (k:=cs.length)
 have:=(fP.1 hv).1
 unfold gQ FH
 rw [if_pos hv,if_pos hv]
 exact ⟨rfl,rfl,by omega⟩
end
end Go.Proofs.YtlihnbimgclogaaGreatDoor
namespace Go.Proofs.YtlihnbimgclogaaGreatDoor
open Go.Sx
abbrev GI:Ty:=.pair (.int .i64) (.int .i64)
abbrev Ra:=Int×Int
def lU (l:List Ra) (n:Int):Ra:=l.getD n.toNat (0,0)
theorem Xr {l:List Ra}{n:Int}(h:n.toNat<l.length):lU l n=l[n.toNat]:=vY h
theorem aiO {l:List Int}{j:Int}(h:l.length≤j.toNat):gi l j=0:=by
 unfold gi
 rw [List.getD_eq_getElem?_getD,List.getElem?_eq_none h]
 rfl
theorem awk {l:List Int}{a:Int}(h:a∈l):∃j:Int,(0≤j∧j<(l.length:Int))∧gi l j=a:=by
 obtain ⟨k,hk,e⟩:=List.mem_iff_getElem.1 h
 exact ⟨k,by omega,by rw [nH (by simpa using hk)];simpa using e⟩
theorem neN {a b:Nat}:((a:Int) !=(b:Int))=!decide (a=b):=by
 by_cases h:a=b
 ·simp [h]
 ·have h':(a:Int)≠(b:Int):=by omega
  simp [h,h']
def Ux (t:Int) (x:Le):Bool:=decide (x.2.2.2.1≤t)&&decide (aem x>t)
def kpA (o:List Int) (x:Le):List Int:=o.set x.2.1.toNat (mx (gi o x.2.1) x.2.2.1)
def XQ (n:Nat) (l:List Le) (t:Int):List Int:=(l.filter (Ux t)).foldl kpA (List.replicate n 0)
def below (n:Int) (l:List Le):Bool:=l.all (fun x=>decide (x.2.1<n))
def Kw (l:List Le) (n t:Int):Bool:=(qx l&&(inB n 0 16&&inB t 0 1100000))&&below n l
def oL (l:List Le) (n t:Int):List Int:=if Kw l n t=true then XQ n.toNat l t else []
def Uw (l:List Le) (n t:Int):Int:=if Kw l n t=true then 0 else 1
theorem aoT {o:List Int}{x:Le}:(kpA o x).length=o.length:=by simp [kpA]
theorem aav:∀ {l:List Le}{o:List Int},(l.foldl kpA o).length=o.length
 | [],_=>rfl
 |x::l,o=>by rw [List.foldl_cons,aav,aoT]
theorem BZ {n:Nat}{l:List Le}{t:Int}:(XQ n l t).length=n:=by rw [XQ,aav,List.length_replicate]
theorem aeb {l:List Le}(h:qx l=true):l.Pairwise (fun a b=>a.1<b.1∧a.2.2.2.1≤b.2.2.2.1):=by
 unfold qx at h
 rw [Bool.and_eq_true] at h
 have hs:∀k:Nat,(hk:k+1<l.length)→l[k].1<l[k+1].1∧l[k].2.2.2.1≤l[k+1].2.2.2.1:=fun k hk=>by
  have:=fQ.1 h.2 (k+1) (by omega)
  unfold jJ TT at this
  rw [Qa (n:=((k+1:Nat):Int)) (by simpa using hk),Qa (n:=((k+1:Nat):Int)-1) (by omega)] at this
  simp only [Bool.and_eq_true,Bool.or_eq_true,decide_eq_true_eq] at this
  obtain ⟨_,h1|h1⟩:=this
  ·omega
  ·have e:(((k+1:Nat):Int)-1).toNat=k:=by omega
   simp only [e,Int.toNat_natCast] at h1
   omega
 rw [List.pairwise_iff_getElem]
 intro i j hi hj hij
 induction j with
 |zero=>omega
 | succ j ih=>
  have h1:=hs j (by omega)
  by_cases e:i=j
  ·subst e;exact h1
  ·have h2:=ih (by omega) (by omega)
   omega
def Af (c:Ch):Int:=c.2.2.2.2.2.2.1
def SK (c:Ch) (r:Ra):Bool:=J8 c.2.2.1 c.2.2.2.1 c.2.2.2.2.1 c.2.2.2.2.2.1 (Af c) r.1 r.2
def Vu (x:Dm):Bool:=inB x.2.1 0 1000000000&&(inB x.2.2.1 0 1000000&&inB x.2.2.2 1 9)
def Gu (cs:List Cd) (os:List ByteArray) (ks:List Ko) (gs:List Ch) (bs:List Ba) (l:List Le) (rs:List Ra) (d:List Dm) (t n:Int):Bool:=
 (fM cs os ks gs bs&&qx l)&&((decide (rs.length=gs.length)&&(decide (d.length=gs.length)&&(inB t 0 1000000&&inB n 1 999900)))&&(below gs.length l&&J6 gs.length (fun j=>SK (aW gs j) (lU rs j)&&Vu (lV d j))))
def qc (n:Nat) (f:Int→Int):List Int:=(List.range n).map (fun k:Nat=>f (k:Int))
theorem awD {x a b:Int}:(decide (x<a) ||decide (x>b))=!inB x a b:=by
 unfold inB
 by_cases h1:x<a
 ·rw [decide_eq_true h1,decide_eq_false (p:=x≥a) (by omega)];rfl
 ·rw [decide_eq_false h1,decide_eq_true (p:=x≥a) (by omega)]
  by_cases h2:x>b
  ·rw [decide_eq_true h2,decide_eq_false (p:=x≤b) (by omega)];rfl
  ·rw [decide_eq_false h2,decide_eq_true (p:=x≤b) (by omega)];rfl
theorem awC {x a b:Int}{y:Bool}:(decide (x<a) ||(decide (x>b) ||y))=(!inB x a b ||y):=by rw [←Bool.or_assoc,awD]
theorem vbE {c:Ch}{r:Ra}{x:Dm}:((!J8 c.2.2.1 c.2.2.2.1 c.2.2.2.2.1 c.2.2.2.2.2.1 c.2.2.2.2.2.2.1 r.1 r.2) ||(decide (x.2.1<0) ||(decide (x.2.1>1000000000) ||(decide (x.2.2.1<0) ||(decide (x.2.2.1>1000000) ||(decide (x.2.2.2<1) ||decide (x.2.2.2>9)))))))=!(SK c r&&Vu x):=by
 unfold SK Af Vu
 rw [awC,awC,awD,Bool.not_and,Bool.not_and,Bool.not_and]
def apa (cs:List Cd) (os:List ByteArray) (ks:List Ko) (gs:List Ch) (bs:List Ba) (l:List Le) (rs:List Ra) (d:List Dm):Bool:=decide (cs.length≤40∧os.length≤40∧ks.length≤40∧gs.length≤40∧bs.length≤40)&&(decide ((l.length:Int)≤100)&&(decide ((rs.length:Int)≤40)&&decide ((d.length:Int)≤40)))
theorem dN {n:Nat}{f:Int→Int}:(qc n f).length=n:=by simp [qc]
theorem nU {n:Nat}{f:Int→Int}:qc (n+1) f=qc n f++[f (n:Int)]:=by simp [qc,List.range_succ]
theorem kT {n:Nat}{f:Int→Int}{j:Int}(h0:0≤j) (h1:j<(n:Int)):gi (qc n f) j=f j:=by
 rw [nH (by rw [dN];omega)]
 simp only [qc,List.getElem_map,List.getElem_range]
 rw [Int.toNat_of_nonneg h0]
theorem Ii {n:Nat}{f:Int→Int}{x:Int}(h:x∈qc n f):∃j,(0≤j∧j<(n:Int))∧f j=x:=by
 obtain ⟨k,hk,e⟩:=List.mem_map.1 h
 exact ⟨k,⟨by omega,by have:=List.mem_range.1 hk;omega⟩,e⟩
def jC (gs:List Ch):List Int:=qc gs.length (fun k=>Af (aW gs k))
def lS (gs:List Ch) (d:List Dm):List Int:=qc gs.length (fun k=>if (lV d k).1=true then (aW gs k).2.2.2.2.1 else 0)
def XP (gs:List Ch) (l:List Le) (t:Int):List Int:=qc gs.length (fun k=>mx (Af (aW gs k)) (gi (XQ gs.length l t) k))
def qQ (cs:List Cd) (os:List ByteArray) (ks:List Ko) (gs:List Ch) (bs:List Ba) (d:List Dm) (t:Int):List Int:=xR cs os ks gs bs (jC gs) (lS gs d) (jF d t)
def S9 (cs:List Cd) (os:List ByteArray) (ks:List Ko) (gs:List Ch) (bs:List Ba) (l:List Le) (d:List Dm) (t:Int):List Int:=xR cs os ks gs bs (XP gs l t) (qQ cs os ks gs bs d t) (jF d t)
theorem aaV {l:List Ra}{i j:Int}{v:Ra}(h0:0≤i) (h1:i<(l.length:Int)) (hj:0≤j):lU (l.set i.toNat v) j=if j=i then v else lU l j:=by
 unfold lU
 rw [List.getD_eq_getElem?_getD,List.getD_eq_getElem?_getD,List.getElem?_set]
 by_cases e:j=i
 ·subst e
  rw [if_pos rfl,if_pos rfl,if_pos (by omega)]
  rfl
 ·rw [if_neg (by omega),if_neg e]
theorem ao3 {a b:List Ra}(hl:a.length=b.length) (h:∀j:Int,0≤j→j<(b.length:Int)→lU a j=lU b j):a=b:=List.ext_getElem hl fun k h1 h2=>by
 have:=h (k:Int) (by omega) (by omega)
 rw [Xr (by simpa using h1),Xr (by simpa using h2)] at this
 simpa using this
def Om (cs:List Cd) (os:List ByteArray) (ks:List Ko) (gs:List Ch) (bs:List Ba) (l:List Le) (d:List Dm) (t:Int) (od:List Int):List Int:=xR cs os ks gs bs (XP gs l t) (xR cs os ks gs bs (jC gs) (lS gs d) od) od
def nwO (a t:Int):Option Le→Bool
 |none=>true
 |some x=>x.2.2.1 !=a ||decide (x.2.2.2.1≤t-6)
def nwB (gs:List Ch) (l:List Le) (t i a:Int):Bool:=!decide (a≤Af (aW gs i))&&nwO a t (l.reverse.find? (fun x=>x.2.1==i))
def nxA (c:Ch) (r:Ra) (w:Int):Int:=nA c.2.2.1 c.2.2.2.1 c.2.2.2.2.1 c.2.2.2.2.2.1 (Af c) r.1 r.2 w
def nxS (c:Ch) (r:Ra) (w:Int):Int:=nS c.2.2.1 c.2.2.2.1 c.2.2.2.2.1 c.2.2.2.2.2.1 (Af c) r.1 r.2 w
def QR (gs:List Ch) (rs:List Ra) (w:List Int) (k:Nat):List Int:=qc k (fun k=>nxA (aW gs k) (lU rs k) (gi w k))
def dcR (gs:List Ch) (rs:List Ra) (w:List Int) (k:Nat):List Ra:=(List.range k).map (fun k:Nat=>(nxA (aW gs k) (lU rs k) (gi w k),nxS (aW gs k) (lU rs k) (gi w k)))
def dcL (gs:List Ch) (l:List Le) (t n:Int) (am:List Int):Nat→List Le
 |0=>[]
 |k+1=>dcL gs l t n am k++(if nwB gs l t k (gi am k)=true then [(n+(dcL gs l t n am k).length,(k:Int),gi am k,t,12)] else [])
theorem Ql {gs:List Ch}{rs:List Ra}{w:List Int}{k:Nat}:(dcR gs rs w k).length=k:=by simp [dcR]
theorem axh {gs:List Ch}{rs:List Ra}{w:List Int}{k:Nat}{j:Int}(h0:0≤j) (h1:j<(k:Int)):lU (dcR gs rs w k) j=(nxA (aW gs j) (lU rs j) (gi w j),nxS (aW gs j) (lU rs j) (gi w j)):=by
 rw [Xr (by rw [Ql];omega)]
 simp only [dcR,List.getElem_map,List.getElem_range]
 rw [Int.toNat_of_nonneg h0]
def okC (c:Ch) (r:Ra) (w:Int):Bool:=okB c.2.2.1 c.2.2.2.1 c.2.2.2.2.1 c.2.2.2.2.2.1 (Af c) r.1 r.2 w
def dcK (gs:List Ch) (rs:List Ra) (w:List Int):Prop:=∀j,0≤j→j<(gs.length:Int)→okC (aW gs j) (lU rs j) (gi w j)=true
theorem xJ {gs:List Ch}{l:List Le}{t n:Int}{am:List Int}:∀ {k:Nat},(dcL gs l t n am k).length≤k
 |0=>by simp [dcL]
 |k+1=>by
  have:=xJ (gs:=gs) (l:=l) (t:=t) (n:=n) (am:=am) (k:=k)
  rw [dcL,List.length_append]
  split
  ·simp only [List.length_cons,List.length_nil];omega
  ·simp only [List.length_nil];omega
section
variable (cs : List Cd) (os : List ByteArray) (ks : List Ko) (gs : List Ch) (bs : List Ba) (l : List Le) (rs : List Ra) (d : List Dm) (t n : Int)
def uU:List Int:=if Gu cs os ks gs bs l rs d t n=true then QR gs rs (S9 cs os ks gs bs l d t) gs.length else []
def deR:List Ra:=if Gu cs os ks gs bs l rs d t n=true then dcR gs rs (S9 cs os ks gs bs l d t) gs.length else []
def qO:List Le:=if Gu cs os ks gs bs l rs d t n=true then dcL gs l t n (QR gs rs (S9 cs os ks gs bs l d t) gs.length) gs.length else []
def deE:Int:=if Gu cs os ks gs bs l rs d t n=true then 0 else 1
end
section
variable {cs : List Cd} {os : List ByteArray} {ks : List Ko} {gs : List Ch} {bs : List Ba} {l : List Le} {rs : List Ra} {d : List Dm} {t n : Int}
structure Vd (cs:List Cd) (os:List ByteArray) (ks:List Ko) (gs:List Ch) (bs:List Ba) (l:List Le) (rs:List Ra) (d:List Dm) (t n:Int):Prop where
 site:fM cs os ks gs bs=true
 les:qx l=true
 rl:rs.length=gs.length
 dl:d.length=gs.length
 gl:gs.length≤16
 tb:0≤t∧t≤1000000
 nb:1≤n∧n≤999900
 co:below gs.length l=true
 ra:∀j:Int,0≤j→j<(gs.length:Int)→SK (aW gs j) (lU rs j)=true
 dm:∀j:Int,0≤j→j<(gs.length:Int)→Vu (lV d j)=true
 ch:∀j:Int,0≤j→j<(gs.length:Int)→chW (aW gs j)=true
theorem aqn (h:Gu cs os ks gs bs l rs d t n=true):Vd cs os ks gs bs l rs d t n:=by
 unfold Gu at h
 simp only [Bool.and_eq_true,decide_eq_true_eq,eU] at h
 obtain ⟨⟨h1,h2⟩,⟨h3,h4,h5,h6⟩,h7,h8⟩:=h
 have hj:∀j:Int,0≤j→j<(gs.length:Int)→SK (aW gs j) (lU rs j)=true∧Vu (lV d j)=true:=fun j h0 hj=>by
  have:=fQ.1 h8 j.toNat (by omega)
  rw [Int.toNat_of_nonneg h0,Bool.and_eq_true] at this
  exact this
 exact ⟨h1,h2,h3,h4,(fP.1 h1).1.2.2.2.2.1,h5,h6,h7,fun j h0 h1=>(hj j h0 h1).1,fun j h0 h1=>(hj j h0 h1).2,fun j h0 hj=>by
  have:=sK h1 h0 hj
  unfold Gi at this
  simp only [Bool.and_eq_true] at this
  exact this.2.2⟩
theorem Dw {c:Ch}(h:chW c=true):(1≤c.2.2.1∧c.2.2.1≤7)∧(1≤c.2.2.2.1∧c.2.2.2.1≤c.2.2.2.2.1)∧c.2.2.2.2.1≤80∧(1≤c.2.2.2.2.2.1∧c.2.2.2.2.2.1≤80)∧0≤Af c∧Af c≤c.2.2.2.2.1:=by
 unfold chW at h
 unfold Af
 simp only [Bool.and_eq_true,Bool.or_eq_true,eU,beq_iff_eq] at h
 omega
theorem aqa (hv:qx l=true) {m:Nat}:∀a∈XQ m l t,0≤a∧a≤80:=by
 have key:∀(l:List Le) (o:List Int),(∀x∈l,leV x=true)→(∀a∈o,0≤a∧a≤80)→∀a∈l.foldl kpA o,0≤a∧a≤80:=fun l=>by
  induction l with
  |nil=>exact fun o _ h=>h
  | cons x l ih=>
   intro o hl ho
   rw [List.foldl_cons]
   refine ih _ (fun y hy=>hl y (by simp [hy])) fun a ha=>?_
   have hx:=aau.1 (hl x (by simp))
   rcases List.mem_or_eq_of_mem_set ha with ha|rfl
   ·exact ho a ha
   ·have:0≤gi o x.2.1∧gi o x.2.1≤80:=by
     by_cases h:x.2.1.toNat<o.length
     ·rw [nH h];exact ho _ (List.getElem_mem _)
     ·rw [aiO (by omega)];omega
    unfold mx
    split<;>omega
 refine key _ _ (fun x hx=>(zO hv).2 x (List.mem_filter.1 hx).1) fun a ha=>?_
 rw [List.eq_of_mem_replicate ha]
 omega
theorem aaz (hd:d.length=gs.length):mG (jF d t) gs.length=true:=by
 unfold mG
 rw [SS,hd,decide_eq_true rfl,Bool.true_and,Bool.and_eq_true,List.all_eq_true]
 refine ⟨fun x hx=>zF.2 (by have:=agD.1 hx;rw [hd] at this;exact this),Ht.2 fun j hj hm=>?_⟩
 obtain ⟨k,hk,e⟩:=List.mem_iff_getElem.1 hm
 rw [List.length_take] at hk
 rw [List.getElem_take] at e
 have:=(List.pairwise_iff_getElem.1 (Wi (d:=d) (t:=t))) k j (by omega) hj (by omega)
 exact this e
theorem arw {l:List Int}{a b:Int}(hz:a≤0∧0≤b) (h:∀x∈l,a≤x∧x≤b) {j:Int}:a≤gi l j∧gi l j≤b:=by
 by_cases hj:j.toNat<l.length
 ·rw [nH hj];exact h _ (List.getElem_mem _)
 ·rw [aiO (by omega)];exact hz
structure Si (cs:List Cd) (os:List ByteArray) (ks:List Ko) (gs:List Ch) (bs:List Ba) (d:List Dm):Prop where
 site:fM cs os ks gs bs=true
 dl:d.length=gs.length
theorem Si.ch (h:Si cs os ks gs bs d) {j:Int}(h0:0≤j) (hj:j<(gs.length:Int)):chW (aW gs j)=true:=by
 have:=sK h.site h0 hj
 unfold Gi at this
 simp only [Bool.and_eq_true] at this
 exact this.2.2
theorem Vd.si (h:Vd cs os ks gs bs l rs d t n):Si cs os ks gs bs d:=⟨h.site,h.dl⟩
theorem ajs (h:Si cs os ks gs bs d):∀a∈jC gs,0≤a∧a≤80:=fun a ha=>by
 obtain ⟨j,⟨h0,h1⟩,rfl⟩:=Ii ha
 have:=Dw (h.ch h0 h1)
 omega
theorem asR (h:Si cs os ks gs bs d):∀a∈lS gs d,0≤a∧a≤80:=fun a ha=>by
 obtain ⟨j,⟨h0,h1⟩,rfl⟩:=Ii ha
 have:=Dw (h.ch h0 h1)
 split<;>omega
theorem axz (h:Vd cs os ks gs bs l rs d t n):∀a∈XP gs l t,0≤a∧a≤80:=fun a ha=>by
 obtain ⟨j,⟨h0,h1⟩,rfl⟩:=Ii ha
 have:=Dw (h.ch j h0 h1)
 have:=arw (j:=j) ⟨Int.le_refl 0,by decide⟩ (aqa h.les (m:=gs.length) (t:=t))
 unfold mx
 split<;>omega
theorem VL {al mo od:List Int}(hk:rU cs os ks gs bs al mo od=true):(xR cs os ks gs bs al mo od).length=gs.length∧∀j,0≤j→j<(gs.length:Int)→(0≤gi (xR cs os ks gs bs al mo od) j∧gi (xR cs os ks gs bs al mo od) j≤80)∧gi (xR cs os ks gs bs al mo od) j≤gi mo j:=by
 have H:=ZK hk
 rw [afh hk]
 refine ⟨qF,fun j h0 h1=>?_⟩
 obtain ⟨_,_,_,e4,e5⟩:=aju H (ah4 H) h0 h1
 have h3:=(azg H h0 h1 ((ah4 H).2 j h0 h1).1 ((ah4 H).2 j h0 h1).2).2 (Il H h0 h1)
 rw [mM h0 h1] at e4 e5⊢
 exact ⟨⟨e4,e5⟩,h3⟩
theorem ZL {al mo od:List Int}(hk:rU cs os ks gs bs al mo od=true):(xR cs os ks gs bs al mo od).length=gs.length∧∀a∈xR cs os ks gs bs al mo od,0≤a∧a≤80:=by
 obtain ⟨h1,h2⟩:=VL hk
 refine ⟨h1,fun a ha=>?_⟩
 obtain ⟨j,hj,rfl⟩:=awk ha
 rw [h1] at hj
 exact (h2 j hj.1 hj.2).1
theorem DL (h:Si cs os ks gs bs d):rU cs os ks gs bs (jC gs) (lS gs d) (jF d t)=true:=
 iO.2 ⟨h.site,dN,dN,List.all_eq_true.2 fun a ha=>oJ.2 (ajs h a ha),List.all_eq_true.2 fun a ha=>oJ.2 (asR h a ha),aaz h.dl⟩
theorem ae4 (h:Si cs os ks gs bs d):(qQ cs os ks gs bs d t).length=gs.length∧∀a∈qQ cs os ks gs bs d t,0≤a∧a≤80:=by
 exact ZL (DL (t:=t) h)
theorem ahz (h:Vd cs os ks gs bs l rs d t n):rU cs os ks gs bs (XP gs l t) (qQ cs os ks gs bs d t) (jF d t)=true:=
 iO.2 ⟨h.site,dN,(ae4 h.si).1,List.all_eq_true.2 fun a ha=>oJ.2 (axz h a ha),List.all_eq_true.2 fun a ha=>oJ.2 ((ae4 h.si).2 a ha),aaz h.dl⟩
theorem aqM (h:Vd cs os ks gs bs l rs d t n):(S9 cs os ks gs bs l d t).length=gs.length∧∀a∈S9 cs os ks gs bs l d t,0≤a∧a≤80:=by
 exact ZL (ahz h)
theorem aAb (h:Vd cs os ks gs bs l rs d t n) {j:Int}:0≤gi (S9 cs os ks gs bs l d t) j∧gi (S9 cs os ks gs bs l d t) j≤80:=arw ⟨Int.le_refl 0,by decide⟩ (aqM h).2
theorem ajl (h:Vd cs os ks gs bs l rs d t n):dcK gs rs (S9 cs os ks gs bs l d t):=fun j j0 j1=>by
 have hr:=h.ra j j0 j1
 have hb:=aAb h (j:=j)
 unfold SK at hr
 unfold okC okB
 rw [hr,decide_eq_true hb.1,decide_eq_true hb.2]
 rfl
theorem ap9 (h:Vd cs os ks gs bs l rs d t n):Kw l gs.length t=true:=by
 have:=h.gl
 have:=h.tb
 unfold Kw
 rw [h.les,eU.2 ⟨by omega,by omega⟩,eU.2 ⟨by omega,by omega⟩,h.co]
 rfl
theorem ayV (h:Vd cs os ks gs bs l rs d t n):xP d t∧d.length≤19:=by
 refine ⟨⟨fun x hx=>?_,by have:=h.tb;omega,by have:=h.tb;omega⟩,by have:=h.gl;have:=h.dl;omega⟩
 obtain ⟨k,hk,rfl⟩:=List.mem_iff_getElem.1 hx
 have:=h.dm k (by omega) (by rw [←h.dl];omega)
 unfold Vu lV at this
 rw [vY (by simpa using hk)] at this
 simp only [Bool.and_eq_true,eU,Int.toNat_natCast] at this
 omega
end
end Go.Proofs.YtlihnbimgclogaaGreatDoor
namespace Go.Proofs.YtlihnbimgclogaaGreatDoor
open Go.Sx
def acw:List LV→T LV
 | [.agg [.xl (.pair .str (.pair (.int .i64) (.pair (.int .i64) (.pair (.int .i64) (.pair (.pair (.int .i64) (.int .i64)) (.pair (.int .i64) (.pair (.int .i64) (.pair (.int .i64) (.pair (.int .i64) (.int .i64)))))))))) cs,.xl (.str) os,.xl (.pair .str (.pair (.int .i64) (.pair (.int .i64) (.int .i64)))) ks,.xl (.pair .str (.pair (.int .i64) (.pair (.int .i64) (.pair (.int .i64) (.pair (.int .i64) (.pair (.int .i64) (.pair (.int .i64) (.int .i64)))))))) gs,.xl (.pair .str (.int .i64)) bs],.xl (.pair (.int .i64) (.pair (.int .i64) (.pair (.int .i64) (.pair (.int .i64) (.int .i64))))) l,.xl (.pair (.int .i64) (.int .i64)) rs,.xl (.pair .bool (.pair (.int .i64) (.pair (.int .i64) (.int .i64)))) d]=> .ok (.v (.bool (apa cs os ks gs bs l rs d)))
 |_=> .no
noncomputable def Yb:List LV→T LV:=gJ Tryz.prog Tryz.f12.params.toList acw
noncomputable def ai2:Specs:=bf [(34,X6)]
theorem awO:∀g S,ai2 g=some S→Valid Tryz.prog aS g S:=aT (l:=[(34,X6)]) ⟨as9,trivial⟩
theorem an7 (cs:List Cd) (os:List ByteArray) (ks:List Ko) (gs:List Ch) (bs:List Ba) (l:List Le) (rs:List Ra) (d:List Dm):bT Tryz.prog aS (ai2) dY aC Tryz.f12 [.agg [.xl dU cs,.xl .str os,.xl dW ks,.xl dM gs,.xl dX bs],.xl nC l,.xl GI rs,.xl pU d]=.ok (.v (.bool ((decide (List.length cs≤40∧List.length os≤40∧List.length ks≤40∧List.length gs≤40∧List.length bs≤40))&&((decide ((List.length l:Int)≤100))&&((decide ((List.length rs:Int)≤40))&&(decide ((List.length d:Int)≤40))))))):=by kernel_rfl
theorem ate:Valid Tryz.prog aS 12 Yb:=aH Tryz.func12 rfl awO aF (aY (by kernel_rfl)) (fun args lv h=>by
 unfold acw at h
 split at h
 ·simp only [canL,canX]
  rw [an7]
  exact h
 ·cases h)
structure lJ where
 m:List Le
 G6:List Ra
 d:List Dm
 r:Bool
 n:Int
 i:Int
 ah:List Cd
 aA:List ByteArray
 aj:List Ko
 ai:List Ch
 aJ:List Ba
def aDF (s:lJ):List LV:=[.xl nC s.m,.xl GI s.G6,.xl pU s.d,.own 0 0,.v (.bool s.r),.v (.int .i64 s.n),.v (.int .i64 s.i)]
def aCE (s:lJ):List aU:=[⟨[.xl dU s.ah,.xl .str s.aA,.xl dW s.aj,.xl dM s.ai,.xl dX s.aJ],28,.cl,false⟩]
noncomputable def BH:Code:=((aB (Tryz.f22.body.getD .skip))[0]?).getD .skip
def Zu (s:lJ):T (Rd lJ):=
 .br (decide (s.i<(List.length s.m:Int))) (.req (0≤s.i∧s.i<(List.length s.m:Int)) (.br (decide ((iH s.m s.i).2.1≥s.n)) (.ok (.stop (.ret) {s with r:=false})) (.ok (.next {s with i:=(IntKind.i64.wrap (s.i+1))})))) (.ok (.stop (.exit 0) s))
abbrev ash (s:lJ):=(Zu s).rd s
def JP (s:lJ) (j:Int):Bool:=decide ((iH s.m j).2.1<s.n)
def adz (s:lJ):Prop:=s.i=0∧0≤(List.length s.m:Int)∧(List.length s.m:Int)≤1000∧True
def Ns (s:lJ):Prop:=0≤s.i∧s.i≤(List.length s.m:Int)∧(List.length s.m:Int)≤1000∧(True)∧∀j:Nat,(j:Int)<s.i→JP s j=true
def Pq (s:lJ):Nat:=((List.length s.m:Int)-s.i).toNat
def akE (x:Ex) (_ s':lJ):Prop:=(x=.exit 0∧∀j:Nat,(j:Int)<(List.length s'.m:Int)→JP s' j=true)∨(x=.ret∧s'.r=false∧∃j:Nat,(j:Int)<(List.length s'.m:Int)∧JP s' j=false)
theorem aBl:∀s,adz s→Ns s:=by
 intro s h
 obtain ⟨h0,h1,h2,h3⟩:=h
 exact ⟨by omega,by omega,h2,h3,fun j hj=>by omega⟩
theorem aw5 (s:lJ) (hI:Ns s):bJ (fun s'=>Ns s'∧Pq s'<Pq s) (fun x s'=>akE x s s') (ash s):=by
 unfold ash Zu
 dsimp only [T.rd,T.rl]
 obtain ⟨h0,h1,h2,h3,h4⟩:=hI
 refine au (fun c1=>au (fun c2=>?_) (fun c2=>?_)) (fun c1=>?_)
 ·have c1:s.i<(List.length s.m:Int):=by simpa using c1
  refine .inr ⟨rfl,rfl,s.i.toNat,by simp only;omega,?_⟩
  rw [Int.toNat_of_nonneg (by omega)]
  have hg:JP s s.i=false:=by unfold JP;(simp only [decide_eq_true_eq,decide_eq_false_iff_not] at c2⊢;omega)
  exact hg
 ·have c1:s.i<(List.length s.m:Int):=by simpa using c1
  have hg:JP s s.i=true:=by unfold JP;(simp only [decide_eq_true_eq,decide_eq_false_iff_not] at c2⊢;omega)
  rw [aK (x:=s.i+1) (by omega) (by omega)]
  refine ⟨⟨by simp only;omega,by simp only;omega,h2,h3,fun j hj=>?_⟩,by simp only [Pq];omega⟩
  by_cases hji:(j:Int)<s.i
  ·exact h4 j hji
  ·have:(j:Int)=s.i:=by simp only at hj;omega
   rw [this];exact hg
 ·have c1:(List.length s.m:Int)≤s.i:=by simpa using c1
  exact .inl ⟨rfl,fun j hj=>h4 j (by omega)⟩
def Ff:bK lJ:=⟨0,119,[1,2,3,6,12,13,14],[],aDF,aCE,fun v b=>⟨aQ nC (v.getD 0 .junk),aQ GI (v.getD 1 .junk),aQ pU (v.getD 2 .junk),uT (v.getD 4 .junk),gI (v.getD 5 .junk),gI (v.getD 6 .junk),aQ dU (aX (aO b 0) 0),aQ .str (aX (aO b 0) 1),aQ dW (aX (aO b 0) 2),aQ dM (aX (aO b 0) 3),aQ dX (aX (aO b 0) 4)⟩,Zu,fun s r=> {r with m:=s.m,G6:=s.G6,d:=s.d,n:=s.n,ah:=s.ah,aA:=s.aA,aj:=s.aj,ai:=s.ai,aJ:=s.aJ},fun s=>s,fun _ s=>s,[.ret,.exit 0],adz,Ns,Pq⟩
abbrev wW:=Ff.run
abbrev abH:=Ff.jG
abbrev ayu:=Ff.q
theorem ava (s:lJ) (hI:Ns s):(Zu s).all (fun _=>True):=by
 refine ⟨fun c1=>⟨?_,fun _=>trivial,fun _=>trivial⟩,fun _=>trivial⟩
 ·(obtain ⟨h0,h1,h2,h3,h4⟩:=hI;simp at c1;omega)
noncomputable def P8:Specs:=bf [(49,X3),(50,X9),(51,Yd)]
theorem Xj:∀g S,P8 g=some S→Valid Tryz.prog aS g S:=aT (l:=[(49,X3),(50,X9),(51,Yd)]) ⟨as6,atc,atg,trivial⟩
theorem ahn:Ff.Ok:=⟨fun s=>by kernel_rfl,fun s=>by kernel_rfl,fun s=>rfl,fun s t r=>rfl,fun s=>rfl,fun s=>by kernel_rfl⟩
theorem agj:Ff.Pf (akE):=⟨aBl,fun _ _=>rfl,aw5,ava⟩
theorem amw:bn Tryz.prog aS (AN 0) (.loop BH) Ff.lp:=bK.snd ahn agj (aP (Γ:=P8) (K:=dY) (L:=aC) Xj aF BH (fun b hb=>by rw [show aB BH=[] by kernel_rfl] at hb;cases hb)) (fun s=>by kernel_rfl)
theorem apN (s:lJ) (hE:adz s):∃s',Ns s'∧akE (abH s) s' (wW s):=bK.fin ahn agj s hE
structure oW where
 rs:List Ra
 d:List Dm
 r:Bool
 n:Int
 i:Int
 ah:List Cd
 aA:List ByteArray
 aj:List Ko
 ai:List Ch
 aJ:List Ba
def aDE (s:oW):List LV:=[.xl GI s.rs,.xl pU s.d,.own 0 0,.v (.bool s.r),.v (.int .i64 s.n),.v (.int .i64 s.i)]
def aCD (s:oW):List aU:=[⟨[.xl dU s.ah,.xl .str s.aA,.xl dW s.aj,.xl dM s.ai,.xl dX s.aJ],28,.cl,false⟩]
noncomputable def BG:Code:=((aB (Tryz.f22.body.getD .skip))[1]?).getD .skip
def Zt (s:oW):T (Rd oW):=
 .br (decide (s.i<s.n)) (.req (0≤s.i∧s.i<(List.length s.d:Int)) (.req (0≤s.i∧s.i<(List.length s.ai:Int)) (.req (0≤s.i∧s.i<(List.length s.rs:Int)) (.br ((!(J8 (aW s.ai s.i).2.2.1 (aW s.ai s.i).2.2.2.1 (aW s.ai s.i).2.2.2.2.1 (aW s.ai s.i).2.2.2.2.2.1 (aW s.ai s.i).2.2.2.2.2.2.1 (lU s.rs s.i).1 (lU s.rs s.i).2)) ||((decide ((lV s.d s.i).2.1<0)) ||((decide ((lV s.d s.i).2.1>1000000000)) ||((decide ((lV s.d s.i).2.2.1<0)) ||((decide ((lV s.d s.i).2.2.1>1000000)) ||((decide ((lV s.d s.i).2.2.2<1)) ||(decide ((lV s.d s.i).2.2.2>9)))))))) (.ok (.stop (.ret) {s with r:=false})) (.ok (.next {s with i:=(IntKind.i64.wrap (s.i+1))})))))) (.ok (.stop (.exit 2) s))
abbrev asf (s:oW):=(Zt s).rd s
def JO (s:oW) (j:Int):Bool:=SK (aW s.ai j) (lU s.rs j)&&Vu (lV s.d j)
def ady (s:oW):Prop:=s.i=0∧0≤s.n∧s.n≤1000∧s.n=(s.ai.length:Int)∧s.rs.length=s.ai.length∧s.d.length=s.ai.length
def Nr (s:oW):Prop:=0≤s.i∧s.i≤s.n∧s.n≤1000∧(s.n=(s.ai.length:Int)∧s.rs.length=s.ai.length∧s.d.length=s.ai.length)∧∀j:Nat,(j:Int)<s.i→JO s j=true
def Po (s:oW):Nat:=(s.n-s.i).toNat
def akD (x:Ex) (_ s':oW):Prop:=(x=.exit 2∧∀j:Nat,(j:Int)<s'.n→JO s' j=true)∨(x=.ret∧s'.r=false∧∃j:Nat,(j:Int)<s'.n∧JO s' j=false)
theorem aBk:∀s,ady s→Nr s:=by
 intro s h
 obtain ⟨h0,h1,h2,h3⟩:=h
 exact ⟨by omega,by omega,h2,h3,fun j hj=>by omega⟩
theorem aw4 (s:oW) (hI:Nr s):bJ (fun s'=>Nr s'∧Po s'<Po s) (fun x s'=>akD x s s') (asf s):=by
 unfold asf Zt
 dsimp only [T.rd,T.rl]
 obtain ⟨h0,h1,h2,h3,h4⟩:=hI
 refine au (fun c1=>au (fun c2=>?_) (fun c2=>?_)) (fun c1=>?_)
 ·have c1:s.i<s.n:=by simpa using c1
  refine .inr ⟨rfl,rfl,s.i.toNat,by simp only;omega,?_⟩
  rw [Int.toNat_of_nonneg (by omega)]
  have hg:JO s s.i=false:=by unfold JO;(rw [vbE] at c2;first|exact Ot c2|exact ntW c2)
  exact hg
 ·have c1:s.i<s.n:=by simpa using c1
  have hg:JO s s.i=true:=by unfold JO;(rw [vbE] at c2;first|exact Ot c2|exact ntW c2)
  rw [aK (x:=s.i+1) (by omega) (by omega)]
  refine ⟨⟨by simp only;omega,by simp only;omega,h2,h3,fun j hj=>?_⟩,by simp only [Po];omega⟩
  by_cases hji:(j:Int)<s.i
  ·exact h4 j hji
  ·have:(j:Int)=s.i:=by simp only at hj;omega
   rw [this];exact hg
 ·have c1:s.n≤s.i:=by simpa using c1
  exact .inl ⟨rfl,fun j hj=>h4 j (by omega)⟩
def Fe:bK oW:=⟨0,119,[2,3,6,12,13,15],[],aDE,aCD,fun v b=>⟨aQ GI (v.getD 0 .junk),aQ pU (v.getD 1 .junk),uT (v.getD 3 .junk),gI (v.getD 4 .junk),gI (v.getD 5 .junk),aQ dU (aX (aO b 0) 0),aQ .str (aX (aO b 0) 1),aQ dW (aX (aO b 0) 2),aQ dM (aX (aO b 0) 3),aQ dX (aX (aO b 0) 4)⟩,Zt,fun s r=> {r with rs:=s.rs,d:=s.d,n:=s.n,ah:=s.ah,aA:=s.aA,aj:=s.aj,ai:=s.ai,aJ:=s.aJ},fun s=>s,fun _ s=>s,[.ret,.exit 2],ady,Nr,Po⟩
abbrev Z7:=Fe.run
abbrev abG:=Fe.jG
abbrev ayt:=Fe.q
theorem au9 (s:oW) (hI:Nr s):(Zt s).all (fun _=>True):=by
 refine ⟨fun c1=>⟨?_,?_,?_,fun _=>trivial,fun _=>trivial⟩,fun _=>trivial⟩
 all_goals ((obtain ⟨h0,h1,h2,h3,h4⟩:=hI;obtain ⟨h3,h5,h6⟩:=h3;simp at c1;omega))
theorem ahm:Fe.Ok:=⟨fun s=>by kernel_rfl,fun s=>by kernel_rfl,fun s=>rfl,fun s t r=>rfl,fun s=>rfl,fun s=>by kernel_rfl⟩
theorem agi:Fe.Pf (akD):=⟨aBk,fun _ _=>rfl,aw4,au9⟩
theorem amv:bn Tryz.prog aS (AN 0) (.loop BG) Fe.lp:=bK.snd ahm agi (aP (Γ:=P8) (K:=dY) (L:=aC) Xj aF BG (fun b hb=>by rw [show aB BG=[] by kernel_rfl] at hb;cases hb)) (fun s=>by kernel_rfl)
theorem apM (s:oW) (hE:ady s):∃s',Nr s'∧akD (abG s) s' (Z7 s):=bK.fin ahm agi s hE
def acv:List LV→T LV
 | [.agg [.xl (.pair .str (.pair (.int .i64) (.pair (.int .i64) (.pair (.int .i64) (.pair (.pair (.int .i64) (.int .i64)) (.pair (.int .i64) (.pair (.int .i64) (.pair (.int .i64) (.pair (.int .i64) (.int .i64)))))))))) cs,.xl (.str) os,.xl (.pair .str (.pair (.int .i64) (.pair (.int .i64) (.int .i64)))) ks,.xl (.pair .str (.pair (.int .i64) (.pair (.int .i64) (.pair (.int .i64) (.pair (.int .i64) (.pair (.int .i64) (.pair (.int .i64) (.int .i64)))))))) gs,.xl (.pair .str (.int .i64)) bs],.xl (.pair (.int .i64) (.pair (.int .i64) (.pair (.int .i64) (.pair (.int .i64) (.int .i64))))) l,.xl (.pair (.int .i64) (.int .i64)) rs,.xl (.pair .bool (.pair (.int .i64) (.pair (.int .i64) (.int .i64)))) d,.v (.int .i64 t),.v (.int .i64 n)]=> .req (nmR (gB cs os ks gs bs)∧(List.length l:Int)≤1000) (.ok (.v (.bool (Gu cs os ks gs bs l rs d t n))))
 |_=> .no
noncomputable def Ya:List LV→T LV:=gJ Tryz.prog Tryz.f22.params.toList acv
theorem an6 (cs:List Cd) (os:List ByteArray) (ks:List Ko) (gs:List Ch) (bs:List Ba) (l:List Le) (rs:List Ra) (d:List Dm) (t n:Int):bT Tryz.prog aS (P8) dY (fun i=>if i=5 then Ff.lp else if i=10 then Fe.lp else aC i) Tryz.f22 [.agg [.xl dU cs,.xl .str os,.xl dW ks,.xl dM gs,.xl dX bs],.xl nC l,.xl GI rs,.xl pU d,.v (.int .i64 t),.v (.int .i64 n)]=.req (nmR (gB cs os ks gs bs)) (.br (!(fM cs os ks gs bs)) (.ok (.v (.bool false))) (.req ((List.length l:Int)≤1000) (.br ((!(qx l)) ||(((List.length rs:Int) !=(List.length gs:Int)) ||(((List.length d:Int) !=(List.length gs:Int)) ||((decide (t<0)) ||((decide (t>1000000)) ||((decide (n<1)) ||(decide (n>999900)))))))) (.ok (.v (.bool false))) (.req (ayu (⟨l,rs,d,false,(List.length gs:Int),(0:Int),cs,os,ks,gs,bs⟩:lJ)) (.br (iw (abH (⟨l,rs,d,false,(List.length gs:Int),(0:Int),cs,os,ks,gs,bs⟩:lJ)) (.ret)) (.ok (.v (.bool (wW (⟨l,rs,d,false,(List.length gs:Int),(0:Int),cs,os,ks,gs,bs⟩:lJ)).r))) (.req (ayt (⟨rs,d,(wW (⟨l,rs,d,false,(List.length gs:Int),(0:Int),cs,os,ks,gs,bs⟩:lJ)).r,(List.length gs:Int),(0:Int),cs,os,ks,gs,bs⟩:oW)) (.br (iw (abG (⟨rs,d,(wW (⟨l,rs,d,false,(List.length gs:Int),(0:Int),cs,os,ks,gs,bs⟩:lJ)).r,(List.length gs:Int),(0:Int),cs,os,ks,gs,bs⟩:oW)) (.ret)) (.ok (.v (.bool (Z7 (⟨rs,d,(wW (⟨l,rs,d,false,(List.length gs:Int),(0:Int),cs,os,ks,gs,bs⟩:lJ)).r,(List.length gs:Int),(0:Int),cs,os,ks,gs,bs⟩:oW)).r))) (.ok (.v (.bool true)))))))))):=by kernel_rfl
theorem atd:Valid Tryz.prog aS 22 Ya:=aH Tryz.func22 rfl Xj aF (L:=(fun i=>if i=5 then Ff.lp else if i=10 then Fe.lp else aC i)) (fun b hb=>by
 rw [show aB _=[BH,BG] by kernel_rfl] at hb
 simp only [List.mem_cons,List.not_mem_nil,or_false] at hb
 rcases hb with rfl|rfl
 ·exact amw
 ·exact amv) (fun args lv h=>by
 unfold acv at h
 split at h
 ·simp only [canL,canX]
  rw [an6]
  rename_i cs os ks gs bs l rs d t n
  obtain ⟨⟨hn,hl⟩,rfl⟩:=h
  have bad:Gu cs os ks gs bs l rs d t n=false→LV.v (.bool false)=LV.v (.bool (Gu cs os ks gs bs l rs d t n)):=fun h=>by rw [h]
  refine ⟨hn,fun c=>bad (by unfold Gu;rw [ntW c];rfl),fun c=>⟨hl,?_⟩⟩
  have c:=Ot c
  rw [neN,neN,awC,awD,←Bool.not_and,←Bool.not_and,←Bool.not_and,←Bool.not_and]
  refine ⟨fun c2=>bad ?_,fun c2=>?_⟩
  ·unfold Gu
   rw [c,Bool.true_and,←Bool.and_assoc,ntW c2,Bool.false_and]
  have c2:=Ot c2
  have c2':=c2
  simp only [Bool.and_eq_true,decide_eq_true_eq] at c2'
  have hg:=(fP.1 c).1.2.2.2.2.1
  have hE:adz ⟨l,rs,d,false,(List.length gs:Int),0,cs,os,ks,gs,bs⟩:=⟨rfl,by simp only;omega,hl,trivial⟩
  have ev:Gu cs os ks gs bs l rs d t n=(below gs.length l&&J6 gs.length (fun j=>SK (aW gs j) (lU rs j)&&Vu (lV d j))):=by
   unfold Gu
   rw [c,Bool.true_and,←Bool.and_assoc,c2,Bool.true_and]
  refine ⟨⟨hE,rfl,rfl⟩,?_⟩
  obtain ⟨_,_,hq⟩:=apN _ hE
  have eb:below gs.length l=J6 l.length (fun j=>decide ((iH l j).2.1<(gs.length:Int))):=by
   rw [Bool.eq_iff_iff,fQ]
   exact (iM (d:=(0,0,0,0,0)) (p:=fun x:Le=>decide (x.2.1<(gs.length:Int)))).symm
  rcases hq with ⟨q1,q2⟩ |⟨q1,q2,j,q3,q4⟩<;>rw [q1]
  rotate_left
  ·rw [q2]
   exact ⟨fun _=>bad (by rw [ev,eb,uh (n:=l.length) (f:=fun j=>decide ((iH l j).2.1<(gs.length:Int))) j q3 q4];rfl),fun h=>by cases h⟩
  refine ⟨fun h=>(by cases h),fun _=>?_⟩
  have g0:below gs.length l=true:=by rw [eb];exact fQ.2 q2
  have hE2:ady ⟨rs,d,(wW ⟨l,rs,d,false,(List.length gs:Int),0,cs,os,ks,gs,bs⟩).r,(List.length gs:Int),0,cs,os,ks,gs,bs⟩:=⟨rfl,by simp only;omega,by simp only;omega,rfl,c2'.2.1,c2'.2.2.1⟩
  refine ⟨⟨hE2,rfl,rfl⟩,?_⟩
  obtain ⟨_,_,hq⟩:=apM _ hE2
  rcases hq with ⟨q5,q6⟩ |⟨q5,q6,j,q7,q8⟩<;>rw [q5]
  ·exact ⟨fun h=>(by cases h),fun _=>by rw [ev,g0,(fQ (f:=fun j=>SK (aW gs j) (lU rs j)&&Vu (lV d j))).2 q6];rfl⟩
  ·rw [q6]
   exact ⟨fun _=>bad (by rw [ev,uh (n:=gs.length) (f:=fun j=>SK (aW gs j) (lU rs j)&&Vu (lV d j)) j q7 q8,Bool.and_false]),fun h=>by cases h⟩
 ·cases h)
end Go.Proofs.YtlihnbimgclogaaGreatDoor
namespace Go.Proofs.YtlihnbimgclogaaGreatDoor
open Go.Sx
def aj2:List LV→T LV
 | [.v (.int .i64 r),.v (.int .i64 m)]=> .req ((0≤r∧r≤1000000)∧0≤m∧m≤3000000) (.ok (.v (.int .i64 (m*r / 1000000))))
 |_=> .no
noncomputable def ajL:List LV→T LV:=gJ Tryz.prog Tryz.f156.params.toList aj2
noncomputable def aiU:Specs:=bf []
theorem arn:∀g S,aiU g=some S→Valid Tryz.prog aS g S:=aT (l:=[]) trivial
theorem awd (r m:Int):bT Tryz.prog aS (aiU) dY aC Tryz.f156 [.v (.int .i64 r),.v (.int .i64 m)]=.req ((1000000:Int)≠0) (.ok (.v (.int .i64 (IntKind.i64.wrap ((IntKind.i64.wrap (m*r)).tdiv 1000000))))):=by kernel_rfl
theorem azc:Valid Tryz.prog aS 156 ajL:=aH Tryz.func156 rfl arn aF (aY (by kernel_rfl)) (fun args lv h=>by
 unfold aj2 at h
 split at h
 ·simp only [canL,canX]
  rw [awd]
  rename_i r m
  obtain ⟨⟨hr,hm⟩,rfl⟩:=h
  have h1:=aEb (a:=m) (b:=r) hm.1 hm.2 hr.1 hr.2
  have h2:0≤m*r / 1000000∧m*r / 1000000≤m*r:=by omega
  refine ⟨by omega,congrArg (fun z=>LV.v (.int .i64 z)) ?_⟩
  rw [aK (x:=m*r) (by omega) (by omega),Int.tdiv_eq_ediv_of_nonneg h1.1,aK (by omega) (by omega)]
 ·cases h)
def acQ:List LV→T LV
 | [.v (.int .i64 n)]=> .ok (.v (.bool (inB n 0 1000000)))
 |_=> .no
noncomputable def Yq:List LV→T LV:=gJ Tryz.prog Tryz.f154.params.toList acQ
theorem aoq (n:Int):bT Tryz.prog aS (aiU) dY aC Tryz.f154 [.v (.int .i64 n)]=.ok (.v (.bool ((decide (n≥0))&&(decide (n≤1000000))))):=by kernel_rfl
theorem atw:Valid Tryz.prog aS 154 Yq:=aH Tryz.func154 rfl arn aF (aY (by kernel_rfl)) (fun args lv h=>by
 unfold acQ at h
 split at h
 ·simp only [canL,canX]
  rw [aoq]
  exact h
 ·cases h)
structure qL where
 low:Int
 high:Int
 r:Int
 n:Int
def aDw (s:qL):List LV:=[.v (.int .i64 s.low),.v (.int .i64 s.high),.fn 162 [.own 1 0,.own 0 0,.own 2 0]]
def aCv (s:qL):List aU:=[⟨[.v (.int .i64 s.r)],202,.cl,false⟩,⟨[.fn 156 []],203,.cl,false⟩,⟨[.v (.int .i64 s.n)],3,.cl,false⟩]
noncomputable def Uj:Code:=((aB (Tryz.f161.body.getD .skip))[0]?).getD .skip
def Zo (s:qL):T (Rd qL):=
 .br (decide (s.low<s.high)) (.req ((2:Int)≠0) (.req ((0≤s.r∧s.r≤1000000)∧0≤(IntKind.i64.wrap (s.low+(IntKind.i64.wrap ((IntKind.i64.wrap (s.high-s.low)).tdiv 2))))∧(IntKind.i64.wrap (s.low+(IntKind.i64.wrap ((IntKind.i64.wrap (s.high-s.low)).tdiv 2))))≤3000000) (.br (decide (((IntKind.i64.wrap (s.low+(IntKind.i64.wrap ((IntKind.i64.wrap (s.high-s.low)).tdiv 2))))*s.r / 1000000)≥s.n)) (.ok (.next {s with high:=(IntKind.i64.wrap (s.low+(IntKind.i64.wrap ((IntKind.i64.wrap (s.high-s.low)).tdiv 2))))})) (.ok (.next {s with low:=(IntKind.i64.wrap ((IntKind.i64.wrap (s.low+(IntKind.i64.wrap ((IntKind.i64.wrap (s.high-s.low)).tdiv 2))))+1))}))))) (.ok (.stop (.exit 0) s))
abbrev asa (s:qL):=(Zo s).rd s
def adt (s:qL):Prop:=s.low=0∧s.high=2*s.n+2∧s.r=999800∧0≤s.n∧s.n≤1000000
def Nh (s:qL):Prop:=(0≤s.low∧s.low≤wt s.n)∧(wt s.n≤s.high∧s.high≤2*s.n+2)∧s.r=999800∧0≤s.n∧s.n≤1000000
def H9 (s:qL):Nat:=(s.high-s.low).toNat
def akz (x:Ex) (_ s':qL):Prop:=x=.exit 0∧s'.low=wt s'.n
theorem aAp:∀s,adt s→Nh s:=by
 intro s h
 obtain ⟨h0,h1,h2,h3,h4⟩:=h
 have:=aql h3
 exact ⟨by omega,by omega,h2,h3,h4⟩
theorem awo (s:qL) (hI:Nh s):bJ (fun s'=>Nh s'∧H9 s'<H9 s) (fun x s'=>akz x s s') (asa s):=by
 unfold asa Zo
 dsimp only [T.rd,T.rl]
 obtain ⟨⟨h0,h1⟩,⟨h2,h3⟩,h4,h5,h6⟩:=hI
 refine au (fun c1=>?_) (fun c1=>?_)
 ·have c1:s.low<s.high:=by simpa using c1
  have hd:(s.high-s.low).tdiv 2=(s.high-s.low) / 2:=Int.tdiv_eq_ediv_of_nonneg (by omega)
  have hm:IntKind.i64.wrap (s.low+IntKind.i64.wrap ((IntKind.i64.wrap (s.high-s.low)).tdiv 2))=s.low+(s.high-s.low) / 2:=by
   rw [aK (x:=s.high-s.low) (by omega) (by omega),hd,aK (x:=(s.high-s.low) / 2) (by omega) (by omega),aK (by omega) (by omega)]
  rw [hm]
  refine au (fun c2=>?_) (fun c2=>?_)
  ·rw [decide_eq_true_eq,h4,aeP] at c2
   exact ⟨⟨⟨h0,h1⟩,⟨by simp only;omega,by simp only;omega⟩,h4,h5,h6⟩,by simp only [H9];omega⟩
  ·rw [decide_eq_false_iff_not,h4,aeP] at c2
   rw [aK (x:=s.low+(s.high-s.low) / 2+1) (by omega) (by omega)]
   exact ⟨⟨⟨by simp only;omega,by simp only;omega⟩,⟨h2,h3⟩,h4,h5,h6⟩,by simp only [H9];omega⟩
 ·have c1:s.high≤s.low:=by simpa using c1
  exact ⟨rfl,by omega⟩
def JX:bK qL:=⟨3,24,[0,1,2],[],aDw,aCv,fun v b=>⟨gI (v.getD 0 .junk),gI (v.getD 1 .junk),gI (aX (aO b 0) 0),gI (aX (aO b 2) 0)⟩,Zo,fun s r=> {r with r:=s.r,n:=s.n},fun s=>s,fun _ s=>s,[.exit 0],adt,Nh,H9⟩
abbrev ZY:=JX.run
abbrev apz:=JX.jG
abbrev aym:=JX.q
noncomputable def D9:Specs:=bf [(154,Yq),(156,ajL)]
theorem IE:∀g S,D9 g=some S→Valid Tryz.prog aS g S:=aT (l:=[(154,Yq),(156,ajL)]) ⟨atw,azc,trivial⟩
noncomputable def aiu:Hand:=inl Tryz.prog aS D9 (lX Tryz.prog aS (D9) 20 2) 9
theorem aqU:dL Tryz.prog aS aiu:=bQ IE (dQ IE) 9
theorem au1 (s:qL) (hI:Nh s):(Zo s).all (fun _=>True):=by
 refine ⟨fun c1=>⟨?_,?_,fun _=>trivial,fun _=>trivial⟩,fun _=>trivial⟩
 all_goals ((obtain ⟨⟨h0,h1⟩,⟨h2,h3⟩,h4,h5,h6⟩:=hI;simp only [decide_eq_true_eq] at c1;first|decide|(have hd:(s.high-s.low).tdiv 2=(s.high-s.low) / 2:=Int.tdiv_eq_ediv_of_nonneg (by omega);have hm:IntKind.i64.wrap (s.low+IntKind.i64.wrap ((IntKind.i64.wrap (s.high-s.low)).tdiv 2))=s.low+(s.high-s.low) / 2:=(by rw [aK (x:=s.high-s.low) (by omega) (by omega),hd,aK (x:=(s.high-s.low) / 2) (by omega) (by omega),aK (by omega) (by omega)]);rw [hm];omega)))
theorem ahf:JX.Ok:=⟨fun s=>by kernel_rfl,fun s=>by kernel_rfl,fun s=>rfl,fun s t r=>rfl,fun s=>rfl,fun s=>by kernel_rfl⟩
theorem af9:JX.Pf (akz):=⟨aAp,fun _ _=>rfl,awo,au1⟩
theorem amo:bn Tryz.prog aS (AN 3) (.loop Uj) JX.lp:=bK.snd ahf af9 (bF (Γ:=D9) (K:=aiu) (L:=(tN Tryz.prog aS D9 aiu 20 2)) IE aqU Uj (fun b _=>dR IE aqU 20 2 b)) (fun s=>by kernel_rfl)
theorem aoO (s:qL) (hE:adt s):∃s',Nh s'∧akz (apz s) s' (ZY s):=bK.fin ahf af9 s hE
def ab6:List LV→T LV
 | [.v (.int .i64 n)]=> .ok (.v (.tuple #[.int .i64 (wtA n),.int .i64 (wtE n)]))
 |_=> .no
noncomputable def XV:List LV→T LV:=gJ Tryz.prog Tryz.f136.params.toList ab6
noncomputable def aq5:Hand:=inl Tryz.prog aS D9 (kD 161 3 1 (JX.lp) (lX Tryz.prog aS (D9) 20 2)) 9
theorem aAE:dL Tryz.prog aS aq5:=bQ IE (dK Tryz.func161 rfl (by kernel_rfl) amo (dQ IE)) 9
theorem anO (n:Int):bT Tryz.prog aS (D9) aq5 aC Tryz.f136 [.v (.int .i64 n)]=.br (!(inB n 0 1000000)) (.ok (.v (.tuple #[.int .i64 0,.int .i64 1]))) (.req (aym (⟨(0:Int),(IntKind.i64.wrap ((IntKind.i64.wrap (2*n))+2)),(999800:Int),n⟩:qL)) (.ok (.v (.tuple #[.int .i64 (ZY (⟨(0:Int),(IntKind.i64.wrap ((IntKind.i64.wrap (2*n))+2)),(999800:Int),n⟩:qL)).low,.int .i64 0])))):=by kernel_rfl
theorem as1:Valid Tryz.prog aS 136 XV:=aH Tryz.func136 rfl IE aAE (aY (by kernel_rfl)) (fun args lv h=>by
 unfold ab6 at h
 split at h
 ·simp only [canL,canX]
  rw [anO]
  rename_i n
  obtain rfl:=h
  refine ⟨fun c=>?_,fun c=>?_⟩
  ·have c:inB n 0 1000000=false:=ntW c
   unfold wtA wtE
   rw [c]
   rfl
  ·have c:inB n 0 1000000=true:=Ot c
   have hb:=eU.1 c
   have hE:adt ⟨0,IntKind.i64.wrap (IntKind.i64.wrap (2*n)+2),999800,n⟩:=⟨rfl,by
    show IntKind.i64.wrap (IntKind.i64.wrap (2*n)+2)=2*n+2
    rw [aK (x:=2*n) (by omega) (by omega),aK (by omega) (by omega)],rfl,hb.1,hb.2⟩
   obtain ⟨_,_,_,q⟩:=aoO _ hE
   refine ⟨⟨hE,rfl,rfl⟩,?_⟩
   rw [q]
   unfold wtA wtE
   rw [if_pos c,if_pos c]
   exact rfl
 ·cases h)
end Go.Proofs.YtlihnbimgclogaaGreatDoor
namespace Go.Proofs.YtlihnbimgclogaaGreatDoor
open Go.Sx
def ajZ:List LV→T LV
 | [.v (.int .i64 n),.v (.int .i64 a),.v (.int .i64 b)]=> .ok (.v (.bool (inB n a b)))
 |_=> .no
noncomputable def UA:List LV→T LV:=gJ Tryz.prog Tryz.f108.params.toList ajZ
noncomputable def aiT:Specs:=bf []
theorem arl:∀g S,aiT g=some S→Valid Tryz.prog aS g S:=aT (l:=[]) trivial
theorem av8 (n a b:Int):bT Tryz.prog aS (aiT) dY aC Tryz.f108 [.v (.int .i64 n),.v (.int .i64 a),.v (.int .i64 b)]=.ok (.v (.bool ((decide (n≥a))&&(decide (n≤b))))):=by kernel_rfl
theorem aqp:Valid Tryz.prog aS 108 UA:=aH Tryz.func108 rfl arl aF (aY (by kernel_rfl)) (fun args lv h=>by
 unfold ajZ at h
 split at h
 ·simp only [canL,canX]
  rw [av8]
  exact h
 ·cases h)
def acM:List LV→T LV
 | [.v (.agg ⟨[.int .i64 nu,.int .i64 co,.int .i64 am,.int .i64 fr,.int .i64 tk]⟩)]=> .ok (.v (.bool (leV (nu,co,am,fr,tk))))
 |_=> .no
noncomputable def Ym:List LV→T LV:=gJ Tryz.prog Tryz.f63.params.toList acM
noncomputable def arB:Specs:=bf [(108,UA)]
theorem aAT:∀g S,arB g=some S→Valid Tryz.prog aS g S:=aT (l:=[(108,UA)]) ⟨aqp,trivial⟩
theorem aom (nu co am fr tk:Int):bT Tryz.prog aS (arB) dY aC Tryz.f63 [.v (.agg #[.int .i64 nu,.int .i64 co,.int .i64 am,.int .i64 fr,.int .i64 tk])]=.ok (.v (.bool ((inB nu (1:Int) (1000000:Int))&&((inB co (0:Int) (15:Int))&&((inB am (0:Int) (80:Int))&&((inB fr (0:Int) (1000000:Int))&&(inB tk (1:Int) (1000:Int)))))))):=by kernel_rfl
theorem atr:Valid Tryz.prog aS 63 Ym:=aH Tryz.func63 rfl aAT aF (aY (by kernel_rfl)) (fun args lv h=>by
 unfold acM at h
 split at h
 ·simp only [canL,canX]
  rw [aom]
  exact h
 ·cases h)
def aj0:List LV→T LV
 | [.v (.agg ⟨[.int .i64 nu,.int .i64 co,.int .i64 am,.int .i64 fr,.int .i64 tk]⟩),.v (.agg ⟨[.int .i64 nu2,.int .i64 co2,.int .i64 am2,.int .i64 fr2,.int .i64 tk2]⟩)]=> .ok (.v (.bool (TT (nu,co,am,fr,tk) (nu2,co2,am2,fr2,tk2))))
 |_=> .no
noncomputable def ajJ:List LV→T LV:=gJ Tryz.prog Tryz.f64.params.toList aj0
theorem av9 (nu co am fr tk nu2 co2 am2 fr2 tk2:Int):bT Tryz.prog aS (aiT) dY aC Tryz.f64 [.v (.agg #[.int .i64 nu,.int .i64 co,.int .i64 am,.int .i64 fr,.int .i64 tk]),.v (.agg #[.int .i64 nu2,.int .i64 co2,.int .i64 am2,.int .i64 fr2,.int .i64 tk2])]=.ok (.v (.bool ((decide (nu2>nu))&&(decide (fr2≥fr))))):=by kernel_rfl
theorem aza:Valid Tryz.prog aS 64 ajJ:=aH Tryz.func64 rfl arl aF (aY (by kernel_rfl)) (fun args lv h=>by
 unfold aj0 at h
 split at h
 ·simp only [canL,canX]
  rw [av9]
  exact h
 ·cases h)
def acN:List LV→T LV
 | [.v (.agg ⟨[.int .i64 nu,.int .i64 co,.int .i64 am,.int .i64 fr,.int .i64 tk]⟩)]=> .req ((0≤fr∧fr≤1000000)∧0≤tk∧tk≤1000000) (.ok (.v (.int .i64 (aem (nu,co,am,fr,tk)))))
 |_=> .no
noncomputable def Yn:List LV→T LV:=gJ Tryz.prog Tryz.f109.params.toList acN
noncomputable def arA:Specs:=bf [(136,XV)]
theorem aAS:∀g S,arA g=some S→Valid Tryz.prog aS g S:=aT (l:=[(136,XV)]) ⟨as1,trivial⟩
theorem aon (nu co am fr tk:Int):bT Tryz.prog aS (arA) dY aC Tryz.f109 [.v (.agg #[.int .i64 nu,.int .i64 co,.int .i64 am,.int .i64 fr,.int .i64 tk])]=.br ((wtE tk) !=0) (.ok (.v (.int .i64 fr))) (.ok (.v (.int .i64 (IntKind.i64.wrap ((IntKind.i64.wrap (fr+10))+(wtA tk)))))):=by kernel_rfl
theorem att:Valid Tryz.prog aS 109 Yn:=aH Tryz.func109 rfl aAS aF (aY (by kernel_rfl)) (fun args lv h=>by
 unfold acN at h
 split at h
 ·simp only [canL,canX]
  rw [aon]
  rename_i nu co am fr tk
  obtain ⟨⟨hf,ht⟩,rfl⟩:=h
  have c:inB tk 0 1000000=true:=eU.2 ht
  have hw:=aql ht.1
  have ea:wtA tk=wt tk:=by unfold wtA;rw [if_pos c]
  have ee:wtE tk=0:=by unfold wtE;rw [if_pos c]
  rw [ea,ee,aK (x:=fr+10) (by omega) (by omega),aK (by omega) (by omega)]
  exact ⟨fun h=>(by cases h),fun _=>rfl⟩
 ·cases h)
structure pO where
 l:List Le
 r:Bool
 m:List Le
 n:Int
 i:Int
def aDu (s:pO):List LV:=[.xl nC s.l,.v (.bool s.r),.xl nC s.m,.v (.int .i64 s.n),.v (.int .i64 s.i)]
def aCt (_:pO):List aU:=[]
noncomputable def Bz:Code:=((aB (Tryz.f62.body.getD .skip))[0]?).getD .skip
def Zm (s:pO):T (Rd pO):=
 .br (decide (s.i<s.n)) (.req (0≤s.i∧s.i<(List.length s.m:Int)) (.br (!(leV (iH s.m s.i))) (.ok (.stop (.ret) {s with r:=false})) (.br (decide (s.i>0)) (.req (0≤(IntKind.i64.wrap (s.i-1))∧(IntKind.i64.wrap (s.i-1))<(List.length s.l:Int)) (.br (!(TT (iH s.l (IntKind.i64.wrap (s.i-1))) (iH s.m s.i))) (.ok (.stop (.ret) {s with r:=false})) (.ok (.next {s with i:=(IntKind.i64.wrap (s.i+1))})))) (.ok (.next {s with i:=(IntKind.i64.wrap (s.i+1))}))))) (.ok (.stop (.exit 0) s))
abbrev ar8 (s:pO):=(Zm s).rd s
def adr (s:pO):Prop:=s.i=0∧s.n=(List.length s.l:Int)∧s.n≤1000∧s.m=s.l
def Nb (s:pO):Prop:=(0≤s.i∧s.i≤s.n)∧s.n=(List.length s.l:Int)∧s.n≤1000∧s.m=s.l∧∀j:Nat,(j:Int)<s.i→jJ s.l j=true
def H7 (s:pO):Nat:=(s.n-s.i).toNat
def akx (x:Ex) (_ s':pO):Prop:=(x=.exit 0∧∀j:Nat,(j:Int)<s'.n→jJ s'.l j=true)∨(x=.ret∧s'.r=false∧∃j:Nat,(j:Int)<s'.n∧jJ s'.l j=false)
theorem aAn:∀s,adr s→Nb s:=by
 intro s h
 obtain ⟨h0,h2,h3,h4⟩:=h
 exact ⟨by omega,h2,h3,h4,fun j hj=>by omega⟩
theorem awl (s:pO) (hI:Nb s):bJ (fun s'=>Nb s'∧H7 s'<H7 s) (fun x s'=>akx x s s') (ar8 s):=by
 unfold ar8 Zm
 dsimp only [T.rd,T.rl]
 obtain ⟨⟨h0,h1⟩,h2,h3,h4,hA⟩:=hI
 refine au (fun c1=>?_) (fun c1=>?_)
 ·refine au (fun c2=>?_) (fun c2=>?_)
  ·have c1:s.i<s.n:=by simpa using c1
   rw [h4] at c2
   refine .inr ⟨rfl,rfl,s.i.toNat,by simp only;omega,?_⟩
   rw [Int.toNat_of_nonneg h0]
   show jJ s.l s.i=false
   unfold jJ
   rw [ntW c2]
   rfl
  ·refine au (fun c3=>?_) (fun c3=>?_)
   ·refine au (fun c4=>?_) (fun c4=>?_)
    ·have c1:s.i<s.n:=by simpa using c1
     rw [h4] at c2
     have c3:0<s.i:=by simpa using c3
     rw [aK (x:=s.i-1) (by omega) (by omega),h4] at c4
     refine .inr ⟨rfl,rfl,s.i.toNat,by simp only;omega,?_⟩
     rw [Int.toNat_of_nonneg h0]
     show jJ s.l s.i=false
     unfold jJ
     rw [Ot c2,decide_eq_false (by omega),ntW c4]
     rfl
    ·have c1:s.i<s.n:=by simpa using c1
     rw [h4] at c2
     have c3:0<s.i:=by simpa using c3
     rw [aK (x:=s.i-1) (by omega) (by omega),h4] at c4
     have hg:jJ s.l s.i=true:=by unfold jJ;rw [Ot c2,decide_eq_false (by omega),Ot c4];rfl
     rw [aK (x:=s.i+1) (by omega) (by omega)]
     exact ⟨⟨⟨by simp only;omega,by simp only;omega⟩,h2,h3,h4,fun j hj=>by
      by_cases e:(j:Int)<s.i
      ·exact hA j e
      ·have e:(j:Int)=s.i:=by simp only at hj;omega
       show jJ s.l j=true
       rw [e];exact hg⟩,by simp only [H7];omega⟩
   ·have c1:s.i<s.n:=by simpa using c1
    rw [h4] at c2
    have hg:jJ s.l s.i=true:=by unfold jJ;rw [Ot c2,decide_eq_true (by simp at c3;omega)];rfl
    rw [aK (x:=s.i+1) (by omega) (by omega)]
    exact ⟨⟨⟨by simp only;omega,by simp only;omega⟩,h2,h3,h4,fun j hj=>by
     by_cases e:(j:Int)<s.i
     ·exact hA j e
     ·have e:(j:Int)=s.i:=by simp only at hj;omega
      show jJ s.l j=true
      rw [e];exact hg⟩,by simp only [H7];omega⟩
 ·have c1:s.n≤s.i:=by simpa using c1
  exact .inl ⟨rfl,fun j hj=>hA j (by omega)⟩
def EZ:bK pO:=⟨0,33,[0,2,8,9,10],[],aDu,aCt,fun v _=>⟨aQ nC (v.getD 0 .junk),uT (v.getD 1 .junk),aQ nC (v.getD 2 .junk),gI (v.getD 3 .junk),gI (v.getD 4 .junk)⟩,Zm,fun s r=> {r with l:=s.l,m:=s.m,n:=s.n},fun s=>s,fun _ s=>s,[.ret,.exit 0],adr,Nb,H7⟩
abbrev ZX:=EZ.run
abbrev abC:=EZ.jG
abbrev ayk:=EZ.q
theorem auZ (s:pO) (hI:Nb s):(Zm s).all (fun _=>True):=by
 refine ⟨fun c1=>⟨?_,fun _=>trivial,fun c2=>⟨fun c3=>⟨?_,fun _=>trivial,fun _=>trivial⟩,fun _=>trivial⟩⟩,fun _=>trivial⟩
 all_goals ((obtain ⟨⟨h0,h1⟩,h2,h3,h4,hA⟩:=hI;simp only [decide_eq_true_eq] at c1;have hl:s.m.length=s.l.length:=congrArg List.length h4;first|omega|(simp only [decide_eq_true_eq,gt_iff_lt] at c3;rw [aK (x:=s.i-1) (by omega) (by omega)];omega)))
noncomputable def aiS:Specs:=bf [(63,Ym),(64,ajJ)]
theorem ark:∀g S,aiS g=some S→Valid Tryz.prog aS g S:=aT (l:=[(63,Ym),(64,ajJ)]) ⟨atr,aza,trivial⟩
theorem ahd:EZ.Ok:=⟨fun s=>by kernel_rfl,fun s=>by kernel_rfl,fun s=>rfl,fun s t r=>rfl,fun s=>rfl,fun s=>by kernel_rfl⟩
theorem af7:EZ.Pf (akx):=⟨aAn,fun _ _=>rfl,awl,auZ⟩
theorem amm:bn Tryz.prog aS (AN 0) (.loop Bz) EZ.lp:=bK.snd ahd af7 (aP (Γ:=aiS) (K:=dY) (L:=aC) ark aF Bz (fun b hb=>by rw [show aB Bz=[] by kernel_rfl] at hb;cases hb)) (fun s=>by kernel_rfl)
theorem aoM (s:pO) (hE:adr s):∃s',Nb s'∧akx (abC s) s' (ZX s):=bK.fin ahd af7 s hE
def acI:List LV→T LV
 | [.xl (.pair (.int .i64) (.pair (.int .i64) (.pair (.int .i64) (.pair (.int .i64) (.int .i64))))) l]=> .ok (.v (.bool (qx l)))
 |_=> .no
noncomputable def Ju:List LV→T LV:=gJ Tryz.prog Tryz.f62.params.toList acI
theorem aoi (l:List Le):bT Tryz.prog aS (aiS) dY (fun i=>if i=4 then EZ.lp else aC i) Tryz.f62 [.xl nC l]=.br (decide ((List.length l:Int)>64)) (.ok (.v (.bool false))) (.req (ayk (⟨l,false,l,(List.length l:Int),(0:Int)⟩:pO)) (.br (iw (abC (⟨l,false,l,(List.length l:Int),(0:Int)⟩:pO)) (.ret)) (.ok (.v (.bool (ZX (⟨l,false,l,(List.length l:Int),(0:Int)⟩:pO)).r))) (.ok (.v (.bool true))))):=by kernel_rfl
theorem ae1:Valid Tryz.prog aS 62 Ju:=aH Tryz.func62 rfl ark aF (L:=(fun i=>if i=4 then EZ.lp else aC i)) (fun b hb=>by
 rw [show aB _=[Bz] by kernel_rfl] at hb
 simp only [List.mem_cons,List.not_mem_nil,or_false] at hb
 subst hb
 exact amm) (fun args lv h=>by
 unfold acI at h
 split at h
 ·simp only [canL,canX]
  rw [aoi]
  rename_i l
  obtain rfl:=h
  refine ⟨fun c=>congrArg (fun z=>LV.v (.bool z)) ?_,fun c=>?_⟩
  ·have c:64<(List.length l:Int):=by simpa using c
   unfold qx
   rw [decide_eq_false (by omega)]
   rfl
  ·have c:(List.length l:Int)≤64:=by simpa using c
   have hE:adr ⟨l,false,l,(List.length l:Int),0⟩:=⟨rfl,rfl,by simp only;omega,rfl⟩
   refine ⟨⟨hE,rfl,rfl⟩,?_⟩
   obtain ⟨_,_,hq⟩:=aoM _ hE
   rcases hq with ⟨q1,q2⟩ |⟨q1,q2,j,q3,q4⟩<;>rw [q1]
   ·have e:J6 l.length (jJ l)=true:=fQ.2 (fun j hj=>q2 j (by show (j:Int)<(List.length l:Int);omega))
    unfold qx
    rw [decide_eq_true (by omega),e]
    exact ⟨fun h=>(by cases h),fun _=>rfl⟩
   ·have e:J6 l.length (jJ l)=false:=uh j (by have q3:(j:Int)<(List.length l:Int):=q3;omega) q4
    rw [q2]
    unfold qx
    rw [decide_eq_true (by omega),e]
    exact ⟨fun _=>rfl,fun h=>by cases h⟩
 ·cases h)
end Go.Proofs.YtlihnbimgclogaaGreatDoor
namespace Go.Proofs.YtlihnbimgclogaaGreatDoor
open Go.Sx
structure pR where
 l:List Le
 qB:Int
 tick:Int
 e:Int
 m:List Le
 k:Int
 i:Int
def aDR (s:pR):List LV:=[.xl nC s.l,.v (.int .i64 s.qB),.v (.int .i64 s.tick),.v (.slice none 0 0),.v (.int .i64 s.e),.xl nC s.m,.v (.int .i64 s.k),.v (.int .i64 s.i)]
def aCQ (_:pR):List aU:=[]
noncomputable def BR:Code:=((aB (Tryz.f66.body.getD .skip))[0]?).getD .skip
def ZC (s:pR):T (Rd pR):=
 .br (decide (s.i<s.k)) (.req (0≤s.i∧s.i<(List.length s.m:Int)) (.br (decide ((iH s.m s.i).2.1≥s.qB)) (.ok (.stop (.ret) {s with e:=(1:Int)})) (.ok (.next {s with i:=(IntKind.i64.wrap (s.i+1))})))) (.ok (.stop (.exit 0) s))
abbrev asr (s:pR):=(ZC s).rd s
def adJ (s:pR):Prop:=s.i=0∧s.k=(List.length s.m:Int)∧s.k≤1000
def NE (s:pR):Prop:=(0≤s.i∧s.i≤s.k)∧s.k=(List.length s.m:Int)∧s.k≤1000∧∀x∈s.m.take s.i.toNat,x.2.1<s.qB
def PI (s:pR):Nat:=(s.k-s.i).toNat
def akM (x:Ex) (_ s':pR):Prop:=(x=.exit 0∧below s'.qB s'.m=true)∨(x=.ret∧s'.e=1∧below s'.qB s'.m=false)
theorem aBF:∀s,adJ s→NE s:=by
 intro s h
 obtain ⟨h0,h1,h2⟩:=h
 exact ⟨by omega,h1,h2,by rw [h0];intro x hx;cases hx⟩
theorem axB (s:pR) (hI:NE s):bJ (fun s'=>NE s'∧PI s'<PI s) (fun x s'=>akM x s s') (asr s):=by
 unfold asr ZC
 dsimp only [T.rd,T.rl]
 obtain ⟨⟨h0,h1⟩,h2,h3,h4⟩:=hI
 refine au (fun c1=>?_) (fun c1=>?_)
 ·have c1:s.i<s.k:=by simpa using c1
  refine au (fun c2=>?_) (fun c2=>?_)
  ·refine .inr ⟨rfl,rfl,?_⟩
   unfold below
   rw [List.all_eq_false]
   exact ⟨iH s.m s.i,F9 h0 (by simp only;omega),by simpa using c2⟩
  ·rw [aK (x:=s.i+1) (by omega) (by omega)]
   refine ⟨⟨⟨by simp only;omega,by simp only;omega⟩,h2,h3,fun x hx=>?_⟩,by simp only [PI];omega⟩
   rw [(IU h0 (by simp only;omega)).2,List.mem_append,List.mem_singleton] at hx
   rcases hx with hx|rfl
   ·exact h4 x hx
   ·simpa using c2
 ·have c1:s.k≤s.i:=by simpa using c1
  refine .inl ⟨rfl,?_⟩
  rw [List.take_of_length_le (by omega)] at h4
  unfold below
  rw [List.all_eq_true]
  exact fun x hx=>decide_eq_true (h4 x hx)
def FC:bK pR:=⟨0,48,[0,1,2,6,7,26,27,28],[],aDR,aCQ,fun v _=>⟨aQ nC (v.getD 0 .junk),gI (v.getD 1 .junk),gI (v.getD 2 .junk),gI (v.getD 4 .junk),aQ nC (v.getD 5 .junk),gI (v.getD 6 .junk),gI (v.getD 7 .junk)⟩,ZC,fun s r=> {r with l:=s.l,qB:=s.qB,tick:=s.tick,m:=s.m,k:=s.k},fun s=>s,fun _ s=>s,[.ret,.exit 0],adJ,NE,PI⟩
abbrev aad:=FC.run
abbrev abM:=FC.jG
abbrev ayG:=FC.q
theorem avm (s:pR) (hI:NE s):(ZC s).all (fun _=>True):=by
 refine ⟨fun c1=>⟨?_,fun _=>trivial,fun _=>trivial⟩,fun _=>trivial⟩
 ·(obtain ⟨⟨h0,h1⟩,h2,h3,h4⟩:=hI;simp only [decide_eq_true_eq] at c1;omega)
noncomputable def zY:Specs:=bf [(62,Ju),(108,UA),(109,Yn)]
theorem DZ:∀g S,zY g=some S→Valid Tryz.prog aS g S:=aT (l:=[(62,Ju),(108,UA),(109,Yn)]) ⟨ae1,aqp,att,trivial⟩
noncomputable def aaF:Hand:=inl Tryz.prog aS zY (lX Tryz.prog aS (zY) 20 2) 9
theorem ain:dL Tryz.prog aS aaF:=bQ DZ (dQ DZ) 9
theorem ahx:FC.Ok:=⟨fun s=>by kernel_rfl,fun s=>by kernel_rfl,fun s=>rfl,fun s t r=>rfl,fun s=>rfl,fun s=>by kernel_rfl⟩
theorem agu:FC.Pf (akM):=⟨aBF,fun _ _=>rfl,axB,avm⟩
theorem amM:bn Tryz.prog aS (AN 0) (.loop BR) FC.lp:=bK.snd ahx agu (aP (Γ:=zY) (K:=aaF) (L:=aC) DZ ain BR (fun b hb=>by rw [show aB BR=[] by kernel_rfl] at hb;cases hb)) (fun s=>by kernel_rfl)
theorem aqc (s:pR) (hE:adJ s):∃s',NE s'∧akM (abM s) s' (aad s):=bK.fin ahx agu s hE
noncomputable def afs:Array Tmp×Code×Code:=((jI (Tryz.f66.body.getD .skip))[0]?).getD (#[],.skip,.skip)
noncomputable def azI:Array Tmp:=afs.1
noncomputable def az2:Code:=afs.2.1
noncomputable def azX:Code:=afs.2.2
structure kP where
 m:List Le
 k:Int
 i:Int
 o:List Int
 q:List Le
 t:Int
 st:LS
def aDQ (s:kP):List LV:=[.uN 5,.own 4 0,.xl nC s.m,.v (.int .i64 s.k),.v (.int .i64 s.i)]
noncomputable def aCP (s:kP):List aU:=[⟨[],3,.vec (.int .i64) s.o,false⟩,⟨[.os 0 1 0 (List.length s.o)],35,.cl,false⟩,⟨[.fn 110 [.own 1 0]],160,.cl,false⟩,⟨[.xl nC s.q],29,.cl,false⟩,⟨[.v (.int .i64 s.t)],3,.cl,false⟩,⟨[.junk,.junk,.junk,.junk,.junk,.junk,.junk,.junk,.junk,.junk,.junk,.own 2 0,.junk,.junk,.junk,.junk,.junk,.junk,.junk,.junk,.junk,.junk,.junk,.junk,.junk,.junk,.junk,.junk,.junk,.junk,.junk,.junk,.junk,.junk,.junk,.junk,.junk,.junk,.junk,.junk,.junk,.junk,.junk,.junk,.junk,.junk,.junk,.junk],0,.kG azI az2 azX s.st,false⟩]
noncomputable def Ur:Code:=((aB (Tryz.f137.body.getD .skip))[0]?).getD .skip
def RQ (s:kP):T (Rd kP):=
 .br (decide (s.i<s.k)) (.req (0≤s.i∧s.i<(List.length s.m:Int)) (.br (decide ((iH s.m s.i).2.2.2.1>s.t)) (.rl s.o (.ok (.stop (.exit 0) s))) (.req ((0≤(iH s.m s.i).2.2.2.1∧(iH s.m s.i).2.2.2.1≤1000000)∧0≤(iH s.m s.i).2.2.2.2∧(iH s.m s.i).2.2.2.2≤1000000) (.br (decide ((aem (iH s.m s.i))≤s.t)) (.rl s.o (.ok (.next {s with i:=(IntKind.i64.wrap (s.i+1))}))) (.req (0≤(iH s.m s.i).2.1∧(iH s.m s.i).2.1<((List.length s.o:Nat):Int)) (.req ((iH s.m s.i).2.1.toNat<List.length s.o) (.req (0≤(iH s.m s.i).2.1∧(iH s.m s.i).2.1<((List.length s.o:Nat):Int)) (.req ((iH s.m s.i).2.1.toNat<List.length s.o) (.req (0=0∧(List.length s.o)=List.length (s.o.set (iH s.m s.i).2.1.toNat (if (s.o.getD (iH s.m s.i).2.1.toNat (Ty.dflt (.int .i64)))<(iH s.m s.i).2.2.1 then (iH s.m s.i).2.2.1 else (s.o.getD (iH s.m s.i).2.1.toNat (Ty.dflt (.int .i64)))))) (.ok (.next {s with i:=(IntKind.i64.wrap (s.i+1)),o:=(s.o.set (iH s.m s.i).2.1.toNat (if (s.o.getD (iH s.m s.i).2.1.toNat (Ty.dflt (.int .i64)))<(iH s.m s.i).2.2.1 then (iH s.m s.i).2.2.1 else (s.o.getD (iH s.m s.i).2.1.toNat (Ty.dflt (.int .i64)))))}))))))))))) (.rl s.o (.ok (.stop (.exit 0) s)))
abbrev abo (s:kP):=(RQ s).rd s
def adI (s:kP):Prop:=s.st=.ready∧s.i=0∧s.k=(List.length s.m:Int)∧s.k≤1000∧(∀x∈s.m,leV x=true∧x.2.1<(s.o.length:Int))∧s.m.Pairwise (fun a b=>a.1<b.1∧a.2.2.2.1≤b.2.2.2.1)
def U6 (s:kP):Prop:=s.st=.ready∧(0≤s.i∧s.i≤s.k)∧s.k=(List.length s.m:Int)∧s.k≤1000∧(∀x∈s.m,leV x=true∧x.2.1<(s.o.length:Int))∧s.m.Pairwise (fun a b=>a.1<b.1∧a.2.2.2.1≤b.2.2.2.1)
def Ic (s:kP):Nat:=(s.k-s.i).toNat
def asM (x:Ex) (_ _:kP):Prop:=x=.exit 0
theorem aBE:∀s,adI s→U6 s:=by
 intro s h
 obtain ⟨h0,h1,h2⟩:=h
 exact ⟨h0,by omega,h2⟩
theorem axA (s:kP) (hI:U6 s):bJ (fun s'=>U6 s'∧Ic s'<Ic s) (fun x s'=>asM x s s') (abo s):=by
 unfold abo RQ
 dsimp only [T.rd,T.rl]
 obtain ⟨hs,⟨h0,h1⟩,h2,h3,h4,h5⟩:=hI
 refine au (fun c1=>?_) (fun c1=>rfl)
 have c1:s.i<s.k:=by simpa using c1
 rw [aK (x:=s.i+1) (by omega) (by omega)]
 refine au (fun c2=>rfl) (fun c2=>au (fun c3=>?_) (fun c3=>?_))
 ·exact ⟨⟨hs,⟨by simp only;omega,by simp only;omega⟩,h2,h3,h4,h5⟩,by simp only [Ic];omega⟩
 ·exact ⟨⟨hs,⟨by simp only;omega,by simp only;omega⟩,h2,h3,fun x hx=>by simp only [List.length_set];exact h4 x hx,h5⟩,by simp only [Ic];omega⟩
noncomputable def J4:bK kP:=⟨6,27,[0,2,6,7,8],[],aDQ,aCP,fun v b=>⟨aQ nC (v.getD 2 .junk),gI (v.getD 3 .junk),gI (v.getD 4 .junk),iT (.int .i64) (aO b 0),aQ nC (aX (aO b 3) 0),gI (aX (aO b 4) 0),.ready⟩,RQ,fun s r=> {r with m:=s.m,k:=s.k,q:=s.q,t:=s.t,st:=s.st},fun s=> {s with st:=.ready},fun x s=> {s with st:=(match x with| .exit 0=> .ready|_=> .ready)},[.exit 0],adI,U6,Ic⟩
noncomputable abbrev wZ:=J4.run
noncomputable abbrev apI:=J4.jG
abbrev ayF:=J4.q
theorem avl (s:kP) (hI:U6 s):(RQ s).all (fun _=>True):=by
 refine ⟨fun c1=>⟨?_,fun c2=>⟨⟨rfl,rfl⟩,trivial⟩,fun c2=>⟨?_,fun c3=>⟨⟨rfl,rfl⟩,trivial⟩,fun c3=>⟨?_,?_,?_,?_,?_,trivial⟩⟩⟩,fun c1=>⟨⟨rfl,rfl⟩,trivial⟩⟩
 all_goals ((obtain ⟨hs,⟨h0,h1⟩,h2,h3,h4,h5⟩:=hI;simp only [decide_eq_true_eq] at c1;have hv:=(h4 _ (F9 h0 (show s.i<s.m.length by omega))).2;have hl:=aau.1 (h4 _ (F9 h0 (show s.i<s.m.length by omega))).1;first|omega|exact ⟨rfl,by simp⟩))
theorem ahw:J4.Ok:=⟨fun s=>by kernel_rfl,fun s=>by kernel_rfl,fun s=>rfl,fun s t r=>rfl,fun s=>rfl,fun s=>by kernel_rfl⟩
theorem agt:J4.Pf (asM):=⟨aBE,fun s h=>by
 obtain ⟨m,k,i,o,q,t,st⟩:=s
 have e:st=.ready:=h.1
 subst e
 rfl,axA,avl⟩
theorem amK:bn Tryz.prog aS (AN 6) (.loop Ur) J4.lp:=bK.snd ahw agt (bF (Γ:=zY) (K:=aaF) (L:=(tN Tryz.prog aS zY aaF 20 2)) DZ ain Ur (fun b _=>dR DZ ain 20 2 b)) (fun s=>by kernel_rfl)
theorem aqb (s:kP) (hE:adI s):(fun (x:Ex) (s':kP) (v:List Int)=>x=.exit 0∧s'.o=v) (apI s) (wZ s) ((fun s:kP=>((s.m.drop s.i.toNat).filter (Ux s.t)).foldl kpA s.o) s):=by
 exact bK.wu ahw agt (fun s:kP=>((s.m.drop s.i.toNat).filter (Ux s.t)).foldl kpA s.o) (fun x s' v=>x=.exit 0∧s'.o=v) (fun s hI=>by
  show bJ _ _ (abo s)
  unfold abo RQ
  dsimp only [T.rd,T.rl]
  obtain ⟨hs,⟨h0,h1⟩,h2,h3,h4,h5⟩:=hI
  refine au (fun c1=>?_) (fun c1=>?_)
  ·have c1:s.i<s.k:=by simpa using c1
   have e:=(IU h0 (show s.i<(List.length s.m:Int) by omega)).1
   rw [aK (x:=s.i+1) (by omega) (by omega)]
   refine au (fun c2=>?_) (fun c2=>au (fun c3=>?_) (fun c3=>?_))
   ·refine ⟨rfl,?_⟩
    have c2:(iH s.m s.i).2.2.2.1>s.t:=by simpa using c2
    have hp:(s.m.drop s.i.toNat).Pairwise (fun a b=>a.1<b.1∧a.2.2.2.1≤b.2.2.2.1):=List.Pairwise.sublist (List.drop_sublist _ _) h5
    rw [e,List.pairwise_cons] at hp
    rw [List.filter_eq_nil_iff.2]
    ·rfl
    ·rw [e]
     intro x hx
     unfold Ux
     rw [decide_eq_false,Bool.false_and]
     ·decide
     ·rcases List.mem_cons.1 hx with rfl|hx
      ·omega
      ·have:=(hp.1 x hx).2
       omega
   ·show List.foldl _ _ _=List.foldl _ _ _
    have c3:aem (iH s.m s.i)≤s.t:=by simpa using c3
    have hb:¬Ux s.t (iH s.m s.i)=true:=by
     unfold Ux
     rw [decide_eq_false (p:=aem _>_) (by omega),Bool.and_false]
     decide
    simp only
    rw [e,List.filter_cons,if_neg hb]
   ·show List.foldl _ _ _=List.foldl _ _ _
    have c2:(iH s.m s.i).2.2.2.1≤s.t:=by simpa using c2
    have c3:s.t<aem (iH s.m s.i):=by simpa using c3
    have hb:Ux s.t (iH s.m s.i)=true:=by
     unfold Ux
     rw [decide_eq_true c2,decide_eq_true c3]
     rfl
    simp only
    rw [e,List.filter_cons,if_pos hb,List.foldl_cons]
    rfl
  ·have c1:s.k≤s.i:=by simpa using c1
   refine ⟨rfl,?_⟩
   rw [List.drop_eq_nil_of_le (by omega)]
   rfl) s hE
def ac7:List LV→T LV
 | [.xl (.pair (.int .i64) (.pair (.int .i64) (.pair (.int .i64) (.pair (.int .i64) (.int .i64))))) l,.v (.int .i64 n),.v (.int .i64 t)]=> .ok (.iD [.xl (.int .i64) (oL l n t),.v (.int .i64 (Uw l n t))])
 |_=> .no
noncomputable def YF:List LV→T LV:=gJ Tryz.prog Tryz.f66.params.toList ac7
noncomputable def aq4:Hand:=inl Tryz.prog aS zY (kD 137 6 1 (J4.lp) (lX Tryz.prog aS (zY) 20 2)) 9
theorem aAD:dL Tryz.prog aS aq4:=bQ DZ (dK Tryz.func137 rfl (by kernel_rfl) amK (dQ DZ)) 9
theorem aoH (l:List Le) (n t:Int):bT Tryz.prog aS (zY) aq4 (fun i=>if i=4 then FC.lp else aC i) Tryz.f66 [.xl nC l,.v (.int .i64 n),.v (.int .i64 t)]=.br ((!(qx l)) ||((!(inB n (0:Int) (16:Int))) ||(!(inB t (0:Int) (1100000:Int))))) (.ok (.iD [.xl (.int .i64) ([]:List Int),.v (.int .i64 1)])) (.req (ayG (⟨l,n,t,(0:Int),l,(List.length l:Int),(0:Int)⟩:pR)) (.br (iw (abM (⟨l,n,t,(0:Int),l,(List.length l:Int),(0:Int)⟩:pR)) (.ret)) (.ok (.iD [.xl (.int .i64) ([]:List Int),.v (.int .i64 (aad (⟨l,n,t,(0:Int),l,(List.length l:Int),(0:Int)⟩:pR)).e)])) (.req (0≤n∧n≤n∧8*n≤2^48∧n<2^63) (.req (0=0∧n.toNat=List.length (List.replicate n.toNat (0:Int))) (.req (ayF (⟨l,(List.length l:Int),(0:Int),(List.replicate n.toNat (0:Int)),l,t,.ready⟩:kP)) (.req (0+(List.length (wZ (⟨l,(List.length l:Int),(0:Int),(List.replicate n.toNat (0:Int)),l,t,.ready⟩:kP)).o)≤List.length (wZ (⟨l,(List.length l:Int),(0:Int),(List.replicate n.toNat (0:Int)),l,t,.ready⟩:kP)).o) (.ok (.iD [.xl (.int .i64) (((wZ (⟨l,(List.length l:Int),(0:Int),(List.replicate n.toNat (0:Int)),l,t,.ready⟩:kP)).o.drop 0).take (List.length (wZ (⟨l,(List.length l:Int),(0:Int),(List.replicate n.toNat (0:Int)),l,t,.ready⟩:kP)).o)),.v (.int .i64 0)])))))))):=by kernel_rfl
theorem atL:Valid Tryz.prog aS 66 YF:=aH Tryz.func66 rfl DZ aAD (L:=(fun i=>if i=4 then FC.lp else aC i)) (fun b hb=>by
 rw [show aB _=[BR] by kernel_rfl] at hb
 simp only [List.mem_cons,List.not_mem_nil,or_false] at hb
 subst hb
 exact amM) (fun args lv h=>by
 unfold ac7 at h
 split at h
 ·simp only [canL,canX]
  rw [aoH]
  rename_i l n t
  obtain rfl:=h
  have bad:Kw l n t=false→LV.iD [.xl (.int .i64) ([]:List Int),.v (.int .i64 1)]=LV.iD [.xl (.int .i64) (oL l n t),.v (.int .i64 (Uw l n t))]:=fun c=>by
   unfold oL Uw
   rw [c]
   rfl
  refine ⟨fun c=>bad ?_,fun c=>?_⟩
  ·unfold Kw
   cases e1:qx l<;>cases e2:inB n 0 16<;>cases e3:inB t 0 1100000<;>simp_all
  have c:(qx l&&(inB n 0 16&&inB t 0 1100000))=true:=by cases e1:qx l<;>cases e2:inB n 0 16<;>cases e3:inB t 0 1100000<;>simp_all
  have c':=c
  rw [Bool.and_eq_true,Bool.and_eq_true,eU,eU] at c'
  obtain ⟨hv,hn,ht⟩:=c'
  have hl:=zO hv
  have hE:adJ ⟨l,n,t,0,l,(List.length l:Int),0⟩:=⟨rfl,rfl,by simp only;omega⟩
  refine ⟨⟨hE,rfl,rfl⟩,?_⟩
  obtain ⟨_,_,hq⟩:=aqc _ hE
  rcases hq with ⟨q1,q2⟩ |⟨q1,q2,q3⟩<;>rw [q1]
  ·refine ⟨fun h=>(by cases h),fun _=>?_⟩
   have q2:below n l=true:=q2
   have hE2:adI ⟨l,(List.length l:Int),0,List.replicate n.toNat 0,l,t,.ready⟩:=⟨rfl,rfl,rfl,by simp only;omega,fun x hx=>⟨hl.2 x hx,by
    have:=of_decide_eq_true (List.all_eq_true.1 q2 x hx)
    simp only [List.length_replicate]
    omega⟩,aeb hv⟩
   obtain ⟨_,q4⟩:=aqb _ hE2
   have q4:(wZ ⟨l,(List.length l:Int),0,List.replicate n.toNat 0,l,t,.ready⟩).o=XQ n.toNat l t:=q4
   refine ⟨by omega,⟨rfl,by simp⟩,⟨hE2,rfl,rfl⟩,by omega,?_⟩
   show LV.iD [LV.xl _ _,_]=_
   rw [List.drop_zero,List.take_length,q4]
   unfold oL Uw Kw
   rw [c,q2]
   rfl
  ·have q3:below n l=false:=q3
   rw [q2]
   exact ⟨fun _=>bad (by unfold Kw;rw [q3,Bool.and_false]),fun h=>by cases h⟩
 ·cases h)
end Go.Proofs.YtlihnbimgclogaaGreatDoor
namespace Go.Proofs.YtlihnbimgclogaaGreatDoor
open Go.Sx
def acH:List LV→T LV
 | [.v (.agg ⟨[.string _,.int .i64 _,.int .i64 _,.int .i64 mi,.int .i64 ma,.int .i64 st,.int .i64 _,.int .i64 _]⟩)]=> .ok (.v (.int .i64 (pI mi ma st)))
 |_=> .no
noncomputable def y8:List LV→T LV:=gJ Tryz.prog Tryz.f28.params.toList acH
noncomputable def awQ:Specs:=bf []
theorem aA3:∀g S,awQ g=some S→Valid Tryz.prog aS g S:=aT (l:=[]) trivial
theorem aoh (nm:ByteArray) (at_ ph mi ma st fb ow:Int):bT Tryz.prog aS (awQ) dY aC Tryz.f28 [.v (.agg #[.string nm,.int .i64 at_,.int .i64 ph,.int .i64 mi,.int .i64 ma,.int .i64 st,.int .i64 fb,.int .i64 ow])]=.br ((decide (mi<1)) ||((decide (mi>ma)) ||((decide (ma>80)) ||((decide (st<1)) ||(decide (st>80)))))) (.ok (.v (.int .i64 0))) (.req (st≠0) (.ok (.v (.int .i64 (IntKind.i64.wrap ((IntKind.i64.wrap ((IntKind.i64.wrap (ma-mi)).tdiv st))+2)))))):=by kernel_rfl
theorem VE:Valid Tryz.prog aS 28 y8:=aH Tryz.func28 rfl aA3 aF (aY (by kernel_rfl)) (fun args lv h=>by
 unfold acH at h
 split at h
 ·simp only [canL,canX]
  rw [aoh]
  rename_i mi ma st _ _
  obtain rfl:=h
  refine ⟨fun c=>congrArg (fun z=>LV.v (.int .i64 z)) ?_,fun c=>⟨?_,congrArg (fun z=>LV.v (.int .i64 z)) ?_⟩⟩
  ·have:kC mi ma st=false:=by
    rw [Bool.eq_false_iff];intro h;have:=dV.1 h;simp at c;omega
   rw [Ij this]
  ·simp at c;omega
  ·have hh:kC mi ma st=true:=dV.2 (by simp at c;omega)
   obtain ⟨h1,h2,h3,h4,h5⟩:=dV.1 hh
   have:=Dv (x:=ma-mi) (st:=st) (by omega) (by omega)
   rw [aK (x:=ma-mi) (by omega) (by omega),Int.tdiv_eq_ediv_of_nonneg (by omega),aK (x:=(ma-mi) / st) (by omega) (by omega),aK (by omega) (by omega)]
   simp [pI,hh]
 ·cases h)
def ac6:List LV→T LV
 | [.v (.agg ⟨[.string _,.int .i64 _,.int .i64 _,.int .i64 mi,.int .i64 _,.int .i64 st,.int .i64 _,.int .i64 _]⟩),.v (.int .i64 k)]=> .req ((1≤mi∧mi≤80∧1≤st∧st≤80)∧0≤k∧k≤1000) (.ok (.v (.int .i64 (BX mi st k))))
 |_=> .no
noncomputable def nY:List LV→T LV:=gJ Tryz.prog Tryz.f61.params.toList ac6
theorem aoG (nm:ByteArray) (at_ ph mi ma st fb ow k:Int):bT Tryz.prog aS (awQ) dY aC Tryz.f61 [.v (.agg #[.string nm,.int .i64 at_,.int .i64 ph,.int .i64 mi,.int .i64 ma,.int .i64 st,.int .i64 fb,.int .i64 ow]),.v (.int .i64 k)]=.br (k==0) (.ok (.v (.int .i64 0))) (.ok (.v (.int .i64 (IntKind.i64.wrap (mi+(IntKind.i64.wrap ((IntKind.i64.wrap (k-1))*st))))))):=by kernel_rfl
theorem CO:Valid Tryz.prog aS 61 nY:=aH Tryz.func61 rfl aA3 aF (aY (by kernel_rfl)) (fun args lv h=>by
 unfold ac6 at h
 split at h
 ·simp only [canL,canX]
  rw [aoG]
  rename_i mi _ st _ _ k
  obtain ⟨⟨⟨h1,h2,h3,h4⟩,h5,h6⟩,rfl⟩:=h
  refine ⟨fun c=>congrArg (fun z=>LV.v (.int .i64 z)) ?_,fun c=>congrArg (fun z=>LV.v (.int .i64 z)) ?_⟩
  ·have c:k=0:=by simpa using c
   simp [BX,c]
  ·have c:k≠0:=by simpa using c
   have:=awj (a:=k-1) (b:=st) (by omega) (by omega) (by omega) (by omega)
   rw [aK (x:=k-1) (by omega) (by omega),aK (x:=(k-1)*st) (by omega) (by omega),aK (by omega) (by omega)]
   simp [BX,c]
 ·cases h)
def UR:List LV→T LV
 | [.v (.agg ⟨[.string _,.int .i64 _,.int .i64 _,.int .i64 mi,.int .i64 ma,.int .i64 st,.int .i64 _,.int .i64 _]⟩),.v (.int .i64 k)]=> .ok (.v (.tuple #[.int .i64 (Qv mi ma st k),.int .i64 (amE mi ma st k)]))
 |_=> .no
noncomputable def QE:List LV→T LV:=gJ Tryz.prog Tryz.f27.params.toList UR
noncomputable def aA7:Specs:=bf [(28,y8),(61,nY)]
theorem aEl:∀g S,aA7 g=some S→Valid Tryz.prog aS g S:=aT (l:=[(28,y8),(61,nY)]) ⟨VE,CO,trivial⟩
theorem ahX (nm:ByteArray) (at_ ph mi ma st fb ow k:Int):bT Tryz.prog aS (aA7) dY aC Tryz.f27 [.v (.agg #[.string nm,.int .i64 at_,.int .i64 ph,.int .i64 mi,.int .i64 ma,.int .i64 st,.int .i64 fb,.int .i64 ow]),.v (.int .i64 k)]=.br ((decide (k<0)) ||(decide (k≥(pI mi ma st)))) (.ok (.v (.tuple #[.int .i64 0,.int .i64 1]))) (.req ((1≤mi∧mi≤80∧1≤st∧st≤80)∧0≤k∧k≤1000) (.ok (.v (.tuple #[.int .i64 (BX mi st k),.int .i64 0])))):=by kernel_rfl
theorem alA:Valid Tryz.prog aS 27 QE:=aH Tryz.func27 rfl aEl aF (aY (by kernel_rfl)) (fun args lv h=>by
 unfold UR at h
 split at h
 ·simp only [canL,canX]
  rw [ahX]
  rename_i mi ma st _ _ k
  obtain rfl:=h
  have hb:=PW (mi:=mi) (ma:=ma) (st:=st)
  refine ⟨fun c=>?_,fun c=>?_⟩
  ·have c:k<0∨pI mi ma st≤k:=by simpa using c
   simp [T.all,Qv,amE,c]
  ·have c:¬(k<0∨pI mi ma st≤k):=by simpa using c
   have:=dV.1 (awG (mi:=mi) (ma:=ma) (st:=st) (k:=k) (by omega) (by omega))
   refine ⟨⟨⟨by omega,by omega,by omega,by omega⟩,by omega,by omega⟩,?_⟩
   simp [T.all,Qv,amE,c]
 ·cases h)
def acL:List LV→T LV
 | [.v (.agg ⟨[.string _,.int .i64 _,.int .i64 _,.int .i64 mi,.int .i64 ma,.int .i64 st,.int .i64 _,.int .i64 _]⟩),.v (.int .i64 a)]=> .req (a≤9223372036854775807) (.ok (.v (.int .i64 (QN mi ma st a))))
 |_=> .no
noncomputable def qG:List LV→T LV:=gJ Tryz.prog Tryz.f96.params.toList acL
noncomputable def aA6:Specs:=bf [(28,y8)]
theorem aEk:∀g S,aA6 g=some S→Valid Tryz.prog aS g S:=aT (l:=[(28,y8)]) ⟨VE,trivial⟩
theorem aol (nm:ByteArray) (at_ ph mi ma st fb ow a:Int):bT Tryz.prog aS (aA6) dY aC Tryz.f96 [.v (.agg #[.string nm,.int .i64 at_,.int .i64 ph,.int .i64 mi,.int .i64 ma,.int .i64 st,.int .i64 fb,.int .i64 ow]),.v (.int .i64 a)]=.br (((pI mi ma st)==0) ||(decide (a<0))) (.ok (.v (.int .i64 (-1)))) (.br (decide (a<mi)) (.ok (.v (.int .i64 0))) (.req (st≠0) (.ok (.v (.int .i64 (if (IntKind.i64.wrap ((IntKind.i64.wrap ((IntKind.i64.wrap (a-mi)).tdiv st))+1))<(IntKind.i64.wrap ((pI mi ma st)-1)) then IntKind.i64.wrap ((IntKind.i64.wrap ((IntKind.i64.wrap (a-mi)).tdiv st))+1) else IntKind.i64.wrap ((pI mi ma st)-1))))))):=by kernel_rfl
theorem Gv:Valid Tryz.prog aS 96 qG:=aH Tryz.func96 rfl aEk aF (aY (by kernel_rfl)) (fun args lv h=>by
 unfold acL at h
 split at h
 ·simp only [canL,canX]
  rw [aol]
  rename_i mi ma st _ _ a
  obtain ⟨ha,rfl⟩:=h
  have hb:=PW (mi:=mi) (ma:=ma) (st:=st)
  refine ⟨fun c=>congrArg (fun z=>LV.v (.int .i64 z)) ?_,fun c=>⟨fun c2=>congrArg (fun z=>LV.v (.int .i64 z)) ?_,fun c2=>?_⟩⟩
  ·have c:kC mi ma st=false∨a<0:=by
    simp at c
    rcases c with c|c
    ·left
     cases e:kC mi ma st with
     |false=>rfl
     |true=>have:=F5 e;omega
    ·exact .inr c
   simp only [QN,if_pos c]
  all_goals
   simp at c c2
   have hh:kC mi ma st=true:=by
    cases e:kC mi ma st with
    |true=>rfl
    |false=>exact absurd (Ij e) c.1
   have hn:¬(kC mi ma st=false∨a<0):=by simp [hh];omega
   have:=dV.1 hh
  ·simp only [QN,if_neg hn,if_pos c2]
  ·have:=Dv (x:=a-mi) (st:=st) (by omega) (by omega)
   refine ⟨by omega,congrArg (fun z=>LV.v (.int .i64 z)) ?_⟩
   rw [aK (x:=a-mi) (by omega) (by omega),Int.tdiv_eq_ediv_of_nonneg (by omega),aK (x:=(a-mi) / st) (by omega) (by omega),aK (x:=(a-mi) / st+1) (by omega) (by omega),aK (x:=pI mi ma st-1) (by omega) (by omega)]
   simp only [QN,if_neg hn,if_neg (show ¬a<mi by omega)]
   split<;>omega
 ·cases h)
end Go.Proofs.YtlihnbimgclogaaGreatDoor
namespace Go.Proofs.YtlihnbimgclogaaGreatDoor
open Go.Sx
def LX:List LV→T LV
 | [.v (.string w)]=> .ok (.v (.bool (isIn Ei w)))
 |_=> .no
noncomputable def wH:List LV→T LV:=gJ Tryz.prog Tryz.f165.params.toList LX
noncomputable def Xm:Specs:=bf []
theorem aej:∀g S,Xm g=some S→Valid Tryz.prog aS g S:=aT (l:=[]) trivial
theorem ad3 (w:ByteArray):bT Tryz.prog aS (Xm) dY aC Tryz.f165 [.v (.string w)]=.br (w.toList==(ByteArray.mk #[108,105,109,105,116]).toList) (.ok (.v (.bool true))) (.br (w.toList==(ByteArray.mk #[110,101,117,116,114,97,108]).toList) (.ok (.v (.bool true))) (.br (w.toList==(ByteArray.mk #[102,117,115,101]).toList) (.ok (.v (.bool true))) (.br (w.toList==(ByteArray.mk #[116,104,101,114,109,97,108]).toList) (.ok (.v (.bool true))) (.br (w.toList==(ByteArray.mk #[102,114,111,109]).toList) (.ok (.v (.bool true))) (.br (w.toList==(ByteArray.mk #[97,116]).toList) (.ok (.v (.bool true))) (.br (w.toList==(ByteArray.mk #[112,104,97,115,101,115]).toList) (.ok (.v (.bool true))) (.br (w.toList==(ByteArray.mk #[97,109,112,115]).toList) (.ok (.v (.bool true))) (.br (w.toList==(ByteArray.mk #[102,97,108,108,98,97,99,107]).toList) (.ok (.v (.bool true))) (.br (w.toList==(ByteArray.mk #[111,119,110,101,114]).toList) (.ok (.v (.bool true))) (.br (w.toList==(ByteArray.mk #[99,97,114,100]).toList) (.ok (.v (.bool true))) (.br (w.toList==(ByteArray.mk #[114,97,110,107]).toList) (.ok (.v (.bool true))) (.br (w.toList==(ByteArray.mk #[99,104,97,114,103,101,114]).toList) (.ok (.v (.bool true))) (.ok (.v (.bool false))))))))))))))):=by kernel_rfl
theorem QV:Valid Tryz.prog aS 165 wH:=aH Tryz.func165 rfl aej aF (aY (by kernel_rfl)) (fun args lv h=>by
 unfold LX at h
 split at h
 ·simp only [canL,canX]
  rw [ad3]
  obtain rfl:=h
  simp only [tX]
  unfold isIn Ei
  simp only [List.any_cons,List.any_nil]
  refine ⟨fun c0=>by simp [c0,T.all],fun c0=>?_⟩
  rw [c0,Bool.false_or]
  refine ⟨fun c1=>by simp [c1,T.all],fun c1=>?_⟩
  rw [c1,Bool.false_or]
  refine ⟨fun c2=>by simp [c2,T.all],fun c2=>?_⟩
  rw [c2,Bool.false_or]
  refine ⟨fun c3=>by simp [c3,T.all],fun c3=>?_⟩
  rw [c3,Bool.false_or]
  refine ⟨fun c4=>by simp [c4,T.all],fun c4=>?_⟩
  rw [c4,Bool.false_or]
  refine ⟨fun c5=>by simp [c5,T.all],fun c5=>?_⟩
  rw [c5,Bool.false_or]
  refine ⟨fun c6=>by simp [c6,T.all],fun c6=>?_⟩
  rw [c6,Bool.false_or]
  refine ⟨fun c7=>by simp [c7,T.all],fun c7=>?_⟩
  rw [c7,Bool.false_or]
  refine ⟨fun c8=>by simp [c8,T.all],fun c8=>?_⟩
  rw [c8,Bool.false_or]
  refine ⟨fun c9=>by simp [c9,T.all],fun c9=>?_⟩
  rw [c9,Bool.false_or]
  refine ⟨fun c10=>by simp [c10,T.all],fun c10=>?_⟩
  rw [c10,Bool.false_or]
  refine ⟨fun c11=>by simp [c11,T.all],fun c11=>?_⟩
  rw [c11,Bool.false_or]
  refine ⟨fun c12=>by simp [c12,T.all],fun c12=>?_⟩
  rw [c12,Bool.false_or]
  rfl
 ·cases h)
def UK:List LV→T LV
 | [.v (.string w)]=> .ok (.v (.bool (isIn oK w)))
 |_=> .no
noncomputable def Cf:List LV→T LV:=gJ Tryz.prog Tryz.f166.params.toList UK
theorem ahR (w:ByteArray):bT Tryz.prog aS (Xm) dY aC Tryz.f166 [.v (.string w)]=.br (w.toList==(ByteArray.mk #[115,116,97,114,116]).toList) (.ok (.v (.bool true))) (.br (w.toList==(ByteArray.mk #[101,110,101,114,103,121]).toList) (.ok (.v (.bool true))) (.br (w.toList==(ByteArray.mk #[116,105,109,101]).toList) (.ok (.v (.bool true))) (.br (w.toList==(ByteArray.mk #[105,100,108,101]).toList) (.ok (.v (.bool true))) (.br (w.toList==(ByteArray.mk #[99,97,112]).toList) (.ok (.v (.bool true))) (.br (w.toList==(ByteArray.mk #[116,97,120]).toList) (.ok (.v (.bool true))) (.ok (.v (.bool false)))))))):=by kernel_rfl
theorem YT:Valid Tryz.prog aS 166 Cf:=aH Tryz.func166 rfl aej aF (aY (by kernel_rfl)) (fun args lv h=>by
 unfold UK at h
 split at h
 ·simp only [canL,canX]
  rw [ahR]
  obtain rfl:=h
  simp only [tX]
  unfold isIn oK
  simp only [List.any_cons,List.any_nil]
  refine ⟨fun c0=>by simp [c0,T.all],fun c0=>?_⟩
  rw [c0,Bool.false_or]
  refine ⟨fun c1=>by simp [c1,T.all],fun c1=>?_⟩
  rw [c1,Bool.false_or]
  refine ⟨fun c2=>by simp [c2,T.all],fun c2=>?_⟩
  rw [c2,Bool.false_or]
  refine ⟨fun c3=>by simp [c3,T.all],fun c3=>?_⟩
  rw [c3,Bool.false_or]
  refine ⟨fun c4=>by simp [c4,T.all],fun c4=>?_⟩
  rw [c4,Bool.false_or]
  refine ⟨fun c5=>by simp [c5,T.all],fun c5=>?_⟩
  rw [c5,Bool.false_or]
  rfl
 ·cases h)
def UI:List LV→T LV
 | [.v (.string w)]=> .ok (.v (.bool (isIn words w)))
 |_=> .no
noncomputable def Ce:List LV→T LV:=gJ Tryz.prog Tryz.f169.params.toList UI
theorem ahP (w:ByteArray):bT Tryz.prog aS (Xm) dY aC Tryz.f169 [.v (.string w)]=.br (w.toList==(ByteArray.mk #[111,110]).toList) (.ok (.v (.bool true))) (.br (w.toList==(ByteArray.mk #[119,111,114,107]).toList) (.ok (.v (.bool true))) (.br (w.toList==(ByteArray.mk #[115,97,116,117,114,100,97,121]).toList) (.ok (.v (.bool true))) (.br (w.toList==(ByteArray.mk #[115,117,110,100,97,121]).toList) (.ok (.v (.bool true))) (.br (w.toList==(ByteArray.mk #[98,101,116,119,101,101,110]).toList) (.ok (.v (.bool true))) (.br (w.toList==(ByteArray.mk #[112,101,114]).toList) (.ok (.v (.bool true))) (.br (w.toList==(ByteArray.mk #[102,114,101,101]).toList) (.ok (.v (.bool true))) (.ok (.v (.bool false))))))))):=by kernel_rfl
theorem YS:Valid Tryz.prog aS 169 Ce:=aH Tryz.func169 rfl aej aF (aY (by kernel_rfl)) (fun args lv h=>by
 unfold UI at h
 split at h
 ·simp only [canL,canX]
  rw [ahP]
  obtain rfl:=h
  simp only [tX]
  unfold isIn words
  simp only [List.any_cons,List.any_nil]
  refine ⟨fun c0=>by simp [c0,T.all],fun c0=>?_⟩
  rw [c0,Bool.false_or]
  refine ⟨fun c1=>by simp [c1,T.all],fun c1=>?_⟩
  rw [c1,Bool.false_or]
  refine ⟨fun c2=>by simp [c2,T.all],fun c2=>?_⟩
  rw [c2,Bool.false_or]
  refine ⟨fun c3=>by simp [c3,T.all],fun c3=>?_⟩
  rw [c3,Bool.false_or]
  refine ⟨fun c4=>by simp [c4,T.all],fun c4=>?_⟩
  rw [c4,Bool.false_or]
  refine ⟨fun c5=>by simp [c5,T.all],fun c5=>?_⟩
  rw [c5,Bool.false_or]
  refine ⟨fun c6=>by simp [c6,T.all],fun c6=>?_⟩
  rw [c6,Bool.false_or]
  rfl
 ·cases h)
def acP:List LV→T LV
 | [.v (.string w)]=> .ok (.v (.int .i64 (aed 1 kinds w)))
 |_=> .no
noncomputable def Yp:List LV→T LV:=gJ Tryz.prog Tryz.f168.params.toList acP
theorem aop (w:ByteArray):bT Tryz.prog aS (Xm) dY aC Tryz.f168 [.v (.string w)]=.br (w.toList==(ByteArray.mk #[102,101,101,100,101,114]).toList) (.ok (.v (.int .i64 1))) (.br (w.toList==(ByteArray.mk #[99,97,98,108,101]).toList) (.ok (.v (.int .i64 2))) (.br (w.toList==(ByteArray.mk #[111,119,110,101,114]).toList) (.ok (.v (.int .i64 3))) (.br (w.toList==(ByteArray.mk #[99,111,110,116,114,97,99,116]).toList) (.ok (.v (.int .i64 4))) (.br (w.toList==(ByteArray.mk #[99,104,97,114,103,101,114]).toList) (.ok (.v (.int .i64 5))) (.br (w.toList==(ByteArray.mk #[98,97,121]).toList) (.ok (.v (.int .i64 6))) (.br (w.toList==(ByteArray.mk #[116,97,114,105,102,102]).toList) (.ok (.v (.int .i64 7))) (.ok (.v (.int .i64 0))))))))):=by kernel_rfl
theorem atv:Valid Tryz.prog aS 168 Yp:=aH Tryz.func168 rfl aej aF (aY (by kernel_rfl)) (fun args lv h=>by
 unfold acP at h
 split at h
 ·simp only [canL,canX]
  rw [aop]
  obtain rfl:=h
  simp only [tX]
  simp only [aed,kinds]
  refine ⟨fun c0=>by rw [if_pos c0];rfl,fun c0=>?_⟩
  rw [if_neg (by simp [c0])]
  refine ⟨fun c1=>by rw [if_pos c1];rfl,fun c1=>?_⟩
  rw [if_neg (by simp [c1])]
  refine ⟨fun c2=>by rw [if_pos c2];rfl,fun c2=>?_⟩
  rw [if_neg (by simp [c2])]
  refine ⟨fun c3=>by rw [if_pos c3];rfl,fun c3=>?_⟩
  rw [if_neg (by simp [c3])]
  refine ⟨fun c4=>by rw [if_pos c4];rfl,fun c4=>?_⟩
  rw [if_neg (by simp [c4])]
  refine ⟨fun c5=>by rw [if_pos c5];rfl,fun c5=>?_⟩
  rw [if_neg (by simp [c5])]
  refine ⟨fun c6=>by rw [if_pos c6];rfl,fun c6=>?_⟩
  rw [if_neg (by simp [c6])]
  rfl
 ·cases h)
def UJ:List LV→T LV
 | [.v (.string w)]=> .ok (.v (.bool (FK w)))
 |_=> .no
noncomputable def Qz:List LV→T LV:=gJ Tryz.prog Tryz.f164.params.toList UJ
noncomputable def aA5:Specs:=bf [(165,wH),(166,Cf),(168,Yp),(169,Ce)]
theorem aEj:∀g S,aA5 g=some S→Valid Tryz.prog aS g S:=aT (l:=[(165,wH),(166,Cf),(168,Yp),(169,Ce)]) ⟨QV,YT,atv,YS,trivial⟩
theorem ahQ (w:ByteArray):bT Tryz.prog aS (aA5) dY aC Tryz.f164 [.v (.string w)]=.ok (.v (.bool (((aed 1 kinds w) !=0) ||((isIn Ei w) ||((isIn oK w) ||(isIn words w)))))):=by kernel_rfl
theorem als:Valid Tryz.prog aS 164 Qz:=aH Tryz.func164 rfl aEj aF (aY (by kernel_rfl)) (fun args lv h=>by
 unfold UJ at h
 split at h
 ·simp only [canL,canX]
  rw [ahQ]
  obtain rfl:=h
  show LV.v (.bool _)=_
  rw [Tv 1 kinds _ (by decide)]
  rfl
 ·cases h)
structure wL where
 text:ByteArray
 r:Bool
 i:Int
def aED (s:wL):List LV:=[.v (.string s.text),.v (.bool s.r),.v (.int .i64 s.i)]
def aEv (_:wL):List aU:=[]
noncomputable def Gn:Code:=((aB (Tryz.f163.body.getD .skip))[0]?).getD .skip
def alF (s:wL):T (Rd wL):=
 .br (decide (s.i<(s.text.size:Int))) (.req (0≤s.i∧s.i<(s.text.size:Int)) (.br (if decide ((sG s.text s.i)≥97) then !(decide ((sG s.text s.i)≤122))&&(if decide ((sG s.text s.i)≥48) then !(decide ((sG s.text s.i)≤57))&&(!((sG s.text s.i)==95)) else !((sG s.text s.i)==95)) else if decide ((sG s.text s.i)≥48) then !(decide ((sG s.text s.i)≤57))&&(!((sG s.text s.i)==95)) else !((sG s.text s.i)==95)) (.ok (.stop (.ret) {s with r:=false})) (.ok (.next {s with i:=(IntKind.i64.wrap (s.i+1))})))) (.ok (.stop (.exit 0) s))
abbrev aBf (s:wL):=(alF s).rd s
def Ky (s:wL) (j:Int):Bool:=decide (j<1) ||(chB (sG s.text j))
def aqj (s:wL):Prop:=s.i=1∧1≤(s.text.size:Int)∧(s.text.size:Int)≤1000∧True
def aeD (s:wL):Prop:=1≤s.i∧s.i≤(s.text.size:Int)∧(s.text.size:Int)≤1000∧(True)∧∀j:Nat,(j:Int)<s.i→Ky s j=true
def aaq (s:wL):Nat:=((s.text.size:Int)-s.i).toNat
def axF (x:Ex) (_ s':wL):Prop:=(x=.exit 0∧∀j:Nat,(j:Int)<(s'.text.size:Int)→Ky s' j=true)∨(x=.ret∧s'.r=false∧∃j:Nat,(j:Int)<(s'.text.size:Int)∧Ky s' j=false)
theorem aEg:∀s,aqj s→aeD s:=by
 intro s h
 obtain ⟨h0,h1,h2,h3⟩:=h
 exact ⟨by omega,by omega,h2,h3,fun j hj=>by unfold Ky;rw [decide_eq_true (by omega)];rfl⟩
theorem aAN (s:wL) (hI:aeD s):bJ (fun s'=>aeD s'∧aaq s'<aaq s) (fun x s'=>axF x s s') (aBf s):=by
 unfold aBf alF
 dsimp only [T.rd,T.rl]
 obtain ⟨h0,h1,h2,h3,h4⟩:=hI
 refine au (fun c1=>au (fun c2=>?_) (fun c2=>?_)) (fun c1=>?_)
 ·have c1:s.i<(s.text.size:Int):=by simpa using c1
  refine .inr ⟨rfl,rfl,s.i.toNat,by simp only;omega,?_⟩
  rw [Int.toNat_of_nonneg (by omega)]
  have hg:Ky s s.i=false:=by unfold Ky;(simp only [show decide (s.i<1)=false from decide_eq_false (by omega),Bool.false_or];(simp only [chB,chA];revert c2;generalize sG s.text s.i=b;intro c2;by_cases h1:b≥97<;>by_cases h2:b≤122<;>by_cases h3:b≥48<;>by_cases h4:b≤57<;>simp_all))
  exact hg
 ·have c1:s.i<(s.text.size:Int):=by simpa using c1
  have hg:Ky s s.i=true:=by unfold Ky;(simp only [show decide (s.i<1)=false from decide_eq_false (by omega),Bool.false_or];(simp only [chB,chA];revert c2;generalize sG s.text s.i=b;intro c2;by_cases h1:b≥97<;>by_cases h2:b≤122<;>by_cases h3:b≥48<;>by_cases h4:b≤57<;>simp_all))
  rw [aK (x:=s.i+1) (by omega) (by omega)]
  refine ⟨⟨by simp only;omega,by simp only;omega,h2,h3,fun j hj=>?_⟩,by simp only [aaq];omega⟩
  by_cases hji:(j:Int)<s.i
  ·exact h4 j hji
  ·have:(j:Int)=s.i:=by simp only at hj;omega
   rw [this];exact hg
 ·have c1:(s.text.size:Int)≤s.i:=by simpa using c1
  exact .inl ⟨rfl,fun j hj=>h4 j (by omega)⟩
def Vp:bK wL:=⟨0,51,[0,2,3],[],aED,aEv,fun v _=>⟨gSr (v.getD 0 .junk),uT (v.getD 1 .junk),gI (v.getD 2 .junk)⟩,alF,fun s r=> {r with text:=s.text},fun s=>s,fun _ s=>s,[.ret,.exit 0],aqj,aeD,aaq⟩
abbrev Oc:=Vp.run
abbrev ajd:=Vp.jG
abbrev aBN:=Vp.q
theorem azD (s:wL) (hI:aeD s):(alF s).all (fun _=>True):=by
 refine ⟨fun c1=>⟨?_,fun _=>trivial,fun _=>trivial⟩,fun _=>trivial⟩
 ·(obtain ⟨h0,h1,h2,h3,h4⟩:=hI;simp at c1;omega)
theorem aqJ:Vp.Ok:=⟨fun s=>by kernel_rfl,fun s=>by kernel_rfl,fun s=>rfl,fun s t r=>rfl,fun s=>rfl,fun s=>by kernel_rfl⟩
theorem aqC:Vp.Pf (axF):=⟨aEg,fun _ _=>rfl,aAN,azD⟩
theorem atZ:bn Tryz.prog aS (AN 0) (.loop Gn) Vp.lp:=bK.snd aqJ aqC (aP (Γ:=Xm) (K:=dY) (L:=aC) aej aF Gn (fun b hb=>by rw [show aB Gn=[] by kernel_rfl] at hb;cases hb)) (fun s=>by kernel_rfl)
theorem awI (s:wL) (hE:aqj s):∃s',aeD s'∧axF (ajd s) s' (Oc s):=bK.fin aqJ aqC s hE
def UN:List LV→T LV
 | [.v (.string w)]=> .ok (.v (.bool (gwB w)))
 |_=> .no
noncomputable def QB:List LV→T LV:=gJ Tryz.prog Tryz.f163.params.toList UN
theorem ahU (w:ByteArray):bT Tryz.prog aS (Xm) dY (fun i=>if i=4 then Vp.lp else aC i) Tryz.f163 [.v (.string w)]=.br (decide ((w.size:Int)<1)) (.ok (.v (.bool false))) (.br (decide ((w.size:Int)>12)) (.ok (.v (.bool false))) (.req (0≤(0:Int)∧(0:Int)<(w.size:Int)) (.br (decide ((sG w (0:Int))<97)) (.ok (.v (.bool false))) (.req (0≤(0:Int)∧(0:Int)<(w.size:Int)) (.br (decide ((sG w (0:Int))>122)) (.ok (.v (.bool false))) (.req (aBN (⟨w,false,(1:Int)⟩:wL)) (.br (iw (ajd (⟨w,false,(1:Int)⟩:wL)) (.ret)) (.ok (.v (.bool (Oc (⟨w,false,(1:Int)⟩:wL)).r))) (.ok (.v (.bool true)))))))))):=by kernel_rfl
theorem alv:Valid Tryz.prog aS 163 QB:=aH Tryz.func163 rfl aej aF (L:=(fun i=>if i=4 then Vp.lp else aC i)) (fun b hb=>by
 rw [show aB _=[Gn] by kernel_rfl] at hb
 simp only [List.mem_cons,List.not_mem_nil,or_false] at hb
 subst hb
 exact atZ) (fun args lv h=>by
 unfold UN at h
 split at h
 ·simp only [canL,canX]
  rw [ahU]
  rename_i w
  obtain rfl:=h
  have bad:¬(((1≤w.size∧w.size≤12)∧(97≤sG w 0∧sG w 0≤122)))→LV.v (.bool false)=LV.v (.bool (gwB w)):=fun hn=>congrArg (fun z=>LV.v (.bool z)) (by
   rw [eq_comm,Bool.eq_false_iff];intro h
   simp only [gwB,chA,Bool.and_eq_true,decide_eq_true_eq] at h
   exact hn ⟨h.1,by omega,by omega⟩)
  refine ⟨fun c=>bad (by simp at c;omega),fun c=>⟨fun c2=>bad (by simp at c2;omega),fun c2=>⟨by simp at c;omega,fun c3=>bad (by simp at c3;omega),fun c3=>⟨by simp at c;omega,fun c4=>bad (by simp at c4;omega),fun c4=>?_⟩⟩⟩⟩
  simp only [decide_eq_false_iff_not] at c c2 c3 c4
  have hE:aqj ⟨w,false,1⟩:=⟨rfl,by simp only;omega,by simp only;omega,trivial⟩
  have key:gwB w=(List.range w.size).all fun i=>i==0 ||chB (sG w i):=by
   simp only [gwB,chA]
   rw [decide_eq_true (by omega),decide_eq_true (by omega),decide_eq_true (by omega)]
   rfl
  obtain ⟨s',_,hq⟩:=awI _ hE
  refine ⟨⟨hE,rfl,rfl⟩,?_⟩
  rw [key]
  rcases hq with ⟨h1,h2⟩ |⟨h1,h2,j,h3,h4⟩
  ·rw [h1]
   refine ⟨fun h=>(by cases h),fun _=>congrArg (fun z=>LV.v (.bool z)) ?_⟩
   rw [eq_comm,List.all_eq_true]
   intro i hi
   have:=h2 i (by show (i:Int)<(w.size:Int);have:=List.mem_range.1 hi;omega)
   simp only [Ky] at this
   rw [show (Oc ⟨w,false,1⟩).text=w from rfl] at this
   rw [Bool.or_eq_true] at this
   rcases this with h|h
   ·have:i=0:=by simp at h;omega
    simp [this]
   ·rw [h];simp
  ·rw [h1,h2]
   refine ⟨fun _=>congrArg (fun z=>LV.v (.bool z)) ?_,fun h=>by cases h⟩
   rw [eq_comm,Bool.eq_false_iff]
   intro hx
   rw [List.all_eq_true] at hx
   have h3:(j:Int)<(w.size:Int):=h3
   have:=hx j (List.mem_range.2 (by omega))
   simp only [Ky] at h4
   rw [show (Oc ⟨w,false,1⟩).text=w from rfl] at h4
   rw [Bool.or_eq_false_iff] at h4
   have h5:=h4.1
   simp at h5
   rw [h4.2] at this
   simp at this
   omega
 ·cases h)
def UO:List LV→T LV
 | [.v (.string w)]=> .ok (.v (.bool (nameB w)))
 |_=> .no
noncomputable def QC:List LV→T LV:=gJ Tryz.prog Tryz.f159.params.toList UO
noncomputable def aA4:Specs:=bf [(163,QB),(164,Qz)]
theorem aEi:∀g S,aA4 g=some S→Valid Tryz.prog aS g S:=aT (l:=[(163,QB),(164,Qz)]) ⟨alv,als,trivial⟩
theorem ahV (w:ByteArray):bT Tryz.prog aS (aA4) dY aC Tryz.f159 [.v (.string w)]=.ok (.v (.bool ((gwB w)&&(!(FK w))))):=by kernel_rfl
theorem aly:Valid Tryz.prog aS 159 QC:=aH Tryz.func159 rfl aEi aF (aY (by kernel_rfl)) (fun args lv h=>by
 unfold UO at h
 split at h
 ·simp only [canL,canX]
  rw [ahV]
  exact h
 ·cases h)
def acT:List LV→T LV
 | [.v (.string w)]=> .ok (.v (.bool (nameB w)))
 |_=> .no
noncomputable def Yt:List LV→T LV:=gJ Tryz.prog Tryz.f99.params.toList acT
noncomputable def ao2:Specs:=bf [(159,QC),(165,wH),(166,Cf),(169,Ce)]
theorem awM:∀g S,ao2 g=some S→Valid Tryz.prog aS g S:=aT (l:=[(159,QC),(165,wH),(166,Cf),(169,Ce)]) ⟨aly,QV,YT,YS,trivial⟩
noncomputable def aAM:Hand:=inl Tryz.prog aS ao2 (lX Tryz.prog aS (ao2) 20 2) 9
theorem aEf:dL Tryz.prog aS aAM:=bQ awM (dQ awM) 9
theorem aot (w:ByteArray):bT Tryz.prog aS (ao2) aAM aC Tryz.f99 [.v (.string w)]=.br (((1:Int) !=1) ||((!(ByteArray.empty.toList==(ByteArray.mk #[]).toList)) ||((0:Int) !=0))) (.ok (.v (.bool false))) (.br (((2:Int) !=2) ||((decide ((3:Int)<1)) ||((decide ((3:Int)>7)) ||(!(nameB w))))) (.br (!false) (.ok (.v (.bool false))) (.ok (.v (.bool true)))) (.br (!true) (.ok (.v (.bool false))) (.ok (.v (.bool true))))):=by kernel_rfl
theorem aty:Valid Tryz.prog aS 99 Yt:=aH Tryz.func99 rfl awM aEf (aY (by kernel_rfl)) (fun args lv h=>by
 unfold acT at h
 split at h
 ·simp only [canL,canX]
  rw [aot]
  rename_i w
  obtain rfl:=h
  refine ⟨fun c=>?_,fun _=>?_⟩
  ·exfalso
   rw [tX] at c
   revert c
   decide
  ·cases nameB w<;>simp [T.all]
 ·cases h)
end Go.Proofs.YtlihnbimgclogaaGreatDoor
namespace Go.Proofs.YtlihnbimgclogaaGreatDoor
open Go.Sx
def UM:List LV→T LV
 | [.v (.agg ⟨[.int .i64 a,.int .i64 b]⟩),.v (.int .i64 n)]=> .ok (.v (.bool (inB n a b)))
 |_=> .no
noncomputable def uK:List LV→T LV:=gJ Tryz.prog Tryz.f127.params.toList UM
noncomputable def ao1:Specs:=bf []
theorem awL:∀g S,ao1 g=some S→Valid Tryz.prog aS g S:=aT (l:=[]) trivial
theorem ahT (a b n:Int):bT Tryz.prog aS (ao1) dY aC Tryz.f127 [.v (.agg #[.int .i64 a,.int .i64 b]),.v (.int .i64 n)]=.ok (.v (.bool ((decide (n≥a))&&(decide (n≤b))))):=by kernel_rfl
theorem NM:Valid Tryz.prog aS 127 uK:=aH Tryz.func127 rfl awL aF (aY (by kernel_rfl)) (fun args lv h=>by
 unfold UM at h
 split at h
 ·simp only [canL,canX]
  rw [ahT]
  exact h
 ·cases h)
def acU:List LV→T LV
 | [.v (.agg ⟨[.int .i64 am,.int .i64 mo,.int .i64 _,.int .i64 _,.int .i64 _]⟩)]=> .ok (.v (.bool (decide (mo>am))))
 |_=> .no
noncomputable def Yu:List LV→T LV:=gJ Tryz.prog Tryz.f150.params.toList acU
theorem aou (am mo ga lo de:Int):bT Tryz.prog aS (ao1) dY aC Tryz.f150 [.v (.agg #[.int .i64 am,.int .i64 mo,.int .i64 ga,.int .i64 lo,.int .i64 de])]=.ok (.v (.bool (decide (mo>am)))):=by kernel_rfl
theorem atz:Valid Tryz.prog aS 150 Yu:=aH Tryz.func150 rfl awL aF (aY (by kernel_rfl)) (fun args lv h=>by
 unfold acU at h
 split at h
 ·simp only [canL,canX]
  rw [aou]
  exact h
 ·cases h)
def acV:List LV→T LV
 | [.v (.agg ⟨[.string _,.int .i64 _,.int .i64 _,.int .i64 mi,.int .i64 ma,.int .i64 _,.int .i64 fb,.int .i64 _]⟩)]=> .ok (.v (.bool (decide (mi≤ma)&&((fb==0) ||inB fb mi ma))))
 |_=> .no
noncomputable def Yv:List LV→T LV:=gJ Tryz.prog Tryz.f151.params.toList acV
theorem aov (nm:ByteArray) (at_ ph mi ma st fb ow:Int):bT Tryz.prog aS (ao1) dY aC Tryz.f151 [.v (.agg #[.string nm,.int .i64 at_,.int .i64 ph,.int .i64 mi,.int .i64 ma,.int .i64 st,.int .i64 fb,.int .i64 ow])]=.ok (.v (.bool ((decide (mi≤ma))&&((fb==0) ||((decide (fb≥mi))&&(decide (fb≤ma))))))):=by kernel_rfl
theorem atA:Valid Tryz.prog aS 151 Yv:=aH Tryz.func151 rfl awL aF (aY (by kernel_rfl)) (fun args lv h=>by
 unfold acV at h
 split at h
 ·simp only [canL,canX]
  rw [aov]
  exact h
 ·cases h)
def ab8:List LV→T LV
 | [.v (.agg ⟨[.string nm,.int .i64 vF,.int .i64 li,.int .i64 ne,.int .i64 ra,.int .i64 he,.int .i64 am,.int .i64 mo,.int .i64 ga,.int .i64 lo,.int .i64 de]⟩),.v (.int .i64 i)]=> .req (0≤i) (.ok (.v (.bool (Eh i (nm,vF,li,ne,(ra,he),am,mo,ga,lo,de)))))
 |_=> .no
noncomputable def XY:List LV→T LV:=gJ Tryz.prog Tryz.f126.params.toList ab8
noncomputable def arK:Specs:=bf [(127,uK),(150,Yu)]
theorem aA2:∀g S,arK g=some S→Valid Tryz.prog aS g S:=aT (l:=[(127,uK),(150,Yu)]) ⟨NM,atz,trivial⟩
theorem anQ (nm:ByteArray) (vF li ne ra he am mo ga lo de i:Int):bT Tryz.prog aS (arK) dY aC Tryz.f126 [.v (.agg #[.string nm,.int .i64 vF,.int .i64 li,.int .i64 ne,.int .i64 ra,.int .i64 he,.int .i64 am,.int .i64 mo,.int .i64 ga,.int .i64 lo,.int .i64 de]),.v (.int .i64 i)]=.br (if i==0 then (vF !=(-1)) ||((decide (i>0))&&((decide (vF<0)) ||(decide (vF≥i)))) else (decide (i>0))&&((decide (vF<0)) ||(decide (vF≥i)))) (.ok (.v (.bool false))) (.br ((!(inB li (1:Int) (1000:Int))) ||(!(inB ne (1:Int) (1000:Int)))) (.ok (.v (.bool false))) (.br ((!((ra==0)&&(he==0)))&&(!(inB ra (1:Int) (1000:Int)) ||(!(inB he (0:Int) (1000000:Int))))) (.ok (.v (.bool false))) (.br ((am==0)&&((mo==0)&&((ga==0)&&((lo==0)&&(de==0))))) (.ok (.v (.bool true))) (.ok (.v (.bool ((inB am (0:Int) (200000:Int))&&((inB mo (0:Int) (200000:Int))&&((inB ga (0:Int) (1000:Int))&&((inB lo (0:Int) (1000:Int))&&((inB de (1:Int) (1000000:Int))&&(decide (mo>am))))))))))))):=by kernel_rfl
theorem as3:Valid Tryz.prog aS 126 XY:=aH Tryz.func126 rfl aA2 aF (aY (by kernel_rfl)) (fun args lv h=>by
 unfold ab8 at h
 split at h
 ·simp only [canL,canX]
  rw [anQ]
  obtain ⟨hi,h⟩:=h
  exact axp (K:=fun z=>LV.v (.bool z)=lv) hi h
 ·cases h)
def ab9:List LV→T LV
 | [.agg [.xl (.pair .str (.pair (.int .i64) (.pair (.int .i64) (.pair (.int .i64) (.pair (.pair (.int .i64) (.int .i64)) (.pair (.int .i64) (.pair (.int .i64) (.pair (.int .i64) (.pair (.int .i64) (.int .i64)))))))))) cs,.xl (.str) os,.xl (.pair .str (.pair (.int .i64) (.pair (.int .i64) (.int .i64)))) _,.xl (.pair .str (.pair (.int .i64) (.pair (.int .i64) (.pair (.int .i64) (.pair (.int .i64) (.pair (.int .i64) (.pair (.int .i64) (.int .i64)))))))) _,.xl (.pair .str (.int .i64)) _],.v (.agg ⟨[.string nm,.int .i64 at_,.int .i64 ph,.int .i64 mi,.int .i64 ma,.int .i64 st,.int .i64 fb,.int .i64 ow]⟩)]=> .req ((List.length cs:Int)≤1000∧(List.length os:Int)≤1000) (.ok (.v (.bool (Gi cs.length os.length (nm,at_,ph,mi,ma,st,fb,ow)))))
 |_=> .no
noncomputable def XZ:List LV→T LV:=gJ Tryz.prog Tryz.f128.params.toList ab9
noncomputable def arJ:Specs:=bf [(127,uK),(151,Yv)]
theorem aA1:∀g S,arJ g=some S→Valid Tryz.prog aS g S:=aT (l:=[(127,uK),(151,Yv)]) ⟨NM,atA,trivial⟩
theorem anR (cs:List Cd) (os:List ByteArray) (ks:List Ko) (gs:List Ch) (bs:List Ba) (nm:ByteArray) (at_ ph mi ma st fb ow:Int):bT Tryz.prog aS (arJ) dY aC Tryz.f128 [.agg [.xl dU cs,.xl .str os,.xl dW ks,.xl dM gs,.xl dX bs],.v (.agg #[.string nm,.int .i64 at_,.int .i64 ph,.int .i64 mi,.int .i64 ma,.int .i64 st,.int .i64 fb,.int .i64 ow])]=.ok (.v (.bool ((inB at_ (0:Int) (IntKind.i64.wrap ((List.length cs:Int)-1)))&&((inB ow (0:Int) (IntKind.i64.wrap ((List.length os:Int)-1)))&&((inB ph (1:Int) (7:Int))&&((inB mi (1:Int) (80:Int))&&((inB ma (1:Int) (80:Int))&&((inB st (1:Int) (80:Int))&&((inB fb (0:Int) (80:Int))&&(decide (mi≤ma)&&((fb==0) ||inB fb mi ma))))))))))):=by kernel_rfl
theorem as4:Valid Tryz.prog aS 128 XZ:=aH Tryz.func128 rfl aA1 aF (aY (by kernel_rfl)) (fun args lv h=>by
 unfold ab9 at h
 split at h
 ·simp only [canL,canX]
  rw [anR]
  rename_i cs os _ _ _ _ at_ ph mi ma st fb ow
  obtain ⟨⟨h1,h2⟩,rfl⟩:=h
  refine congrArg (fun z=>LV.v (.bool z)) ?_
  rw [aK (x:=(List.length cs:Int)-1) (by omega) (by omega),aK (x:=(List.length os:Int)-1) (by omega) (by omega)]
  unfold Gi chW
  rw [Bool.eq_iff_iff]
  simp only [Bool.and_eq_true,Bool.or_eq_true,eU,decide_eq_true_eq,beq_iff_eq]
  omega
 ·cases h)
end Go.Proofs.YtlihnbimgclogaaGreatDoor
namespace Go.Proofs.YtlihnbimgclogaaGreatDoor
open Go.Sx
structure iR where
 l:List Cd
 n:Int
 i:Int
 ah:List Cd
 aA:List ByteArray
 aj:List Ko
 ai:List Ch
 aJ:List Ba
 out:List ByteArray
def aDt (s:iR):List LV:=[.own 0 0,.os 1 1 0 (List.length s.out),.xl dU s.l,.v (.int .i64 s.n),.v (.int .i64 s.i)]
def aCs (s:iR):List aU:=[⟨[.xl dU s.ah,.xl .str s.aA,.xl dW s.aj,.xl dM s.ai,.xl dX s.aJ],28,.cl,false⟩,⟨[],9,.vec .str s.out,false⟩]
noncomputable def Bv:Code:=((aB (Tryz.f98.body.getD .skip))[0]?).getD .skip
def Ry (s:iR):T (Rd iR):=
 .br (decide (s.i<s.n)) (.req (0≤s.i∧s.i<(List.length s.l:Int)) (.req (0+(List.length s.out)=List.length s.out∧((List.length s.out+List.length ([(fO s.l s.i).1]):Nat):Int)*16≤2^47∧((List.length s.out+List.length ([(fO s.l s.i).1]):Nat):Int)<2^62) (.req (0=0∧(List.length s.out+List.length ([(fO s.l s.i).1]))=List.length (s.out++([(fO s.l s.i).1]))) (.ok (.next {s with i:=(IntKind.i64.wrap (s.i+1)),out:=(s.out++([(fO s.l s.i).1]))}))))) (.rl s.out (.ok (.stop (.exit 0) s)))
abbrev abf (s:iR):=(Ry s).rd s
def Vg (s:iR):Prop:=s.i=0∧s.n=(s.l.length:Int)∧s.n≤1000∧(s.out.length:Int)≤10000
def Na (s:iR):Prop:=0≤s.i∧s.i≤s.n∧s.n=(s.l.length:Int)∧s.n≤1000∧(s.out.length:Int)≤10000+s.i
def O6 (s:iR):Nat:=(s.n-s.i).toNat
def akw (x:Ex) (_ s':iR):Prop:=x=.exit 0∧s'.i=s'.n
theorem aAi:∀s,Vg s→Na s:=by
 intro s h
 obtain ⟨h0,h1,h2,h3⟩:=h
 exact ⟨by omega,by omega,h1,h2,by omega⟩
theorem avU (s:iR) (hI:Na s):bJ (fun s'=>Na s'∧O6 s'<O6 s) (fun x s'=>akw x s s') (abf s):=by
 unfold abf Ry
 dsimp only [T.rd,T.rl]
 obtain ⟨h0,h1,h2,h3,h4⟩:=hI
 refine au (fun c1=>?_) (fun c1=>?_)
 ·have c1:s.i<s.n:=by simpa using c1
  rw [aK (x:=s.i+1) (by omega) (by omega)]
  exact ⟨⟨by simp only;omega,by simp only;omega,h2,h3,by simp only [List.length_append,List.length_cons,List.length_nil];omega⟩,by simp only [O6];omega⟩
 ·have c1:s.n≤s.i:=by simpa using c1
  exact ⟨rfl,by omega⟩
def EY:bK iR:=⟨0,80,[1,3,15,16,17],[.nl 3 9 .str],aDt,aCs,fun v b=>⟨aQ dU (v.getD 2 .junk),gI (v.getD 3 .junk),gI (v.getD 4 .junk),aQ dU (aX (aO b 0) 0),aQ .str (aX (aO b 0) 1),aQ dW (aX (aO b 0) 2),aQ dM (aX (aO b 0) 3),aQ dX (aX (aO b 0) 4),iT .str (aO b 1)⟩,Ry,fun s r=> {r with l:=s.l,n:=s.n,ah:=s.ah,aA:=s.aA,aj:=s.aj,ai:=s.ai,aJ:=s.aJ},fun s=>s,fun _ s=>s,[.exit 0],Vg,Na,O6⟩
abbrev gK:=EY.run
abbrev apx:=EY.jG
abbrev ayj:=EY.q
theorem auY (s:iR) (hI:Na s):(Ry s).all (fun _=>True):=by
 refine ⟨fun c1=>⟨?_,?_,?_,trivial⟩,fun c1=>⟨⟨rfl,rfl⟩,trivial⟩⟩
 all_goals ((obtain ⟨h0,h1,h2,h3,h4⟩:=hI;(try simp only [decide_eq_true_eq] at c1);first|omega|(refine ⟨by omega,?_,?_⟩<;>simp only [List.length_cons,List.length_nil]<;>omega) |(simp only [List.length_append,List.length_cons,List.length_nil];omega) |exact ⟨rfl,by simp⟩ |exact ⟨rfl,rfl⟩))
noncomputable def IQ:Specs:=bf []
theorem Lp:∀g S,IQ g=some S→Valid Tryz.prog aS g S:=aT (l:=[]) trivial
theorem WA:EY.Ok:=⟨fun s=>by kernel_rfl,fun s=>by kernel_rfl,fun s=>rfl,fun s t r=>rfl,fun s=>rfl,fun s=>by kernel_rfl⟩
theorem V5:EY.Pf (akw):=⟨aAi,fun _ _=>rfl,avU,auY⟩
theorem aml:bn Tryz.prog aS (AN 0) (.loop Bv) EY.lp:=bK.snd WA V5 (aP (Γ:=IQ) (K:=dY) (L:=aC) Lp aF Bv (fun b hb=>by rw [show aB Bv=[] by kernel_rfl] at hb;cases hb)) (fun s=>by kernel_rfl)
theorem anK (s:iR) (hE:Vg s):∃s',Na s'∧akw (apx s) s' (gK s):=bK.fin WA V5 s hE
theorem anJ (s:iR) (hE:Vg s):(gK s).out=s.out++s.l.map (·.1):=by
 have hk:=bK.uS WA V5 (fun s=>s.out++(s.l.drop s.i.toNat).map (·.1)) (fun s hI=>by
  obtain ⟨h0,h1,h2,h3,h4⟩:=hI
  show bJ _ _ (abf s)
  unfold abf Ry
  dsimp only [T.rd,T.rl]
  refine au (fun c1=>?_) (fun c1=>?_)
  ·have c1:s.i<s.n:=by simpa using c1
   rw [aK (x:=s.i+1) (by omega) (by omega)]
   show _++_=_++_
   simp only
   rw [(TP h0 (show s.i<s.l.length by omega)).1]
   simp
  ·rfl) s hE
 obtain ⟨s',hI,q1,q2⟩:=anK s hE
 have q3:(gK s).i=(gK s).n:=q2
 have hn:(gK s).n=(s.l.length:Int):=hE.2.1
 have hl:(gK s).l=s.l:=rfl
 rw [q3,hn,hl,List.drop_eq_nil_of_le (by omega),hE.1] at hk
 simpa using hk
structure jy where
 l:List ByteArray
 n:Int
 i:Int
 ah:List Cd
 aA:List ByteArray
 aj:List Ko
 ai:List Ch
 aJ:List Ba
 out:List ByteArray
def aDs (s:jy):List LV:=[.own 0 0,.os 1 1 0 (List.length s.out),.xl .str s.l,.v (.int .i64 s.n),.v (.int .i64 s.i)]
def aCr (s:jy):List aU:=[⟨[.xl dU s.ah,.xl .str s.aA,.xl dW s.aj,.xl dM s.ai,.xl dX s.aJ],28,.cl,false⟩,⟨[],9,.vec .str s.out,false⟩]
noncomputable def Bq:Code:=((aB (Tryz.f98.body.getD .skip))[1]?).getD .skip
def Rx (s:jy):T (Rd jy):=
 .br (decide (s.i<s.n)) (.req (0≤s.i∧s.i<(List.length s.l:Int)) (.req (0+(List.length s.out)=List.length s.out∧((List.length s.out+List.length ([(gS s.l s.i)]):Nat):Int)*16≤2^47∧((List.length s.out+List.length ([(gS s.l s.i)]):Nat):Int)<2^62) (.req (0=0∧(List.length s.out+List.length ([(gS s.l s.i)]))=List.length (s.out++([(gS s.l s.i)]))) (.ok (.next {s with i:=(IntKind.i64.wrap (s.i+1)),out:=(s.out++([(gS s.l s.i)]))}))))) (.rl s.out (.ok (.stop (.exit 2) s)))
abbrev abe (s:jy):=(Rx s).rd s
def Vf (s:jy):Prop:=s.i=0∧s.n=(s.l.length:Int)∧s.n≤1000∧(s.out.length:Int)≤10000
def MZ (s:jy):Prop:=0≤s.i∧s.i≤s.n∧s.n=(s.l.length:Int)∧s.n≤1000∧(s.out.length:Int)≤10000+s.i
def O5 (s:jy):Nat:=(s.n-s.i).toNat
def akv (x:Ex) (_ s':jy):Prop:=x=.exit 2∧s'.i=s'.n
theorem aAh:∀s,Vf s→MZ s:=by
 intro s h
 obtain ⟨h0,h1,h2,h3⟩:=h
 exact ⟨by omega,by omega,h1,h2,by omega⟩
theorem avT (s:jy) (hI:MZ s):bJ (fun s'=>MZ s'∧O5 s'<O5 s) (fun x s'=>akv x s s') (abe s):=by
 unfold abe Rx
 dsimp only [T.rd,T.rl]
 obtain ⟨h0,h1,h2,h3,h4⟩:=hI
 refine au (fun c1=>?_) (fun c1=>?_)
 ·have c1:s.i<s.n:=by simpa using c1
  rw [aK (x:=s.i+1) (by omega) (by omega)]
  exact ⟨⟨by simp only;omega,by simp only;omega,h2,h3,by simp only [List.length_append,List.length_cons,List.length_nil];omega⟩,by simp only [O5];omega⟩
 ·have c1:s.n≤s.i:=by simpa using c1
  exact ⟨rfl,by omega⟩
def EX:bK jy:=⟨0,80,[1,3,28,29,30],[],aDs,aCr,fun v b=>⟨aQ .str (v.getD 2 .junk),gI (v.getD 3 .junk),gI (v.getD 4 .junk),aQ dU (aX (aO b 0) 0),aQ .str (aX (aO b 0) 1),aQ dW (aX (aO b 0) 2),aQ dM (aX (aO b 0) 3),aQ dX (aX (aO b 0) 4),iT .str (aO b 1)⟩,Rx,fun s r=> {r with l:=s.l,n:=s.n,ah:=s.ah,aA:=s.aA,aj:=s.aj,ai:=s.ai,aJ:=s.aJ},fun s=>s,fun _ s=>s,[.exit 2],Vf,MZ,O5⟩
abbrev iq:=EX.run
abbrev apw:=EX.jG
abbrev ayi:=EX.q
theorem auX (s:jy) (hI:MZ s):(Rx s).all (fun _=>True):=by
 refine ⟨fun c1=>⟨?_,?_,?_,trivial⟩,fun c1=>⟨⟨rfl,rfl⟩,trivial⟩⟩
 all_goals ((obtain ⟨h0,h1,h2,h3,h4⟩:=hI;(try simp only [decide_eq_true_eq] at c1);first|omega|(refine ⟨by omega,?_,?_⟩<;>simp only [List.length_cons,List.length_nil]<;>omega) |(simp only [List.length_append,List.length_cons,List.length_nil];omega) |exact ⟨rfl,by simp⟩ |exact ⟨rfl,rfl⟩))
theorem Wy:EX.Ok:=⟨fun s=>by kernel_rfl,fun s=>by kernel_rfl,fun s=>rfl,fun s t r=>rfl,fun s=>rfl,fun s=>by kernel_rfl⟩
theorem V4:EX.Pf (akv):=⟨aAh,fun _ _=>rfl,avT,auX⟩
theorem amk:bn Tryz.prog aS (AN 0) (.loop Bq) EX.lp:=bK.snd Wy V4 (aP (Γ:=IQ) (K:=dY) (L:=aC) Lp aF Bq (fun b hb=>by rw [show aB Bq=[] by kernel_rfl] at hb;cases hb)) (fun s=>by kernel_rfl)
theorem anI (s:jy) (hE:Vf s):∃s',MZ s'∧akv (apw s) s' (iq s):=bK.fin Wy V4 s hE
theorem anH (s:jy) (hE:Vf s):(iq s).out=s.out++s.l:=by
 have hk:=bK.uS Wy V4 (fun s=>s.out++(s.l.drop s.i.toNat)) (fun s hI=>by
  obtain ⟨h0,h1,h2,h3,h4⟩:=hI
  show bJ _ _ (abe s)
  unfold abe Rx
  dsimp only [T.rd,T.rl]
  refine au (fun c1=>?_) (fun c1=>?_)
  ·have c1:s.i<s.n:=by simpa using c1
   rw [aK (x:=s.i+1) (by omega) (by omega)]
   show _++_=_++_
   simp only
   rw [(uF h0 (show s.i<s.l.length by omega)).1]
   simp
  ·rfl) s hE
 obtain ⟨s',hI,q1,q2⟩:=anI s hE
 have q3:(iq s).i=(iq s).n:=q2
 have hn:(iq s).n=(s.l.length:Int):=hE.2.1
 have hl:(iq s).l=s.l:=rfl
 rw [q3,hn,hl,List.drop_eq_nil_of_le (by omega),hE.1] at hk
 simpa using hk
structure jQ where
 l:List Ko
 n:Int
 i:Int
 ah:List Cd
 aA:List ByteArray
 aj:List Ko
 ai:List Ch
 aJ:List Ba
 out:List ByteArray
def aDr (s:jQ):List LV:=[.own 0 0,.os 1 1 0 (List.length s.out),.xl dW s.l,.v (.int .i64 s.n),.v (.int .i64 s.i)]
def aCq (s:jQ):List aU:=[⟨[.xl dU s.ah,.xl .str s.aA,.xl dW s.aj,.xl dM s.ai,.xl dX s.aJ],28,.cl,false⟩,⟨[],9,.vec .str s.out,false⟩]
noncomputable def Bo:Code:=((aB (Tryz.f98.body.getD .skip))[2]?).getD .skip
def Ru (s:jQ):T (Rd jQ):=
 .br (decide (s.i<s.n)) (.req (0≤s.i∧s.i<(List.length s.l:Int)) (.req (0+(List.length s.out)=List.length s.out∧((List.length s.out+List.length ([(nG s.l s.i).1]):Nat):Int)*16≤2^47∧((List.length s.out+List.length ([(nG s.l s.i).1]):Nat):Int)<2^62) (.req (0=0∧(List.length s.out+List.length ([(nG s.l s.i).1]))=List.length (s.out++([(nG s.l s.i).1]))) (.ok (.next {s with i:=(IntKind.i64.wrap (s.i+1)),out:=(s.out++([(nG s.l s.i).1]))}))))) (.rl s.out (.ok (.stop (.exit 4) s)))
abbrev abd (s:jQ):=(Ru s).rd s
def Ve (s:jQ):Prop:=s.i=0∧s.n=(s.l.length:Int)∧s.n≤1000∧(s.out.length:Int)≤10000
def MX (s:jQ):Prop:=0≤s.i∧s.i≤s.n∧s.n=(s.l.length:Int)∧s.n≤1000∧(s.out.length:Int)≤10000+s.i
def O4 (s:jQ):Nat:=(s.n-s.i).toNat
def aku (x:Ex) (_ s':jQ):Prop:=x=.exit 4∧s'.i=s'.n
theorem aAg:∀s,Ve s→MX s:=by
 intro s h
 obtain ⟨h0,h1,h2,h3⟩:=h
 exact ⟨by omega,by omega,h1,h2,by omega⟩
theorem avS (s:jQ) (hI:MX s):bJ (fun s'=>MX s'∧O4 s'<O4 s) (fun x s'=>aku x s s') (abd s):=by
 unfold abd Ru
 dsimp only [T.rd,T.rl]
 obtain ⟨h0,h1,h2,h3,h4⟩:=hI
 refine au (fun c1=>?_) (fun c1=>?_)
 ·have c1:s.i<s.n:=by simpa using c1
  rw [aK (x:=s.i+1) (by omega) (by omega)]
  exact ⟨⟨by simp only;omega,by simp only;omega,h2,h3,by simp only [List.length_append,List.length_cons,List.length_nil];omega⟩,by simp only [O4];omega⟩
 ·have c1:s.n≤s.i:=by simpa using c1
  exact ⟨rfl,by omega⟩
def EW:bK jQ:=⟨0,80,[1,3,41,42,43],[],aDr,aCq,fun v b=>⟨aQ dW (v.getD 2 .junk),gI (v.getD 3 .junk),gI (v.getD 4 .junk),aQ dU (aX (aO b 0) 0),aQ .str (aX (aO b 0) 1),aQ dW (aX (aO b 0) 2),aQ dM (aX (aO b 0) 3),aQ dX (aX (aO b 0) 4),iT .str (aO b 1)⟩,Ru,fun s r=> {r with l:=s.l,n:=s.n,ah:=s.ah,aA:=s.aA,aj:=s.aj,ai:=s.ai,aJ:=s.aJ},fun s=>s,fun _ s=>s,[.exit 4],Ve,MX,O4⟩
abbrev ja:=EW.run
abbrev apv:=EW.jG
abbrev ayh:=EW.q
theorem auW (s:jQ) (hI:MX s):(Ru s).all (fun _=>True):=by
 refine ⟨fun c1=>⟨?_,?_,?_,trivial⟩,fun c1=>⟨⟨rfl,rfl⟩,trivial⟩⟩
 all_goals ((obtain ⟨h0,h1,h2,h3,h4⟩:=hI;(try simp only [decide_eq_true_eq] at c1);first|omega|(refine ⟨by omega,?_,?_⟩<;>simp only [List.length_cons,List.length_nil]<;>omega) |(simp only [List.length_append,List.length_cons,List.length_nil];omega) |exact ⟨rfl,by simp⟩ |exact ⟨rfl,rfl⟩))
theorem Wx:EW.Ok:=⟨fun s=>by kernel_rfl,fun s=>by kernel_rfl,fun s=>rfl,fun s t r=>rfl,fun s=>rfl,fun s=>by kernel_rfl⟩
theorem V3:EW.Pf (aku):=⟨aAg,fun _ _=>rfl,avS,auW⟩
theorem amj:bn Tryz.prog aS (AN 0) (.loop Bo) EW.lp:=bK.snd Wx V3 (aP (Γ:=IQ) (K:=dY) (L:=aC) Lp aF Bo (fun b hb=>by rw [show aB Bo=[] by kernel_rfl] at hb;cases hb)) (fun s=>by kernel_rfl)
theorem anG (s:jQ) (hE:Ve s):∃s',MX s'∧aku (apv s) s' (ja s):=bK.fin Wx V3 s hE
theorem anF (s:jQ) (hE:Ve s):(ja s).out=s.out++s.l.map (·.1):=by
 have hk:=bK.uS Wx V3 (fun s=>s.out++(s.l.drop s.i.toNat).map (·.1)) (fun s hI=>by
  obtain ⟨h0,h1,h2,h3,h4⟩:=hI
  show bJ _ _ (abd s)
  unfold abd Ru
  dsimp only [T.rd,T.rl]
  refine au (fun c1=>?_) (fun c1=>?_)
  ·have c1:s.i<s.n:=by simpa using c1
   rw [aK (x:=s.i+1) (by omega) (by omega)]
   show _++_=_++_
   simp only
   rw [(IV h0 (show s.i<s.l.length by omega)).1]
   simp
  ·rfl) s hE
 obtain ⟨s',hI,q1,q2⟩:=anG s hE
 have q3:(ja s).i=(ja s).n:=q2
 have hn:(ja s).n=(s.l.length:Int):=hE.2.1
 have hl:(ja s).l=s.l:=rfl
 rw [q3,hn,hl,List.drop_eq_nil_of_le (by omega),hE.1] at hk
 simpa using hk
structure kM where
 l:List Ch
 n:Int
 i:Int
 ah:List Cd
 aA:List ByteArray
 aj:List Ko
 ai:List Ch
 aJ:List Ba
 out:List ByteArray
def aDq (s:kM):List LV:=[.own 0 0,.os 1 1 0 (List.length s.out),.xl dM s.l,.v (.int .i64 s.n),.v (.int .i64 s.i)]
def aCp (s:kM):List aU:=[⟨[.xl dU s.ah,.xl .str s.aA,.xl dW s.aj,.xl dM s.ai,.xl dX s.aJ],28,.cl,false⟩,⟨[],9,.vec .str s.out,false⟩]
noncomputable def Bl:Code:=((aB (Tryz.f98.body.getD .skip))[3]?).getD .skip
def Rt (s:kM):T (Rd kM):=
 .br (decide (s.i<s.n)) (.req (0≤s.i∧s.i<(List.length s.l:Int)) (.req (0+(List.length s.out)=List.length s.out∧((List.length s.out+List.length ([(aW s.l s.i).1]):Nat):Int)*16≤2^47∧((List.length s.out+List.length ([(aW s.l s.i).1]):Nat):Int)<2^62) (.req (0=0∧(List.length s.out+List.length ([(aW s.l s.i).1]))=List.length (s.out++([(aW s.l s.i).1]))) (.ok (.next {s with i:=(IntKind.i64.wrap (s.i+1)),out:=(s.out++([(aW s.l s.i).1]))}))))) (.rl s.out (.ok (.stop (.exit 6) s)))
abbrev abb (s:kM):=(Rt s).rd s
def Vb (s:kM):Prop:=s.i=0∧s.n=(s.l.length:Int)∧s.n≤1000∧(s.out.length:Int)≤10000
def MW (s:kM):Prop:=0≤s.i∧s.i≤s.n∧s.n=(s.l.length:Int)∧s.n≤1000∧(s.out.length:Int)≤10000+s.i
def O3 (s:kM):Nat:=(s.n-s.i).toNat
def akt (x:Ex) (_ s':kM):Prop:=x=.exit 6∧s'.i=s'.n
theorem aAf:∀s,Vb s→MW s:=by
 intro s h
 obtain ⟨h0,h1,h2,h3⟩:=h
 exact ⟨by omega,by omega,h1,h2,by omega⟩
theorem avR (s:kM) (hI:MW s):bJ (fun s'=>MW s'∧O3 s'<O3 s) (fun x s'=>akt x s s') (abb s):=by
 unfold abb Rt
 dsimp only [T.rd,T.rl]
 obtain ⟨h0,h1,h2,h3,h4⟩:=hI
 refine au (fun c1=>?_) (fun c1=>?_)
 ·have c1:s.i<s.n:=by simpa using c1
  rw [aK (x:=s.i+1) (by omega) (by omega)]
  exact ⟨⟨by simp only;omega,by simp only;omega,h2,h3,by simp only [List.length_append,List.length_cons,List.length_nil];omega⟩,by simp only [O3];omega⟩
 ·have c1:s.n≤s.i:=by simpa using c1
  exact ⟨rfl,by omega⟩
def EU:bK kM:=⟨0,80,[1,3,54,55,56],[],aDq,aCp,fun v b=>⟨aQ dM (v.getD 2 .junk),gI (v.getD 3 .junk),gI (v.getD 4 .junk),aQ dU (aX (aO b 0) 0),aQ .str (aX (aO b 0) 1),aQ dW (aX (aO b 0) 2),aQ dM (aX (aO b 0) 3),aQ dX (aX (aO b 0) 4),iT .str (aO b 1)⟩,Rt,fun s r=> {r with l:=s.l,n:=s.n,ah:=s.ah,aA:=s.aA,aj:=s.aj,ai:=s.ai,aJ:=s.aJ},fun s=>s,fun _ s=>s,[.exit 6],Vb,MW,O3⟩
abbrev jT:=EU.run
abbrev apu:=EU.jG
abbrev ayg:=EU.q
end Go.Proofs.YtlihnbimgclogaaGreatDoor
