/- ControlLeases returns true for all arguments: the new leases have increasing numbers, each charger gets at most one, and they can be granted after earlier ones as far as there is room. Conditions: none; the table ramp.happens holds what its text says. -/
import Derived.Test.YtlihnbimgclogaaGreatDoorQf2
namespace Go.Proofs.YtlihnbimgclogaaGreatDoor
open Go.Sx
theorem FZ {cs:List Cd}{gs:List Ch}{r:Rw}:∀ {k:Nat},r∈jC cs gs k→∃c p:Int,(0≤c∧c<(k:Int))∧(p=0∨p=1∨p=2)∧r=(dN (fP cs c),gU gs p (rW cs gs c gs.length))∧r.2.length>0
 |0,h=>by cases h
 | k+1,h=>by
  rw [jC,List.mem_append] at h
  rcases h with h|h
  ·obtain ⟨c,p,h1,h2,h3⟩:=FZ h
   exact ⟨c,p,⟨h1.1,by omega⟩,h2,h3⟩
  ·unfold ali at h
   rw [List.mem_append,List.mem_append] at h
   rcases h with (h|h) |h
   ·obtain ⟨h1,h2⟩:=FX h
    exact ⟨k,0,⟨by omega,by omega⟩,by simp,h1,by rw [h1];exact h2⟩
   ·obtain ⟨h1,h2⟩:=FX h
    exact ⟨k,1,⟨by omega,by omega⟩,by simp,h1,by rw [h1];exact h2⟩
   ·obtain ⟨h1,h2⟩:=FX h
    exact ⟨k,2,⟨by omega,by omega⟩,by simp,h1,by rw [h1];exact h2⟩
theorem row_mem {cs:List Cd}{gs:List Ch}{r:Rw}{k:Nat}(h:r∈jC cs gs k):r.2.Nodup∧(∀m∈r.2,0≤m∧m<(gs.length:Int))∧r.2.length≤gs.length∧r.2.length>0:=by
 obtain ⟨c,p,h1,h2,h3,h4⟩:=FZ h
 subst h3
 refine ⟨zh _ WA,fun m hm=>SL (aoe.1 hm).1,Nat.le_trans aof Il,h4⟩
def oI (gs:List Ch) (lv:List Int):List Int:=(List.range gs.length).map (fun k:Nat=>xg gs (k:Int) (lv.getD k 0))
def OL (rows:List Rw):List (List Int):=P6 (List.replicate 16 []) 0 rows
def SM (alive:List Int) (rows:List Rw):List Int:=P5 alive (List.replicate rows.length 0) 0 rows
def qU (cs:List Cd) (os:List ByteArray) (ks:List Ko) (gs:List Ch) (bs:List Ba) (al mo od:List Int):Bool:=fO cs os ks gs bs&&(decide (al.length=gs.length)&&(decide (mo.length=gs.length)&&(al.all ug&&(mo.all ug&&lW od gs.length))))
def shV (rows:List Rw) (gs:List Ch) (al mo od:List Int):List Int:=shl (OL rows) rows gs al mo od 81 1 (SM al rows) (List.replicate al.length 0)
def shE (cs:List Cd) (os:List ByteArray) (ks:List Ko) (gs:List Ch) (bs:List Ba) (al mo od:List Int):Int:=if qU cs os ks gs bs al mo od=true then 0 else 1
def xH (cs:List Cd) (os:List ByteArray) (ks:List Ko) (gs:List Ch) (bs:List Ba) (al mo od:List Int):List Int:=if qU cs os ks gs bs al mo od=true then oI gs (shV (jC cs gs cs.length) gs al mo od) else []
theorem iK {cs:List Cd}{os:List ByteArray}{ks:List Ko}{gs:List Ch}{bs:List Ba}{al mo od:List Int}:qU cs os ks gs bs al mo od=true↔fO cs os ks gs bs=true∧al.length=gs.length∧mo.length=gs.length∧al.all ug=true∧mo.all ug=true∧lW od gs.length=true:=by
 simp [qU]
theorem agJ:∀ {l:List Int}{f:Int},VG f l≤f
 | [],f=>Int.le_refl _
 |n::l,f=>by
  have:VG f (n::l)=VG (if n<f then n else f) l:=rfl
  rw [this]
  have:=agJ (l:=l) (f:=if n<f then n else f)
  split at this<;>rename_i h
  ·rw [if_pos h];omega
  ·rw [if_neg h];exact this
theorem am9 {c:Cd}:dN c≤c.2.2.1:=by
 unfold dN
 split<;>exact agJ
theorem CX {rows:List Rw}:(OL rows).length=16:=by rw [OL,FP,List.length_replicate]
theorem XG {rows:List Rw}(h:∀r∈rows,agC r) {k:Nat}(hk:k<16):(OL rows).getD k []=ofF 0 rows k:=by
 rw [OL,XV h (by simpa using hk)]
 have:(List.replicate 16 ([]:List Int)).getD k []=[]:=by
  rw [List.getD_eq_getElem?_getD,List.getElem?_replicate]
  split<;>rfl
 rw [this,List.nil_append]
theorem alh {cs:List Cd}{gs:List Ch}{k:Nat}:∀r∈jC cs gs k,agC r:=fun _ hr=>⟨(row_mem hr).1,fun m hm=>((row_mem hr).2.1 m hm).1⟩
theorem CW {al:List Int}{rows:List Rw}:(SM al rows).length=rows.length:=by rw [SM,FO,List.length_replicate]
theorem aiq {al:List Int}{rows:List Rw}{k:Nat}(hk:k<rows.length):(SM al rows).getD k 0=smA al (qK rows k).2:=by
 rw [SM,XU (Int.le_refl _) (by simpa using hk),if_pos (by omega),Int.sub_zero]
 simp [List.getD,hk]
theorem Cb {od:List Int}{n i:Int}(h:lW od n=true) (hi:i∈od):0≤i∧i<n:=by
 unfold lW at h
 simp only [Bool.and_eq_true,List.all_eq_true] at h
 exact y8.1 (h.2.1 i hi)
theorem axW {cs:List Cd}{os:List ByteArray}{ks:List Ko}{gs:List Ch}{bs:List Ba}{al mo od:List Int}(h:qU cs os ks gs bs al mo od=true):OkT (OL (jC cs gs cs.length)) (jC cs gs cs.length) gs al mo od∧OkS (jC cs gs cs.length) od (SM al (jC cs gs cs.length)) (List.replicate al.length 0):=by
 obtain ⟨hv,h1,h2,h3,h4,h5⟩:=iK.1 h
 have hl:=(gm.1 hv).1
 have ha:∀a∈al,0≤a∧a≤80:=fun a ha=>nT.1 (List.all_eq_true.1 h3 a ha)
 refine ⟨⟨CX,fun i hi=>?_,ha,fun a ha=>nT.1 (List.all_eq_true.1 h4 a ha),fun i hi=>?_,fun o ho=>?_,fun r hr=>?_⟩,⟨CW,fun k=>?_,fun i hi=>?_,fun k=>?_⟩⟩
 ·have:=Cb h5 hi
  omega
 ·have hi:=Cb h5 hi
  have:=rH hv hi.1 hi.2
  unfold Fh chW at this
  simp only [Bool.and_eq_true,dZ] at this
  exact fF.2 (by omega)
 ·obtain ⟨k,hk,rfl⟩:=List.mem_iff_getElem.1 ho
  rw [CX] at hk
  have e:=XG (rows:=jC cs gs cs.length) alh hk
  rw [List.getD_eq_getElem?_getD,List.getElem?_eq_getElem (by rw [CX];exact hk),Option.getD_some] at e
  rw [e]
  have hln:=Y6 (rs:=jC cs gs cs.length) (i:=0) (j:=k)
  have hrn:=uS (cs:=cs) (gs:=gs) (k:=cs.length)
  refine ⟨wM,by omega,fun r hr=>?_⟩
  have:=sV.1 hr
  omega
 ·obtain ⟨c,p,hc,hp,rfl,_⟩:=FZ hr
  have hcv:=QB hv hc.1 hc.2
  unfold DI at hcv
  simp only [Bool.and_eq_true,dZ] at hcv
  have:=am9 (c:=fP cs c)
  simp only
  omega
 ·by_cases hk:k<(jC cs gs cs.length).length
  ·rw [aiq hk]
   have hr:qK (jC cs gs cs.length) (k:Int)∈jC cs gs cs.length:=by rw [Cj (by simpa using hk)];exact List.getElem_mem _
   obtain ⟨m1,m2,m3,_⟩:=row_mem hr
   have:=adS ha (l:=(qK (jC cs gs cs.length) (k:Int)).2) (fun m hm=>by have:=m2 m hm;omega)
   omega
  ·rw [List.getD_eq_getElem?_getD,List.getElem?_eq_none (by rw [CW];omega)]
   simp
 ·have:=Cb h5 hi
  rw [List.length_replicate]
  omega
 ·have:(List.replicate al.length (0:Int)).getD k 0=0:=by
   simp only [List.getD,List.getElem?_replicate]
   split<;>rfl
  rw [this]
  omega
theorem YG {xs:List Int}{r:Nat}{v:Int}:(xs++List.replicate (r+1) 0).set xs.length v=xs++[v]++List.replicate r 0:=by
 rw [List.set_append_right _ _ (Nat.le_refl _),Nat.sub_self,List.replicate_succ,List.set_cons_zero,List.append_assoc,List.singleton_append]
def WI (gs:List Ch) (lv:List Int) (n:Nat):List Int:=(List.range n).map (fun k:Nat=>xg gs (k:Int) (lv.getD k 0))
theorem ac9 {gs:List Ch}{lv:List Int}{n:Nat}:WI gs lv (n+1)=WI gs lv n++[xg gs (n:Int) (lv.getD n 0)]:=by
 simp [WI,List.range_succ]
theorem vN {gs:List Ch}{lv:List Int}{n:Nat}:(WI gs lv n).length=n:=by simp [WI]
end Go.Proofs.YtlihnbimgclogaaGreatDoor
namespace Go.Proofs.YtlihnbimgclogaaGreatDoor
open Go.Sx
theorem ntW {b:Bool}(h:(!b)=true):b=false:=by cases b<;>simp_all
theorem PS {b:Bool}(h:(!b)=false):b=true:=by cases b<;>simp_all
def wt (n:Int):Int:=(n*1000000+999799) / 999800
def wtA (n:Int):Int:=if inB n 0 1000000=true then wt n else 0
def wtE (n:Int):Int:=if inB n 0 1000000=true then 0 else 1
theorem adu {m n:Int}:m*999800 / 1000000≥n↔wt n≤m:=by
 unfold wt
 omega
theorem aBM {a b:Int}(a0:0≤a) (a1:a≤3000000) (b0:0≤b) (b1:b≤1000000):0≤a*b∧a*b≤3000000000000:=
 ⟨Int.mul_nonneg a0 b0,Int.le_trans (Int.mul_le_mul_of_nonneg_left b1 a0) (by omega)⟩
theorem aoy {n:Int}(h0:0≤n):0≤wt n∧wt n≤2*n+2:=by
 unfold wt
 omega
abbrev jL:Ty:=.pair (.int .i64) (.pair (.int .i64) (.pair (.int .i64) (.pair (.int .i64) (.int .i64))))
abbrev Le:=Int×Int×Int×Int×Int
def bI (l:List Le) (n:Int):Le:=l.getD n.toNat (0,0,0,0,0)
def G5 (x:Le):Bool:=inB x.1 1 1000000&&(inB x.2.1 0 15&&(inB x.2.2.1 0 80&&(inB x.2.2.2.1 0 1000000&&inB x.2.2.2.2 1 1000)))
def xA (b x:Le):Bool:=decide (x.1>b.1)&&decide (x.2.2.2.1≥b.2.2.2.1)
def jr (l:List Le) (j:Int):Bool:=G5 (bI l j)&&(decide (j=0) ||xA (bI l (j-1)) (bI l j))
def jY (l:List Le):Bool:=decide (l.length≤64)&&Jr l.length (jr l)
theorem OQ {l:List Le}{n:Int}(h:n.toNat<l.length):bI l n=l[n.toNat]:=vz h
theorem Hz {l:List Le}{i:Int}(h0:0≤i) (h:i<l.length):l.drop i.toNat=bI l i::l.drop (i+1).toNat∧l.take (i+1).toNat=l.take i.toNat++[bI l i]:=tK h0 h
theorem Fe {l:List Le}{i:Int}(h0:0≤i) (h:i<l.length):bI l i∈l:=by
 rw [OQ (by omega)]
 exact List.getElem_mem _
theorem OC {x:Le}:G5 x=true↔(1≤x.1∧x.1≤1000000)∧(0≤x.2.1∧x.2.1≤15)∧(0≤x.2.2.1∧x.2.2.1≤80)∧(0≤x.2.2.2.1∧x.2.2.2.1≤1000000)∧1≤x.2.2.2.2∧x.2.2.2.2≤1000:=by
 unfold G5
 simp only [Bool.and_eq_true,dZ]
theorem pM {l:List Le}(h:jY l=true):l.length≤64∧∀x∈l,G5 x=true:=by
 unfold jY at h
 rw [Bool.and_eq_true] at h
 refine ⟨of_decide_eq_true h.1,fun x hx=>?_⟩
 obtain ⟨k,hk,rfl⟩:=List.mem_iff_getElem.1 hx
 have:=fM.1 h.2 k (by omega)
 unfold jr at this
 rw [Bool.and_eq_true,OQ (by simpa using hk)] at this
 simpa using this.1
def ac3 (x:Le):Int:=x.2.2.2.1+10+wt x.2.2.2.2
def vC (l:List Le) (x:Le):Int:=if (jY l&&G5 x)=true then (if (decide (l.length>0)&&!xA (bI l ((l.length:Int)-1)) x)=true then 12 else if l.length=64 then 10 else 0) else 1
def OH (l:List Le) (x:Le):List Le:=if vC l x=0 then l++[x] else []
end Go.Proofs.YtlihnbimgclogaaGreatDoor
namespace Go.Proofs.YtlihnbimgclogaaGreatDoor
open Go.Sx
def Kz (ph mn mx st fb:Int):Bool:=inB ph 1 7&&(inB mn 1 80&&(inB mx 1 80&&(inB st 1 80&&(decide (mn≤mx)&&(fb==0 ||inB fb mn mx)))))
theorem Fj {ph mn mx st fb:Int}:Kz ph mn mx st fb=true↔1≤ph∧ph≤7∧1≤mn∧mn≤80∧1≤mx∧mx≤80∧1≤st∧st≤80∧mn≤mx∧(fb=0∨(mn≤fb∧fb≤mx)):=by
 simp [Kz,inB];omega
def kY (mn mx st a:Int):Int:=if a<mn then 0 else min a mx-(min a mx-mn) %st
theorem uf {x s:Int}(hx:0≤x) (hs:1≤s):0≤x%s∧x%s≤x∧x%s<s:=by
 have h1:=Int.mul_ediv_add_emod x s
 have h2:0≤x / s:=Int.ediv_nonneg hx (by omega)
 have h3:0≤s*(x / s):=Int.mul_nonneg (by omega) h2
 have h4:=Int.emod_nonneg x (b:=s) (by omega)
 have h5:=Int.emod_lt_of_pos x (b:=s) (by omega)
 omega
theorem pK {mn mx st a:Int}(h1:1≤mn) (h2:mn≤mx) (h3:mx≤80) (h4:1≤st):0≤kY mn mx st a∧kY mn mx st a≤80∧(a<mn→kY mn mx st a=0)∧(mn≤a→mn≤kY mn mx st a∧kY mn mx st a≤a∧kY mn mx st a≤mx):=by
 unfold kY
 split
 ·omega
 ·have e1:=uf (x:=min a mx-mn) (s:=st) (by omega) h4
  omega
def uz (mn mx st:Int):Prop:=1≤mn∧mn≤mx∧mx≤80∧1≤st∧st≤80
theorem Wp {ph mn mx st fb:Int}(h:Kz ph mn mx st fb=true):uz mn mx st:=by
 rw [Fj] at h;unfold uz;omega
def Jt (ph mn mx st fb a s:Int):Bool:=Kz ph mn mx st fb&&(decide (0≤s)&&(decide (s≤1000000)&&(decide (0≤a)&&(kY mn mx st a==a))))
def okB (ph mn mx st fb a s want:Int):Bool:=Jt ph mn mx st fb a s&&(decide (0≤want)&&decide (want≤80))
def nE (ph mn mx st fb a s want:Int):Int:=if okB ph mn mx st fb a s want then 0 else 1
def nA (ph mn mx st fb a s want:Int):Int:=
 if okB ph mn mx st fb a s want then (if a=0 then (if kY mn mx st want≠0∧5≤s then mn else 0) else if kY mn mx st want=0 then 0 else min (kY mn mx st want) (a+st)) else 0
def nS (ph mn mx st fb a s want:Int):Int:=
 if okB ph mn mx st fb a s want then (if a=0 then (if kY mn mx st want≠0∧5≤s then 0 else min (s+1) 1000000) else if kY mn mx st want=0 then 0 else min (s+1) 1000000) else 0
theorem Zg (x y:Int):(if y<x then y else x)=min x y:=by omega
theorem avl {mn mx st am:Int}(h:am<mn):0=kY mn mx st am:=by rw [kY,if_pos h]
theorem avk {mn mx st am:Int}(hc:uz mn mx st) (h:mn≤am):IntKind.i64.wrap ((if mx<am then mx else am)-(IntKind.i64.wrap ((if mx<am then mx else am)-mn)).tmod st)=kY mn mx st am:=by
 unfold uz at hc
 rw [Zg]
 have e1:=uf (x:=min am mx-mn) (s:=st) (by omega) (by omega)
 rw [aK (x:=min am mx-mn) (by omega) (by omega),Int.tmod_eq_emod_of_nonneg (by omega),aK (by omega) (by omega),kY,if_neg (by omega)]
theorem aBJ {ph mn mx st fb a s:Int}(h:((!Kz ph mn mx st fb) ||(decide (s<0) ||(decide (s>1000000) ||decide (a<0))))=true):false=Jt ph mn mx st fb a s:=by
 cases hr:Jt ph mn mx st fb a s
 ·rfl
 ·simp [Jt] at hr h
  rw [hr.1] at h
  simp at h
  omega
theorem axN {ph mn mx st fb a s:Int}(h:((!Kz ph mn mx st fb) ||(decide (s<0) ||(decide (s>1000000) ||decide (a<0))))=false):uz mn mx st∧(kY mn mx st a==a)=Jt ph mn mx st fb a s:=by
 simp at h
 obtain ⟨h1,h2,h3,h4⟩:=h
 exact ⟨Wp h1,by simp [Jt,h1,h2,h3,h4]⟩
theorem Y4 {ph mn mx st fb a s want:Int}(h:okB ph mn mx st fb a s want=true):(!Jt ph mn mx st fb a s ||(decide (want<0) ||decide (want>80)))=false∧uz mn mx st∧(0≤s∧s≤1000000)∧(0≤want∧want≤80)∧0≤a∧a≤80∧1≤st∧st≤80:=by
 simp only [okB,Jt,Bool.and_eq_true,decide_eq_true_eq,beq_iff_eq] at h
 obtain ⟨⟨h1,h2,h3,h4,h5⟩,h6,h7⟩:=h
 have hc:=Wp h1
 have hc':=hc
 unfold uz at hc'
 have:=pK (a:=a) hc'.1 hc'.2.1 hc'.2.2.1 hc'.2.2.2.1
 refine ⟨?_,hc,⟨h2,h3⟩,⟨h6,h7⟩,h4,by omega,hc'.2.2.2.1,hc'.2.2.2.2⟩
 simp [Jt,h1,h2,h3,h4,h5];omega
theorem alF {ph mn mx st fb a s want:Int}(h:¬okB ph mn mx st fb a s want=true):(!Jt ph mn mx st fb a s ||(decide (want<0) ||decide (want>80)))=true:=by
 cases hr:Jt ph mn mx st fb a s
 ·rfl
 ·simp [okB,hr] at h⊢;omega
theorem aBI {ph mn mx st fb:Int}(h:(decide (ph<1) ||(decide (ph>7) ||(decide (mn<1) ||(decide (mx>80) ||(decide (mn>mx) ||(decide (st<1) ||decide (st>80)))))))=true):false=Kz ph mn mx st fb:=by
 cases hc:Kz ph mn mx st fb
 ·rfl
 ·rw [Fj] at hc;simp at h;omega
theorem aBH {ph mn mx st fb:Int}(h:(decide (ph<1) ||(decide (ph>7) ||(decide (mn<1) ||(decide (mx>80) ||(decide (mn>mx) ||(decide (st<1) ||decide (st>80)))))))=false):(fb==0 ||(decide (fb≥mn)&&decide (fb≤mx)))=Kz ph mn mx st fb:=by
 simp at h
 cases hc:Kz ph mn mx st fb
 ·cases hf:(fb==0 ||(decide (fb≥mn)&&decide (fb≤mx)))
  ·rfl
  ·have:Kz ph mn mx st fb=true:=Fj.2 (by simp at hf;omega)
   rw [this] at hc;cases hc
 ·rw [Fj] at hc;simp;omega
def OB (mn mx st am lv x:Int):Prop:=
 uz mn mx st∧mn≤x∧x≤mx+st∧(x-mn) %st=0∧((lv=0∧(x=mn∨am<mn))∨(mn≤lv∧lv≤am∧lv+st≤x∧(lv-mn) %st=0∧(lv+st=x∨am<lv+st)))
theorem VQ {mn mx st am:Int}(h:uz mn mx st):OB mn mx st am 0 mn:=by
 unfold OB
 refine ⟨h,Int.le_refl _,by unfold uz at h;omega,by simp,.inl ⟨rfl,.inl rfl⟩⟩
theorem acQ {mn mx st am lv x:Int}(h:OB mn mx st am lv x) (hx:x≤mx):OB mn mx st am (if x≤am then x else lv) (x+st):=by
 unfold OB at h⊢
 obtain ⟨h1,h2,h3,h4,h5⟩:=h
 have e:(x+st-mn) %st=0:=by rw [show x+st-mn=(x-mn)+st by omega,Int.add_emod_right];exact h4
 have h1':=h1
 unfold uz at h1'
 refine ⟨h1,by omega,by omega,e,?_⟩
 split
 ·exact .inr ⟨h2,by omega,by omega,h4,.inl rfl⟩
 ·rcases h5 with h5|h5
  ·refine .inl ⟨h5.1,.inr (by omega)⟩
  ·exact .inr ⟨h5.1,h5.2.1,by omega,h5.2.2.2.1,.inr (by omega)⟩
theorem agN {mn mx st am lv x:Int}(h:OB mn mx st am lv x) (hx:mx<x):lv=kY mn mx st am:=by
 unfold OB uz at h
 obtain ⟨h1,h2,h3,h4,h5⟩:=h
 unfold kY
 rcases h5 with ⟨h5,h6⟩ |⟨h5,h6,h7,h8,h9⟩
 ·rw [if_pos (by omega)];exact h5
 ·rw [if_neg (by omega)]
  have e:(min am mx-mn) %st=min am mx-lv:=by
   rw [show min am mx-mn=(min am mx-lv)+(lv-mn) by omega,Int.add_emod,h8,Int.add_zero,Int.emod_emod_of_dvd _ (Int.dvd_refl _)]
   exact Int.emod_eq_of_lt (by omega) (by omega)
  rw [e];omega
end Go.Proofs.YtlihnbimgclogaaGreatDoor
namespace Go.Proofs.YtlihnbimgclogaaGreatDoor
open Go.Sx
def VW:Nat→Int
 |0=>1
 |1=>1
 |2=>1
 |3=>0
 |4=>2
 |5=>2
 |_=>3
def aP:bY:=fun
 |0=>some (8,fun j=> .int .i64 (VW j))
 |_=>none
end Go.Proofs.YtlihnbimgclogaaGreatDoor
namespace Go.Proofs.YtlihnbimgclogaaGreatDoor
open Go.Sx
def KI:List LV→T LV
 | [.v (.int .i64 n),.v (.int .i64 a),.v (.int .i64 b)]=> .ok (.v (.bool (inB n a b)))
 |_=> .no
noncomputable def vU:List LV→T LV:=gW Tryz.prog Tryz.f140.params.toList KI
noncomputable def xN:Specs:=bf []
theorem zB:∀g S,xN g=some S→Valid Tryz.prog aP g S:=aS (l:=[]) trivial
theorem acL (n a b:Int):bW Tryz.prog aP (xN) eY aC Tryz.f140 [.v (.int .i64 n),.v (.int .i64 a),.v (.int .i64 b)]=.ok (.v (.bool ((decide (n≥a))&&(decide (n≤b))))):=by kernel_rfl
theorem PZ:Valid Tryz.prog aP 140 vU:=aH Tryz.func140 rfl zB aG (aW (by kernel_rfl)) (fun args lv h=>by
 unfold KI at h
 split at h
 ·simp only [canL,canX]
  rw [acL]
  exact h
 ·cases h)
def ais:List LV→T LV
 | [.v (.agg ⟨[.string _,.int .i64 _,.int .i64 ph,.int .i64 mn,.int .i64 mx,.int .i64 st,.int .i64 fb,.int .i64 _]⟩)]=> .ok (.v (.bool (Kz ph mn mx st fb)))
 |_=> .no
noncomputable def aib:List LV→T LV:=gW Tryz.prog Tryz.f139.params.toList ais
noncomputable def apO:Specs:=bf [(140,vU)]
theorem ayJ:∀g S,apO g=some S→Valid Tryz.prog aP g S:=aS (l:=[(140,vU)]) ⟨PZ,trivial⟩
theorem atL (nm:ByteArray) (at_ ph mn mx st fb ow:Int):bW Tryz.prog aP (apO) eY aC Tryz.f139 [.v (.agg #[.string nm,.int .i64 at_,.int .i64 ph,.int .i64 mn,.int .i64 mx,.int .i64 st,.int .i64 fb,.int .i64 ow])]=.ok (.v (.bool ((inB ph (1:Int) (7:Int))&&((inB mn (1:Int) (80:Int))&&((inB mx (1:Int) (80:Int))&&((inB st (1:Int) (80:Int))&&((decide (mn≤mx))&&((fb==0) ||(inB fb mn mx))))))))):=by kernel_rfl
theorem awQ:Valid Tryz.prog aP 139 aib:=aH Tryz.func139 rfl ayJ aG (aW (by kernel_rfl)) (fun args lv h=>by
 unfold ais at h
 split at h
 ·simp only [canL,canX]
  rw [atL]
  exact h
 ·cases h)
def Tm:List LV→T LV
 | []=> .ok (.v (.agg #[.int .i64 0,.int .i64 0,.int .i64 0,.bool false]))
 |_=> .no
noncomputable def Bo:List LV→T LV:=gW Tryz.prog Tryz.f114.params.toList Tm
theorem agm  :bW Tryz.prog aP (xN) eY aC Tryz.f114 []=.ok (.v (.agg #[.int .i64 0,.int .i64 0,.int .i64 0,.bool false])):=by kernel_rfl
theorem XP:Valid Tryz.prog aP 114 Bo:=aH Tryz.func114 rfl zB aG (aW (by kernel_rfl)) (fun args lv h=>by
 unfold Tm at h
 split at h
 ·simp only [canL]
  rw [agm]
  exact h
 ·cases h)
def aiJ:List LV→T LV
 | [.v (.agg ⟨[.string _,.int .i64 _,.int .i64 ph,.int .i64 mn,.int .i64 mx,.int .i64 st,.int .i64 fb,.int .i64 _]⟩),.v (.agg ⟨[.int .i64 0,.int .i64 0,.int .i64 0,.bool false]⟩)]=> .ok (.v (.bool (Kz ph mn mx st fb)))
 |_=> .no
noncomputable def aip:List LV→T LV:=gW Tryz.prog Tryz.f113.params.toList aiJ
noncomputable def apN:Specs:=bf [(114,Bo),(139,aib),(140,vU)]
theorem ayI:∀g S,apN g=some S→Valid Tryz.prog aP g S:=aS (l:=[(114,Bo),(139,aib),(140,vU)]) ⟨XP,awQ,PZ,trivial⟩
theorem aua (nm:ByteArray) (at_ ph mn mx st fb ow:Int):bW Tryz.prog aP (apN) eY aC Tryz.f113 [.v (.agg #[.string nm,.int .i64 at_,.int .i64 ph,.int .i64 mn,.int .i64 mx,.int .i64 st,.int .i64 fb,.int .i64 ow]),.v (.agg #[.int .i64 0,.int .i64 0,.int .i64 0,.bool false])]=.br (!(Kz ph mn mx st fb)) (.ok (.v (.bool false))) (.br (((0:Int)==0)&&(((0:Int)==0)&&(((0:Int)==0)&&(false==false)))) (.ok (.v (.bool true))) (.ok (.v (.bool ((inB (0:Int) (0:Int) (5:Int))&&((inB (0:Int) (0:Int) (1000000:Int))&&((inB (0:Int) (0:Int) mx)&&(if (0:Int) !=0 then (!false) ||((0:Int)==5) else ((0:Int)==0)&&((!false) ||((0:Int)==5)))))))))):=by kernel_rfl
theorem aw2:Valid Tryz.prog aP 113 aip:=aH Tryz.func113 rfl ayI aG (aW (by kernel_rfl)) (fun args lv h=>by
 unfold aiJ at h
 split at h
 ·simp only [canL,canX]
  rw [aua]
  obtain rfl:=h
  refine ⟨fun hb=>?_,fun hb=>⟨fun _=>?_,fun hf=>absurd hf (by decide)⟩⟩
  ·show LV.v (.bool false)=_
   rw [show Kz _ _ _ _ _=false by simpa using hb]
  ·show LV.v (.bool true)=_
   rw [show Kz _ _ _ _ _=true by simpa using hb]
 ·cases h)
def aa6:List LV→T LV
 | [.v (.agg ⟨[.string _,.int .i64 _,.int .i64 _,.int .i64 mn,.int .i64 mx,.int .i64 st,.int .i64 _,.int .i64 _]⟩),.v (.int .i64 am)]=> .req (uz mn mx st) (.ok (.v (.int .i64 (kY mn mx st am))))
 |_=> .no
noncomputable def IE:List LV→T LV:=gW Tryz.prog Tryz.f73.params.toList aa6
theorem amf (nm:ByteArray) (at_ ph mn mx st fb ow am:Int):bW Tryz.prog aP (xN) eY aC Tryz.f73 [.v (.agg #[.string nm,.int .i64 at_,.int .i64 ph,.int .i64 mn,.int .i64 mx,.int .i64 st,.int .i64 fb,.int .i64 ow]),.v (.int .i64 am)]=.br (decide (am<mn)) (.ok (.v (.int .i64 0))) (.req (st≠0) (.ok (.v (.int .i64 (IntKind.i64.wrap ((if mx<am then mx else am)-((IntKind.i64.wrap ((if mx<am then mx else am)-mn)).tmod st))))))):=by kernel_rfl
theorem adF:Valid Tryz.prog aP 73 IE:=aH Tryz.func73 rfl zB aG (aW (by kernel_rfl)) (fun args lv h=>by
 unfold aa6 at h
 split at h
 ·simp only [canL,canX]
  rw [amf]
  obtain ⟨hc,rfl⟩:=h
  refine ⟨fun hb=>?_,fun hb=>⟨by unfold uz at hc;omega,?_⟩⟩
  ·exact congrArg (fun z=>LV.v (.int .i64 z)) (avl (by simpa using hb))
  ·exact congrArg (fun z=>LV.v (.int .i64 z)) (avk hc (by simpa using hb))
 ·cases h)
def aiw:List LV→T LV
 | [.v (.agg ⟨[.string _,.int .i64 _,.int .i64 ph,.int .i64 mn,.int .i64 mx,.int .i64 st,.int .i64 fb,.int .i64 _]⟩),.v (.agg ⟨[.int .i64 a,.int .i64 si]⟩)]=> .ok (.v (.bool (Jt ph mn mx st fb a si)))
 |_=> .no
noncomputable def Tc:List LV→T LV:=gW Tryz.prog Tryz.f69.params.toList aiw
noncomputable def apM:Specs:=bf [(73,IE),(113,aip),(114,Bo)]
theorem ayH:∀g S,apM g=some S→Valid Tryz.prog aP g S:=aS (l:=[(73,IE),(113,aip),(114,Bo)]) ⟨adF,aw2,XP,trivial⟩
theorem atP (nm:ByteArray) (at_ ph mn mx st fb ow a si:Int):bW Tryz.prog aP (apM) eY aC Tryz.f69 [.v (.agg #[.string nm,.int .i64 at_,.int .i64 ph,.int .i64 mn,.int .i64 mx,.int .i64 st,.int .i64 fb,.int .i64 ow]),.v (.agg #[.int .i64 a,.int .i64 si])]=.br ((!(Kz ph mn mx st fb)) ||((decide (si<0)) ||((decide (si>1000000)) ||(decide (a<0))))) (.ok (.v (.bool false))) (.req (uz mn mx st) (.ok (.v (.bool ((kY mn mx st a)==a))))):=by kernel_rfl
theorem aoA:Valid Tryz.prog aP 69 Tc:=aH Tryz.func69 rfl ayH aG (aW (by kernel_rfl)) (fun args lv h=>by
 unfold aiw at h
 split at h
 ·simp only [canL,canX]
  rw [atP]
  obtain rfl:=h
  refine ⟨fun hb=>?_,fun hb=>⟨?_,?_⟩⟩
  ·exact congrArg (fun z=>LV.v (.bool z)) (aBJ hb)
  ·exact (axN hb).1
  ·exact congrArg (fun z=>LV.v (.bool z)) (axN hb).2
 ·cases h)
def TB:List LV→T LV
 | [.v (.bool b)]=> .ok (.v (.int .i64 (if b then (1:Int) else 0)))
 |_=> .no
noncomputable def Pv:List LV→T LV:=gW Tryz.prog Tryz.f78.params.toList TB
theorem agu (b:Bool):bW Tryz.prog aP (xN) eY aC Tryz.f78 [.v (.bool b)]=.br b (.ok (.v (.int .i64 1))) (.ok (.v (.int .i64 0))):=by kernel_rfl
theorem ajV:Valid Tryz.prog aP 78 Pv:=aH Tryz.func78 rfl zB aG (aW (by kernel_rfl)) (fun args lv h=>by
 unfold TB at h
 split at h
 ·simp only [canL,canX]
  rw [agu]
  rename_i b
  obtain rfl:=h
  cases b
  ·exact ⟨fun hb=>(by cases hb),fun _=>rfl⟩
  ·exact ⟨fun _=>rfl,fun hb=>(by cases hb)⟩
 ·cases h)
def aiB:List LV→T LV
 | [.xq 8 q0]=>(match ([q0 0,q0 1,q0 2,q0 3,q0 4,q0 5,q0 6,q0 7]:List LV) with
  | [.v (.string _),.v (.int .i64 _),.v (.int .i64 _),.v (.int .i64 mn),.v (.int .i64 _),.v (.int .i64 _),.v (.int .i64 _),.v (.int .i64 _)]=> .ok (.v (.agg #[.int .i64 mn,.int .i64 0]))
  |_=> .no)
 |_=> .no
noncomputable def ail:List LV→T LV:=gW Tryz.prog Tryz.f74.params.toList aiB
theorem atV (nm:ByteArray) (at_ ph mn mx st fb ow:Int):bW Tryz.prog aP (xN) eY aC Tryz.f74 [.xq 8 (fun j=>([.v (.string nm),.v (.int .i64 at_),.v (.int .i64 ph),.v (.int .i64 mn),.v (.int .i64 mx),.v (.int .i64 st),.v (.int .i64 fb),.v (.int .i64 ow)]:List LV).getD j .junk)]=.ok (.v (.agg #[.int .i64 mn,.int .i64 0])):=by kernel_rfl
theorem awY:Valid Tryz.prog aP 74 ail:=aH Tryz.func74 rfl zB aG (aW (by kernel_rfl)) (fun args lv h=>by
 unfold aiB at h
 split at h
 ·split at h
  case h_2=>cases h
  rename_i heq0
  simp only [canL,canX]
  rw [oH (n:=8) heq0]
  simp only [canL,canX]
  rw [atV]
  exact h
 ·cases h)
def aiA:List LV→T LV
 | [.xq 1 q0]=>(match ([q0 0]:List LV) with
  | [.v (.int .i64 lo)]=> .ok (.v (.agg #[.int .i64 0,.int .i64 lo]))
  |_=> .no)
 |_=> .no
noncomputable def aik:List LV→T LV:=gW Tryz.prog Tryz.f75.params.toList aiA
theorem atU (lo:Int):bW Tryz.prog aP (xN) eY aC Tryz.f75 [.xq 1 (fun j=>([.v (.int .i64 lo)]:List LV).getD j .junk)]=.ok (.v (.agg #[.int .i64 0,.int .i64 lo])):=by kernel_rfl
theorem awX:Valid Tryz.prog aP 75 aik:=aH Tryz.func75 rfl zB aG (aW (by kernel_rfl)) (fun args lv h=>by
 unfold aiA at h
 split at h
 ·split at h
  case h_2=>cases h
  rename_i heq0
  simp only [canL,canX]
  rw [oH (n:=1) heq0]
  simp only [canL,canX]
  rw [atU]
  exact h
 ·cases h)
def aiz:List LV→T LV
 | []=> .ok (.v (.agg #[.int .i64 0,.int .i64 0]))
 |_=> .no
noncomputable def aij:List LV→T LV:=gW Tryz.prog Tryz.f76.params.toList aiz
theorem atT  :bW Tryz.prog aP (xN) eY aC Tryz.f76 []=.ok (.v (.agg #[.int .i64 0,.int .i64 0])):=by kernel_rfl
theorem awW:Valid Tryz.prog aP 76 aij:=aH Tryz.func76 rfl zB aG (aW (by kernel_rfl)) (fun args lv h=>by
 unfold aiz at h
 split at h
 ·simp only [canL]
  rw [atT]
  exact h
 ·cases h)
def aiy:List LV→T LV
 | [.xq 1 q0,.xq 2 q1,.xq 8 q2,.xq 1 q3]=>(match ([q0 0]:List LV) with
  | [.v (.int .i64 lv)]=>(match ([q1 0,q1 1]:List LV) with
  | [.v (.int .i64 a),.v (.int .i64 _)]=>(match ([q2 0,q2 1,q2 2,q2 3,q2 4,q2 5,q2 6,q2 7]:List LV) with
  | [.v (.string _),.v (.int .i64 _),.v (.int .i64 _),.v (.int .i64 _),.v (.int .i64 _),.v (.int .i64 st),.v (.int .i64 _),.v (.int .i64 _)]=>(match ([q3 0]:List LV) with
  | [.v (.int .i64 lo)]=> .ok (.v (.agg #[.int .i64 (if IntKind.i64.wrap (a+st)<lv then IntKind.i64.wrap (a+st) else lv),.int .i64 lo]))
  |_=> .no)
  |_=> .no)
  |_=> .no)
  |_=> .no)
 |_=> .no
noncomputable def aii:List LV→T LV:=gW Tryz.prog Tryz.f77.params.toList aiy
theorem atS (lv a si:Int) (nm:ByteArray) (at_ ph mn mx st fb ow lo:Int):bW Tryz.prog aP (xN) eY aC Tryz.f77 [.xq 1 (fun j=>([.v (.int .i64 lv)]:List LV).getD j .junk),.xq 2 (fun j=>([.v (.int .i64 a),.v (.int .i64 si)]:List LV).getD j .junk),.xq 8 (fun j=>([.v (.string nm),.v (.int .i64 at_),.v (.int .i64 ph),.v (.int .i64 mn),.v (.int .i64 mx),.v (.int .i64 st),.v (.int .i64 fb),.v (.int .i64 ow)]:List LV).getD j .junk),.xq 1 (fun j=>([.v (.int .i64 lo)]:List LV).getD j .junk)]=.ok (.v (.agg #[.int .i64 (if (IntKind.i64.wrap (a+st))<lv then IntKind.i64.wrap (a+st) else lv),.int .i64 lo])):=by kernel_rfl
theorem awV:Valid Tryz.prog aP 77 aii:=aH Tryz.func77 rfl zB aG (aW (by kernel_rfl)) (fun args lv h=>by
 unfold aiy at h
 split at h
 ·split at h
  case h_2=>cases h
  rename_i heq0
  split at h
  case h_2=>cases h
  rename_i heq1
  split at h
  case h_2=>cases h
  rename_i heq2
  split at h
  case h_2=>cases h
  rename_i heq3
  simp only [canL,canX]
  rw [oH (n:=1) heq0]
  simp only [canL,canX]
  rw [oH (n:=2) heq1]
  simp only [canL,canX]
  rw [oH (n:=8) heq2]
  simp only [canL,canX]
  rw [oH (n:=1) heq3]
  simp only [canL,canX]
  rw [atS]
  exact h
 ·cases h)
theorem auy {a l si:Int}:VW ((if (a !=0) then (1:Int) else 0).toNat*4+((if (l !=0) then (1:Int) else 0).toNat*2+((if (decide (si≥5)) then (1:Int) else 0).toNat*1+0)))=if a=0 then (if l=0 then 1 else if 5≤si then 0 else 1) else if l=0 then 2 else 3:=by
 by_cases c1:a=0<;>by_cases c2:l=0<;>by_cases c3:5≤si<;>simp [c1,c2,c3,VW]
def abk:List LV→T LV
 | [.v (.agg ⟨[.string _,.int .i64 _,.int .i64 ph,.int .i64 mn,.int .i64 mx,.int .i64 st,.int .i64 fb,.int .i64 _]⟩),.v (.agg ⟨[.int .i64 a,.int .i64 si]⟩),.v (.int .i64 want)]=> .ok (.v (.tuple #[.agg #[.int .i64 (nA ph mn mx st fb a si want),.int .i64 (nS ph mn mx st fb a si want)],.int .i64 (nE ph mn mx st fb a si want)]))
 |_=> .no
noncomputable def Xj:List LV→T LV:=gW Tryz.prog Tryz.f37.params.toList abk
noncomputable def apL:Specs:=bf [(69,Tc),(73,IE),(74,ail),(75,aik),(76,aij),(77,aii),(78,Pv)]
theorem ayG:∀g S,apL g=some S→Valid Tryz.prog aP g S:=aS (l:=[(69,Tc),(73,IE),(74,ail),(75,aik),(76,aij),(77,aii),(78,Pv)]) ⟨aoA,adF,awY,awX,awW,awV,ajV,trivial⟩
theorem amr (nm:ByteArray) (at_ ph mn mx st fb ow a si want:Int):bW Tryz.prog aP (apL) eY aC Tryz.f37 [.v (.agg #[.string nm,.int .i64 at_,.int .i64 ph,.int .i64 mn,.int .i64 mx,.int .i64 st,.int .i64 fb,.int .i64 ow]),.v (.agg #[.int .i64 a,.int .i64 si]),.v (.int .i64 want)]=.br ((!(Jt ph mn mx st fb a si)) ||((decide (want<0)) ||(decide (want>80)))) (.ok (.v (.tuple #[.agg #[.int .i64 0,.int .i64 0],.int .i64 1]))) (.req (uz mn mx st) (.req (0≤(if (a !=0) then (1:Int) else 0)∧(if (a !=0) then (1:Int) else 0)<(2:Int)) (.req (0≤(if ((kY mn mx st want) !=0) then (1:Int) else 0)∧(if ((kY mn mx st want) !=0) then (1:Int) else 0)<(2:Int)) (.req (0≤(if (decide (si≥5)) then (1:Int) else 0)∧(if (decide (si≥5)) then (1:Int) else 0)<(2:Int)) (.br ((VW ((if (a !=0) then (1:Int) else 0).toNat*4+((if ((kY mn mx st want) !=0) then (1:Int) else 0).toNat*2+((if (decide (si≥5)) then (1:Int) else 0).toNat*1+0))))==0) (.ok (.v (.tuple #[.agg #[.int .i64 mn,.int .i64 0],.int .i64 0]))) (.br ((VW ((if (a !=0) then (1:Int) else 0).toNat*4+((if ((kY mn mx st want) !=0) then (1:Int) else 0).toNat*2+((if (decide (si≥5)) then (1:Int) else 0).toNat*1+0))))==1) (.ok (.v (.tuple #[.agg #[.int .i64 0,.int .i64 (if (1000000:Int)<(IntKind.i64.wrap (si+1)) then 1000000 else IntKind.i64.wrap (si+1))],.int .i64 0]))) (.br ((VW ((if (a !=0) then (1:Int) else 0).toNat*4+((if ((kY mn mx st want) !=0) then (1:Int) else 0).toNat*2+((if (decide (si≥5)) then (1:Int) else 0).toNat*1+0))))==2) (.ok (.v (.tuple #[.agg #[.int .i64 0,.int .i64 0],.int .i64 0]))) (.br ((VW ((if (a !=0) then (1:Int) else 0).toNat*4+((if ((kY mn mx st want) !=0) then (1:Int) else 0).toNat*2+((if (decide (si≥5)) then (1:Int) else 0).toNat*1+0))))==3) (.ok (.v (.tuple #[.agg #[.int .i64 (if IntKind.i64.wrap (a+st)<(kY mn mx st want) then IntKind.i64.wrap (a+st) else (kY mn mx st want)),.int .i64 (if (1000000:Int)<(IntKind.i64.wrap (si+1)) then 1000000 else IntKind.i64.wrap (si+1))],.int .i64 0]))) (.no))))))))):=by kernel_rfl
theorem arf:Valid Tryz.prog aP 37 Xj:=aH Tryz.func37 rfl ayG aG (aW (by kernel_rfl)) (fun args lv h=>by
 unfold abk at h
 split at h
 ·simp only [canL,canX]
  rw [amr]
  rename_i nm at_ ph mn mx st fb ow a si want
  obtain rfl:=h
  by_cases hk:okB ph mn mx st fb a si want=true
  ·obtain ⟨k1,k2,k3,k4,k5⟩:=Y4 hk
   have w1:IntKind.i64.wrap (si+1)=si+1:=aK (by omega) (by omega)
   have w2:IntKind.i64.wrap (a+st)=a+st:=aK (by omega) (by omega)
   have i0:∀b:Bool,0≤(if b=true then (1:Int) else 0)∧(if b=true then (1:Int) else 0)<2:=fun b=>by cases b<;>simp
   simp only [T.all,nA,nS,nE,k1,w1,w2,hk,Zg,if_true,auy,i0,true_and]
   by_cases c1:a=0<;>by_cases c2:kY mn mx st want=0<;>by_cases c3:5≤si<;>simp [c1,c2,c3,k2]
  ·have hn:(!Jt ph mn mx st fb a si ||(decide (want<0) ||decide (want>80)))=true:=alF hk
   simp only [T.all,nA,nS,nE,hk,hn]
   simp
 ·cases h)
def aiv:List LV→T LV
 | [.v (.agg ⟨[.string _,.int .i64 _,.int .i64 ph,.int .i64 mn,.int .i64 mx,.int .i64 st,.int .i64 fb,.int .i64 _]⟩)]=> .ok (.v (.bool (Kz ph mn mx st fb)))
 |_=> .no
noncomputable def aie:List LV→T LV:=gW Tryz.prog Tryz.f91.params.toList aiv
theorem atO (nm:ByteArray) (at_ ph mn mx st fb ow:Int):bW Tryz.prog aP (xN) eY aC Tryz.f91 [.v (.agg #[.string nm,.int .i64 at_,.int .i64 ph,.int .i64 mn,.int .i64 mx,.int .i64 st,.int .i64 fb,.int .i64 ow])]=.br ((decide (ph<1)) ||((decide (ph>7)) ||((decide (mn<1)) ||((decide (mx>80)) ||((decide (mn>mx)) ||((decide (st<1)) ||(decide (st>80)))))))) (.ok (.v (.bool false))) (.ok (.v (.bool ((fb==0) ||((decide (fb≥mn))&&(decide (fb≤mx))))))):=by kernel_rfl
theorem awT:Valid Tryz.prog aP 91 aie:=aH Tryz.func91 rfl zB aG (aW (by kernel_rfl)) (fun args lv h=>by
 unfold aiv at h
 split at h
 ·simp only [canL,canX]
  rw [atO]
  obtain rfl:=h
  refine ⟨fun hb=>?_,fun hb=>?_⟩
  ·exact congrArg (fun z=>LV.v (.bool z)) (aBI hb)
  ·exact congrArg (fun z=>LV.v (.bool z)) (aBH hb)
 ·cases h)
end Go.Proofs.YtlihnbimgclogaaGreatDoor
namespace Go.Proofs.YtlihnbimgclogaaGreatDoor
open Go.Sx
def aix:List LV→T LV
 | [.v (.agg ⟨[.int .i64 nu,.int .i64 co,.int .i64 am,.int .i64 fr,.int .i64 tk]⟩)]=> .ok (.v (.bool (G5 (nu,co,am,fr,tk))))
 |_=> .no
noncomputable def aif:List LV→T LV:=gW Tryz.prog Tryz.f90.params.toList aix
noncomputable def OO:Specs:=bf []
theorem V3:∀g S,OO g=some S→Valid Tryz.prog aP g S:=aS (l:=[]) trivial
theorem atQ (nu co am fr tk:Int):bW Tryz.prog aP (OO) eY aC Tryz.f90 [.v (.agg #[.int .i64 nu,.int .i64 co,.int .i64 am,.int .i64 fr,.int .i64 tk])]=.ok (.v (.bool ((decide (nu≥1))&&((decide (nu≤1000000))&&((decide (co≥0))&&((decide (co<16))&&((decide (am≥0))&&((decide (am≤80))&&((decide (fr≥0))&&((decide (fr≤1000000))&&((decide (tk≥1))&&(decide (tk≤1000))))))))))))):=by kernel_rfl
theorem awU:Valid Tryz.prog aP 90 aif:=aH Tryz.func90 rfl V3 aG (aW (by kernel_rfl)) (fun args lv h=>by
 unfold aix at h
 split at h
 ·simp only [canL,canX]
  rw [atQ]
  obtain rfl:=h
  refine congrArg (fun z=>LV.v (.bool z)) ?_
  unfold G5
  rw [Bool.eq_iff_iff]
  simp only [Bool.and_eq_true,decide_eq_true_eq,dZ]
  omega
 ·cases h)
structure oO where
 l:List Le
 r:Bool
 i:Int
def aAT (s:oO):List LV:=[.xl jL s.l,.v (.bool s.r),.v (.int .i64 s.i)]
def azX (_:oO):List aT:=[]
noncomputable def Am:Code:=((aF (Tryz.f50.body.getD .skip))[0]?).getD .skip
def Yf (s:oO):T (Rd oO):=
 .br (decide (s.i<(List.length s.l:Int))) (.req (0≤s.i∧s.i<(List.length s.l:Int)) (.br (!(G5 (bI s.l s.i))) (.ok (.stop (.ret) {s with r:=false})) (.br (decide (s.i>0)) (.req (0≤s.i∧s.i<(List.length s.l:Int)) (.req (0≤(IntKind.i64.wrap (s.i-1))∧(IntKind.i64.wrap (s.i-1))<(List.length s.l:Int)) (.br (decide ((bI s.l s.i).1≤(bI s.l (IntKind.i64.wrap (s.i-1))).1)) (.ok (.stop (.ret) {s with r:=false})) (.req (0≤s.i∧s.i<(List.length s.l:Int)) (.req (0≤(IntKind.i64.wrap (s.i-1))∧(IntKind.i64.wrap (s.i-1))<(List.length s.l:Int)) (.br (decide ((bI s.l s.i).2.2.2.1<(bI s.l (IntKind.i64.wrap (s.i-1))).2.2.2.1)) (.ok (.stop (.ret) {s with r:=false})) (.ok (.next {s with i:=(IntKind.i64.wrap (s.i+1))})))))))) (.ok (.next {s with i:=(IntKind.i64.wrap (s.i+1))}))))) (.ok (.stop (.exit 0) s))
abbrev ap8 (s:oO):=(Yf s).rd s
def abY (s:oO):Prop:=s.i=0∧(List.length s.l:Int)≤1000
def Lc (s:oO):Prop:=(0≤s.i∧s.i≤(List.length s.l:Int))∧(List.length s.l:Int)≤1000∧∀j:Nat,(j:Int)<s.i→jr s.l j=true
def Gv (s:oO):Nat:=((List.length s.l:Int)-s.i).toNat
def aiU (x:Ex) (_ s':oO):Prop:=(x=.exit 0∧∀j:Nat,(j:Int)<(List.length s'.l:Int)→jr s'.l j=true)∨(x=.ret∧s'.r=false∧∃j:Nat,(j:Int)<(List.length s'.l:Int)∧jr s'.l j=false)
theorem axS:∀s,abY s→Lc s:=by
 intro s h
 obtain ⟨h0,h3⟩:=h
 exact ⟨by omega,h3,fun j hj=>by omega⟩
theorem atm (s:oO) (hI:Lc s):bM (fun s'=>Lc s'∧Gv s'<Gv s) (fun x s'=>aiU x s s') (ap8 s):=by
 unfold ap8 Yf
 dsimp only [T.rd,T.rl]
 obtain ⟨⟨h0,h1⟩,h3,hA⟩:=hI
 refine au (fun c1=>?_) (fun c1=>?_)
 ·refine au (fun c2=>?_) (fun c2=>?_)
  ·have c1:s.i<(List.length s.l:Int):=by simpa using c1
   refine .inr ⟨rfl,rfl,s.i.toNat,by simp only;omega,?_⟩
   rw [Int.toNat_of_nonneg h0]
   show jr s.l s.i=false
   unfold jr xA
   rw [ntW c2]
   rfl
  ·refine au (fun c3=>?_) (fun c3=>?_)
   ·refine au (fun c4=>?_) (fun c4=>?_)
    ·have c1:s.i<(List.length s.l:Int):=by simpa using c1
     have c3:0<s.i:=by simpa using c3
     rw [aK (x:=s.i-1) (by omega) (by omega)] at c4
     refine .inr ⟨rfl,rfl,s.i.toNat,by simp only;omega,?_⟩
     rw [Int.toNat_of_nonneg h0]
     show jr s.l s.i=false
     unfold jr xA
     rw [PS c2,decide_eq_false (p:=s.i=0) (by omega)]
     simp only [decide_eq_true_eq] at c4
     rw [decide_eq_false (p:=(bI s.l s.i).1>(bI s.l (s.i-1)).1) (by omega)]
     simp
    ·refine au (fun c5=>?_) (fun c5=>?_)
     ·have c1:s.i<(List.length s.l:Int):=by simpa using c1
      have c3:0<s.i:=by simpa using c3
      rw [aK (x:=s.i-1) (by omega) (by omega)] at c4
      rw [aK (x:=s.i-1) (by omega) (by omega)] at c5
      refine .inr ⟨rfl,rfl,s.i.toNat,by simp only;omega,?_⟩
      rw [Int.toNat_of_nonneg h0]
      show jr s.l s.i=false
      unfold jr xA
      rw [PS c2,decide_eq_false (p:=s.i=0) (by omega)]
      simp only [decide_eq_true_eq] at c5
      rw [decide_eq_false (p:=(bI s.l s.i).2.2.2.1≥(bI s.l (s.i-1)).2.2.2.1) (by omega)]
      simp
     ·have c1:s.i<(List.length s.l:Int):=by simpa using c1
      have c3:0<s.i:=by simpa using c3
      rw [aK (x:=s.i-1) (by omega) (by omega)] at c4
      rw [aK (x:=s.i-1) (by omega) (by omega)] at c5
      have hg:jr s.l s.i=true:=by
        unfold jr xA
        simp only [decide_eq_false_iff_not] at c4 c5
        rw [PS c2,decide_eq_true (p:=(bI s.l s.i).1>(bI s.l (s.i-1)).1) (by omega),decide_eq_true (p:=(bI s.l s.i).2.2.2.1≥(bI s.l (s.i-1)).2.2.2.1) (by omega)]
        simp
      rw [aK (x:=s.i+1) (by omega) (by omega)]
      exact ⟨⟨⟨by simp only;omega,by simp only;omega⟩,h3,fun j hj=>by
       by_cases e:(j:Int)<s.i
       ·exact hA j e
       ·have e:(j:Int)=s.i:=by simp only at hj;omega
        show jr s.l j=true
        rw [e];exact hg⟩,by simp only [Gv];omega⟩
   ·have c1:s.i<(List.length s.l:Int):=by simpa using c1
    have hg:jr s.l s.i=true:=by
      unfold jr
      rw [PS c2,decide_eq_true (p:=s.i=0) (by simp at c3;omega)]
      rfl
    rw [aK (x:=s.i+1) (by omega) (by omega)]
    exact ⟨⟨⟨by simp only;omega,by simp only;omega⟩,h3,fun j hj=>by
     by_cases e:(j:Int)<s.i
     ·exact hA j e
     ·have e:(j:Int)=s.i:=by simp only at hj;omega
      show jr s.l j=true
      rw [e];exact hg⟩,by simp only [Gv];omega⟩
 ·have c1:(List.length s.l:Int)≤s.i:=by simpa using c1
  exact .inl ⟨rfl,fun j hj=>hA j (by omega)⟩
def Ed:bQ oO:=⟨0,51,[0,2,3],[],aAT,azX,fun v _=>⟨aQ jL (v.getD 0 .junk),vH (v.getD 1 .junk),gI (v.getD 2 .junk)⟩,Yf,fun s r=> {r with l:=s.l},fun s=>s,fun _ s=>s,[.ret,.exit 0],abY,Lc,Gv⟩
abbrev YL:=Ed.run
abbrev aaq:=Ed.jZ
abbrev avX:=Ed.q
theorem asx (s:oO) (hI:Lc s):(Yf s).all (fun _=>True):=by
 refine ⟨fun c1=>⟨?_,fun _=>trivial,fun c2=>⟨fun c3=>⟨?_,?_,fun _=>trivial,fun c4=>⟨?_,?_,fun _=>trivial,fun _=>trivial⟩⟩,fun _=>trivial⟩⟩,fun _=>trivial⟩
 all_goals ((obtain ⟨⟨h0,h1⟩,h3,hA⟩:=hI;simp only [decide_eq_true_eq] at c1;first|omega|(simp only [decide_eq_true_eq,gt_iff_lt] at c3;rw [aK (x:=s.i-1) (by omega) (by omega)];omega)))
noncomputable def V8:Specs:=bf [(90,aif)]
theorem aho:∀g S,V8 g=some S→Valid Tryz.prog aP g S:=aS (l:=[(90,aif)]) ⟨awU,trivial⟩
theorem afG:Ed.Ok:=⟨fun s=>by kernel_rfl,fun s=>by kernel_rfl,fun s=>rfl,fun s t r=>rfl,fun s=>rfl,fun s=>by kernel_rfl⟩
theorem aeI:Ed.Pf (aiU):=⟨axS,fun _ _=>rfl,atm,asx⟩
theorem akw:bg Tryz.prog aP (AN 0) (.loop Am) Ed.lp:=bQ.snd afG aeI (aU (Γ:=V8) (K:=eY) (L:=aC) aho aG Am (fun b hb=>by rw [show aF Am=[] by kernel_rfl] at hb;cases hb)) (fun s=>by kernel_rfl)
theorem alu (s:oO) (hE:abY s):∃s',Lc s'∧aiU (aaq s) s' (YL s):=bQ.fin afG aeI s hE
def aa7:List LV→T LV
 | [.xl (.pair (.int .i64) (.pair (.int .i64) (.pair (.int .i64) (.pair (.int .i64) (.int .i64))))) l]=> .req ((List.length l:Int)≤1000) (.ok (.v (.bool (jY l))))
 |_=> .no
noncomputable def Xa:List LV→T LV:=gW Tryz.prog Tryz.f50.params.toList aa7
theorem amg (l:List Le):bW Tryz.prog aP (V8) eY (fun i=>if i=2 then Ed.lp else aC i) Tryz.f50 [.xl jL l]=.req (avX (⟨l,false,(0:Int)⟩:oO)) (.br (ig (aaq (⟨l,false,(0:Int)⟩:oO)) (.ret)) (.ok (.v (.bool (YL (⟨l,false,(0:Int)⟩:oO)).r))) (.ok (.v (.bool (decide ((List.length l:Int)≤64)))))):=by kernel_rfl
theorem aq4:Valid Tryz.prog aP 50 Xa:=aH Tryz.func50 rfl aho aG (L:=(fun i=>if i=2 then Ed.lp else aC i)) (fun b hb=>by
 rw [show aF _=[Am] by kernel_rfl] at hb
 simp only [List.mem_cons,List.not_mem_nil,or_false] at hb
 subst hb
 exact akw) (fun args lv h=>by
 unfold aa7 at h
 split at h
 ·simp only [canL,canX]
  rw [amg]
  rename_i l
  obtain ⟨hn,rfl⟩:=h
  have hE:abY ⟨l,false,0⟩:=⟨rfl,hn⟩
  refine ⟨⟨hE,rfl,rfl⟩,?_⟩
  obtain ⟨_,_,hq⟩:=alu _ hE
  unfold jY
  rcases hq with ⟨q1,q2⟩ |⟨q1,q2,j,q3,q4⟩<;>rw [q1]
  ·have e:Jr l.length (jr l)=true:=fM.2 q2
   rw [e,Bool.and_true]
   refine ⟨fun h=>(by cases h),fun _=>congrArg (fun z=>LV.v (.bool z)) ?_⟩
   by_cases h:l.length≤64
   ·rw [decide_eq_true h,decide_eq_true (by omega)]
   ·rw [decide_eq_false h,decide_eq_false (by omega)]
  ·have e:Jr l.length (jr l)=false:=sU j q3 q4
   rw [q2,e,Bool.and_false]
   exact ⟨fun _=>rfl,fun h=>by cases h⟩
 ·cases h)
structure qi where
 WJ:Int
 level:Int
 x:Int
 pY:ByteArray
 Wy:Int
 pX:Int
 mn:Int
 mx:Int
 st:Int
 kT:Int
 lY:Int
def aAU (s:qi):List LV:=[.v (.int .i64 s.WJ),.own 0 0,.v (.int .i64 s.level),.v (.int .i64 s.x)]
def azY (s:qi):List aT:=[⟨[.v (.string s.pY),.v (.int .i64 s.Wy),.v (.int .i64 s.pX),.v (.int .i64 s.mn),.v (.int .i64 s.mx),.v (.int .i64 s.st),.v (.int .i64 s.kT),.v (.int .i64 s.lY)],58,.cl,false⟩]
noncomputable def Ap:Code:=((aF (Tryz.f83.body.getD .skip))[0]?).getD .skip
def Yg (s:qi):T (Rd qi):=
 .br (decide (s.x≤s.mx)) (.br (decide (s.x≤s.WJ)) (.ok (.next {s with level:=s.x,x:=(IntKind.i64.wrap (s.x+s.st))})) (.ok (.next {s with x:=(IntKind.i64.wrap (s.x+s.st))}))) (.ok (.stop (.exit 0) s))
abbrev ap9 (s:qi):=(Yg s).rd s
def ajC (s:qi):Prop:=s.level=0∧s.x=s.mn∧uz s.mn s.mx s.st
def IV (s:qi):Prop:=OB s.mn s.mx s.st s.WJ s.level s.x
def Gw (s:qi):Nat:=(s.mx+1-s.x).toNat
def aiV (x:Ex) (_ s':qi):Prop:=x=.exit 0∧s'.level=kY s'.mn s'.mx s'.st s'.WJ
theorem axT:∀s,ajC s→IV s:=by
 intro s h
 obtain ⟨h0,h1,h2⟩:=h
 unfold IV
 rw [h0,h1]
 exact VQ h2
theorem atn (s:qi) (hI:IV s):bM (fun s'=>IV s'∧Gw s'<Gw s) (fun x s'=>aiV x s s') (ap9 s):=by
 unfold ap9 Yg
 dsimp only [T.rd,T.rl]
 have hI':OB s.mn s.mx s.st s.WJ s.level s.x:=hI
 have hc:=hI'.1
 unfold uz at hc
 refine au (fun c1=>?_) (fun c1=>⟨rfl,agN hI' (by simpa using c1)⟩)
 have c1:s.x≤s.mx:=by simpa using c1
 have hs:=acQ hI' c1
 have hx:=hI'.2.1
 rw [aK (x:=s.x+s.st) (by omega) (by omega)]
 refine au (fun c2=>?_) (fun c2=>?_)
 ·rw [if_pos (by simpa using c2)] at hs
  exact ⟨hs,by simp only [Gw];omega⟩
 ·rw [if_neg (by simpa using c2)] at hs
  exact ⟨hs,by simp only [Gw];omega⟩
def Ee:bQ qi:=⟨0,22,[1,2,5,6],[],aAU,azY,fun v b=>⟨gI (v.getD 0 .junk),gI (v.getD 2 .junk),gI (v.getD 3 .junk),gSr (aY (aO b 0) 0),gI (aY (aO b 0) 1),gI (aY (aO b 0) 2),gI (aY (aO b 0) 3),gI (aY (aO b 0) 4),gI (aY (aO b 0) 5),gI (aY (aO b 0) 6),gI (aY (aO b 0) 7)⟩,Yg,fun s r=> {r with WJ:=s.WJ,pY:=s.pY,Wy:=s.Wy,pX:=s.pX,mn:=s.mn,mx:=s.mx,st:=s.st,kT:=s.kT,lY:=s.lY},fun s=>s,fun _ s=>s,[.exit 0],ajC,IV,Gw⟩
abbrev YM:=Ee.run
abbrev anF:=Ee.jZ
abbrev avY:=Ee.q
theorem asy (s:qi) (_:IV s):(Yg s).all (fun _=>True):=by
 exact ⟨fun c1=>⟨fun _=>trivial,fun _=>trivial⟩,fun _=>trivial⟩
theorem afH:Ee.Ok:=⟨fun s=>by kernel_rfl,fun s=>by kernel_rfl,fun s=>rfl,fun s t r=>rfl,fun s=>rfl,fun s=>by kernel_rfl⟩
theorem aeJ:Ee.Pf (aiV):=⟨axT,fun _ _=>rfl,atn,asy⟩
theorem akx:bg Tryz.prog aP (AN 0) (.loop Ap) Ee.lp:=bQ.snd afH aeJ (aU (Γ:=OO) (K:=eY) (L:=aC) V3 aG Ap (fun b hb=>by rw [show aF Ap=[] by kernel_rfl] at hb;cases hb)) (fun s=>by kernel_rfl)
theorem alv (s:qi) (hE:ajC s):∃s',IV s'∧aiV (anF s) s' (YM s):=bQ.fin afH aeJ s hE
def abd:List LV→T LV
 | [.v (.agg ⟨[.string _,.int .i64 _,.int .i64 _,.int .i64 mn,.int .i64 mx,.int .i64 st,.int .i64 _,.int .i64 _]⟩),.v (.int .i64 a)]=> .req (uz mn mx st) (.ok (.v (.int .i64 (kY mn mx st a))))
 |_=> .no
noncomputable def Xe:List LV→T LV:=gW Tryz.prog Tryz.f83.params.toList abd
theorem amk (nm:ByteArray) (at_ ph mn mx st fb ow a:Int):bW Tryz.prog aP (OO) eY (fun i=>if i=3 then Ee.lp else aC i) Tryz.f83 [.v (.agg #[.string nm,.int .i64 at_,.int .i64 ph,.int .i64 mn,.int .i64 mx,.int .i64 st,.int .i64 fb,.int .i64 ow]),.v (.int .i64 a)]=.req (avY (⟨a,(0:Int),mn,nm,at_,ph,mn,mx,st,fb,ow⟩:qi)) (.ok (.v (.int .i64 (YM (⟨a,(0:Int),mn,nm,at_,ph,mn,mx,st,fb,ow⟩:qi)).level))):=by kernel_rfl
theorem aq8:Valid Tryz.prog aP 83 Xe:=aH Tryz.func83 rfl V3 aG (L:=(fun i=>if i=3 then Ee.lp else aC i)) (fun b hb=>by
 rw [show aF _=[Ap] by kernel_rfl] at hb
 simp only [List.mem_cons,List.not_mem_nil,or_false] at hb
 subst hb
 exact akx) (fun args lv h=>by
 unfold abd at h
 split at h
 ·simp only [canL,canX]
  rw [amk]
  obtain ⟨hc,rfl⟩:=h
  refine nD ⟨⟨rfl,rfl,hc⟩,rfl,rfl⟩ (fun hE=>?_)
  obtain ⟨_,_,_,q⟩:=alv _ hE.1
  rw [q]
  exact rfl
 ·cases h)
def abb:List LV→T LV
 | [.v (.agg ⟨[.string _,.int .i64 _,.int .i64 ph,.int .i64 mn,.int .i64 mx,.int .i64 st,.int .i64 fb,.int .i64 _]⟩),.v (.agg ⟨[.int .i64 a,.int .i64 si]⟩)]=> .ok (.v (.bool (Jt ph mn mx st fb a si)))
 |_=> .no
noncomputable def Xd:List LV→T LV:=gW Tryz.prog Tryz.f51.params.toList abb
noncomputable def ahE:Specs:=bf [(83,Xe),(91,aie)]
theorem auH:∀g S,ahE g=some S→Valid Tryz.prog aP g S:=aS (l:=[(83,Xe),(91,aie)]) ⟨aq8,awT,trivial⟩
theorem amj (nm:ByteArray) (at_ ph mn mx st fb ow a si:Int):bW Tryz.prog aP (ahE) eY aC Tryz.f51 [.v (.agg #[.string nm,.int .i64 at_,.int .i64 ph,.int .i64 mn,.int .i64 mx,.int .i64 st,.int .i64 fb,.int .i64 ow]),.v (.agg #[.int .i64 a,.int .i64 si])]=.br (Kz ph mn mx st fb) (.br (decide (a≥0)) (.br (decide (si≥0)) (.br (decide (si≤1000000)) (.req (uz mn mx st) (.ok (.v (.bool ((kY mn mx st a)==a))))) (.ok (.v (.bool false)))) (.ok (.v (.bool false)))) (.ok (.v (.bool false)))) (.ok (.v (.bool false))):=by kernel_rfl
theorem aq7:Valid Tryz.prog aP 51 Xd:=aH Tryz.func51 rfl auH aG (aW (by kernel_rfl)) (fun args lv h=>by
 unfold abb at h
 split at h
 ·simp only [canL,canX]
  rw [amj]
  rename_i nm at_ ph mn mx st fb ow a si
  obtain rfl:=h
  unfold Jt
  cases hc:Kz ph mn mx st fb with
  |false=>simp [T.all]
  |true=>
   have hp:=Wp hc
   by_cases h1:0≤a<;>by_cases h2:0≤si<;>by_cases h3:si≤1000000<;>simp [T.all,h1,h2,h3,hp]
 ·cases h)
end Go.Proofs.YtlihnbimgclogaaGreatDoor
namespace Go.Proofs.YtlihnbimgclogaaGreatDoor
open Go.Sx
def inG (n:Int):List ByteArray→ByteArray→Int
 | [],_=>-1
 |x::xs,w=>if (x==w)=true then n else inG (n+1) xs w
def inI (l:List ByteArray) (w:ByteArray):Int:=inG 0 l w
theorem Zn {w:ByteArray}:∀ {l:List ByteArray}{n:Int},0≤n→(0≤inG n l w↔isIn l w=true)
 | [],n,_=>by simp [inG,isIn]
 | x::xs,n,h=>by
  rw [inG]
  have e:isIn (x::xs) w=(w==x ||isIn xs w):=rfl
  rw [e]
  split
  ·rename_i hx
   have:x=w:=by simpa using hx
   subst this
   simp [h]
  ·rename_i hx
   have hx:¬x=w:=by simpa using hx
   have:(w==x)=false:=by simpa using fun e=>hx e.symm
   rw [this,Bool.false_or]
   exact Zn (by omega)
theorem E5 {l:List ByteArray}{w:ByteArray}:decide (inI l w≥0)=isIn l w:=by
 rw [Bool.eq_iff_iff,decide_eq_true_eq]
 exact Zn (Int.le_refl _)
theorem Jv {l:List ByteArray}{w:ByteArray}:isIn l w=l.contains w:=by
 unfold isIn
 rw [List.contains_eq_any_beq]
def xK (b j:Int):Bool:=chA b ||(!(j==0)&&((decide (b≥48)&&decide (b≤57)) ||b==95))
theorem Zw {b:Int}:xK b 0=chA b:=by simp [xK]
theorem J5 {b j:Int}(h:j≠0):xK b j=chB b:=by
 unfold xK chB
 rw [show (j==0)=false by simpa using h]
 rfl
theorem agz {w:ByteArray}:nameB w=(Jr w.size (fun j=>xK (rD w j) j)&&(decide ((w.size:Int)≥1)&&(decide ((w.size:Int)≤12)&&!EN w))):=by
 unfold nameB gwB
 by_cases h1:1≤w.size
 ·by_cases h2:w.size≤12
  ·rw [decide_eq_true (show 1≤w.size∧w.size≤12 from ⟨h1,h2⟩),decide_eq_true (show (w.size:Int)≥1 by omega),decide_eq_true (show (w.size:Int)≤12 by omega),Bool.true_and,Bool.true_and,Bool.true_and]
   congr 1
   rw [Bool.eq_iff_iff,Bool.and_eq_true,List.all_eq_true,fM]
   constructor
   ·rintro ⟨a,b⟩ j hj
    by_cases e:j=0
    ·subst e;exact (Zw (b:=rD w 0)).trans a
    ·have:=b j (List.mem_range.2 (by omega))
     rw [J5 (by omega)]
     simpa [e] using this
   ·intro h
    refine ⟨(Zw (b:=rD w 0)).symm.trans (h 0 (by omega)),fun j hj=>?_⟩
    by_cases e:j=0
    ·simp [e]
    ·have:=h j (by have:=List.mem_range.1 hj;omega)
     rw [J5 (by omega)] at this
     simp [this]
  ·rw [decide_eq_false (show ¬(1≤w.size∧w.size≤12) by omega),decide_eq_false (show ¬(w.size:Int)≤12 by omega)]
   simp
 ·rw [decide_eq_false (show ¬(1≤w.size∧w.size≤12) by omega),decide_eq_false (show ¬(w.size:Int)≥1 by omega)]
  simp
def nmR (l:List ByteArray):Prop:=∀w∈l,(w.size:Int)≤9223372036854775807
def nmB (l:List ByteArray):Bool:=l.all nameB&&once l
theorem adU {cs:List Cd}{os:List ByteArray}{ks:List Ko}{gs:List Ch}{bs:List Ba}(hd:1≤cs.length∧cs.length≤16∧os.length≤8∧ks.length≤32∧gs.length≤16∧bs.length≤24):fO cs os ks gs bs=(nmB (gB cs os ks gs bs)&&Us cs os ks gs bs):=by
 unfold fO nmB
 rw [decide_eq_true hd,Bool.true_and,Bool.and_assoc]
theorem agY {n a b:Int}:inB n a b=false↔¬(a≤n∧n≤b):=by
 rw [←dZ]
 simp
theorem acs {ks:List Ko}{i c:Int}(h0:0≤i) (h:i≤(ks.length:Int)):((ks.take i.toNat).map (·.2.2.2)).contains c=true↔∃j:Nat,(j:Int)<i∧(mM ks j).2.2.2=c:=by
 rw [List.contains_iff_mem,List.mem_map]
 constructor
 ·rintro ⟨x,hx,rfl⟩
  obtain ⟨j,hj,rfl⟩:=List.mem_iff_getElem.1 hx
  rw [List.length_take] at hj
  exact ⟨j,by omega,by rw [ahG (by simp only [Int.toNat_natCast];omega)];simp⟩
 ·rintro ⟨j,hj,rfl⟩
  refine ⟨mM ks j,?_,rfl⟩
  rw [ahG (by simp only [Int.toNat_natCast];omega),List.mem_iff_getElem]
  exact ⟨j,by rw [List.length_take];omega,by simp⟩
end Go.Proofs.YtlihnbimgclogaaGreatDoor
namespace Go.Proofs.YtlihnbimgclogaaGreatDoor
open Go.Sx
structure mr where
 l:List ByteArray
 w:ByteArray
 r:Int
 i:Int
def aBd (s:mr):List LV:=[.xl .str s.l,.v (.string s.w),.v (.int .i64 s.r),.v (.int .i64 s.i)]
def aAg (_:mr):List aT:=[]
noncomputable def AU:Code:=((aF (Tryz.f144.body.getD .skip))[0]?).getD .skip
def Qq (s:mr):T (Rd mr):=
 .br (decide (s.i<(List.length s.l:Int))) (.req (0≤s.i∧s.i<(List.length s.l:Int)) (.br ((gS s.l s.i).toList==s.w.toList) (.ok (.stop (.ret) {s with r:=s.i})) (.ok (.next {s with i:=(IntKind.i64.wrap (s.i+1))})))) (.ok (.stop (.exit 0) s))
abbrev Z9 (s:mr):=(Qq s).rd s
def ajG (s:mr):Prop:=s.i=0∧(List.length s.l:Int)≤1000∧True
def TT (s:mr):Prop:=0≤s.i∧s.i≤(List.length s.l:Int)∧(List.length s.l:Int)≤1000∧True
def NZ (s:mr):Nat:=((List.length s.l:Int)-s.i).toNat
def aqG (_:Ex) (_ _:mr):Prop:=True
theorem aym:∀s,ajG s→TT s:=by
 intro s h
 obtain ⟨h0,h1,h2⟩:=h
 exact ⟨by omega,by omega,h1,h2⟩
theorem aus (s:mr) (hI:TT s):bM (fun s'=>TT s'∧NZ s'<NZ s) (fun x s'=>aqG x s s') (Z9 s):=by
 unfold Z9 Qq
 dsimp only [T.rd,T.rl]
 obtain ⟨h0,h1,h2,h3⟩:=hI
 refine au (fun c1=>?_) (fun c1=>?_)
 ·refine au (fun c2=>?_) (fun c2=>?_)
  ·trivial
  ·have c1:s.i<(List.length s.l:Int):=by simpa using c1
   rw [aK (x:=s.i+1) (by omega) (by omega)]
   exact ⟨⟨by simp only;omega,by simp only;omega,h2,h3⟩,by simp only [NZ];omega⟩
 ·trivial
def Eu:bQ mr:=⟨0,19,[0,1,4,5],[],aBd,aAg,fun v _=>⟨aQ .str (v.getD 0 .junk),gSr (v.getD 1 .junk),gI (v.getD 2 .junk),gI (v.getD 3 .junk)⟩,Qq,fun s r=> {r with l:=s.l,w:=s.w},fun s=>s,fun _ s=>s,[.ret,.exit 0],ajG,TT,NZ⟩
abbrev YQ:=Eu.run
abbrev aat:=Eu.jZ
abbrev awg:=Eu.q
theorem asQ (s:mr) (hI:TT s):(Qq s).all (fun _=>True):=by
 refine ⟨fun c1=>⟨?_,fun _=>trivial,fun _=>trivial⟩,fun _=>trivial⟩
 ·(obtain ⟨h0,h1,h2,h3⟩:=hI;simp only [decide_eq_true_eq] at c1;omega)
noncomputable def Hw:Specs:=bf []
theorem J7:∀g S,Hw g=some S→Valid Tryz.prog aP g S:=aS (l:=[]) trivial
theorem afQ:Eu.Ok:=⟨fun s=>by kernel_rfl,fun s=>by kernel_rfl,fun s=>rfl,fun s t r=>rfl,fun s=>rfl,fun s=>by kernel_rfl⟩
theorem aeS:Eu.Pf (aqG):=⟨aym,fun _ _=>rfl,aus,asQ⟩
theorem akN:bg Tryz.prog aP (AN 0) (.loop AU) Eu.lp:=bQ.snd afQ aeS (aU (Γ:=Hw) (K:=eY) (L:=aC) J7 aG AU (fun b hb=>by rw [show aF AU=[] by kernel_rfl] at hb;cases hb)) (fun s=>by kernel_rfl)
theorem ani (s:mr) (hE:ajG s):(fun (x:Ex) (s':mr) (v:Int)=>(x=.ret∧s'.r=v)∨(x=.exit 0∧v=-1)) (aat s) (YQ s) ((fun s:mr=>inG s.i (s.l.drop s.i.toNat) s.w) s):=by
 exact bQ.xB afQ aeS (fun s:mr=>inG s.i (s.l.drop s.i.toNat) s.w) (fun x s' v=>(x=.ret∧s'.r=v)∨(x=.exit 0∧v=-1)) (fun s hI=>by
  show bM _ _ (Z9 s)
  unfold Z9 Qq
  dsimp only [T.rd,T.rl]
  obtain ⟨h0,h1,h2,h3⟩:=hI
  refine au (fun c1=>au (fun c2=>?_) (fun c2=>?_)) (fun c1=>?_)
  ·have c1:s.i<(List.length s.l:Int):=by simpa using c1
   rw [sK] at c2
   refine .inl ⟨rfl,?_⟩
   try simp only
   rw [(tV h0 c1).1,inG,if_pos c2]
  ·have c1:s.i<(List.length s.l:Int):=by simpa using c1
   rw [sK] at c2
   rw [aK (x:=s.i+1) (by omega) (by omega)]
   show inG _ _ _=inG _ _ _
   rw [(tV h0 c1).1,inG,if_neg (by rw [c2];simp)]
  ·have c1:(List.length s.l:Int)≤s.i:=by simpa using c1
   refine .inr ⟨rfl,?_⟩
   rw [List.drop_eq_nil_of_le (by omega)]
   rfl) s hE
def ait:List LV→T LV
 | [.xl (.str) l,.v (.string w)]=> .req ((List.length l:Int)≤1000) (.ok (.v (.int .i64 (inI l w))))
 |_=> .no
noncomputable def aic:List LV→T LV:=gW Tryz.prog Tryz.f144.params.toList ait
theorem atM (l:List ByteArray) (w:ByteArray):bW Tryz.prog aP (Hw) eY (fun i=>if i=2 then Eu.lp else aC i) Tryz.f144 [.xl .str l,.v (.string w)]=.req (awg (⟨l,w,(0:Int),(0:Int)⟩:mr)) (.br (ig (aat (⟨l,w,(0:Int),(0:Int)⟩:mr)) (.ret)) (.ok (.v (.int .i64 (YQ (⟨l,w,(0:Int),(0:Int)⟩:mr)).r))) (.ok (.v (.int .i64 (-1))))):=by kernel_rfl
theorem awR:Valid Tryz.prog aP 144 aic:=aH Tryz.func144 rfl J7 aG (L:=(fun i=>if i=2 then Eu.lp else aC i)) (fun b hb=>by
 rw [show aF _=[AU] by kernel_rfl] at hb
 simp only [List.mem_cons,List.not_mem_nil,or_false] at hb
 subst hb
 exact akN) (fun args lv h=>by
 unfold ait at h
 split at h
 ·simp only [canL,canX]
  rw [atM]
  obtain ⟨hl,rfl⟩:=h
  refine nD ⟨⟨rfl,hl,trivial⟩,rfl,rfl⟩ (fun hE=>?_)
  rcases ani _ hE.1 with ⟨q1,q2⟩ |⟨q1,q2⟩
  ·rw [q1,q2]
   exact ⟨fun _=>rfl,fun h=>by cases h⟩
  ·rw [q1]
   refine ⟨fun h=>(by cases h),fun _=>congrArg (fun z=>LV.v (.int .i64 z)) ?_⟩
   exact q2.symm
 ·cases h)
def KF:List LV→T LV
 | []=> .ok (.xl .str kinds)
 |_=> .no
noncomputable def IB:List LV→T LV:=gW Tryz.prog Tryz.f145.params.toList KF
theorem acI  :bW Tryz.prog aP (Hw) eY aC Tryz.f145 []=.ok (.xl .str ([(ByteArray.mk #[102,101,101,100,101,114]),(ByteArray.mk #[99,97,98,108,101]),(ByteArray.mk #[111,119,110,101,114]),(ByteArray.mk #[99,111,110,116,114,97,99,116]),(ByteArray.mk #[99,104,97,114,103,101,114]),(ByteArray.mk #[98,97,121]),(ByteArray.mk #[116,97,114,105,102,102])])):=by kernel_rfl
theorem adD:Valid Tryz.prog aP 145 IB:=aH Tryz.func145 rfl J7 aG (aW (by kernel_rfl)) (fun args lv h=>by
 unfold KF at h
 split at h
 ·simp only [canL]
  rw [acI]
  exact h
 ·cases h)
def KG:List LV→T LV
 | []=> .ok (.xl .str DJ)
 |_=> .no
noncomputable def IG:List LV→T LV:=gW Tryz.prog Tryz.f146.params.toList KG
theorem acJ  :bW Tryz.prog aP (Hw) eY aC Tryz.f146 []=.ok (.xl .str ([(ByteArray.mk #[108,105,109,105,116]),(ByteArray.mk #[110,101,117,116,114,97,108]),(ByteArray.mk #[102,117,115,101]),(ByteArray.mk #[116,104,101,114,109,97,108]),(ByteArray.mk #[102,114,111,109]),(ByteArray.mk #[97,116]),(ByteArray.mk #[112,104,97,115,101,115]),(ByteArray.mk #[97,109,112,115]),(ByteArray.mk #[102,97,108,108,98,97,99,107]),(ByteArray.mk #[111,119,110,101,114]),(ByteArray.mk #[99,97,114,100]),(ByteArray.mk #[114,97,110,107]),(ByteArray.mk #[99,104,97,114,103,101,114])])):=by kernel_rfl
theorem adG:Valid Tryz.prog aP 146 IG:=aH Tryz.func146 rfl J7 aG (aW (by kernel_rfl)) (fun args lv h=>by
 unfold KG at h
 split at h
 ·simp only [canL]
  rw [acJ]
  exact h
 ·cases h)
def Bz:List LV→T LV
 | []=> .ok (.xl .str nU)
 |_=> .no
noncomputable def vS:List LV→T LV:=gW Tryz.prog Tryz.f147.params.toList Bz
theorem Nj  :bW Tryz.prog aP (Hw) eY aC Tryz.f147 []=.ok (.xl .str ([(ByteArray.mk #[115,116,97,114,116]),(ByteArray.mk #[101,110,101,114,103,121]),(ByteArray.mk #[116,105,109,101]),(ByteArray.mk #[105,100,108,101]),(ByteArray.mk #[99,97,112]),(ByteArray.mk #[116,97,120])])):=by kernel_rfl
theorem PX:Valid Tryz.prog aP 147 vS:=aH Tryz.func147 rfl J7 aG (aW (by kernel_rfl)) (fun args lv h=>by
 unfold Bz at h
 split at h
 ·simp only [canL]
  rw [Nj]
  exact h
 ·cases h)
def KE:List LV→T LV
 | []=> .ok (.xl .str words)
 |_=> .no
noncomputable def Iz:List LV→T LV:=gW Tryz.prog Tryz.f148.params.toList KE
theorem acH  :bW Tryz.prog aP (Hw) eY aC Tryz.f148 []=.ok (.xl .str ([(ByteArray.mk #[111,110]),(ByteArray.mk #[119,111,114,107]),(ByteArray.mk #[115,97,116,117,114,100,97,121]),(ByteArray.mk #[115,117,110,100,97,121]),(ByteArray.mk #[98,101,116,119,101,101,110]),(ByteArray.mk #[112,101,114]),(ByteArray.mk #[102,114,101,101])])):=by kernel_rfl
theorem adB:Valid Tryz.prog aP 148 Iz:=aH Tryz.func148 rfl J7 aG (aW (by kernel_rfl)) (fun args lv h=>by
 unfold KE at h
 split at h
 ·simp only [canL]
  rw [acH]
  exact h
 ·cases h)
structure og where
 w:ByteArray
 r:Bool
 i:Int
def aAM (s:og):List LV:=[.v (.string s.w),.v (.bool s.r),.v (.int .i64 s.i)]
def azQ (_:og):List aT:=[]
noncomputable def Ae:Code:=((aF (Tryz.f122.body.getD .skip))[0]?).getD .skip
def Yd (s:og):T (Rd og):=
 .br (decide (s.i<(s.w.size:Int))) (.req (0≤s.i∧s.i<(s.w.size:Int)) (.br (if decide ((rD s.w s.i)<97) then (s.i==0) ||(if decide ((rD s.w s.i)<48) then (rD s.w s.i) !=95 else (decide ((rD s.w s.i)>57))&&((rD s.w s.i) !=95)) else (decide ((rD s.w s.i)>122))&&((s.i==0) ||(if decide ((rD s.w s.i)<48) then (rD s.w s.i) !=95 else (decide ((rD s.w s.i)>57))&&((rD s.w s.i) !=95)))) (.ok (.stop (.ret) {s with r:=false})) (.ok (.next {s with i:=(IntKind.i64.wrap (s.i+1))})))) (.ok (.stop (.exit 0) s))
abbrev ap6 (s:og):=(Yd s).rd s
def I9 (s:og) (j:Int):Bool:=xK (rD s.w j) j
def ajv (s:og):Prop:=s.i=0∧0≤(s.w.size:Int)∧(s.w.size:Int)≤9223372036854775807∧True
def KZ (s:og):Prop:=0≤s.i∧s.i≤(s.w.size:Int)∧(s.w.size:Int)≤9223372036854775807∧(True)∧∀j:Nat,(j:Int)<s.i→I9 s j=true
def NC (s:og):Nat:=((s.w.size:Int)-s.i).toNat
def aiT (x:Ex) (_ s':og):Prop:=(x=.exit 0∧∀j:Nat,(j:Int)<(s'.w.size:Int)→I9 s' j=true)∨(x=.ret∧s'.r=false∧∃j:Nat,(j:Int)<(s'.w.size:Int)∧I9 s' j=false)
theorem axz:∀s,ajv s→KZ s:=by
 intro s h
 obtain ⟨h0,h1,h2,h3⟩:=h
 exact ⟨by omega,by omega,h2,h3,fun j hj=>by omega⟩
theorem ata (s:og) (hI:KZ s):bM (fun s'=>KZ s'∧NC s'<NC s) (fun x s'=>aiT x s s') (ap6 s):=by
 unfold ap6 Yd
 dsimp only [T.rd,T.rl]
 obtain ⟨h0,h1,h2,h3,h4⟩:=hI
 refine au (fun c1=>au (fun c2=>?_) (fun c2=>?_)) (fun c1=>?_)
 ·have c1:s.i<(s.w.size:Int):=by simpa using c1
  refine .inr ⟨rfl,rfl,s.i.toNat,by simp only;omega,?_⟩
  rw [Int.toNat_of_nonneg (by omega)]
  have hg:I9 s s.i=false:=by unfold I9;(revert c2;unfold xK chA;generalize rD s.w s.i=b;intro c2;by_cases h1:b<97<;>by_cases h2:b≤122<;>by_cases h3:b<48<;>by_cases h4:b≤57<;>by_cases h5:b=95<;>by_cases h6:s.i=0<;>simp_all<;>omega)
  exact hg
 ·have c1:s.i<(s.w.size:Int):=by simpa using c1
  have hg:I9 s s.i=true:=by unfold I9;(revert c2;unfold xK chA;generalize rD s.w s.i=b;intro c2;by_cases h1:b<97<;>by_cases h2:b≤122<;>by_cases h3:b<48<;>by_cases h4:b≤57<;>by_cases h5:b=95<;>by_cases h6:s.i=0<;>simp_all<;>omega)
  rw [aK (x:=s.i+1) (by omega) (by omega)]
  refine ⟨⟨by simp only;omega,by simp only;omega,h2,h3,fun j hj=>?_⟩,by simp only [NC];omega⟩
  by_cases hji:(j:Int)<s.i
  ·exact h4 j hji
  ·have:(j:Int)=s.i:=by simp only at hj;omega
   rw [this];exact hg
 ·have c1:(s.w.size:Int)≤s.i:=by simpa using c1
  exact .inl ⟨rfl,fun j hj=>h4 j (by omega)⟩
def D6:bQ og:=⟨0,71,[0,2,3],[],aAM,azQ,fun v _=>⟨gSr (v.getD 0 .junk),vH (v.getD 1 .junk),gI (v.getD 2 .junk)⟩,Yd,fun s r=> {r with w:=s.w},fun s=>s,fun _ s=>s,[.ret,.exit 0],ajv,KZ,NC⟩
abbrev YJ:=D6.run
abbrev aao:=D6.jZ
abbrev avP:=D6.q
theorem aso (s:og) (hI:KZ s):(Yd s).all (fun _=>True):=by
 refine ⟨fun c1=>⟨?_,fun _=>trivial,fun _=>trivial⟩,fun _=>trivial⟩
 ·(obtain ⟨h0,h1,h2,h3,h4⟩:=hI;simp at c1;omega)
noncomputable def ahy:Specs:=bf [(144,aic),(145,IB),(146,IG),(147,vS),(148,Iz)]
theorem apB:∀g S,ahy g=some S→Valid Tryz.prog aP g S:=aS (l:=[(144,aic),(145,IB),(146,IG),(147,vS),(148,Iz)]) ⟨awR,adD,adG,PX,adB,trivial⟩
theorem afz:D6.Ok:=⟨fun s=>by kernel_rfl,fun s=>by kernel_rfl,fun s=>rfl,fun s t r=>rfl,fun s=>rfl,fun s=>by kernel_rfl⟩
theorem aeB:D6.Pf (aiT):=⟨axz,fun _ _=>rfl,ata,aso⟩
theorem akp:bg Tryz.prog aP (AN 0) (.loop Ae) D6.lp:=bQ.snd afz aeB (aU (Γ:=ahy) (K:=eY) (L:=aC) apB aG Ae (fun b hb=>by rw [show aF Ae=[] by kernel_rfl] at hb;cases hb)) (fun s=>by kernel_rfl)
theorem alj (s:og) (hE:ajv s):∃s',KZ s'∧aiT (aao s) s' (YJ s):=bQ.fin afz aeB s hE
def Tn:List LV→T LV
 | [.v (.string w)]=> .req ((w.size:Int)≤9223372036854775807) (.ok (.v (.bool (nameB w))))
 |_=> .no
noncomputable def Pj:List LV→T LV:=gW Tryz.prog Tryz.f122.params.toList Tn
theorem agn (w:ByteArray):bW Tryz.prog aP (ahy) eY (fun i=>if i=2 then D6.lp else aC i) Tryz.f122 [.v (.string w)]=.req (avP (⟨w,false,(0:Int)⟩:og)) (.br (ig (aao (⟨w,false,(0:Int)⟩:og)) (.ret)) (.ok (.v (.bool (YJ (⟨w,false,(0:Int)⟩:og)).r))) (.req ((List.length kinds:Int)≤1000) (.br (decide ((inI kinds w)≥0)) (.ok (.v (.bool false))) (.req ((List.length DJ:Int)≤1000) (.br (decide ((inI DJ w)≥0)) (.ok (.v (.bool false))) (.req ((List.length nU:Int)≤1000) (.br (decide ((inI nU w)≥0)) (.ok (.v (.bool false))) (.req ((List.length words:Int)≤1000) (.ok (.v (.bool ((decide ((w.size:Int)≥1))&&((decide ((w.size:Int)≤12))&&(!(decide ((inI words w)≥0)))))))))))))))):=by kernel_rfl
theorem ajR:Valid Tryz.prog aP 122 Pj:=aH Tryz.func122 rfl apB aG (L:=(fun i=>if i=2 then D6.lp else aC i)) (fun b hb=>by
 rw [show aF _=[Ae] by kernel_rfl] at hb
 simp only [List.mem_cons,List.not_mem_nil,or_false] at hb
 subst hb
 exact akp) (fun args lv h=>by
 unfold Tn at h
 split at h
 ·simp only [canL,canX]
  rw [agn]
  rename_i w
  obtain ⟨hl,rfl⟩:=h
  refine nD ⟨⟨rfl,Int.natCast_nonneg _,hl,trivial⟩,rfl,rfl⟩ (fun hE=>?_)
  obtain ⟨s',_,hq⟩:=alj _ hE.1
  rw [agz]
  rcases hq with ⟨q1,q2⟩ |⟨q1,q2,j,q3,q4⟩
  ·have q2:Jr w.size (fun j=>xK (rD w j) j)=true:=fM.2 q2
   rw [q1,q2,Bool.true_and]
   have k1:=E5 (l:=kinds) (w:=w)
   have k2:=E5 (l:=DJ) (w:=w)
   have k3:=E5 (l:=nU) (w:=w)
   have k4:=E5 (l:=words) (w:=w)
   refine ⟨fun h=>(by cases h),fun _=>⟨by decide,fun c1=>?_,fun c1=>⟨by decide,fun c2=>?_,fun c2=>⟨by decide,fun c3=>?_,fun c3=>⟨by decide,?_⟩⟩⟩⟩⟩
   ·have:EN w=true:=by unfold EN;rw [←k1,c1];rfl
    rw [this]
    simp
    exact rfl
   ·have:EN w=true:=by unfold EN;rw [←k1,c1,←k2,c2];rfl
    rw [this]
    simp
    exact rfl
   ·have:EN w=true:=by unfold EN;rw [←k1,c1,←k2,c2,←k3,c3];rfl
    rw [this]
    simp
    exact rfl
   ·have:EN w=decide (inI words w≥0):=by unfold EN;rw [←k1,c1,←k2,c2,←k3,c3,←k4];rfl
    rw [this]
    exact rfl
  ·rw [q1,q2]
   refine ⟨fun _=>congrArg (fun z=>LV.v (.bool z)) ?_,fun h=>by cases h⟩
   rw [sU (n:=w.size) (f:=fun j=>xK (rD w j) j) j q3 q4]
   rfl
 ·cases h)
end Go.Proofs.YtlihnbimgclogaaGreatDoor
namespace Go.Proofs.YtlihnbimgclogaaGreatDoor
open Go.Sx
def aa2:List LV→T LV
 | [.v (.int .i64 n),.v (.int .i64 a),.v (.int .i64 b)]=> .ok (.v (.bool (inB n a b)))
 |_=> .no
noncomputable def IC:List LV→T LV:=gW Tryz.prog Tryz.f86.params.toList aa2
noncomputable def Rz:Specs:=bf []
theorem Zy:∀g S,Rz g=some S→Valid Tryz.prog aP g S:=aS (l:=[]) trivial
theorem amb (n a b:Int):bW Tryz.prog aP (Rz) eY aC Tryz.f86 [.v (.int .i64 n),.v (.int .i64 a),.v (.int .i64 b)]=.ok (.v (.bool ((decide (n≥a))&&(decide (n≤b))))):=by kernel_rfl
theorem adE:Valid Tryz.prog aP 86 IC:=aH Tryz.func86 rfl Zy aG (aW (by kernel_rfl)) (fun args lv h=>by
 unfold aa2 at h
 split at h
 ·simp only [canL,canX]
  rw [amb]
  exact h
 ·cases h)
def aa5:List LV→T LV
 | [.v (.agg ⟨[.string nm,.int .i64 at_,.int .i64 ph,.int .i64 mi,.int .i64 ma,.int .i64 st,.int .i64 fb,.int .i64 ow]⟩)]=> .ok (.v (.bool (chW (nm,at_,ph,mi,ma,st,fb,ow))))
 |_=> .no
noncomputable def W9:List LV→T LV:=gW Tryz.prog Tryz.f89.params.toList aa5
noncomputable def ahx:Specs:=bf [(86,IC)]
theorem apA:∀g S,ahx g=some S→Valid Tryz.prog aP g S:=aS (l:=[(86,IC)]) ⟨adE,trivial⟩
theorem ame (nm:ByteArray) (at_ ph mi ma st fb ow:Int):bW Tryz.prog aP (ahx) eY aC Tryz.f89 [.v (.agg #[.string nm,.int .i64 at_,.int .i64 ph,.int .i64 mi,.int .i64 ma,.int .i64 st,.int .i64 fb,.int .i64 ow])]=.ok (.v (.bool ((inB ph (1:Int) (7:Int))&&((inB mi (1:Int) (80:Int))&&((inB ma mi (80:Int))&&((inB st (1:Int) (80:Int))&&((fb==0) ||(inB fb mi ma)))))))):=by kernel_rfl
theorem aq3:Valid Tryz.prog aP 89 W9:=aH Tryz.func89 rfl apA aG (aW (by kernel_rfl)) (fun args lv h=>by
 unfold aa5 at h
 split at h
 ·simp only [canL,canX]
  rw [ame]
  exact h
 ·cases h)
def aa3:List LV→T LV
 | [.agg [.xl (.pair .str (.pair (.int .i64) (.pair (.int .i64) (.pair (.int .i64) (.pair (.pair (.int .i64) (.int .i64)) (.pair (.int .i64) (.pair (.int .i64) (.pair (.int .i64) (.pair (.int .i64) (.int .i64)))))))))) cs,.xl (.str) os,.xl (.pair .str (.pair (.int .i64) (.pair (.int .i64) (.int .i64)))) ks,.xl (.pair .str (.pair (.int .i64) (.pair (.int .i64) (.pair (.int .i64) (.pair (.int .i64) (.pair (.int .i64) (.pair (.int .i64) (.int .i64)))))))) gs,.xl (.pair .str (.int .i64)) bs]]=> .ok (.v (.bool (decide (List.length cs≤40∧List.length os≤40∧List.length ks≤40∧List.length gs≤40∧List.length bs≤40))))
 |_=> .no
noncomputable def WY:List LV→T LV:=gW Tryz.prog Tryz.f34.params.toList aa3
theorem amc (cs:List Cd) (os:List ByteArray) (ks:List Ko) (gs:List Ch) (bs:List Ba):bW Tryz.prog aP (Rz) eY aC Tryz.f34 [.agg [.xl dW cs,.xl .str os,.xl eu ks,.xl dQ gs,.xl eG bs]]=.ok (.v (.bool ((decide ((List.length cs:Int)≤40))&&((decide ((List.length os:Int)≤40))&&((decide ((List.length ks:Int)≤40))&&((decide ((List.length gs:Int)≤40))&&(decide ((List.length bs:Int)≤40)))))))):=by kernel_rfl
theorem aq1:Valid Tryz.prog aP 34 WY:=aH Tryz.func34 rfl Zy aG (aW (by kernel_rfl)) (fun args lv h=>by
 unfold aa3 at h
 split at h
 ·simp only [canL,canX]
  rw [amc]
  obtain rfl:=h
  refine congrArg (fun z=>LV.v (.bool z)) ?_
  rw [Bool.eq_iff_iff]
  simp only [Bool.and_eq_true,decide_eq_true_eq]
  omega
 ·cases h)
def aa4:List LV→T LV
 | [.v (.agg ⟨[.string nm,.int .i64 xC,.int .i64 li,.int .i64 ne,.int .i64 ra,.int .i64 he,.int .i64 am,.int .i64 mo,.int .i64 ga,.int .i64 lo,.int .i64 de]⟩),.v (.int .i64 i)]=> .req (0≤i∧i≤1000) (.ok (.v (.bool (DI i (nm,xC,li,ne,(ra,he),am,mo,ga,lo,de)))))
 |_=> .no
noncomputable def WZ:List LV→T LV:=gW Tryz.prog Tryz.f88.params.toList aa4
theorem amd (nm:ByteArray) (xC li ne ra he am mo ga lo de i:Int):bW Tryz.prog aP (ahx) eY aC Tryz.f88 [.v (.agg #[.string nm,.int .i64 xC,.int .i64 li,.int .i64 ne,.int .i64 ra,.int .i64 he,.int .i64 am,.int .i64 mo,.int .i64 ga,.int .i64 lo,.int .i64 de]),.v (.int .i64 i)]=.br ((!(inB li (1:Int) (1000:Int))) ||((!(inB ne (1:Int) (1000:Int))) ||(if i==0 then (xC !=(-1)) ||((decide (i>0))&&(!(inB xC (0:Int) (IntKind.i64.wrap (i-1))))) else (decide (i>0))&&(!(inB xC (0:Int) (IntKind.i64.wrap (i-1))))))) (.ok (.v (.bool false))) (.br ((!((ra==0)&&(he==0)))&&((!(inB ra (1:Int) (1000:Int))) ||(!(inB he (0:Int) (1000000:Int))))) (.ok (.v (.bool false))) (.ok (.v (.bool (((am==0)&&((mo==0)&&((ga==0)&&((lo==0)&&(de==0))))) ||((inB am (0:Int) (200000:Int))&&((inB mo (IntKind.i64.wrap (am+1)) (200000:Int))&&((inB ga (0:Int) (1000:Int))&&((inB lo (0:Int) (1000:Int))&&(inB de (1:Int) (1000000:Int))))))))))):=by kernel_rfl
theorem aq2:Valid Tryz.prog aP 88 WZ:=aH Tryz.func88 rfl apA aG (aW (by kernel_rfl)) (fun args lv h=>by
 unfold aa4 at h
 split at h
 ·simp only [canL,canX]
  rw [amd]
  rename_i nm xC li ne ra he am mo ga lo de i
  obtain ⟨⟨h0,h1⟩,rfl⟩:=h
  have hw:IntKind.i64.wrap (i-1)=i-1:=aK (by omega) (by omega)
  rw [hw]
  have hU:(if i==0 then (xC !=(-1)) ||((decide (i>0))&&(!(inB xC (0:Int) (i-1)))) else (decide (i>0))&&(!(inB xC (0:Int) (i-1))))=!(if i=0 then xC==-1 else inB xC 0 (i-1)):=by
   by_cases e:i=0
   ·subst e
    simp
    rfl
   ·rw [if_neg (by simpa using e),if_neg e,decide_eq_true (by omega),Bool.true_and]
  rw [hU]
  unfold DI
  simp only
  generalize (if i=0 then xC==-1 else inB xC 0 (i-1))=u
  generalize inB li 1 1000=a
  generalize inB ne 1 1000=b
  have hC:((((am==0)&&((mo==0)&&((ga==0)&&((lo==0)&&(de==0))))) ||((inB am (0:Int) (200000:Int))&&((inB mo (IntKind.i64.wrap (am+1)) (200000:Int))&&((inB ga (0:Int) (1000:Int))&&((inB lo (0:Int) (1000:Int))&&(inB de (1:Int) (1000000:Int))))))))=O5 (am,mo,ga,lo,de):=by
   unfold O5 cbZ
   simp only
   congr 1
   by_cases ha:inB am 0 200000=true
   ·have:=dZ.1 ha
    rw [aK (x:=am+1) (by omega) (by omega),ha,Bool.true_and,Bool.eq_iff_iff]
    simp only [Bool.and_eq_true,dZ,decide_eq_true_eq]
    omega
   ·have ha:inB am 0 200000=false:=by simpa using ha
    rw [ha,Bool.false_and,eq_comm,Bool.eq_false_iff]
    have:=agY.1 ha
    simp only [ne_eq,Bool.and_eq_true,dZ,decide_eq_true_eq]
    omega
  rw [hC]
  generalize O5 (am,mo,ga,lo,de)=z
  generalize ((ra==0)&&(he==0))=f
  generalize inB ra 1 1000=r
  generalize inB he 0 1000000=q
  cases u<;>cases a<;>cases b<;>cases z<;>cases f<;>cases r<;>cases q<;>simp [T.all]
 ·cases h)
structure ul where
 l:List ByteArray
 w:ByteArray
 r:Bool
 i:Int
def aCd (s:ul):List LV:=[.xl .str s.l,.v (.string s.w),.v (.bool s.r),.v (.int .i64 s.i)]
def aB5 (_:ul):List aT:=[]
noncomputable def Fq:Code:=((aF (Tryz.f123.body.getD .skip))[0]?).getD .skip
def adO (s:ul):T (Rd ul):=
 .br (decide (s.i<(List.length s.l:Int))) (.req (0≤s.i∧s.i<(List.length s.l:Int)) (.br ((gS s.l s.i).toList==s.w.toList) (.ok (.stop (.ret) {s with r:=true})) (.ok (.next {s with i:=(IntKind.i64.wrap (s.i+1))})))) (.ok (.stop (.exit 0) s))
abbrev anv (s:ul):=(adO s).rd s
def avW (s:ul):Prop:=s.i=0∧(List.length s.l:Int)≤1000∧True
def ajl (s:ul):Prop:=0≤s.i∧s.i≤(List.length s.l:Int)∧(List.length s.l:Int)≤1000∧True
def Zb (s:ul):Nat:=((List.length s.l:Int)-s.i).toNat
def azt (_:Ex) (_ _:ul):Prop:=True
theorem aBF:∀s,avW s→ajl s:=by
 intro s h
 obtain ⟨h0,h1,h2⟩:=h
 exact ⟨by omega,by omega,h1,h2⟩
theorem axH (s:ul) (hI:ajl s):bM (fun s'=>ajl s'∧Zb s'<Zb s) (fun x s'=>azt x s s') (anv s):=by
 unfold anv adO
 dsimp only [T.rd,T.rl]
 obtain ⟨h0,h1,h2,h3⟩:=hI
 refine au (fun c1=>?_) (fun c1=>?_)
 ·refine au (fun c2=>?_) (fun c2=>?_)
  ·trivial
  ·have c1:s.i<(List.length s.l:Int):=by simpa using c1
   rw [aK (x:=s.i+1) (by omega) (by omega)]
   exact ⟨⟨by simp only;omega,by simp only;omega,h2,h3⟩,by simp only [Zb];omega⟩
 ·trivial
def Un:bQ ul:=⟨0,18,[0,1,4,5],[],aCd,aB5,fun v _=>⟨aQ .str (v.getD 0 .junk),gSr (v.getD 1 .junk),vH (v.getD 2 .junk),gI (v.getD 3 .junk)⟩,adO,fun s r=> {r with l:=s.l,w:=s.w},fun s=>s,fun _ s=>s,[.ret,.exit 0],avW,ajl,Zb⟩
abbrev ad7:=Un.run
abbrev ahN:=Un.jZ
abbrev azx:=Un.q
theorem axr (s:ul) (hI:ajl s):(adO s).all (fun _=>True):=by
 refine ⟨fun c1=>⟨?_,fun _=>trivial,fun _=>trivial⟩,fun _=>trivial⟩
 ·(obtain ⟨h0,h1,h2,h3⟩:=hI;simp only [decide_eq_true_eq] at c1;omega)
theorem aoV:Un.Ok:=⟨fun s=>by kernel_rfl,fun s=>by kernel_rfl,fun s=>rfl,fun s t r=>rfl,fun s=>rfl,fun s=>by kernel_rfl⟩
theorem aoO:Un.Pf (azt):=⟨aBF,fun _ _=>rfl,axH,axr⟩
theorem arO:bg Tryz.prog aP (AN 0) (.loop Fq) Un.lp:=bQ.snd aoV aoO (aU (Γ:=Rz) (K:=eY) (L:=aC) Zy aG Fq (fun b hb=>by rw [show aF Fq=[] by kernel_rfl] at hb;cases hb)) (fun s=>by kernel_rfl)
theorem ati (s:ul) (hE:avW s):(fun (x:Ex) (s':ul) (v:Bool)=>(x=.ret∧s'.r=true∧v=true)∨(x=.exit 0∧v=false)) (ahN s) (ad7 s) ((fun s:ul=>isIn (s.l.drop s.i.toNat) s.w) s):=by
 exact bQ.xB aoV aoO (fun s:ul=>isIn (s.l.drop s.i.toNat) s.w) (fun x s' v=>(x=.ret∧s'.r=true∧v=true)∨(x=.exit 0∧v=false)) (fun s hI=>by
  show bM _ _ (anv s)
  unfold anv adO
  dsimp only [T.rd,T.rl]
  obtain ⟨h0,h1,h2,h3⟩:=hI
  have ic:∀(x:ByteArray) xs,isIn (x::xs) s.w=(s.w==x ||isIn xs s.w):=fun _ _=>rfl
  refine au (fun c1=>au (fun c2=>?_) (fun c2=>?_)) (fun c1=>?_)
  ·have c1:s.i<(List.length s.l:Int):=by simpa using c1
   rw [sK] at c2
   have c2:s.w==gS s.l s.i:=by simpa using (eq_of_beq c2).symm
   refine .inl ⟨rfl,rfl,?_⟩
   try simp only
   rw [(tV h0 c1).1,ic,c2]
   rfl
  ·have c1:s.i<(List.length s.l:Int):=by simpa using c1
   rw [sK] at c2
   have c2:(s.w==gS s.l s.i)=false:=by
    have:¬gS s.l s.i=s.w:=by simpa using c2
    simpa using fun e=>this e.symm
   rw [aK (x:=s.i+1) (by omega) (by omega)]
   show isIn _ _=isIn _ _
   rw [(tV h0 c1).1,ic,c2,Bool.false_or]
  ·have c1:(List.length s.l:Int)≤s.i:=by simpa using c1
   refine .inr ⟨rfl,?_⟩
   rw [List.drop_eq_nil_of_le (by omega)]
   rfl) s hE
def aiu:List LV→T LV
 | [.xl (.str) l,.v (.string w)]=> .req ((List.length l:Int)≤1000) (.ok (.v (.bool (isIn l w))))
 |_=> .no
noncomputable def aid:List LV→T LV:=gW Tryz.prog Tryz.f123.params.toList aiu
theorem atN (l:List ByteArray) (w:ByteArray):bW Tryz.prog aP (Rz) eY (fun i=>if i=2 then Un.lp else aC i) Tryz.f123 [.xl .str l,.v (.string w)]=.req (azx (⟨l,w,false,(0:Int)⟩:ul)) (.br (ig (ahN (⟨l,w,false,(0:Int)⟩:ul)) (.ret)) (.ok (.v (.bool (ad7 (⟨l,w,false,(0:Int)⟩:ul)).r))) (.ok (.v (.bool false)))):=by kernel_rfl
theorem awS:Valid Tryz.prog aP 123 aid:=aH Tryz.func123 rfl Zy aG (L:=(fun i=>if i=2 then Un.lp else aC i)) (fun b hb=>by
 rw [show aF _=[Fq] by kernel_rfl] at hb
 simp only [List.mem_cons,List.not_mem_nil,or_false] at hb
 subst hb
 exact arO) (fun args lv h=>by
 unfold aiu at h
 split at h
 ·simp only [canL,canX]
  rw [atN]
  obtain ⟨hl,rfl⟩:=h
  refine nD ⟨⟨rfl,hl,trivial⟩,rfl,rfl⟩ (fun hE=>?_)
  rcases ati _ hE.1 with ⟨q1,q2,q3⟩ |⟨q1,q2⟩
  ·rw [q1,q2]
   exact ⟨fun _=>congrArg (fun z=>LV.v (.bool z)) q3.symm,fun h=>by cases h⟩
  ·rw [q1]
   exact ⟨fun h=>(by cases h),fun _=>congrArg (fun z=>LV.v (.bool z)) q2.symm⟩
 ·cases h)
structure iC where
 r:Bool
 i:Int
 aj:List Cd
 aB:List ByteArray
 ai:List Ko
 ak:List Ch
 aJ:List Ba
 l:List ByteArray
def aAS (s:iC):List LV:=[.own 0 0,.v (.bool s.r),.os 1 1 0 (List.length s.l),.v (.int .i64 s.i)]
def azW (s:iC):List aT:=[⟨[.xl dW s.aj,.xl .str s.aB,.xl eu s.ai,.xl dQ s.ak,.xl eG s.aJ],28,.cl,false⟩,⟨[],9,.vec .str s.l,false⟩]
noncomputable def Ak:Code:=((aF (Tryz.f87.body.getD .skip))[0]?).getD .skip
def Qe (s:iC):T (Rd iC):=
 .br (decide (s.i<(List.length s.aj:Int))) (.req (0≤s.i∧s.i<(List.length s.aj:Int)) (.req (0+(List.length s.l)=List.length s.l∧((List.length s.l+List.length ([(fP s.aj s.i).1]):Nat):Int)*16≤2^47∧((List.length s.l+List.length ([(fP s.aj s.i).1]):Nat):Int)<2^62) (.req (0=0∧(List.length s.l+List.length ([(fP s.aj s.i).1]))=List.length (s.l++([(fP s.aj s.i).1]))) (.ok (.next {s with i:=(IntKind.i64.wrap (s.i+1)),l:=(s.l++([(fP s.aj s.i).1]))}))))) (.rl s.l (.ok (.stop (.exit 0) s)))
abbrev ZR (s:iC):=(Qe s).rd s
def ajB (s:iC):Prop:=s.i=0∧(List.length s.aj:Int)≤1000∧(s.l.length:Int)≤5000+s.i
def TP (s:iC):Prop:=0≤s.i∧s.i≤(List.length s.aj:Int)∧(List.length s.aj:Int)≤1000∧(s.l.length:Int)≤5000+s.i
def NI (s:iC):Nat:=((List.length s.aj:Int)-s.i).toNat
def aqC (_:Ex) (_ _:iC):Prop:=True
theorem axG:∀s,ajB s→TP s:=by
 intro s h
 obtain ⟨h0,h1,h2⟩:=h
 exact ⟨by omega,by omega,h1,h2⟩
theorem atg (s:iC) (hI:TP s):bM (fun s'=>TP s'∧NI s'<NI s) (fun x s'=>aqC x s s') (ZR s):=by
 unfold ZR Qe
 dsimp only [T.rd,T.rl]
 obtain ⟨h0,h1,h2,h3⟩:=hI
 refine au (fun c1=>?_) (fun c1=>?_)
 ·have c1:s.i<(List.length s.aj:Int):=by simpa using c1
  rw [aK (x:=s.i+1) (by omega) (by omega)]
  exact ⟨⟨by simp only;omega,by simp only;omega,h2,by simp only [List.length_append,List.length_cons,List.length_nil];omega⟩,by simp only [NI];omega⟩
 ·trivial
def Ec:bQ iC:=⟨0,112,[1,2,3,4],[.nl 3 9 .str],aAS,azW,fun v b=>⟨vH (v.getD 1 .junk),gI (v.getD 3 .junk),aQ dW (aY (aO b 0) 0),aQ .str (aY (aO b 0) 1),aQ eu (aY (aO b 0) 2),aQ dQ (aY (aO b 0) 3),aQ eG (aY (aO b 0) 4),jk .str (aO b 1)⟩,Qe,fun s r=> {r with r:=s.r,aj:=s.aj,aB:=s.aB,ai:=s.ai,ak:=s.ak,aJ:=s.aJ},fun s=>s,fun _ s=>s,[.exit 0],ajB,TP,NI⟩
abbrev jv:=Ec.run
abbrev anE:=Ec.jZ
abbrev avV:=Ec.q
theorem asw (s:iC) (hI:TP s):(Qe s).all (fun _=>True):=by
 refine ⟨fun c1=>⟨?_,?_,?_,trivial⟩,fun c1=>⟨⟨rfl,rfl⟩,trivial⟩⟩
 iterate 2 · (obtain ⟨h0,h1,h2,h3⟩:=hI;simp only [decide_eq_true_eq] at c1;first|omega|(refine ⟨by omega,?_,?_⟩<;>simp only [List.length_cons,List.length_nil]<;>omega))
 ·exact ⟨rfl,by simp⟩
noncomputable def Dv:Specs:=bf [(122,Pj),(123,aid)]
theorem Ho:∀g S,Dv g=some S→Valid Tryz.prog aP g S:=aS (l:=[(122,Pj),(123,aid)]) ⟨ajR,awS,trivial⟩
theorem afF:Ec.Ok:=⟨fun s=>by kernel_rfl,fun s=>by kernel_rfl,fun s=>rfl,fun s t r=>rfl,fun s=>rfl,fun s=>by kernel_rfl⟩
theorem aeH:Ec.Pf (aqC):=⟨axG,fun _ _=>rfl,atg,asw⟩
theorem akv:bg Tryz.prog aP (AN 0) (.loop Ak) Ec.lp:=bQ.snd afF aeH (aU (Γ:=Dv) (K:=eY) (L:=aC) Ho aG Ak (fun b hb=>by rw [show aF Ak=[] by kernel_rfl] at hb;cases hb)) (fun s=>by kernel_rfl)
theorem alq (s:iC) (hE:ajB s):(fun (x:Ex) (s':iC) (v:List ByteArray)=>x=.exit 0∧s'.l=v) (anE s) (jv s) ((fun s:iC=>s.l++(s.aj.drop s.i.toNat).map (·.1)) s):=by
 exact bQ.xB afF aeH (fun s:iC=>s.l++(s.aj.drop s.i.toNat).map (·.1)) (fun x s' v=>x=.exit 0∧s'.l=v) (fun s hI=>by
  show bM _ _ (ZR s)
  unfold ZR Qe
  dsimp only [T.rd,T.rl]
  obtain ⟨h0,h1,h2,h3⟩:=hI
  refine au (fun c1=>?_) (fun c1=>?_)
  ·have c1:s.i<(List.length s.aj:Int):=by simpa using c1
   rw [aK (x:=s.i+1) (by omega) (by omega)]
   show _++_=_++_
   try simp only
   rw [(RN h0 c1).1]
   simp
  ·have c1:(List.length s.aj:Int)≤s.i:=by simpa using c1
   refine ⟨rfl,?_⟩
   rw [List.drop_eq_nil_of_le (by omega)]
   simp) s hE
structure iM where
 r:Bool
 i:Int
 aj:List Cd
 aB:List ByteArray
 ai:List Ko
 ak:List Ch
 aJ:List Ba
 l:List ByteArray
def aAR (s:iM):List LV:=[.own 0 0,.v (.bool s.r),.os 1 1 0 (List.length s.l),.v (.int .i64 s.i)]
def azV (s:iM):List aT:=[⟨[.xl dW s.aj,.xl .str s.aB,.xl eu s.ai,.xl dQ s.ak,.xl eG s.aJ],28,.cl,false⟩,⟨[],9,.vec .str s.l,false⟩]
noncomputable def Aj:Code:=((aF (Tryz.f87.body.getD .skip))[1]?).getD .skip
def Qd (s:iM):T (Rd iM):=
 .br (decide (s.i<(List.length s.aB:Int))) (.req (0≤s.i∧s.i<(List.length s.aB:Int)) (.req (0+(List.length s.l)=List.length s.l∧((List.length s.l+List.length ([(gS s.aB s.i)]):Nat):Int)*16≤2^47∧((List.length s.l+List.length ([(gS s.aB s.i)]):Nat):Int)<2^62) (.req (0=0∧(List.length s.l+List.length ([(gS s.aB s.i)]))=List.length (s.l++([(gS s.aB s.i)]))) (.ok (.next {s with i:=(IntKind.i64.wrap (s.i+1)),l:=(s.l++([(gS s.aB s.i)]))}))))) (.rl s.l (.ok (.stop (.exit 2) s)))
abbrev ZQ (s:iM):=(Qd s).rd s
def ajA (s:iM):Prop:=s.i=0∧(List.length s.aB:Int)≤1000∧(s.l.length:Int)≤5000+s.i
def TN (s:iM):Prop:=0≤s.i∧s.i≤(List.length s.aB:Int)∧(List.length s.aB:Int)≤1000∧(s.l.length:Int)≤5000+s.i
def NH (s:iM):Nat:=((List.length s.aB:Int)-s.i).toNat
def aqB (_:Ex) (_ _:iM):Prop:=True
theorem axF:∀s,ajA s→TN s:=by
 intro s h
 obtain ⟨h0,h1,h2⟩:=h
 exact ⟨by omega,by omega,h1,h2⟩
theorem atf (s:iM) (hI:TN s):bM (fun s'=>TN s'∧NH s'<NH s) (fun x s'=>aqB x s s') (ZQ s):=by
 unfold ZQ Qd
 dsimp only [T.rd,T.rl]
 obtain ⟨h0,h1,h2,h3⟩:=hI
 refine au (fun c1=>?_) (fun c1=>?_)
 ·have c1:s.i<(List.length s.aB:Int):=by simpa using c1
  rw [aK (x:=s.i+1) (by omega) (by omega)]
  exact ⟨⟨by simp only;omega,by simp only;omega,h2,by simp only [List.length_append,List.length_cons,List.length_nil];omega⟩,by simp only [NH];omega⟩
 ·trivial
def Eb:bQ iM:=⟨0,112,[1,2,3,5],[],aAR,azV,fun v b=>⟨vH (v.getD 1 .junk),gI (v.getD 3 .junk),aQ dW (aY (aO b 0) 0),aQ .str (aY (aO b 0) 1),aQ eu (aY (aO b 0) 2),aQ dQ (aY (aO b 0) 3),aQ eG (aY (aO b 0) 4),jk .str (aO b 1)⟩,Qd,fun s r=> {r with r:=s.r,aj:=s.aj,aB:=s.aB,ai:=s.ai,ak:=s.ak,aJ:=s.aJ},fun s=>s,fun _ s=>s,[.exit 2],ajA,TN,NH⟩
abbrev kM:=Eb.run
abbrev anD:=Eb.jZ
abbrev avU:=Eb.q
theorem asv (s:iM) (hI:TN s):(Qd s).all (fun _=>True):=by
 refine ⟨fun c1=>⟨?_,?_,?_,trivial⟩,fun c1=>⟨⟨rfl,rfl⟩,trivial⟩⟩
 iterate 2 · (obtain ⟨h0,h1,h2,h3⟩:=hI;simp only [decide_eq_true_eq] at c1;first|omega|(refine ⟨by omega,?_,?_⟩<;>simp only [List.length_cons,List.length_nil]<;>omega))
 ·exact ⟨rfl,by simp⟩
theorem afE:Eb.Ok:=⟨fun s=>by kernel_rfl,fun s=>by kernel_rfl,fun s=>rfl,fun s t r=>rfl,fun s=>rfl,fun s=>by kernel_rfl⟩
theorem aeG:Eb.Pf (aqB):=⟨axF,fun _ _=>rfl,atf,asv⟩
theorem aku:bg Tryz.prog aP (AN 0) (.loop Aj) Eb.lp:=bQ.snd afE aeG (aU (Γ:=Dv) (K:=eY) (L:=aC) Ho aG Aj (fun b hb=>by rw [show aF Aj=[] by kernel_rfl] at hb;cases hb)) (fun s=>by kernel_rfl)
theorem alp (s:iM) (hE:ajA s):(fun (x:Ex) (s':iM) (v:List ByteArray)=>x=.exit 2∧s'.l=v) (anD s) (kM s) ((fun s:iM=>s.l++(s.aB.drop s.i.toNat)) s):=by
 exact bQ.xB afE aeG (fun s:iM=>s.l++(s.aB.drop s.i.toNat)) (fun x s' v=>x=.exit 2∧s'.l=v) (fun s hI=>by
  show bM _ _ (ZQ s)
  unfold ZQ Qd
  dsimp only [T.rd,T.rl]
  obtain ⟨h0,h1,h2,h3⟩:=hI
  refine au (fun c1=>?_) (fun c1=>?_)
  ·have c1:s.i<(List.length s.aB:Int):=by simpa using c1
   rw [aK (x:=s.i+1) (by omega) (by omega)]
   show _++_=_++_
   try simp only
   rw [(tV h0 c1).1]
   simp
  ·have c1:(List.length s.aB:Int)≤s.i:=by simpa using c1
   refine ⟨rfl,?_⟩
   rw [List.drop_eq_nil_of_le (by omega)]
   simp) s hE
structure jm where
 r:Bool
 i:Int
 aj:List Cd
 aB:List ByteArray
 ai:List Ko
 ak:List Ch
 aJ:List Ba
 l:List ByteArray
def aAQ (s:jm):List LV:=[.own 0 0,.v (.bool s.r),.os 1 1 0 (List.length s.l),.v (.int .i64 s.i)]
def azU (s:jm):List aT:=[⟨[.xl dW s.aj,.xl .str s.aB,.xl eu s.ai,.xl dQ s.ak,.xl eG s.aJ],28,.cl,false⟩,⟨[],9,.vec .str s.l,false⟩]
noncomputable def Ai:Code:=((aF (Tryz.f87.body.getD .skip))[2]?).getD .skip
def Qc (s:jm):T (Rd jm):=
 .br (decide (s.i<(List.length s.ai:Int))) (.req (0≤s.i∧s.i<(List.length s.ai:Int)) (.req (0+(List.length s.l)=List.length s.l∧((List.length s.l+List.length ([(mM s.ai s.i).1]):Nat):Int)*16≤2^47∧((List.length s.l+List.length ([(mM s.ai s.i).1]):Nat):Int)<2^62) (.req (0=0∧(List.length s.l+List.length ([(mM s.ai s.i).1]))=List.length (s.l++([(mM s.ai s.i).1]))) (.ok (.next {s with i:=(IntKind.i64.wrap (s.i+1)),l:=(s.l++([(mM s.ai s.i).1]))}))))) (.rl s.l (.ok (.stop (.exit 4) s)))
abbrev ZO (s:jm):=(Qc s).rd s
def ajz (s:jm):Prop:=s.i=0∧(List.length s.ai:Int)≤1000∧(s.l.length:Int)≤5000+s.i
def TM (s:jm):Prop:=0≤s.i∧s.i≤(List.length s.ai:Int)∧(List.length s.ai:Int)≤1000∧(s.l.length:Int)≤5000+s.i
def NG (s:jm):Nat:=((List.length s.ai:Int)-s.i).toNat
def aqA (_:Ex) (_ _:jm):Prop:=True
theorem axE:∀s,ajz s→TM s:=by
 intro s h
 obtain ⟨h0,h1,h2⟩:=h
 exact ⟨by omega,by omega,h1,h2⟩
theorem ate (s:jm) (hI:TM s):bM (fun s'=>TM s'∧NG s'<NG s) (fun x s'=>aqA x s s') (ZO s):=by
 unfold ZO Qc
 dsimp only [T.rd,T.rl]
 obtain ⟨h0,h1,h2,h3⟩:=hI
 refine au (fun c1=>?_) (fun c1=>?_)
 ·have c1:s.i<(List.length s.ai:Int):=by simpa using c1
  rw [aK (x:=s.i+1) (by omega) (by omega)]
  exact ⟨⟨by simp only;omega,by simp only;omega,h2,by simp only [List.length_append,List.length_cons,List.length_nil];omega⟩,by simp only [NG];omega⟩
 ·trivial
def Ea:bQ jm:=⟨0,112,[1,2,3,6],[],aAQ,azU,fun v b=>⟨vH (v.getD 1 .junk),gI (v.getD 3 .junk),aQ dW (aY (aO b 0) 0),aQ .str (aY (aO b 0) 1),aQ eu (aY (aO b 0) 2),aQ dQ (aY (aO b 0) 3),aQ eG (aY (aO b 0) 4),jk .str (aO b 1)⟩,Qc,fun s r=> {r with r:=s.r,aj:=s.aj,aB:=s.aB,ai:=s.ai,ak:=s.ak,aJ:=s.aJ},fun s=>s,fun _ s=>s,[.exit 4],ajz,TM,NG⟩
abbrev nH:=Ea.run
abbrev anC:=Ea.jZ
abbrev avT:=Ea.q
theorem asu (s:jm) (hI:TM s):(Qc s).all (fun _=>True):=by
 refine ⟨fun c1=>⟨?_,?_,?_,trivial⟩,fun c1=>⟨⟨rfl,rfl⟩,trivial⟩⟩
 iterate 2 · (obtain ⟨h0,h1,h2,h3⟩:=hI;simp only [decide_eq_true_eq] at c1;first|omega|(refine ⟨by omega,?_,?_⟩<;>simp only [List.length_cons,List.length_nil]<;>omega))
 ·exact ⟨rfl,by simp⟩
theorem afD:Ea.Ok:=⟨fun s=>by kernel_rfl,fun s=>by kernel_rfl,fun s=>rfl,fun s t r=>rfl,fun s=>rfl,fun s=>by kernel_rfl⟩
theorem aeF:Ea.Pf (aqA):=⟨axE,fun _ _=>rfl,ate,asu⟩
theorem akt:bg Tryz.prog aP (AN 0) (.loop Ai) Ea.lp:=bQ.snd afD aeF (aU (Γ:=Dv) (K:=eY) (L:=aC) Ho aG Ai (fun b hb=>by rw [show aF Ai=[] by kernel_rfl] at hb;cases hb)) (fun s=>by kernel_rfl)
theorem alo (s:jm) (hE:ajz s):(fun (x:Ex) (s':jm) (v:List ByteArray)=>x=.exit 4∧s'.l=v) (anC s) (nH s) ((fun s:jm=>s.l++(s.ai.drop s.i.toNat).map (·.1)) s):=by
 exact bQ.xB afD aeF (fun s:jm=>s.l++(s.ai.drop s.i.toNat).map (·.1)) (fun x s' v=>x=.exit 4∧s'.l=v) (fun s hI=>by
  show bM _ _ (ZO s)
  unfold ZO Qc
  dsimp only [T.rd,T.rl]
  obtain ⟨h0,h1,h2,h3⟩:=hI
  refine au (fun c1=>?_) (fun c1=>?_)
  ·have c1:s.i<(List.length s.ai:Int):=by simpa using c1
   rw [aK (x:=s.i+1) (by omega) (by omega)]
   show _++_=_++_
   try simp only
   rw [(HY h0 c1).1]
   simp
  ·have c1:(List.length s.ai:Int)≤s.i:=by simpa using c1
   refine ⟨rfl,?_⟩
   rw [List.drop_eq_nil_of_le (by omega)]
   simp) s hE
structure jH where
 r:Bool
 i:Int
 aj:List Cd
 aB:List ByteArray
 ai:List Ko
 ak:List Ch
 aJ:List Ba
 l:List ByteArray
def aAP (s:jH):List LV:=[.own 0 0,.v (.bool s.r),.os 1 1 0 (List.length s.l),.v (.int .i64 s.i)]
def azT (s:jH):List aT:=[⟨[.xl dW s.aj,.xl .str s.aB,.xl eu s.ai,.xl dQ s.ak,.xl eG s.aJ],28,.cl,false⟩,⟨[],9,.vec .str s.l,false⟩]
noncomputable def Ah:Code:=((aF (Tryz.f87.body.getD .skip))[3]?).getD .skip
def Qb (s:jH):T (Rd jH):=
 .br (decide (s.i<(List.length s.ak:Int))) (.req (0≤s.i∧s.i<(List.length s.ak:Int)) (.req (0+(List.length s.l)=List.length s.l∧((List.length s.l+List.length ([(bC s.ak s.i).1]):Nat):Int)*16≤2^47∧((List.length s.l+List.length ([(bC s.ak s.i).1]):Nat):Int)<2^62) (.req (0=0∧(List.length s.l+List.length ([(bC s.ak s.i).1]))=List.length (s.l++([(bC s.ak s.i).1]))) (.ok (.next {s with i:=(IntKind.i64.wrap (s.i+1)),l:=(s.l++([(bC s.ak s.i).1]))}))))) (.rl s.l (.ok (.stop (.exit 6) s)))
abbrev ZN (s:jH):=(Qb s).rd s
def ajy (s:jH):Prop:=s.i=0∧(List.length s.ak:Int)≤1000∧(s.l.length:Int)≤5000+s.i
def TL (s:jH):Prop:=0≤s.i∧s.i≤(List.length s.ak:Int)∧(List.length s.ak:Int)≤1000∧(s.l.length:Int)≤5000+s.i
def NF (s:jH):Nat:=((List.length s.ak:Int)-s.i).toNat
def aqz (_:Ex) (_ _:jH):Prop:=True
theorem axD:∀s,ajy s→TL s:=by
 intro s h
 obtain ⟨h0,h1,h2⟩:=h
 exact ⟨by omega,by omega,h1,h2⟩
theorem atd (s:jH) (hI:TL s):bM (fun s'=>TL s'∧NF s'<NF s) (fun x s'=>aqz x s s') (ZN s):=by
 unfold ZN Qb
 dsimp only [T.rd,T.rl]
 obtain ⟨h0,h1,h2,h3⟩:=hI
 refine au (fun c1=>?_) (fun c1=>?_)
 ·have c1:s.i<(List.length s.ak:Int):=by simpa using c1
  rw [aK (x:=s.i+1) (by omega) (by omega)]
  exact ⟨⟨by simp only;omega,by simp only;omega,h2,by simp only [List.length_append,List.length_cons,List.length_nil];omega⟩,by simp only [NF];omega⟩
 ·trivial
def D9:bQ jH:=⟨0,112,[1,2,3,7],[],aAP,azT,fun v b=>⟨vH (v.getD 1 .junk),gI (v.getD 3 .junk),aQ dW (aY (aO b 0) 0),aQ .str (aY (aO b 0) 1),aQ eu (aY (aO b 0) 2),aQ dQ (aY (aO b 0) 3),aQ eG (aY (aO b 0) 4),jk .str (aO b 1)⟩,Qb,fun s r=> {r with r:=s.r,aj:=s.aj,aB:=s.aB,ai:=s.ai,ak:=s.ak,aJ:=s.aJ},fun s=>s,fun _ s=>s,[.exit 6],ajy,TL,NF⟩
abbrev qA:=D9.run
abbrev anB:=D9.jZ
abbrev avS:=D9.q
theorem ast (s:jH) (hI:TL s):(Qb s).all (fun _=>True):=by
 refine ⟨fun c1=>⟨?_,?_,?_,trivial⟩,fun c1=>⟨⟨rfl,rfl⟩,trivial⟩⟩
 iterate 2 · (obtain ⟨h0,h1,h2,h3⟩:=hI;simp only [decide_eq_true_eq] at c1;first|omega|(refine ⟨by omega,?_,?_⟩<;>simp only [List.length_cons,List.length_nil]<;>omega))
 ·exact ⟨rfl,by simp⟩
theorem afC:D9.Ok:=⟨fun s=>by kernel_rfl,fun s=>by kernel_rfl,fun s=>rfl,fun s t r=>rfl,fun s=>rfl,fun s=>by kernel_rfl⟩
theorem aeE:D9.Pf (aqz):=⟨axD,fun _ _=>rfl,atd,ast⟩
theorem aks:bg Tryz.prog aP (AN 0) (.loop Ah) D9.lp:=bQ.snd afC aeE (aU (Γ:=Dv) (K:=eY) (L:=aC) Ho aG Ah (fun b hb=>by rw [show aF Ah=[] by kernel_rfl] at hb;cases hb)) (fun s=>by kernel_rfl)
theorem aln (s:jH) (hE:ajy s):(fun (x:Ex) (s':jH) (v:List ByteArray)=>x=.exit 6∧s'.l=v) (anB s) (qA s) ((fun s:jH=>s.l++(s.ak.drop s.i.toNat).map (·.1)) s):=by
 exact bQ.xB afC aeE (fun s:jH=>s.l++(s.ak.drop s.i.toNat).map (·.1)) (fun x s' v=>x=.exit 6∧s'.l=v) (fun s hI=>by
  show bM _ _ (ZN s)
  unfold ZN Qb
  dsimp only [T.rd,T.rl]
  obtain ⟨h0,h1,h2,h3⟩:=hI
  refine au (fun c1=>?_) (fun c1=>?_)
  ·have c1:s.i<(List.length s.ak:Int):=by simpa using c1
   rw [aK (x:=s.i+1) (by omega) (by omega)]
   show _++_=_++_
   try simp only
   rw [(RJ h0 c1).1]
   simp
  ·have c1:(List.length s.ak:Int)≤s.i:=by simpa using c1
   refine ⟨rfl,?_⟩
   rw [List.drop_eq_nil_of_le (by omega)]
   simp) s hE
structure kH where
 r:Bool
 i:Int
 aj:List Cd
 aB:List ByteArray
 ai:List Ko
 ak:List Ch
 aJ:List Ba
 l:List ByteArray
def aAO (s:kH):List LV:=[.own 0 0,.v (.bool s.r),.os 1 1 0 (List.length s.l),.v (.int .i64 s.i)]
def azS (s:kH):List aT:=[⟨[.xl dW s.aj,.xl .str s.aB,.xl eu s.ai,.xl dQ s.ak,.xl eG s.aJ],28,.cl,false⟩,⟨[],9,.vec .str s.l,false⟩]
noncomputable def Ag:Code:=((aF (Tryz.f87.body.getD .skip))[4]?).getD .skip
def Qa (s:kH):T (Rd kH):=
 .br (decide (s.i<(List.length s.aJ:Int))) (.req (0≤s.i∧s.i<(List.length s.aJ:Int)) (.req (0+(List.length s.l)=List.length s.l∧((List.length s.l+List.length ([(BG s.aJ s.i).1]):Nat):Int)*16≤2^47∧((List.length s.l+List.length ([(BG s.aJ s.i).1]):Nat):Int)<2^62) (.req (0=0∧(List.length s.l+List.length ([(BG s.aJ s.i).1]))=List.length (s.l++([(BG s.aJ s.i).1]))) (.ok (.next {s with i:=(IntKind.i64.wrap (s.i+1)),l:=(s.l++([(BG s.aJ s.i).1]))}))))) (.rl s.l (.ok (.stop (.exit 8) s)))
abbrev ZM (s:kH):=(Qa s).rd s
def ajx (s:kH):Prop:=s.i=0∧(List.length s.aJ:Int)≤1000∧(s.l.length:Int)≤5000+s.i
def TK (s:kH):Prop:=0≤s.i∧s.i≤(List.length s.aJ:Int)∧(List.length s.aJ:Int)≤1000∧(s.l.length:Int)≤5000+s.i
def NE (s:kH):Nat:=((List.length s.aJ:Int)-s.i).toNat
def aqy (_:Ex) (_ _:kH):Prop:=True
theorem axC:∀s,ajx s→TK s:=by
 intro s h
 obtain ⟨h0,h1,h2⟩:=h
 exact ⟨by omega,by omega,h1,h2⟩
theorem atc (s:kH) (hI:TK s):bM (fun s'=>TK s'∧NE s'<NE s) (fun x s'=>aqy x s s') (ZM s):=by
 unfold ZM Qa
 dsimp only [T.rd,T.rl]
 obtain ⟨h0,h1,h2,h3⟩:=hI
 refine au (fun c1=>?_) (fun c1=>?_)
 ·have c1:s.i<(List.length s.aJ:Int):=by simpa using c1
  rw [aK (x:=s.i+1) (by omega) (by omega)]
  exact ⟨⟨by simp only;omega,by simp only;omega,h2,by simp only [List.length_append,List.length_cons,List.length_nil];omega⟩,by simp only [NE];omega⟩
 ·trivial
def D8:bQ kH:=⟨0,112,[1,2,3,8],[],aAO,azS,fun v b=>⟨vH (v.getD 1 .junk),gI (v.getD 3 .junk),aQ dW (aY (aO b 0) 0),aQ .str (aY (aO b 0) 1),aQ eu (aY (aO b 0) 2),aQ dQ (aY (aO b 0) 3),aQ eG (aY (aO b 0) 4),jk .str (aO b 1)⟩,Qa,fun s r=> {r with r:=s.r,aj:=s.aj,aB:=s.aB,ai:=s.ai,ak:=s.ak,aJ:=s.aJ},fun s=>s,fun _ s=>s,[.exit 8],ajx,TK,NE⟩
abbrev wz:=D8.run
abbrev anA:=D8.jZ
abbrev avR:=D8.q
theorem asr (s:kH) (hI:TK s):(Qa s).all (fun _=>True):=by
 refine ⟨fun c1=>⟨?_,?_,?_,trivial⟩,fun c1=>⟨⟨rfl,rfl⟩,trivial⟩⟩
 iterate 2 · (obtain ⟨h0,h1,h2,h3⟩:=hI;simp only [decide_eq_true_eq] at c1;first|omega|(refine ⟨by omega,?_,?_⟩<;>simp only [List.length_cons,List.length_nil]<;>omega))
 ·exact ⟨rfl,by simp⟩
theorem afB:D8.Ok:=⟨fun s=>by kernel_rfl,fun s=>by kernel_rfl,fun s=>rfl,fun s t r=>rfl,fun s=>rfl,fun s=>by kernel_rfl⟩
theorem aeD:D8.Pf (aqy):=⟨axC,fun _ _=>rfl,atc,asr⟩
theorem akr:bg Tryz.prog aP (AN 0) (.loop Ag) D8.lp:=bQ.snd afB aeD (aU (Γ:=Dv) (K:=eY) (L:=aC) Ho aG Ag (fun b hb=>by rw [show aF Ag=[] by kernel_rfl] at hb;cases hb)) (fun s=>by kernel_rfl)
theorem alm (s:kH) (hE:ajx s):(fun (x:Ex) (s':kH) (v:List ByteArray)=>x=.exit 8∧s'.l=v) (anA s) (wz s) ((fun s:kH=>s.l++(s.aJ.drop s.i.toNat).map (·.1)) s):=by
 exact bQ.xB afB aeD (fun s:kH=>s.l++(s.aJ.drop s.i.toNat).map (·.1)) (fun x s' v=>x=.exit 8∧s'.l=v) (fun s hI=>by
  show bM _ _ (ZM s)
  unfold ZM Qa
  dsimp only [T.rd,T.rl]
  obtain ⟨h0,h1,h2,h3⟩:=hI
  refine au (fun c1=>?_) (fun c1=>?_)
  ·have c1:s.i<(List.length s.aJ:Int):=by simpa using c1
   rw [aK (x:=s.i+1) (by omega) (by omega)]
   show _++_=_++_
   try simp only
   rw [(RP h0 c1).1]
   simp
  ·have c1:(List.length s.aJ:Int)≤s.i:=by simpa using c1
   refine ⟨rfl,?_⟩
   rw [List.drop_eq_nil_of_le (by omega)]
   simp) s hE
structure mQ where
 r:Bool
 i:Int
 l:List ByteArray
def aAN (s:mQ):List LV:=[.v (.bool s.r),.os 0 1 0 (List.length s.l),.v (.int .i64 s.i)]
def azR (s:mQ):List aT:=[⟨[],9,.vec .str s.l,false⟩]
noncomputable def Af:Code:=((aF (Tryz.f87.body.getD .skip))[5]?).getD .skip
def Ye (s:mQ):T (Rd mQ):=
 .br (decide (s.i<((List.length s.l:Nat):Int))) (.req (0≤s.i∧s.i<((List.length s.l:Nat):Int)) (.req (s.i.toNat<List.length s.l) (.req (((s.l.getD s.i.toNat (Ty.dflt .str)).size:Int)≤9223372036854775807) (.br (!(nameB (s.l.getD s.i.toNat (Ty.dflt .str)))) (.rl s.l (.ok (.stop (.ret) {s with r:=false}))) (.req (0≤(0:Int)∧(0:Int)≤s.i∧s.i≤((List.length s.l:Nat):Int)) (.req (0≤s.i∧s.i<((List.length s.l:Nat):Int)) (.req (s.i.toNat<List.length s.l) (.req ((0+(0:Int).toNat)+(s.i.toNat-(0:Int).toNat)≤List.length s.l) (.req ((List.length ((s.l.drop (0+(0:Int).toNat)).take (s.i.toNat-(0:Int).toNat)):Int)≤1000) (.br (isIn ((s.l.drop (0+(0:Int).toNat)).take (s.i.toNat-(0:Int).toNat)) (s.l.getD s.i.toNat (Ty.dflt .str))) (.rl s.l (.ok (.stop (.ret) {s with r:=false}))) (.rl s.l (.ok (.next {s with i:=(IntKind.i64.wrap (s.i+1))}))))))))))))) (.rl s.l (.ok (.stop (.exit 10) s)))
abbrev ap7 (s:mQ):=(Ye s).rd s
def L9 (s:mQ) (j:Int):Bool:=nameB (gS s.l j)&&!(((s.l.take j.toNat).map id).contains (id (gS s.l j)))
theorem axA (s:mQ) (_:0≤s.i):L9 s s.i=(nameB (s.l.getD s.i.toNat (Ty.dflt .str))&&!(isIn ((s.l.drop (0+(0:Int).toNat)).take (s.i.toNat-(0:Int).toNat)) (s.l.getD s.i.toNat (Ty.dflt .str)))):=by
 unfold L9
 rw [List.map_id,Jv]
 rfl
def ajw (s:mQ):Prop:=s.i=0∧(List.length s.l:Int)≤1000∧nmR s.l
def La (s:mQ):Prop:=(0≤s.i∧s.i≤(List.length s.l:Int))∧(∀j:Nat,(j:Int)<s.i→L9 s j=true)∧(List.length s.l:Int)≤1000∧nmR s.l
def ND (s:mQ):Nat:=((List.length s.l:Int)-s.i).toNat
def abQ (x:Ex) (_ s':mQ):Prop:=(x=.exit 10∧∀j:Nat,(j:Int)<(List.length s'.l:Int)→L9 s' j=true)∨(x=.ret∧s'.r=false∧∃j:Nat,(j:Int)<(List.length s'.l:Int)∧L9 s' j=false)
theorem axB:∀s,ajw s→La s:=by
 intro s h
 obtain ⟨h0,h1,h2⟩:=h
 exact ⟨by omega,fun j hj=>by omega,h1,h2⟩
theorem atb (s:mQ) (hI:La s):bM (fun s'=>La s'∧ND s'<ND s) (fun x s'=>abQ x s s') (ap7 s):=by
 unfold ap7 Ye
 dsimp only [T.rd,T.rl]
 obtain ⟨⟨h0,h1⟩,h2,h3,h4⟩:=hI
 have hg:=axA s h0
 refine au (fun c1=>?_) (fun c1=>?_)
 rotate_left
 ·have c1:(List.length s.l:Int)≤s.i:=by simpa using c1
  exact .inl ⟨rfl,fun j hj=>h2 j (by omega)⟩
 have c1:s.i<(List.length s.l:Int):=by simpa using c1
 have bad:L9 s s.i=false→abQ .ret s {s with r:=false}:=fun hg=> .inr ⟨rfl,rfl,s.i.toNat,by simp only;omega,by rw [Int.toNat_of_nonneg h0];exact hg⟩
 refine au (fun c2=>bad ?_) (fun c2=>au (fun c3=>bad ?_) (fun c3=>?_))
 ·rw [hg]
  simp only [Bool.not_eq_true'] at c2
  rw [c2]
  rfl
 ·rw [hg,c3]
  simp
 ·rw [c3] at hg
  simp only [Bool.not_eq_false'] at c2
  rw [c2] at hg
  rw [aK (x:=s.i+1) (by omega) (by omega)]
  refine ⟨⟨⟨by simp only;omega,by simp only;omega⟩,fun j hj=>?_,h3,h4⟩,by simp only [ND];omega⟩
  by_cases hji:(j:Int)<s.i
  ·exact h2 j hji
  ·have:(j:Int)=s.i:=by simp only at hj;omega
   rw [this];exact hg
def D7:bQ mQ:=⟨0,112,[2,3,9],[],aAN,azR,fun v b=>⟨vH (v.getD 0 .junk),gI (v.getD 2 .junk),jk .str (aO b 0)⟩,Ye,fun s r=> {r with l:=s.l},fun s=>s,fun _ s=>s,[.ret,.exit 10],ajw,La,ND⟩
abbrev YK:=D7.run
abbrev aap:=D7.jZ
abbrev avQ:=D7.q
theorem asq (s:mQ) (hI:La s):(Ye s).all (fun _=>True):=by
 refine ⟨fun c1=>⟨?_,?_,?_,fun c2=>⟨⟨rfl,rfl⟩,trivial⟩,fun c2=>⟨?_,?_,?_,?_,?_,fun c3=>⟨⟨rfl,rfl⟩,trivial⟩,fun c3=>⟨⟨rfl,rfl⟩,trivial⟩⟩⟩,fun c1=>⟨⟨rfl,rfl⟩,trivial⟩⟩
 iterate 2 · (obtain ⟨⟨h0,h1⟩,h2,h3,h4⟩:=hI;simp only [decide_eq_true_eq] at c1;first|omega|(simp only [List.length_take,List.length_drop];omega))
 ·(obtain ⟨⟨h0,h1⟩,h2,h3,h4⟩:=hI;simp only [decide_eq_true_eq] at c1;have hm:gS s.l s.i∈s.l:=(by rw [ayT (by omega)];exact List.getElem_mem _);exact h4 _ hm)
 iterate 5 · (obtain ⟨⟨h0,h1⟩,h2,h3,h4⟩:=hI;simp only [decide_eq_true_eq] at c1;first|omega|(simp only [List.length_take,List.length_drop];omega))
theorem afA:D7.Ok:=⟨fun s=>by kernel_rfl,fun s=>by kernel_rfl,fun s=>rfl,fun s t r=>rfl,fun s=>rfl,fun s=>by kernel_rfl⟩
theorem aeC:D7.Pf (abQ):=⟨axB,fun _ _=>rfl,atb,asq⟩
theorem akq:bg Tryz.prog aP (AN 0) (.loop Af) D7.lp:=bQ.snd afA aeC (aU (Γ:=Dv) (K:=eY) (L:=aC) Ho aG Af (fun b hb=>by rw [show aF Af=[] by kernel_rfl] at hb;cases hb)) (fun s=>by kernel_rfl)
theorem alk (s:mQ) (hE:ajw s):∃s',La s'∧abQ (aap s) s' (YK s):=bQ.fin afA aeC s hE
def aa1:List LV→T LV
 | [.agg [.xl (.pair .str (.pair (.int .i64) (.pair (.int .i64) (.pair (.int .i64) (.pair (.pair (.int .i64) (.int .i64)) (.pair (.int .i64) (.pair (.int .i64) (.pair (.int .i64) (.pair (.int .i64) (.int .i64)))))))))) cs,.xl (.str) os,.xl (.pair .str (.pair (.int .i64) (.pair (.int .i64) (.int .i64)))) ks,.xl (.pair .str (.pair (.int .i64) (.pair (.int .i64) (.pair (.int .i64) (.pair (.int .i64) (.pair (.int .i64) (.pair (.int .i64) (.int .i64)))))))) gs,.xl (.pair .str (.int .i64)) bs]]=> .req (((List.length cs:Int)≤100∧(List.length os:Int)≤100∧(List.length ks:Int)≤100∧(List.length gs:Int)≤100∧(List.length bs:Int)≤100)∧nmR (gB cs os ks gs bs)) (.ok (.v (.bool (nmB (gB cs os ks gs bs)))))
 |_=> .no
noncomputable def WX:List LV→T LV:=gW Tryz.prog Tryz.f87.params.toList aa1
theorem ama (cs:List Cd) (os:List ByteArray) (ks:List Ko) (gs:List Ch) (bs:List Ba):bW Tryz.prog aP (Dv) eY (fun i=>if i=3 then Ec.lp else if i=7 then Eb.lp else if i=11 then Ea.lp else if i=15 then D9.lp else if i=19 then D8.lp else if i=23 then D7.lp else aC i) Tryz.f87 [.agg [.xl dW cs,.xl .str os,.xl eu ks,.xl dQ gs,.xl eG bs]]=.req (0=0∧0=List.length ([]:List ByteArray)) (.req (avV (⟨false,(0:Int),cs,os,ks,gs,bs,([]:List ByteArray)⟩:iC)) (.rl (jv (⟨false,(0:Int),cs,os,ks,gs,bs,([]:List ByteArray)⟩:iC)).l (.req (avU (⟨false,(0:Int),cs,os,ks,gs,bs,(jv (⟨false,(0:Int),cs,os,ks,gs,bs,([]:List ByteArray)⟩:iC)).l⟩:iM)) (.rl (kM (⟨false,(0:Int),cs,os,ks,gs,bs,(jv (⟨false,(0:Int),cs,os,ks,gs,bs,([]:List ByteArray)⟩:iC)).l⟩:iM)).l (.req (avT (⟨false,(0:Int),cs,os,ks,gs,bs,(kM (⟨false,(0:Int),cs,os,ks,gs,bs,(jv (⟨false,(0:Int),cs,os,ks,gs,bs,([]:List ByteArray)⟩:iC)).l⟩:iM)).l⟩:jm)) (.rl (nH (⟨false,(0:Int),cs,os,ks,gs,bs,(kM (⟨false,(0:Int),cs,os,ks,gs,bs,(jv (⟨false,(0:Int),cs,os,ks,gs,bs,([]:List ByteArray)⟩:iC)).l⟩:iM)).l⟩:jm)).l (.req (avS (⟨false,(0:Int),cs,os,ks,gs,bs,(nH (⟨false,(0:Int),cs,os,ks,gs,bs,(kM (⟨false,(0:Int),cs,os,ks,gs,bs,(jv (⟨false,(0:Int),cs,os,ks,gs,bs,([]:List ByteArray)⟩:iC)).l⟩:iM)).l⟩:jm)).l⟩:jH)) (.rl (qA (⟨false,(0:Int),cs,os,ks,gs,bs,(nH (⟨false,(0:Int),cs,os,ks,gs,bs,(kM (⟨false,(0:Int),cs,os,ks,gs,bs,(jv (⟨false,(0:Int),cs,os,ks,gs,bs,([]:List ByteArray)⟩:iC)).l⟩:iM)).l⟩:jm)).l⟩:jH)).l (.req (avR (⟨false,(0:Int),cs,os,ks,gs,bs,(qA (⟨false,(0:Int),cs,os,ks,gs,bs,(nH (⟨false,(0:Int),cs,os,ks,gs,bs,(kM (⟨false,(0:Int),cs,os,ks,gs,bs,(jv (⟨false,(0:Int),cs,os,ks,gs,bs,([]:List ByteArray)⟩:iC)).l⟩:iM)).l⟩:jm)).l⟩:jH)).l⟩:kH)) (.rl (wz (⟨false,(0:Int),cs,os,ks,gs,bs,(qA (⟨false,(0:Int),cs,os,ks,gs,bs,(nH (⟨false,(0:Int),cs,os,ks,gs,bs,(kM (⟨false,(0:Int),cs,os,ks,gs,bs,(jv (⟨false,(0:Int),cs,os,ks,gs,bs,([]:List ByteArray)⟩:iC)).l⟩:iM)).l⟩:jm)).l⟩:jH)).l⟩:kH)).l (.req (avQ (⟨false,(0:Int),(wz (⟨false,(0:Int),cs,os,ks,gs,bs,(qA (⟨false,(0:Int),cs,os,ks,gs,bs,(nH (⟨false,(0:Int),cs,os,ks,gs,bs,(kM (⟨false,(0:Int),cs,os,ks,gs,bs,(jv (⟨false,(0:Int),cs,os,ks,gs,bs,([]:List ByteArray)⟩:iC)).l⟩:iM)).l⟩:jm)).l⟩:jH)).l⟩:kH)).l⟩:mQ)) (.br (ig (aap (⟨false,(0:Int),(wz (⟨false,(0:Int),cs,os,ks,gs,bs,(qA (⟨false,(0:Int),cs,os,ks,gs,bs,(nH (⟨false,(0:Int),cs,os,ks,gs,bs,(kM (⟨false,(0:Int),cs,os,ks,gs,bs,(jv (⟨false,(0:Int),cs,os,ks,gs,bs,([]:List ByteArray)⟩:iC)).l⟩:iM)).l⟩:jm)).l⟩:jH)).l⟩:kH)).l⟩:mQ)) (.ret)) (.ok (.v (.bool (YK (⟨false,(0:Int),(wz (⟨false,(0:Int),cs,os,ks,gs,bs,(qA (⟨false,(0:Int),cs,os,ks,gs,bs,(nH (⟨false,(0:Int),cs,os,ks,gs,bs,(kM (⟨false,(0:Int),cs,os,ks,gs,bs,(jv (⟨false,(0:Int),cs,os,ks,gs,bs,([]:List ByteArray)⟩:iC)).l⟩:iM)).l⟩:jm)).l⟩:jH)).l⟩:kH)).l⟩:mQ)).r))) (.ok (.v (.bool true))))))))))))))):=by kernel_rfl
theorem aq0:Valid Tryz.prog aP 87 WX:=aH Tryz.func87 rfl Ho aG (L:=(fun i=>if i=3 then Ec.lp else if i=7 then Eb.lp else if i=11 then Ea.lp else if i=15 then D9.lp else if i=19 then D8.lp else if i=23 then D7.lp else aC i)) (fun b hb=>by
 rw [show aF _=[Ak,Aj,Ai,Ah,Ag,Af] by kernel_rfl] at hb
 simp only [List.mem_cons,List.not_mem_nil,or_false] at hb
 rcases hb with rfl|rfl|rfl|rfl|rfl|rfl
 ·exact akv
 ·exact aku
 ·exact akt
 ·exact aks
 ·exact akr
 ·exact akq) (fun args lv h=>by
 unfold aa1 at h
 split at h
 ·simp only [canL,canX]
  rw [ama]
  rename_i cs os ks gs bs
  obtain ⟨⟨⟨hc,ho,hk,hg,hb⟩,hn⟩,rfl⟩:=h
  refine ⟨⟨rfl,rfl⟩,nD ⟨⟨rfl,by simp only;omega,by simp only;decide⟩,rfl,rfl⟩ (fun hE0=>?_)⟩
  have o0:=(alq _ hE0.1).2
  generalize (jv ⟨false,(0:Int),cs,os,ks,gs,bs,([]:List ByteArray)⟩).l=r0 at o0⊢
  have o0:r0=([]:List ByteArray)++cs.map (·.1):=o0
  have l0:(List.length r0:Int)≤100:=by rw [o0];simp only [List.length_append,List.length_map,List.length_nil];omega
  refine ⟨⟨rfl,rfl⟩,nD ⟨⟨rfl,by simp only;omega,by simp only;omega⟩,rfl,rfl⟩ (fun hE1=>?_)⟩
  have o1:=(alp _ hE1.1).2
  generalize (kM ⟨false,(0:Int),cs,os,ks,gs,bs,r0⟩).l=r1 at o1⊢
  have o1:r1=r0++os:=o1
  have l1:(List.length r1:Int)≤200:=by rw [o1];simp only [List.length_append];omega
  refine ⟨⟨rfl,rfl⟩,nD ⟨⟨rfl,by simp only;omega,by simp only;omega⟩,rfl,rfl⟩ (fun hE2=>?_)⟩
  have o2:=(alo _ hE2.1).2
  generalize (nH ⟨false,(0:Int),cs,os,ks,gs,bs,r1⟩).l=r2 at o2⊢
  have o2:r2=r1++ks.map (·.1):=o2
  have l2:(List.length r2:Int)≤300:=by rw [o2];simp only [List.length_append,List.length_map];omega
  refine ⟨⟨rfl,rfl⟩,nD ⟨⟨rfl,by simp only;omega,by simp only;omega⟩,rfl,rfl⟩ (fun hE3=>?_)⟩
  have o3:=(aln _ hE3.1).2
  generalize (qA ⟨false,(0:Int),cs,os,ks,gs,bs,r2⟩).l=r3 at o3⊢
  have o3:r3=r2++gs.map (·.1):=o3
  have l3:(List.length r3:Int)≤400:=by rw [o3];simp only [List.length_append,List.length_map];omega
  refine ⟨⟨rfl,rfl⟩,nD ⟨⟨rfl,by simp only;omega,by simp only;omega⟩,rfl,rfl⟩ (fun hE4=>?_)⟩
  have o4:=(alm _ hE4.1).2
  generalize (wz ⟨false,(0:Int),cs,os,ks,gs,bs,r3⟩).l=r4 at o4⊢
  have o4:r4=r3++bs.map (·.1):=o4
  have l4:(List.length r4:Int)≤500:=by rw [o4];simp only [List.length_append,List.length_map];omega
  have e:r4=gB cs os ks gs bs:=by rw [o4,o3,o2,o1,o0,List.nil_append];rfl
  subst e
  refine ⟨⟨rfl,rfl⟩,nD ⟨⟨rfl,by simp only;omega,hn⟩,rfl,rfl⟩ (fun hE=>?_)⟩
  obtain ⟨s',_,hq⟩:=alk _ hE.1
  unfold nmB
  generalize gB cs os ks gs bs=l at*
  rcases hq with ⟨q1,q2⟩ |⟨q1,q2,j,q3,q4⟩
  ·rw [q1]
   have hk:=(kE (d:=emp) (p:=nameB) (k:=id)).1 q2
   rw [List.map_id] at hk
   rw [show (l.all nameB&&once l)=true from hk]
   exact ⟨fun h=>(by cases h),fun _=>rfl⟩
  ·rw [q1,q2]
   refine ⟨fun _=>congrArg (fun z=>LV.v (.bool z)) ?_,fun h=>by cases h⟩
   rw [eq_comm,Bool.eq_false_iff]
   intro hx
   have:=(kE (d:=emp) (p:=nameB) (k:=id)).2 (by rw [List.map_id];exact hx) j q3
   exact Bool.noConfusion (this.symm.trans q4)
 ·cases h)
end Go.Proofs.YtlihnbimgclogaaGreatDoor
namespace Go.Proofs.YtlihnbimgclogaaGreatDoor
open Go.Sx
structure iR where
 r:Bool
 i:Int
 aj:List Cd
 aB:List ByteArray
 ai:List Ko
 ak:List Ch
 aJ:List Ba
def aAL (s:iR):List LV:=[.own 0 0,.v (.bool s.r),.v (.int .i64 s.i)]
def azP (s:iR):List aT:=[⟨[.xl dW s.aj,.xl .str s.aB,.xl eu s.ai,.xl dQ s.ak,.xl eG s.aJ],28,.cl,false⟩]
noncomputable def Ad:Code:=((aF (Tryz.f49.body.getD .skip))[0]?).getD .skip
def Yc (s:iR):T (Rd iR):=
 .br (decide (s.i<(List.length s.aj:Int))) (.req (0≤s.i∧s.i<(List.length s.aj:Int)) (.req (0≤s.i∧s.i≤1000) (.br (!(DI s.i (fP s.aj s.i))) (.ok (.stop (.ret) {s with r:=false})) (.ok (.next {s with i:=(IntKind.i64.wrap (s.i+1))}))))) (.ok (.stop (.exit 0) s))
abbrev ap5 (s:iR):=(Yc s).rd s
def I8 (s:iR) (j:Int):Bool:=DI j (fP s.aj j)
def aju (s:iR):Prop:=s.i=0∧0≤(List.length s.aj:Int)∧(List.length s.aj:Int)≤1000∧True
def KY (s:iR):Prop:=0≤s.i∧s.i≤(List.length s.aj:Int)∧(List.length s.aj:Int)≤1000∧(True)∧∀j:Nat,(j:Int)<s.i→I8 s j=true
def Nz (s:iR):Nat:=((List.length s.aj:Int)-s.i).toNat
def aiS (x:Ex) (_ s':iR):Prop:=(x=.exit 0∧∀j:Nat,(j:Int)<(List.length s'.aj:Int)→I8 s' j=true)∨(x=.ret∧s'.r=false∧∃j:Nat,(j:Int)<(List.length s'.aj:Int)∧I8 s' j=false)
theorem axm:∀s,aju s→KY s:=by
 intro s h
 obtain ⟨h0,h1,h2,h3⟩:=h
 exact ⟨by omega,by omega,h2,h3,fun j hj=>by omega⟩
theorem ar2 (s:iR) (hI:KY s):bM (fun s'=>KY s'∧Nz s'<Nz s) (fun x s'=>aiS x s s') (ap5 s):=by
 unfold ap5 Yc
 dsimp only [T.rd,T.rl]
 obtain ⟨h0,h1,h2,h3,h4⟩:=hI
 refine au (fun c1=>au (fun c2=>?_) (fun c2=>?_)) (fun c1=>?_)
 ·have c1:s.i<(List.length s.aj:Int):=by simpa using c1
  refine .inr ⟨rfl,rfl,s.i.toNat,by simp only;omega,?_⟩
  rw [Int.toNat_of_nonneg (by omega)]
  have hg:I8 s s.i=false:=by unfold I8;(first|(have c2:(!(DI s.i (fP s.aj s.i)))=false:=c2;simpa using c2) |(have c2:(!(DI s.i (fP s.aj s.i)))=true:=c2;simpa using c2))
  exact hg
 ·have c1:s.i<(List.length s.aj:Int):=by simpa using c1
  have hg:I8 s s.i=true:=by unfold I8;(first|(have c2:(!(DI s.i (fP s.aj s.i)))=false:=c2;simpa using c2) |(have c2:(!(DI s.i (fP s.aj s.i)))=true:=c2;simpa using c2))
  rw [aK (x:=s.i+1) (by omega) (by omega)]
  refine ⟨⟨by simp only;omega,by simp only;omega,h2,h3,fun j hj=>?_⟩,by simp only [Nz];omega⟩
  by_cases hji:(j:Int)<s.i
  ·exact h4 j hji
  ·have:(j:Int)=s.i:=by simp only at hj;omega
   rw [this];exact hg
 ·have c1:(List.length s.aj:Int)≤s.i:=by simpa using c1
  exact .inl ⟨rfl,fun j hj=>h4 j (by omega)⟩
def D5:bQ iR:=⟨0,159,[1,2,3],[],aAL,azP,fun v b=>⟨vH (v.getD 1 .junk),gI (v.getD 2 .junk),aQ dW (aY (aO b 0) 0),aQ .str (aY (aO b 0) 1),aQ eu (aY (aO b 0) 2),aQ dQ (aY (aO b 0) 3),aQ eG (aY (aO b 0) 4)⟩,Yc,fun s r=> {r with aj:=s.aj,aB:=s.aB,ai:=s.ai,ak:=s.ak,aJ:=s.aJ},fun s=>s,fun _ s=>s,[.ret,.exit 0],aju,KY,Nz⟩
abbrev lQ:=D5.run
abbrev aan:=D5.jZ
abbrev avO:=D5.q
theorem asn (s:iR) (hI:KY s):(Yc s).all (fun _=>True):=by
 refine ⟨fun c1=>⟨?_,?_,fun _=>trivial,fun _=>trivial⟩,fun _=>trivial⟩
 all_goals ((obtain ⟨h0,h1,h2,h3,h4⟩:=hI;simp at c1;omega))
noncomputable def Hu:Specs:=bf [(86,IC),(87,WX),(88,WZ),(89,W9)]
theorem J6:∀g S,Hu g=some S→Valid Tryz.prog aP g S:=aS (l:=[(86,IC),(87,WX),(88,WZ),(89,W9)]) ⟨adE,aq0,aq2,aq3,trivial⟩
theorem afx:D5.Ok:=⟨fun s=>by kernel_rfl,fun s=>by kernel_rfl,fun s=>rfl,fun s t r=>rfl,fun s=>rfl,fun s=>by kernel_rfl⟩
theorem aez:D5.Pf (aiS):=⟨axm,fun _ _=>rfl,ar2,asn⟩
theorem ako:bg Tryz.prog aP (AN 0) (.loop Ad) D5.lp:=bQ.snd afx aez (aU (Γ:=Hu) (K:=eY) (L:=aC) J6 aG Ad (fun b hb=>by rw [show aF Ad=[] by kernel_rfl] at hb;cases hb)) (fun s=>by kernel_rfl)
theorem alc (s:iR) (hE:aju s):∃s',KY s'∧aiS (aan s) s' (lQ s):=bQ.fin afx aez s hE
structure nY where
 r:Bool
 i:Int
 k:Int
 aj:List Cd
 aB:List ByteArray
 ai:List Ko
 ak:List Ch
 aJ:List Ba
 pY:ByteArray
 lY:Int
 Wx:Int
 rC:Int
def aAH (s:nY):List LV:=[.own 0 0,.v (.bool s.r),.v (.int .i64 s.i),.own 1 0,.v (.int .i64 s.k)]
def azL (s:nY):List aT:=[⟨[.xl dW s.aj,.xl .str s.aB,.xl eu s.ai,.xl dQ s.ak,.xl eG s.aJ],28,.cl,false⟩,⟨[.v (.string s.pY),.v (.int .i64 s.lY),.v (.int .i64 s.Wx),.v (.int .i64 s.rC)],139,.cl,false⟩]
noncomputable def zZ:Code:=((aF (((aF (Tryz.f49.body.getD .skip))[1]?).getD .skip))[0]?).getD .skip
def X8 (s:nY):T (Rd nY):=
 .br (decide (s.k<s.i)) (.req (0≤s.k∧s.k<(List.length s.ai:Int)) (.br ((mM s.ai s.k).2.2.2==s.rC) (.ok (.stop (.ret) {s with r:=false})) (.ok (.next {s with k:=(IntKind.i64.wrap (s.k+1))})))) (.ok (.stop (.exit 4) s))
abbrev ap1 (s:nY):=(X8 s).rd s
def I4 (s:nY) (j:Int):Bool:=!((mM s.ai j).2.2.2==s.rC)
def Ua (s:nY):Prop:=s.k=0∧0≤s.i∧s.i≤1000∧s.i≤(List.length s.ai:Int)
def KU (s:nY):Prop:=0≤s.k∧s.k≤s.i∧s.i≤1000∧(s.i≤(List.length s.ai:Int))∧∀j:Nat,(j:Int)<s.k→I4 s j=true
def Nu (s:nY):Nat:=(s.i-s.k).toNat
def aiP (x:Ex) (_ s':nY):Prop:=(x=.exit 4∧∀j:Nat,(j:Int)<s'.i→I4 s' j=true)∨(x=.ret∧s'.r=false∧∃j:Nat,(j:Int)<s'.i∧I4 s' j=false)
theorem axi:∀s,Ua s→KU s:=by
 intro s h
 obtain ⟨h0,h1,h2,h3⟩:=h
 exact ⟨by omega,by omega,h2,h3,fun j hj=>by omega⟩
theorem arY (s:nY) (hI:KU s):bM (fun s'=>KU s'∧Nu s'<Nu s) (fun x s'=>aiP x s s') (ap1 s):=by
 unfold ap1 X8
 dsimp only [T.rd,T.rl]
 obtain ⟨h0,h1,h2,h3,h4⟩:=hI
 refine au (fun c1=>au (fun c2=>?_) (fun c2=>?_)) (fun c1=>?_)
 ·have c1:s.k<s.i:=by simpa using c1
  refine .inr ⟨rfl,rfl,s.k.toNat,by simp only;omega,?_⟩
  rw [Int.toNat_of_nonneg (by omega)]
  have hg:I4 s s.k=false:=by unfold I4;(simpa using c2)
  exact hg
 ·have c1:s.k<s.i:=by simpa using c1
  have hg:I4 s s.k=true:=by unfold I4;(simpa using c2)
  rw [aK (x:=s.k+1) (by omega) (by omega)]
  refine ⟨⟨by simp only;omega,by simp only;omega,h2,h3,fun j hj=>?_⟩,by simp only [Nu];omega⟩
  by_cases hji:(j:Int)<s.k
  ·exact h4 j hji
  ·have:(j:Int)=s.k:=by simp only at hj;omega
   rw [this];exact hg
 ·have c1:s.i≤s.k:=by simpa using c1
  exact .inl ⟨rfl,fun j hj=>h4 j (by omega)⟩
def Ji:bQ nY:=⟨0,159,[1,2,4,5,6],[],aAH,azL,fun v b=>⟨vH (v.getD 1 .junk),gI (v.getD 2 .junk),gI (v.getD 4 .junk),aQ dW (aY (aO b 0) 0),aQ .str (aY (aO b 0) 1),aQ eu (aY (aO b 0) 2),aQ dQ (aY (aO b 0) 3),aQ eG (aY (aO b 0) 4),gSr (aY (aO b 1) 0),gI (aY (aO b 1) 1),gI (aY (aO b 1) 2),gI (aY (aO b 1) 3)⟩,X8,fun s r=> {r with i:=s.i,aj:=s.aj,aB:=s.aB,ai:=s.ai,ak:=s.ak,aJ:=s.aJ,pY:=s.pY,lY:=s.lY,Wx:=s.Wx,rC:=s.rC},fun s=>s,fun _ s=>s,[.ret,.exit 4],Ua,KU,Nu⟩
abbrev yX:=Ji.run
abbrev wU:=Ji.jZ
abbrev avK:=Ji.q
theorem ash (s:nY) (hI:KU s):(X8 s).all (fun _=>True):=by
 refine ⟨fun c1=>⟨?_,fun _=>trivial,fun _=>trivial⟩,fun _=>trivial⟩
 ·(obtain ⟨h0,h1,h2,h3,h4⟩:=hI;simp at c1;omega)
theorem aft:Ji.Ok:=⟨fun s=>by kernel_rfl,fun s=>by kernel_rfl,fun s=>rfl,fun s t r=>rfl,fun s=>rfl,fun s=>by kernel_rfl⟩
theorem aev:Ji.Pf (aiP):=⟨axi,fun _ _=>rfl,arY,ash⟩
theorem akk:bg Tryz.prog aP (AN 0) (.loop zZ) Ji.lp:=bQ.snd aft aev (aU (Γ:=Hu) (K:=eY) (L:=aC) J6 aG zZ (fun b hb=>by rw [show aF zZ=[] by kernel_rfl] at hb;cases hb)) (fun s=>by kernel_rfl)
theorem ak8 (s:nY) (hE:Ua s):∃s',KU s'∧aiP (wU s) s' (yX s):=bQ.fin aft aev s hE
theorem ak7 (s:nY) (hE:Ua s):(wU s=.exit 4∧((s.ai.take s.i.toNat).map (·.2.2.2)).contains s.rC=false)∨(wU s=.ret∧(yX s).r=false∧((s.ai.take s.i.toNat).map (·.2.2.2)).contains s.rC=true):=by
 obtain ⟨s',_,hq⟩:=ak8 s hE
 obtain ⟨h0,h1,h2,h3⟩:=hE
 have hc:=acs (c:=s.rC) h1 h3
 rcases hq with ⟨q1,q2⟩ |⟨q1,q2,j,q3,q4⟩
 ·refine .inl ⟨q1,?_⟩
  rw [Bool.eq_false_iff,ne_eq,hc]
  rintro ⟨j,hj,e⟩
  have:(!((mM s.ai j).2.2.2==s.rC))=true:=q2 j hj
  rw [e] at this
  simp at this
 ·refine .inr ⟨q1,q2,hc.2 ⟨j,q3,?_⟩⟩
  have q4:(!((mM s.ai j).2.2.2==s.rC))=false:=q4
  simpa using q4
structure iQ where
 r:Bool
 i:Int
 aj:List Cd
 aB:List ByteArray
 ai:List Ko
 ak:List Ch
 aJ:List Ba
def aAK (s:iQ):List LV:=[.own 0 0,.v (.bool s.r),.v (.int .i64 s.i)]
def azO (s:iQ):List aT:=[⟨[.xl dW s.aj,.xl .str s.aB,.xl eu s.ai,.xl dQ s.ak,.xl eG s.aJ],28,.cl,false⟩]
noncomputable def Ii:Code:=((aF (Tryz.f49.body.getD .skip))[1]?).getD .skip
def qw (s:iQ):nY:=(⟨s.r,s.i,(0:Int),s.aj,s.aB,s.ai,s.ak,s.aJ,(mM s.ai s.i).1,(mM s.ai s.i).2.1,(mM s.ai s.i).2.2.1,(mM s.ai s.i).2.2.2⟩:nY)
def Yb (s:iQ):T (Rd iQ):=
 .br (decide (s.i<(List.length s.ai:Int))) (.req (0≤s.i∧s.i<(List.length s.ai:Int)) (.br ((!(inB (mM s.ai s.i).2.1 (0:Int) (IntKind.i64.wrap ((List.length s.aB:Int)-1)))) ||((!(inB (mM s.ai s.i).2.2.1 (1:Int) (9:Int))) ||(!(inB (mM s.ai s.i).2.2.2 (1:Int) (1000000:Int))))) (.ok (.stop (.ret) {s with r:=false})) (.req (avK (qw s)) (.br (ig (wU (qw s)) (.ret)) (.ok (.stop (.ret) {s with r:=(yX (qw s)).r})) (.ok (.next {s with r:=(yX (qw s)).r,i:=(IntKind.i64.wrap (s.i+1))})))))) (.ok (.stop (.exit 2) s))
abbrev ap4 (s:iQ):=(Yb s).rd s
def L8 (s:iQ) (j:Int):Bool:=koV (List.length s.aB:Int) (mM s.ai j)&&!(((s.ai.take j.toNat).map (·.2.2.2)).contains (mM s.ai j).2.2.2)
def ajt (s:iQ):Prop:=s.i=0∧(List.length s.ai:Int)≤1000∧(List.length s.aB:Int)≤1000
def IU (s:iQ):Prop:=(0≤s.i∧s.i≤(List.length s.ai:Int))∧(∀j:Nat,(j:Int)<s.i→L8 s j=true)∧(List.length s.ai:Int)≤1000∧(List.length s.aB:Int)≤1000
def Ny (s:iQ):Nat:=((List.length s.ai:Int)-s.i).toNat
def abP (x:Ex) (_ s':iQ):Prop:=(x=.exit 2∧∀j:Nat,(j:Int)<(List.length s'.ai:Int)→L8 s' j=true)∨(x=.ret∧s'.r=false∧∃j:Nat,(j:Int)<(List.length s'.ai:Int)∧L8 s' j=false)
theorem axl:∀s,ajt s→IU s:=by
 intro s h
 obtain ⟨h0,h1,h2⟩:=h
 exact ⟨by omega,fun j hj=>by omega,h1,h2⟩
theorem ad5 (s:iQ) (hI:IU s) (c1:s.i<(List.length s.ai:Int)):Ua (qw s):=by
 obtain ⟨⟨h0,h1⟩,h2,h3,h4⟩:=hI
 exact ⟨rfl,h0,by show s.i≤1000;omega,h1⟩
theorem ar1 (s:iQ) (hI:IU s):bM (fun s'=>IU s'∧Ny s'<Ny s) (fun x s'=>abP x s s') (ap4 s):=by
 unfold ap4 Yb
 dsimp only [T.rd,T.rl]
 have hin:=fun c1=>ad5 s hI c1
 obtain ⟨⟨h0,h1⟩,h2,h3,h4⟩:=hI
 refine au (fun c1=>?_) (fun c1=>?_)
 rotate_left
 ·have c1:(List.length s.ai:Int)≤s.i:=by simpa using c1
  exact .inl ⟨rfl,fun j hj=>h2 j (by omega)⟩
 have c1:s.i<(List.length s.ai:Int):=by simpa using c1
 have bad:∀s2:iQ,s2.r=false→s2.ai=s.ai→s2.aB=s.aB→L8 s s.i=false→abP .ret s s2:=fun s2 e1 e2 e3 hg=> .inr ⟨rfl,e1,s.i.toNat,by rw [e2];omega,by
  unfold L8 at hg⊢
  rw [Int.toNat_of_nonneg h0,e2,e3]
  exact hg⟩
 rw [aK (x:=(List.length s.aB:Int)-1) (by omega) (by omega)]
 have hk:=ak7 _ (hin c1)
 have hk:(wU (qw s)=.exit 4∧((s.ai.take s.i.toNat).map (·.2.2.2)).contains (mM s.ai s.i).2.2.2=false)∨(wU (qw s)=.ret∧(yX (qw s)).r=false∧((s.ai.take s.i.toNat).map (·.2.2.2)).contains (mM s.ai s.i).2.2.2=true):=hk
 have hg:L8 s s.i=(koV (List.length s.aB:Int) (mM s.ai s.i)&&!(((s.ai.take s.i.toNat).map (·.2.2.2)).contains (mM s.ai s.i).2.2.2)):=rfl
 have hkv:koV (List.length s.aB:Int) (mM s.ai s.i)=(inB (mM s.ai s.i).2.1 0 ((List.length s.aB:Int)-1)&&(inB (mM s.ai s.i).2.2.1 1 9&&inB (mM s.ai s.i).2.2.2 1 1000000)):=rfl
 refine au (fun c2=>bad _ rfl rfl rfl ?_) (fun c2=>?_)
 ·rw [hg,hkv]
  revert c2
  generalize inB (mM s.ai s.i).2.1 _ _=a
  generalize inB (mM s.ai s.i).2.2.1 _ _=b
  generalize inB (mM s.ai s.i).2.2.2 _ _=c
  cases a<;>cases b<;>cases c<;>simp
 have hkt:koV (List.length s.aB:Int) (mM s.ai s.i)=true:=by
  rw [hkv]
  revert c2
  generalize inB (mM s.ai s.i).2.1 _ _=a
  generalize inB (mM s.ai s.i).2.2.1 _ _=b
  generalize inB (mM s.ai s.i).2.2.2 _ _=c
  cases a<;>cases b<;>cases c<;>simp
 rw [hkt,Bool.true_and] at hg
 rcases hk with ⟨q1,q2⟩ |⟨q1,q2,q3⟩
 ·rw [q1]
  refine au (fun c3=>by cases c3) (fun _=>?_)
  rw [aK (x:=s.i+1) (by omega) (by omega)]
  rw [q2] at hg
  refine ⟨⟨⟨by simp only;omega,by simp only;omega⟩,fun j hj=>?_,h3,h4⟩,by simp only [Ny];omega⟩
  by_cases hji:(j:Int)<s.i
  ·exact h2 j hji
  ·have:(j:Int)=s.i:=by simp only at hj;omega
   rw [this];exact hg
 ·rw [q1]
  refine au (fun _=>bad _ q2 rfl rfl ?_) (fun c3=>by cases c3)
  rw [hg,q3]
  rfl
def DZ:bQ iQ:=⟨0,159,[1,2,4],[],aAK,azO,fun v b=>⟨vH (v.getD 1 .junk),gI (v.getD 2 .junk),aQ dW (aY (aO b 0) 0),aQ .str (aY (aO b 0) 1),aQ eu (aY (aO b 0) 2),aQ dQ (aY (aO b 0) 3),aQ eG (aY (aO b 0) 4)⟩,Yb,fun s r=> {r with aj:=s.aj,aB:=s.aB,ai:=s.ai,ak:=s.ak,aJ:=s.aJ},fun s=>s,fun _ s=>s,[.ret,.exit 2],ajt,IU,Ny⟩
abbrev qy:=DZ.run
abbrev aam:=DZ.jZ
abbrev avN:=DZ.q
theorem asl (s:iQ) (hI:IU s):(Yb s).all (fun _=>True):=by
 refine ⟨fun c1=>⟨?_,fun _=>trivial,fun c2=>⟨?_,fun _=>trivial,fun _=>trivial⟩⟩,fun _=>trivial⟩
 ·(obtain ⟨⟨h0,h1⟩,h2,h3,h4⟩:=hI;simp only [decide_eq_true_eq] at c1;omega)
 ·exact ⟨ad5 s hI (by simpa using c1),rfl,rfl⟩
theorem afw:DZ.Ok:=⟨fun s=>by kernel_rfl,fun s=>by kernel_rfl,fun s=>rfl,fun s t r=>rfl,fun s=>rfl,fun s=>by kernel_rfl⟩
theorem aey:DZ.Pf (abP):=⟨axl,fun _ _=>rfl,ar1,asl⟩
theorem akn:bg Tryz.prog aP (AN 0) (.loop Ii) DZ.lp:=bQ.snd afw aey (aU (Γ:=Hu) (K:=eY) (L:=(fun i=>if i=15 then Ji.lp else aC i)) J6 aG Ii (fun b hb=>by
 rw [show aF _=[zZ] by kernel_rfl] at hb
 simp only [List.mem_cons,List.not_mem_nil,or_false] at hb
 subst hb
 exact akk)) (fun s=>by kernel_rfl)
theorem alb (s:iQ) (hE:ajt s):∃s',IU s'∧abP (aam s) s' (qy s):=bQ.fin afw aey s hE
structure lm where
 r:Bool
 i:Int
 aj:List Cd
 aB:List ByteArray
 ai:List Ko
 ak:List Ch
 aJ:List Ba
def aAJ (s:lm):List LV:=[.own 0 0,.v (.bool s.r),.v (.int .i64 s.i)]
def azN (s:lm):List aT:=[⟨[.xl dW s.aj,.xl .str s.aB,.xl eu s.ai,.xl dQ s.ak,.xl eG s.aJ],28,.cl,false⟩]
noncomputable def Ac:Code:=((aF (Tryz.f49.body.getD .skip))[2]?).getD .skip
def Ya (s:lm):T (Rd lm):=
 .br (decide (s.i<(List.length s.ak:Int))) (.req (0≤s.i∧s.i<(List.length s.ak:Int)) (.br ((!(chW (bC s.ak s.i))) ||((!(inB (bC s.ak s.i).2.1 (0:Int) (IntKind.i64.wrap ((List.length s.aj:Int)-1)))) ||(!(inB (bC s.ak s.i).2.2.2.2.2.2.2 (0:Int) (IntKind.i64.wrap ((List.length s.aB:Int)-1)))))) (.ok (.stop (.ret) {s with r:=false})) (.ok (.next {s with i:=(IntKind.i64.wrap (s.i+1))})))) (.ok (.stop (.exit 6) s))
abbrev ap3 (s:lm):=(Ya s).rd s
def I7 (s:lm) (j:Int):Bool:=Fh s.aj.length s.aB.length (bC s.ak j)
def ajs (s:lm):Prop:=s.i=0∧0≤(List.length s.ak:Int)∧(List.length s.ak:Int)≤1000∧(s.aj.length:Int)≤1000∧(s.aB.length:Int)≤1000
def KX (s:lm):Prop:=0≤s.i∧s.i≤(List.length s.ak:Int)∧(List.length s.ak:Int)≤1000∧((s.aj.length:Int)≤1000∧(s.aB.length:Int)≤1000)∧∀j:Nat,(j:Int)<s.i→I7 s j=true
def Nw (s:lm):Nat:=((List.length s.ak:Int)-s.i).toNat
def aiR (x:Ex) (_ s':lm):Prop:=(x=.exit 6∧∀j:Nat,(j:Int)<(List.length s'.ak:Int)→I7 s' j=true)∨(x=.ret∧s'.r=false∧∃j:Nat,(j:Int)<(List.length s'.ak:Int)∧I7 s' j=false)
theorem axk:∀s,ajs s→KX s:=by
 intro s h
 obtain ⟨h0,h1,h2,h3⟩:=h
 exact ⟨by omega,by omega,h2,h3,fun j hj=>by omega⟩
theorem ar0 (s:lm) (hI:KX s):bM (fun s'=>KX s'∧Nw s'<Nw s) (fun x s'=>aiR x s s') (ap3 s):=by
 unfold ap3 Ya
 dsimp only [T.rd,T.rl]
 obtain ⟨h0,h1,h2,h3,h4⟩:=hI
 refine au (fun c1=>au (fun c2=>?_) (fun c2=>?_)) (fun c1=>?_)
 ·have c1:s.i<(List.length s.ak:Int):=by simpa using c1
  refine .inr ⟨rfl,rfl,s.i.toNat,by simp only;omega,?_⟩
  rw [Int.toNat_of_nonneg (by omega)]
  have hg:I7 s s.i=false:=by unfold I7;(obtain ⟨e1,e2⟩:=h3;rw [aK (x:=(List.length s.aj:Int)-1) (by omega) (by omega),aK (x:=(List.length s.aB:Int)-1) (by omega) (by omega)] at c2;unfold Fh;revert c2;generalize chW (bC s.ak s.i)=a;generalize inB (bC s.ak s.i).2.1 _ _=b;generalize inB (bC s.ak s.i).2.2.2.2.2.2.2 _ _=c;cases a<;>cases b<;>cases c<;>simp)
  exact hg
 ·have c1:s.i<(List.length s.ak:Int):=by simpa using c1
  have hg:I7 s s.i=true:=by unfold I7;(obtain ⟨e1,e2⟩:=h3;rw [aK (x:=(List.length s.aj:Int)-1) (by omega) (by omega),aK (x:=(List.length s.aB:Int)-1) (by omega) (by omega)] at c2;unfold Fh;revert c2;generalize chW (bC s.ak s.i)=a;generalize inB (bC s.ak s.i).2.1 _ _=b;generalize inB (bC s.ak s.i).2.2.2.2.2.2.2 _ _=c;cases a<;>cases b<;>cases c<;>simp)
  rw [aK (x:=s.i+1) (by omega) (by omega)]
  refine ⟨⟨by simp only;omega,by simp only;omega,h2,h3,fun j hj=>?_⟩,by simp only [Nw];omega⟩
  by_cases hji:(j:Int)<s.i
  ·exact h4 j hji
  ·have:(j:Int)=s.i:=by simp only at hj;omega
   rw [this];exact hg
 ·have c1:(List.length s.ak:Int)≤s.i:=by simpa using c1
  exact .inl ⟨rfl,fun j hj=>h4 j (by omega)⟩
def DY:bQ lm:=⟨0,159,[1,2,7],[],aAJ,azN,fun v b=>⟨vH (v.getD 1 .junk),gI (v.getD 2 .junk),aQ dW (aY (aO b 0) 0),aQ .str (aY (aO b 0) 1),aQ eu (aY (aO b 0) 2),aQ dQ (aY (aO b 0) 3),aQ eG (aY (aO b 0) 4)⟩,Ya,fun s r=> {r with aj:=s.aj,aB:=s.aB,ai:=s.ai,ak:=s.ak,aJ:=s.aJ},fun s=>s,fun _ s=>s,[.ret,.exit 6],ajs,KX,Nw⟩
abbrev yY:=DY.run
abbrev aal:=DY.jZ
abbrev avM:=DY.q
theorem asj (s:lm) (hI:KX s):(Ya s).all (fun _=>True):=by
 refine ⟨fun c1=>⟨?_,fun _=>trivial,fun _=>trivial⟩,fun _=>trivial⟩
 ·(obtain ⟨h0,h1,h2,h3,h4⟩:=hI;simp at c1;omega)
theorem afv:DY.Ok:=⟨fun s=>by kernel_rfl,fun s=>by kernel_rfl,fun s=>rfl,fun s t r=>rfl,fun s=>rfl,fun s=>by kernel_rfl⟩
theorem aex:DY.Pf (aiR):=⟨axk,fun _ _=>rfl,ar0,asj⟩
theorem akm:bg Tryz.prog aP (AN 0) (.loop Ac) DY.lp:=bQ.snd afv aex (aU (Γ:=Hu) (K:=eY) (L:=aC) J6 aG Ac (fun b hb=>by rw [show aF Ac=[] by kernel_rfl] at hb;cases hb)) (fun s=>by kernel_rfl)
theorem ala (s:lm) (hE:ajs s):∃s',KX s'∧aiR (aal s) s' (yY s):=bQ.fin afv aex s hE
structure nZ where
 r:Bool
 i:Int
 aj:List Cd
 aB:List ByteArray
 ai:List Ko
 ak:List Ch
 aJ:List Ba
def aAI (s:nZ):List LV:=[.own 0 0,.v (.bool s.r),.v (.int .i64 s.i)]
def azM (s:nZ):List aT:=[⟨[.xl dW s.aj,.xl .str s.aB,.xl eu s.ai,.xl dQ s.ak,.xl eG s.aJ],28,.cl,false⟩]
noncomputable def Aa:Code:=((aF (Tryz.f49.body.getD .skip))[3]?).getD .skip
def X9 (s:nZ):T (Rd nZ):=
 .br (decide (s.i<(List.length s.aJ:Int))) (.req (0≤s.i∧s.i<(List.length s.aJ:Int)) (.br (!(inB (BG s.aJ s.i).2 (0:Int) (IntKind.i64.wrap ((List.length s.ak:Int)-1)))) (.ok (.stop (.ret) {s with r:=false})) (.ok (.next {s with i:=(IntKind.i64.wrap (s.i+1))})))) (.ok (.stop (.exit 8) s))
abbrev ap2 (s:nZ):=(X9 s).rd s
def I5 (s:nZ) (j:Int):Bool:=inB (BG s.aJ j).2 0 (IntKind.i64.wrap ((List.length s.ak:Int)-1))
def ajr (s:nZ):Prop:=s.i=0∧0≤(List.length s.aJ:Int)∧(List.length s.aJ:Int)≤1000∧True
def KW (s:nZ):Prop:=0≤s.i∧s.i≤(List.length s.aJ:Int)∧(List.length s.aJ:Int)≤1000∧(True)∧∀j:Nat,(j:Int)<s.i→I5 s j=true
def Nv (s:nZ):Nat:=((List.length s.aJ:Int)-s.i).toNat
def aiQ (x:Ex) (_ s':nZ):Prop:=(x=.exit 8∧∀j:Nat,(j:Int)<(List.length s'.aJ:Int)→I5 s' j=true)∨(x=.ret∧s'.r=false∧∃j:Nat,(j:Int)<(List.length s'.aJ:Int)∧I5 s' j=false)
theorem axj:∀s,ajr s→KW s:=by
 intro s h
 obtain ⟨h0,h1,h2,h3⟩:=h
 exact ⟨by omega,by omega,h2,h3,fun j hj=>by omega⟩
theorem arZ (s:nZ) (hI:KW s):bM (fun s'=>KW s'∧Nv s'<Nv s) (fun x s'=>aiQ x s s') (ap2 s):=by
 unfold ap2 X9
 dsimp only [T.rd,T.rl]
 obtain ⟨h0,h1,h2,h3,h4⟩:=hI
 refine au (fun c1=>au (fun c2=>?_) (fun c2=>?_)) (fun c1=>?_)
 ·have c1:s.i<(List.length s.aJ:Int):=by simpa using c1
  refine .inr ⟨rfl,rfl,s.i.toNat,by simp only;omega,?_⟩
  rw [Int.toNat_of_nonneg (by omega)]
  have hg:I5 s s.i=false:=by unfold I5;(first|(have c2:(!(inB (BG s.aJ s.i).2 0 (IntKind.i64.wrap ((List.length s.ak:Int)-1))))=false:=c2;simpa using c2) |(have c2:(!(inB (BG s.aJ s.i).2 0 (IntKind.i64.wrap ((List.length s.ak:Int)-1))))=true:=c2;simpa using c2))
  exact hg
 ·have c1:s.i<(List.length s.aJ:Int):=by simpa using c1
  have hg:I5 s s.i=true:=by unfold I5;(first|(have c2:(!(inB (BG s.aJ s.i).2 0 (IntKind.i64.wrap ((List.length s.ak:Int)-1))))=false:=c2;simpa using c2) |(have c2:(!(inB (BG s.aJ s.i).2 0 (IntKind.i64.wrap ((List.length s.ak:Int)-1))))=true:=c2;simpa using c2))
  rw [aK (x:=s.i+1) (by omega) (by omega)]
  refine ⟨⟨by simp only;omega,by simp only;omega,h2,h3,fun j hj=>?_⟩,by simp only [Nv];omega⟩
  by_cases hji:(j:Int)<s.i
  ·exact h4 j hji
  ·have:(j:Int)=s.i:=by simp only at hj;omega
   rw [this];exact hg
 ·have c1:(List.length s.aJ:Int)≤s.i:=by simpa using c1
  exact .inl ⟨rfl,fun j hj=>h4 j (by omega)⟩
def DX:bQ nZ:=⟨0,159,[1,2,9],[],aAI,azM,fun v b=>⟨vH (v.getD 1 .junk),gI (v.getD 2 .junk),aQ dW (aY (aO b 0) 0),aQ .str (aY (aO b 0) 1),aQ eu (aY (aO b 0) 2),aQ dQ (aY (aO b 0) 3),aQ eG (aY (aO b 0) 4)⟩,X9,fun s r=> {r with aj:=s.aj,aB:=s.aB,ai:=s.ai,ak:=s.ak,aJ:=s.aJ},fun s=>s,fun _ s=>s,[.ret,.exit 8],ajr,KW,Nv⟩
abbrev YI:=DX.run
abbrev aak:=DX.jZ
abbrev avL:=DX.q
theorem asi (s:nZ) (hI:KW s):(X9 s).all (fun _=>True):=by
 refine ⟨fun c1=>⟨?_,fun _=>trivial,fun _=>trivial⟩,fun _=>trivial⟩
 ·(obtain ⟨h0,h1,h2,h3,h4⟩:=hI;simp at c1;omega)
theorem afu:DX.Ok:=⟨fun s=>by kernel_rfl,fun s=>by kernel_rfl,fun s=>rfl,fun s t r=>rfl,fun s=>rfl,fun s=>by kernel_rfl⟩
theorem aew:DX.Pf (aiQ):=⟨axj,fun _ _=>rfl,arZ,asi⟩
theorem akl:bg Tryz.prog aP (AN 0) (.loop Aa) DX.lp:=bQ.snd afu aew (aU (Γ:=Hu) (K:=eY) (L:=aC) J6 aG Aa (fun b hb=>by rw [show aF Aa=[] by kernel_rfl] at hb;cases hb)) (fun s=>by kernel_rfl)
theorem ak9 (s:nZ) (hE:ajr s):∃s',KW s'∧aiQ (aak s) s' (YI s):=bQ.fin afu aew s hE
def aaY:List LV→T LV
 | [.agg [.xl (.pair .str (.pair (.int .i64) (.pair (.int .i64) (.pair (.int .i64) (.pair (.pair (.int .i64) (.int .i64)) (.pair (.int .i64) (.pair (.int .i64) (.pair (.int .i64) (.pair (.int .i64) (.int .i64)))))))))) cs,.xl (.str) os,.xl (.pair .str (.pair (.int .i64) (.pair (.int .i64) (.int .i64)))) ks,.xl (.pair .str (.pair (.int .i64) (.pair (.int .i64) (.pair (.int .i64) (.pair (.int .i64) (.pair (.int .i64) (.pair (.int .i64) (.int .i64)))))))) gs,.xl (.pair .str (.int .i64)) bs]]=> .req (nmR (gB cs os ks gs bs)) (.ok (.v (.bool (fO cs os ks gs bs))))
 |_=> .no
noncomputable def WW:List LV→T LV:=gW Tryz.prog Tryz.f49.params.toList aaY
theorem al7 (cs:List Cd) (os:List ByteArray) (ks:List Ko) (gs:List Ch) (bs:List Ba):bW Tryz.prog aP (Hu) eY (fun i=>if i=4 then D5.lp else if i=9 then DZ.lp else if i=20 then DY.lp else if i=26 then DX.lp else aC i) Tryz.f49 [.agg [.xl dW cs,.xl .str os,.xl eu ks,.xl dQ gs,.xl eG bs]]=.br (!(inB (List.length cs:Int) (1:Int) (16:Int))) (.ok (.v (.bool false))) (.br (decide ((List.length os:Int)>8)) (.ok (.v (.bool false))) (.br (decide ((List.length ks:Int)>32)) (.ok (.v (.bool false))) (.br (decide ((List.length gs:Int)>16)) (.ok (.v (.bool false))) (.br (decide ((List.length bs:Int)>24)) (.ok (.v (.bool false))) (.req (((List.length cs:Int)≤100∧(List.length os:Int)≤100∧(List.length ks:Int)≤100∧(List.length gs:Int)≤100∧(List.length bs:Int)≤100)∧nmR (gB cs os ks gs bs)) (.br (!(nmB (gB cs os ks gs bs))) (.ok (.v (.bool false))) (.req (avO (⟨false,(0:Int),cs,os,ks,gs,bs⟩:iR)) (.br (ig (aan (⟨false,(0:Int),cs,os,ks,gs,bs⟩:iR)) (.ret)) (.ok (.v (.bool (lQ (⟨false,(0:Int),cs,os,ks,gs,bs⟩:iR)).r))) (.req (avN (⟨(lQ (⟨false,(0:Int),cs,os,ks,gs,bs⟩:iR)).r,(0:Int),cs,os,ks,gs,bs⟩:iQ)) (.br (ig (aam (⟨(lQ (⟨false,(0:Int),cs,os,ks,gs,bs⟩:iR)).r,(0:Int),cs,os,ks,gs,bs⟩:iQ)) (.ret)) (.ok (.v (.bool (qy (⟨(lQ (⟨false,(0:Int),cs,os,ks,gs,bs⟩:iR)).r,(0:Int),cs,os,ks,gs,bs⟩:iQ)).r))) (.req (avM (⟨(qy (⟨(lQ (⟨false,(0:Int),cs,os,ks,gs,bs⟩:iR)).r,(0:Int),cs,os,ks,gs,bs⟩:iQ)).r,(0:Int),cs,os,ks,gs,bs⟩:lm)) (.br (ig (aal (⟨(qy (⟨(lQ (⟨false,(0:Int),cs,os,ks,gs,bs⟩:iR)).r,(0:Int),cs,os,ks,gs,bs⟩:iQ)).r,(0:Int),cs,os,ks,gs,bs⟩:lm)) (.ret)) (.ok (.v (.bool (yY (⟨(qy (⟨(lQ (⟨false,(0:Int),cs,os,ks,gs,bs⟩:iR)).r,(0:Int),cs,os,ks,gs,bs⟩:iQ)).r,(0:Int),cs,os,ks,gs,bs⟩:lm)).r))) (.req (avL (⟨(yY (⟨(qy (⟨(lQ (⟨false,(0:Int),cs,os,ks,gs,bs⟩:iR)).r,(0:Int),cs,os,ks,gs,bs⟩:iQ)).r,(0:Int),cs,os,ks,gs,bs⟩:lm)).r,(0:Int),cs,os,ks,gs,bs⟩:nZ)) (.br (ig (aak (⟨(yY (⟨(qy (⟨(lQ (⟨false,(0:Int),cs,os,ks,gs,bs⟩:iR)).r,(0:Int),cs,os,ks,gs,bs⟩:iQ)).r,(0:Int),cs,os,ks,gs,bs⟩:lm)).r,(0:Int),cs,os,ks,gs,bs⟩:nZ)) (.ret)) (.ok (.v (.bool (YI (⟨(yY (⟨(qy (⟨(lQ (⟨false,(0:Int),cs,os,ks,gs,bs⟩:iR)).r,(0:Int),cs,os,ks,gs,bs⟩:iQ)).r,(0:Int),cs,os,ks,gs,bs⟩:lm)).r,(0:Int),cs,os,ks,gs,bs⟩:nZ)).r))) (.ok (.v (.bool true))))))))))))))))):=by kernel_rfl
theorem aqZ:Valid Tryz.prog aP 49 WW:=aH Tryz.func49 rfl J6 aG (L:=(fun i=>if i=4 then D5.lp else if i=9 then DZ.lp else if i=20 then DY.lp else if i=26 then DX.lp else aC i)) (fun b hb=>by
 rw [show aF _=[Ad,Ii,Ac,Aa] by kernel_rfl] at hb
 simp only [List.mem_cons,List.not_mem_nil,or_false] at hb
 rcases hb with rfl|rfl|rfl|rfl
 ·exact ako
 ·exact akn
 ·exact akm
 ·exact akl) (fun args lv h=>by
 unfold aaY at h
 split at h
 ·simp only [canL,canX]
  rw [al7]
  rename_i cs os ks gs bs
  obtain ⟨hn,rfl⟩:=h
  have bad:¬(1≤cs.length∧cs.length≤16∧os.length≤8∧ks.length≤32∧gs.length≤16∧bs.length≤24)→LV.v (.bool false)=LV.v (.bool (fO cs os ks gs bs)):=fun hd=>congrArg (fun z=>LV.v (.bool z)) (by
   rw [eq_comm,Bool.eq_false_iff]
   intro hx
   exact hd (gm.1 hx).1)
  refine ⟨fun c=>bad (by simp only [Bool.not_eq_true',agY] at c;omega),fun c=>⟨fun c2=>bad (by simp at c2;omega),fun c2=>⟨fun c3=>bad (by simp at c3;omega),fun c3=>⟨fun c4=>bad (by simp at c4;omega),fun c4=>⟨fun c5=>bad (by simp at c5;omega),fun c5=>?_⟩⟩⟩⟩⟩
  have hd:1≤cs.length∧cs.length≤16∧os.length≤8∧ks.length≤32∧gs.length≤16∧bs.length≤24:=by
   simp only [Bool.not_eq_false',dZ,decide_eq_false_iff_not] at c c2 c3 c4 c5
   omega
  rw [adU hd]
  refine ⟨⟨by omega,hn⟩,fun c6=>?_,fun c6=>?_⟩
  ·have c6:nmB (gB cs os ks gs bs)=false:=by simpa using c6
   rw [c6]
   exact rfl
  have c6:nmB (gB cs os ks gs bs)=true:=by simpa using c6
  rw [c6,Bool.true_and]
  refine nD ⟨⟨rfl,by simp only;omega,by simp only;omega,trivial⟩,rfl,rfl⟩ (fun hE0=>?_)
  obtain ⟨s',_,hq⟩:=alc _ hE0.1
  rcases hq with ⟨q1,q2⟩ |⟨q1,q2,j,q3,q4⟩
  rotate_left
  ·rw [q1,q2]
   refine ⟨fun _=>congrArg (fun z=>LV.v (.bool z)) ?_,fun h=>by cases h⟩
   unfold Us
   rw [sU (n:=cs.length) (f:=fun j=>DI j (fP cs j)) j q3 q4]
   rfl
  rw [q1]
  refine ⟨fun h=>(by cases h),fun _=>?_⟩
  have g0:Jr cs.length (fun j=>DI j (fP cs j))=true:=fM.2 q2
  refine nD ⟨⟨rfl,by simp only;omega,by simp only;omega⟩,rfl,rfl⟩ (fun hE1=>?_)
  obtain ⟨s',_,hq⟩:=alb _ hE1.1
  rcases hq with ⟨q1,q2⟩ |⟨q1,q2,j,q3,q4⟩
  rotate_left
  ·rw [q1,q2]
   refine ⟨fun _=>congrArg (fun z=>LV.v (.bool z)) ?_,fun h=>by cases h⟩
   unfold Us
   have hn:(ks.all (koV os.length)&&once (ks.map (·.2.2.2)))=false:=by
    rw [Bool.eq_false_iff];intro hx
    have:=(kE (d:=(emp,0,0,0))).2 hx j q3
    exact Bool.noConfusion (this.symm.trans q4)
   rw [g0,Bool.true_and,←Bool.and_assoc,hn]
   rfl
  rw [q1]
  refine ⟨fun h=>(by cases h),fun _=>?_⟩
  have g1:(ks.all (koV os.length)&&once (ks.map (·.2.2.2)))=true:=(kE (d:=(emp,0,0,0))).1 q2
  refine nD ⟨⟨rfl,by simp only;omega,by simp only;omega,by simp only;omega,by simp only;omega⟩,rfl,rfl⟩ (fun hE2=>?_)
  obtain ⟨s',_,hq⟩:=ala _ hE2.1
  rcases hq with ⟨q1,q2⟩ |⟨q1,q2,j,q3,q4⟩
  rotate_left
  ·rw [q1,q2]
   refine ⟨fun _=>congrArg (fun z=>LV.v (.bool z)) ?_,fun h=>by cases h⟩
   unfold Us
   have hn:gs.all (Fh cs.length os.length)=false:=by
    rw [Bool.eq_false_iff];intro hx
    have:=(jw (d:=(emp,0,0,0,0,0,0,0))).2 hx j q3
    exact Bool.noConfusion (this.symm.trans q4)
   rw [g0,Bool.true_and,←Bool.and_assoc,g1,hn]
   rfl
  rw [q1]
  refine ⟨fun h=>(by cases h),fun _=>?_⟩
  have g2:gs.all (Fh cs.length os.length)=true:=(jw (d:=(emp,0,0,0,0,0,0,0))).1 q2
  have hw:=aK (x:=(List.length gs:Int)-1) (by omega) (by omega)
  refine nD ⟨⟨rfl,by simp only;omega,by simp only;omega,trivial⟩,rfl,rfl⟩ (fun hE3=>?_)
  obtain ⟨s',_,hq⟩:=ak9 _ hE3.1
  rcases hq with ⟨q1,q2⟩ |⟨q1,q2,j,q3,q4⟩
  rotate_left
  ·rw [q1,q2]
   refine ⟨fun _=>congrArg (fun z=>LV.v (.bool z)) ?_,fun h=>by cases h⟩
   unfold Us
   have hn:bs.all (fun b=>inB b.2 0 ((gs.length:Int)-1))=false:=by
    rw [Bool.eq_false_iff];intro hx
    have:=(jw (d:=(emp,0))).2 hx j q3
    have q4:inB (BG bs j).2 0 (IntKind.i64.wrap ((List.length gs:Int)-1))=false:=q4
    rw [hw] at q4
    exact Bool.noConfusion (this.symm.trans q4)
   rw [g0,Bool.true_and,←Bool.and_assoc,g1,g2,hn]
   rfl
  rw [q1]
  refine ⟨fun h=>(by cases h),fun _=>?_⟩
  have g3:bs.all (fun b=>inB b.2 0 ((gs.length:Int)-1))=true:=(jw (d:=(emp,0))).1 (fun j hj=>by
   have:inB (BG bs j).2 0 (IntKind.i64.wrap ((List.length gs:Int)-1))=true:=q2 j hj
   rw [hw] at this
   exact this)
  refine congrArg (fun z=>LV.v (.bool z)) ?_
  unfold Us
  rw [g0,Bool.true_and,←Bool.and_assoc,g1,g2,g3]
  rfl
 ·cases h)
end Go.Proofs.YtlihnbimgclogaaGreatDoor
namespace Go.Proofs.YtlihnbimgclogaaGreatDoor
open Go.Sx
section
variable {lt : Int → Int → Bool}
def EP (lt:Int→Int→Bool):List Int→Int→List Int
 | [],x=>[x]
 |y::q,x=>if lt x y=true then y::EP lt q x else x::y::q
theorem wQ {x:Int}:∀ {q:List Int},(EP lt q x).Perm (x::q)
 | []=>List.Perm.refl _
 |y::q=>by
  unfold EP
  split
  ·exact (List.Perm.cons y wQ).trans (List.Perm.swap x y q)
  ·exact List.Perm.refl _
theorem agW {q:List Int}{x:Int}:(EP lt q x).length=q.length+1:=by rw [wQ.length_eq];rfl
theorem H7:∀ {l acc:List Int},(l.foldl (EP lt) acc).Perm (acc++l)
 | [],acc=>by simp
 |x::l,acc=>by
  rw [List.foldl_cons]
  refine H7.trans ?_
  refine (List.Perm.append_right l wQ).trans ?_
  rw [List.cons_append]
  exact List.perm_middle.symm
def sortB (lt:Int→Int→Bool) (l:List Int):List Int:=(l.foldl (EP lt) []).reverse
theorem UH {l:List Int}:(sortB lt l).Perm l:=by
 unfold sortB
 exact (List.reverse_perm _).trans (by have:=H7 (lt:=lt) (l:=l) (acc:=[]);simpa using this)
def exB (l:List Int) (j:Nat):List Int:=(l.set (j+1) (l.getD j 0)).set j (l.getD (j+1) 0)
def bub (lt:Int→Int→Bool):Nat→List Int→List Int
 |0,l=>l
 |j+1,l=>if lt (l.getD (j+1) 0) (l.getD j 0)=true then bub lt j (exB l j) else l
theorem anY {p post:List Int}{x y:Int}:exB (p++y::x::post) p.length=p++x::y::post:=by
 unfold exB
 have e1:(p++y::x::post).getD p.length 0=y:=by simp [List.getD]
 have e2:(p++y::x::post).getD (p.length+1) 0=x:=by simp [List.getD]
 rw [e1,e2,List.set_append_right _ _ (by omega),List.set_append_right _ _ (by omega)]
 simp
theorem O7 {post:List Int}{x:Int}:∀ {q:List Int},bub lt q.length (q.reverse++x::post)=(EP lt q x).reverse++post
 | []=>by simp [bub,EP]
 | y::q=>by
  have hl:q.length=q.reverse.length:=by simp
  have e1:((y::q).reverse++x::post)=q.reverse++y::x::post:=by simp
  rw [e1,List.length_cons,bub]
  have g1:(q.reverse++y::x::post).getD q.length 0=y:=by rw [hl];simp [List.getD]
  have g2:(q.reverse++y::x::post).getD (q.length+1) 0=x:=by rw [hl];simp [List.getD]
  rw [g1,g2]
  unfold EP
  split
  ·have e2:exB (q.reverse++y::x::post) q.length=q.reverse++x::y::post:=by
    have:=anY (p:=q.reverse) (x:=x) (y:=y) (post:=post)
    rwa [←hl] at this
   rw [e2,O7]
   simp
  ·simp
theorem ah3:∀ {j:Nat}{l:List Int},j<l.length→(bub lt j l).Perm l:=fun {j l} h=>by
 have e:l=(l.take j).reverse.reverse++l[j]::l.drop (j+1):=by rw [List.reverse_reverse,List.getElem_cons_drop,List.take_append_drop]
 have hj:(l.take j).reverse.length=j:=by simp;omega
 have h2:=O7 (lt:=lt) (q:=(l.take j).reverse) (x:=l[j]) (post:=l.drop (j+1))
 rw [hj,←e] at h2
 rw [h2]
 refine (List.Perm.append_right _ ((List.reverse_perm _).trans wQ)).trans ?_
 rw [List.cons_append]
 refine (List.perm_middle.symm.trans ?_)
 refine (List.Perm.append_right _ (List.reverse_perm _)).trans ?_
 rw [List.getElem_cons_drop,List.take_append_drop]
def uq (lt:Int→Int→Bool) (l:List Int) (i:Nat):List Int:=((l.drop i).foldl (EP lt) (l.take i).reverse).reverse
theorem UQ {l:List Int}{i:Nat}(h:i<l.length):uq lt (bub lt i l) (i+1)=uq lt l i:=by
 have e:l=(l.take i).reverse.reverse++l[i]::l.drop (i+1):=by rw [List.reverse_reverse,List.getElem_cons_drop,List.take_append_drop]
 have hi:(l.take i).reverse.length=i:=by simp;omega
 have h2:=O7 (lt:=lt) (q:=(l.take i).reverse) (x:=l[i]) (post:=l.drop (i+1))
 rw [hi,←e] at h2
 have hl:((EP lt (l.take i).reverse l[i]).reverse).length=i+1:=by rw [List.length_reverse,agW,hi]
 unfold uq
 rw [h2,List.drop_append_of_le_length (by omega),List.take_append_of_le_length (by omega),List.drop_of_length_le (by omega),List.take_of_length_le (by omega),List.nil_append,List.reverse_reverse]
 conv=>rhs;rw [←List.getElem_cons_drop h,List.foldl_cons]
theorem acy {l:List Int}:uq lt l 1=sortB lt l:=by
 cases l with
 |nil=>rfl
 |cons x l=>simp [uq,sortB,EP]
theorem acz {l:List Int}{i:Nat}(h:l.length≤i):uq lt l i=l:=by
 unfold uq
 rw [List.drop_of_length_le h,List.take_of_length_le h]
 simp
end
abbrev rE:Ty:=.pair .bool (.pair (.int .i64) (.pair (.int .i64) (.int .i64)))
abbrev Dm:=Bool×Int×Int×Int
def su (l:List Dm) (n:Int):Dm:=l.getD n.toNat (false,0,0,0)
def slk (d:List Dm) (t i:Int):Int:=(su d i).2.2.1-t-(su d i).2.1
def cm (a b:Int):Int:=if a<b then -1 else if a>b then 1 else 0
def orI:List Int→Int
 | []=>0
 |x::l=>if (x !=0)=true then x else orI l
def cmD (d:List Dm) (t a b:Int):Int:=orI [cm (su d a).2.2.2 (su d b).2.2.2,cm (slk d t a) (slk d t b),cm a b]
def ltD (d:List Dm) (t a b:Int):Bool:=decide (cmD d t a b<0)
def yM (d:List Dm) (t:Int):Prop:=(∀x∈d,(-2000000000≤x.2.1∧x.2.1≤2000000000)∧-2000000000≤x.2.2.1∧x.2.2.1≤2000000000)∧-2000000000≤t∧t≤2000000000
theorem ann {d:List Dm}{i:Int}(h0:0≤i) (h1:i<(d.length:Int)):su d i∈d:=by
 unfold su
 have h:i.toNat<d.length:=by omega
 simp [List.getD,h]
theorem aqN {d:List Dm}{t i:Int}(h:yM d t) (h0:0≤i) (h1:i<(d.length:Int)):(-2000000000≤(su d i).2.1∧(su d i).2.1≤2000000000)∧-2000000000≤(su d i).2.2.1∧(su d i).2.2.1≤2000000000:=h.1 _ (ann h0 h1)
def yc (n:Nat):List Int:=(List.range n).map (fun k:Nat=>(k:Int))
def jQ (d:List Dm) (t:Int):List Int:=sortB (ltD d t) (yc d.length)
theorem acw {n:Nat}:yc (n+1)=yc n++[(n:Int)]:=by simp [yc,List.range_succ]
theorem pF {n:Nat}:(yc n).length=n:=by simp [yc]
theorem QI {n:Nat}{x:Int}:x∈yc n↔0≤x∧x<(n:Int):=by
 unfold yc
 rw [List.mem_map]
 constructor
 ·rintro ⟨k,hk,rfl⟩
  rw [List.mem_range] at hk
  omega
 ·exact fun h=>⟨x.toNat,by rw [List.mem_range];omega,by omega⟩
theorem UN {n:Nat}:(yc n).Nodup:=List.Pairwise.map _ (fun a b h=>by omega) List.nodup_range
theorem BR {d:List Dm}{t:Int}:(jQ d t).Perm (yc d.length):=UH
theorem QT {d:List Dm}{t:Int}:(jQ d t).length=d.length:=by rw [BR.length_eq,pF]
theorem aff {d:List Dm}{t x:Int}:x∈jQ d t↔0≤x∧x<(d.length:Int):=BR.mem_iff.trans QI
theorem U9 {d:List Dm}{t:Int}:(jQ d t).Nodup:=BR.nodup_iff.2 UN
end Go.Proofs.YtlihnbimgclogaaGreatDoor
namespace Go.Proofs.YtlihnbimgclogaaGreatDoor
open Go.Sx
theorem OA {mi ma st a k:Int}(hh:lX mi ma st=true) (ha:0≤a) (h0:0≤k) (h1:k<BZ mi ma st):BH mi st k≤a↔k≤Ri mi ma st a:=by
 obtain ⟨g1,g2,g3,g4,g5⟩:=fF.1 hh
 have hn:¬(lX mi ma st=false∨a<0):=by simp [hh];omega
 unfold Ri
 rw [if_neg hn]
 unfold BH
 by_cases e:k=0
 ·subst e
  simp only [if_true]
  split
  ·omega
  ·have:=CJ (x:=a-mi) (st:=st) (by omega) (by omega)
   omega
 ·rw [if_neg e]
  have hp:0≤(k-1)*st:=Int.mul_nonneg (by omega) (by omega)
  split
  ·omega
  ·have:=(Int.le_ediv_iff_mul_le (a:=k-1) (b:=a-mi) (c:=st) (by omega))
   omega
theorem agM {mi ma st a:Int}(hh:lX mi ma st=true):Ri mi ma st a<BZ mi ma st:=by
 have:=Oy hh
 unfold Ri
 split
 ·omega
 ·split<;>omega
theorem VO {mi ma st a:Int}(hh:lX mi ma st=true) (ha:0≤a):0≤Ri mi ma st a:=by
 have:=Oy hh
 obtain ⟨g1,g2,g3,g4,g5⟩:=fF.1 hh
 have hn:¬(lX mi ma st=false∨a<0):=by simp [hh];omega
 unfold Ri
 rw [if_neg hn]
 split
 ·omega
 ·have:=CJ (x:=a-mi) (st:=st) (by omega) (by omega)
  omega
theorem Vb {l:List Int}:once l=true↔l.Nodup:=by
 rw [Gq,List.nodup_iff_pairwise_ne,List.pairwise_iff_getElem]
 constructor
 ·intro h i j hi hj hij e
  exact h j hj (by rw [←e,List.mem_iff_getElem];exact ⟨i,by rw [List.length_take];omega,by simp⟩)
 ·intro h j hj hm
  obtain ⟨i,hi,e⟩:=List.mem_iff_getElem.1 hm
  rw [List.length_take] at hi
  have:l[i]=l[j]:=by simpa using e
  exact h i j (by omega) hj (by omega) this
theorem uY:∀ {r l:List Int},r.Nodup→(∀x∈r,x∈l)→r.length=l.length→l.Nodup∧∀x∈l,x∈r
 | [],l,_,_,h=>by
  have:l=[]:=List.length_eq_zero_iff.1 h.symm
  subst this
  simp
 | x::r,l,hn,hs,h=>by
  obtain ⟨n1,n2⟩:=List.nodup_cons.1 hn
  have hx:=hs x (by simp)
  have hp:=List.perm_cons_erase hx
  have hl:(l.erase x).length=l.length-1:=List.length_erase_of_mem hx
  obtain ⟨i1,i2⟩:=uY (l:=l.erase x) n2 (fun y hy=>by
   have hy2:=hs y (by simp [hy])
   have hne:y≠x:=fun e=>n1 (e▸hy)
   exact (List.mem_erase_of_ne hne).2 hy2) (by rw [hl];simp only [List.length_cons] at h;omega)
  refine ⟨hp.nodup_iff.2 (List.nodup_cons.2 ⟨fun hm=>n1 (i2 x hm),i1⟩),fun y hy=>?_⟩
  by_cases e:y=x
  ·simp [e]
  ·exact List.mem_cons_of_mem _ (i2 y ((List.mem_erase_of_ne e).2 hy))
def aeg (n:Nat):List Int:=(List.range n).map (fun k:Nat=>(k:Int))
theorem QJ {n:Nat}{x:Int}:x∈aeg n↔0≤x∧x<(n:Int):=by
 unfold aeg
 rw [List.mem_map]
 constructor
 ·rintro ⟨k,hk,rfl⟩
  have:=List.mem_range.1 hk
  omega
 ·rintro ⟨h1,h2⟩
  exact ⟨x.toNat,List.mem_range.2 (by omega),by omega⟩
theorem QK {n:Nat}:(aeg n).length=n:=by simp [aeg]
theorem J3 {l:List Int}{n:Nat}:lW l n=true↔l.length=n∧l.Nodup∧∀i∈l,0≤i∧i<(n:Int):=by
 unfold lW
 simp only [Bool.and_eq_true,decide_eq_true_eq,List.all_eq_true,y8,Vb]
 constructor
 ·rintro ⟨h1,h2,h3⟩;exact ⟨by omega,h3,h2⟩
 ·rintro ⟨h1,h2,h3⟩;exact ⟨by omega,h3,h2⟩
theorem acV {l:List Int}{n:Nat}(h:lW l n=true) {i:Int}(h0:0≤i) (h1:i<(n:Int)):i∈l:=by
 obtain ⟨g1,g2,g3⟩:=J3.1 h
 exact (uY g2 (l:=aeg n) (fun x hx=>QJ.2 (g3 x hx)) (by rw [QK];exact g1)).2 i (QJ.2 ⟨h0,h1⟩)
def smM (al am ms:List Int):Int:=(ms.map (fun m=>mx (gi al m) (gi am m))).sum
def rowB (al am:List Int) (r:Rw):Bool:=r.2.all (fun m=>gi am m==0) ||decide (smM al am r.2≤r.1)
def Y1 (rows:List Rw) (al am:List Int):Bool:=rows.all (rowB al am)
theorem yS {al am ms:List Int}{m:Int}:smM al am (m::ms)=mx (gi al m) (gi am m)+smM al am ms:=by simp [smM]
end Go.Proofs.YtlihnbimgclogaaGreatDoor
namespace Go.Proofs.YtlihnbimgclogaaGreatDoor
open Go.Sx
def azo (gs:List Ch) (i k:Int):Int:=amA (bC gs i).2.2.2.1 (bC gs i).2.2.2.2.1 (bC gs i).2.2.2.2.2.1 k
def azn (gs:List Ch) (i k:Int):Int:=amE (bC gs i).2.2.2.1 (bC gs i).2.2.2.2.1 (bC gs i).2.2.2.2.2.1 k
structure ajj (gs:List Ch) (out:List Int):Prop where
 len:out.length=gs.length
 bd:∀a∈out,0≤a∧a≤1000000
theorem ajj.put {gs:List Ch}{out:List Int}(h:ajj gs out) {k:Nat}{v:Int}(hv:0≤v∧v≤1000000):ajj gs (out.set k v):=
 ⟨by rw [List.length_set];exact h.len,fun a ha=>by
  rcases List.mem_or_eq_of_mem_set ha with h2|h2
  ·exact h.bd a h2
  ·rw [h2];exact hv⟩
end Go.Proofs.YtlihnbimgclogaaGreatDoor
namespace Go.Proofs.YtlihnbimgclogaaGreatDoor
open Go.Sx
end Go.Proofs.YtlihnbimgclogaaGreatDoor
namespace Go.Proofs.YtlihnbimgclogaaGreatDoor
open Go.Sx
section
variable {P : List Int → Bool} {tp : Int → Int}
def VY (P:List Int→Bool) (tp:Int→Int) (L:Int) (lv:List Int) (i:Int):List Int:=
 if gi lv i=L-1∧L≤tp i then (if P (lv.set i.toNat L)=true then lv.set i.toNat L else lv) else lv
def gsw (P:List Int→Bool) (tp:Int→Int) (L:Int) (lv l:List Int):List Int:=l.foldl (VY P tp L) lv
def OI (P:List Int→Bool) (tp:Int→Int) (od:List Int):Nat→Int→List Int→List Int
 |0,_,lv=>lv
 |f+1,L,lv=>OI P tp od f (L+1) (gsw P tp L lv od)
theorem pO {l:List Int}{i j v:Int}(h0:0≤i) (h1:i<(l.length:Int)) (hj:0≤j):gi (l.set i.toNat v) j=if j=i then v else gi l j:=by
 unfold gi
 rw [pU]
 by_cases e:j=i
 ·subst e
  rw [if_pos ⟨rfl,by omega⟩,if_pos rfl]
 ·rw [if_neg (by omega),if_neg e]
def UO (n:Nat) (l:List Int):Prop:=∀i∈l,0≤i∧i<(n:Int)
theorem OG {L i:Int}{lv:List Int}:(VY P tp L lv i).length=lv.length:=by
 unfold VY
 split
 ·split
  ·rw [List.length_set]
  ·rfl
 ·rfl
theorem auA {L i j:Int}{lv:List Int}(h:0≤i∧i<(lv.length:Int)) (hj:0≤j):gi lv j≤gi (VY P tp L lv i) j:=by
 unfold VY
 split
 ·rename_i hc
  split
  ·rw [pO h.1 h.2 hj]
   split
   ·rename_i e;subst e;omega
   ·exact Int.le_refl _
  ·exact Int.le_refl _
 ·exact Int.le_refl _
theorem auB {L i j:Int}{lv:List Int}(h:0≤i∧i<(lv.length:Int)) (hj:0≤j):gi (VY P tp L lv i) j≤gi lv j∨(gi (VY P tp L lv i) j=L∧L≤tp j):=by
 unfold VY
 split
 ·rename_i hc
  split
  ·rw [pO h.1 h.2 hj]
   split
   ·rename_i e;subst e;exact .inr ⟨rfl,hc.2⟩
   ·exact .inl (Int.le_refl _)
  ·exact .inl (Int.le_refl _)
 ·exact .inl (Int.le_refl _)
theorem zA {L i:Int}{lv l:List Int}:gsw P tp L lv (i::l)=gsw P tp L (VY P tp L lv i) l:=rfl
theorem E8 {L:Int}:∀ {l lv:List Int},(gsw P tp L lv l).length=lv.length
 | [],_=>rfl
 |i::l,lv=>by rw [zA,E8 (l:=l),OG]
theorem ahf {L j:Int}(hj:0≤j):∀ {l lv:List Int},UO lv.length l→gi lv j≤gi (gsw P tp L lv l) j
 | [],_,_=>Int.le_refl _
 |i::l,lv,h=>by
  rw [zA]
  have h1:=auA (P:=P) (tp:=tp) (L:=L) (h i (by simp)) hj
  have h2:=ahf (L:=L) hj (l:=l) (lv:=VY P tp L lv i) (by rw [OG];exact fun x hx=>h x (by simp [hx]))
  omega
theorem VX {L j:Int}(hj:0≤j):∀ {l lv:List Int},UO lv.length l→gi (gsw P tp L lv l) j≤gi lv j∨(gi (gsw P tp L lv l) j≤L∧gi (gsw P tp L lv l) j≤tp j)
 | [],_,_=> .inl (Int.le_refl _)
 |i::l,lv,h=>by
  rw [zA]
  have h1:=auB (P:=P) (tp:=tp) (L:=L) (h i (by simp)) hj
  have h2:=VX (L:=L) hj (l:=l) (lv:=VY P tp L lv i) (by rw [OG];exact fun x hx=>h x (by simp [hx]))
  omega
theorem Zv {od:List Int}:∀ {f:Nat}{L:Int}{lv:List Int},(OI P tp od f L lv).length=lv.length
 |0,_,_=>rfl
 |f+1,L,lv=>by rw [OI,Zv,E8]
theorem ahg {od:List Int}{j:Int}(hj:0≤j):∀ {f:Nat}{L:Int}{lv:List Int},UO lv.length od→gi lv j≤gi (OI P tp od f L lv) j
 |0,_,_,_=>Int.le_refl _
 |f+1,L,lv,h=>by
  rw [OI]
  have h1:=ahf (P:=P) (tp:=tp) (L:=L) hj h
  have h2:=ahg (f:=f) (L:=L+1) (lv:=gsw P tp L lv od) hj (by rw [E8];exact h)
  omega
theorem ahh {od:List Int}{j:Int}(hj:0≤j):∀ {f:Nat}{L:Int}{lv:List Int},UO lv.length od→gi (OI P tp od f L lv) j≤gi lv j∨(gi (OI P tp od f L lv) j≤L+f-1∧gi (OI P tp od f L lv) j≤tp j)
 |0,_,_,_=> .inl (Int.le_refl _)
 |f+1,L,lv,h=>by
  rw [OI]
  have h1:=VX (P:=P) (tp:=tp) (L:=L) hj h
  have h2:=ahh (f:=f) (L:=L+1) (lv:=gsw P tp L lv od) hj (by rw [E8];exact h)
  omega
theorem Rq {od:List Int}:∀ {f:Nat}{L:Int}{lv:List Int},OI P tp od (f+1) L lv=gsw P tp (L+f) (OI P tp od f L lv) od
 |0,L,lv=>by simp [OI]
 |f+1,L,lv=>by
  rw [OI,Rq (f:=f) (L:=L+1),OI,show L+1+(f:Int)=L+((f+1:Nat):Int) by omega]
theorem Cf {L:Int}:∀ {l lv:List Int},(∀i∈l,gi lv i≠L-1∨tp i<L)→gsw P tp L lv l=lv
 | [],_,_=>rfl
 | i::l,lv,h=>by
  have e:VY P tp L lv i=lv:=by
   unfold VY
   rw [if_neg (by have:=h i (by simp);omega)]
  rw [zA,e,Cf (fun j hj=>h j (by simp [hj]))]
theorem J4 {od:List Int}:∀ {f:Nat}{L:Int}{lv:List Int},(∀i∈od,gi lv i<L-1)→OI P tp od f L lv=lv
 |0,_,_,_=>rfl
 |f+1,L,lv,h=>by
  rw [OI,Cf (fun i hi=> .inl (by have:=h i hi;omega)),J4 (fun i hi=>by have:=h i hi;omega)]
end
end Go.Proofs.YtlihnbimgclogaaGreatDoor
namespace Go.Proofs.YtlihnbimgclogaaGreatDoor
open Go.Sx
structure vP (rows:List Rw) (gs:List Ch) (al mo od:List Int):Prop where
 mem:∀r∈rows,r.2.Nodup∧∀m∈r.2,0≤m∧m<(gs.length:Int)
 has:∀i:Int,0≤i→i<(gs.length:Int)→lX (bC gs i).2.2.2.1 (bC gs i).2.2.2.2.1 (bC gs i).2.2.2.2.2.1=true
 gl:gs.length≤16
 all:al.length=gs.length
 mol:mo.length=gs.length
 al:∀a∈al,0≤a∧a≤80
 mo:∀a∈mo,0≤a∧a≤80
 nd:od.Nodup
 ord:UO gs.length od
 cov:∀i:Int,0≤i→i<(gs.length:Int)→i∈od
theorem aoJ {cs:List Cd}{os:List ByteArray}{ks:List Ko}{gs:List Ch}{bs:List Ba}{al mo od:List Int}(h:qU cs os ks gs bs al mo od=true):vP (jC cs gs cs.length) gs al mo od:=by
 obtain ⟨hv,h1,h2,h3,h4,h5⟩:=iK.1 h
 have hl:=(gm.1 hv).1
 obtain ⟨o1,o2,o3⟩:=J3.1 h5
 refine ⟨fun r hr=>⟨(row_mem hr).1,(row_mem hr).2.1⟩,fun i h0 h1=>?_,by omega,h1,h2,fun a ha=>nT.1 (List.all_eq_true.1 h3 a ha),fun a ha=>nT.1 (List.all_eq_true.1 h4 a ha),o2,o3,fun i h0 h1=>acV h5 h0 h1⟩
 have:=rH hv h0 h1
 unfold Fh chW at this
 simp only [Bool.and_eq_true,dZ] at this
 exact fF.2 (by omega)
def PP (rows:List Rw) (gs:List Ch) (al lv:List Int):Bool:=Y1 rows al (oI gs lv)
def tpO (gs:List Ch) (mo:List Int) (i:Int):Int:=xJ gs i (gi mo i)
theorem SQ {gs:List Ch}{lv:List Int}:(oI gs lv).length=gs.length:=by simp [oI]
theorem tN {gs:List Ch}{lv:List Int}{i:Int}(h0:0≤i) (h1:i<(gs.length:Int)):gi (oI gs lv) i=xg gs i (gi lv i):=by
 rw [oN (by rw [SQ];omega)]
 simp only [oI,List.getElem_map,List.getElem_range]
 rw [Int.toNat_of_nonneg h0]
 rfl
theorem ah8 {gs:List Ch}{i:Int}:xg gs i 0=0:=by simp [xg,BH]
theorem SV {gs:List Ch}{i a b:Int}(hh:lX (bC gs i).2.2.2.1 (bC gs i).2.2.2.2.1 (bC gs i).2.2.2.2.2.1=true) (h0:0≤a) (h1:a≤b):xg gs i a≤xg gs i b:=by
 obtain ⟨g1,g2,g3,g4,g5⟩:=fF.1 hh
 exact SS ⟨g1,g4⟩ h0 h1
theorem ah7 {gs:List Ch}{i a b:Int}(hh:lX (bC gs i).2.2.2.1 (bC gs i).2.2.2.2.1 (bC gs i).2.2.2.2.2.1=true) (h0:0≤a) (h1:a<b):xg gs i a<xg gs i b:=by
 obtain ⟨g1,g2,g3,g4,g5⟩:=fF.1 hh
 have h2:=SV hh (show 0≤a+1 by omega) (show a+1≤b by omega)
 have h3:xg gs i a<xg gs i (a+1):=by
  unfold xg BH
  rw [if_neg (show ¬a+1=0 by omega)]
  split
  ·rename_i e;subst e;simp;omega
  ·have:(a+1-1)*(bC gs i).2.2.2.2.2.1=(a-1)*(bC gs i).2.2.2.2.2.1+(bC gs i).2.2.2.2.2.1:=by
    rw [show a+1-1=(a-1)+1 by omega,Int.add_mul,Int.one_mul]
   omega
 omega
theorem ah6 {gs:List Ch}{i a:Int}(hh:lX (bC gs i).2.2.2.1 (bC gs i).2.2.2.2.1 (bC gs i).2.2.2.2.2.1=true) (h0:0≤a):0≤xg gs i a:=by
 have:=SV hh (Int.le_refl 0) h0
 rw [ah8] at this
 exact this
theorem wu {al am bm:List Int}:∀ {ms:List Int},(∀m∈ms,gi am m=gi bm m)→smM al am ms=smM al bm ms
 | [],_=>rfl
 |m::ms,h=>by rw [yS,yS,wu (ms:=ms) (fun x hx=>h x (by simp [hx])),h m (by simp)]
theorem YD {al am bm:List Int}{i:Int}:∀ {ms:List Int},ms.Nodup→i∈ms→(∀m∈ms,m≠i→gi am m=gi bm m)→smM al bm ms=smM al am ms+(mx (gi al i) (gi bm i)-mx (gi al i) (gi am i))
 | [],_,h,_=>by cases h
 | m::ms,hn,hi,h=>by
  obtain ⟨n1,n2⟩:=List.nodup_cons.1 hn
  rw [yS,yS]
  by_cases e:m=i
  ·subst e
   rw [wu (am:=am) (bm:=bm) (fun x hx=>h x (by simp [hx]) (fun e=>n1 (e▸hx)))]
   omega
  ·have hi2:i∈ms:=by
    rcases List.mem_cons.1 hi with h|h
    ·exact absurd h.symm e
    ·exact h
   rw [YD n2 hi2 (fun x hx=>h x (by simp [hx])),h m (by simp) e]
   omega
theorem UL {al am bm:List Int}{r:Rw}(h:∀m∈r.2,gi am m=gi bm m):rowB al am r=rowB al bm r:=by
 unfold rowB
 rw [wu h]
 congr 1
 rw [Bool.eq_iff_iff,List.all_eq_true,List.all_eq_true]
 constructor
 ·intro g m hm;rw [←h m hm];exact g m hm
 ·intro g m hm;rw [h m hm];exact g m hm
structure Inv (rows:List Rw) (gs:List Ch) (al sm lv:List Int):Prop where
 sl:sm.length=rows.length
 sm:∀k:Nat,k<rows.length→sm.getD k 0=smM al (oI gs lv) (qK rows k).2
 ll:lv.length=gs.length
 nn:∀j,0≤j→0≤gi lv j
 pp:PP rows gs al lv=true
theorem Fb {rows:List Rw}{k:Int}(h0:0≤k) (h1:k<(rows.length:Int)):qK rows k∈rows:=by
 rw [Cj (by omega)];exact List.getElem_mem _
theorem Ph {rows:List Rw}{gs:List Ch}{al mo od lv:List Int}(H:vP rows gs al mo od) {i L:Int}(hl:lv.length=gs.length) (h0:0≤i) (h1:i<(gs.length:Int)) {r:Rw}(hr:r∈rows):
  (∀m∈r.2,m≠i→gi (oI gs lv) m=gi (oI gs (lv.set i.toNat L)) m)∧gi (oI gs (lv.set i.toNat L)) i=xg gs i L:=by
 refine ⟨fun m hm e=>?_,?_⟩
 ·obtain ⟨m0,m1⟩:=(H.mem r hr).2 m hm
  rw [tN m0 m1,tN m0 m1,pO h0 (by omega) m0,if_neg e]
 ·rw [tN h0 h1,pO h0 (by omega) h0,if_pos rfl]
theorem adR {rows:List Rw}{gs:List Ch}{al mo od lv:List Int}(H:vP rows gs al mo od) {i L:Int}(hl:lv.length=gs.length) (h0:0≤i) (h1:i<(gs.length:Int)) {r:Rw}(hr:r∈rows) (hc:gi lv i=L-1):
  smM al (oI gs (lv.set i.toNat L)) r.2=smM al (oI gs lv) r.2+(if i∈r.2 then JU gs al i L else 0):=by
 obtain ⟨p1,p2⟩:=Ph (L:=L) H hl h0 h1 hr
 split
 ·rename_i hi
  rw [YD (am:=oI gs lv) (H.mem r hr).1 hi p1,p2,tN h0 h1,hc]
  rfl
 ·rename_i hi
  rw [←wu (am:=oI gs lv) (fun m hm=>p1 m hm (fun e=>hi (e▸hm)))]
  omega
theorem anr {rows:List Rw}{gs:List Ch}{al mo od sm lv:List Int}(H:vP rows gs al mo od) (hI:Inv rows gs al sm lv) {i L:Int}(h0:0≤i) (h1:i<(gs.length:Int)) (hL:1≤L) (hc:gi lv i=L-1):
  ((OL rows).getD i.toNat []).all (zJ rows sm (JU gs al i L))=PP rows gs al (lv.set i.toNat L):=by
 have hg:=H.gl
 rw [XG (fun r hr=>⟨(H.mem r hr).1,fun m hm=>((H.mem r hr).2 m hm).1⟩) (by omega),Bool.eq_iff_iff,List.all_eq_true]
 unfold PP Y1
 rw [List.all_eq_true]
 have hpp:=hI.pp
 unfold PP Y1 at hpp
 rw [List.all_eq_true] at hpp
 have hpos:1≤xg gs i L:=by
  have:=ah7 (H.has i h0 h1) (Int.le_refl 0) (show 0<L by omega)
  rw [ah8] at this
  omega
 have hfit:∀k:Int,0≤k→k<(rows.length:Int)→i∈(qK rows k).2→(zJ rows sm (JU gs al i L) k=rowB al (oI gs (lv.set i.toNat L)) (qK rows k)):=fun k k0 k1 hk=>by
  have hr:=Fb k0 k1
  have hs:=hI.sm k.toNat (by omega)
  rw [Int.toNat_of_nonneg k0] at hs
  have hp:=adR (L:=L) H hI.ll h0 h1 hr hc
  rw [if_pos hk] at hp
  have hz:(qK rows k).2.all (fun m=>gi (oI gs (lv.set i.toNat L)) m==0)=false:=by
   rw [Bool.eq_false_iff]
   intro hz
   have:=List.all_eq_true.1 hz i hk
   rw [(Ph (L:=L) H hI.ll h0 h1 hr).2,beq_iff_eq] at this
   omega
  unfold zJ rowB
  rw [hz,Bool.false_or,hp,hs]
 constructor
 ·intro h r hr
  obtain ⟨k,hk,rfl⟩:=List.mem_iff_getElem.1 hr
  have ek:qK rows (k:Int)=rows[k]:=Cj (by simpa using hk)
  by_cases hi:i∈rows[k].2
  ·have:=h (k:Int) (sV.2 ⟨by omega,by omega,by
    rw [Int.sub_zero,ek,Int.toNat_of_nonneg h0]
    simpa using hi⟩)
   rw [hfit k (by omega) (by omega) (by rw [ek];exact hi),ek] at this
   exact this
  ·rw [←UL (am:=oI gs lv) (fun m hm=>(Ph (L:=L) H hI.ll h0 h1 hr).1 m hm (fun e=>hi (e▸hm)))]
   exact hpp _ hr
 ·intro h x hx
  obtain ⟨x0,x1,x2⟩:=sV.1 hx
  rw [Int.sub_zero,Int.toNat_of_nonneg h0] at x2
  rw [hfit x x0 (by omega) (by simpa using x2)]
  exact h _ (Fb x0 (by omega))
theorem alf {rows:List Rw}{gs:List Ch}{al mo od sm lv:List Int}{b:Bool}(H:vP rows gs al mo od) (hI:Inv rows gs al sm lv) {i L:Int}(h0:0≤i) (h1:i<(gs.length:Int)) (hL:1≤L):
  (BP (OL rows) rows gs al mo L (sm,lv,b) i).2.1=VY (PP rows gs al) (tpO gs mo) L lv i∧Inv rows gs al (BP (OL rows) rows gs al mo L (sm,lv,b) i).1 (BP (OL rows) rows gs al mo L (sm,lv,b) i).2.1∧((BP (OL rows) rows gs al mo L (sm,lv,b) i).2.2=false→b=false∧(BP (OL rows) rows gs al mo L (sm,lv,b) i).2.1=lv):=by
 unfold BP VY
 simp only
 by_cases hc:gi lv i=L-1∧L≤tpO gs mo i
 ·have hf:=anr H hI h0 h1 hL hc.1
  rw [if_pos (show lv.getD i.toNat 0=L-1∧L≤xJ gs i (gi mo i) from hc),if_pos hc,hf]
  by_cases hp:PP rows gs al (lv.set i.toNat L)=true
  ·rw [if_pos hp,if_pos hp]
   have hg:=H.gl
   refine ⟨rfl,⟨by rw [qP];exact hI.sl,fun k hk=>?_,by rw [List.length_set];exact hI.ll,fun j hj=>?_,hp⟩,fun h=>by cases h⟩
   ·have hr:qK rows (k:Int)∈rows:=Fb (by omega) (by omega)
    simp only
    rw [XG (fun r hr=>⟨(H.mem r hr).1,fun m hm=>((H.mem r hr).2 m hm).1⟩) (by omega),Iq wM (fun r hr=>(sV.1 hr).1) (by rw [hI.sl];exact hk),hI.sm k hk,adR (L:=L) H hI.ll h0 h1 hr hc.1]
    have:(k:Int)∈ofF 0 rows (i.toNat:Int)↔i∈(qK rows (k:Int)).2:=by
     rw [sV,Int.sub_zero,Int.toNat_of_nonneg h0]
     simp only [List.contains_iff_mem]
     constructor
     ·exact fun h=>h.2.2
     ·exact fun h=>⟨by omega,by omega,h⟩
    by_cases hm:i∈(qK rows (k:Int)).2
    ·rw [if_pos (this.2 hm),if_pos hm]
    ·rw [if_neg (fun h=>hm (this.1 h)),if_neg hm]
   ·simp only
    rw [pO h0 (by rw [hI.ll];exact h1) hj]
    split
    ·omega
    ·exact hI.nn j hj
  ·rw [if_neg hp,if_neg hp]
   exact ⟨rfl,hI,fun h=>⟨h,rfl⟩⟩
 ·rw [if_neg (show ¬(lv.getD i.toNat 0=L-1∧L≤xJ gs i (gi mo i)) from hc),if_neg hc]
  exact ⟨rfl,hI,fun h=>⟨h,rfl⟩⟩
theorem Yz {rows:List Rw}{gs:List Ch}{al mo od:List Int}(H:vP rows gs al mo od) {L:Int}(hL:1≤L):∀ {l sm lv:List Int}{b:Bool},UO gs.length l→Inv rows gs al sm lv→
  (swp (OL rows) rows gs al mo L (sm,lv,b) l).2.1=gsw (PP rows gs al) (tpO gs mo) L lv l∧Inv rows gs al (swp (OL rows) rows gs al mo L (sm,lv,b) l).1 (swp (OL rows) rows gs al mo L (sm,lv,b) l).2.1∧((swp (OL rows) rows gs al mo L (sm,lv,b) l).2.2=false→b=false∧(swp (OL rows) rows gs al mo L (sm,lv,b) l).2.1=lv)
 | [],sm,lv,b,_,hI=>⟨rfl,hI,fun h=>⟨h,rfl⟩⟩
 |i::l,sm,lv,b,hr,hI=>by
  obtain ⟨i0,i1⟩:=hr i (by simp)
  obtain ⟨r1,r2,r3⟩:=alf (b:=b) H hI i0 i1 hL
  obtain ⟨s1,s2,s3⟩:=Yz H hL (l:=l) (b:=(BP (OL rows) rows gs al mo L (sm,lv,b) i).2.2) (fun x hx=>hr x (by simp [hx])) r2
  refine ⟨s1.trans (by rw [r1];rfl),s2,fun h=>?_⟩
  obtain ⟨t1,t2⟩:=s3 h
  obtain ⟨t3,t4⟩:=r3 t1
  exact ⟨t3,t2.trans t4⟩
theorem YE {rows:List Rw}{gs:List Ch}{al mo od:List Int}(H:vP rows gs al mo od):∀ {f:Nat}{L:Int}{sm lv:List Int},1≤L→Inv rows gs al sm lv→(∀i∈od,gi lv i≤L-1)→shl (OL rows) rows gs al mo od f L sm lv=OI (PP rows gs al) (tpO gs mo) od f L lv
 |0,_,_,_,_,_,_=>rfl
 | f+1,L,sm,lv,hL,hI,hb=>by
  obtain ⟨s1,s2,s3⟩:=Yz (b:=false) H hL H.ord hI
  rw [shl,OI]
  split
  ·rw [YE H (by omega) s2 (fun i hi=>by
    rw [s1]
    have h1:=VX (P:=PP rows gs al) (tp:=tpO gs mo) (L:=L) (H.ord i hi).1 (l:=od) (lv:=lv) (by rw [hI.ll];exact H.ord)
    have h2:=hb i hi
    omega),s1]
  ·rename_i hc
   have hc:(swp (OL rows) rows gs al mo L (sm,lv,false) od).2.2=false:=by simpa using hc
   have e:=(s3 hc).2
   rw [←s1,e,J4 (fun i hi=>by have:=hb i hi;omega)]
theorem vF {n:Nat}{j:Int}:gi (List.replicate n 0) j=0:=by
 unfold gi
 simp only [List.getD,List.getElem?_replicate]
 split<;>rfl
theorem ayl {rows:List Rw}{gs:List Ch}{al mo od:List Int}(H:vP rows gs al mo od):Inv rows gs al (SM al rows) (List.replicate gs.length 0):=by
 have hz:∀r∈rows,∀m∈r.2,gi (oI gs (List.replicate gs.length 0)) m=0:=fun r hr m hm=>by
  obtain ⟨m0,m1⟩:=(H.mem r hr).2 m hm
  rw [tN m0 m1,vF,ah8]
 refine ⟨CW,fun k hk=>?_,List.length_replicate,fun j _=>by rw [vF];omega,?_⟩
 ·rw [aiq hk]
  have hr:qK rows (k:Int)∈rows:=Fb (by omega) (by omega)
  unfold smA smM
  congr 1
  refine List.map_congr_left (fun m hm=>?_)
  obtain ⟨m0,m1⟩:=(H.mem _ hr).2 m hm
  rw [hz _ hr m hm]
  have:=H.al _ (pR m0 (by rw [H.all];exact m1))
  unfold mx
  rw [if_neg (by omega)]
 ·unfold PP Y1
  rw [List.all_eq_true]
  intro r hr
  unfold rowB
  rw [Bool.or_eq_true,List.all_eq_true]
  exact .inl (fun m hm=>by rw [hz r hr m hm];rfl)
def lvF (rows:List Rw) (gs:List Ch) (al mo od:List Int):List Int:=OI (PP rows gs al) (tpO gs mo) od 80 1 (List.replicate gs.length 0)
theorem UE {rows:List Rw}{gs:List Ch}{al mo od:List Int}(H:vP rows gs al mo od) {i:Int}(h0:0≤i) (h1:i<(gs.length:Int)):0≤tpO gs mo i∧tpO gs mo i≤80∧tpO gs mo i<BZ (bC gs i).2.2.2.1 (bC gs i).2.2.2.2.1 (bC gs i).2.2.2.2.2.1:=
 ⟨VO (H.has i h0 h1) (H.mo _ (pR h0 (by rw [H.mol];exact h1))).1,VP,agM (H.has i h0 h1)⟩
theorem arV {rows:List Rw}{gs:List Ch}{al mo od:List Int}(H:vP rows gs al mo od):shV rows gs al mo od=lvF rows gs al mo od:=by
 unfold shV lvF
 rw [H.all,YE H (by omega) (ayl H) (fun i _=>by rw [vF];omega),Rq,Cf (fun i hi=> .inr ?_)]
 have:=UE H (H.ord i hi).1 (H.ord i hi).2
 omega
end Go.Proofs.YtlihnbimgclogaaGreatDoor
namespace Go.Proofs.YtlihnbimgclogaaGreatDoor
open Go.Sx
section
variable {rows : List Rw} {gs : List Ch} {al mo od : List Int}
theorem am1:(lvF rows gs al mo od).length=gs.length:=by
 unfold lvF
 rw [Zv,List.length_replicate]
theorem Y2 (H:vP rows gs al mo od):UO (List.replicate gs.length (0:Int)).length od:=by rw [List.length_replicate];exact H.ord
theorem auf (H:vP rows gs al mo od) {j:Int}(hj:0≤j):0≤gi (lvF rows gs al mo od) j:=by
 have:=ahg (P:=PP rows gs al) (tp:=tpO gs mo) (f:=80) (L:=1) hj (Y2 H)
 rw [vF] at this
 exact this
theorem agG (H:vP rows gs al mo od) {j:Int}(h0:0≤j) (h1:j<(gs.length:Int)):gi (lvF rows gs al mo od) j≤tpO gs mo j:=by
 have h2:=ahh (P:=PP rows gs al) (tp:=tpO gs mo) (f:=80) (L:=1) h0 (Y2 H)
 rw [vF] at h2
 have h3:=UE H h0 h1
 unfold lvF
 omega
theorem ana {i k:Int}(hh:lX (bC gs i).2.2.2.1 (bC gs i).2.2.2.2.1 (bC gs i).2.2.2.2.2.1=true) (h0:0≤k) (h1:k<BZ (bC gs i).2.2.2.1 (bC gs i).2.2.2.2.1 (bC gs i).2.2.2.2.2.1):xJ gs i (xg gs i k)=k:=by
 have h2:=ah6 hh h0
 have h3:=(OA hh h2 h0 h1).1 (Int.le_refl _)
 have h4:=agM (a:=xg gs i k) hh
 have h5:=(OA hh h2 (k:=Ri (bC gs i).2.2.2.1 (bC gs i).2.2.2.2.1 (bC gs i).2.2.2.2.2.1 (xg gs i k)) (by omega) h4).2 (Int.le_refl _)
 by_cases e:k<Ri (bC gs i).2.2.2.1 (bC gs i).2.2.2.2.1 (bC gs i).2.2.2.2.2.1 (xg gs i k)
 ·have:=ah7 hh h0 e
  have h5:xg gs i (Ri (bC gs i).2.2.2.1 (bC gs i).2.2.2.2.1 (bC gs i).2.2.2.2.2.1 (xg gs i k))≤xg gs i k:=h5
  omega
 ·unfold xJ
  omega
end
theorem aol {mi ma st k:Int}(hh:lX mi ma st=true) (_:0≤k) (h1:k<BZ mi ma st):BH mi st k≤ma:=by
 obtain ⟨g1,g2,g3,g4,g5⟩:=fF.1 hh
 unfold BH
 split
 ·omega
 ·unfold BZ at h1
  rw [if_pos hh] at h1
  have h2:(k-1)≤(ma-mi) / st:=by omega
  have:=(Int.le_ediv_iff_mul_le (a:=k-1) (b:=ma-mi) (c:=st) (by omega)).1 h2
  omega
theorem avq {mi ma st k:Int}(h0:0≤k) (h1:k<BZ mi ma st):amA mi ma st k=BH mi st k∧amE mi ma st k=0:=by
 unfold amA amE
 rw [if_neg (by omega),if_neg (by omega)]
 exact ⟨rfl,rfl⟩
end Go.Proofs.YtlihnbimgclogaaGreatDoor
namespace Go.Proofs.YtlihnbimgclogaaGreatDoor
open Go.Sx
section
variable {rows : List Rw} {gs : List Ch} {al mo od lv : List Int}
def lvR (gs:List Ch) (lv:List Int):Prop:=lv.length=gs.length∧∀j,0≤j→j<(gs.length:Int)→0≤gi lv j∧gi lv j<BZ (bC gs j).2.2.2.1 (bC gs j).2.2.2.2.1 (bC gs j).2.2.2.2.2.1
theorem agH (H:vP rows gs al mo od):lvR gs (lvF rows gs al mo od):=⟨am1,fun j h0 h1=>⟨auf H h0,by
 have:=agG H h0 h1
 have:=UE H h0 h1
 omega⟩⟩
theorem aom (H:vP rows gs al mo od) {j k:Int}(h0:0≤j) (h1:j<(gs.length:Int)) (k0:0≤k) (k1:k<BZ (bC gs j).2.2.2.1 (bC gs j).2.2.2.2.1 (bC gs j).2.2.2.2.2.1):(0≤xg gs j k∧xg gs j k≤80)∧azn gs j k=0∧azo gs j k=xg gs j k∧xJ gs j (xg gs j k)=k:=by
 have hh:=H.has j h0 h1
 obtain ⟨g1,g2,g3,g4,g5⟩:=fF.1 hh
 have h2:=aol hh k0 k1
 obtain ⟨e1,e2⟩:=avq k0 k1
 refine ⟨⟨ah6 hh k0,?_⟩,e2,e1,ana hh k0 k1⟩
 unfold xg
 omega
theorem avp (H:vP rows gs al mo od) (R:lvR gs lv) {j:Int}(h0:0≤j) (h1:j<(gs.length:Int)):xJ gs j (gi (oI gs lv) j)=gi lv j∧azn gs j (gi lv j)=0∧azo gs j (gi lv j)=gi (oI gs lv) j∧0≤gi (oI gs lv) j∧gi (oI gs lv) j≤80:=by
 obtain ⟨r0,r1⟩:=R.2 j h0 h1
 obtain ⟨a1,a2,a3,a4⟩:=aom H h0 h1 r0 r1
 rw [tN h0 h1]
 exact ⟨a4,a2,a3,a1⟩
theorem aw5 (H:vP rows gs al mo od) {j k:Int}(h0:0≤j) (h1:j<(gs.length:Int)) (k0:0≤k) (k1:k<BZ (bC gs j).2.2.2.1 (bC gs j).2.2.2.2.1 (bC gs j).2.2.2.2.2.1):xg gs j k≤gi mo j↔k≤tpO gs mo j:=
 OA (H.has j h0 h1) (H.mo _ (pR h0 (by rw [H.mol];exact h1))).1 k0 k1
theorem Ht {a b:List Int}(hl:a.length=b.length) (h:∀j:Int,0≤j→j<(b.length:Int)→gi a j=gi b j):a=b:=List.ext_getElem hl fun k h1 h2=>by
 have:=h (k:Int) (by omega) (by omega)
 rw [oN (by simpa using h1),oN (by simpa using h2)] at this
 simpa using this
def g4 (gs:List Ch) (mo b am:List Int) (j:Int):Prop:=(0≤gi b j∧gi b j<BZ (bC gs j).2.2.2.1 (bC gs j).2.2.2.2.1 (bC gs j).2.2.2.2.2.1)∧gi am j=xg gs j (gi b j)∧gi am j≤gi mo j
end
section
variable {cs : List Cd} {os : List ByteArray} {ks : List Ko} {gs : List Ch} {bs : List Ba} {al mo od : List Int}
theorem arW (h:qU cs os ks gs bs al mo od=true):xH cs os ks gs bs al mo od=oI gs (lvF (jC cs gs cs.length) gs al mo od):=by
 unfold xH
 rw [if_pos h,arV (aoJ h)]
theorem aoK (h:qU cs os ks gs bs al mo od=true):shE cs os ks gs bs al mo od=0:=by unfold shE;rw [if_pos h]
theorem as9 (h:qU cs os ks gs bs al mo od=true):gY cs os ks gs bs=jC cs gs cs.length∧F5 cs os ks gs bs=0∧(jC cs gs cs.length).length≤48:=by
 have hv:=(iK.1 h).1
 have:=uS (cs:=cs) (gs:=gs) (k:=cs.length)
 have:=(gm.1 hv).1
 unfold gY F5
 rw [if_pos hv,if_pos hv]
 exact ⟨rfl,rfl,by omega⟩
end
end Go.Proofs.YtlihnbimgclogaaGreatDoor
namespace Go.Proofs.YtlihnbimgclogaaGreatDoor
open Go.Sx
abbrev FQ:Ty:=.pair (.int .i64) (.int .i64)
abbrev Ra:=Int×Int
def lH (l:List Ra) (n:Int):Ra:=l.getD n.toNat (0,0)
theorem V9 {l:List Ra}{n:Int}(h:n.toNat<l.length):lH l n=l[n.toNat]:=vz h
theorem OJ {l:List Int}{j:Int}(h:l.length≤j.toNat):gi l j=0:=by
 unfold gi
 rw [List.getD_eq_getElem?_getD,List.getElem?_eq_none h]
 rfl
theorem agB {l:List Int}{a:Int}(h:a∈l):∃j:Int,(0≤j∧j<(l.length:Int))∧gi l j=a:=by
 obtain ⟨k,hk,e⟩:=List.mem_iff_getElem.1 h
 exact ⟨k,by omega,by rw [oN (by simpa using hk)];simpa using e⟩
theorem neN {a b:Nat}:((a:Int) !=(b:Int))=!decide (a=b):=by
 by_cases h:a=b
 ·simp [h]
 ·have h':(a:Int)≠(b:Int):=by omega
  simp [h,h']
def SY (t:Int) (x:Le):Bool:=decide (x.2.2.2.1≤t)&&decide (ac3 x>t)
def kpA (o:List Int) (x:Le):List Int:=o.set x.2.1.toNat (mx (gi o x.2.1) x.2.2.1)
def WM (n:Nat) (l:List Le) (t:Int):List Int:=(l.filter (SY t)).foldl kpA (List.replicate n 0)
def below (n:Int) (l:List Le):Bool:=l.all (fun x=>decide (x.2.1<n))
def JA (l:List Le) (n t:Int):Bool:=(jY l&&(inB n 0 16&&inB t 0 1100000))&&below n l
def nV (l:List Le) (n t:Int):List Int:=if JA l n t=true then WM n.toNat l t else []
def SX (l:List Le) (n t:Int):Int:=if JA l n t=true then 0 else 1
theorem anb {o:List Int}{x:Le}:(kpA o x).length=o.length:=by simp [kpA]
theorem Zf:∀ {l:List Le}{o:List Int},(l.foldl kpA o).length=o.length
 | [],_=>rfl
 |x::l,o=>by rw [List.foldl_cons,Zf,anb]
theorem Bl {n:Nat}{l:List Le}{t:Int}:(WM n l t).length=n:=by rw [WM,Zf,List.length_replicate]
theorem acS {l:List Le}(h:jY l=true):l.Pairwise (fun a b=>a.1<b.1∧a.2.2.2.1≤b.2.2.2.1):=by
 unfold jY at h
 rw [Bool.and_eq_true] at h
 have hs:∀k:Nat,(hk:k+1<l.length)→l[k].1<l[k+1].1∧l[k].2.2.2.1≤l[k+1].2.2.2.1:=fun k hk=>by
  have:=fM.1 h.2 (k+1) (by omega)
  unfold jr xA at this
  rw [OQ (n:=((k+1:Nat):Int)) (by simpa using hk),OQ (n:=((k+1:Nat):Int)-1) (by omega)] at this
  simp only [Bool.and_eq_true,Bool.or_eq_true,decide_eq_true_eq] at this
  obtain ⟨_,h1|h1⟩:=this
  ·omega
  ·have e:(((k+1:Nat):Int)-1).toNat=k:=by omega
   simp only [e,Int.toNat_natCast] at h1
   omega
 rw [List.pairwise_iff_getElem]
 intro i j hi hj hij
 induction j with
 |zero=>omega
 | succ j ih=>
  have h1:=hs j (by omega)
  by_cases e:i=j
  ·subst e;exact h1
  ·have h2:=ih (by omega) (by omega)
   omega
def wS (c:Ch):Int:=c.2.2.2.2.2.2.1
def QN (c:Ch) (r:Ra):Bool:=Jt c.2.2.1 c.2.2.2.1 c.2.2.2.2.1 c.2.2.2.2.2.1 (wS c) r.1 r.2
def Uw (x:Dm):Bool:=inB x.2.1 0 1000000000&&(inB x.2.2.1 0 1000000&&inB x.2.2.2 1 9)
def FH (cs:List Cd) (os:List ByteArray) (ks:List Ko) (gs:List Ch) (bs:List Ba) (l:List Le) (rs:List Ra) (d:List Dm) (t n:Int):Bool:=
 (fO cs os ks gs bs&&jY l)&&((decide (rs.length=gs.length)&&(decide (d.length=gs.length)&&(inB t 0 1000000&&inB n 1 999900)))&&(below gs.length l&&Jr gs.length (fun j=>QN (bC gs j) (lH rs j)&&Uw (su d j))))
def zn (n:Nat) (f:Int→Int):List Int:=(List.range n).map (fun k:Nat=>f (k:Int))
theorem auu {x a b:Int}:(decide (x<a) ||decide (x>b))=!inB x a b:=by
 unfold inB
 by_cases h1:x<a
 ·rw [decide_eq_true h1,decide_eq_false (p:=x≥a) (by omega)];rfl
 ·rw [decide_eq_false h1,decide_eq_true (p:=x≥a) (by omega)]
  by_cases h2:x>b
  ·rw [decide_eq_true h2,decide_eq_false (p:=x≤b) (by omega)];rfl
  ·rw [decide_eq_false h2,decide_eq_true (p:=x≤b) (by omega)];rfl
theorem aut {x a b:Int}{y:Bool}:(decide (x<a) ||(decide (x>b) ||y))=(!inB x a b ||y):=by rw [←Bool.or_assoc,auu]
theorem vbE {c:Ch}{r:Ra}{x:Dm}:((!Jt c.2.2.1 c.2.2.2.1 c.2.2.2.2.1 c.2.2.2.2.2.1 c.2.2.2.2.2.2.1 r.1 r.2) ||(decide (x.2.1<0) ||(decide (x.2.1>1000000000) ||(decide (x.2.2.1<0) ||(decide (x.2.2.1>1000000) ||(decide (x.2.2.2<1) ||decide (x.2.2.2>9)))))))=!(QN c r&&Uw x):=by
 unfold QN wS Uw
 rw [aut,aut,auu,Bool.not_and,Bool.not_and,Bool.not_and]
def ant (cs:List Cd) (os:List ByteArray) (ks:List Ko) (gs:List Ch) (bs:List Ba) (l:List Le) (rs:List Ra) (d:List Dm):Bool:=decide (cs.length≤40∧os.length≤40∧ks.length≤40∧gs.length≤40∧bs.length≤40)&&(decide ((l.length:Int)≤100)&&(decide ((rs.length:Int)≤40)&&decide ((d.length:Int)≤40)))
theorem eU {n:Nat}{f:Int→Int}:(zn n f).length=n:=by simp [zn]
theorem o7 {n:Nat}{f:Int→Int}{j:Int}(h0:0≤j) (h1:j<(n:Int)):gi (zn n f) j=f j:=by
 rw [oN (by rw [eU];omega)]
 simp only [zn,List.getElem_map,List.getElem_range]
 rw [Int.toNat_of_nonneg h0]
theorem GU {n:Nat}{f:Int→Int}{x:Int}(h:x∈zn n f):∃j,(0≤j∧j<(n:Int))∧f j=x:=by
 obtain ⟨k,hk,e⟩:=List.mem_map.1 h
 exact ⟨k,⟨by omega,by have:=List.mem_range.1 hk;omega⟩,e⟩
def mO (gs:List Ch):List Int:=zn gs.length (fun k=>wS (bC gs k))
def oV (gs:List Ch) (d:List Dm):List Int:=zn gs.length (fun k=>if (su d k).1=true then (bC gs k).2.2.2.2.1 else 0)
def WL (gs:List Ch) (l:List Le) (t:Int):List Int:=zn gs.length (fun k=>mx (wS (bC gs k)) (gi (WM gs.length l t) k))
def tgL (cs:List Cd) (os:List ByteArray) (ks:List Ko) (gs:List Ch) (bs:List Ba) (d:List Dm) (t:Int):List Int:=xH cs os ks gs bs (mO gs) (oV gs d) (jQ d t)
def Uu (cs:List Cd) (os:List ByteArray) (ks:List Ko) (gs:List Ch) (bs:List Ba) (l:List Le) (d:List Dm) (t:Int):List Int:=xH cs os ks gs bs (WL gs l t) (tgL cs os ks gs bs d t) (jQ d t)
theorem ZG {l:List Ra}{i j:Int}{v:Ra}(h0:0≤i) (h1:i<(l.length:Int)) (hj:0≤j):lH (l.set i.toNat v) j=if j=i then v else lH l j:=by
 unfold lH
 rw [List.getD_eq_getElem?_getD,List.getD_eq_getElem?_getD,List.getElem?_set]
 by_cases e:j=i
 ·subst e
  rw [if_pos rfl,if_pos rfl,if_pos (by omega)]
  rfl
 ·rw [if_neg (by omega),if_neg e]
theorem anl {a b:List Ra}(hl:a.length=b.length) (h:∀j:Int,0≤j→j<(b.length:Int)→lH a j=lH b j):a=b:=List.ext_getElem hl fun k h1 h2=>by
 have:=h (k:Int) (by omega) (by omega)
 rw [V9 (by simpa using h1),V9 (by simpa using h2)] at this
 simpa using this
def Nc (cs:List Cd) (os:List ByteArray) (ks:List Ko) (gs:List Ch) (bs:List Ba) (l:List Le) (d:List Dm) (t:Int) (od:List Int):List Int:=xH cs os ks gs bs (WL gs l t) (xH cs os ks gs bs (mO gs) (oV gs d) od) od
def nwO (a t:Int):Option Le→Bool
 |none=>true
 |some x=>x.2.2.1 !=a ||decide (x.2.2.2.1≤t-6)
def nwB (gs:List Ch) (l:List Le) (t i a:Int):Bool:=!decide (a≤wS (bC gs i))&&nwO a t (l.reverse.find? (fun x=>x.2.1==i))
def nxA (c:Ch) (r:Ra) (w:Int):Int:=nA c.2.2.1 c.2.2.2.1 c.2.2.2.2.1 c.2.2.2.2.2.1 (wS c) r.1 r.2 w
def nxS (c:Ch) (r:Ra) (w:Int):Int:=nS c.2.2.1 c.2.2.2.1 c.2.2.2.2.1 c.2.2.2.2.2.1 (wS c) r.1 r.2 w
def Ky (gs:List Ch) (rs:List Ra) (w:List Int) (k:Nat):List Int:=zn k (fun k=>nxA (bC gs k) (lH rs k) (gi w k))
def dcR (gs:List Ch) (rs:List Ra) (w:List Int) (k:Nat):List Ra:=(List.range k).map (fun k:Nat=>(nxA (bC gs k) (lH rs k) (gi w k),nxS (bC gs k) (lH rs k) (gi w k)))
def O1 (gs:List Ch) (l:List Le) (t n:Int) (am:List Int):Nat→List Le
 |0=>[]
 |k+1=>O1 gs l t n am k++(if nwB gs l t k (gi am k)=true then [(n+(O1 gs l t n am k).length,(k:Int),gi am k,t,12)] else [])
theorem O0 {gs:List Ch}{rs:List Ra}{w:List Int}{k:Nat}:(dcR gs rs w k).length=k:=by simp [dcR]
theorem au9 {gs:List Ch}{rs:List Ra}{w:List Int}{k:Nat}{j:Int}(h0:0≤j) (h1:j<(k:Int)):lH (dcR gs rs w k) j=(nxA (bC gs j) (lH rs j) (gi w j),nxS (bC gs j) (lH rs j) (gi w j)):=by
 rw [V9 (by rw [O0];omega)]
 simp only [dcR,List.getElem_map,List.getElem_range]
 rw [Int.toNat_of_nonneg h0]
def okC (c:Ch) (r:Ra) (w:Int):Bool:=okB c.2.2.1 c.2.2.2.1 c.2.2.2.2.1 c.2.2.2.2.2.1 (wS c) r.1 r.2 w
def dcK (gs:List Ch) (rs:List Ra) (w:List Int):Prop:=∀j,0≤j→j<(gs.length:Int)→okC (bC gs j) (lH rs j) (gi w j)=true
theorem zL {gs:List Ch}{l:List Le}{t n:Int}{am:List Int}:∀ {k:Nat},(O1 gs l t n am k).length≤k
 |0=>by simp [O1]
 |k+1=>by
  have:=zL (gs:=gs) (l:=l) (t:=t) (n:=n) (am:=am) (k:=k)
  rw [O1,List.length_append]
  split
  ·simp only [List.length_cons,List.length_nil];omega
  ·simp only [List.length_nil];omega
section
variable (cs : List Cd) (os : List ByteArray) (ks : List Ko) (gs : List Ch) (bs : List Ba) (l : List Le) (rs : List Ra) (d : List Dm) (t n : Int)
def CO:List Int:=if FH cs os ks gs bs l rs d t n=true then Ky gs rs (Uu cs os ks gs bs l d t) gs.length else []
def deR:List Ra:=if FH cs os ks gs bs l rs d t n=true then dcR gs rs (Uu cs os ks gs bs l d t) gs.length else []
def sD:List Le:=if FH cs os ks gs bs l rs d t n=true then O1 gs l t n (Ky gs rs (Uu cs os ks gs bs l d t) gs.length) gs.length else []
def deE:Int:=if FH cs os ks gs bs l rs d t n=true then 0 else 1
end
section
variable {cs : List Cd} {os : List ByteArray} {ks : List Ko} {gs : List Ch} {bs : List Ba} {l : List Le} {rs : List Ra} {d : List Dm} {t n : Int}
structure Vd (cs:List Cd) (os:List ByteArray) (ks:List Ko) (gs:List Ch) (bs:List Ba) (l:List Le) (rs:List Ra) (d:List Dm) (t n:Int):Prop where
 site:fO cs os ks gs bs=true
 les:jY l=true
 rl:rs.length=gs.length
 dl:d.length=gs.length
 gl:gs.length≤16
 tb:0≤t∧t≤1000000
 nb:1≤n∧n≤999900
 co:below gs.length l=true
 ra:∀j:Int,0≤j→j<(gs.length:Int)→QN (bC gs j) (lH rs j)=true
 dm:∀j:Int,0≤j→j<(gs.length:Int)→Uw (su d j)=true
 ch:∀j:Int,0≤j→j<(gs.length:Int)→chW (bC gs j)=true
theorem aoz (h:FH cs os ks gs bs l rs d t n=true):Vd cs os ks gs bs l rs d t n:=by
 unfold FH at h
 simp only [Bool.and_eq_true,decide_eq_true_eq,dZ] at h
 obtain ⟨⟨h1,h2⟩,⟨h3,h4,h5,h6⟩,h7,h8⟩:=h
 have hj:∀j:Int,0≤j→j<(gs.length:Int)→QN (bC gs j) (lH rs j)=true∧Uw (su d j)=true:=fun j h0 hj=>by
  have:=fM.1 h8 j.toNat (by omega)
  rw [Int.toNat_of_nonneg h0,Bool.and_eq_true] at this
  exact this
 exact ⟨h1,h2,h3,h4,(gm.1 h1).1.2.2.2.2.1,h5,h6,h7,fun j h0 h1=>(hj j h0 h1).1,fun j h0 h1=>(hj j h0 h1).2,fun j h0 hj=>by
  have:=rH h1 h0 hj
  unfold Fh at this
  simp only [Bool.and_eq_true] at this
  exact this.2.2⟩
theorem O4 {c:Ch}(h:chW c=true):(1≤c.2.2.1∧c.2.2.1≤7)∧(1≤c.2.2.2.1∧c.2.2.2.1≤c.2.2.2.2.1)∧c.2.2.2.2.1≤80∧(1≤c.2.2.2.2.2.1∧c.2.2.2.2.2.1≤80)∧0≤wS c∧wS c≤c.2.2.2.2.1:=by
 unfold chW at h
 unfold wS
 simp only [Bool.and_eq_true,Bool.or_eq_true,dZ,beq_iff_eq] at h
 omega
theorem aoo (hv:jY l=true) {m:Nat}:∀a∈WM m l t,0≤a∧a≤80:=by
 have key:∀(l:List Le) (o:List Int),(∀x∈l,G5 x=true)→(∀a∈o,0≤a∧a≤80)→∀a∈l.foldl kpA o,0≤a∧a≤80:=fun l=>by
  induction l with
  |nil=>exact fun o _ h=>h
  | cons x l ih=>
   intro o hl ho
   rw [List.foldl_cons]
   refine ih _ (fun y hy=>hl y (by simp [hy])) fun a ha=>?_
   have hx:=OC.1 (hl x (by simp))
   rcases List.mem_or_eq_of_mem_set ha with ha|rfl
   ·exact ho a ha
   ·have:0≤gi o x.2.1∧gi o x.2.1≤80:=by
     by_cases h:x.2.1.toNat<o.length
     ·rw [oN h];exact ho _ (List.getElem_mem _)
     ·rw [OJ (by omega)];omega
    unfold mx
    split<;>omega
 refine key _ _ (fun x hx=>(pM hv).2 x (List.mem_filter.1 hx).1) fun a ha=>?_
 rw [List.eq_of_mem_replicate ha]
 omega
theorem Zj (hd:d.length=gs.length):lW (jQ d t) gs.length=true:=by
 unfold lW
 rw [QT,hd,decide_eq_true rfl,Bool.true_and,Bool.and_eq_true,List.all_eq_true]
 refine ⟨fun x hx=>y8.2 (by have:=aff.1 hx;rw [hd] at this;exact this),Gq.2 fun j hj hm=>?_⟩
 obtain ⟨k,hk,e⟩:=List.mem_iff_getElem.1 hm
 rw [List.length_take] at hk
 rw [List.getElem_take] at e
 have:=(List.pairwise_iff_getElem.1 (U9 (d:=d) (t:=t))) k j (by omega) hj (by omega)
 exact this e
theorem apF {l:List Int}{a b:Int}(hz:a≤0∧0≤b) (h:∀x∈l,a≤x∧x≤b) {j:Int}:a≤gi l j∧gi l j≤b:=by
 by_cases hj:j.toNat<l.length
 ·rw [oN hj];exact h _ (List.getElem_mem _)
 ·rw [OJ (by omega)];exact hz
structure Si (cs:List Cd) (os:List ByteArray) (ks:List Ko) (gs:List Ch) (bs:List Ba) (d:List Dm):Prop where
 site:fO cs os ks gs bs=true
 dl:d.length=gs.length
theorem Si.ch (h:Si cs os ks gs bs d) {j:Int}(h0:0≤j) (hj:j<(gs.length:Int)):chW (bC gs j)=true:=by
 have:=rH h.site h0 hj
 unfold Fh at this
 simp only [Bool.and_eq_true] at this
 exact this.2.2
theorem Vd.si (h:Vd cs os ks gs bs l rs d t n):Si cs os ks gs bs d:=⟨h.site,h.dl⟩
theorem avn (h:Si cs os ks gs bs d):∀a∈mO gs,0≤a∧a≤80:=fun a ha=>by
 obtain ⟨j,⟨h0,h1⟩,rfl⟩:=GU ha
 have:=O4 (h.ch h0 h1)
 omega
theorem aqM (h:Si cs os ks gs bs d):∀a∈oV gs d,0≤a∧a≤80:=fun a ha=>by
 obtain ⟨j,⟨h0,h1⟩,rfl⟩:=GU ha
 have:=O4 (h.ch h0 h1)
 split<;>omega
theorem avr (h:Vd cs os ks gs bs l rs d t n):∀a∈WL gs l t,0≤a∧a≤80:=fun a ha=>by
 obtain ⟨j,⟨h0,h1⟩,rfl⟩:=GU ha
 have:=O4 (h.ch j h0 h1)
 have:=apF (j:=j) ⟨Int.le_refl 0,by decide⟩ (aoo h.les (m:=gs.length) (t:=t))
 unfold mx
 split<;>omega
theorem ad1 {al mo od:List Int}(hk:qU cs os ks gs bs al mo od=true):(xH cs os ks gs bs al mo od).length=gs.length∧∀j,0≤j→j<(gs.length:Int)→(0≤gi (xH cs os ks gs bs al mo od) j∧gi (xH cs os ks gs bs al mo od) j≤80)∧gi (xH cs os ks gs bs al mo od) j≤gi mo j:=by
 have H:=aoJ hk
 rw [arW hk]
 refine ⟨SQ,fun j h0 h1=>?_⟩
 obtain ⟨_,_,_,e4,e5⟩:=avp H (agH H) h0 h1
 have h3:=(aw5 H h0 h1 ((agH H).2 j h0 h1).1 ((agH H).2 j h0 h1).2).2 (agG H h0 h1)
 rw [tN h0 h1] at e4 e5⊢
 exact ⟨⟨e4,e5⟩,h3⟩
theorem YF {al mo od:List Int}(hk:qU cs os ks gs bs al mo od=true):(xH cs os ks gs bs al mo od).length=gs.length∧∀a∈xH cs os ks gs bs al mo od,0≤a∧a≤80:=by
 obtain ⟨h1,h2⟩:=ad1 hk
 refine ⟨h1,fun a ha=>?_⟩
 obtain ⟨j,hj,rfl⟩:=agB ha
 rw [h1] at hj
 exact (h2 j hj.1 hj.2).1
theorem adL (h:Si cs os ks gs bs d):qU cs os ks gs bs (mO gs) (oV gs d) (jQ d t)=true:=
 iK.2 ⟨h.site,eU,eU,List.all_eq_true.2 fun a ha=>nT.2 (avn h a ha),List.all_eq_true.2 fun a ha=>nT.2 (aqM h a ha),Zj h.dl⟩
theorem adM (h:Si cs os ks gs bs d):(tgL cs os ks gs bs d t).length=gs.length∧∀a∈tgL cs os ks gs bs d t,0≤a∧a≤80:=by
 exact YF (adL (t:=t) h)
theorem af8 (h:Vd cs os ks gs bs l rs d t n):qU cs os ks gs bs (WL gs l t) (tgL cs os ks gs bs d t) (jQ d t)=true:=
 iK.2 ⟨h.site,eU,(adM h.si).1,List.all_eq_true.2 fun a ha=>nT.2 (avr h a ha),List.all_eq_true.2 fun a ha=>nT.2 ((adM h.si).2 a ha),Zj h.dl⟩
theorem aoZ (h:Vd cs os ks gs bs l rs d t n):(Uu cs os ks gs bs l d t).length=gs.length∧∀a∈Uu cs os ks gs bs l d t,0≤a∧a≤80:=by
 exact YF (af8 h)
theorem Y5 (h:Vd cs os ks gs bs l rs d t n) {j:Int}:0≤gi (Uu cs os ks gs bs l d t) j∧gi (Uu cs os ks gs bs l d t) j≤80:=apF ⟨Int.le_refl 0,by decide⟩ (aoZ h).2
theorem ahX (h:Vd cs os ks gs bs l rs d t n):dcK gs rs (Uu cs os ks gs bs l d t):=fun j j0 j1=>by
 have hr:=h.ra j j0 j1
 have hb:=Y5 h (j:=j)
 unfold QN at hr
 unfold okC okB
 rw [hr,decide_eq_true hb.1,decide_eq_true hb.2]
 rfl
theorem aon (h:Vd cs os ks gs bs l rs d t n):JA l gs.length t=true:=by
 have:=h.gl
 have:=h.tb
 unfold JA
 rw [h.les,dZ.2 ⟨by omega,by omega⟩,dZ.2 ⟨by omega,by omega⟩,h.co]
 rfl
theorem awK (h:Vd cs os ks gs bs l rs d t n):yM d t∧d.length≤19:=by
 refine ⟨⟨fun x hx=>?_,by have:=h.tb;omega,by have:=h.tb;omega⟩,by have:=h.gl;have:=h.dl;omega⟩
 obtain ⟨k,hk,rfl⟩:=List.mem_iff_getElem.1 hx
 have:=h.dm k (by omega) (by rw [←h.dl];omega)
 unfold Uw su at this
 rw [vz (by simpa using hk)] at this
 simp only [Bool.and_eq_true,dZ,Int.toNat_natCast] at this
 omega
end
end Go.Proofs.YtlihnbimgclogaaGreatDoor
namespace Go.Proofs.YtlihnbimgclogaaGreatDoor
open Go.Sx
def aa9:List LV→T LV
 | [.agg [.xl (.pair .str (.pair (.int .i64) (.pair (.int .i64) (.pair (.int .i64) (.pair (.pair (.int .i64) (.int .i64)) (.pair (.int .i64) (.pair (.int .i64) (.pair (.int .i64) (.pair (.int .i64) (.int .i64)))))))))) cs,.xl (.str) os,.xl (.pair .str (.pair (.int .i64) (.pair (.int .i64) (.int .i64)))) ks,.xl (.pair .str (.pair (.int .i64) (.pair (.int .i64) (.pair (.int .i64) (.pair (.int .i64) (.pair (.int .i64) (.pair (.int .i64) (.int .i64)))))))) gs,.xl (.pair .str (.int .i64)) bs],.xl (.pair (.int .i64) (.pair (.int .i64) (.pair (.int .i64) (.pair (.int .i64) (.int .i64))))) l,.xl (.pair (.int .i64) (.int .i64)) rs,.xl (.pair .bool (.pair (.int .i64) (.pair (.int .i64) (.int .i64)))) d]=> .ok (.v (.bool (ant cs os ks gs bs l rs d)))
 |_=> .no
noncomputable def Xc:List LV→T LV:=gW Tryz.prog Tryz.f12.params.toList aa9
noncomputable def ahD:Specs:=bf [(34,WY)]
theorem auG:∀g S,ahD g=some S→Valid Tryz.prog aP g S:=aS (l:=[(34,WY)]) ⟨aq1,trivial⟩
theorem ami (cs:List Cd) (os:List ByteArray) (ks:List Ko) (gs:List Ch) (bs:List Ba) (l:List Le) (rs:List Ra) (d:List Dm):bW Tryz.prog aP (ahD) eY aC Tryz.f12 [.agg [.xl dW cs,.xl .str os,.xl eu ks,.xl dQ gs,.xl eG bs],.xl jL l,.xl FQ rs,.xl rE d]=.ok (.v (.bool ((decide (List.length cs≤40∧List.length os≤40∧List.length ks≤40∧List.length gs≤40∧List.length bs≤40))&&((decide ((List.length l:Int)≤100))&&((decide ((List.length rs:Int)≤40))&&(decide ((List.length d:Int)≤40))))))):=by kernel_rfl
theorem aq6:Valid Tryz.prog aP 12 Xc:=aH Tryz.func12 rfl auG aG (aW (by kernel_rfl)) (fun args lv h=>by
 unfold aa9 at h
 split at h
 ·simp only [canL,canX]
  rw [ami]
  exact h
 ·cases h)
structure lq where
 m:List Le
 F7:List Ra
 d:List Dm
 r:Bool
 n:Int
 i:Int
 aj:List Cd
 aB:List ByteArray
 ai:List Ko
 ak:List Ch
 aJ:List Ba
def aBh (s:lq):List LV:=[.xl jL s.m,.xl FQ s.F7,.xl rE s.d,.own 0 0,.v (.bool s.r),.v (.int .i64 s.n),.v (.int .i64 s.i)]
def aAk (s:lq):List aT:=[⟨[.xl dW s.aj,.xl .str s.aB,.xl eu s.ai,.xl dQ s.ak,.xl eG s.aJ],28,.cl,false⟩]
noncomputable def AX:Code:=((aF (Tryz.f22.body.getD .skip))[0]?).getD .skip
def Yp (s:lq):T (Rd lq):=
 .br (decide (s.i<(List.length s.m:Int))) (.req (0≤s.i∧s.i<(List.length s.m:Int)) (.br (decide ((bI s.m s.i).2.1≥s.n)) (.ok (.stop (.ret) {s with r:=false})) (.ok (.next {s with i:=(IntKind.i64.wrap (s.i+1))})))) (.ok (.stop (.exit 0) s))
abbrev aqi (s:lq):=(Yp s).rd s
def Jd (s:lq) (j:Int):Bool:=decide ((bI s.m j).2.1<s.n)
def ab9 (s:lq):Prop:=s.i=0∧0≤(List.length s.m:Int)∧(List.length s.m:Int)≤1000∧True
def LM (s:lq):Prop:=0≤s.i∧s.i≤(List.length s.m:Int)∧(List.length s.m:Int)≤1000∧(True)∧∀j:Nat,(j:Int)<s.i→Jd s j=true
def Oa (s:lq):Nat:=((List.length s.m:Int)-s.i).toNat
def aja (x:Ex) (_ s':lq):Prop:=(x=.exit 0∧∀j:Nat,(j:Int)<(List.length s'.m:Int)→Jd s' j=true)∨(x=.ret∧s'.r=false∧∃j:Nat,(j:Int)<(List.length s'.m:Int)∧Jd s' j=false)
theorem ay6:∀s,ab9 s→LM s:=by
 intro s h
 obtain ⟨h0,h1,h2,h3⟩:=h
 exact ⟨by omega,by omega,h2,h3,fun j hj=>by omega⟩
theorem auX (s:lq) (hI:LM s):bM (fun s'=>LM s'∧Oa s'<Oa s) (fun x s'=>aja x s s') (aqi s):=by
 unfold aqi Yp
 dsimp only [T.rd,T.rl]
 obtain ⟨h0,h1,h2,h3,h4⟩:=hI
 refine au (fun c1=>au (fun c2=>?_) (fun c2=>?_)) (fun c1=>?_)
 ·have c1:s.i<(List.length s.m:Int):=by simpa using c1
  refine .inr ⟨rfl,rfl,s.i.toNat,by simp only;omega,?_⟩
  rw [Int.toNat_of_nonneg (by omega)]
  have hg:Jd s s.i=false:=by unfold Jd;(simp only [decide_eq_true_eq,decide_eq_false_iff_not] at c2⊢;omega)
  exact hg
 ·have c1:s.i<(List.length s.m:Int):=by simpa using c1
  have hg:Jd s s.i=true:=by unfold Jd;(simp only [decide_eq_true_eq,decide_eq_false_iff_not] at c2⊢;omega)
  rw [aK (x:=s.i+1) (by omega) (by omega)]
  refine ⟨⟨by simp only;omega,by simp only;omega,h2,h3,fun j hj=>?_⟩,by simp only [Oa];omega⟩
  by_cases hji:(j:Int)<s.i
  ·exact h4 j hji
  ·have:(j:Int)=s.i:=by simp only at hj;omega
   rw [this];exact hg
 ·have c1:(List.length s.m:Int)≤s.i:=by simpa using c1
  exact .inl ⟨rfl,fun j hj=>h4 j (by omega)⟩
def Ey:bQ lq:=⟨0,119,[1,2,3,6,12,13,14],[],aBh,aAk,fun v b=>⟨aQ jL (v.getD 0 .junk),aQ FQ (v.getD 1 .junk),aQ rE (v.getD 2 .junk),vH (v.getD 4 .junk),gI (v.getD 5 .junk),gI (v.getD 6 .junk),aQ dW (aY (aO b 0) 0),aQ .str (aY (aO b 0) 1),aQ eu (aY (aO b 0) 2),aQ dQ (aY (aO b 0) 3),aQ eG (aY (aO b 0) 4)⟩,Yp,fun s r=> {r with m:=s.m,F7:=s.F7,d:=s.d,n:=s.n,aj:=s.aj,aB:=s.aB,ai:=s.ai,ak:=s.ak,aJ:=s.aJ},fun s=>s,fun _ s=>s,[.ret,.exit 0],ab9,LM,Oa⟩
abbrev wE:=Ey.run
abbrev aav:=Ey.jZ
abbrev awk:=Ey.q
theorem asV (s:lq) (hI:LM s):(Yp s).all (fun _=>True):=by
 refine ⟨fun c1=>⟨?_,fun _=>trivial,fun _=>trivial⟩,fun _=>trivial⟩
 ·(obtain ⟨h0,h1,h2,h3,h4⟩:=hI;simp at c1;omega)
noncomputable def OM:Specs:=bf [(49,WW),(50,Xa),(51,Xd)]
theorem VZ:∀g S,OM g=some S→Valid Tryz.prog aP g S:=aS (l:=[(49,WW),(50,Xa),(51,Xd)]) ⟨aqZ,aq4,aq7,trivial⟩
theorem afU:Ey.Ok:=⟨fun s=>by kernel_rfl,fun s=>by kernel_rfl,fun s=>rfl,fun s t r=>rfl,fun s=>rfl,fun s=>by kernel_rfl⟩
theorem aeW:Ey.Pf (aja):=⟨ay6,fun _ _=>rfl,auX,asV⟩
theorem akP:bg Tryz.prog aP (AN 0) (.loop AX) Ey.lp:=bQ.snd afU aeW (aU (Γ:=OM) (K:=eY) (L:=aC) VZ aG AX (fun b hb=>by rw [show aF AX=[] by kernel_rfl] at hb;cases hb)) (fun s=>by kernel_rfl)
theorem an2 (s:lq) (hE:ab9 s):∃s',LM s'∧aja (aav s) s' (wE s):=bQ.fin afU aeW s hE
structure ou where
 rs:List Ra
 d:List Dm
 r:Bool
 n:Int
 i:Int
 aj:List Cd
 aB:List ByteArray
 ai:List Ko
 ak:List Ch
 aJ:List Ba
def aBg (s:ou):List LV:=[.xl FQ s.rs,.xl rE s.d,.own 0 0,.v (.bool s.r),.v (.int .i64 s.n),.v (.int .i64 s.i)]
def aAj (s:ou):List aT:=[⟨[.xl dW s.aj,.xl .str s.aB,.xl eu s.ai,.xl dQ s.ak,.xl eG s.aJ],28,.cl,false⟩]
noncomputable def AV:Code:=((aF (Tryz.f22.body.getD .skip))[1]?).getD .skip
def Yo (s:ou):T (Rd ou):=
 .br (decide (s.i<s.n)) (.req (0≤s.i∧s.i<(List.length s.d:Int)) (.req (0≤s.i∧s.i<(List.length s.ak:Int)) (.req (0≤s.i∧s.i<(List.length s.rs:Int)) (.br ((!(Jt (bC s.ak s.i).2.2.1 (bC s.ak s.i).2.2.2.1 (bC s.ak s.i).2.2.2.2.1 (bC s.ak s.i).2.2.2.2.2.1 (bC s.ak s.i).2.2.2.2.2.2.1 (lH s.rs s.i).1 (lH s.rs s.i).2)) ||((decide ((su s.d s.i).2.1<0)) ||((decide ((su s.d s.i).2.1>1000000000)) ||((decide ((su s.d s.i).2.2.1<0)) ||((decide ((su s.d s.i).2.2.1>1000000)) ||((decide ((su s.d s.i).2.2.2<1)) ||(decide ((su s.d s.i).2.2.2>9)))))))) (.ok (.stop (.ret) {s with r:=false})) (.ok (.next {s with i:=(IntKind.i64.wrap (s.i+1))})))))) (.ok (.stop (.exit 2) s))
abbrev aqh (s:ou):=(Yo s).rd s
def Jc (s:ou) (j:Int):Bool:=QN (bC s.ak j) (lH s.rs j)&&Uw (su s.d j)
def ab8 (s:ou):Prop:=s.i=0∧0≤s.n∧s.n≤1000∧s.n=(s.ak.length:Int)∧s.rs.length=s.ak.length∧s.d.length=s.ak.length
def LK (s:ou):Prop:=0≤s.i∧s.i≤s.n∧s.n≤1000∧(s.n=(s.ak.length:Int)∧s.rs.length=s.ak.length∧s.d.length=s.ak.length)∧∀j:Nat,(j:Int)<s.i→Jc s j=true
def N9 (s:ou):Nat:=(s.n-s.i).toNat
def ai9 (x:Ex) (_ s':ou):Prop:=(x=.exit 2∧∀j:Nat,(j:Int)<s'.n→Jc s' j=true)∨(x=.ret∧s'.r=false∧∃j:Nat,(j:Int)<s'.n∧Jc s' j=false)
theorem ay5:∀s,ab8 s→LK s:=by
 intro s h
 obtain ⟨h0,h1,h2,h3⟩:=h
 exact ⟨by omega,by omega,h2,h3,fun j hj=>by omega⟩
theorem auW (s:ou) (hI:LK s):bM (fun s'=>LK s'∧N9 s'<N9 s) (fun x s'=>ai9 x s s') (aqh s):=by
 unfold aqh Yo
 dsimp only [T.rd,T.rl]
 obtain ⟨h0,h1,h2,h3,h4⟩:=hI
 refine au (fun c1=>au (fun c2=>?_) (fun c2=>?_)) (fun c1=>?_)
 ·have c1:s.i<s.n:=by simpa using c1
  refine .inr ⟨rfl,rfl,s.i.toNat,by simp only;omega,?_⟩
  rw [Int.toNat_of_nonneg (by omega)]
  have hg:Jc s s.i=false:=by unfold Jc;(rw [vbE] at c2;first|exact PS c2|exact ntW c2)
  exact hg
 ·have c1:s.i<s.n:=by simpa using c1
  have hg:Jc s s.i=true:=by unfold Jc;(rw [vbE] at c2;first|exact PS c2|exact ntW c2)
  rw [aK (x:=s.i+1) (by omega) (by omega)]
  refine ⟨⟨by simp only;omega,by simp only;omega,h2,h3,fun j hj=>?_⟩,by simp only [N9];omega⟩
  by_cases hji:(j:Int)<s.i
  ·exact h4 j hji
  ·have:(j:Int)=s.i:=by simp only at hj;omega
   rw [this];exact hg
 ·have c1:s.n≤s.i:=by simpa using c1
  exact .inl ⟨rfl,fun j hj=>h4 j (by omega)⟩
def Ew:bQ ou:=⟨0,119,[2,3,6,12,13,15],[],aBg,aAj,fun v b=>⟨aQ FQ (v.getD 0 .junk),aQ rE (v.getD 1 .junk),vH (v.getD 3 .junk),gI (v.getD 4 .junk),gI (v.getD 5 .junk),aQ dW (aY (aO b 0) 0),aQ .str (aY (aO b 0) 1),aQ eu (aY (aO b 0) 2),aQ dQ (aY (aO b 0) 3),aQ eG (aY (aO b 0) 4)⟩,Yo,fun s r=> {r with rs:=s.rs,d:=s.d,n:=s.n,aj:=s.aj,aB:=s.aB,ai:=s.ai,ak:=s.ak,aJ:=s.aJ},fun s=>s,fun _ s=>s,[.ret,.exit 2],ab8,LK,N9⟩
abbrev YR:=Ew.run
abbrev aau:=Ew.jZ
abbrev awj:=Ew.q
theorem asU (s:ou) (hI:LK s):(Yo s).all (fun _=>True):=by
 refine ⟨fun c1=>⟨?_,?_,?_,fun _=>trivial,fun _=>trivial⟩,fun _=>trivial⟩
 all_goals ((obtain ⟨h0,h1,h2,h3,h4⟩:=hI;obtain ⟨h3,h5,h6⟩:=h3;simp at c1;omega))
theorem afT:Ew.Ok:=⟨fun s=>by kernel_rfl,fun s=>by kernel_rfl,fun s=>rfl,fun s t r=>rfl,fun s=>rfl,fun s=>by kernel_rfl⟩
theorem aeV:Ew.Pf (ai9):=⟨ay5,fun _ _=>rfl,auW,asU⟩
theorem akO:bg Tryz.prog aP (AN 0) (.loop AV) Ew.lp:=bQ.snd afT aeV (aU (Γ:=OM) (K:=eY) (L:=aC) VZ aG AV (fun b hb=>by rw [show aF AV=[] by kernel_rfl] at hb;cases hb)) (fun s=>by kernel_rfl)
theorem an1 (s:ou) (hE:ab8 s):∃s',LK s'∧ai9 (aau s) s' (YR s):=bQ.fin afT aeV s hE
def aa8:List LV→T LV
 | [.agg [.xl (.pair .str (.pair (.int .i64) (.pair (.int .i64) (.pair (.int .i64) (.pair (.pair (.int .i64) (.int .i64)) (.pair (.int .i64) (.pair (.int .i64) (.pair (.int .i64) (.pair (.int .i64) (.int .i64)))))))))) cs,.xl (.str) os,.xl (.pair .str (.pair (.int .i64) (.pair (.int .i64) (.int .i64)))) ks,.xl (.pair .str (.pair (.int .i64) (.pair (.int .i64) (.pair (.int .i64) (.pair (.int .i64) (.pair (.int .i64) (.pair (.int .i64) (.int .i64)))))))) gs,.xl (.pair .str (.int .i64)) bs],.xl (.pair (.int .i64) (.pair (.int .i64) (.pair (.int .i64) (.pair (.int .i64) (.int .i64))))) l,.xl (.pair (.int .i64) (.int .i64)) rs,.xl (.pair .bool (.pair (.int .i64) (.pair (.int .i64) (.int .i64)))) d,.v (.int .i64 t),.v (.int .i64 n)]=> .req (nmR (gB cs os ks gs bs)∧(List.length l:Int)≤1000) (.ok (.v (.bool (FH cs os ks gs bs l rs d t n))))
 |_=> .no
noncomputable def Xb:List LV→T LV:=gW Tryz.prog Tryz.f22.params.toList aa8
theorem amh (cs:List Cd) (os:List ByteArray) (ks:List Ko) (gs:List Ch) (bs:List Ba) (l:List Le) (rs:List Ra) (d:List Dm) (t n:Int):bW Tryz.prog aP (OM) eY (fun i=>if i=5 then Ey.lp else if i=10 then Ew.lp else aC i) Tryz.f22 [.agg [.xl dW cs,.xl .str os,.xl eu ks,.xl dQ gs,.xl eG bs],.xl jL l,.xl FQ rs,.xl rE d,.v (.int .i64 t),.v (.int .i64 n)]=.req (nmR (gB cs os ks gs bs)) (.br (!(fO cs os ks gs bs)) (.ok (.v (.bool false))) (.req ((List.length l:Int)≤1000) (.br ((!(jY l)) ||(((List.length rs:Int) !=(List.length gs:Int)) ||(((List.length d:Int) !=(List.length gs:Int)) ||((decide (t<0)) ||((decide (t>1000000)) ||((decide (n<1)) ||(decide (n>999900)))))))) (.ok (.v (.bool false))) (.req (awk (⟨l,rs,d,false,(List.length gs:Int),(0:Int),cs,os,ks,gs,bs⟩:lq)) (.br (ig (aav (⟨l,rs,d,false,(List.length gs:Int),(0:Int),cs,os,ks,gs,bs⟩:lq)) (.ret)) (.ok (.v (.bool (wE (⟨l,rs,d,false,(List.length gs:Int),(0:Int),cs,os,ks,gs,bs⟩:lq)).r))) (.req (awj (⟨rs,d,(wE (⟨l,rs,d,false,(List.length gs:Int),(0:Int),cs,os,ks,gs,bs⟩:lq)).r,(List.length gs:Int),(0:Int),cs,os,ks,gs,bs⟩:ou)) (.br (ig (aau (⟨rs,d,(wE (⟨l,rs,d,false,(List.length gs:Int),(0:Int),cs,os,ks,gs,bs⟩:lq)).r,(List.length gs:Int),(0:Int),cs,os,ks,gs,bs⟩:ou)) (.ret)) (.ok (.v (.bool (YR (⟨rs,d,(wE (⟨l,rs,d,false,(List.length gs:Int),(0:Int),cs,os,ks,gs,bs⟩:lq)).r,(List.length gs:Int),(0:Int),cs,os,ks,gs,bs⟩:ou)).r))) (.ok (.v (.bool true)))))))))):=by kernel_rfl
theorem aq5:Valid Tryz.prog aP 22 Xb:=aH Tryz.func22 rfl VZ aG (L:=(fun i=>if i=5 then Ey.lp else if i=10 then Ew.lp else aC i)) (fun b hb=>by
 rw [show aF _=[AX,AV] by kernel_rfl] at hb
 simp only [List.mem_cons,List.not_mem_nil,or_false] at hb
 rcases hb with rfl|rfl
 ·exact akP
 ·exact akO) (fun args lv h=>by
 unfold aa8 at h
 split at h
 ·simp only [canL,canX]
  rw [amh]
  rename_i cs os ks gs bs l rs d t n
  obtain ⟨⟨hn,hl⟩,rfl⟩:=h
  have bad:FH cs os ks gs bs l rs d t n=false→LV.v (.bool false)=LV.v (.bool (FH cs os ks gs bs l rs d t n)):=fun h=>by rw [h]
  refine ⟨hn,fun c=>bad (by unfold FH;rw [ntW c];rfl),fun c=>⟨hl,?_⟩⟩
  have c:=PS c
  rw [neN,neN,aut,auu,←Bool.not_and,←Bool.not_and,←Bool.not_and,←Bool.not_and]
  refine ⟨fun c2=>bad ?_,fun c2=>?_⟩
  ·unfold FH
   rw [c,Bool.true_and,←Bool.and_assoc,ntW c2,Bool.false_and]
  have c2:=PS c2
  have c2':=c2
  simp only [Bool.and_eq_true,decide_eq_true_eq] at c2'
  have hg:=(gm.1 c).1.2.2.2.2.1
  have hE:ab9 ⟨l,rs,d,false,(List.length gs:Int),0,cs,os,ks,gs,bs⟩:=⟨rfl,by simp only;omega,hl,trivial⟩
  have ev:FH cs os ks gs bs l rs d t n=(below gs.length l&&Jr gs.length (fun j=>QN (bC gs j) (lH rs j)&&Uw (su d j))):=by
   unfold FH
   rw [c,Bool.true_and,←Bool.and_assoc,c2,Bool.true_and]
  refine ⟨⟨hE,rfl,rfl⟩,?_⟩
  obtain ⟨_,_,hq⟩:=an2 _ hE
  have eb:below gs.length l=Jr l.length (fun j=>decide ((bI l j).2.1<(gs.length:Int))):=by
   rw [Bool.eq_iff_iff,fM]
   exact (jw (d:=(0,0,0,0,0)) (p:=fun x:Le=>decide (x.2.1<(gs.length:Int)))).symm
  rcases hq with ⟨q1,q2⟩ |⟨q1,q2,j,q3,q4⟩<;>rw [q1]
  rotate_left
  ·rw [q2]
   exact ⟨fun _=>bad (by rw [ev,eb,sU (n:=l.length) (f:=fun j=>decide ((bI l j).2.1<(gs.length:Int))) j q3 q4];rfl),fun h=>by cases h⟩
  refine ⟨fun h=>(by cases h),fun _=>?_⟩
  have g0:below gs.length l=true:=by rw [eb];exact fM.2 q2
  have hE2:ab8 ⟨rs,d,(wE ⟨l,rs,d,false,(List.length gs:Int),0,cs,os,ks,gs,bs⟩).r,(List.length gs:Int),0,cs,os,ks,gs,bs⟩:=⟨rfl,by simp only;omega,by simp only;omega,rfl,c2'.2.1,c2'.2.2.1⟩
  refine ⟨⟨hE2,rfl,rfl⟩,?_⟩
  obtain ⟨_,_,hq⟩:=an1 _ hE2
  rcases hq with ⟨q5,q6⟩ |⟨q5,q6,j,q7,q8⟩<;>rw [q5]
  ·exact ⟨fun h=>(by cases h),fun _=>by rw [ev,g0,(fM (f:=fun j=>QN (bC gs j) (lH rs j)&&Uw (su d j))).2 q6];rfl⟩
  ·rw [q6]
   exact ⟨fun _=>bad (by rw [ev,sU (n:=gs.length) (f:=fun j=>QN (bC gs j) (lH rs j)&&Uw (su d j)) j q7 q8,Bool.and_false]),fun h=>by cases h⟩
 ·cases h)
end Go.Proofs.YtlihnbimgclogaaGreatDoor
namespace Go.Proofs.YtlihnbimgclogaaGreatDoor
open Go.Sx
def aiG:List LV→T LV
 | [.v (.int .i64 r),.v (.int .i64 m)]=> .req ((0≤r∧r≤1000000)∧0≤m∧m≤3000000) (.ok (.v (.int .i64 (m*r / 1000000))))
 |_=> .no
noncomputable def aio:List LV→T LV:=gW Tryz.prog Tryz.f156.params.toList aiG
noncomputable def ahv:Specs:=bf []
theorem apy:∀g S,ahv g=some S→Valid Tryz.prog aP g S:=aS (l:=[]) trivial
theorem at1 (r m:Int):bW Tryz.prog aP (ahv) eY aC Tryz.f156 [.v (.int .i64 r),.v (.int .i64 m)]=.req ((1000000:Int)≠0) (.ok (.v (.int .i64 (IntKind.i64.wrap ((IntKind.i64.wrap (m*r)).tdiv 1000000))))):=by kernel_rfl
theorem aw1:Valid Tryz.prog aP 156 aio:=aH Tryz.func156 rfl apy aG (aW (by kernel_rfl)) (fun args lv h=>by
 unfold aiG at h
 split at h
 ·simp only [canL,canX]
  rw [at1]
  rename_i r m
  obtain ⟨⟨hr,hm⟩,rfl⟩:=h
  have h1:=aBM (a:=m) (b:=r) hm.1 hm.2 hr.1 hr.2
  have h2:0≤m*r / 1000000∧m*r / 1000000≤m*r:=by omega
  refine ⟨by omega,congrArg (fun z=>LV.v (.int .i64 z)) ?_⟩
  rw [aK (x:=m*r) (by omega) (by omega),Int.tdiv_eq_ediv_of_nonneg h1.1,aK (by omega) (by omega)]
 ·cases h)
def abu:List LV→T LV
 | [.v (.int .i64 n)]=> .ok (.v (.bool (inB n 0 1000000)))
 |_=> .no
noncomputable def Xp:List LV→T LV:=gW Tryz.prog Tryz.f154.params.toList abu
theorem amD (n:Int):bW Tryz.prog aP (ahv) eY aC Tryz.f154 [.v (.int .i64 n)]=.ok (.v (.bool ((decide (n≥0))&&(decide (n≤1000000))))):=by kernel_rfl
theorem arn:Valid Tryz.prog aP 154 Xp:=aH Tryz.func154 rfl apy aG (aW (by kernel_rfl)) (fun args lv h=>by
 unfold abu at h
 split at h
 ·simp only [canL,canX]
  rw [amD]
  exact h
 ·cases h)
structure ql where
 low:Int
 high:Int
 r:Int
 n:Int
def aA6 (s:ql):List LV:=[.v (.int .i64 s.low),.v (.int .i64 s.high),.fn 162 [.own 1 0,.own 0 0,.own 2 0]]
def aAa (s:ql):List aT:=[⟨[.v (.int .i64 s.r)],202,.cl,false⟩,⟨[.fn 156 []],203,.cl,false⟩,⟨[.v (.int .i64 s.n)],3,.cl,false⟩]
noncomputable def SB:Code:=((aF (Tryz.f161.body.getD .skip))[0]?).getD .skip
def Yk (s:ql):T (Rd ql):=
 .br (decide (s.low<s.high)) (.req ((2:Int)≠0) (.req ((0≤s.r∧s.r≤1000000)∧0≤(IntKind.i64.wrap (s.low+(IntKind.i64.wrap ((IntKind.i64.wrap (s.high-s.low)).tdiv 2))))∧(IntKind.i64.wrap (s.low+(IntKind.i64.wrap ((IntKind.i64.wrap (s.high-s.low)).tdiv 2))))≤3000000) (.br (decide (((IntKind.i64.wrap (s.low+(IntKind.i64.wrap ((IntKind.i64.wrap (s.high-s.low)).tdiv 2))))*s.r / 1000000)≥s.n)) (.ok (.next {s with high:=(IntKind.i64.wrap (s.low+(IntKind.i64.wrap ((IntKind.i64.wrap (s.high-s.low)).tdiv 2))))})) (.ok (.next {s with low:=(IntKind.i64.wrap ((IntKind.i64.wrap (s.low+(IntKind.i64.wrap ((IntKind.i64.wrap (s.high-s.low)).tdiv 2))))+1))}))))) (.ok (.stop (.exit 0) s))
abbrev aqd (s:ql):=(Yk s).rd s
def ab3 (s:ql):Prop:=s.low=0∧s.high=2*s.n+2∧s.r=999800∧0≤s.n∧s.n≤1000000
def Lu (s:ql):Prop:=(0≤s.low∧s.low≤wt s.n)∧(wt s.n≤s.high∧s.high≤2*s.n+2)∧s.r=999800∧0≤s.n∧s.n≤1000000
def Gy (s:ql):Nat:=(s.high-s.low).toNat
def ai5 (x:Ex) (_ s':ql):Prop:=x=.exit 0∧s'.low=wt s'.n
theorem ax9:∀s,ab3 s→Lu s:=by
 intro s h
 obtain ⟨h0,h1,h2,h3,h4⟩:=h
 have:=aoy h3
 exact ⟨by omega,by omega,h2,h3,h4⟩
theorem aug (s:ql) (hI:Lu s):bM (fun s'=>Lu s'∧Gy s'<Gy s) (fun x s'=>ai5 x s s') (aqd s):=by
 unfold aqd Yk
 dsimp only [T.rd,T.rl]
 obtain ⟨⟨h0,h1⟩,⟨h2,h3⟩,h4,h5,h6⟩:=hI
 refine au (fun c1=>?_) (fun c1=>?_)
 ·have c1:s.low<s.high:=by simpa using c1
  have hd:(s.high-s.low).tdiv 2=(s.high-s.low) / 2:=Int.tdiv_eq_ediv_of_nonneg (by omega)
  have hm:IntKind.i64.wrap (s.low+IntKind.i64.wrap ((IntKind.i64.wrap (s.high-s.low)).tdiv 2))=s.low+(s.high-s.low) / 2:=by
   rw [aK (x:=s.high-s.low) (by omega) (by omega),hd,aK (x:=(s.high-s.low) / 2) (by omega) (by omega),aK (by omega) (by omega)]
  rw [hm]
  refine au (fun c2=>?_) (fun c2=>?_)
  ·rw [decide_eq_true_eq,h4,adu] at c2
   exact ⟨⟨⟨h0,h1⟩,⟨by simp only;omega,by simp only;omega⟩,h4,h5,h6⟩,by simp only [Gy];omega⟩
  ·rw [decide_eq_false_iff_not,h4,adu] at c2
   rw [aK (x:=s.low+(s.high-s.low) / 2+1) (by omega) (by omega)]
   exact ⟨⟨⟨by simp only;omega,by simp only;omega⟩,⟨h2,h3⟩,h4,h5,h6⟩,by simp only [Gy];omega⟩
 ·have c1:s.high≤s.low:=by simpa using c1
  exact ⟨rfl,by omega⟩
def Jk:bQ ql:=⟨3,24,[0,1,2],[],aA6,aAa,fun v b=>⟨gI (v.getD 0 .junk),gI (v.getD 1 .junk),gI (aY (aO b 0) 0),gI (aY (aO b 2) 0)⟩,Yk,fun s r=> {r with r:=s.r,n:=s.n},fun s=>s,fun _ s=>s,[.exit 0],ab3,Lu,Gy⟩
abbrev YO:=Jk.run
abbrev anO:=Jk.jZ
abbrev awc:=Jk.q
noncomputable def Du:Specs:=bf [(154,Xp),(156,aio)]
theorem Hl:∀g S,Du g=some S→Valid Tryz.prog aP g S:=aS (l:=[(154,Xp),(156,aio)]) ⟨arn,aw1,trivial⟩
noncomputable def ag6:Hand:=inl Tryz.prog aP Du (lJ Tryz.prog aP (Du) 20 2) 9
theorem ao7:dM Tryz.prog aP ag6:=bT Hl (dP Hl) 9
theorem asK (s:ql) (hI:Lu s):(Yk s).all (fun _=>True):=by
 refine ⟨fun c1=>⟨?_,?_,fun _=>trivial,fun _=>trivial⟩,fun _=>trivial⟩
 all_goals ((obtain ⟨⟨h0,h1⟩,⟨h2,h3⟩,h4,h5,h6⟩:=hI;simp only [decide_eq_true_eq] at c1;first|decide|(have hd:(s.high-s.low).tdiv 2=(s.high-s.low) / 2:=Int.tdiv_eq_ediv_of_nonneg (by omega);have hm:IntKind.i64.wrap (s.low+IntKind.i64.wrap ((IntKind.i64.wrap (s.high-s.low)).tdiv 2))=s.low+(s.high-s.low) / 2:=(by rw [aK (x:=s.high-s.low) (by omega) (by omega),hd,aK (x:=(s.high-s.low) / 2) (by omega) (by omega),aK (by omega) (by omega)]);rw [hm];omega)))
theorem afL:Jk.Ok:=⟨fun s=>by kernel_rfl,fun s=>by kernel_rfl,fun s=>rfl,fun s t r=>rfl,fun s=>rfl,fun s=>by kernel_rfl⟩
theorem aeN:Jk.Pf (ai5):=⟨ax9,fun _ _=>rfl,aug,asK⟩
theorem akI:bg Tryz.prog aP (AN 3) (.loop SB) Jk.lp:=bQ.snd afL aeN (bF (Γ:=Du) (K:=ag6) (L:=(sH Tryz.prog aP Du ag6 20 2)) Hl ao7 SB (fun b _=>dR Hl ao7 20 2 b)) (fun s=>by kernel_rfl)
theorem am4 (s:ql) (hE:ab3 s):∃s',Lu s'∧ai5 (anO s) s' (YO s):=bQ.fin afL aeN s hE
def aaR:List LV→T LV
 | [.v (.int .i64 n)]=> .ok (.v (.tuple #[.int .i64 (wtA n),.int .i64 (wtE n)]))
 |_=> .no
noncomputable def WR:List LV→T LV:=gW Tryz.prog Tryz.f136.params.toList aaR
noncomputable def apj:Hand:=inl Tryz.prog aP Du (ku 161 3 1 (Jk.lp) (lJ Tryz.prog aP (Du) 20 2)) 9
theorem ayp:dM Tryz.prog aP apj:=bT Hl (dL Tryz.func161 rfl (by kernel_rfl) akI (dP Hl)) 9
theorem al0 (n:Int):bW Tryz.prog aP (Du) apj aC Tryz.f136 [.v (.int .i64 n)]=.br (!(inB n 0 1000000)) (.ok (.v (.tuple #[.int .i64 0,.int .i64 1]))) (.req (awc (⟨(0:Int),(IntKind.i64.wrap ((IntKind.i64.wrap (2*n))+2)),(999800:Int),n⟩:ql)) (.ok (.v (.tuple #[.int .i64 (YO (⟨(0:Int),(IntKind.i64.wrap ((IntKind.i64.wrap (2*n))+2)),(999800:Int),n⟩:ql)).low,.int .i64 0])))):=by kernel_rfl
theorem aqU:Valid Tryz.prog aP 136 WR:=aH Tryz.func136 rfl Hl ayp (aW (by kernel_rfl)) (fun args lv h=>by
 unfold aaR at h
 split at h
 ·simp only [canL,canX]
  rw [al0]
  rename_i n
  obtain rfl:=h
  refine ⟨fun c=>?_,fun c=>?_⟩
  ·have c:inB n 0 1000000=false:=ntW c
   unfold wtA wtE
   rw [c]
   rfl
  ·have c:inB n 0 1000000=true:=PS c
   have hb:=dZ.1 c
   have hE:ab3 ⟨0,IntKind.i64.wrap (IntKind.i64.wrap (2*n)+2),999800,n⟩:=⟨rfl,by
    show IntKind.i64.wrap (IntKind.i64.wrap (2*n)+2)=2*n+2
    rw [aK (x:=2*n) (by omega) (by omega),aK (by omega) (by omega)],rfl,hb.1,hb.2⟩
   obtain ⟨_,_,_,q⟩:=am4 _ hE
   refine ⟨⟨hE,rfl,rfl⟩,?_⟩
   rw [q]
   unfold wtA wtE
   rw [if_pos c,if_pos c]
   exact rfl
 ·cases h)
end Go.Proofs.YtlihnbimgclogaaGreatDoor
namespace Go.Proofs.YtlihnbimgclogaaGreatDoor
open Go.Sx
def aiC:List LV→T LV
 | [.v (.int .i64 n),.v (.int .i64 a),.v (.int .i64 b)]=> .ok (.v (.bool (inB n a b)))
 |_=> .no
noncomputable def Td:List LV→T LV:=gW Tryz.prog Tryz.f108.params.toList aiC
noncomputable def ahu:Specs:=bf []
theorem apx:∀g S,ahu g=some S→Valid Tryz.prog aP g S:=aS (l:=[]) trivial
theorem atW (n a b:Int):bW Tryz.prog aP (ahu) eY aC Tryz.f108 [.v (.int .i64 n),.v (.int .i64 a),.v (.int .i64 b)]=.ok (.v (.bool ((decide (n≥a))&&(decide (n≤b))))):=by kernel_rfl
theorem aoB:Valid Tryz.prog aP 108 Td:=aH Tryz.func108 rfl apx aG (aW (by kernel_rfl)) (fun args lv h=>by
 unfold aiC at h
 split at h
 ·simp only [canL,canX]
  rw [atW]
  exact h
 ·cases h)
def abp:List LV→T LV
 | [.v (.agg ⟨[.int .i64 nu,.int .i64 co,.int .i64 am,.int .i64 fr,.int .i64 tk]⟩)]=> .ok (.v (.bool (G5 (nu,co,am,fr,tk))))
 |_=> .no
noncomputable def IJ:List LV→T LV:=gW Tryz.prog Tryz.f63.params.toList abp
noncomputable def apK:Specs:=bf [(108,Td)]
theorem ayF:∀g S,apK g=some S→Valid Tryz.prog aP g S:=aS (l:=[(108,Td)]) ⟨aoB,trivial⟩
theorem amx (nu co am fr tk:Int):bW Tryz.prog aP (apK) eY aC Tryz.f63 [.v (.agg #[.int .i64 nu,.int .i64 co,.int .i64 am,.int .i64 fr,.int .i64 tk])]=.ok (.v (.bool ((inB nu (1:Int) (1000000:Int))&&((inB co (0:Int) (15:Int))&&((inB am (0:Int) (80:Int))&&((inB fr (0:Int) (1000000:Int))&&(inB tk (1:Int) (1000:Int)))))))):=by kernel_rfl
theorem adI:Valid Tryz.prog aP 63 IJ:=aH Tryz.func63 rfl ayF aG (aW (by kernel_rfl)) (fun args lv h=>by
 unfold abp at h
 split at h
 ·simp only [canL,canX]
  rw [amx]
  exact h
 ·cases h)
def aiD:List LV→T LV
 | [.v (.agg ⟨[.int .i64 nu,.int .i64 co,.int .i64 am,.int .i64 fr,.int .i64 tk]⟩),.v (.agg ⟨[.int .i64 nu2,.int .i64 co2,.int .i64 am2,.int .i64 fr2,.int .i64 tk2]⟩)]=> .ok (.v (.bool (xA (nu,co,am,fr,tk) (nu2,co2,am2,fr2,tk2))))
 |_=> .no
noncomputable def Tf:List LV→T LV:=gW Tryz.prog Tryz.f64.params.toList aiD
theorem atX (nu co am fr tk nu2 co2 am2 fr2 tk2:Int):bW Tryz.prog aP (ahu) eY aC Tryz.f64 [.v (.agg #[.int .i64 nu,.int .i64 co,.int .i64 am,.int .i64 fr,.int .i64 tk]),.v (.agg #[.int .i64 nu2,.int .i64 co2,.int .i64 am2,.int .i64 fr2,.int .i64 tk2])]=.ok (.v (.bool ((decide (nu2>nu))&&(decide (fr2≥fr))))):=by kernel_rfl
theorem aoC:Valid Tryz.prog aP 64 Tf:=aH Tryz.func64 rfl apx aG (aW (by kernel_rfl)) (fun args lv h=>by
 unfold aiD at h
 split at h
 ·simp only [canL,canX]
  rw [atX]
  exact h
 ·cases h)
def abq:List LV→T LV
 | [.v (.agg ⟨[.int .i64 nu,.int .i64 co,.int .i64 am,.int .i64 fr,.int .i64 tk]⟩)]=> .req ((0≤fr∧fr≤1000000)∧0≤tk∧tk≤1000000) (.ok (.v (.int .i64 (ac3 (nu,co,am,fr,tk)))))
 |_=> .no
noncomputable def Xm:List LV→T LV:=gW Tryz.prog Tryz.f109.params.toList abq
noncomputable def apJ:Specs:=bf [(136,WR)]
theorem ayE:∀g S,apJ g=some S→Valid Tryz.prog aP g S:=aS (l:=[(136,WR)]) ⟨aqU,trivial⟩
theorem amy (nu co am fr tk:Int):bW Tryz.prog aP (apJ) eY aC Tryz.f109 [.v (.agg #[.int .i64 nu,.int .i64 co,.int .i64 am,.int .i64 fr,.int .i64 tk])]=.br ((wtE tk) !=0) (.ok (.v (.int .i64 fr))) (.ok (.v (.int .i64 (IntKind.i64.wrap ((IntKind.i64.wrap (fr+10))+(wtA tk)))))):=by kernel_rfl
theorem arj:Valid Tryz.prog aP 109 Xm:=aH Tryz.func109 rfl ayE aG (aW (by kernel_rfl)) (fun args lv h=>by
 unfold abq at h
 split at h
 ·simp only [canL,canX]
  rw [amy]
  rename_i nu co am fr tk
  obtain ⟨⟨hf,ht⟩,rfl⟩:=h
  have c:inB tk 0 1000000=true:=dZ.2 ht
  have hw:=aoy ht.1
  have ea:wtA tk=wt tk:=by unfold wtA;rw [if_pos c]
  have ee:wtE tk=0:=by unfold wtE;rw [if_pos c]
  rw [ea,ee,aK (x:=fr+10) (by omega) (by omega),aK (by omega) (by omega)]
  exact ⟨fun h=>(by cases h),fun _=>rfl⟩
 ·cases h)
structure oQ where
 l:List Le
 r:Bool
 m:List Le
 n:Int
 i:Int
def aA5 (s:oQ):List LV:=[.xl jL s.l,.v (.bool s.r),.xl jL s.m,.v (.int .i64 s.n),.v (.int .i64 s.i)]
def az9 (_:oQ):List aT:=[]
noncomputable def AL:Code:=((aF (Tryz.f62.body.getD .skip))[0]?).getD .skip
def Yj (s:oQ):T (Rd oQ):=
 .br (decide (s.i<s.n)) (.req (0≤s.i∧s.i<(List.length s.m:Int)) (.br (!(G5 (bI s.m s.i))) (.ok (.stop (.ret) {s with r:=false})) (.br (decide (s.i>0)) (.req (0≤(IntKind.i64.wrap (s.i-1))∧(IntKind.i64.wrap (s.i-1))<(List.length s.l:Int)) (.br (!(xA (bI s.l (IntKind.i64.wrap (s.i-1))) (bI s.m s.i))) (.ok (.stop (.ret) {s with r:=false})) (.ok (.next {s with i:=(IntKind.i64.wrap (s.i+1))})))) (.ok (.next {s with i:=(IntKind.i64.wrap (s.i+1))}))))) (.ok (.stop (.exit 0) s))
abbrev aqc (s:oQ):=(Yj s).rd s
def ab2 (s:oQ):Prop:=s.i=0∧s.n=(List.length s.l:Int)∧s.n≤1000∧s.m=s.l
def Ls (s:oQ):Prop:=(0≤s.i∧s.i≤s.n)∧s.n=(List.length s.l:Int)∧s.n≤1000∧s.m=s.l∧∀j:Nat,(j:Int)<s.i→jr s.l j=true
def Gx (s:oQ):Nat:=(s.n-s.i).toNat
def ai4 (x:Ex) (_ s':oQ):Prop:=(x=.exit 0∧∀j:Nat,(j:Int)<s'.n→jr s'.l j=true)∨(x=.ret∧s'.r=false∧∃j:Nat,(j:Int)<s'.n∧jr s'.l j=false)
theorem ax8:∀s,ab2 s→Ls s:=by
 intro s h
 obtain ⟨h0,h2,h3,h4⟩:=h
 exact ⟨by omega,h2,h3,h4,fun j hj=>by omega⟩
theorem aue (s:oQ) (hI:Ls s):bM (fun s'=>Ls s'∧Gx s'<Gx s) (fun x s'=>ai4 x s s') (aqc s):=by
 unfold aqc Yj
 dsimp only [T.rd,T.rl]
 obtain ⟨⟨h0,h1⟩,h2,h3,h4,hA⟩:=hI
 refine au (fun c1=>?_) (fun c1=>?_)
 ·refine au (fun c2=>?_) (fun c2=>?_)
  ·have c1:s.i<s.n:=by simpa using c1
   rw [h4] at c2
   refine .inr ⟨rfl,rfl,s.i.toNat,by simp only;omega,?_⟩
   rw [Int.toNat_of_nonneg h0]
   show jr s.l s.i=false
   unfold jr
   rw [ntW c2]
   rfl
  ·refine au (fun c3=>?_) (fun c3=>?_)
   ·refine au (fun c4=>?_) (fun c4=>?_)
    ·have c1:s.i<s.n:=by simpa using c1
     rw [h4] at c2
     have c3:0<s.i:=by simpa using c3
     rw [aK (x:=s.i-1) (by omega) (by omega),h4] at c4
     refine .inr ⟨rfl,rfl,s.i.toNat,by simp only;omega,?_⟩
     rw [Int.toNat_of_nonneg h0]
     show jr s.l s.i=false
     unfold jr
     rw [PS c2,decide_eq_false (by omega),ntW c4]
     rfl
    ·have c1:s.i<s.n:=by simpa using c1
     rw [h4] at c2
     have c3:0<s.i:=by simpa using c3
     rw [aK (x:=s.i-1) (by omega) (by omega),h4] at c4
     have hg:jr s.l s.i=true:=by unfold jr;rw [PS c2,decide_eq_false (by omega),PS c4];rfl
     rw [aK (x:=s.i+1) (by omega) (by omega)]
     exact ⟨⟨⟨by simp only;omega,by simp only;omega⟩,h2,h3,h4,fun j hj=>by
      by_cases e:(j:Int)<s.i
      ·exact hA j e
      ·have e:(j:Int)=s.i:=by simp only at hj;omega
       show jr s.l j=true
       rw [e];exact hg⟩,by simp only [Gx];omega⟩
   ·have c1:s.i<s.n:=by simpa using c1
    rw [h4] at c2
    have hg:jr s.l s.i=true:=by unfold jr;rw [PS c2,decide_eq_true (by simp at c3;omega)];rfl
    rw [aK (x:=s.i+1) (by omega) (by omega)]
    exact ⟨⟨⟨by simp only;omega,by simp only;omega⟩,h2,h3,h4,fun j hj=>by
     by_cases e:(j:Int)<s.i
     ·exact hA j e
     ·have e:(j:Int)=s.i:=by simp only at hj;omega
      show jr s.l j=true
      rw [e];exact hg⟩,by simp only [Gx];omega⟩
 ·have c1:s.n≤s.i:=by simpa using c1
  exact .inl ⟨rfl,fun j hj=>hA j (by omega)⟩
def Eo:bQ oQ:=⟨0,33,[0,2,8,9,10],[],aA5,az9,fun v _=>⟨aQ jL (v.getD 0 .junk),vH (v.getD 1 .junk),aQ jL (v.getD 2 .junk),gI (v.getD 3 .junk),gI (v.getD 4 .junk)⟩,Yj,fun s r=> {r with l:=s.l,m:=s.m,n:=s.n},fun s=>s,fun _ s=>s,[.ret,.exit 0],ab2,Ls,Gx⟩
abbrev YN:=Eo.run
abbrev aar:=Eo.jZ
abbrev av9:=Eo.q
theorem asJ (s:oQ) (hI:Ls s):(Yj s).all (fun _=>True):=by
 refine ⟨fun c1=>⟨?_,fun _=>trivial,fun c2=>⟨fun c3=>⟨?_,fun _=>trivial,fun _=>trivial⟩,fun _=>trivial⟩⟩,fun _=>trivial⟩
 all_goals ((obtain ⟨⟨h0,h1⟩,h2,h3,h4,hA⟩:=hI;simp only [decide_eq_true_eq] at c1;have hl:s.m.length=s.l.length:=congrArg List.length h4;first|omega|(simp only [decide_eq_true_eq,gt_iff_lt] at c3;rw [aK (x:=s.i-1) (by omega) (by omega)];omega)))
noncomputable def aht:Specs:=bf [(63,IJ),(64,Tf)]
theorem apw:∀g S,aht g=some S→Valid Tryz.prog aP g S:=aS (l:=[(63,IJ),(64,Tf)]) ⟨adI,aoC,trivial⟩
theorem afK:Eo.Ok:=⟨fun s=>by kernel_rfl,fun s=>by kernel_rfl,fun s=>rfl,fun s t r=>rfl,fun s=>rfl,fun s=>by kernel_rfl⟩
theorem aeM:Eo.Pf (ai4):=⟨ax8,fun _ _=>rfl,aue,asJ⟩
theorem akH:bg Tryz.prog aP (AN 0) (.loop AL) Eo.lp:=bQ.snd afK aeM (aU (Γ:=aht) (K:=eY) (L:=aC) apw aG AL (fun b hb=>by rw [show aF AL=[] by kernel_rfl] at hb;cases hb)) (fun s=>by kernel_rfl)
theorem am0 (s:oQ) (hE:ab2 s):∃s',Ls s'∧ai4 (aar s) s' (YN s):=bQ.fin afK aeM s hE
def abm:List LV→T LV
 | [.xl (.pair (.int .i64) (.pair (.int .i64) (.pair (.int .i64) (.pair (.int .i64) (.int .i64))))) l]=> .ok (.v (.bool (jY l)))
 |_=> .no
noncomputable def yI:List LV→T LV:=gW Tryz.prog Tryz.f62.params.toList abm
theorem amu (l:List Le):bW Tryz.prog aP (aht) eY (fun i=>if i=4 then Eo.lp else aC i) Tryz.f62 [.xl jL l]=.br (decide ((List.length l:Int)>64)) (.ok (.v (.bool false))) (.req (av9 (⟨l,false,l,(List.length l:Int),(0:Int)⟩:oQ)) (.br (ig (aar (⟨l,false,l,(List.length l:Int),(0:Int)⟩:oQ)) (.ret)) (.ok (.v (.bool (YN (⟨l,false,l,(List.length l:Int),(0:Int)⟩:oQ)).r))) (.ok (.v (.bool true))))):=by kernel_rfl
theorem UB:Valid Tryz.prog aP 62 yI:=aH Tryz.func62 rfl apw aG (L:=(fun i=>if i=4 then Eo.lp else aC i)) (fun b hb=>by
 rw [show aF _=[AL] by kernel_rfl] at hb
 simp only [List.mem_cons,List.not_mem_nil,or_false] at hb
 subst hb
 exact akH) (fun args lv h=>by
 unfold abm at h
 split at h
 ·simp only [canL,canX]
  rw [amu]
  rename_i l
  obtain rfl:=h
  refine ⟨fun c=>congrArg (fun z=>LV.v (.bool z)) ?_,fun c=>?_⟩
  ·have c:64<(List.length l:Int):=by simpa using c
   unfold jY
   rw [decide_eq_false (by omega)]
   rfl
  ·have c:(List.length l:Int)≤64:=by simpa using c
   have hE:ab2 ⟨l,false,l,(List.length l:Int),0⟩:=⟨rfl,rfl,by simp only;omega,rfl⟩
   refine ⟨⟨hE,rfl,rfl⟩,?_⟩
   obtain ⟨_,_,hq⟩:=am0 _ hE
   rcases hq with ⟨q1,q2⟩ |⟨q1,q2,j,q3,q4⟩<;>rw [q1]
   ·have e:Jr l.length (jr l)=true:=fM.2 (fun j hj=>q2 j (by show (j:Int)<(List.length l:Int);omega))
    unfold jY
    rw [decide_eq_true (by omega),e]
    exact ⟨fun h=>(by cases h),fun _=>rfl⟩
   ·have e:Jr l.length (jr l)=false:=sU j (by have q3:(j:Int)<(List.length l:Int):=q3;omega) q4
    rw [q2]
    unfold jY
    rw [decide_eq_true (by omega),e]
    exact ⟨fun _=>rfl,fun h=>by cases h⟩
 ·cases h)
end Go.Proofs.YtlihnbimgclogaaGreatDoor
namespace Go.Proofs.YtlihnbimgclogaaGreatDoor
open Go.Sx
structure oU where
 l:List Le
 pW:Int
 tick:Int
 e:Int
 m:List Le
 k:Int
 i:Int
def aBt (s:oU):List LV:=[.xl jL s.l,.v (.int .i64 s.pW),.v (.int .i64 s.tick),.v (.slice none 0 0),.v (.int .i64 s.e),.xl jL s.m,.v (.int .i64 s.k),.v (.int .i64 s.i)]
def aAw (_:oU):List aT:=[]
noncomputable def Bg:Code:=((aF (Tryz.f66.body.getD .skip))[0]?).getD .skip
def Yy (s:oU):T (Rd oU):=
 .br (decide (s.i<s.k)) (.req (0≤s.i∧s.i<(List.length s.m:Int)) (.br (decide ((bI s.m s.i).2.1≥s.pW)) (.ok (.stop (.ret) {s with e:=(1:Int)})) (.ok (.next {s with i:=(IntKind.i64.wrap (s.i+1))})))) (.ok (.stop (.exit 0) s))
abbrev aqp (s:oU):=(Yy s).rd s
def aco (s:oU):Prop:=s.i=0∧s.k=(List.length s.m:Int)∧s.k≤1000
def L6 (s:oU):Prop:=(0≤s.i∧s.i≤s.k)∧s.k=(List.length s.m:Int)∧s.k≤1000∧∀x∈s.m.take s.i.toNat,x.2.1<s.pW
def Ol (s:oU):Nat:=(s.k-s.i).toNat
def aji (x:Ex) (_ s':oU):Prop:=(x=.exit 0∧below s'.pW s'.m=true)∨(x=.ret∧s'.e=1∧below s'.pW s'.m=false)
theorem azq:∀s,aco s→L6 s:=by
 intro s h
 obtain ⟨h0,h1,h2⟩:=h
 exact ⟨by omega,h1,h2,by rw [h0];intro x hx;cases hx⟩
theorem avt (s:oU) (hI:L6 s):bM (fun s'=>L6 s'∧Ol s'<Ol s) (fun x s'=>aji x s s') (aqp s):=by
 unfold aqp Yy
 dsimp only [T.rd,T.rl]
 obtain ⟨⟨h0,h1⟩,h2,h3,h4⟩:=hI
 refine au (fun c1=>?_) (fun c1=>?_)
 ·have c1:s.i<s.k:=by simpa using c1
  refine au (fun c2=>?_) (fun c2=>?_)
  ·refine .inr ⟨rfl,rfl,?_⟩
   unfold below
   rw [List.all_eq_false]
   exact ⟨bI s.m s.i,Fe h0 (by simp only;omega),by simpa using c2⟩
  ·rw [aK (x:=s.i+1) (by omega) (by omega)]
   refine ⟨⟨⟨by simp only;omega,by simp only;omega⟩,h2,h3,fun x hx=>?_⟩,by simp only [Ol];omega⟩
   rw [(Hz h0 (by simp only;omega)).2,List.mem_append,List.mem_singleton] at hx
   rcases hx with hx|rfl
   ·exact h4 x hx
   ·simpa using c2
 ·have c1:s.k≤s.i:=by simpa using c1
  refine .inl ⟨rfl,?_⟩
  rw [List.take_of_length_le (by omega)] at h4
  unfold below
  rw [List.all_eq_true]
  exact fun x hx=>decide_eq_true (h4 x hx)
def EK:bQ oU:=⟨0,48,[0,1,2,6,7,26,27,28],[],aBt,aAw,fun v _=>⟨aQ jL (v.getD 0 .junk),gI (v.getD 1 .junk),gI (v.getD 2 .junk),gI (v.getD 4 .junk),aQ jL (v.getD 5 .junk),gI (v.getD 6 .junk),gI (v.getD 7 .junk)⟩,Yy,fun s r=> {r with l:=s.l,pW:=s.pW,tick:=s.tick,m:=s.m,k:=s.k},fun s=>s,fun _ s=>s,[.ret,.exit 0],aco,L6,Ol⟩
abbrev YV:=EK.run
abbrev aaA:=EK.jZ
abbrev aww:=EK.q
theorem as8 (s:oU) (hI:L6 s):(Yy s).all (fun _=>True):=by
 refine ⟨fun c1=>⟨?_,fun _=>trivial,fun _=>trivial⟩,fun _=>trivial⟩
 ·(obtain ⟨⟨h0,h1⟩,h2,h3,h4⟩:=hI;simp only [decide_eq_true_eq] at c1;omega)
noncomputable def zF:Specs:=bf [(62,yI),(108,Td),(109,Xm)]
theorem Dl:∀g S,zF g=some S→Valid Tryz.prog aP g S:=aS (l:=[(62,yI),(108,Td),(109,Xm)]) ⟨UB,aoB,arj,trivial⟩
noncomputable def Zp:Hand:=inl Tryz.prog aP zF (lJ Tryz.prog aP (zF) 20 2) 9
theorem agZ:dM Tryz.prog aP Zp:=bT Dl (dP Dl) 9
theorem af6:EK.Ok:=⟨fun s=>by kernel_rfl,fun s=>by kernel_rfl,fun s=>rfl,fun s t r=>rfl,fun s=>rfl,fun s=>by kernel_rfl⟩
theorem ae6:EK.Pf (aji):=⟨azq,fun _ _=>rfl,avt,as8⟩
theorem ak1:bg Tryz.prog aP (AN 0) (.loop Bg) EK.lp:=bQ.snd af6 ae6 (aU (Γ:=zF) (K:=Zp) (L:=aC) Dl agZ Bg (fun b hb=>by rw [show aF Bg=[] by kernel_rfl] at hb;cases hb)) (fun s=>by kernel_rfl)
theorem aoq (s:oU) (hE:aco s):∃s',L6 s'∧aji (aaA s) s' (YV s):=bQ.fin af6 ae6 s hE
noncomputable def aec:Array Tmp×Code×Code:=((jD (Tryz.f66.body.getD .skip))[0]?).getD (#[],.skip,.skip)
noncomputable def axw:Array Tmp:=aec.1
noncomputable def axP:Code:=aec.2.1
noncomputable def axK:Code:=aec.2.2
structure kL where
 m:List Le
 k:Int
 i:Int
 o:List Int
 q:List Le
 t:Int
 st:LS
def aBs (s:kL):List LV:=[.um 5,.own 4 0,.xl jL s.m,.v (.int .i64 s.k),.v (.int .i64 s.i)]
noncomputable def aAv (s:kL):List aT:=[⟨[],3,.vec (.int .i64) s.o,false⟩,⟨[.os 0 1 0 (List.length s.o)],35,.cl,false⟩,⟨[.fn 110 [.own 1 0]],160,.cl,false⟩,⟨[.xl jL s.q],29,.cl,false⟩,⟨[.v (.int .i64 s.t)],3,.cl,false⟩,⟨[.junk,.junk,.junk,.junk,.junk,.junk,.junk,.junk,.junk,.junk,.junk,.own 2 0,.junk,.junk,.junk,.junk,.junk,.junk,.junk,.junk,.junk,.junk,.junk,.junk,.junk,.junk,.junk,.junk,.junk,.junk,.junk,.junk,.junk,.junk,.junk,.junk,.junk,.junk,.junk,.junk,.junk,.junk,.junk,.junk,.junk,.junk,.junk,.junk],0,.kD axw axP axK s.st,false⟩]
noncomputable def SK:Code:=((aF (Tryz.f137.body.getD .skip))[0]?).getD .skip
def Qv (s:kL):T (Rd kL):=
 .br (decide (s.i<s.k)) (.req (0≤s.i∧s.i<(List.length s.m:Int)) (.br (decide ((bI s.m s.i).2.2.2.1>s.t)) (.rl s.o (.ok (.stop (.exit 0) s))) (.req ((0≤(bI s.m s.i).2.2.2.1∧(bI s.m s.i).2.2.2.1≤1000000)∧0≤(bI s.m s.i).2.2.2.2∧(bI s.m s.i).2.2.2.2≤1000000) (.br (decide ((ac3 (bI s.m s.i))≤s.t)) (.rl s.o (.ok (.next {s with i:=(IntKind.i64.wrap (s.i+1))}))) (.req (0≤(bI s.m s.i).2.1∧(bI s.m s.i).2.1<((List.length s.o:Nat):Int)) (.req ((bI s.m s.i).2.1.toNat<List.length s.o) (.req (0≤(bI s.m s.i).2.1∧(bI s.m s.i).2.1<((List.length s.o:Nat):Int)) (.req ((bI s.m s.i).2.1.toNat<List.length s.o) (.req (0=0∧(List.length s.o)=List.length (s.o.set (bI s.m s.i).2.1.toNat (if (s.o.getD (bI s.m s.i).2.1.toNat (Ty.dflt (.int .i64)))<(bI s.m s.i).2.2.1 then (bI s.m s.i).2.2.1 else (s.o.getD (bI s.m s.i).2.1.toNat (Ty.dflt (.int .i64)))))) (.ok (.next {s with i:=(IntKind.i64.wrap (s.i+1)),o:=(s.o.set (bI s.m s.i).2.1.toNat (if (s.o.getD (bI s.m s.i).2.1.toNat (Ty.dflt (.int .i64)))<(bI s.m s.i).2.2.1 then (bI s.m s.i).2.2.1 else (s.o.getD (bI s.m s.i).2.1.toNat (Ty.dflt (.int .i64)))))}))))))))))) (.rl s.o (.ok (.stop (.exit 0) s)))
abbrev aaf (s:kL):=(Qv s).rd s
def acn (s:kL):Prop:=s.st=.ready∧s.i=0∧s.k=(List.length s.m:Int)∧s.k≤1000∧(∀x∈s.m,G5 x=true∧x.2.1<(s.o.length:Int))∧s.m.Pairwise (fun a b=>a.1<b.1∧a.2.2.2.1≤b.2.2.2.1)
def TW (s:kL):Prop:=s.st=.ready∧(0≤s.i∧s.i≤s.k)∧s.k=(List.length s.m:Int)∧s.k≤1000∧(∀x∈s.m,G5 x=true∧x.2.1<(s.o.length:Int))∧s.m.Pairwise (fun a b=>a.1<b.1∧a.2.2.2.1≤b.2.2.2.1)
def GK (s:kL):Nat:=(s.k-s.i).toNat
def aqJ (x:Ex) (_ _:kL):Prop:=x=.exit 0
theorem azp:∀s,acn s→TW s:=by
 intro s h
 obtain ⟨h0,h1,h2⟩:=h
 exact ⟨h0,by omega,h2⟩
theorem avs (s:kL) (hI:TW s):bM (fun s'=>TW s'∧GK s'<GK s) (fun x s'=>aqJ x s s') (aaf s):=by
 unfold aaf Qv
 dsimp only [T.rd,T.rl]
 obtain ⟨hs,⟨h0,h1⟩,h2,h3,h4,h5⟩:=hI
 refine au (fun c1=>?_) (fun c1=>rfl)
 have c1:s.i<s.k:=by simpa using c1
 rw [aK (x:=s.i+1) (by omega) (by omega)]
 refine au (fun c2=>rfl) (fun c2=>au (fun c3=>?_) (fun c3=>?_))
 ·exact ⟨⟨hs,⟨by simp only;omega,by simp only;omega⟩,h2,h3,h4,h5⟩,by simp only [GK];omega⟩
 ·exact ⟨⟨hs,⟨by simp only;omega,by simp only;omega⟩,h2,h3,fun x hx=>by simp only [List.length_set];exact h4 x hx,h5⟩,by simp only [GK];omega⟩
noncomputable def Jp:bQ kL:=⟨6,27,[0,2,6,7,8],[],aBs,aAv,fun v b=>⟨aQ jL (v.getD 2 .junk),gI (v.getD 3 .junk),gI (v.getD 4 .junk),jk (.int .i64) (aO b 0),aQ jL (aY (aO b 3) 0),gI (aY (aO b 4) 0),.ready⟩,Qv,fun s r=> {r with m:=s.m,k:=s.k,q:=s.q,t:=s.t,st:=s.st},fun s=> {s with st:=.ready},fun x s=> {s with st:=(match x with| .exit 0=> .ready|_=> .ready)},[.exit 0],acn,TW,GK⟩
noncomputable abbrev wH:=Jp.run
noncomputable abbrev anX:=Jp.jZ
abbrev awv:=Jp.q
theorem as7 (s:kL) (hI:TW s):(Qv s).all (fun _=>True):=by
 refine ⟨fun c1=>⟨?_,fun c2=>⟨⟨rfl,rfl⟩,trivial⟩,fun c2=>⟨?_,fun c3=>⟨⟨rfl,rfl⟩,trivial⟩,fun c3=>⟨?_,?_,?_,?_,?_,trivial⟩⟩⟩,fun c1=>⟨⟨rfl,rfl⟩,trivial⟩⟩
 all_goals ((obtain ⟨hs,⟨h0,h1⟩,h2,h3,h4,h5⟩:=hI;simp only [decide_eq_true_eq] at c1;have hv:=(h4 _ (Fe h0 (show s.i<s.m.length by omega))).2;have hl:=OC.1 (h4 _ (Fe h0 (show s.i<s.m.length by omega))).1;first|omega|exact ⟨rfl,by simp⟩))
theorem af5:Jp.Ok:=⟨fun s=>by kernel_rfl,fun s=>by kernel_rfl,fun s=>rfl,fun s t r=>rfl,fun s=>rfl,fun s=>by kernel_rfl⟩
theorem ae5:Jp.Pf (aqJ):=⟨azp,fun s h=>by
 obtain ⟨m,k,i,o,q,t,st⟩:=s
 have e:st=.ready:=h.1
 subst e
 rfl,avs,as7⟩
theorem ak0:bg Tryz.prog aP (AN 6) (.loop SK) Jp.lp:=bQ.snd af5 ae5 (bF (Γ:=zF) (K:=Zp) (L:=(sH Tryz.prog aP zF Zp 20 2)) Dl agZ SK (fun b _=>dR Dl agZ 20 2 b)) (fun s=>by kernel_rfl)
theorem aop (s:kL) (hE:acn s):(fun (x:Ex) (s':kL) (v:List Int)=>x=.exit 0∧s'.o=v) (anX s) (wH s) ((fun s:kL=>((s.m.drop s.i.toNat).filter (SY s.t)).foldl kpA s.o) s):=by
 exact bQ.xB af5 ae5 (fun s:kL=>((s.m.drop s.i.toNat).filter (SY s.t)).foldl kpA s.o) (fun x s' v=>x=.exit 0∧s'.o=v) (fun s hI=>by
  show bM _ _ (aaf s)
  unfold aaf Qv
  dsimp only [T.rd,T.rl]
  obtain ⟨hs,⟨h0,h1⟩,h2,h3,h4,h5⟩:=hI
  refine au (fun c1=>?_) (fun c1=>?_)
  ·have c1:s.i<s.k:=by simpa using c1
   have e:=(Hz h0 (show s.i<(List.length s.m:Int) by omega)).1
   rw [aK (x:=s.i+1) (by omega) (by omega)]
   refine au (fun c2=>?_) (fun c2=>au (fun c3=>?_) (fun c3=>?_))
   ·refine ⟨rfl,?_⟩
    have c2:(bI s.m s.i).2.2.2.1>s.t:=by simpa using c2
    have hp:(s.m.drop s.i.toNat).Pairwise (fun a b=>a.1<b.1∧a.2.2.2.1≤b.2.2.2.1):=List.Pairwise.sublist (List.drop_sublist _ _) h5
    rw [e,List.pairwise_cons] at hp
    rw [List.filter_eq_nil_iff.2]
    ·rfl
    ·rw [e]
     intro x hx
     unfold SY
     rw [decide_eq_false,Bool.false_and]
     ·decide
     ·rcases List.mem_cons.1 hx with rfl|hx
      ·omega
      ·have:=(hp.1 x hx).2
       omega
   ·show List.foldl _ _ _=List.foldl _ _ _
    have c3:ac3 (bI s.m s.i)≤s.t:=by simpa using c3
    have hb:¬SY s.t (bI s.m s.i)=true:=by
     unfold SY
     rw [decide_eq_false (p:=ac3 _>_) (by omega),Bool.and_false]
     decide
    simp only
    rw [e,List.filter_cons,if_neg hb]
   ·show List.foldl _ _ _=List.foldl _ _ _
    have c2:(bI s.m s.i).2.2.2.1≤s.t:=by simpa using c2
    have c3:s.t<ac3 (bI s.m s.i):=by simpa using c3
    have hb:SY s.t (bI s.m s.i)=true:=by
     unfold SY
     rw [decide_eq_true c2,decide_eq_true c3]
     rfl
    simp only
    rw [e,List.filter_cons,if_pos hb,List.foldl_cons]
    rfl
  ·have c1:s.k≤s.i:=by simpa using c1
   refine ⟨rfl,?_⟩
   rw [List.drop_eq_nil_of_le (by omega)]
   rfl) s hE
def abM:List LV→T LV
 | [.xl (.pair (.int .i64) (.pair (.int .i64) (.pair (.int .i64) (.pair (.int .i64) (.int .i64))))) l,.v (.int .i64 n),.v (.int .i64 t)]=> .ok (.gV [.xl (.int .i64) (nV l n t),.v (.int .i64 (SX l n t))])
 |_=> .no
noncomputable def XE:List LV→T LV:=gW Tryz.prog Tryz.f66.params.toList abM
noncomputable def aph:Hand:=inl Tryz.prog aP zF (ku 137 6 1 (Jp.lp) (lJ Tryz.prog aP (zF) 20 2)) 9
theorem ayo:dM Tryz.prog aP aph:=bT Dl (dL Tryz.func137 rfl (by kernel_rfl) ak0 (dP Dl)) 9
theorem amW (l:List Le) (n t:Int):bW Tryz.prog aP (zF) aph (fun i=>if i=4 then EK.lp else aC i) Tryz.f66 [.xl jL l,.v (.int .i64 n),.v (.int .i64 t)]=.br ((!(jY l)) ||((!(inB n (0:Int) (16:Int))) ||(!(inB t (0:Int) (1100000:Int))))) (.ok (.gV [.xl (.int .i64) ([]:List Int),.v (.int .i64 1)])) (.req (aww (⟨l,n,t,(0:Int),l,(List.length l:Int),(0:Int)⟩:oU)) (.br (ig (aaA (⟨l,n,t,(0:Int),l,(List.length l:Int),(0:Int)⟩:oU)) (.ret)) (.ok (.gV [.xl (.int .i64) ([]:List Int),.v (.int .i64 (YV (⟨l,n,t,(0:Int),l,(List.length l:Int),(0:Int)⟩:oU)).e)])) (.req (0≤n∧n≤n∧8*n≤2^48∧n<2^63) (.req (0=0∧n.toNat=List.length (List.replicate n.toNat (0:Int))) (.req (awv (⟨l,(List.length l:Int),(0:Int),(List.replicate n.toNat (0:Int)),l,t,.ready⟩:kL)) (.req (0+(List.length (wH (⟨l,(List.length l:Int),(0:Int),(List.replicate n.toNat (0:Int)),l,t,.ready⟩:kL)).o)≤List.length (wH (⟨l,(List.length l:Int),(0:Int),(List.replicate n.toNat (0:Int)),l,t,.ready⟩:kL)).o) (.ok (.gV [.xl (.int .i64) (((wH (⟨l,(List.length l:Int),(0:Int),(List.replicate n.toNat (0:Int)),l,t,.ready⟩:kL)).o.drop 0).take (List.length (wH (⟨l,(List.length l:Int),(0:Int),(List.replicate n.toNat (0:Int)),l,t,.ready⟩:kL)).o)),.v (.int .i64 0)])))))))):=by kernel_rfl
theorem arE:Valid Tryz.prog aP 66 XE:=aH Tryz.func66 rfl Dl ayo (L:=(fun i=>if i=4 then EK.lp else aC i)) (fun b hb=>by
 rw [show aF _=[Bg] by kernel_rfl] at hb
 simp only [List.mem_cons,List.not_mem_nil,or_false] at hb
 subst hb
 exact ak1) (fun args lv h=>by
 unfold abM at h
 split at h
 ·simp only [canL,canX]
  rw [amW]
  rename_i l n t
  obtain rfl:=h
  have bad:JA l n t=false→LV.gV [.xl (.int .i64) ([]:List Int),.v (.int .i64 1)]=LV.gV [.xl (.int .i64) (nV l n t),.v (.int .i64 (SX l n t))]:=fun c=>by
   unfold nV SX
   rw [c]
   rfl
  refine ⟨fun c=>bad ?_,fun c=>?_⟩
  ·unfold JA
   cases e1:jY l<;>cases e2:inB n 0 16<;>cases e3:inB t 0 1100000<;>simp_all
  have c:(jY l&&(inB n 0 16&&inB t 0 1100000))=true:=by cases e1:jY l<;>cases e2:inB n 0 16<;>cases e3:inB t 0 1100000<;>simp_all
  have c':=c
  rw [Bool.and_eq_true,Bool.and_eq_true,dZ,dZ] at c'
  obtain ⟨hv,hn,ht⟩:=c'
  have hl:=pM hv
  have hE:aco ⟨l,n,t,0,l,(List.length l:Int),0⟩:=⟨rfl,rfl,by simp only;omega⟩
  refine ⟨⟨hE,rfl,rfl⟩,?_⟩
  obtain ⟨_,_,hq⟩:=aoq _ hE
  rcases hq with ⟨q1,q2⟩ |⟨q1,q2,q3⟩<;>rw [q1]
  ·refine ⟨fun h=>(by cases h),fun _=>?_⟩
   have q2:below n l=true:=q2
   have hE2:acn ⟨l,(List.length l:Int),0,List.replicate n.toNat 0,l,t,.ready⟩:=⟨rfl,rfl,rfl,by simp only;omega,fun x hx=>⟨hl.2 x hx,by
    have:=of_decide_eq_true (List.all_eq_true.1 q2 x hx)
    simp only [List.length_replicate]
    omega⟩,acS hv⟩
   obtain ⟨_,q4⟩:=aop _ hE2
   have q4:(wH ⟨l,(List.length l:Int),0,List.replicate n.toNat 0,l,t,.ready⟩).o=WM n.toNat l t:=q4
   refine ⟨by omega,⟨rfl,by simp⟩,⟨hE2,rfl,rfl⟩,by omega,?_⟩
   show LV.gV [LV.xl _ _,_]=_
   rw [List.drop_zero,List.take_length,q4]
   unfold nV SX JA
   rw [c,q2]
   rfl
  ·have q3:below n l=false:=q3
   rw [q2]
   exact ⟨fun _=>bad (by unfold JA;rw [q3,Bool.and_false]),fun h=>by cases h⟩
 ·cases h)
end Go.Proofs.YtlihnbimgclogaaGreatDoor
namespace Go.Proofs.YtlihnbimgclogaaGreatDoor
open Go.Sx
def abl:List LV→T LV
 | [.v (.agg ⟨[.string _,.int .i64 _,.int .i64 _,.int .i64 mi,.int .i64 ma,.int .i64 st,.int .i64 _,.int .i64 _]⟩)]=> .ok (.v (.int .i64 (BZ mi ma st)))
 |_=> .no
noncomputable def Xk:List LV→T LV:=gW Tryz.prog Tryz.f28.params.toList abl
noncomputable def auI:Specs:=bf []
theorem ayP:∀g S,auI g=some S→Valid Tryz.prog aP g S:=aS (l:=[]) trivial
theorem ams (nm:ByteArray) (at_ ph mi ma st fb ow:Int):bW Tryz.prog aP (auI) eY aC Tryz.f28 [.v (.agg #[.string nm,.int .i64 at_,.int .i64 ph,.int .i64 mi,.int .i64 ma,.int .i64 st,.int .i64 fb,.int .i64 ow])]=.br ((decide (mi<1)) ||((decide (mi>ma)) ||((decide (ma>80)) ||((decide (st<1)) ||(decide (st>80)))))) (.ok (.v (.int .i64 0))) (.req (st≠0) (.ok (.v (.int .i64 (IntKind.i64.wrap ((IntKind.i64.wrap ((IntKind.i64.wrap (ma-mi)).tdiv st))+2)))))):=by kernel_rfl
theorem arh:Valid Tryz.prog aP 28 Xk:=aH Tryz.func28 rfl ayP aG (aW (by kernel_rfl)) (fun args lv h=>by
 unfold abl at h
 split at h
 ·simp only [canL,canX]
  rw [ams]
  rename_i mi ma st _ _
  obtain rfl:=h
  refine ⟨fun c=>congrArg (fun z=>LV.v (.int .i64 z)) ?_,fun c=>⟨?_,congrArg (fun z=>LV.v (.int .i64 z)) ?_⟩⟩
  ·have:lX mi ma st=false:=by
    rw [Bool.eq_false_iff];intro h;have:=fF.1 h;simp at c;omega
   rw [Q8 this]
  ·simp at c;omega
  ·have hh:lX mi ma st=true:=fF.2 (by simp at c;omega)
   obtain ⟨h1,h2,h3,h4,h5⟩:=fF.1 hh
   have:=CJ (x:=ma-mi) (st:=st) (by omega) (by omega)
   rw [aK (x:=ma-mi) (by omega) (by omega),Int.tdiv_eq_ediv_of_nonneg (by omega),aK (x:=(ma-mi) / st) (by omega) (by omega),aK (by omega) (by omega)]
   simp [BZ,hh]
 ·cases h)
def abL:List LV→T LV
 | [.v (.agg ⟨[.string _,.int .i64 _,.int .i64 _,.int .i64 mi,.int .i64 _,.int .i64 st,.int .i64 _,.int .i64 _]⟩),.v (.int .i64 k)]=> .req ((1≤mi∧mi≤80∧1≤st∧st≤80)∧0≤k∧k≤1000) (.ok (.v (.int .i64 (BH mi st k))))
 |_=> .no
noncomputable def qg:List LV→T LV:=gW Tryz.prog Tryz.f61.params.toList abL
theorem amV (nm:ByteArray) (at_ ph mi ma st fb ow k:Int):bW Tryz.prog aP (auI) eY aC Tryz.f61 [.v (.agg #[.string nm,.int .i64 at_,.int .i64 ph,.int .i64 mi,.int .i64 ma,.int .i64 st,.int .i64 fb,.int .i64 ow]),.v (.int .i64 k)]=.br (k==0) (.ok (.v (.int .i64 0))) (.ok (.v (.int .i64 (IntKind.i64.wrap (mi+(IntKind.i64.wrap ((IntKind.i64.wrap (k-1))*st))))))):=by kernel_rfl
theorem FM:Valid Tryz.prog aP 61 qg:=aH Tryz.func61 rfl ayP aG (aW (by kernel_rfl)) (fun args lv h=>by
 unfold abL at h
 split at h
 ·simp only [canL,canX]
  rw [amV]
  rename_i mi _ st _ _ k
  obtain ⟨⟨⟨h1,h2,h3,h4⟩,h5,h6⟩,rfl⟩:=h
  refine ⟨fun c=>congrArg (fun z=>LV.v (.int .i64 z)) ?_,fun c=>congrArg (fun z=>LV.v (.int .i64 z)) ?_⟩
  ·have c:k=0:=by simpa using c
   simp [BH,c]
  ·have c:k≠0:=by simpa using c
   have:=aud (a:=k-1) (b:=st) (by omega) (by omega) (by omega) (by omega)
   rw [aK (x:=k-1) (by omega) (by omega),aK (x:=(k-1)*st) (by omega) (by omega),aK (by omega) (by omega)]
   simp [BH,c]
 ·cases h)
def abo:List LV→T LV
 | [.v (.agg ⟨[.string _,.int .i64 _,.int .i64 _,.int .i64 mi,.int .i64 ma,.int .i64 st,.int .i64 _,.int .i64 _]⟩),.v (.int .i64 a)]=> .req (a≤9223372036854775807) (.ok (.v (.int .i64 (Ri mi ma st a))))
 |_=> .no
noncomputable def qc:List LV→T LV:=gW Tryz.prog Tryz.f96.params.toList abo
noncomputable def ayS:Specs:=bf [(28,Xk)]
theorem aBU:∀g S,ayS g=some S→Valid Tryz.prog aP g S:=aS (l:=[(28,Xk)]) ⟨arh,trivial⟩
theorem amw (nm:ByteArray) (at_ ph mi ma st fb ow a:Int):bW Tryz.prog aP (ayS) eY aC Tryz.f96 [.v (.agg #[.string nm,.int .i64 at_,.int .i64 ph,.int .i64 mi,.int .i64 ma,.int .i64 st,.int .i64 fb,.int .i64 ow]),.v (.int .i64 a)]=.br (((BZ mi ma st)==0) ||(decide (a<0))) (.ok (.v (.int .i64 (-1)))) (.br (decide (a<mi)) (.ok (.v (.int .i64 0))) (.req (st≠0) (.ok (.v (.int .i64 (if (IntKind.i64.wrap ((IntKind.i64.wrap ((IntKind.i64.wrap (a-mi)).tdiv st))+1))<(IntKind.i64.wrap ((BZ mi ma st)-1)) then IntKind.i64.wrap ((IntKind.i64.wrap ((IntKind.i64.wrap (a-mi)).tdiv st))+1) else IntKind.i64.wrap ((BZ mi ma st)-1))))))):=by kernel_rfl
theorem FI:Valid Tryz.prog aP 96 qc:=aH Tryz.func96 rfl aBU aG (aW (by kernel_rfl)) (fun args lv h=>by
 unfold abo at h
 split at h
 ·simp only [canL,canX]
  rw [amw]
  rename_i mi ma st _ _ a
  obtain ⟨ha,rfl⟩:=h
  have hb:=agF (mi:=mi) (ma:=ma) (st:=st)
  refine ⟨fun c=>congrArg (fun z=>LV.v (.int .i64 z)) ?_,fun c=>⟨fun c2=>congrArg (fun z=>LV.v (.int .i64 z)) ?_,fun c2=>?_⟩⟩
  ·have c:lX mi ma st=false∨a<0:=by
    simp at c
    rcases c with c|c
    ·left
     cases e:lX mi ma st with
     |false=>rfl
     |true=>have:=Oy e;omega
    ·exact .inr c
   simp only [Ri,if_pos c]
  all_goals
   simp at c c2
   have hh:lX mi ma st=true:=by
    cases e:lX mi ma st with
    |true=>rfl
    |false=>exact absurd (Q8 e) c.1
   have hn:¬(lX mi ma st=false∨a<0):=by simp [hh];omega
   have:=fF.1 hh
  ·simp only [Ri,if_neg hn,if_pos c2]
  ·have:=CJ (x:=a-mi) (st:=st) (by omega) (by omega)
   refine ⟨by omega,congrArg (fun z=>LV.v (.int .i64 z)) ?_⟩
   rw [aK (x:=a-mi) (by omega) (by omega),Int.tdiv_eq_ediv_of_nonneg (by omega),aK (x:=(a-mi) / st) (by omega) (by omega),aK (x:=(a-mi) / st+1) (by omega) (by omega),aK (x:=BZ mi ma st-1) (by omega) (by omega)]
   simp only [Ri,if_neg hn,if_neg (show ¬a<mi by omega)]
   split<;>omega
 ·cases h)
end Go.Proofs.YtlihnbimgclogaaGreatDoor
namespace Go.Proofs.YtlihnbimgclogaaGreatDoor
open Go.Sx
def KH:List LV→T LV
 | [.v (.string w)]=> .ok (.v (.bool (isIn DJ w)))
 |_=> .no
noncomputable def vT:List LV→T LV:=gW Tryz.prog Tryz.f165.params.toList KH
noncomputable def V5:Specs:=bf []
theorem ac0:∀g S,V5 g=some S→Valid Tryz.prog aP g S:=aS (l:=[]) trivial
theorem acK (w:ByteArray):bW Tryz.prog aP (V5) eY aC Tryz.f165 [.v (.string w)]=.br (w.toList==(ByteArray.mk #[108,105,109,105,116]).toList) (.ok (.v (.bool true))) (.br (w.toList==(ByteArray.mk #[110,101,117,116,114,97,108]).toList) (.ok (.v (.bool true))) (.br (w.toList==(ByteArray.mk #[102,117,115,101]).toList) (.ok (.v (.bool true))) (.br (w.toList==(ByteArray.mk #[116,104,101,114,109,97,108]).toList) (.ok (.v (.bool true))) (.br (w.toList==(ByteArray.mk #[102,114,111,109]).toList) (.ok (.v (.bool true))) (.br (w.toList==(ByteArray.mk #[97,116]).toList) (.ok (.v (.bool true))) (.br (w.toList==(ByteArray.mk #[112,104,97,115,101,115]).toList) (.ok (.v (.bool true))) (.br (w.toList==(ByteArray.mk #[97,109,112,115]).toList) (.ok (.v (.bool true))) (.br (w.toList==(ByteArray.mk #[102,97,108,108,98,97,99,107]).toList) (.ok (.v (.bool true))) (.br (w.toList==(ByteArray.mk #[111,119,110,101,114]).toList) (.ok (.v (.bool true))) (.br (w.toList==(ByteArray.mk #[99,97,114,100]).toList) (.ok (.v (.bool true))) (.br (w.toList==(ByteArray.mk #[114,97,110,107]).toList) (.ok (.v (.bool true))) (.br (w.toList==(ByteArray.mk #[99,104,97,114,103,101,114]).toList) (.ok (.v (.bool true))) (.ok (.v (.bool false))))))))))))))):=by kernel_rfl
theorem PY:Valid Tryz.prog aP 165 vT:=aH Tryz.func165 rfl ac0 aG (aW (by kernel_rfl)) (fun args lv h=>by
 unfold KH at h
 split at h
 ·simp only [canL,canX]
  rw [acK]
  obtain rfl:=h
  simp only [sK]
  unfold isIn DJ
  simp only [List.any_cons,List.any_nil]
  refine ⟨fun c0=>by simp [c0,T.all],fun c0=>?_⟩
  rw [c0,Bool.false_or]
  refine ⟨fun c1=>by simp [c1,T.all],fun c1=>?_⟩
  rw [c1,Bool.false_or]
  refine ⟨fun c2=>by simp [c2,T.all],fun c2=>?_⟩
  rw [c2,Bool.false_or]
  refine ⟨fun c3=>by simp [c3,T.all],fun c3=>?_⟩
  rw [c3,Bool.false_or]
  refine ⟨fun c4=>by simp [c4,T.all],fun c4=>?_⟩
  rw [c4,Bool.false_or]
  refine ⟨fun c5=>by simp [c5,T.all],fun c5=>?_⟩
  rw [c5,Bool.false_or]
  refine ⟨fun c6=>by simp [c6,T.all],fun c6=>?_⟩
  rw [c6,Bool.false_or]
  refine ⟨fun c7=>by simp [c7,T.all],fun c7=>?_⟩
  rw [c7,Bool.false_or]
  refine ⟨fun c8=>by simp [c8,T.all],fun c8=>?_⟩
  rw [c8,Bool.false_or]
  refine ⟨fun c9=>by simp [c9,T.all],fun c9=>?_⟩
  rw [c9,Bool.false_or]
  refine ⟨fun c10=>by simp [c10,T.all],fun c10=>?_⟩
  rw [c10,Bool.false_or]
  refine ⟨fun c11=>by simp [c11,T.all],fun c11=>?_⟩
  rw [c11,Bool.false_or]
  refine ⟨fun c12=>by simp [c12,T.all],fun c12=>?_⟩
  rw [c12,Bool.false_or]
  rfl
 ·cases h)
def TA:List LV→T LV
 | [.v (.string w)]=> .ok (.v (.bool (isIn nU w)))
 |_=> .no
noncomputable def Bv:List LV→T LV:=gW Tryz.prog Tryz.f166.params.toList TA
theorem agt (w:ByteArray):bW Tryz.prog aP (V5) eY aC Tryz.f166 [.v (.string w)]=.br (w.toList==(ByteArray.mk #[115,116,97,114,116]).toList) (.ok (.v (.bool true))) (.br (w.toList==(ByteArray.mk #[101,110,101,114,103,121]).toList) (.ok (.v (.bool true))) (.br (w.toList==(ByteArray.mk #[116,105,109,101]).toList) (.ok (.v (.bool true))) (.br (w.toList==(ByteArray.mk #[105,100,108,101]).toList) (.ok (.v (.bool true))) (.br (w.toList==(ByteArray.mk #[99,97,112]).toList) (.ok (.v (.bool true))) (.br (w.toList==(ByteArray.mk #[116,97,120]).toList) (.ok (.v (.bool true))) (.ok (.v (.bool false)))))))):=by kernel_rfl
theorem XR:Valid Tryz.prog aP 166 Bv:=aH Tryz.func166 rfl ac0 aG (aW (by kernel_rfl)) (fun args lv h=>by
 unfold TA at h
 split at h
 ·simp only [canL,canX]
  rw [agt]
  obtain rfl:=h
  simp only [sK]
  unfold isIn nU
  simp only [List.any_cons,List.any_nil]
  refine ⟨fun c0=>by simp [c0,T.all],fun c0=>?_⟩
  rw [c0,Bool.false_or]
  refine ⟨fun c1=>by simp [c1,T.all],fun c1=>?_⟩
  rw [c1,Bool.false_or]
  refine ⟨fun c2=>by simp [c2,T.all],fun c2=>?_⟩
  rw [c2,Bool.false_or]
  refine ⟨fun c3=>by simp [c3,T.all],fun c3=>?_⟩
  rw [c3,Bool.false_or]
  refine ⟨fun c4=>by simp [c4,T.all],fun c4=>?_⟩
  rw [c4,Bool.false_or]
  refine ⟨fun c5=>by simp [c5,T.all],fun c5=>?_⟩
  rw [c5,Bool.false_or]
  rfl
 ·cases h)
def Tv:List LV→T LV
 | [.v (.string w)]=> .ok (.v (.bool (isIn words w)))
 |_=> .no
noncomputable def Bq:List LV→T LV:=gW Tryz.prog Tryz.f169.params.toList Tv
theorem agr (w:ByteArray):bW Tryz.prog aP (V5) eY aC Tryz.f169 [.v (.string w)]=.br (w.toList==(ByteArray.mk #[111,110]).toList) (.ok (.v (.bool true))) (.br (w.toList==(ByteArray.mk #[119,111,114,107]).toList) (.ok (.v (.bool true))) (.br (w.toList==(ByteArray.mk #[115,97,116,117,114,100,97,121]).toList) (.ok (.v (.bool true))) (.br (w.toList==(ByteArray.mk #[115,117,110,100,97,121]).toList) (.ok (.v (.bool true))) (.br (w.toList==(ByteArray.mk #[98,101,116,119,101,101,110]).toList) (.ok (.v (.bool true))) (.br (w.toList==(ByteArray.mk #[112,101,114]).toList) (.ok (.v (.bool true))) (.br (w.toList==(ByteArray.mk #[102,114,101,101]).toList) (.ok (.v (.bool true))) (.ok (.v (.bool false))))))))):=by kernel_rfl
theorem XQ:Valid Tryz.prog aP 169 Bq:=aH Tryz.func169 rfl ac0 aG (aW (by kernel_rfl)) (fun args lv h=>by
 unfold Tv at h
 split at h
 ·simp only [canL,canX]
  rw [agr]
  obtain rfl:=h
  simp only [sK]
  unfold isIn words
  simp only [List.any_cons,List.any_nil]
  refine ⟨fun c0=>by simp [c0,T.all],fun c0=>?_⟩
  rw [c0,Bool.false_or]
  refine ⟨fun c1=>by simp [c1,T.all],fun c1=>?_⟩
  rw [c1,Bool.false_or]
  refine ⟨fun c2=>by simp [c2,T.all],fun c2=>?_⟩
  rw [c2,Bool.false_or]
  refine ⟨fun c3=>by simp [c3,T.all],fun c3=>?_⟩
  rw [c3,Bool.false_or]
  refine ⟨fun c4=>by simp [c4,T.all],fun c4=>?_⟩
  rw [c4,Bool.false_or]
  refine ⟨fun c5=>by simp [c5,T.all],fun c5=>?_⟩
  rw [c5,Bool.false_or]
  refine ⟨fun c6=>by simp [c6,T.all],fun c6=>?_⟩
  rw [c6,Bool.false_or]
  rfl
 ·cases h)
def abt:List LV→T LV
 | [.v (.string w)]=> .ok (.v (.int .i64 (acU 1 kinds w)))
 |_=> .no
noncomputable def Xo:List LV→T LV:=gW Tryz.prog Tryz.f168.params.toList abt
theorem amB (w:ByteArray):bW Tryz.prog aP (V5) eY aC Tryz.f168 [.v (.string w)]=.br (w.toList==(ByteArray.mk #[102,101,101,100,101,114]).toList) (.ok (.v (.int .i64 1))) (.br (w.toList==(ByteArray.mk #[99,97,98,108,101]).toList) (.ok (.v (.int .i64 2))) (.br (w.toList==(ByteArray.mk #[111,119,110,101,114]).toList) (.ok (.v (.int .i64 3))) (.br (w.toList==(ByteArray.mk #[99,111,110,116,114,97,99,116]).toList) (.ok (.v (.int .i64 4))) (.br (w.toList==(ByteArray.mk #[99,104,97,114,103,101,114]).toList) (.ok (.v (.int .i64 5))) (.br (w.toList==(ByteArray.mk #[98,97,121]).toList) (.ok (.v (.int .i64 6))) (.br (w.toList==(ByteArray.mk #[116,97,114,105,102,102]).toList) (.ok (.v (.int .i64 7))) (.ok (.v (.int .i64 0))))))))):=by kernel_rfl
theorem arl:Valid Tryz.prog aP 168 Xo:=aH Tryz.func168 rfl ac0 aG (aW (by kernel_rfl)) (fun args lv h=>by
 unfold abt at h
 split at h
 ·simp only [canL,canX]
  rw [amB]
  obtain rfl:=h
  simp only [sK]
  simp only [acU,kinds]
  refine ⟨fun c0=>by rw [if_pos c0];rfl,fun c0=>?_⟩
  rw [if_neg (by simp [c0])]
  refine ⟨fun c1=>by rw [if_pos c1];rfl,fun c1=>?_⟩
  rw [if_neg (by simp [c1])]
  refine ⟨fun c2=>by rw [if_pos c2];rfl,fun c2=>?_⟩
  rw [if_neg (by simp [c2])]
  refine ⟨fun c3=>by rw [if_pos c3];rfl,fun c3=>?_⟩
  rw [if_neg (by simp [c3])]
  refine ⟨fun c4=>by rw [if_pos c4];rfl,fun c4=>?_⟩
  rw [if_neg (by simp [c4])]
  refine ⟨fun c5=>by rw [if_pos c5];rfl,fun c5=>?_⟩
  rw [if_neg (by simp [c5])]
  refine ⟨fun c6=>by rw [if_pos c6];rfl,fun c6=>?_⟩
  rw [if_neg (by simp [c6])]
  rfl
 ·cases h)
def Tz:List LV→T LV
 | [.v (.string w)]=> .ok (.v (.bool (EN w)))
 |_=> .no
noncomputable def Pq:List LV→T LV:=gW Tryz.prog Tryz.f164.params.toList Tz
noncomputable def ayR:Specs:=bf [(165,vT),(166,Bv),(168,Xo),(169,Bq)]
theorem aBT:∀g S,ayR g=some S→Valid Tryz.prog aP g S:=aS (l:=[(165,vT),(166,Bv),(168,Xo),(169,Bq)]) ⟨PY,XR,arl,XQ,trivial⟩
theorem ags (w:ByteArray):bW Tryz.prog aP (ayR) eY aC Tryz.f164 [.v (.string w)]=.ok (.v (.bool (((acU 1 kinds w) !=0) ||((isIn DJ w) ||((isIn nU w) ||(isIn words w)))))):=by kernel_rfl
theorem ajU:Valid Tryz.prog aP 164 Pq:=aH Tryz.func164 rfl aBT aG (aW (by kernel_rfl)) (fun args lv h=>by
 unfold Tz at h
 split at h
 ·simp only [canL,canX]
  rw [ags]
  obtain rfl:=h
  show LV.v (.bool _)=_
  rw [Rk 1 kinds _ (by decide)]
  rfl
 ·cases h)
structure vX where
 text:ByteArray
 r:Bool
 i:Int
def aCe (s:vX):List LV:=[.v (.string s.text),.v (.bool s.r),.v (.int .i64 s.i)]
def aB6 (_:vX):List aT:=[]
noncomputable def Fv:Code:=((aF (Tryz.f163.body.getD .skip))[0]?).getD .skip
def aj2 (s:vX):T (Rd vX):=
 .br (decide (s.i<(s.text.size:Int))) (.req (0≤s.i∧s.i<(s.text.size:Int)) (.br (if decide ((rD s.text s.i)≥97) then !(decide ((rD s.text s.i)≤122))&&(if decide ((rD s.text s.i)≥48) then !(decide ((rD s.text s.i)≤57))&&(!((rD s.text s.i)==95)) else !((rD s.text s.i)==95)) else if decide ((rD s.text s.i)≥48) then !(decide ((rD s.text s.i)≤57))&&(!((rD s.text s.i)==95)) else !((rD s.text s.i)==95)) (.ok (.stop (.ret) {s with r:=false})) (.ok (.next {s with i:=(IntKind.i64.wrap (s.i+1))})))) (.ok (.stop (.exit 0) s))
abbrev ay0 (s:vX):=(aj2 s).rd s
def JB (s:vX) (j:Int):Bool:=decide (j<1) ||(chB (rD s.text j))
def aow (s:vX):Prop:=s.i=1∧1≤(s.text.size:Int)∧(s.text.size:Int)≤1000∧True
def adk (s:vX):Prop:=1≤s.i∧s.i≤(s.text.size:Int)∧(s.text.size:Int)≤1000∧(True)∧∀j:Nat,(j:Int)<s.i→JB s j=true
def Zc (s:vX):Nat:=((s.text.size:Int)-s.i).toNat
def avx (x:Ex) (_ s':vX):Prop:=(x=.exit 0∧∀j:Nat,(j:Int)<(s'.text.size:Int)→JB s' j=true)∨(x=.ret∧s'.r=false∧∃j:Nat,(j:Int)<(s'.text.size:Int)∧JB s' j=false)
theorem aBQ:∀s,aow s→adk s:=by
 intro s h
 obtain ⟨h0,h1,h2,h3⟩:=h
 exact ⟨by omega,by omega,h2,h3,fun j hj=>by unfold JB;rw [decide_eq_true (by omega)];rfl⟩
theorem ayy (s:vX) (hI:adk s):bM (fun s'=>adk s'∧Zc s'<Zc s) (fun x s'=>avx x s s') (ay0 s):=by
 unfold ay0 aj2
 dsimp only [T.rd,T.rl]
 obtain ⟨h0,h1,h2,h3,h4⟩:=hI
 refine au (fun c1=>au (fun c2=>?_) (fun c2=>?_)) (fun c1=>?_)
 ·have c1:s.i<(s.text.size:Int):=by simpa using c1
  refine .inr ⟨rfl,rfl,s.i.toNat,by simp only;omega,?_⟩
  rw [Int.toNat_of_nonneg (by omega)]
  have hg:JB s s.i=false:=by unfold JB;(simp only [show decide (s.i<1)=false from decide_eq_false (by omega),Bool.false_or];(simp only [chB,chA];revert c2;generalize rD s.text s.i=b;intro c2;by_cases h1:b≥97<;>by_cases h2:b≤122<;>by_cases h3:b≥48<;>by_cases h4:b≤57<;>simp_all))
  exact hg
 ·have c1:s.i<(s.text.size:Int):=by simpa using c1
  have hg:JB s s.i=true:=by unfold JB;(simp only [show decide (s.i<1)=false from decide_eq_false (by omega),Bool.false_or];(simp only [chB,chA];revert c2;generalize rD s.text s.i=b;intro c2;by_cases h1:b≥97<;>by_cases h2:b≤122<;>by_cases h3:b≥48<;>by_cases h4:b≤57<;>simp_all))
  rw [aK (x:=s.i+1) (by omega) (by omega)]
  refine ⟨⟨by simp only;omega,by simp only;omega,h2,h3,fun j hj=>?_⟩,by simp only [Zc];omega⟩
  by_cases hji:(j:Int)<s.i
  ·exact h4 j hji
  ·have:(j:Int)=s.i:=by simp only at hj;omega
   rw [this];exact hg
 ·have c1:(s.text.size:Int)≤s.i:=by simpa using c1
  exact .inl ⟨rfl,fun j hj=>h4 j (by omega)⟩
def Uo:bQ vX:=⟨0,51,[0,2,3],[],aCe,aB6,fun v _=>⟨gSr (v.getD 0 .junk),vH (v.getD 1 .junk),gI (v.getD 2 .junk)⟩,aj2,fun s r=> {r with text:=s.text},fun s=>s,fun _ s=>s,[.ret,.exit 0],aow,adk,Zc⟩
abbrev MV:=Uo.run
abbrev ahO:=Uo.jZ
abbrev azy:=Uo.q
theorem axs (s:vX) (hI:adk s):(aj2 s).all (fun _=>True):=by
 refine ⟨fun c1=>⟨?_,fun _=>trivial,fun _=>trivial⟩,fun _=>trivial⟩
 ·(obtain ⟨h0,h1,h2,h3,h4⟩:=hI;simp at c1;omega)
theorem aoW:Uo.Ok:=⟨fun s=>by kernel_rfl,fun s=>by kernel_rfl,fun s=>rfl,fun s t r=>rfl,fun s=>rfl,fun s=>by kernel_rfl⟩
theorem aoP:Uo.Pf (avx):=⟨aBQ,fun _ _=>rfl,ayy,axs⟩
theorem arP:bg Tryz.prog aP (AN 0) (.loop Fv) Uo.lp:=bQ.snd aoW aoP (aU (Γ:=V5) (K:=eY) (L:=aC) ac0 aG Fv (fun b hb=>by rw [show aF Fv=[] by kernel_rfl] at hb;cases hb)) (fun s=>by kernel_rfl)
theorem auz (s:vX) (hE:aow s):∃s',adk s'∧avx (ahO s) s' (MV s):=bQ.fin aoW aoP s hE
def TF:List LV→T LV
 | [.v (.string w)]=> .ok (.v (.bool (gwB w)))
 |_=> .no
noncomputable def Px:List LV→T LV:=gW Tryz.prog Tryz.f163.params.toList TF
theorem agw (w:ByteArray):bW Tryz.prog aP (V5) eY (fun i=>if i=4 then Uo.lp else aC i) Tryz.f163 [.v (.string w)]=.br (decide ((w.size:Int)<1)) (.ok (.v (.bool false))) (.br (decide ((w.size:Int)>12)) (.ok (.v (.bool false))) (.req (0≤(0:Int)∧(0:Int)<(w.size:Int)) (.br (decide ((rD w (0:Int))<97)) (.ok (.v (.bool false))) (.req (0≤(0:Int)∧(0:Int)<(w.size:Int)) (.br (decide ((rD w (0:Int))>122)) (.ok (.v (.bool false))) (.req (azy (⟨w,false,(1:Int)⟩:vX)) (.br (ig (ahO (⟨w,false,(1:Int)⟩:vX)) (.ret)) (.ok (.v (.bool (MV (⟨w,false,(1:Int)⟩:vX)).r))) (.ok (.v (.bool true)))))))))):=by kernel_rfl
theorem ajW:Valid Tryz.prog aP 163 Px:=aH Tryz.func163 rfl ac0 aG (L:=(fun i=>if i=4 then Uo.lp else aC i)) (fun b hb=>by
 rw [show aF _=[Fv] by kernel_rfl] at hb
 simp only [List.mem_cons,List.not_mem_nil,or_false] at hb
 subst hb
 exact arP) (fun args lv h=>by
 unfold TF at h
 split at h
 ·simp only [canL,canX]
  rw [agw]
  rename_i w
  obtain rfl:=h
  have bad:¬(((1≤w.size∧w.size≤12)∧(97≤rD w 0∧rD w 0≤122)))→LV.v (.bool false)=LV.v (.bool (gwB w)):=fun hn=>congrArg (fun z=>LV.v (.bool z)) (by
   rw [eq_comm,Bool.eq_false_iff];intro h
   simp only [gwB,chA,Bool.and_eq_true,decide_eq_true_eq] at h
   exact hn ⟨h.1,by omega,by omega⟩)
  refine ⟨fun c=>bad (by simp at c;omega),fun c=>⟨fun c2=>bad (by simp at c2;omega),fun c2=>⟨by simp at c;omega,fun c3=>bad (by simp at c3;omega),fun c3=>⟨by simp at c;omega,fun c4=>bad (by simp at c4;omega),fun c4=>?_⟩⟩⟩⟩
  simp only [decide_eq_false_iff_not] at c c2 c3 c4
  have hE:aow ⟨w,false,1⟩:=⟨rfl,by simp only;omega,by simp only;omega,trivial⟩
  have key:gwB w=(List.range w.size).all fun i=>i==0 ||chB (rD w i):=by
   simp only [gwB,chA]
   rw [decide_eq_true (by omega),decide_eq_true (by omega),decide_eq_true (by omega)]
   rfl
  obtain ⟨s',_,hq⟩:=auz _ hE
  refine ⟨⟨hE,rfl,rfl⟩,?_⟩
  rw [key]
  rcases hq with ⟨h1,h2⟩ |⟨h1,h2,j,h3,h4⟩
  ·rw [h1]
   refine ⟨fun h=>(by cases h),fun _=>congrArg (fun z=>LV.v (.bool z)) ?_⟩
   rw [eq_comm,List.all_eq_true]
   intro i hi
   have:=h2 i (by show (i:Int)<(w.size:Int);have:=List.mem_range.1 hi;omega)
   simp only [JB] at this
   rw [show (MV ⟨w,false,1⟩).text=w from rfl] at this
   rw [Bool.or_eq_true] at this
   rcases this with h|h
   ·have:i=0:=by simp at h;omega
    simp [this]
   ·rw [h];simp
  ·rw [h1,h2]
   refine ⟨fun _=>congrArg (fun z=>LV.v (.bool z)) ?_,fun h=>by cases h⟩
   rw [eq_comm,Bool.eq_false_iff]
   intro hx
   rw [List.all_eq_true] at hx
   have h3:(j:Int)<(w.size:Int):=h3
   have:=hx j (List.mem_range.2 (by omega))
   simp only [JB] at h4
   rw [show (MV ⟨w,false,1⟩).text=w from rfl] at h4
   rw [Bool.or_eq_false_iff] at h4
   have h5:=h4.1
   simp at h5
   rw [h4.2] at this
   simp at this
   omega
 ·cases h)
def TG:List LV→T LV
 | [.v (.string w)]=> .ok (.v (.bool (nameB w)))
 |_=> .no
noncomputable def Py:List LV→T LV:=gW Tryz.prog Tryz.f159.params.toList TG
noncomputable def ayQ:Specs:=bf [(163,Px),(164,Pq)]
theorem aBS:∀g S,ayQ g=some S→Valid Tryz.prog aP g S:=aS (l:=[(163,Px),(164,Pq)]) ⟨ajW,ajU,trivial⟩
theorem agx (w:ByteArray):bW Tryz.prog aP (ayQ) eY aC Tryz.f159 [.v (.string w)]=.ok (.v (.bool ((gwB w)&&(!(EN w))))):=by kernel_rfl
theorem ajX:Valid Tryz.prog aP 159 Py:=aH Tryz.func159 rfl aBS aG (aW (by kernel_rfl)) (fun args lv h=>by
 unfold TG at h
 split at h
 ·simp only [canL,canX]
  rw [agx]
  exact h
 ·cases h)
def abx:List LV→T LV
 | [.v (.string w)]=> .ok (.v (.bool (nameB w)))
 |_=> .no
noncomputable def Xr:List LV→T LV:=gW Tryz.prog Tryz.f99.params.toList abx
noncomputable def ank:Specs:=bf [(159,Py),(165,vT),(166,Bv),(169,Bq)]
theorem auE:∀g S,ank g=some S→Valid Tryz.prog aP g S:=aS (l:=[(159,Py),(165,vT),(166,Bv),(169,Bq)]) ⟨ajX,PY,XR,XQ,trivial⟩
noncomputable def ayx:Hand:=inl Tryz.prog aP ank (lJ Tryz.prog aP (ank) 20 2) 9
theorem aBP:dM Tryz.prog aP ayx:=bT auE (dP auE) 9
theorem amH (w:ByteArray):bW Tryz.prog aP (ank) ayx aC Tryz.f99 [.v (.string w)]=.br (((1:Int) !=1) ||((!(ByteArray.empty.toList==(ByteArray.mk #[]).toList)) ||((0:Int) !=0))) (.ok (.v (.bool false))) (.br (((2:Int) !=2) ||((decide ((3:Int)<1)) ||((decide ((3:Int)>7)) ||(!(nameB w))))) (.br (!false) (.ok (.v (.bool false))) (.ok (.v (.bool true)))) (.br (!true) (.ok (.v (.bool false))) (.ok (.v (.bool true))))):=by kernel_rfl
theorem arp:Valid Tryz.prog aP 99 Xr:=aH Tryz.func99 rfl auE aBP (aW (by kernel_rfl)) (fun args lv h=>by
 unfold abx at h
 split at h
 ·simp only [canL,canX]
  rw [amH]
  rename_i w
  obtain rfl:=h
  refine ⟨fun c=>?_,fun _=>?_⟩
  ·exfalso
   rw [sK] at c
   revert c
   decide
  ·cases nameB w<;>simp [T.all]
 ·cases h)
end Go.Proofs.YtlihnbimgclogaaGreatDoor
namespace Go.Proofs.YtlihnbimgclogaaGreatDoor
open Go.Sx
def TD:List LV→T LV
 | [.v (.agg ⟨[.int .i64 a,.int .i64 b]⟩),.v (.int .i64 n)]=> .ok (.v (.bool (inB n a b)))
 |_=> .no
noncomputable def uj:List LV→T LV:=gW Tryz.prog Tryz.f127.params.toList TD
noncomputable def anj:Specs:=bf []
theorem auD:∀g S,anj g=some S→Valid Tryz.prog aP g S:=aS (l:=[]) trivial
theorem agv (a b n:Int):bW Tryz.prog aP (anj) eY aC Tryz.f127 [.v (.agg #[.int .i64 a,.int .i64 b]),.v (.int .i64 n)]=.ok (.v (.bool ((decide (n≥a))&&(decide (n≤b))))):=by kernel_rfl
theorem MC:Valid Tryz.prog aP 127 uj:=aH Tryz.func127 rfl auD aG (aW (by kernel_rfl)) (fun args lv h=>by
 unfold TD at h
 split at h
 ·simp only [canL,canX]
  rw [agv]
  exact h
 ·cases h)
def aby:List LV→T LV
 | [.v (.agg ⟨[.int .i64 am,.int .i64 mo,.int .i64 _,.int .i64 _,.int .i64 _]⟩)]=> .ok (.v (.bool (decide (mo>am))))
 |_=> .no
noncomputable def Xt:List LV→T LV:=gW Tryz.prog Tryz.f150.params.toList aby
theorem amI (am mo ga lo de:Int):bW Tryz.prog aP (anj) eY aC Tryz.f150 [.v (.agg #[.int .i64 am,.int .i64 mo,.int .i64 ga,.int .i64 lo,.int .i64 de])]=.ok (.v (.bool (decide (mo>am)))):=by kernel_rfl
theorem arq:Valid Tryz.prog aP 150 Xt:=aH Tryz.func150 rfl auD aG (aW (by kernel_rfl)) (fun args lv h=>by
 unfold aby at h
 split at h
 ·simp only [canL,canX]
  rw [amI]
  exact h
 ·cases h)
def abz:List LV→T LV
 | [.v (.agg ⟨[.string _,.int .i64 _,.int .i64 _,.int .i64 mi,.int .i64 ma,.int .i64 _,.int .i64 fb,.int .i64 _]⟩)]=> .ok (.v (.bool (decide (mi≤ma)&&((fb==0) ||inB fb mi ma))))
 |_=> .no
noncomputable def Xu:List LV→T LV:=gW Tryz.prog Tryz.f151.params.toList abz
theorem amJ (nm:ByteArray) (at_ ph mi ma st fb ow:Int):bW Tryz.prog aP (anj) eY aC Tryz.f151 [.v (.agg #[.string nm,.int .i64 at_,.int .i64 ph,.int .i64 mi,.int .i64 ma,.int .i64 st,.int .i64 fb,.int .i64 ow])]=.ok (.v (.bool ((decide (mi≤ma))&&((fb==0) ||((decide (fb≥mi))&&(decide (fb≤ma))))))):=by kernel_rfl
theorem ars:Valid Tryz.prog aP 151 Xu:=aH Tryz.func151 rfl auD aG (aW (by kernel_rfl)) (fun args lv h=>by
 unfold abz at h
 split at h
 ·simp only [canL,canX]
  rw [amJ]
  exact h
 ·cases h)
def aaT:List LV→T LV
 | [.v (.agg ⟨[.string nm,.int .i64 xC,.int .i64 li,.int .i64 ne,.int .i64 ra,.int .i64 he,.int .i64 am,.int .i64 mo,.int .i64 ga,.int .i64 lo,.int .i64 de]⟩),.v (.int .i64 i)]=> .req (0≤i) (.ok (.v (.bool (DI i (nm,xC,li,ne,(ra,he),am,mo,ga,lo,de)))))
 |_=> .no
noncomputable def WT:List LV→T LV:=gW Tryz.prog Tryz.f126.params.toList aaT
noncomputable def apT:Specs:=bf [(127,uj),(150,Xt)]
theorem ayO:∀g S,apT g=some S→Valid Tryz.prog aP g S:=aS (l:=[(127,uj),(150,Xt)]) ⟨MC,arq,trivial⟩
theorem al2 (nm:ByteArray) (xC li ne ra he am mo ga lo de i:Int):bW Tryz.prog aP (apT) eY aC Tryz.f126 [.v (.agg #[.string nm,.int .i64 xC,.int .i64 li,.int .i64 ne,.int .i64 ra,.int .i64 he,.int .i64 am,.int .i64 mo,.int .i64 ga,.int .i64 lo,.int .i64 de]),.v (.int .i64 i)]=.br (if i==0 then (xC !=(-1)) ||((decide (i>0))&&((decide (xC<0)) ||(decide (xC≥i)))) else (decide (i>0))&&((decide (xC<0)) ||(decide (xC≥i)))) (.ok (.v (.bool false))) (.br ((!(inB li (1:Int) (1000:Int))) ||(!(inB ne (1:Int) (1000:Int)))) (.ok (.v (.bool false))) (.br ((!((ra==0)&&(he==0)))&&(!(inB ra (1:Int) (1000:Int)) ||(!(inB he (0:Int) (1000000:Int))))) (.ok (.v (.bool false))) (.br ((am==0)&&((mo==0)&&((ga==0)&&((lo==0)&&(de==0))))) (.ok (.v (.bool true))) (.ok (.v (.bool ((inB am (0:Int) (200000:Int))&&((inB mo (0:Int) (200000:Int))&&((inB ga (0:Int) (1000:Int))&&((inB lo (0:Int) (1000:Int))&&((inB de (1:Int) (1000000:Int))&&(decide (mo>am))))))))))))):=by kernel_rfl
theorem aqW:Valid Tryz.prog aP 126 WT:=aH Tryz.func126 rfl ayO aG (aW (by kernel_rfl)) (fun args lv h=>by
 unfold aaT at h
 split at h
 ·simp only [canL,canX]
  rw [al2]
  obtain ⟨hi,h⟩:=h
  exact avh (K:=fun z=>LV.v (.bool z)=lv) hi h
 ·cases h)
def aaU:List LV→T LV
 | [.agg [.xl (.pair .str (.pair (.int .i64) (.pair (.int .i64) (.pair (.int .i64) (.pair (.pair (.int .i64) (.int .i64)) (.pair (.int .i64) (.pair (.int .i64) (.pair (.int .i64) (.pair (.int .i64) (.int .i64)))))))))) cs,.xl (.str) os,.xl (.pair .str (.pair (.int .i64) (.pair (.int .i64) (.int .i64)))) _,.xl (.pair .str (.pair (.int .i64) (.pair (.int .i64) (.pair (.int .i64) (.pair (.int .i64) (.pair (.int .i64) (.pair (.int .i64) (.int .i64)))))))) _,.xl (.pair .str (.int .i64)) _],.v (.agg ⟨[.string nm,.int .i64 at_,.int .i64 ph,.int .i64 mi,.int .i64 ma,.int .i64 st,.int .i64 fb,.int .i64 ow]⟩)]=> .req ((List.length cs:Int)≤1000∧(List.length os:Int)≤1000) (.ok (.v (.bool (Fh cs.length os.length (nm,at_,ph,mi,ma,st,fb,ow)))))
 |_=> .no
noncomputable def WU:List LV→T LV:=gW Tryz.prog Tryz.f128.params.toList aaU
noncomputable def apS:Specs:=bf [(127,uj),(151,Xu)]
theorem ayN:∀g S,apS g=some S→Valid Tryz.prog aP g S:=aS (l:=[(127,uj),(151,Xu)]) ⟨MC,ars,trivial⟩
theorem al3 (cs:List Cd) (os:List ByteArray) (ks:List Ko) (gs:List Ch) (bs:List Ba) (nm:ByteArray) (at_ ph mi ma st fb ow:Int):bW Tryz.prog aP (apS) eY aC Tryz.f128 [.agg [.xl dW cs,.xl .str os,.xl eu ks,.xl dQ gs,.xl eG bs],.v (.agg #[.string nm,.int .i64 at_,.int .i64 ph,.int .i64 mi,.int .i64 ma,.int .i64 st,.int .i64 fb,.int .i64 ow])]=.ok (.v (.bool ((inB at_ (0:Int) (IntKind.i64.wrap ((List.length cs:Int)-1)))&&((inB ow (0:Int) (IntKind.i64.wrap ((List.length os:Int)-1)))&&((inB ph (1:Int) (7:Int))&&((inB mi (1:Int) (80:Int))&&((inB ma (1:Int) (80:Int))&&((inB st (1:Int) (80:Int))&&((inB fb (0:Int) (80:Int))&&(decide (mi≤ma)&&((fb==0) ||inB fb mi ma))))))))))):=by kernel_rfl
theorem aqX:Valid Tryz.prog aP 128 WU:=aH Tryz.func128 rfl ayN aG (aW (by kernel_rfl)) (fun args lv h=>by
 unfold aaU at h
 split at h
 ·simp only [canL,canX]
  rw [al3]
  rename_i cs os _ _ _ _ at_ ph mi ma st fb ow
  obtain ⟨⟨h1,h2⟩,rfl⟩:=h
  refine congrArg (fun z=>LV.v (.bool z)) ?_
  rw [aK (x:=(List.length cs:Int)-1) (by omega) (by omega),aK (x:=(List.length os:Int)-1) (by omega) (by omega)]
  unfold Fh chW
  rw [Bool.eq_iff_iff]
  simp only [Bool.and_eq_true,Bool.or_eq_true,dZ,decide_eq_true_eq,beq_iff_eq]
  omega
 ·cases h)
end Go.Proofs.YtlihnbimgclogaaGreatDoor
namespace Go.Proofs.YtlihnbimgclogaaGreatDoor
open Go.Sx
structure iO where
 l:List Cd
 n:Int
 i:Int
 aj:List Cd
 aB:List ByteArray
 ai:List Ko
 ak:List Ch
 aJ:List Ba
 out:List ByteArray
def aA4 (s:iO):List LV:=[.own 0 0,.os 1 1 0 (List.length s.out),.xl dW s.l,.v (.int .i64 s.n),.v (.int .i64 s.i)]
def az8 (s:iO):List aT:=[⟨[.xl dW s.aj,.xl .str s.aB,.xl eu s.ai,.xl dQ s.ak,.xl eG s.aJ],28,.cl,false⟩,⟨[],9,.vec .str s.out,false⟩]
noncomputable def AB:Code:=((aF (Tryz.f98.body.getD .skip))[0]?).getD .skip
def Qm (s:iO):T (Rd iO):=
 .br (decide (s.i<s.n)) (.req (0≤s.i∧s.i<(List.length s.l:Int)) (.req (0+(List.length s.out)=List.length s.out∧((List.length s.out+List.length ([(fP s.l s.i).1]):Nat):Int)*16≤2^47∧((List.length s.out+List.length ([(fP s.l s.i).1]):Nat):Int)<2^62) (.req (0=0∧(List.length s.out+List.length ([(fP s.l s.i).1]))=List.length (s.out++([(fP s.l s.i).1]))) (.ok (.next {s with i:=(IntKind.i64.wrap (s.i+1)),out:=(s.out++([(fP s.l s.i).1]))}))))) (.rl s.out (.ok (.stop (.exit 0) s)))
abbrev Z4 (s:iO):=(Qm s).rd s
def Ug (s:iO):Prop:=s.i=0∧s.n=(s.l.length:Int)∧s.n≤1000∧(s.out.length:Int)≤10000
def Lr (s:iO):Prop:=0≤s.i∧s.i≤s.n∧s.n=(s.l.length:Int)∧s.n≤1000∧(s.out.length:Int)≤10000+s.i
def NT (s:iO):Nat:=(s.n-s.i).toNat
def ai3 (x:Ex) (_ s':iO):Prop:=x=.exit 0∧s'.i=s'.n
theorem ax4:∀s,Ug s→Lr s:=by
 intro s h
 obtain ⟨h0,h1,h2,h3⟩:=h
 exact ⟨by omega,by omega,h1,h2,by omega⟩
theorem atI (s:iO) (hI:Lr s):bM (fun s'=>Lr s'∧NT s'<NT s) (fun x s'=>ai3 x s s') (Z4 s):=by
 unfold Z4 Qm
 dsimp only [T.rd,T.rl]
 obtain ⟨h0,h1,h2,h3,h4⟩:=hI
 refine au (fun c1=>?_) (fun c1=>?_)
 ·have c1:s.i<s.n:=by simpa using c1
  rw [aK (x:=s.i+1) (by omega) (by omega)]
  exact ⟨⟨by simp only;omega,by simp only;omega,h2,h3,by simp only [List.length_append,List.length_cons,List.length_nil];omega⟩,by simp only [NT];omega⟩
 ·have c1:s.n≤s.i:=by simpa using c1
  exact ⟨rfl,by omega⟩
def En:bQ iO:=⟨0,80,[1,3,15,16,17],[.nl 3 9 .str],aA4,az8,fun v b=>⟨aQ dW (v.getD 2 .junk),gI (v.getD 3 .junk),gI (v.getD 4 .junk),aQ dW (aY (aO b 0) 0),aQ .str (aY (aO b 0) 1),aQ eu (aY (aO b 0) 2),aQ dQ (aY (aO b 0) 3),aQ eG (aY (aO b 0) 4),jk .str (aO b 1)⟩,Qm,fun s r=> {r with l:=s.l,n:=s.n,aj:=s.aj,aB:=s.aB,ai:=s.ai,ak:=s.ak,aJ:=s.aJ},fun s=>s,fun _ s=>s,[.exit 0],Ug,Lr,NT⟩
abbrev gG:=En.run
abbrev anN:=En.jZ
abbrev av8:=En.q
theorem asI (s:iO) (hI:Lr s):(Qm s).all (fun _=>True):=by
 refine ⟨fun c1=>⟨?_,?_,?_,trivial⟩,fun c1=>⟨⟨rfl,rfl⟩,trivial⟩⟩
 all_goals ((obtain ⟨h0,h1,h2,h3,h4⟩:=hI;(try simp only [decide_eq_true_eq] at c1);first|omega|(refine ⟨by omega,?_,?_⟩<;>simp only [List.length_cons,List.length_nil]<;>omega) |(simp only [List.length_append,List.length_cons,List.length_nil];omega) |exact ⟨rfl,by simp⟩ |exact ⟨rfl,rfl⟩))
noncomputable def Hy:Specs:=bf []
theorem J8:∀g S,Hy g=some S→Valid Tryz.prog aP g S:=aS (l:=[]) trivial
theorem Vo:En.Ok:=⟨fun s=>by kernel_rfl,fun s=>by kernel_rfl,fun s=>rfl,fun s t r=>rfl,fun s=>rfl,fun s=>by kernel_rfl⟩
theorem U3:En.Pf (ai3):=⟨ax4,fun _ _=>rfl,atI,asI⟩
theorem akG:bg Tryz.prog aP (AN 0) (.loop AB) En.lp:=bQ.snd Vo U3 (aU (Γ:=Hy) (K:=eY) (L:=aC) J8 aG AB (fun b hb=>by rw [show aF AB=[] by kernel_rfl] at hb;cases hb)) (fun s=>by kernel_rfl)
theorem alW (s:iO) (hE:Ug s):∃s',Lr s'∧ai3 (anN s) s' (gG s):=bQ.fin Vo U3 s hE
theorem alV (s:iO) (hE:Ug s):(gG s).out=s.out++s.l.map (·.1):=by
 have hk:=bQ.uy Vo U3 (fun s=>s.out++(s.l.drop s.i.toNat).map (·.1)) (fun s hI=>by
  obtain ⟨h0,h1,h2,h3,h4⟩:=hI
  show bM _ _ (Z4 s)
  unfold Z4 Qm
  dsimp only [T.rd,T.rl]
  refine au (fun c1=>?_) (fun c1=>?_)
  ·have c1:s.i<s.n:=by simpa using c1
   rw [aK (x:=s.i+1) (by omega) (by omega)]
   show _++_=_++_
   simp only
   rw [(RN h0 (show s.i<s.l.length by omega)).1]
   simp
  ·rfl) s hE
 obtain ⟨s',hI,q1,q2⟩:=alW s hE
 have q3:(gG s).i=(gG s).n:=q2
 have hn:(gG s).n=(s.l.length:Int):=hE.2.1
 have hl:(gG s).l=s.l:=rfl
 rw [q3,hn,hl,List.drop_eq_nil_of_le (by omega),hE.1] at hk
 simpa using hk
structure jo where
 l:List ByteArray
 n:Int
 i:Int
 aj:List Cd
 aB:List ByteArray
 ai:List Ko
 ak:List Ch
 aJ:List Ba
 out:List ByteArray
def aA3 (s:jo):List LV:=[.own 0 0,.os 1 1 0 (List.length s.out),.xl .str s.l,.v (.int .i64 s.n),.v (.int .i64 s.i)]
def az7 (s:jo):List aT:=[⟨[.xl dW s.aj,.xl .str s.aB,.xl eu s.ai,.xl dQ s.ak,.xl eG s.aJ],28,.cl,false⟩,⟨[],9,.vec .str s.out,false⟩]
noncomputable def AA:Code:=((aF (Tryz.f98.body.getD .skip))[1]?).getD .skip
def Ql (s:jo):T (Rd jo):=
 .br (decide (s.i<s.n)) (.req (0≤s.i∧s.i<(List.length s.l:Int)) (.req (0+(List.length s.out)=List.length s.out∧((List.length s.out+List.length ([(gS s.l s.i)]):Nat):Int)*16≤2^47∧((List.length s.out+List.length ([(gS s.l s.i)]):Nat):Int)<2^62) (.req (0=0∧(List.length s.out+List.length ([(gS s.l s.i)]))=List.length (s.out++([(gS s.l s.i)]))) (.ok (.next {s with i:=(IntKind.i64.wrap (s.i+1)),out:=(s.out++([(gS s.l s.i)]))}))))) (.rl s.out (.ok (.stop (.exit 2) s)))
abbrev ZY (s:jo):=(Ql s).rd s
def Uf (s:jo):Prop:=s.i=0∧s.n=(s.l.length:Int)∧s.n≤1000∧(s.out.length:Int)≤10000
def Lp (s:jo):Prop:=0≤s.i∧s.i≤s.n∧s.n=(s.l.length:Int)∧s.n≤1000∧(s.out.length:Int)≤10000+s.i
def NS (s:jo):Nat:=(s.n-s.i).toNat
def ai2 (x:Ex) (_ s':jo):Prop:=x=.exit 2∧s'.i=s'.n
theorem ax3:∀s,Uf s→Lp s:=by
 intro s h
 obtain ⟨h0,h1,h2,h3⟩:=h
 exact ⟨by omega,by omega,h1,h2,by omega⟩
theorem atH (s:jo) (hI:Lp s):bM (fun s'=>Lp s'∧NS s'<NS s) (fun x s'=>ai2 x s s') (ZY s):=by
 unfold ZY Ql
 dsimp only [T.rd,T.rl]
 obtain ⟨h0,h1,h2,h3,h4⟩:=hI
 refine au (fun c1=>?_) (fun c1=>?_)
 ·have c1:s.i<s.n:=by simpa using c1
  rw [aK (x:=s.i+1) (by omega) (by omega)]
  exact ⟨⟨by simp only;omega,by simp only;omega,h2,h3,by simp only [List.length_append,List.length_cons,List.length_nil];omega⟩,by simp only [NS];omega⟩
 ·have c1:s.n≤s.i:=by simpa using c1
  exact ⟨rfl,by omega⟩
def Em:bQ jo:=⟨0,80,[1,3,28,29,30],[],aA3,az7,fun v b=>⟨aQ .str (v.getD 2 .junk),gI (v.getD 3 .junk),gI (v.getD 4 .junk),aQ dW (aY (aO b 0) 0),aQ .str (aY (aO b 0) 1),aQ eu (aY (aO b 0) 2),aQ dQ (aY (aO b 0) 3),aQ eG (aY (aO b 0) 4),jk .str (aO b 1)⟩,Ql,fun s r=> {r with l:=s.l,n:=s.n,aj:=s.aj,aB:=s.aB,ai:=s.ai,ak:=s.ak,aJ:=s.aJ},fun s=>s,fun _ s=>s,[.exit 2],Uf,Lp,NS⟩
abbrev iw:=Em.run
abbrev anM:=Em.jZ
abbrev av7:=Em.q
theorem asH (s:jo) (hI:Lp s):(Ql s).all (fun _=>True):=by
 refine ⟨fun c1=>⟨?_,?_,?_,trivial⟩,fun c1=>⟨⟨rfl,rfl⟩,trivial⟩⟩
 all_goals ((obtain ⟨h0,h1,h2,h3,h4⟩:=hI;(try simp only [decide_eq_true_eq] at c1);first|omega|(refine ⟨by omega,?_,?_⟩<;>simp only [List.length_cons,List.length_nil]<;>omega) |(simp only [List.length_append,List.length_cons,List.length_nil];omega) |exact ⟨rfl,by simp⟩ |exact ⟨rfl,rfl⟩))
theorem Vm:Em.Ok:=⟨fun s=>by kernel_rfl,fun s=>by kernel_rfl,fun s=>rfl,fun s t r=>rfl,fun s=>rfl,fun s=>by kernel_rfl⟩
theorem U2:Em.Pf (ai2):=⟨ax3,fun _ _=>rfl,atH,asH⟩
theorem akF:bg Tryz.prog aP (AN 0) (.loop AA) Em.lp:=bQ.snd Vm U2 (aU (Γ:=Hy) (K:=eY) (L:=aC) J8 aG AA (fun b hb=>by rw [show aF AA=[] by kernel_rfl] at hb;cases hb)) (fun s=>by kernel_rfl)
theorem alU (s:jo) (hE:Uf s):∃s',Lp s'∧ai2 (anM s) s' (iw s):=bQ.fin Vm U2 s hE
theorem alT (s:jo) (hE:Uf s):(iw s).out=s.out++s.l:=by
 have hk:=bQ.uy Vm U2 (fun s=>s.out++(s.l.drop s.i.toNat)) (fun s hI=>by
  obtain ⟨h0,h1,h2,h3,h4⟩:=hI
  show bM _ _ (ZY s)
  unfold ZY Ql
  dsimp only [T.rd,T.rl]
  refine au (fun c1=>?_) (fun c1=>?_)
  ·have c1:s.i<s.n:=by simpa using c1
   rw [aK (x:=s.i+1) (by omega) (by omega)]
   show _++_=_++_
   simp only
   rw [(tV h0 (show s.i<s.l.length by omega)).1]
   simp
  ·rfl) s hE
 obtain ⟨s',hI,q1,q2⟩:=alU s hE
 have q3:(iw s).i=(iw s).n:=q2
 have hn:(iw s).n=(s.l.length:Int):=hE.2.1
 have hl:(iw s).l=s.l:=rfl
 rw [q3,hn,hl,List.drop_eq_nil_of_le (by omega),hE.1] at hk
 simpa using hk
structure jJ where
 l:List Ko
 n:Int
 i:Int
 aj:List Cd
 aB:List ByteArray
 ai:List Ko
 ak:List Ch
 aJ:List Ba
 out:List ByteArray
def aA2 (s:jJ):List LV:=[.own 0 0,.os 1 1 0 (List.length s.out),.xl eu s.l,.v (.int .i64 s.n),.v (.int .i64 s.i)]
def az6 (s:jJ):List aT:=[⟨[.xl dW s.aj,.xl .str s.aB,.xl eu s.ai,.xl dQ s.ak,.xl eG s.aJ],28,.cl,false⟩,⟨[],9,.vec .str s.out,false⟩]
noncomputable def Az:Code:=((aF (Tryz.f98.body.getD .skip))[2]?).getD .skip
def Qk (s:jJ):T (Rd jJ):=
 .br (decide (s.i<s.n)) (.req (0≤s.i∧s.i<(List.length s.l:Int)) (.req (0+(List.length s.out)=List.length s.out∧((List.length s.out+List.length ([(mM s.l s.i).1]):Nat):Int)*16≤2^47∧((List.length s.out+List.length ([(mM s.l s.i).1]):Nat):Int)<2^62) (.req (0=0∧(List.length s.out+List.length ([(mM s.l s.i).1]))=List.length (s.out++([(mM s.l s.i).1]))) (.ok (.next {s with i:=(IntKind.i64.wrap (s.i+1)),out:=(s.out++([(mM s.l s.i).1]))}))))) (.rl s.out (.ok (.stop (.exit 4) s)))
abbrev ZX (s:jJ):=(Qk s).rd s
def Ue (s:jJ):Prop:=s.i=0∧s.n=(s.l.length:Int)∧s.n≤1000∧(s.out.length:Int)≤10000
def Lm (s:jJ):Prop:=0≤s.i∧s.i≤s.n∧s.n=(s.l.length:Int)∧s.n≤1000∧(s.out.length:Int)≤10000+s.i
def NR (s:jJ):Nat:=(s.n-s.i).toNat
def ai1 (x:Ex) (_ s':jJ):Prop:=x=.exit 4∧s'.i=s'.n
theorem ax2:∀s,Ue s→Lm s:=by
 intro s h
 obtain ⟨h0,h1,h2,h3⟩:=h
 exact ⟨by omega,by omega,h1,h2,by omega⟩
theorem atG (s:jJ) (hI:Lm s):bM (fun s'=>Lm s'∧NR s'<NR s) (fun x s'=>ai1 x s s') (ZX s):=by
 unfold ZX Qk
 dsimp only [T.rd,T.rl]
 obtain ⟨h0,h1,h2,h3,h4⟩:=hI
 refine au (fun c1=>?_) (fun c1=>?_)
 ·have c1:s.i<s.n:=by simpa using c1
  rw [aK (x:=s.i+1) (by omega) (by omega)]
  exact ⟨⟨by simp only;omega,by simp only;omega,h2,h3,by simp only [List.length_append,List.length_cons,List.length_nil];omega⟩,by simp only [NR];omega⟩
 ·have c1:s.n≤s.i:=by simpa using c1
  exact ⟨rfl,by omega⟩
def Ej:bQ jJ:=⟨0,80,[1,3,41,42,43],[],aA2,az6,fun v b=>⟨aQ eu (v.getD 2 .junk),gI (v.getD 3 .junk),gI (v.getD 4 .junk),aQ dW (aY (aO b 0) 0),aQ .str (aY (aO b 0) 1),aQ eu (aY (aO b 0) 2),aQ dQ (aY (aO b 0) 3),aQ eG (aY (aO b 0) 4),jk .str (aO b 1)⟩,Qk,fun s r=> {r with l:=s.l,n:=s.n,aj:=s.aj,aB:=s.aB,ai:=s.ai,ak:=s.ak,aJ:=s.aJ},fun s=>s,fun _ s=>s,[.exit 4],Ue,Lm,NR⟩
abbrev iU:=Ej.run
abbrev anL:=Ej.jZ
abbrev av6:=Ej.q
theorem asG (s:jJ) (hI:Lm s):(Qk s).all (fun _=>True):=by
 refine ⟨fun c1=>⟨?_,?_,?_,trivial⟩,fun c1=>⟨⟨rfl,rfl⟩,trivial⟩⟩
 all_goals ((obtain ⟨h0,h1,h2,h3,h4⟩:=hI;(try simp only [decide_eq_true_eq] at c1);first|omega|(refine ⟨by omega,?_,?_⟩<;>simp only [List.length_cons,List.length_nil]<;>omega) |(simp only [List.length_append,List.length_cons,List.length_nil];omega) |exact ⟨rfl,by simp⟩ |exact ⟨rfl,rfl⟩))
theorem Vl:Ej.Ok:=⟨fun s=>by kernel_rfl,fun s=>by kernel_rfl,fun s=>rfl,fun s t r=>rfl,fun s=>rfl,fun s=>by kernel_rfl⟩
theorem U1:Ej.Pf (ai1):=⟨ax2,fun _ _=>rfl,atG,asG⟩
theorem akE:bg Tryz.prog aP (AN 0) (.loop Az) Ej.lp:=bQ.snd Vl U1 (aU (Γ:=Hy) (K:=eY) (L:=aC) J8 aG Az (fun b hb=>by rw [show aF Az=[] by kernel_rfl] at hb;cases hb)) (fun s=>by kernel_rfl)
theorem alS (s:jJ) (hE:Ue s):∃s',Lm s'∧ai1 (anL s) s' (iU s):=bQ.fin Vl U1 s hE
theorem alR (s:jJ) (hE:Ue s):(iU s).out=s.out++s.l.map (·.1):=by
 have hk:=bQ.uy Vl U1 (fun s=>s.out++(s.l.drop s.i.toNat).map (·.1)) (fun s hI=>by
  obtain ⟨h0,h1,h2,h3,h4⟩:=hI
  show bM _ _ (ZX s)
  unfold ZX Qk
  dsimp only [T.rd,T.rl]
  refine au (fun c1=>?_) (fun c1=>?_)
  ·have c1:s.i<s.n:=by simpa using c1
   rw [aK (x:=s.i+1) (by omega) (by omega)]
   show _++_=_++_
   simp only
   rw [(HY h0 (show s.i<s.l.length by omega)).1]
   simp
  ·rfl) s hE
 obtain ⟨s',hI,q1,q2⟩:=alS s hE
 have q3:(iU s).i=(iU s).n:=q2
 have hn:(iU s).n=(s.l.length:Int):=hE.2.1
 have hl:(iU s).l=s.l:=rfl
 rw [q3,hn,hl,List.drop_eq_nil_of_le (by omega),hE.1] at hk
 simpa using hk
structure kJ where
 l:List Ch
 n:Int
 i:Int
 aj:List Cd
 aB:List ByteArray
 ai:List Ko
 ak:List Ch
 aJ:List Ba
 out:List ByteArray
def aA1 (s:kJ):List LV:=[.own 0 0,.os 1 1 0 (List.length s.out),.xl dQ s.l,.v (.int .i64 s.n),.v (.int .i64 s.i)]
def az5 (s:kJ):List aT:=[⟨[.xl dW s.aj,.xl .str s.aB,.xl eu s.ai,.xl dQ s.ak,.xl eG s.aJ],28,.cl,false⟩,⟨[],9,.vec .str s.out,false⟩]
noncomputable def Aw:Code:=((aF (Tryz.f98.body.getD .skip))[3]?).getD .skip
def Qj (s:kJ):T (Rd kJ):=
 .br (decide (s.i<s.n)) (.req (0≤s.i∧s.i<(List.length s.l:Int)) (.req (0+(List.length s.out)=List.length s.out∧((List.length s.out+List.length ([(bC s.l s.i).1]):Nat):Int)*16≤2^47∧((List.length s.out+List.length ([(bC s.l s.i).1]):Nat):Int)<2^62) (.req (0=0∧(List.length s.out+List.length ([(bC s.l s.i).1]))=List.length (s.out++([(bC s.l s.i).1]))) (.ok (.next {s with i:=(IntKind.i64.wrap (s.i+1)),out:=(s.out++([(bC s.l s.i).1]))}))))) (.rl s.out (.ok (.stop (.exit 6) s)))
abbrev ZW (s:kJ):=(Qj s).rd s
def Ud (s:kJ):Prop:=s.i=0∧s.n=(s.l.length:Int)∧s.n≤1000∧(s.out.length:Int)≤10000
def Ll (s:kJ):Prop:=0≤s.i∧s.i≤s.n∧s.n=(s.l.length:Int)∧s.n≤1000∧(s.out.length:Int)≤10000+s.i
def NQ (s:kJ):Nat:=(s.n-s.i).toNat
def ai0 (x:Ex) (_ s':kJ):Prop:=x=.exit 6∧s'.i=s'.n
theorem ax1:∀s,Ud s→Ll s:=by
 intro s h
 obtain ⟨h0,h1,h2,h3⟩:=h
 exact ⟨by omega,by omega,h1,h2,by omega⟩
theorem atF (s:kJ) (hI:Ll s):bM (fun s'=>Ll s'∧NQ s'<NQ s) (fun x s'=>ai0 x s s') (ZW s):=by
 unfold ZW Qj
 dsimp only [T.rd,T.rl]
 obtain ⟨h0,h1,h2,h3,h4⟩:=hI
 refine au (fun c1=>?_) (fun c1=>?_)
 ·have c1:s.i<s.n:=by simpa using c1
  rw [aK (x:=s.i+1) (by omega) (by omega)]
  exact ⟨⟨by simp only;omega,by simp only;omega,h2,h3,by simp only [List.length_append,List.length_cons,List.length_nil];omega⟩,by simp only [NQ];omega⟩
 ·have c1:s.n≤s.i:=by simpa using c1
  exact ⟨rfl,by omega⟩
def Ei:bQ kJ:=⟨0,80,[1,3,54,55,56],[],aA1,az5,fun v b=>⟨aQ dQ (v.getD 2 .junk),gI (v.getD 3 .junk),gI (v.getD 4 .junk),aQ dW (aY (aO b 0) 0),aQ .str (aY (aO b 0) 1),aQ eu (aY (aO b 0) 2),aQ dQ (aY (aO b 0) 3),aQ eG (aY (aO b 0) 4),jk .str (aO b 1)⟩,Qj,fun s r=> {r with l:=s.l,n:=s.n,aj:=s.aj,aB:=s.aB,ai:=s.ai,ak:=s.ak,aJ:=s.aJ},fun s=>s,fun _ s=>s,[.exit 6],Ud,Ll,NQ⟩
abbrev jO:=Ei.run
abbrev anK:=Ei.jZ
abbrev av5:=Ei.q
theorem asF (s:kJ) (hI:Ll s):(Qj s).all (fun _=>True):=by
 refine ⟨fun c1=>⟨?_,?_,?_,trivial⟩,fun c1=>⟨⟨rfl,rfl⟩,trivial⟩⟩
 all_goals ((obtain ⟨h0,h1,h2,h3,h4⟩:=hI;(try simp only [decide_eq_true_eq] at c1);first|omega|(refine ⟨by omega,?_,?_⟩<;>simp only [List.length_cons,List.length_nil]<;>omega) |(simp only [List.length_append,List.length_cons,List.length_nil];omega) |exact ⟨rfl,by simp⟩ |exact ⟨rfl,rfl⟩))
theorem Vk:Ei.Ok:=⟨fun s=>by kernel_rfl,fun s=>by kernel_rfl,fun s=>rfl,fun s t r=>rfl,fun s=>rfl,fun s=>by kernel_rfl⟩
theorem U0:Ei.Pf (ai0):=⟨ax1,fun _ _=>rfl,atF,asF⟩
theorem akD:bg Tryz.prog aP (AN 0) (.loop Aw) Ei.lp:=bQ.snd Vk U0 (aU (Γ:=Hy) (K:=eY) (L:=aC) J8 aG Aw (fun b hb=>by rw [show aF Aw=[] by kernel_rfl] at hb;cases hb)) (fun s=>by kernel_rfl)
theorem alQ (s:kJ) (hE:Ud s):∃s',Ll s'∧ai0 (anK s) s' (jO s):=bQ.fin Vk U0 s hE
theorem alP (s:kJ) (hE:Ud s):(jO s).out=s.out++s.l.map (·.1):=by
 have hk:=bQ.uy Vk U0 (fun s=>s.out++(s.l.drop s.i.toNat).map (·.1)) (fun s hI=>by
  obtain ⟨h0,h1,h2,h3,h4⟩:=hI
  show bM _ _ (ZW s)
  unfold ZW Qj
  dsimp only [T.rd,T.rl]
  refine au (fun c1=>?_) (fun c1=>?_)
  ·have c1:s.i<s.n:=by simpa using c1
   rw [aK (x:=s.i+1) (by omega) (by omega)]
   show _++_=_++_
   simp only
   rw [(RJ h0 (show s.i<s.l.length by omega)).1]
   simp
  ·rfl) s hE
 obtain ⟨s',hI,q1,q2⟩:=alQ s hE
 have q3:(jO s).i=(jO s).n:=q2
 have hn:(jO s).n=(s.l.length:Int):=hE.2.1
 have hl:(jO s).l=s.l:=rfl
 rw [q3,hn,hl,List.drop_eq_nil_of_le (by omega),hE.1] at hk
 simpa using hk
structure l7 where
 l:List Ba
 n:Int
 i:Int
 out:List ByteArray
def aA0 (s:l7):List LV:=[.os 0 1 0 (List.length s.out),.xl eG s.l,.v (.int .i64 s.n),.v (.int .i64 s.i)]
def az4 (s:l7):List aT:=[⟨[],9,.vec .str s.out,false⟩]
noncomputable def Au:Code:=((aF (Tryz.f98.body.getD .skip))[4]?).getD .skip
def Qi (s:l7):T (Rd l7):=
 .br (decide (s.i<s.n)) (.req (0≤s.i∧s.i<(List.length s.l:Int)) (.req (0+(List.length s.out)=List.length s.out∧((List.length s.out+List.length ([(BG s.l s.i).1]):Nat):Int)*16≤2^47∧((List.length s.out+List.length ([(BG s.l s.i).1]):Nat):Int)<2^62) (.req (0=0∧(List.length s.out+List.length ([(BG s.l s.i).1]))=List.length (s.out++([(BG s.l s.i).1]))) (.ok (.next {s with i:=(IntKind.i64.wrap (s.i+1)),out:=(s.out++([(BG s.l s.i).1]))}))))) (.rl s.out (.ok (.stop (.exit 8) s)))
abbrev ZV (s:l7):=(Qi s).rd s
def Uc (s:l7):Prop:=s.i=0∧s.n=(s.l.length:Int)∧s.n≤1000∧(s.out.length:Int)≤10000
def Lj (s:l7):Prop:=0≤s.i∧s.i≤s.n∧s.n=(s.l.length:Int)∧s.n≤1000∧(s.out.length:Int)≤10000+s.i
def NP (s:l7):Nat:=(s.n-s.i).toNat
def aiZ (x:Ex) (_ s':l7):Prop:=x=.exit 8∧s'.i=s'.n
theorem ax0:∀s,Uc s→Lj s:=by
 intro s h
 obtain ⟨h0,h1,h2,h3⟩:=h
 exact ⟨by omega,by omega,h1,h2,by omega⟩
theorem atE (s:l7) (hI:Lj s):bM (fun s'=>Lj s'∧NP s'<NP s) (fun x s'=>aiZ x s s') (ZV s):=by
 unfold ZV Qi
 dsimp only [T.rd,T.rl]
 obtain ⟨h0,h1,h2,h3,h4⟩:=hI
 refine au (fun c1=>?_) (fun c1=>?_)
 ·have c1:s.i<s.n:=by simpa using c1
  rw [aK (x:=s.i+1) (by omega) (by omega)]
  exact ⟨⟨by simp only;omega,by simp only;omega,h2,h3,by simp only [List.length_append,List.length_cons,List.length_nil];omega⟩,by simp only [NP];omega⟩
 ·have c1:s.n≤s.i:=by simpa using c1
  exact ⟨rfl,by omega⟩
def Eh:bQ l7:=⟨0,80,[3,67,68,69],[],aA0,az4,fun v b=>⟨aQ eG (v.getD 1 .junk),gI (v.getD 2 .junk),gI (v.getD 3 .junk),jk .str (aO b 0)⟩,Qi,fun s r=> {r with l:=s.l,n:=s.n},fun s=>s,fun _ s=>s,[.exit 8],Uc,Lj,NP⟩
abbrev lS:=Eh.run
abbrev anJ:=Eh.jZ
abbrev av4:=Eh.q
theorem asE (s:l7) (hI:Lj s):(Qi s).all (fun _=>True):=by
 refine ⟨fun c1=>⟨?_,?_,?_,trivial⟩,fun c1=>⟨⟨rfl,rfl⟩,trivial⟩⟩
 all_goals ((obtain ⟨h0,h1,h2,h3,h4⟩:=hI;(try simp only [decide_eq_true_eq] at c1);first|omega|(refine ⟨by omega,?_,?_⟩<;>simp only [List.length_cons,List.length_nil]<;>omega) |(simp only [List.length_append,List.length_cons,List.length_nil];omega) |exact ⟨rfl,by simp⟩ |exact ⟨rfl,rfl⟩))
theorem Vj:Eh.Ok:=⟨fun s=>by kernel_rfl,fun s=>by kernel_rfl,fun s=>rfl,fun s t r=>rfl,fun s=>rfl,fun s=>by kernel_rfl⟩
theorem UZ:Eh.Pf (aiZ):=⟨ax0,fun _ _=>rfl,atE,asE⟩
theorem akC:bg Tryz.prog aP (AN 0) (.loop Au) Eh.lp:=bQ.snd Vj UZ (aU (Γ:=Hy) (K:=eY) (L:=aC) J8 aG Au (fun b hb=>by rw [show aF Au=[] by kernel_rfl] at hb;cases hb)) (fun s=>by kernel_rfl)
theorem alO (s:l7) (hE:Uc s):∃s',Lj s'∧aiZ (anJ s) s' (lS s):=bQ.fin Vj UZ s hE
theorem alN (s:l7) (hE:Uc s):(lS s).out=s.out++s.l.map (·.1):=by
 have hk:=bQ.uy Vj UZ (fun s=>s.out++(s.l.drop s.i.toNat).map (·.1)) (fun s hI=>by
  obtain ⟨h0,h1,h2,h3,h4⟩:=hI
  show bM _ _ (ZV s)
  unfold ZV Qi
  dsimp only [T.rd,T.rl]
  refine au (fun c1=>?_) (fun c1=>?_)
  ·have c1:s.i<s.n:=by simpa using c1
   rw [aK (x:=s.i+1) (by omega) (by omega)]
   show _++_=_++_
   simp only
   rw [(RP h0 (show s.i<s.l.length by omega)).1]
   simp
  ·rfl) s hE
 obtain ⟨s',hI,q1,q2⟩:=alO s hE
 have q3:(lS s).i=(lS s).n:=q2
 have hn:(lS s).n=(s.l.length:Int):=hE.2.1
 have hl:(lS s).l=s.l:=rfl
 rw [q3,hn,hl,List.drop_eq_nil_of_le (by omega),hE.1] at hk
 simpa using hk
def abj:List LV→T LV
 | [.agg [.xl (.pair .str (.pair (.int .i64) (.pair (.int .i64) (.pair (.int .i64) (.pair (.pair (.int .i64) (.int .i64)) (.pair (.int .i64) (.pair (.int .i64) (.pair (.int .i64) (.pair (.int .i64) (.int .i64)))))))))) cs,.xl (.str) os,.xl (.pair .str (.pair (.int .i64) (.pair (.int .i64) (.int .i64)))) ks,.xl (.pair .str (.pair (.int .i64) (.pair (.int .i64) (.pair (.int .i64) (.pair (.int .i64) (.pair (.int .i64) (.pair (.int .i64) (.int .i64)))))))) gs,.xl (.pair .str (.int .i64)) bs]]=> .req ((List.length cs:Int)≤1000∧(List.length os:Int)≤1000∧(List.length ks:Int)≤1000∧(List.length gs:Int)≤1000∧(List.length bs:Int)≤1000) (.ok (.xl .str (gB cs os ks gs bs)))
 |_=> .no
noncomputable def Xi:List LV→T LV:=gW Tryz.prog Tryz.f98.params.toList abj
theorem amq (cs:List Cd) (os:List ByteArray) (ks:List Ko) (gs:List Ch) (bs:List Ba):bW Tryz.prog aP (Hy) eY (fun i=>if i=3 then En.lp else if i=8 then Em.lp else if i=13 then Ej.lp else if i=18 then Ei.lp else if i=23 then Eh.lp else aC i) Tryz.f98 [.agg [.xl dW cs,.xl .str os,.xl eu ks,.xl dQ gs,.xl eG bs]]=.req (0=0∧0=List.length ([]:List ByteArray)) (.req (av8 (⟨cs,(List.length cs:Int),(0:Int),cs,os,ks,gs,bs,([]:List ByteArray)⟩:iO)) (.rl (gG (⟨cs,(List.length cs:Int),(0:Int),cs,os,ks,gs,bs,([]:List ByteArray)⟩:iO)).out (.req (av7 (⟨os,(List.length os:Int),(0:Int),cs,os,ks,gs,bs,(gG (⟨cs,(List.length cs:Int),(0:Int),cs,os,ks,gs,bs,([]:List ByteArray)⟩:iO)).out⟩:jo)) (.rl (iw (⟨os,(List.length os:Int),(0:Int),cs,os,ks,gs,bs,(gG (⟨cs,(List.length cs:Int),(0:Int),cs,os,ks,gs,bs,([]:List ByteArray)⟩:iO)).out⟩:jo)).out (.req (av6 (⟨ks,(List.length ks:Int),(0:Int),cs,os,ks,gs,bs,(iw (⟨os,(List.length os:Int),(0:Int),cs,os,ks,gs,bs,(gG (⟨cs,(List.length cs:Int),(0:Int),cs,os,ks,gs,bs,([]:List ByteArray)⟩:iO)).out⟩:jo)).out⟩:jJ)) (.rl (iU (⟨ks,(List.length ks:Int),(0:Int),cs,os,ks,gs,bs,(iw (⟨os,(List.length os:Int),(0:Int),cs,os,ks,gs,bs,(gG (⟨cs,(List.length cs:Int),(0:Int),cs,os,ks,gs,bs,([]:List ByteArray)⟩:iO)).out⟩:jo)).out⟩:jJ)).out (.req (av5 (⟨gs,(List.length gs:Int),(0:Int),cs,os,ks,gs,bs,(iU (⟨ks,(List.length ks:Int),(0:Int),cs,os,ks,gs,bs,(iw (⟨os,(List.length os:Int),(0:Int),cs,os,ks,gs,bs,(gG (⟨cs,(List.length cs:Int),(0:Int),cs,os,ks,gs,bs,([]:List ByteArray)⟩:iO)).out⟩:jo)).out⟩:jJ)).out⟩:kJ)) (.rl (jO (⟨gs,(List.length gs:Int),(0:Int),cs,os,ks,gs,bs,(iU (⟨ks,(List.length ks:Int),(0:Int),cs,os,ks,gs,bs,(iw (⟨os,(List.length os:Int),(0:Int),cs,os,ks,gs,bs,(gG (⟨cs,(List.length cs:Int),(0:Int),cs,os,ks,gs,bs,([]:List ByteArray)⟩:iO)).out⟩:jo)).out⟩:jJ)).out⟩:kJ)).out (.req (av4 (⟨bs,(List.length bs:Int),(0:Int),(jO (⟨gs,(List.length gs:Int),(0:Int),cs,os,ks,gs,bs,(iU (⟨ks,(List.length ks:Int),(0:Int),cs,os,ks,gs,bs,(iw (⟨os,(List.length os:Int),(0:Int),cs,os,ks,gs,bs,(gG (⟨cs,(List.length cs:Int),(0:Int),cs,os,ks,gs,bs,([]:List ByteArray)⟩:iO)).out⟩:jo)).out⟩:jJ)).out⟩:kJ)).out⟩:l7)) (.req (0+(List.length (lS (⟨bs,(List.length bs:Int),(0:Int),(jO (⟨gs,(List.length gs:Int),(0:Int),cs,os,ks,gs,bs,(iU (⟨ks,(List.length ks:Int),(0:Int),cs,os,ks,gs,bs,(iw (⟨os,(List.length os:Int),(0:Int),cs,os,ks,gs,bs,(gG (⟨cs,(List.length cs:Int),(0:Int),cs,os,ks,gs,bs,([]:List ByteArray)⟩:iO)).out⟩:jo)).out⟩:jJ)).out⟩:kJ)).out⟩:l7)).out)≤List.length (lS (⟨bs,(List.length bs:Int),(0:Int),(jO (⟨gs,(List.length gs:Int),(0:Int),cs,os,ks,gs,bs,(iU (⟨ks,(List.length ks:Int),(0:Int),cs,os,ks,gs,bs,(iw (⟨os,(List.length os:Int),(0:Int),cs,os,ks,gs,bs,(gG (⟨cs,(List.length cs:Int),(0:Int),cs,os,ks,gs,bs,([]:List ByteArray)⟩:iO)).out⟩:jo)).out⟩:jJ)).out⟩:kJ)).out⟩:l7)).out) (.ok (.xl .str (((lS (⟨bs,(List.length bs:Int),(0:Int),(jO (⟨gs,(List.length gs:Int),(0:Int),cs,os,ks,gs,bs,(iU (⟨ks,(List.length ks:Int),(0:Int),cs,os,ks,gs,bs,(iw (⟨os,(List.length os:Int),(0:Int),cs,os,ks,gs,bs,(gG (⟨cs,(List.length cs:Int),(0:Int),cs,os,ks,gs,bs,([]:List ByteArray)⟩:iO)).out⟩:jo)).out⟩:jJ)).out⟩:kJ)).out⟩:l7)).out.drop 0).take (List.length (lS (⟨bs,(List.length bs:Int),(0:Int),(jO (⟨gs,(List.length gs:Int),(0:Int),cs,os,ks,gs,bs,(iU (⟨ks,(List.length ks:Int),(0:Int),cs,os,ks,gs,bs,(iw (⟨os,(List.length os:Int),(0:Int),cs,os,ks,gs,bs,(gG (⟨cs,(List.length cs:Int),(0:Int),cs,os,ks,gs,bs,([]:List ByteArray)⟩:iO)).out⟩:jo)).out⟩:jJ)).out⟩:kJ)).out⟩:l7)).out)))))))))))))):=by kernel_rfl
end Go.Proofs.YtlihnbimgclogaaGreatDoor
