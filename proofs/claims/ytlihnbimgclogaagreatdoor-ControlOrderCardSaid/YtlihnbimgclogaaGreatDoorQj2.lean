/- ControlOrder returns true for all arguments: the order has each index once; no later one has a lesser rank, or the same rank and a lesser slack, or both the same and a lesser index. Conditions: none; the table ramp.happens holds what its text says. -/
import Derived.Test.YtlihnbimgclogaaGreatDoorQj1
namespace Go.Sx
open Go Go.RowKit Go.Proofs.YtlihnbimgclogaaGreatDoor
variable {P : Program} {G : dB} {Γ : Specs} {β : Nat → Loc} {Z : Nat → Prop} {Z0 : Gz} {w w0 : World} {F : List LV} {H : List aS} {a : Act} {ds : List Deferred}
theorem EvL.set {k0:Nat}{b0 nb:aS}(hb0:H[k0]? =some b0) (he:Ev b0 nb):EvL H (H.set k0 nb):=fun k b hb=>by
 have hk:=(List.getElem?_eq_some_iff.1 hb).1
 rw [List.getElem?_set]
 by_cases hkk:k0=k
 ·subst hkk
  rw [hb] at hb0
  simp only [Option.some.injEq] at hb0
  subst hb0
  simp only [if_true,hk]
  exact ⟨nb,rfl,he⟩
 ·rw [if_neg hkk];exact ⟨b,hb,Ev.refl b⟩
theorem EvL.pub (ks:List Nat):EvL H (mZ ks 0 H):=fun k b hb=>by
 rw [yh,hb]
 simp only [Option.map_some,Nat.zero_add]
 split
 ·exact ⟨_,rfl,fun h=>⟨h,rfl,rfl⟩,fun _ _ h=>h,fun h=>by cases h⟩
 ·exact ⟨_,rfl,Ev.refl b⟩
theorem adF {t:TypeId}{x y:LV}{H':List aS}(h:(zh P H t x y).all (fun q=>q=H')):EvL H H':=by
 unfold zh at h
 split at h
 ·split at h
  ·split at h
   ·rename_i hb
    split at h
    ·rename_i hle
     simp only [T.all] at h
     subst h
     refine EvL.set hb ⟨fun hc=>⟨hc,rfl,?_⟩,fun _ _ h=>h,fun h=>h⟩
     simp only [setAt,List.length_append,List.length_take,List.length_drop]
     omega
    ·cases h
   ·cases h
  ·split at h
   ·rename_i hb
    split at h
    ·simp only [T.all] at h
     obtain ⟨_,h⟩:=h
     split at h
     ·simp only [T.all] at h
      subst h
      exact EvL.set hb ⟨fun hc=>by simp [aS.pF] at hc,fun _ _ h=>h,fun h=>h⟩
     ·cases h
    ·cases h
   ·cases h
  ·cases h
 ·cases h
theorem aaM {t:TypeId}{x i y:LV}{H':List aS}(h:(adZ P H t x i y).all (fun q=>q=H')):EvL H H':=by
 unfold adZ at h
 split at h
 ·split at h
  ·split at h
   ·rename_i hb
    split at h
    ·simp only [T.all] at h
     subst h
     exact EvL.set hb ⟨fun hc=>by simp [aS.pF] at hc,fun _ _ _=>trivial,fun h=>h⟩
    ·cases h
   ·cases h
  ·cases h
 ·cases h
theorem aaN {t:TypeId}{x i y:LV}{H':List aS}(h:(insL P H t x i y).all (fun q=>q=H')):EvL H H':=by
 unfold insL at h
 split at h
 ·split at h
  ·rename_i hb
   split at h
   ·split at h
    ·simp only [T.all] at h
     obtain ⟨_,h⟩:=h
     subst h
     exact EvL.set hb ⟨fun hc=>by simp [aS.pF] at hc,fun _ _ _=>trivial,fun h=>h⟩
    ·cases h
   ·cases h
  ·exact aaM h
 ·exact aaM h
theorem ahm {t:TypeId}{n c lv:LV}{H':List aS}(h:(Lm P H t n c).all (fun q=>q=(lv,H'))):EvL H H':=by
 unfold Lm at h
 split at h
 ·split at h
  ·split at h
   ·split at h
    ·simp only [T.all,Prod.mk.injEq] at h
     rw [←h.2.2];exact EvL.app _ _
    ·cases h
   ·cases h
  ·cases h
 ·cases h
theorem Yj {t tx:TypeId} {x y lv:LV} {H':List aS} (h:(Cm P H t tx x y).all (fun q=>q=(lv,H'))):EvL H H':=by
 unfold Cm at h
 split at h
 ·split at h
  ·split at h
   ·obtain ⟨q,_,h⟩:=T.aU h
    ·split at h
     ·simp only [T.all,Prod.mk.injEq] at h
      rw [←h.2.2];exact EvL.app _ _
     ·split at h
      ·rename_i hb
       split at h
       ·split at h
        ·simp only [T.all,Prod.mk.injEq] at h
         rw [←h.2.2]
         refine (EvL.set hb ?_).trans (EvL.app _ _)
         exact ⟨fun hc=>by simp [aS.pF] at hc,fun _ _ h=>by simp [live] at h,fun _=>rfl⟩
        ·cases h
       ·cases h
      ·cases h
     ·cases h
   ·cases h
  ·cases h
 ·cases h
end Go.Sx
namespace Go.Sx
open Go Go.RowKit Go.Proofs.YtlihnbimgclogaaGreatDoor
variable {P : Program} {G : dB} {Γ : Specs} {K : Hand} {β : Nat → Loc} {Z : Nat → Prop} {Z0 : Gz} {w w0 : World} {F : List LV} {H : List aS} {a : Act} {ds : List Deferred} {n : Nat}
theorem RF.put (hF:RF ds β Z w n F a) {lv:LV}{v:Value}(hr:R β Z w lv v) (hk:okV n lv) (d:Option Tmp):RF ds β Z w n (dL F d lv) (a.put d v):=by
 cases d with
 |none=>exact hF
 | some d=>
  refine ⟨by simp [dL,Act.put,hF.size],fun t x hx=>?_,hF.defers⟩
  simp only [dL] at hx
  rw [List.getElem?_set] at hx
  simp only [Act.put]
  have hlt:t<F.length:=by
   by_cases ht:t<F.length
   ·exact ht
   ·exfalso
    split at hx
    ·split at hx
     ·omega
     ·cases hx
    ·rw [List.getElem?_eq_none (by omega)] at hx;cases hx
  have hta:t<a.tmps.size:=by rw [hF.size];exact hlt
  by_cases hdt:d=t
  ·subst hdt
   simp only [if_true,hlt] at hx
   simp only [Option.some.injEq] at hx
   subst hx
   have:(a.tmps.setIfInBounds d v).getD d undef=v:=by simp [Array.getD,hta]
   rw [this];exact ⟨hr,hk⟩
  ·rw [if_neg hdt] at hx
   have:(a.tmps.setIfInBounds d v).getD t undef=a.tmps.getD t undef:=by simp [Array.getD,hta,hdt]
   rw [this];exact hF.get t x hx
theorem RF.know (hF:RF ds β Z w n F a) {d:Nat}{lv:LV}(hr:R β Z w lv (a.tmps.getD d undef)) (hk:okV n lv):RF ds β Z w n (F.set d lv) a:=by
 refine ⟨by simp [hF.size],fun t x hx=>?_,hF.defers⟩
 rw [List.getElem?_set] at hx
 by_cases hdt:d=t
 ·subst hdt
  simp only [if_true] at hx
  split at hx
  ·simp only [Option.some.injEq] at hx;subst hx;exact ⟨hr,hk⟩
  ·cases hx
 ·rw [if_neg hdt] at hx;exact hF.get t x hx
theorem RF.pass (hF:RF ds β Z w n F a) (d:Option Tmp):RF ds β Z w n (dL F d (.v undef)) (a.put d undef):=hF.put (lv:=.v undef) (by simp only [R]) trivial d
theorem uF {o:Oper}{K:Act→World→Prop}{Q:Exit→Act→World→Prop}(h:dU P (fun v w'=>K (a.put o.dst v) w') ((execOp a.eval o).run P w)) (r:Option Nat) (m:Nat):o.wpIn (J8 r) m P a w K Q:=by
 have hnd:∀c,o.op≠ .defer c:=fun c hc=>by
  rcases zB (P:=P) (ρ:=a.eval) (w:=w) hc with ⟨d,w',e⟩ |⟨d,w',e⟩<;>rw [e] at h<;>simp only [dU] at h
 unfold Oper.wpIn
 refine ⟨fun _ _=>trivial,?_⟩
 rw [semAt_eq hnd]
 generalize (execOp a.eval o).run P w=res at*
 cases res with
 |ok m w'=>
  cases m<;>simp only [dU] at h<;>simp only [Oper.uponIn]
  case value u=>exact h
  case skip=>exact h
  case enter f args=>exact ⟨fun h=>(by cases h),callsIn_wide.2 (h.mono fun e w'' ⟨v,he,hk⟩=>by subst he;exact hk)⟩
  case round l f tmps assign body=>exact ⟨fun h=>(by cases h),G9 (h.mono fun e w'' ⟨v,he,hk⟩=>by subst he;exact hk)⟩
 |halt x w'=>simp only [dU] at h
theorem nY {ops:Array Oper}{o:Oper}{j d:Nat}{want b:Bool}(hg:o.guard=some (j,want)) (hd:(ops[j]?).bind (·.dst)=some d) (hv:a.tmps[d]? =some (.bool b)):Region.wanted o (yielded ops a.tmps)=(b==want):=by
 unfold Region.wanted
 rw [hg]
 simp only [yielded,hd,Option.bind_some,hv]
 cases b<;>cases want<;>rfl
theorem rF {ops:Array Oper}{o:Oper}{j d:Nat}{want:Bool}{vs:Array Value}(hg:o.guard=some (j,want)) (hd:(ops[j]?).bind (·.dst)=some d) (hv:a.tmps[d]? =some (.tuple vs)):Region.wanted o (yielded ops a.tmps)=false:=by
 unfold Region.wanted
 rw [hg]
 simp only [yielded,hd,Option.bind_some,hv]
 cases want<;>rfl
theorem RF.slot (hF:RF ds β Z w n F a) {d:Nat}{x:LV}(hx:F.getD d .junk=x) (hj:x≠ .junk):F[d]? =some x∧a.tmps[d]? =some (a.tmps.getD d undef):=by
 cases h:F[d]? with
 |none=>simp [List.getD,h] at hx;exact absurd hx.symm hj
 |some y=>
  simp [List.getD,h] at hx
  subst hx
  refine ⟨rfl,?_⟩
  have:d<a.tmps.size:=by rw [hF.size];exact (List.getElem?_eq_some_iff.1 h).1
  simp [Array.getD,this]
theorem RW.less {gh:List (LV×Value)}{mk:List Nat}(hW:RW G w0 ⟨Z0.z,gh++Z0.gh,mk++Z0.rQ⟩ Z β H w):RW G w0 Z0 Z β H w:=⟨hW.below,hW.mJ,hW.tq,hW.lu,hW.vV,hW.low,hW.inj,hW.blk,hW.jh,fun p hp=>hW.gh p (List.mem_append.2 (.inr hp)),fun D hD=>hW.rQ D (List.mem_append.2 (.inr hD))⟩
def dsB:List Deferred→List Nat
 | []=>[]
 |⟨.collected D,_⟩::ds=>D::dsB ds
 |_::ds=>dsB ds
theorem Pj:∀ {ds:List Deferred}{D:Nat},jQ D∈ds→D∈dsB ds
 | d::ds,D,h=>by
  rcases List.mem_cons.1 h with h|h
  ·rw [←h];simp [dsB]
  ·unfold dsB
   split
   ·exact absurd ‹_› (by simp)
   ·rename_i e;simp only [List.cons.injEq] at e;rw [←e.2];exact List.mem_cons_of_mem _ (Pj h)
   ·rename_i e;simp only [List.cons.injEq] at e;rw [←e.2];exact Pj h
theorem agW:∀ {ds:List Deferred}{D:Nat},D∈dsB ds→(∀d,d∈ds→∃D,d=jQ D)→jQ D∈ds
 | [],D,h,_=>by cases h
 |d::ds,D,h,hm=>by
  obtain ⟨D0,rfl⟩:=hm d (by simp)
  simp only [dsB] at h
  rcases List.mem_cons.1 h with h|h
  ·rw [h];exact List.mem_cons_self
  ·exact List.mem_cons_of_mem _ (agW h (fun d hd=>hm d (List.mem_cons_of_mem _ hd)))
theorem RW.hold (hW:RW G w0 Z0 Z β H w) (hF:RF ds β Z w H.length F a):RW G w0 ⟨Z0.z,F.zip a.tmps.toList++Z0.gh,dsB ds++Z0.rQ⟩ Z β H w:=⟨hW.below,hW.mJ,hW.tq,hW.lu,hW.vV,hW.low,hW.inj,hW.blk,hW.jh,fun p hp=>by
  rcases List.mem_append.1 hp with hp|hp
  ·obtain ⟨i,hi,hpi⟩:=List.mem_iff_getElem.1 hp
   have hiF:i<F.length:=by simp at hi;omega
   have hia:i<a.tmps.size:=by simp at hi;omega
   have h1:=hF.get i F[i] (List.getElem?_eq_getElem hiF)
   have e1:p=(F[i],a.tmps[i]):=by rw [←hpi];simp
   have e2:a.tmps.getD i undef=a.tmps[i]:=by simp [Array.getD,hia]
   rw [e2] at h1
   rw [e1];exact h1
  ·exact hW.gh p hp,fun D hD=>by
  rcases List.mem_append.1 hD with hD|hD
  ·have:=agW hD (fun d hd=>by obtain ⟨D,h,_⟩:=hF.defers.2 d hd;exact ⟨D,h⟩)
   obtain ⟨D',h1,h2,h3⟩:=hF.defers.2 _ this
   simp only [jQ,Deferred.mk.injEq,Target.collected.injEq] at h1
   rw [h1.1];exact ⟨h2,h3⟩
  ·exact hW.rQ D hD⟩
theorem RW.held {β':Nat→Loc}{Z':Nat→Prop}{w':World}{H':List aS}(hF:RF ds β Z w H.length F a) (r1:RW G w0 ⟨Z0.z,F.zip a.tmps.toList++Z0.gh,dsB ds++Z0.rQ⟩ Z' β' H' w'):RF ds β' Z' w' H'.length F a:=by
 refine ⟨hF.size,fun t x hx=>?_,hF.defers.1,fun d hd=>?_⟩
 ·have htF:t<F.length:=(List.getElem?_eq_some_iff.1 hx).1
  have hta:t<a.tmps.size:=by have:=hF.size;omega
  have e2:a.tmps.getD t undef=a.tmps[t]:=by simp [Array.getD,hta]
  rw [e2]
  refine r1.gh (x,a.tmps[t]) (List.mem_append.2 (.inl (List.mem_iff_getElem.2 ⟨t,by simp;omega,?_⟩)))
  have:F[t]=x:=by simpa [List.getElem?_eq_getElem htF] using hx
  simp [this]
 ·obtain ⟨D,h1,h2,h3⟩:=hF.defers.2 d hd
  have:=r1.rQ D (List.mem_append.2 (.inl (Pj (h1▸hd))))
  exact ⟨D,h1,this.1,this.2⟩
theorem LW {o:Oper}{g:FuncId}{l:List LV}(h:callOf G F o=some (g,l)):∃f args ty cap,o.op=.call {callee:=.value f,args,argTypes:=ty}∧aK G F f=.fn g cap∧l=args.toList.map (fun x=>norm (aK G F x))++cap:=by
 unfold callOf at h
 split at h
 ·rename_i f args ty ho
  split at h
  ·rename_i g' cap hf
   simp only [Option.some.injEq,Prod.mk.injEq] at h
   obtain ⟨rfl,rfl⟩:=h
   exact ⟨f,args,ty,cap,ho,hf,rfl⟩
  ·cases h
 ·cases h
theorem QC {o:Oper}{k:Nat}{l:List LV}(h:aez G F o=some (k,l)):∃f args ty,o.op=.call {callee:=.value f,args,argTypes:=ty}∧aK G F f=.vK k∧l=args.toList.map (fun x=>norm (aK G F x)):=by
 unfold aez at h
 split at h
 ·rename_i f args ty ho
  split at h
  ·rename_i k' hf
   simp only [Option.some.injEq,Prod.mk.injEq] at h
   obtain ⟨rfl,rfl⟩:=h
   exact ⟨f,args,ty,ho,hf,rfl⟩
  ·cases h
 ·cases h
theorem KZ (hΓ:∀g S,Γ g=some S→Valid P G g S) (hK:cO P G K) (hW:RW G w0 Z0 Z β H w) (hF:RF ds β Z w H.length F a) {o:Oper}{lv:LV}{H':List aS}(h:(opk P G Γ K F H o).all (fun q=>q=(lv,H'))):
  dU P (fun v w'=>∃Z' β',RW G w0 Z0 Z' β' H' w'∧RF ds β' Z' w' H'.length F a∧R β' Z' w' lv v∧okV H'.length lv) ((execOp a.eval o).run P w):=by
 unfold opk at h
 have old:(kP P G Γ F H o).all (fun q=>q=(lv,H'))→dU P (fun v w'=>∃Z' β',RW G w0 Z0 Z' β' H' w'∧RF ds β' Z' w' H'.length F a∧R β' Z' w' lv v∧okV H'.length lv) ((execOp a.eval o).run P w):=fun h=>
  gB (fun v w' ⟨Z',β',e1,e2,e3,e4,_⟩=>⟨Z',β',e1,e2,e3,e4⟩) (yj hΓ hW hF h)
 split at h
 ·rename_i g l hc
  split at h
  ·exact old h
  ·split at h
   ·rename_i fn hfn
    split at h
    ·rename_i hb
     obtain ⟨f,args,ty,cap,ho,hf,rfl⟩:=LW hc
     simp only [Bool.and_eq_true,Bool.not_eq_true'] at hb
     obtain ⟨hb1,hb2⟩:=hb
     have hfr:=hF.eval hW.jh f
     rw [hf] at hfr
     simp only [R,okV] at hfr
     obtain ⟨⟨ys,hy,hyr⟩,hcap⟩:=hfr
     have hrun:(execOp a.eval o).run P w=.ok (.enter g (args.map a.eval++ys)) w:=by
      unfold execOp
      simp only [ho]
      have hbn:¬fn.body=none:=by intro hbb;simp [hbb] at hb1
      have hb3:¬fn.name= "runtime.NumGoroutine":=by simpa using hb2
      simp [resolve,Deferred.ofValue,hy,invoke,callFunc,hfn,hb3,hbn]
     rw [hrun]
     simp only [dU]
     have hargs:RL β Z w (args.toList.map (fun x=>norm (aK G F x))++cap) (args.map a.eval++ys).toList:=by
      refine RL.dN (by simp [RL.length hyr]) fun i x hx=>?_
      rw [Array.toList_append,Array.toList_map]
      by_cases hi:i<args.toList.length
      ·rw [List.getElem?_append_left (by simpa using hi)] at hx⊢
       rw [List.getElem?_map] at hx⊢
       cases hq:args.toList[i]? with
       |none=>simp [hq] at hx
       |some q=>simp [hq] at hx;subst hx;exact ⟨a.eval q,by simp,sO (hF.eval hW.jh q).1⟩
      ·rw [List.getElem?_append_right (by simpa using hi)] at hx⊢
       obtain ⟨y,h1,h2⟩:=RL.get _ _ hyr hx
       exact ⟨y,by simpa using h1,h2⟩
     have hoka:dP H.length (args.toList.map (fun x=>norm (aK G F x))++cap):=by
      refine dP.append (dP.dN fun i x hx=>?_) hcap
      rw [List.getElem?_map] at hx
      cases hq:args.toList[i]? with
      |none=>simp [hq] at hx
      |some q=>simp [hq] at hx;subst hx;exact rP (hF.eval hW.jh q).2
     exact (hK.k w0 _ Z β H w g _ _ lv H' (hW.hold hF) hargs hoka h).mono fun e w' ⟨v,he,Z',β',r1,r2,r3⟩=>⟨v,he,Z',β',r1.less,RW.held hF r1,r2,r3⟩
    ·cases h
   ·cases h
 ·split at h
  ·rename_i k l hy
   obtain ⟨f,args,ty,ho,hf,rfl⟩:=QC hy
   have hfr:=hF.eval hW.jh f
   rw [hf] at hfr
   simp only [R,okV] at hfr
   have hargs:RL β Z w (args.toList.map (fun x=>norm (aK G F x))) (args.map a.eval).toList:=by
    refine RL.dN (by simp) fun i x hx=>?_
    rw [Array.toList_map,List.getElem?_map]
    rw [List.getElem?_map] at hx
    cases hq:args.toList[i]? with
    |none=>simp [hq] at hx
    |some q=>simp [hq] at hx;subst hx;exact ⟨a.eval q,by simp,sO (hF.eval hW.jh q).1⟩
   have hoka:dP H.length (args.toList.map (fun x=>norm (aK G F x))):=by
    refine dP.dN fun i x hx=>?_
    rw [List.getElem?_map] at hx
    cases hq:args.toList[i]? with
    |none=>simp [hq] at hx
    |some q=>simp [hq] at hx;subst hx;exact rP (hF.eval hW.jh q).2
   obtain ⟨r,h1,h2,h3⟩:=hK.y w0 _ Z β H w k _ _ lv H' (hW.hold hF) hargs hoka h
   have hrun:(execOp a.eval o).run P w=.ok (.round (β k).b r.fn ((r.params.zip (args.map a.eval)).foldl (fun t (p,v)=>t.setIfInBounds p v) r.tmps) r.assign r.body) w:=by
    unfold execOp
    simp only [ho]
    have:=run_yield (P:=P) h1 h2
    simp [resolve,Deferred.ofValue,hfr.1,invoke,this]
   rw [hrun]
   simp only [dU]
   exact h3.mono fun e w' ⟨v,he,Z',β',r1,r2,r3⟩=>⟨v,he,Z',β',r1.less,RW.held hF r1,r2,r3⟩
  ·exact old h
theorem atL {o:Oper}(hm:Xj P Γ o=true):opk P G Γ K F H o=kP P G Γ F H o:=by
 unfold opk
 split
 ·rename_i g l hc
  obtain ⟨f,args,ty,cap,ho,hf,rfl⟩:=LW hc
  unfold Xj at hm
  simp only [Bool.and_eq_true] at hm
  have hm2:=hm.2
  rw [ho] at hm2
  cases f with
  |func g'=>
   simp only [aK,LV.fn.injEq] at hf
   obtain ⟨rfl,_⟩:=hf
   simp only at hm2
   obtain ⟨S,hS⟩:=Option.isSome_iff_exists.1 hm2
   simp only [hS]
  |tmp _=>simp at hm2
  |const _=>simp at hm2
  |global _=>simp at hm2
 ·split
  ·rename_i k l hy
   obtain ⟨f,args,ty,ho,hf,rfl⟩:=QC hy
   unfold Xj at hm
   simp only [Bool.and_eq_true] at hm
   have hm2:=hm.2
   rw [ho] at hm2
   cases f with
   |func g'=>simp [aK] at hf
   |tmp _=>simp at hm2
   |const _=>simp at hm2
   |global _=>simp at hm2
  ·rfl
theorem adU {o:Oper}(hm:Xj P Γ o=true):oI P o=true:=by
 unfold Xj at hm
 simp only [Bool.and_eq_true] at hm
 exact hm.1
theorem KE {ty:Ty}:∀(cs:List LV) (ls:List (List ty.D)),Zb ty cs=some ls→∀(j:Nat) (x:LV),cs[j]? =some x→∃l,x=.xl ty l∧ls[j]? =some l
 | [],_,_,j,x,hx=>by simp at hx
 | c ::cs,ls,h,j,x,hx=>by
  simp only [Zb] at h
  split at h
  ·rename_i e l
   split at h
   ·rename_i he r _ hr
    simp only [Option.some.injEq] at h
    subst h
    subst he
    cases j with
    |zero=>
     simp only [List.getElem?_cons_zero,Option.some.injEq] at hx
     exact ⟨l,hx.symm,rfl⟩
    |succ j=>
     simp only [List.getElem?_cons_succ] at hx⊢
     exact KE cs r hr j x hx
   ·cases h
  ·cases h
theorem Xy {o o2:Oper} {num:Int} {len:Nat} {lv:LV} (hW:RW G w0 Z0 Z β H w) (hF:RF ds β Z w H.length F a) (h:auA P G F H o o2=some (num,len,lv)) (h0:0≤num∧num<(len:Int)):
  o.guard=none∧o2.guard=none∧∃v z,(execOp a.eval o).run P w=.ok (.value v) w∧(execOp (a.put o.dst v).eval o2).run P w=.ok (.value z) w∧R β Z w lv z∧okV H.length lv:=by
 unfold auA at h
 split at h
 ·rename_i hg
  simp only [Bool.and_eq_true,Option.isNone_iff_eq_none] at hg
  refine ⟨hg.1,hg.2,?_⟩
  split at h
  ·rename_i t x i d t2 d2 ho hd ho2
   split at h
   ·rename_i hc
    obtain ⟨rfl,hdl,hagg⟩:=hc
    split at h
    ·rename_i len' e k off kd n hu hx hi
     split at h
     ·rename_i hsz
      split at h
      ·rename_i b hb
       split at h
       ·rename_i hcl
        split at h
        ·rename_i ty l rest hcs
         split at h
         ·rename_i ls hls
          simp only [Option.some.injEq,Prod.mk.injEq] at h
          obtain ⟨rfl,rfl,rfl⟩:=h
          have exv:=hF.eval hW.jh x
          have eiv:=hF.eval hW.jh i
          rw [hx] at exv
          rw [hi] at eiv
          simp only [R] at eiv
          have hix:(zu P t (.own k off) true (.ki kd n)).all (fun r=>r=.own k (off+n.toNat*(0+1))):=by
           unfold zu
           simp only [pl,hu,hsz,if_true]
           rw [if_pos h0]
           simp only [T.all]
          obtain ⟨v,e1,e2,e3⟩:=ve (w:=w) hix exv.1 (show R β Z w (.ki kd n) (a.eval i) by simp only [R];exact eiv.1) exv.2
          have hj:n.toNat<len':=by omega
          obtain ⟨c,hc⟩:∃c,b.c[off+n.toNat]? =some c:=⟨_,List.getElem?_eq_getElem (by omega)⟩
          have hcc:(LV.xl ty l::rest)[n.toNat]? =some c:=by
           rw [←hcs,List.getElem?_take,if_pos hj,List.getElem?_drop]
           exact hc
          obtain ⟨l',rfl,hl'⟩:=KE _ _ hls _ _ hcc
          have hld:(vO P H t2 (.own k (off+n.toNat*(0+1)))).all (fun z=>z=.xl ty l'):=by
           unfold vO
           simp only [hagg,hb,Nat.zero_add,Nat.mul_one,hcl.1,if_true,hc,T.all]
          obtain ⟨z,f1,f2,f3⟩:=rX hW hld e2 e3
          have f1:=f1 w (fun _ _=>rfl)
          refine ⟨v,z,by simp [execOp,ho,e1],?_,?_,?_⟩
          ·have hda:d2<a.tmps.size:=by rw [hF.size];exact hdl
           have ev:(a.put o.dst v).eval (.tmp d2)=v:=by simp [hd,Act.put,Act.eval,Array.getD,hda]
           simp [execOp,ho2,ev,f1]
          ·have:ls.getD n.toNat []=l':=by simp [List.getD,hl']
           rw [this];exact f2
          ·trivial
         ·cases h
        ·cases h
       ·cases h
      ·cases h
     ·cases h
    ·cases h
   ·cases h
  ·cases h
 ·cases h
theorem tN (hΓ:∀g S,Γ g=some S→Valid P G g S) (hK:cO P G K) {ops:Array Oper}{Q:Exit→Act→World→Prop}{F':List LV}{H':List aS}(hQ:∀Z' β' a' w',RW G w0 Z0 Z' β' H' w'→RF ds β' Z' w' H'.length F' a'→Q .normal a' w') (r:Option Nat) (m:Nat):
  ∀(os:List Oper) (k:Nat) (F:List LV) (H:List aS) (Z:Nat→Prop) (β:Nat→Loc) (a:Act) (w:World),(∀j,os[j]? =ops[k+j]?)→RW G w0 Z0 Z β H w→RF ds β Z w H.length F a→
   (yI P G Γ K ops os F H).all (fun q=>q=(F',H'))→wpOpsIn (J8 r) m P ops Q (List.range' k os.length) a w
 | [],k,F,H,Z,β,a,w,_,hW,hF,h=>by
  simp only [yI,T.all,Prod.mk.injEq] at h
  obtain ⟨rfl,rfl⟩:=h
  simp only [List.length_nil,List.range'_zero,wpOpsIn]
  exact hQ Z β a w hW hF
 | o ::os,k,F,H,Z,β,a,w,hl,hW,hF,h=>by
  have h0:ops[k]? =some o:=by simpa using (hl 0).symm
  have hl':∀j,os[j]? =ops[k+1+j]? :=fun j=>by have:=hl (j+1);simpa [Nat.add_assoc,Nat.add_comm 1 j] using this
  simp only [List.length_cons,List.range'_succ,wpOpsIn,h0]
  have goOk:∀(F:List LV),RF ds β Z w H.length F a→((opk P G Γ K F H o).bind fun q=>yI P G Γ K ops os (dL F o.dst q.1) q.2).all (fun q=>q=(F',H'))→o.wpIn (J8 r) m P a w (wpOpsIn (J8 r) m P ops Q (List.range' (k+1) os.length)) Q:=fun F hF h=>by
   obtain ⟨⟨lv,H1⟩,h1,h2⟩:=T.aU h
   refine uF (gB (fun v w' ⟨Z',β',e1,e2,e3,e4⟩=>?_) (KZ hΓ hK hW hF h1)) r m
   exact tN hΓ hK hQ r m os (k+1) _ H1 Z' β' _ w' hl' e1 (e2.put e3 e4 o.dst) h2
  have passOk:∀(F:List LV),RF ds β Z w H.length F a→(yI P G Γ K ops os (dL F o.dst (.v undef)) H).all (fun q=>q=(F',H'))→(∀f,o.about P w a.eval=some f→(J8 r).fn f)∧wpOpsIn (J8 r) m P ops Q (List.range' (k+1) os.length) (a.put o.dst undef) w:=fun F hF h=>
   ⟨fun _ _=>trivial,tN hΓ hK hQ r m os (k+1) _ H Z β _ w hl' hW (hF.pass o.dst) h⟩
  unfold yI at h
  simp only at h
  split at h
  ·rename_i hg
   have hw:Region.wanted o (yielded ops a.tmps)=true:=by simp [Region.wanted,hg]
   rw [if_pos hw]
   split at h
   ·exact goOk F hF h
   ·rename_i o2 os2
    split at h
    ·rename_i num len lv hix
     simp only [T.all] at h
     obtain ⟨h1,h2⟩:=h
     obtain ⟨_,hg2,v,z,r1,r2,r3,r4⟩:=Xy hW hF hix h1
     have h02:ops[k+1]? =some o2:=by simpa using (hl' 0).symm
     have hl2:∀j,os2[j]? =ops[k+1+1+j]? :=fun j=>by have:=hl' (j+1);rw [List.getElem?_cons_succ] at this;rw [this];congr 1;omega
     have act1:∀ {K:Value→World→Prop},K v w→dU P K ((execOp a.eval o).run P w):=fun h=>by rw [r1];exact h
     have act2:∀ {K:Value→World→Prop},K z w→dU P K ((execOp (a.put o.dst v).eval o2).run P w):=fun h=>by rw [r2];exact h
     refine uF (act1 ?_) r m
     simp only [List.length_cons,List.range'_succ,wpOpsIn,h02]
     have hw2:Region.wanted o2 (yielded ops (a.put o.dst v).tmps)=true:=by simp [Region.wanted,hg2]
     rw [if_pos hw2]
     refine uF (act2 ?_) r m
     exact tN hΓ hK hQ r m os2 (k+1+1) _ H Z β _ w hl2 hW ((hF.put (lv:=.junk) (by simp only [R]) trivial o.dst).put r3 r4 o2.dst) h2
    ·exact goOk F hF h
  ·rename_i j want hg
   split at h
   ·rename_i d hd
    split at h
    ·rename_i b hb
     obtain ⟨s1,s2⟩:=hF.slot hb (by simp)
     have hv:=(hF.get d _ s1).1
     simp only [R] at hv
     rw [hv] at s2
     rw [nY hg hd s2]
     split at h
     ·rename_i e;subst e;simp only [beq_self_eq_true,if_true];exact goOk F hF h
     ·rename_i e;rw [if_neg (by simpa using e)];exact passOk F hF h
    ·rename_i g hb
     obtain ⟨s1,s2⟩:=hF.slot hb (by simp)
     have hv:=(hF.get d _ s1).1
     simp only [R] at hv
     have kn:∀b,g=b→RF ds β Z w H.length (F.set d (.bl b)) a:=fun b e=>hF.know (by simp only [R];rw [hv,e]) trivial
     rw [hv] at s2
     rw [nY hg hd s2]
     split at h
     ·rename_i hwt
      subst hwt
      simp only [T.all] at h
      cases hgg:g with
      |true=>simp only [beq_self_eq_true,if_true];exact goOk _ (kn true hgg) (h.1 hgg)
      |false=>rw [if_neg (by simp)];exact passOk _ (kn false hgg) (h.2 hgg)
     ·rename_i hwt
      have hwt':want=false:=by simpa using hwt
      subst hwt'
      simp only [T.all] at h
      cases hgg:g with
      |true=>rw [if_neg (by simp)];exact passOk _ (kn true hgg) (h.1 hgg)
      |false=>simp only [beq_self_eq_true,if_true];exact goOk _ (kn false hgg) (h.2 hgg)
    ·rename_i vs hb
     obtain ⟨s1,s2⟩:=hF.slot hb (by simp)
     have hv:=(hF.get d _ s1).1
     simp only [R] at hv
     rw [hv] at s2
     rw [rF hg hd s2,if_neg (by simp)]
     exact passOk F hF h
    ·cases h
   ·cases h
def T.lv {α:Type}(p:α→Prop):T α→Prop
 | .ok x=>p x
 | .br _ t e=>t.lv p∧e.lv p
 | .req _ t=>t.lv p
 | .no=>True
theorem T.uX {α γ:Type}{p:α→Prop}{q:γ→Prop}{k:α→T γ}(hk:∀x,p x→(k x).lv q):∀ {t:T α},t.lv p→(t.bind k).lv q
 | .ok _,h=>hk _ h
 | .br _ t e,h=>⟨T.uX hk (t:=t) h.1,T.uX hk (t:=e) h.2⟩
 | .req _ t,h=>T.uX hk (t:=t) h
 | .no,_=>trivial
theorem T.yw {α:Type}{p:α→Prop}(hp:∀x,p x):∀(t:T α),t.lv p
 | .ok _=>hp _
 | .br _ t e=>⟨T.yw hp t,T.yw hp e⟩
 | .req _ t=>T.yw hp t
 | .no=>trivial
theorem Yb {o:Oper}(hpt:lS P 8 o.type=true) {g:FuncId}{l:List LV}:(xw P Γ H o g l).lv (fun q=>q.2=H):=by
 have bd:∀(t:T LV),(t.bind fun y=>(T.ok (y,H):T (LV×List aS))).lv (fun q=>q.2=H):=fun t=>T.uX (p:=fun _=>True) (q:=fun q:LV×List aS=>q.2=H) (k:=fun y=>T.ok (y,H)) (fun x _=>(rfl:(x,H).2=H)) (T.yw (fun _=>trivial) t)
 unfold xw
 split
 ·split
  ·split
   ·split
    ·exact bd _
    ·first|exact bd _|(rw [if_pos hpt];exact bd _)
   ·trivial
  ·trivial
 ·trivial
theorem Hy {o:Oper}(hm:oI P o=true):(kP P G Γ F H o).lv (fun q=>q.2=H):=by
 have bd:∀(t:T LV),(t.bind fun y=>(T.ok (y,H):T (LV×List aS))).lv (fun q=>q.2=H):=fun t=>T.uX (p:=fun _=>True) (q:=fun q:LV×List aS=>q.2=H) (k:=fun y=>T.ok (y,H)) (fun x _=>(rfl:(x,H).2=H)) (T.yw (fun _=>trivial) t)
 have c1:∀ {f:Operand} {args:Array Operand} {ty:Array TypeId},o.op=.call {callee:=.value f,args,argTypes:=ty}→lS P 8 o.type=true:=fun ho=>by simpa [oI,ho] using hm
 have c2:∀ {r:Operand} {name:String} {args:Array Operand} {ty:Array TypeId},o.op=.call {callee:=.invoke r name,args,argTypes:=ty}→lS P 8 o.type=true:=fun ho=>by simpa [oI,ho] using hm
 unfold kP
 split<;>(try exact bd _)<;>(try trivial)<;>(try rfl)<;>(try (rename_i ho;simp [oI,ho] at hm;done))<;>(try (rename_i ho;have hpt:=c1 ho))<;>(try (rename_i ho;have hpt:=c2 ho))
 all_goals (split<;>(try exact bd _)<;>(try trivial)<;>(try rfl)<;>(try exact Yb hpt))
 all_goals (split<;>(try exact bd _)<;>(try trivial)<;>(try rfl))
def Keeps (ds:List Nat) (F:List LV) (H:List aS) (q:List LV×List aS):Prop:=q.1.length=F.length∧(∀i,i∉ds→q.1[i]? =F[i]?)∧q.2=H
theorem kR {ds:List Nat}{F F1:List LV}(h:F1.length=F.length∧∀i,i∉ds→F1[i]? =F[i]?) {d:Nat}(hd:d∈ds) (x:LV):(F1.set d x).length=F.length∧∀i,i∉ds→(F1.set d x)[i]? =F[i]? :=by
 refine ⟨by simp [h.1],fun i hi=>?_⟩
 rw [List.getElem?_set,if_neg (by rintro rfl;exact hi hd)]
 exact h.2 i hi
theorem ou {ds:List Nat}{F F1:List LV}(h:F1.length=F.length∧∀i,i∉ds→F1[i]? =F[i]?) {d:Option Nat}(hd:∀t,d=some t→t∈ds) (x:LV):(dL F1 d x).length=F.length∧∀i,i∉ds→(dL F1 d x)[i]? =F[i]? :=by
 cases d with
 |none=>exact h
 |some t=>exact kR h (hd t rfl) x
theorem uQ {ops:Array Oper}{F0:List LV}:∀(os:List Oper) (F:List LV),(∀o∈os,o∈ops.toList)→(∀o∈os,Xj P Γ o=true)→F.length=F0.length∧(∀i,i∉rD ops.toList→F[i]? =F0[i]?)→
  (yI P G Γ K ops os F H).lv (Keeps (rD ops.toList) F0 H)
 | [],F,_,_,h=>by simp only [yI,T.lv,Keeps];exact ⟨h.1,h.2,trivial⟩
 | o ::os,F,hin,hm,h=>by
  have hdo:∀t,o.dst=some t→t∈rD ops.toList:=fun t ht=>List.mem_filterMap.2 ⟨o,hin o (by simp),ht⟩
  have go:∀F:List LV,F.length=F0.length∧(∀i,i∉rD ops.toList→F[i]? =F0[i]?)→((opk P G Γ K F H o).bind fun q=>yI P G Γ K ops os (dL F o.dst q.1) q.2).lv (Keeps (rD ops.toList) F0 H):=fun F hF=>
   T.uX (p:=fun q=>q.2=H) (fun q hq=>by rw [hq];exact uQ os _ (fun o ho=>hin o (by simp [ho])) (fun o ho=>hm o (by simp [ho])) (ou hF hdo _)) (by rw [atL (hm o (by simp))];exact Hy (adU (hm o (by simp))))
  have pass:∀F:List LV,F.length=F0.length∧(∀i,i∉rD ops.toList→F[i]? =F0[i]?)→(yI P G Γ K ops os (dL F o.dst (.v undef)) H).lv (Keeps (rD ops.toList) F0 H):=fun F hF=>
   uQ os _ (fun o ho=>hin o (by simp [ho])) (fun o ho=>hm o (by simp [ho])) (ou hF hdo _)
  unfold yI
  simp only
  split
  ·split
   ·exact go F h
   ·rename_i o2 os2
    split
    ·have hdo2:∀t,o2.dst=some t→t∈rD ops.toList:=fun t ht=>List.mem_filterMap.2 ⟨o2,hin o2 (by simp),ht⟩
     exact uQ os2 _ (fun o ho=>hin o (by simp [ho])) (fun o ho=>hm o (by simp [ho])) (ou (ou h hdo _) hdo2 _)
    ·exact go F h
  ·rename_i j want hg
   split
   ·rename_i d hd
    have hdd:d∈rD ops.toList:=by
     cases hj:ops[j]? with
     |none=>simp [hj] at hd
     |some oj=>simp [hj] at hd;exact List.mem_filterMap.2 ⟨oj,by simpa using Array.mem_of_getElem? hj,hd⟩
    split
    ·split
     ·exact go F h
     ·exact pass F h
    ·split
     ·exact ⟨go _ (kR h hdd _),pass _ (kR h hdd _)⟩
     ·exact ⟨pass _ (kR h hdd _),go _ (kR h hdd _)⟩
    ·exact pass F h
    ·trivial
   ·trivial
theorem apD {x:LV}{v:Value}(h:R β Z w x v):R β Z w (nki x) v:=by cases x<;>exact h
theorem Ph {x y:LV}{v:Value}(h:R β Z w x v):R β Z w (uV true x y) v:=by
 unfold uV
 split<;>simp_all [R]
 split<;>simp_all [R]
theorem Kt {x y:LV}{v:Value}(h:R β Z w y v):R β Z w (uV false x y) v:=by
 unfold uV
 split<;>simp_all [R]
 split<;>simp_all [R]
theorem Xi {b:Bool}{x y:LV}:okV n (uV b x y):=by
 unfold uV
 split<;>(try trivial)
 split<;>trivial
theorem Td {x y:LV}{v:Value}(h:R β Z w x v):R β Z w (Ip true x y) v:=Ph (apD h)
theorem Pg {x y:LV}{v:Value}(h:R β Z w y v):R β Z w (Ip false x y) v:=Kt (apD h)
theorem adT {b:Bool}{x y:LV}:okV n (Ip b x y):=Xi
theorem Lj {dl:List Deferred}{ds:List Nat}{b:Bool}{F F1 F2:List LV}(k1:F1.length=F.length∧∀i,i∉ds→F1[i]? =F[i]?) (k2:F2.length=F.length∧∀i,i∉ds→F2[i]? =F[i]?) (h:RF dl β Z w n (if b then F1 else F2) a):RF dl β Z w n (wX ds b F F1 F2) a:=by
 refine ⟨by rw [h.size];cases b<;>simp [wX,k1.1,k2.1],fun t x hx=>?_,h.defers⟩
 have ht:t<F.length:=by have:=(List.getElem?_eq_some_iff.1 hx).1;simpa [wX] using this
 have hx':x=if ds.contains t then Ip b (F1.getD t .junk) (F2.getD t .junk) else F.getD t .junk:=by
  simp [wX,ht] at hx
  rw [←hx]
  simp [List.getD,List.getElem?_eq_getElem ht]
 have g1:∀q,(if b then F1 else F2)[t]? =some q→R β Z w q (a.tmps.getD t undef)∧okV n q:=fun q hq=>h.get t q hq
 by_cases hc:t∈ds
 ·rw [if_pos (by simpa using hc)] at hx'
  rw [hx']
  refine ⟨?_,adT⟩
  cases b with
  |true=>
   have e:F1[t]? =some (F1[t]'(by omega)):=List.getElem?_eq_getElem (by omega)
   have:=(g1 (F1[t]'(by omega)) (by simp only [if_true];exact e)).1
   have e2:F1.getD t .junk=F1[t]'(by omega):=by simp [List.getD,e]
   rw [e2];exact Td this
  |false=>
   have e:F2[t]? =some (F2[t]'(by omega)):=List.getElem?_eq_getElem (by omega)
   have:=(g1 (F2[t]'(by omega)) (by simp only [Bool.false_eq_true,if_false];exact e)).1
   have e2:F2.getD t .junk=F2[t]'(by omega):=by simp [List.getD,e]
   rw [e2];exact Pg this
 ·rw [if_neg (by simpa using hc)] at hx'
  have e:F[t]? =some (F[t]'ht):=List.getElem?_eq_getElem ht
  have e2:F.getD t .junk=F[t]'ht:=by simp [List.getD,e]
  rw [hx',e2]
  refine g1 _ ?_
  cases b with
  |true=>simp only [if_true];rw [k1.2 t hc,e]
  |false=>simp only [Bool.false_eq_true,if_false];rw [k2.2 t hc,e]
theorem ng {ds:List Nat}:∀ {t:T (List LV×List aS)},t.lv (Keeps ds F H)→(qL ds F H t).lv (Keeps ds F H)
 | .ok _,h=>h
 | .no,_=>trivial
 | .req _ t,h=>ng (t:=t) h
 | .br b t e,h=>by
  have h1:=ng h.1
  have h2:=ng h.2
  simp only [qL]
  split
  ·rename_i x y hx hy
   rw [hx] at h1
   rw [hy] at h2
   refine ⟨by simp [wX],fun i hi=>?_,rfl⟩
   simp only [wX]
   by_cases ht:i<F.length
   ·simp [ht,hi]
   ·simp [ht]
  ·exact ⟨h1,h2⟩
theorem iE {ds:List Nat}:∀ {t:T (List LV×List aS)}{r:List LV×List aS},t.lv (Keeps ds F H)→(qL ds F H t).all (fun q=>q=r)→
  ∃q,t.all (fun z=>z=q)∧q.2=r.2∧∀(dl:List Deferred) (β:Nat→Loc) (Z:Nat→Prop) (w:World) (n:Nat) (a:Act),RF dl β Z w n q.1 a→RF dl β Z w n r.1 a
 | .ok x,r,_,h=>⟨x,rfl,by rw [show x=r from h],fun _ _ _ _ _ _ hh=>by rw [←show x=r from h];exact hh⟩
 | .no,_,_,h=>by cases h
 | .req p t,r,hk,h=>by
  obtain ⟨q,h1,h2,h3⟩:=iE (t:=t) hk h.2
  exact ⟨q,⟨h.1,h1⟩,h2,h3⟩
 | .br b t e,r,hk,h=>by
  have k1:=ng hk.1
  have k2:=ng hk.2
  simp only [qL] at h
  split at h
  ·rename_i x y hx hy
   rw [hx] at k1
   rw [hy] at k2
   have hr:(wX ds b F x.1 y.1,H)=r:=h
   cases b with
   |true=>
    obtain ⟨q,h1,h2,h3⟩:=iE (t:=t) (r:=x) hk.1 (by rw [hx];rfl)
    refine ⟨q,⟨fun _=>h1,fun hb=>by cases hb⟩,by rw [←hr,h2];exact k1.2.2,fun dl β Z w n a hh=>?_⟩
    rw [←hr]
    exact Lj ⟨k1.1,k1.2.1⟩ ⟨k2.1,k2.2.1⟩ (h3 dl β Z w n a hh)
   |false=>
    obtain ⟨q,h1,h2,h3⟩:=iE (t:=e) (r:=y) hk.2 (by rw [hy];rfl)
    refine ⟨q,⟨fun hb=>(by cases hb),fun _=>h1⟩,by rw [←hr,h2];exact k2.2.2,fun dl β Z w n a hh=>?_⟩
    rw [←hr]
    exact Lj ⟨k1.1,k1.2.1⟩ ⟨k2.1,k2.2.1⟩ (h3 dl β Z w n a hh)
  ·cases b with
   |true=>
    obtain ⟨q,h1,h2,h3⟩:=iE (t:=t) hk.1 (h.1 rfl)
    exact ⟨q,⟨fun _=>h1,fun hb=>by cases hb⟩,h2,h3⟩
   |false=>
    obtain ⟨q,h1,h2,h3⟩:=iE (t:=e) hk.2 (h.2 rfl)
    exact ⟨q,⟨fun hb=>(by cases hb),fun _=>h1⟩,h2,h3⟩
theorem adL (hΓ:∀g S,Γ g=some S→Valid P G g S) (hK:cO P G K) {id:Nat}{ops:Array Oper}{Q:Exit→Act→World→Prop}{F':List LV}{H':List aS}(hQ:∀Z' β' a' w',RW G w0 Z0 Z' β' H' w'→RF ds β' Z' w' H'.length F' a'→Q .normal a' w')
  (hW:RW G w0 Z0 Z β H w) (hF:RF ds β Z w H.length F a) (h:(atD P G Γ K ops F H).all (fun q=>q=(F',H'))) (r:Option Nat) (m:Nat):(Code.region id ops false).wpIn (J8 r) m P Q a w:=by
 refine wpIn_region ?_
 have e:List.range ops.size=List.range' 0 ops.toList.length:=by rw [List.range_eq_range'];simp
 rw [e]
 unfold atD at h
 split at h
 ·rename_i hm
  have hk:(yI P G Γ K ops ops.toList F H).lv (Keeps (rD ops.toList) F H):=uQ _ _ (fun _ h=>h) (fun o ho=>List.all_eq_true.1 hm o ho) ⟨rfl,fun _ _=>rfl⟩
  obtain ⟨q,h1,h2,h3⟩:=iE hk h
  refine tN hΓ hK (F':=q.1) (H':=q.2) (fun Z' β' a' w' e1 e2=>hQ Z' β' a' w' (by rw [h2] at e1;exact e1) (by rw [h2] at e2;exact h3 _ _ _ _ _ _ e2)) r m ops.toList 0 F H Z β a w (by simp) hW hF h1
 ·exact tN hΓ hK hQ r m ops.toList 0 F H Z β a w (by simp) hW hF h
end Go.Sx
namespace Go.Sx
open Go Go.RowKit Go.Proofs.YtlihnbimgclogaaGreatDoor
variable {P : Program} {G : dB} {Γ : Specs} {β : Nat → Loc} {Z : Nat → Prop} {Z0 : Gz} {w w0 wr : World} {F : List LV} {H : List aS} {a : Act} {ds : List Deferred} {n : Nat}
theorem T.uY {α:Type}{p:α→Prop}{x:α}:∀ {t:T α},t.lv p→t.all (fun z=>z=x)→p x
 | .ok y,h,e=>by rw [←show y=x from e];exact h
 | .br b t e,h,hh=>by
  cases b with
  |true=>exact T.uY (t:=t) h.1 (hh.1 rfl)
  |false=>exact T.uY (t:=e) h.2 (hh.2 rfl)
 | .req _ t,h,hh=>T.uY (t:=t) h hh.2
 | .no,_,hh=>by cases hh
theorem Xq {t:TypeId}{x lv:LV}{y:Value}(_:RW G w0 Z0 Z β H w) (h:(vO P H t x).all (fun z=>z=lv)) (hr:R β Z w x y):∀k,k∈owns x→(∃b,H[k]? =some b∧live β k b)∧((∃off,x=.own k off)∨∃es i j,x=.op k es i j):=by
 intro k hk
 have cl:∀b:aS,b.pF=true→live β k b:=fun b hc=>by
  unfold aS.pF at hc
  split at hc
  ·rename_i hb;unfold live;rw [hb];trivial
  ·cases hc
 unfold vO at h
 split at h
 ·split at h
  ·simp only [owns,List.mem_singleton] at hk
   subst hk
   split at h
   ·rename_i hb
    split at h
    ·rename_i hc;exact ⟨⟨_,hb,cl _ hc.1⟩,.inl ⟨_,rfl⟩⟩
    ·cases h
   ·cases h
  ·simp [owns] at hk
  ·simp only [owns,List.mem_singleton] at hk
   subst hk
   simp only [R] at hr
   split at h
   ·rename_i hb;exact ⟨⟨_,hb,hr.1⟩,.inr ⟨_,_,_,rfl⟩⟩
   ·cases h
  ·cases h
 ·split at h
  ·simp only [owns,List.mem_singleton] at hk
   subst hk
   split at h
   ·rename_i hb
    split at h
    ·rename_i hc;exact ⟨⟨_,hb,cl _ hc⟩,.inl ⟨_,rfl⟩⟩
    ·cases h
   ·cases h
  ·simp [owns] at hk
  ·simp only [owns,List.mem_singleton] at hk
   subst hk
   simp only [R] at hr
   split at h
   ·rename_i hb;exact ⟨⟨_,hb,hr.1⟩,.inr ⟨_,_,_,rfl⟩⟩
   ·cases h
  ·cases h
 ·cases h
theorem Xo {t:TypeId}{x q lv:LV}(h:(Lp P H t x q).all (fun r=>r=lv)):∀k,x=.om k→∃b,H[k]? =some b∧live β k b:=by
 intro k hk
 subst hk
 unfold Lp at h
 split at h
 ·split at h
  ·split at h
   ·simp only at h
    split at h
    ·rename_i hb;exact ⟨_,hb,trivial⟩
    ·cases h
   ·cases h
  ·cases h
 ·cases h
theorem Xp {t:TypeId}{x q lv:LV}(h:(Tj P H t x q).all (fun r=>r=lv)):∀k,x=.om k→∃b,H[k]? =some b∧live β k b:=by
 intro k hk
 subst hk
 unfold Tj at h
 simp only at h
 split at h
 ·rename_i hb;exact ⟨_,hb,trivial⟩
 ·exact Xo h k rfl
theorem Xn (hΓ:∀g S,Γ g=some S→Valid P G g S) {tr:List Nat} {D:World→Prop} {o:Oper} {lv:LV} (hW:RW G w0 Z0 Z β H wr) (hF:RF ds β Z wr H.length F a)
  (hD:∀w',D w'→RW G w0 Z0 Z β H w'∧∀b,(Z b∨∃k bk,H[k]? =some bk∧live β k bk∧tr.contains k=false∧b=(β k).b)→w'.heap[b]? =wr.heap[b]?)
  (h:(Ub P G Γ tr F H o).all (fun z=>z=lv)):∃v,(∀w',D w'→sW P o a w' v)∧R β Z wr lv v∧okV H.length lv:=by
 unfold Ub at h
 split at h
 ·cases h
 ·rename_i hsp
  simp only [Bool.or_eq_true,Bool.not_eq_true',not_or,Bool.not_eq_true,Bool.not_eq_false] at hsp
  obtain ⟨hsp,hap⟩:=hsp
  have ev:=fun x=>hF.eval hW.jh x
  have hFD:∀w',D w'→RF ds β Z w' H.length F a:=fun w' hw'=>hF.mono (Nat.le_refl _) (fun _ _=>rfl) (fun _ h=>h) (fun b hz=>(hD w' hw').2 b (.inl hz))
  split at h
  ·rename_i hcall
   obtain ⟨h1,hpl⟩:=HY h
   obtain ⟨⟨lv',H'⟩,h2,h3⟩:=T.aU h1
   have e3:lv'=lv:=h3
   subst e3
   obtain ⟨x,hx⟩:=Option.isSome_iff_exists.1 hpl
   have hm:oI P o=true:=by unfold DF at hcall;unfold oI;unfold isSp at hsp;split at hcall<;>simp_all
   have hH:H'=H:=T.uY (p:=fun q:LV×List aS=>q.2=H) (x:=(lv',H')) (Hy hm) h2
   subst hH
   refine ⟨x,fun w' hw'=>?_,azC hx,?_⟩
   ·have hs:=yj hΓ (hD w' hw').1 (hFD w' hw') h2
    have hrun:∃g vals,(execOp a.eval o).run P w'=.ok (.enter g vals) w':=by
     unfold DF at hcall
     split at hcall
     ·rename_i f args ty ho
      have h2':=h2
      unfold kP at h2'
      simp only [ho] at h2'
      split at h2'
      ·rename_i g cap hf
       have hfr:=(ev f).1
       rw [hf] at hfr
       simp only [R] at hfr
       obtain ⟨ys,hy,_⟩:=hfr
       obtain ⟨fn,S,k1,k2,k3,_⟩:=um h2'
       exact ⟨_,_,KI ho hy k1 k2 k3 w'⟩
      ·cases h2'
     ·rename_i r name args ty ho
      have h2':=h2
      unfold kP at h2'
      simp only [ho] at h2'
      split at h2'
      ·rename_i g rv hf
       obtain ⟨t,v,hy,hm⟩:=aaA hf (ev r).1
       obtain ⟨fn,S,k1,k2,k3,_⟩:=um h2'
       exact ⟨_,_,Iz ho hy hm k1 k2 k3 w'⟩
      ·cases h2'
     ·cases hcall
    obtain ⟨g,vals,hr⟩:=hrun
    unfold sW
    rw [hr] at hs⊢
    simp only [dU] at hs
    refine ⟨rfl,hs.mono fun e w'' ⟨v,he,Z',β',_,_,hrv,_,_,_,_,hn⟩=>?_⟩
    have hv:=kN hx hrv
    subst hv
    refine ⟨he,hn.os,hn.tape,hn.output,hn.size,fun k hk=>hn.block k hk ?_⟩
    unfold DF at hcall
    split at hcall
    ·rename_i ho;simp [uJ,zO,ho,Aw]
    ·rename_i ho;simp [uJ,zO,ho,Aw]
    ·cases hcall
   ·cases lv' with
    |fn f l=>cases l with
     |nil=>trivial
     |cons _ _=>simp [pl] at hx
    |v _=>trivial
    |bl _=>trivial
    |ki _ _=>trivial
    |_=>simp [pl] at hx
  ·rename_i hnc
   obtain ⟨⟨lv',H'⟩,h2,h3⟩:=T.aU h
   have e3:lv'=lv:=h3
   subst e3
   clear h3
   have val:∀ {v:Value},(∀w',D w'→(execOp a.eval o).run P w'=.ok (.value v) w')→R β Z wr lv' v→okV H.length lv'→∃v,(∀w',D w'→sW P o a w' v)∧R β Z wr lv' v∧okV H.length lv':=fun {v} hrun hr hk=>
    ⟨v,fun w' hw'=>by unfold sW;rw [hrun w' hw'];exact ⟨rfl,rfl⟩,hr,hk⟩
   have hsel:∀cs b,o.op≠ .select cs b:=fun cs b e=>by unfold kP at h2;simp only [e] at h2;cases h2
   have same:∀ {t:T LV},(t.bind fun y=>(T.ok (y,H):T (LV×List aS))).all (fun q=>q=(lv',H'))→t.all (fun z=>z=lv'):=fun h=>by
    obtain ⟨x,g1,g2⟩:=T.aU h
    simp only [T.all,Prod.mk.injEq] at g2
    obtain ⟨rfl,rfl⟩:=g2
    exact g1
   have gen:(sU P G F o).all (fun z=>z=lv')→∃v,(∀w',D w'→sW P o a w' v)∧R β Z wr lv' v∧okV H.length lv':=fun hg=>by
    unfold sU at hg
    split at hg
    ·rename_i hpl
     split at hg
     ·rename_i y hy
      simp only [T.all] at hg
      have hcong:execOp a.eval o=execOp (fun x=>(pl (aK G F x)).getD undef) o:=execOp_congr o hsel fun x hx=>by
       have h1:=List.all_eq_true.1 hpl x (by simpa using hx)
       obtain ⟨z,hz⟩:=Option.isSome_iff_exists.1 h1
       rw [hz];exact kN hz (ev x).1
      refine val (v:=y) (fun w' _=>by rw [hcong];exact TF hy w') ?_ ?_<;>rw [←hg]
      ·split
       ·exact ayr y
       ·simp only [R]
      ·split
       ·exact apI y
       ·trivial
     ·cases hg
    ·cases hg
   have h:=h2
   unfold kP at h
   split at h
   ·cases h
   ·rename_i x ho
    simp only [T.all,Prod.mk.injEq] at h
    refine val (v:=a.eval x) (fun w' _=>by simp [execOp,ho]) ?_ ?_<;>rw [←h.1]
    ·exact (ev x).1
    ·exact (ev x).2
   ·rename_i x ho
    simp only [T.all,Prod.mk.injEq] at h
    refine val (v:=a.eval x) (fun w' _=>by simp [execOp,ho]) ?_ ?_<;>rw [←h.1]
    ·exact (ev x).1
    ·exact (ev x).2
   ·rename_i c x y ho
    obtain ⟨g,e1,e2,e3⟩:=Ed (same h) (ev c).1 (ev x).1 (ev y).1 (ev x).2 (ev y).2
    exact val (v:=if g then a.eval x else a.eval y) (fun w' _=>by simp [execOp,ho,e1,asBool]) e2 e3
   ·rename_i ho;simp [isSp,ho] at hsp
   ·rename_i ho;simp [isSp,ho] at hsp
   ·rename_i t x ho
    obtain ⟨z,e1,e2,e3⟩:=rX hW (same h) (ev x).1 (ev x).2
    refine val (v:=z) (fun w' hw'=>?_) e2 e3
    have hlv:=Xq hW (same h) (ev x).1
    have:=e1 w' (fun b hb=>(hD w' hw').2 b (by
     rcases hb with hb|⟨k,e4,e5⟩
     ·exact .inl hb
     ·obtain ⟨⟨bk,l1,l2⟩,l3⟩:=hlv k e4
      refine .inr ⟨k,bk,l1,l2,?_,e5⟩
      unfold Yk at hap
      simp only [ho] at hap
      rcases l3 with ⟨off,l3⟩ |⟨es,i,j,l3⟩
      ·rw [l3] at hap;simpa using hap
      ·rw [l3] at hap;simpa using hap))
    simp [execOp,ho,this]
   ·rename_i ho;simp [isSp,ho] at hsp
   ·rename_i s x i ho
    obtain ⟨z,e1,e2,e3⟩:=Bd (w:=wr) (same h) (ev x).1 (ev x).2
    exact val (v:=z) (fun w' _=>by simp [execOp,ho,e1]) e2 e3
   ·rename_i t x i ho
    obtain ⟨z,e1,e2,e3⟩:=ve (w:=wr) (same h) (ev x).1 (ev i).1 (ev x).2
    exact val (v:=z) (fun w' _=>by simp [execOp,ho,e1]) e2 e3
   ·rename_i t parts ho
    obtain ⟨z,e1,e2,e3⟩:=Bl (β:=β) (Z:=Z) (w:=wr) (n:=H.length) (pv:=parts.map fun q=>(q.1,a.eval q.2)) (same h) (by simp [Function.comp_def]) (by
     simp only [Array.toList_map,List.map_map]
     refine RL.dN (by simp) fun i x hx=>?_
     rw [List.getElem?_map] at hx⊢
     cases hq:parts.toList[i]? with
     |none=>simp [hq] at hx
     |some q=>simp [hq] at hx;subst hx;exact ⟨a.eval q.2,by simp,(Gg (ev q.2)).1⟩) (by
     simp only [List.map_map]
     refine dP.dN fun i x hx=>?_
     rw [List.getElem?_map] at hx
     cases hq:parts.toList[i]? with
     |none=>simp [hq] at hx
     |some q=>simp [hq] at hx;subst hx;exact (Gg (ev q.2)).2)
    exact val (v:=z) (fun w' _=>by simp [execOp,ho,e1]) e2 e3
   ·rename_i ho;simp [isSp,ho] at hsp
   ·rename_i ho;simp [isSp,ho] at hsp
   ·rename_i t x lo hi ho
    split at h
    ·exact gen (same h)
    ·have ro:∀q:Option Operand,RO β Z wr (q.map (aK G F)) (q.map a.eval):=fun q=>by
      cases q with
      |none=>trivial
      |some q=>exact (ev q).1
     obtain ⟨z,e1,e2,e3⟩:=zZ (w:=wr) (same h) (ev x).1 (ro lo) (ro hi) (ev x).2
     exact val (v:=z) (fun w' _=>by simp [execOp,ho,e1]) e2 e3
   ·rename_i ho;simp [isSp,ho] at hsp
   ·rename_i ho;simp [isSp,ho] at hsp
   ·rename_i ho;simp [isSp,ho] at hsp
   ·rename_i t x i ho
    obtain ⟨z,e1,e2,e3⟩:=Ej hW (same h) (ev x).1 (ev i).1 (ev x).2
    refine val (v:=z) (fun w' hw'=>?_) e2 e3
    have hlv:=Xp (β:=β) (same h)
    have:=e1 w' (fun b hb=>(hD w' hw').2 b (by
     rcases hb with hb|⟨k,e4,e5⟩
     ·exact .inl hb
     ·obtain ⟨bk,l1,l2⟩:=hlv k e4
      refine .inr ⟨k,bk,l1,l2,?_,e5⟩
      unfold Yk at hap
      simp only [ho,e4] at hap
      simpa using hap))
    simp [execOp,ho,this]
   ·rename_i x i ho
    split at h
    ·rename_i l hl
     split at h
     ·rename_i y hy
      simp only [T.all,Prod.mk.injEq] at h
      obtain ⟨h1,_⟩:=h
      have hx:=ev x
      rw [hl] at hx
      simp only [R,okV] at hx
      obtain ⟨⟨ys,e1,e2⟩,e3⟩:=hx
      obtain ⟨z,e4,e5⟩:=RL.get _ _ e2 hy
      have e6:ys[i]? =some z:=by simpa using e4
      refine val (v:=z) (fun w' _=>by simp [execOp,ho,e1,Instr.extract,e6]) ?_ ?_<;>rw [←h1]
      ·exact e5
      ·exact dP.get _ _ e3 hy
     ·cases h
    ·exact gen (same h)
   ·rename_i t x i ho
    split at h
    ·rename_i l hl
     have hx:=ev x
     rw [hl] at hx
     simp only [R,okV] at hx
     obtain ⟨⟨ys,e1,e2⟩,e3⟩:=hx
     obtain ⟨z,f1,f2,f3⟩:=IX (same h) e2 e3
     exact val (v:=z) (fun w' _=>by simp [execOp,ho,e1,f1]) f2 f3
    ·exact gen (same h)
   ·rename_i f first cap ho
    split at h
    ·rename_i he
     simp only [T.all,Prod.mk.injEq] at h
     obtain ⟨h1,_⟩:=h
     have hfirst:first=#[]:=by
      have:first.toList=[]:=by simpa using he
      simpa using this
     refine val (v:=.func (.func f) #[] (cap.map a.eval)) (fun w' _=>by simp [execOp,ho,Instr.makeFunc,hfirst]) ?_ ?_<;>rw [←h1]
     ·simp only [R]
      refine ⟨_,rfl,?_⟩
      simp only [Array.toList_map]
      refine RL.dN (by simp) fun i x hx=>?_
      rw [List.getElem?_map] at hx⊢
      cases hq:cap.toList[i]? with
      |none=>simp [hq] at hx
      |some q=>simp [hq] at hx;subst hx;exact ⟨a.eval q,by simp,(ev q).1⟩
     ·simp only [okV]
      refine dP.dN fun i x hx=>?_
      rw [List.getElem?_map] at hx
      cases hq:cap.toList[i]? with
      |none=>simp [hq] at hx
      |some q=>simp [hq] at hx;subst hx;exact (ev q).2
    ·cases h
   ·rename_i x ho
    have hx:=ev x
    split at h
    ·rename_i k off hl
     simp only [T.all,Prod.mk.injEq] at h
     rw [hl] at hx
     have hx1:=hx.1
     simp only [R] at hx1
     refine val (v:=a.eval x) (fun w' _=>by simp [execOp,ho,hx1]) ?_ ?_<;>rw [←h.1]
     ·exact hx.1
     ·exact hx.2
    ·rename_i k es i j hl
     simp only [T.all,Prod.mk.injEq] at h
     rw [hl] at hx
     have hx1:=hx.1
     simp only [R] at hx1
     refine val (v:=a.eval x) (fun w' _=>by simp [execOp,ho,hx1]) ?_ ?_<;>rw [←h.1]
     ·exact hx.1
     ·exact hx.2
    ·rename_i n f hl
     simp only [T.all,Prod.mk.injEq] at h
     rw [hl] at hx
     have hx1:=hx.1
     simp only [R] at hx1
     obtain ⟨b,off,e1,_⟩:=hx1
     refine val (v:=a.eval x) (fun w' _=>by simp [execOp,ho,e1]) ?_ ?_<;>rw [←h.1]
     ·exact hx.1
     ·exact hx.2
    ·rename_i f l hl
     simp only [T.all,Prod.mk.injEq] at h
     rw [hl] at hx
     have hx1:=hx.1
     simp only [R] at hx1
     obtain ⟨ys,e1,_⟩:=hx1
     refine val (v:=a.eval x) (fun w' _=>by simp [execOp,ho,e1]) ?_ ?_<;>rw [←h.1]
     ·exact hx.1
     ·exact hx.2
    ·exact gen (same h)
   ·rename_i t x y t' ho
    split at h
    ·rename_i k n k' m hx hy
     split at h
     ·rename_i hk
      subst hk
      simp only [T.all,Prod.mk.injEq] at h
      obtain ⟨h0,h1,_⟩:=h
      have e1:=kN hx (ev x).1
      have e2:=kN hy (ev y).1
      refine val (v:=.int k (k.wrap (n.tdiv m))) (fun w' _=>by simp [execOp,ho,e1,e2,eqGuard,binOp,Op.intDiv,h0]) ?_ ?_<;>rw [←h1]
      ·simp only [R]
      ·trivial
     ·cases h
    ·cases h
   ·rename_i t x y t' ho
    split at h
    ·rename_i k n k' m hx hy
     split at h
     ·rename_i hk
      subst hk
      simp only [T.all,Prod.mk.injEq] at h
      obtain ⟨h0,h1,_⟩:=h
      have e1:=kN hx (ev x).1
      have e2:=kN hy (ev y).1
      refine val (v:=.int k (n.tmod m)) (fun w' _=>by simp [execOp,ho,e1,e2,eqGuard,binOp,Op.intDiv,h0]) ?_ ?_<;>rw [←h1]
      ·simp only [R]
      ·trivial
     ·cases h
    ·cases h
   ·rename_i t x y t' ho
    split at h
    ·exact gen (same h)
    ·split at h
     ·rename_i k n k' m hx hy
      simp only [T.all,Prod.mk.injEq] at h
      obtain ⟨h0,h1,_⟩:=h
      have e1:=kN hx (ev x).1
      have e2:=kN hy (ev y).1
      refine val (v:=.int k (k.wrap (n*2^(min m.toNat k.bits)))) (fun w' _=>by simp [execOp,ho,e1,e2,eqGuard,binOp,Op.shift,Int.not_lt.2 h0]) ?_ ?_<;>rw [←h1]
      ·simp only [R]
      ·trivial
     ·cases h
   ·rename_i t x y t' ho
    split at h
    ·exact gen (same h)
    ·split at h
     ·rename_i k n k' m hx hy
      simp only [T.all,Prod.mk.injEq] at h
      obtain ⟨h0,h1,_⟩:=h
      have e1:=kN hx (ev x).1
      have e2:=kN hy (ev y).1
      refine val (v:=.int k (n.fdiv (2^(min m.toNat k.bits)))) (fun w' _=>by simp [execOp,ho,e1,e2,eqGuard,binOp,Op.shift,Int.not_lt.2 h0]) ?_ ?_<;>rw [←h1]
      ·simp only [R]
      ·trivial
     ·cases h
   ·rename_i t x i ho
    split at h
    ·rename_i s kd n hu hx hi
     simp only [T.all,Prod.mk.injEq] at h
     obtain ⟨⟨h0,hlt⟩,h1,_⟩:=h
     have e1:=kN hx (ev x).1
     have e2:=kN hi (ev i).1
     have hb:n.toNat<s.size:=by omega
     have hg:s[n.toNat]? =some s[n.toNat]:=by simp [hb]
     refine val (v:=.int .u8 (FD s n)) (fun w' _=>by simp [execOp,ho,e1,e2,Instr.index,asIntOf,run_underlying hu,h0,FD,hg]) ?_ ?_<;>rw [←h1]
     ·simp only [R]
     ·trivial
    ·cases h
   ·rename_i ho;simp [DF,ho] at hnc
   ·rename_i ho;simp [DF,ho] at hnc
   ·rename_i ho;simp [isSp,ho] at hsp
   ·rename_i args ty ho
    split at h
    ·rename_i k es off n e hl hu
     simp only [T.all,Prod.mk.injEq] at h
     obtain ⟨h1,_⟩:=h
     cases hargs:args.toList with
     |nil=>simp [hargs] at hl
     | cons x xs=>
      cases xs with
      |cons _ _=>simp [hargs] at hl
      | nil=>
       simp only [hargs,List.map_cons,List.map_nil,List.cons.injEq,and_true] at hl
       have hx:=(ev x).1
       rw [hl] at hx
       simp only [R] at hx
       have e1:∃ad cap,a.eval x=.slice ad n cap:=by
        split at hx
        ·obtain ⟨rfl,_,hx⟩:=hx;exact ⟨_,_,hx⟩
        ·obtain ⟨_,ad,hx,_⟩:=hx;exact ⟨_,_,hx⟩
       obtain ⟨ad,cap,e1⟩:=e1
       have ha:args=#[x]:=by rw [←Array.toArray_toList (xs:=args),hargs]
       cases ht:ty[0]? with
       |none=>simp [ht] at hu
       |some t=>
        simp only [ht,Option.bind_some] at hu
        refine val (v:=.int .i64 n) (fun w' _=>by simp [execOp,ho,resolve,invoke,builtin,Builtin.len_,ha,ht,run_underlying hu,e1,goInt]) ?_ ?_<;>rw [←h1]
        ·simp only [R]
        ·trivial
    ·rename_i e' l e hl hu
     simp only [T.all,Prod.mk.injEq] at h
     obtain ⟨h1,_⟩:=h
     cases hargs:args.toList with
     |nil=>simp [hargs] at hl
     | cons x xs=>
      cases xs with
      |cons _ _=>simp [hargs] at hl
      | nil=>
       simp only [hargs,List.map_cons,List.map_nil,List.cons.injEq,and_true] at hl
       have hx:=(ev x).1
       rw [hl] at hx
       simp only [R] at hx
       obtain ⟨ad,cap,e1,_⟩:=hx
       have ha:args=#[x]:=by rw [←Array.toArray_toList (xs:=args),hargs]
       cases ht:ty[0]? with
       |none=>simp [ht] at hu
       |some t=>
        simp only [ht,Option.bind_some] at hu
        refine val (v:=.int .i64 (List.length l:Int)) (fun w' _=>by simp [execOp,ho,resolve,invoke,builtin,Builtin.len_,ha,ht,run_underlying hu,e1,goInt]) ?_ ?_<;>rw [←h1]
        ·simp only [R]
        ·trivial
    ·rename_i k' es' off' n' c' e hl hu
     simp only [T.all,Prod.mk.injEq] at h
     obtain ⟨h1,_⟩:=h
     cases hargs:args.toList with
     |nil=>simp [hargs] at hl
     | cons x xs=>
      cases xs with
      |cons _ _=>simp [hargs] at hl
      | nil=>
       simp only [hargs,List.map_cons,List.map_nil,List.cons.injEq,and_true] at hl
       have hx:=(ev x).1
       rw [hl] at hx
       simp only [R] at hx
       obtain ⟨_,ad,e1,_⟩:=hx
       have ha:args=#[x]:=by rw [←Array.toArray_toList (xs:=args),hargs]
       cases ht:ty[0]? with
       |none=>simp [ht] at hu
       |some t=>
        simp only [ht,Option.bind_some] at hu
        refine val (v:=.int .i64 n') (fun w' _=>by simp [execOp,ho,resolve,invoke,builtin,Builtin.len_,ha,ht,run_underlying hu,e1,goInt]) ?_ ?_<;>rw [←h1]
        ·simp only [R]
        ·trivial
    ·exact gen (same h)
   ·exact gen (same h)
theorem oh (tr:List Nat):∀(H:List aS) (k i:Nat),(fZ tr k H)[i]? =(H[i]?).map fun b=>if tr.contains (k+i) then Eh b else b
 | [],k,i=>by simp [fZ]
 |b::bs,k,0=>by simp [fZ]
 |b::bs,k,i+1=>by
  simp only [fZ,List.getElem?_cons_succ]
  rw [oh tr bs (k+1) i]
  have:k+1+i=k+(i+1):=by omega
  rw [this]
theorem je (tr:List Nat):∀(H:List aS) (k:Nat),(fZ tr k H).length=H.length
 | [],_=>rfl
 |_::bs,k=>by simp [fZ,je tr bs (k+1)]
theorem ac8:∀(ys:List Value),RL β Z w (List.replicate ys.length .junk) ys
 | []=>by simp [RL]
 |y::ys=>by simp only [List.length_cons,List.replicate_succ,RL];exact ⟨y,ys,rfl,by simp only [R],ac8 ys⟩
theorem SN (m:Nat):∀(k:Nat),dP m (List.replicate k .junk)
 |0=>trivial
 |k+1=>⟨trivial,SN m k⟩
def Shp (tr:List Nat) (β:Nat→Loc) (H:List aS) (w:World):Prop:=∀(k:Nat) (b:aS),tr.contains k=true→H[k]? =some b→b.pF=true→∃cs,w.heap[(β k).b]? =some (.cells cs b.t (0,0))∧cs.size=b.c.length
theorem auI {b:aS}(h:b.pF=true):b.k=.cl:=by
 unfold aS.pF at h
 split at h
 ·assumption
 ·cases h
theorem Eg (b:aS):(b.pF=true∧Eh b=⟨List.replicate b.c.length .junk,b.t,.cl,b.p⟩)∨(b.pF=false∧Eh b=⟨[],b.t,.dead,false⟩):=by
 unfold Eh aS.pF
 split
 ·exact .inl ⟨rfl,rfl⟩
 ·exact .inr ⟨rfl,rfl⟩
theorem Xk {b:aS}{k:Nat}(h:live β k (Eh b)):live β k b∧(Eh b).p=b.p:=by
 rcases Eg b with ⟨h1,h2⟩ |⟨h1,h2⟩
 ·rw [h2];exact ⟨by unfold live;rw [auI h1];trivial,rfl⟩
 ·rw [h2] at h;exact absurd h (fun h=>h)
theorem RW.qA {tr:List Nat}(hW:RW G w0 Z0 Z β H wr) {b:Nat}(hz:Z b):b∉Aw β H tr:=fun hm=>by
 obtain ⟨k,bk,_,h2,h3,h4,rfl⟩:=Aq.1 hm
 exact hW.lu k bk h2 h3 h4 hz
theorem RW.tX {tr:List Nat}(hW:RW G w0 Z0 Z β H wr) {k:Nat}{b:aS}(hb:H[k]? =some b) (hl:live β k b) (ht:k∉tr):(β k).b∉Aw β H tr:=fun hm=>by
 obtain ⟨j,bj,h1,h2,h3,h4,h5⟩:=Aq.1 hm
 have:=hW.inj j k bj b h2 hb h3 hl h4 h5.symm
 subst this
 exact ht h1
theorem RW.mask {tr:List Nat}{w':World}(hW:RW G w0 Z0 Z β H wr) (hn:lX (Aw β H tr) wr w') (hb0:Below w0.heap.size w0 w') (hs:Shp tr β H w'):RW G w0 Z0 Z β (fZ tr 0 H) w':=by
 have hw:∀b,Z b→w'.heap[b]? =wr.heap[b]? :=fun b hz=>hn.block b (hW.mJ b hz) (hW.qA hz)
 have old:∀k b,(fZ tr 0 H)[k]? =some b→∃b0,H[k]? =some b0∧(live β k b→live β k b0∧b.p=b0.p)∧((tr.contains k=true∧b=Eh b0)∨(tr.contains k=false∧b=b0)):=fun k b hb=>by
  rw [oh] at hb
  cases hH:H[k]? with
  |none=>simp [hH] at hb
  | some b0=>
   simp only [hH,Option.map_some,Option.some.injEq,Nat.zero_add] at hb
   refine ⟨b0,rfl,?_⟩
   split at hb
   ·rename_i ht
    subst hb
    exact ⟨Xk,.inl ⟨ht,rfl⟩⟩
   ·rename_i ht
    subst hb
    exact ⟨fun h=>⟨h,rfl⟩,.inr ⟨by simpa using ht,rfl⟩⟩
 refine ⟨hb0,fun b hz=>?_,hW.tq,fun k b hk hl hp=>?_,fun k b hk hl hp=>?_,fun k b hk hl=>?_,fun i j bi bj hi hj li lj pi e=>?_,fun k b hb=>?_,hW.jh.mono (fun _ h=>h) hw,fun p hp=>⟨R.mono (n:=H.length) (fun _ _=>rfl) (fun _ h=>h) hw _ _ (hW.gh p hp).2 (hW.gh p hp).1,by rw [je];exact (hW.gh p hp).2⟩,fun D hD=>⟨(hW.rQ D hD).1,by unfold pK;rw [hw D (hW.rQ D hD).1];exact (hW.rQ D hD).2⟩⟩
 ·have:=hW.mJ b hz;have:=hn.size;omega
 ·obtain ⟨b0,h1,h2,_⟩:=old k b hk
  obtain ⟨h3,h4⟩:=h2 hl
  exact hW.lu k b0 h1 h3 (h4▸hp)
 ·obtain ⟨b0,h1,h2,_⟩:=old k b hk
  obtain ⟨h3,h4⟩:=h2 hl
  exact hW.vV k b0 h1 h3 (h4▸hp)
 ·obtain ⟨b0,h1,h2,_⟩:=old k b hk
  exact hW.low k b0 h1 (h2 hl).1
 ·obtain ⟨b0,h1,h2,_⟩:=old i bi hi
  obtain ⟨c0,g1,g2,_⟩:=old j bj hj
  exact hW.inj i j b0 c0 h1 g1 (h2 li).1 (g2 lj).1 ((h2 li).2▸pi) e
 ·obtain ⟨b0,h1,h2,h3⟩:=old k b hb
  obtain ⟨f1,f2⟩:=hW.blk k b0 h1
  rw [je]
  rcases h3 with ⟨ht,rfl⟩ |⟨ht,rfl⟩
  ·rcases Eg b0 with ⟨m1,m2⟩ |⟨m1,m2⟩
   ·rw [m2]
    obtain ⟨cs',g1,g2⟩:=hs k b0 ht h1 m1
    refine ⟨⟨cs',g1,?_⟩,SN _ _,trivial⟩
    have:=ac8 (β:=β) (Z:=Z) (w:=w') cs'.toList
    simpa [g2] using this
   ·rw [m2]
    exact ⟨trivial,trivial,trivial⟩
  ·have hkt:k∉tr:=by simpa using ht
   exact ⟨f1.keep (fun _ _=>rfl) (fun _ h=>h) hw rfl (fun hl=>hn.block _ (hW.lt h1 hl) (hW.tX h1 hl hkt)) f2,f2⟩
theorem Uc {o:Oper}{g:FuncId}{l:List LV}{lv:LV}{H':List aS}(h:(xw P Γ H o g l).all (fun q=>q=(lv,H'))):EvL H H':=by
 have bd:∀ {t:T LV} {H1:List aS},(t.bind fun y=>(T.ok (y,H1):T (LV×List aS))).all (fun q=>q=(lv,H'))→H'=H1:=fun h=>by
  obtain ⟨x,h1,h2⟩:=T.aU h
  simp only [T.all,Prod.mk.injEq] at h2
  exact h2.2.symm
 obtain ⟨_,_,_,_,_,_,h⟩:=um h
 split at h
 ·rw [bd h];exact EvL.refl H
 ·split at h
  ·rw [bd h];exact EvL.refl H
  ·split at h
   ·rw [bd h];exact EvL.pub _
   ·cases h
theorem atK {o:Oper} {lv:LV} {H':List aS} (h:(kP P G Γ F H o).all (fun q=>q=(lv,H'))):EvL H H':=by
 by_cases hm:oI P o=true
 ·have hH:H'=H:=T.uY (p:=fun q:LV×List aS=>q.2=H) (x:=(lv,H')) (Hy hm) h
  rw [hH];exact EvL.refl H
 ·have bd:∀ {t:T LV} {H1:List aS},(t.bind fun y=>(T.ok (y,H1):T (LV×List aS))).all (fun q=>q=(lv,H'))→H'=H1:=fun h=>by
   obtain ⟨x,h1,h2⟩:=T.aU h
   simp only [T.all,Prod.mk.injEq] at h2
   exact h2.2.symm
  unfold oI at hm
  split at hm
  ·rename_i t ho
   unfold kP at h
   simp only [ho] at h
   split at h
   ·split at h
    ·simp only [T.all,Prod.mk.injEq] at h
     rw [←h.2];exact EvL.app _ _
    ·cases h
   ·cases h
  ·rename_i t x ho
   unfold kP at h
   simp only [ho] at h
   split at h
   ·simp only [T.all,Prod.mk.injEq] at h
    rw [←h.2];exact EvL.app _ _
   ·cases h
  ·rename_i t x y ho
   unfold kP at h
   simp only [ho] at h
   obtain ⟨H1,h1,h2⟩:=T.aU h
   simp only [T.all,Prod.mk.injEq] at h2
   obtain ⟨_,rfl⟩:=h2
   exact adF h1
  ·rename_i t n c ho
   unfold kP at h
   simp only [ho] at h
   exact ahm h
  ·rename_i t r ho
   unfold kP at h
   cases r with
   | none=>
    simp only [ho] at h
    split at h
    ·simp only [T.all,Prod.mk.injEq] at h
     rw [←h.2];exact EvL.app _ _
    ·split at h
     ·simp only [T.all,Prod.mk.injEq] at h
      rw [←h.2];exact EvL.app _ _
     ·cases h
   |some r=>
    simp only [ho] at h
    rw [bd h];exact EvL.refl H
  ·rename_i t m i x ho
   unfold kP at h
   simp only [ho] at h
   obtain ⟨H1,h1,h2⟩:=T.aU h
   simp only [T.all,Prod.mk.injEq] at h2
   obtain ⟨_,rfl⟩:=h2
   exact aaN h1
  ·rename_i t m i x ho
   unfold kP at h
   simp only [ho] at h
   obtain ⟨H1,h1,h2⟩:=T.aU h
   simp only [T.all,Prod.mk.injEq] at h2
   obtain ⟨_,rfl⟩:=h2
   exact aaN h1
  ·rename_i t len parts ho
   unfold kP at h
   simp only [ho] at h
   split at h
   ·split at h
    ·unfold P8 at h
     split at h
     ·simp only [T.all,Prod.mk.injEq] at h
      rw [←h.2];exact EvL.app _ _
     ·cases h
    ·cases h
   ·split at h
    ·split at h
     ·rw [bd h];exact EvL.refl H
     ·unfold auu at h
      split at h
      ·obtain ⟨y,h1,h2⟩:=T.aU h
       simp only [T.all,Prod.mk.injEq] at h2
       rw [←h2.2];exact EvL.pub _
      ·cases h
    unfold anq at h
    split at h
    ·split at h
     ·split at h
      ·split at h
       ·simp only [T.all,Prod.mk.injEq] at h
        rw [←h.2];exact EvL.app _ _
       ·cases h
      ·cases h
     ·cases h
    ·cases h
  ·rename_i args ty ho
   unfold kP at h
   simp only [ho] at h
   split at h
   ·exact Yj h
   ·cases h
  ·rename_i f args ty ho
   unfold kP at h
   simp only [ho] at h
   split at h
   ·exact Uc h
   ·cases h
  ·rename_i r name args ty ho
   unfold kP at h
   simp only [ho] at h
   split at h
   ·exact Uc h
   ·cases h
  ·simp at hm
theorem qJ (hΓ:∀g S,Γ g=some S→Valid P G g S) {ops:Array Oper}{tr:List Nat}{Hm:List aS}{D:World→Prop}{K:Act→Prop}{F':List LV}{HH:List aS}(hlen:Hm.length=H.length)
  (hW:RW G w0 Z0 Z β Hm wr) (hD:∀w',D w'→RW G w0 Z0 Z β Hm w'∧∀b,(Z b∨∃k bk,Hm[k]? =some bk∧live β k bk∧tr.contains k=false∧b=(β k).b)→w'.heap[b]? =wr.heap[b]?)
  (hK:∀a1,RF ds β Z wr H.length F' a1→K a1):∀(fs:List Bool) (os:List Oper) (F:List LV) (a:Act),fs.length=os.length→RF ds β Z wr H.length F a→
   (QB P G Γ ops tr HH Hm fs os F).all (fun q=>q=(F',HH))→wG P ops D K fs os a
 | [],[],F,a,_,hF,h=>by
  simp only [QB,T.all,Prod.mk.injEq,and_true] at h
  subst h
  exact aeD (hK a hF)
 | [],_::_,_,_,hl,_,_=>by simp at hl
 |_::_,[],_,_,hl,_,_=>by simp at hl
 | f ::fs,o::os,F,a,hl,hF,h=>by
  have hl':fs.length=os.length:=by simpa using hl
  simp only [QB] at h
  simp only [wG]
  split at h
  ·rename_i hf
   rw [if_pos hf]
   exact qJ hΓ hlen hW hD hK fs os F a hl' hF h
  ·rename_i hf
   rw [if_neg hf]
   have goOk:∀(F:List LV),RF ds β Z wr H.length F a→((Ub P G Γ tr F Hm o).bind fun y=>QB P G Γ ops tr HH Hm fs os (dL F o.dst y)).all (fun q=>q=(F',HH))→calm P o a D (wG P ops D K fs os):=fun F hF h=>by
    obtain ⟨lv,h1,h2⟩:=T.aU h
    obtain ⟨v,g1,g2,g3⟩:=Xn hΓ hW (by rw [hlen];exact hF) hD h1
    exact ⟨v,g1,qJ hΓ hlen hW hD hK fs os _ _ hl' (hF.put g2 (by rw [←hlen];exact g3) o.dst) h2⟩
   have passOk:∀(F:List LV),RF ds β Z wr H.length F a→(QB P G Γ ops tr HH Hm fs os (dL F o.dst (.v undef))).all (fun q=>q=(F',HH))→wG P ops D K fs os (a.put o.dst undef):=fun F hF h=>
    qJ hΓ hlen hW hD hK fs os _ _ hl' (hF.pass o.dst) h
   split at h
   ·rename_i hg
    have hw:Region.wanted o (yielded ops a.tmps)=true:=by simp [Region.wanted,hg]
    rw [if_pos hw]
    exact goOk F hF h
   ·rename_i j want hg
    split at h
    ·rename_i d hd
     split at h
     ·rename_i b hb
      obtain ⟨s1,s2⟩:=hF.slot hb (by simp)
      have hv:=(hF.get d _ s1).1
      simp only [R] at hv
      rw [hv] at s2
      rw [nY hg hd s2]
      split at h
      ·rename_i e;subst e;simp only [beq_self_eq_true,if_true];exact goOk F hF h
      ·rename_i e;rw [if_neg (by simpa using e)];exact passOk F hF h
     ·rename_i g hb
      obtain ⟨s1,s2⟩:=hF.slot hb (by simp)
      have hv:=(hF.get d _ s1).1
      simp only [R] at hv
      have kn:∀b,g=b→RF ds β Z wr H.length (F.set d (.bl b)) a:=fun b e=>hF.know (by simp only [R];rw [hv,e]) trivial
      rw [hv] at s2
      rw [nY hg hd s2]
      split at h
      ·rename_i hwt
       subst hwt
       simp only [T.all] at h
       cases hgg:g with
       |true=>simp only [beq_self_eq_true,if_true];exact goOk _ (kn true hgg) (h.1 hgg)
       |false=>rw [if_neg (by simp)];exact passOk _ (kn false hgg) (h.2 hgg)
      ·rename_i hwt
       have hwt':want=false:=by simpa using hwt
       subst hwt'
       simp only [T.all] at h
       cases hgg:g with
       |true=>rw [if_neg (by simp)];exact passOk _ (kn true hgg) (h.1 hgg)
       |false=>simp only [beq_self_eq_true,if_true];exact goOk _ (kn false hgg) (h.2 hgg)
     ·rename_i vs hb
      obtain ⟨s1,s2⟩:=hF.slot hb (by simp)
      have hv:=(hF.get d _ s1).1
      simp only [R] at hv
      rw [hv] at s2
      rw [rF hg hd s2,if_neg (by simp)]
      exact passOk F hF h
     ·cases h
    ·cases h
theorem og {ops:Array Oper}{tr:List Nat}{Hm:List aS}{F0:List LV}:∀(fs:List Bool) (os:List Oper) (F:List LV),(∀o∈os,o∈ops.toList)→F.length=F0.length∧(∀i,i∉rD ops.toList→F[i]? =F0[i]?)→
  (QB P G Γ ops tr H Hm fs os F).lv (Keeps (rD ops.toList) F0 H)
 | [],_,F,_,h=>by simp only [QB,T.lv,Keeps];exact ⟨h.1,h.2,trivial⟩
 |_::_,[],F,_,h=>by simp only [QB,T.lv,Keeps];exact ⟨h.1,h.2,trivial⟩
 | f ::fs,o::os,F,hin,h=>by
  have hin':∀o∈os,o∈ops.toList:=fun o ho=>hin o (by simp [ho])
  have hdo:∀t,o.dst=some t→t∈rD ops.toList:=fun t ht=>List.mem_filterMap.2 ⟨o,hin o (by simp),ht⟩
  have go:∀F:List LV,F.length=F0.length∧(∀i,i∉rD ops.toList→F[i]? =F0[i]?)→((Ub P G Γ tr F Hm o).bind fun y=>QB P G Γ ops tr H Hm fs os (dL F o.dst y)).lv (Keeps (rD ops.toList) F0 H):=fun F hF=>
   T.uX (p:=fun _=>True) (fun q _=>og fs os _ hin' (ou hF hdo _)) (T.yw (fun _=>trivial) _)
  have pass:∀F:List LV,F.length=F0.length∧(∀i,i∉rD ops.toList→F[i]? =F0[i]?)→(QB P G Γ ops tr H Hm fs os (dL F o.dst (.v undef))).lv (Keeps (rD ops.toList) F0 H):=fun F hF=>
   og fs os _ hin' (ou hF hdo _)
  simp only [QB]
  split
  ·exact og fs os F hin' h
  ·split
   ·exact go F h
   ·rename_i j want hg
    split
    ·rename_i d hd
     have hdd:d∈rD ops.toList:=by
      cases hj:ops[j]? with
      |none=>simp [hj] at hd
      |some oj=>simp [hj] at hd;exact List.mem_filterMap.2 ⟨oj,by simpa using Array.mem_of_getElem? hj,hd⟩
     split
     ·split
      ·exact go F h
      ·exact pass F h
     ·split
      ·exact ⟨go _ (kR h hdd _),pass _ (kR h hdd _)⟩
      ·exact ⟨pass _ (kR h hdd _),go _ (kR h hdd _)⟩
     ·exact pass F h
     ·trivial
    ·trivial
structure Gh where
 Z:Nat→Prop
 β:Nat→Loc
 H:List aS
 F:List LV
 a:Act
structure nM (ds:List Deferred) (G:dB) (w0:World) (Z0:Gz) (tr:List Nat) (β:Nat→Loc) (H:List aS) (wr:World) (g:Gh) (w':World):Prop where
 rw:RW G w0 Z0 g.Z g.β g.H w'
 rf:RF ds g.β g.Z w' g.H.length g.F g.a
 near:lX (Aw β H tr) wr w'
 len:H.length≤g.H.length
 old:∀k,k<H.length→g.β k=β k
 new:∀k,H.length≤k→k<g.H.length→wr.heap.size≤(g.β k).b∨(g.β k).b∈Aw β H tr
 QA:EvL H g.H
theorem nM.keep {tr:List Nat}{g:Gh}{w' w'':World}(h:nM ds G w0 Z0 tr β H wr g w') (hb:Below w'.heap.size w' w''):nM ds G w0 Z0 tr β H wr g w'':=
 ⟨h.rw.same hb,h.rf.mono (Nat.le_refl _) (fun _ _=>rfl) (fun _ h=>h) (fun b hz=>bT hb (h.rw.mJ b hz)),Xb h.near hb,h.len,h.old,h.new,h.QA⟩
theorem nM.shape {tr:List Nat}{g:Gh}{w':World}(h:nM ds G w0 Z0 tr β H wr g w'):Shp tr β H w':=fun k b _ hb hcl=>by
 obtain ⟨b',e1,e2⟩:=h.QA k b hb
 obtain ⟨c1,c2,c3⟩:=e2.cl hcl
 obtain ⟨_,⟨cs,f2,f3⟩,_⟩:=DY h.rw e1 c1
 have hk:k<H.length:=(List.getElem?_eq_some_iff.1 hb).1
 rw [h.old k hk,c2] at f2
 refine ⟨cs,f2,?_⟩
 have:=RL.length f3
 simp at this
 omega
theorem nM.touch {tr:List Nat}{g:Gh}{o:Oper}{w':World}(hc:nM ds G w0 Z0 tr β H wr g w') (hst:dR G g.F tr H.length o=true) {x:Nat}(hx:x∈Aw g.β g.H (zO G g.F o)):wr.heap.size≤x∨x∈Aw β H tr:=by
 obtain ⟨k,b,h1,h2,h3,h4,rfl⟩:=Aq.1 hx
 have hkg:k<g.H.length:=(List.getElem?_eq_some_iff.1 h2).1
 by_cases hk:k<H.length
 ·right
  unfold dR at hst
  have:=List.all_eq_true.1 hst k h1
  simp only [Bool.or_eq_true,decide_eq_true_eq] at this
  have hkt:k∈tr:=by
   rcases this with h|h
   ·simpa using h
   ·omega
  obtain ⟨b0,hb0⟩:∃b0,H[k]? =some b0:=⟨_,List.getElem?_eq_getElem hk⟩
  obtain ⟨b',e1,e2⟩:=hc.QA k b0 hb0
  rw [h2] at e1
  simp only [Option.some.injEq] at e1
  subst e1
  refine Aq.2 ⟨k,b0,hkt,hb0,?_,e2.p h4,by rw [hc.old k hk]⟩
  have:=e2.live g.β k h3
  rwa [kQ (hc.old k hk)] at this
 ·exact hc.new k (by omega) hkg
theorem Bf (hΓ:∀g S,Γ g=some S→Valid P G g S) {tr:List Nat}{g:Gh}{o:Oper}{lv:LV}{H1:List aS}{w':World}(hst:dR G g.F tr H.length o=true) (h1:(kP P G Γ g.F g.H o).all (fun q=>q=(lv,H1))) (hc:nM ds G w0 Z0 tr β H wr g w'):
  dU P (fun v w''=>∃g':Gh,nM ds G w0 Z0 tr β H wr g' w''∧g'.F=dL g.F o.dst lv∧g'.H=H1∧g'.a=g.a.put o.dst v) ((execOp g.a.eval o).run P w'):=by
 refine gB (fun v w'' ⟨Z',β',e1,e2,e3,e4,e5,e6,e7,e8⟩=>?_) (yj hΓ hc.rw hc.rf h1)
 refine ⟨⟨Z',β',H1,dL g.F o.dst lv,g.a.put o.dst v⟩,?_,rfl,rfl,rfl⟩
 have hsz:=hc.near.size
 refine ⟨e1,e2.put e3 e4 o.dst,⟨e8.os.trans hc.near.os,e8.tape.trans hc.near.tape,e8.output.trans hc.near.output,Nat.le_trans hsz e8.size,fun k hk hn=>?_⟩,Nat.le_trans hc.len e5,fun k hk=>?_,fun k h3 h4=>?_,hc.QA.trans (atK h1)⟩
 ·rw [e8.block k (by omega) fun hm=>?_]
  ·exact hc.near.block k hk hn
  ·rcases hc.touch hst hm with h|h
   ·omega
   ·exact hn h
 ·show β' k=β k
  rw [e6 k (Nat.lt_of_lt_of_le hk hc.len)];exact hc.old k hk
 ·show wr.heap.size≤(β' k).b∨(β' k).b∈Aw β H tr
  by_cases hkk:k<g.H.length
  ·rw [e6 k hkk];exact hc.new k h3 hkk
  ·rcases e7 k (by omega) h4 with h|h
   ·exact .inl (by omega)
   ·exact hc.touch hst h
theorem zQ {T':Type}{C:T'→World→Prop}{Q':Act→World→Prop}{ops:Array Oper}{g g1:T'}(hs:∀w',C g w'→C g1 w'):∀(fs:List Bool) (os:List Oper) (a:Act),
  uH P ops C (fun a' g'=>∀w',C g' w'→Q' a' w') fs os a g1→uH P ops C (fun a' g'=>∀w',C g' w'→Q' a' w') fs os a g
 | [],_,a,h=>by
  simp only [uH] at h⊢
  exact fun w' hw'=>h w' (hs w' hw')
 |_::_,[],a,h=>by
  simp only [uH] at h⊢
  exact fun w' hw'=>h w' (hs w' hw')
 | f::fs,o::os,a,h=>by
  simp only [uH] at h⊢
  split
  ·rename_i hf
   rw [if_pos hf] at h
   split
   ·rename_i hw
    rw [if_pos hw] at h
    exact fun w' hw'=>h w' (hs w' hw')
   ·rename_i hw
    rw [if_neg hw] at h
    exact zQ hs fs os _ h
  ·rename_i hf
   rw [if_neg hf] at h
   exact zQ hs fs os a h
theorem Aj (hΓ:∀g S,Γ g=some S→Valid P G g S) {ops:Array Oper}{tr:List Nat}{Q:Act→World→Prop}{F':List LV}{H':List aS}
  (hQ:∀g:Gh,g.F=F'→g.H=H'→∀w',nM ds G w0 Z0 tr β H wr g w'→Q g.a w'):∀(fs:List Bool) (os:List Oper) (g:Gh),fs.length=os.length→(∃w',nM ds G w0 Z0 tr β H wr g w')→
   (p2x P G Γ ops tr H.length fs os g.F g.H).all (fun q=>q=(F',H'))→uH P ops (nM ds G w0 Z0 tr β H wr) (fun a' g'=>∀w',nM ds G w0 Z0 tr β H wr g' w'→Q a' w') fs os g.a g
 | [],[],g,_,_,h=>by
  simp only [p2x,T.all,Prod.mk.injEq] at h
  exact aeC (hQ g h.1 h.2)
 | [],_::_,_,hl,_,_=>by simp at hl
 |_::_,[],_,hl,_,_=>by simp at hl
 | f ::fs,o::os,g,hl,hex,h=>by
  have hl':fs.length=os.length:=by simpa using hl
  simp only [p2x] at h
  simp only [uH]
  split at h
  ·rename_i hf
   rw [if_pos hf]
   have turn:∀(F1:List LV),(∀w',nM ds G w0 Z0 tr β H wr g w'→RF ds g.β g.Z w' g.H.length F1 g.a)→∀w',nM ds G w0 Z0 tr β H wr g w'→nM ds G w0 Z0 tr β H wr ⟨g.Z,g.β,g.H,F1,g.a⟩ w':=fun F1 hF1 w' hc=>⟨hc.rw,hF1 w' hc,hc.near,hc.len,hc.old,hc.new,hc.QA⟩
   have goOk:∀(F1:List LV),(∀w',nM ds G w0 Z0 tr β H wr g w'→RF ds g.β g.Z w' g.H.length F1 g.a)→(if dR G F1 tr H.length o then (kP P G Γ F1 g.H o).bind fun q=>p2x P G Γ ops tr H.length fs os (dL F1 o.dst q.1) q.2 else .no).all (fun q=>q=(F',H'))→
     Jr P o g.a (nM ds G w0 Z0 tr β H wr) g (uH P ops (nM ds G w0 Z0 tr β H wr) (fun a' g'=>∀w',nM ds G w0 Z0 tr β H wr g' w'→Q a' w') fs os):=fun F1 hF1 h=>by
    split at h
    ·rename_i hst
     obtain ⟨⟨lv,H1⟩,h1,h2⟩:=T.aU h
     intro w' hc
     refine gB (fun v w'' ⟨g',e1,e2,e3,e4⟩=>⟨g',e1,?_⟩) (Bf (g:=⟨g.Z,g.β,g.H,F1,g.a⟩) hΓ hst h1 (turn F1 hF1 w' hc))
     have:=Aj hΓ hQ fs os g' hl' ⟨w'',e1⟩ (by rw [e2,e3];exact h2)
     rw [e4] at this
     exact this
    ·cases h
   have passOk:∀(F1:List LV),(∀w',nM ds G w0 Z0 tr β H wr g w'→RF ds g.β g.Z w' g.H.length F1 g.a)→(p2x P G Γ ops tr H.length fs os (dL F1 o.dst (.v undef)) g.H).all (fun q=>q=(F',H'))→
     uH P ops (nM ds G w0 Z0 tr β H wr) (fun a' g'=>∀w',nM ds G w0 Z0 tr β H wr g' w'→Q a' w') fs os (g.a.put o.dst undef) g:=fun F1 hF1 h=>by
    have ps:∀w',nM ds G w0 Z0 tr β H wr g w'→nM ds G w0 Z0 tr β H wr ⟨g.Z,g.β,g.H,dL F1 o.dst (.v undef),g.a.put o.dst undef⟩ w':=fun w' hc=>⟨hc.rw,(hF1 w' hc).pass o.dst,hc.near,hc.len,hc.old,hc.new,hc.QA⟩
    refine zQ (Q':=Q) (g1:=⟨g.Z,g.β,g.H,dL F1 o.dst (.v undef),g.a.put o.dst undef⟩) ps fs os _ ?_
    exact Aj hΓ hQ fs os ⟨g.Z,g.β,g.H,dL F1 o.dst (.v undef),g.a.put o.dst undef⟩ hl' (hex.imp fun w' hc=>ps w' hc) h
   obtain ⟨wx,hcx⟩:=hex
   have hF:=hcx.rf
   split at h
   ·rename_i hg
    have hw:Region.wanted o (yielded ops g.a.tmps)=true:=by simp [Region.wanted,hg]
    rw [if_pos hw]
    exact goOk g.F (fun w' hc=>hc.rf) h
   ·rename_i j want hg
    split at h
    ·rename_i d hd
     split at h
     ·rename_i b hb
      obtain ⟨s1,s2⟩:=hF.slot hb (by simp)
      have hv:=(hF.get d _ s1).1
      simp only [R] at hv
      rw [hv] at s2
      rw [nY hg hd s2]
      split at h
      ·rename_i e;subst e;simp only [beq_self_eq_true,if_true];exact goOk g.F (fun w' hc=>hc.rf) h
      ·rename_i e;rw [if_neg (by simpa using e)];exact passOk g.F (fun w' hc=>hc.rf) h
     ·rename_i b hb
      obtain ⟨s1,s2⟩:=hF.slot hb (by simp)
      have hv:=(hF.get d _ s1).1
      simp only [R] at hv
      have kn:∀c,b=c→∀w',nM ds G w0 Z0 tr β H wr g w'→RF ds g.β g.Z w' g.H.length (g.F.set d (.bl c)) g.a:=fun c e w' hc=>hc.rf.know (by simp only [R];rw [hv,e]) trivial
      rw [hv] at s2
      rw [nY hg hd s2]
      split at h
      ·rename_i hwt
       subst hwt
       simp only [T.all] at h
       cases hgg:b with
       |true=>simp only [beq_self_eq_true,if_true];exact goOk _ (kn true hgg) (h.1 hgg)
       |false=>rw [if_neg (by simp)];exact passOk _ (kn false hgg) (h.2 hgg)
      ·rename_i hwt
       have hwt':want=false:=by simpa using hwt
       subst hwt'
       simp only [T.all] at h
       cases hgg:b with
       |true=>rw [if_neg (by simp)];exact passOk _ (kn true hgg) (h.1 hgg)
       |false=>simp only [beq_self_eq_true,if_true];exact goOk _ (kn false hgg) (h.2 hgg)
     ·rename_i vs hb
      obtain ⟨s1,s2⟩:=hF.slot hb (by simp)
      have hv:=(hF.get d _ s1).1
      simp only [R] at hv
      rw [hv] at s2
      rw [rF hg hd s2,if_neg (by simp)]
      exact passOk g.F (fun w' hc=>hc.rf) h
     ·cases h
    ·cases h
  ·rename_i hf
   rw [if_neg hf]
   exact Aj hΓ hQ fs os g hl' hex h
theorem T.swap {α γ:Type}{K:α→γ→Prop}{t:T α}{u:T γ}:t.all (fun x=>u.all (fun y=>K x y))→u.all (fun y=>t.all (fun x=>K x y)):=by
 intro h
 obtain ⟨x,h1,h2⟩:=T.pick h
 refine T.bD (fun y hy=>?_) h1
 exact T.bD (fun z hz=>by rw [hz];exact hy) h2
theorem dH {F:List LV}{d:Option Tmp}{y:LV}{x:Operand}(h:∀t,d=some t→x≠ .tmp t):aK G (dL F d y) x=aK G F x:=by
 cases d with
 |none=>rfl
 | some t=>
  cases x with
  |tmp s=>
   have hne:s≠t:=fun e=>h t rfl (by rw [e])
   simp only [aK,dL,List.getD,List.getElem?_set_ne (Ne.symm hne)]
  |_=>rfl
theorem looks {ops:Array Oper}{o:Oper}{d:Option Tmp}(h:∀t,d=some t→t∉o.looksAt ops):∀x∈o.op.operands,∀t,d=some t→x≠ .tmp t:=fun x hx t ht e=>h t ht (by
 subst e
 exact List.mem_append_left _ (List.mem_filterMap.2 ⟨.tmp t,by simpa using hx,rfl⟩))
theorem jX {F:List LV}{d e:Option Tmp}{x y:LV}(h:∀t,d=some t→e≠some t):dL (dL F d x) e y=dL (dL F e y) d x:=by
 cases d with
 |none=>rfl
 | some t=>
  cases e with
  |none=>rfl
  |some s=>
   have:t≠s:=fun e=>h t rfl (by rw [e])
   simp only [dL]
   exact List.set_comm _ _ (by omega)
theorem oQ {ops:Array Oper}{o:Oper}{d:Option Tmp}{y:LV}(h:∀t,d=some t→t∉o.looksAt ops):mkx P G Γ (dL F d y) o=mkx P G Γ F o:=by
 have hl:=looks h
 unfold mkx
 split
 ·rename_i t len parts ho
  have em:(parts.toList.map fun q=>(q.1,aK G (dL F d y) q.2))=parts.toList.map fun q=>(q.1,aK G F q.2):=List.map_congr_left fun q hq=>by
   rw [dH (hl q.2 (by rw [ho];simp only [Op.operands,List.mem_toArray,List.mem_map];exact ⟨q,hq,rfl⟩))]
  rw [em]
 ·rename_i f args ty ho
  have e1:aK G (dL F d y) f=aK G F f:=dH (hl f (by rw [ho];simp [Op.operands,Call.operands]))
  have e2:(args.toList.map fun x=>norm (aK G (dL F d y) x))=args.toList.map fun x=>norm (aK G F x):=List.map_congr_left fun x hx=>by
   rw [dH (hl x (by rw [ho];simp only [Op.operands,Call.operands,Array.mem_append];exact .inr (by simpa using hx)))]
  rw [e1,e2]
 ·rfl
theorem acf {ops:Array Oper}{o:Oper}{d:Option Tmp}{y:LV}(ha:AA o=true) (h:∀t,d=some t→t∉o.looksAt ops):kP P G Γ (dL F d y) H o=kP P G Γ F H o:=by
 have hl:=looks h
 unfold AA at ha
 split at ha
 ·rename_i t ho
  unfold kP
  simp only [ho]
 ·rename_i t x ho
  unfold kP
  simp only [ho]
  rw [dH (hl x (by rw [ho];simp [Op.operands]))]
 ·rename_i t x ho
  unfold kP
  simp only [ho]
  rw [dH (hl x (by rw [ho];simp [Op.operands]))]
 ·cases ha
theorem zl {tr:List Nat}{n0:Nat}{o:Oper}{F:List LV}(h:vY o=true∨sS o=true):dR G F tr n0 o=true:=by
 have hw:zO G F o=[]:=by
  unfold zO
  split
  ·rename_i ho
   rcases h with h|h
   ·simp [vY,ho] at h
   ·simp [sS,ho] at h
  ·rename_i ho
   rcases h with h|h
   ·simp [vY,ho] at h
   ·simp [sS,ho] at h
  ·rename_i ho
   rcases h with h|h
   ·simp [vY,ho] at h
   ·simp [sS,ho] at h
  ·rename_i ho
   rcases h with h|h
   ·simp [vY,ho] at h
   ·simp [sS,ho] at h
  ·rfl
 unfold dR
 rw [hw];rfl
theorem l7 {tr:List Nat}{n0:Nat}{o:Oper}{F:List LV}(h:AA o=true∨sS o=true):dR G F tr n0 o=true:=by
 have hw:zO G F o=[]:=by
  unfold zO
  split
  ·rename_i ho
   rcases h with h|h
   ·simp [AA,ho] at h
   ·simp [sS,ho] at h
  ·rename_i ho
   rcases h with h|h
   ·simp [AA,ho] at h
   ·simp [sS,ho] at h
  ·rename_i ho
   rcases h with h|h
   ·simp [AA,ho] at h
   ·simp [sS,ho] at h
  ·rename_i ho
   rcases h with h|h
   ·simp [AA,ho] at h
   ·simp [sS,ho] at h
  ·rfl
 unfold dR
 rw [hw];rfl
theorem uU {ops:Array Oper}{i:Nat}{o:Oper}(h:Lh ops i o=true):sS o=true:=by
 unfold Lh at h
 rw [Bool.and_eq_true] at h
 exact h.1
theorem adO {ops:Array Oper}{tr:List Nat}{n0:Nat}{i j:Nat}{is:List Nat}{K:List LV×List aS→Prop}(x y:Oper) (hx:ops[i]? =some x) (hy:ops[j]? =some y) (g1:x.guard.isNone=true) (g2:y.guard.isNone=true) (g3:((AA x=true∧Lh ops j y=true)∨(Lh ops i x=true∧AA y=true))∨(Lh ops i x=true∧Lh ops j y=true)) (hap:x.apart ops y=true) (h:(KX P G Γ ops tr n0 (j::i::is) F H).all K):(KX P G Γ ops tr n0 (i::j::is) F H).all K:=by
 obtain ⟨a1,a2,a3⟩:=Oper.apart_spec hap
 have sx:∀F:List LV,dR G F tr n0 x=true:=fun F=>by
  rcases g3 with (g3|g3) |g3
  ·exact l7 (.inl g3.1)
  ·exact l7 (.inr (uU g3.1))
  ·exact l7 (.inr (uU g3.1))
 have sy:∀F:List LV,dR G F tr n0 y=true:=fun F=>by
  rcases g3 with (g3|g3) |g3
  ·exact l7 (.inr (uU g3.2))
  ·exact l7 (.inl g3.2)
  ·exact l7 (.inr (uU g3.2))
 have notboth:∀o:Oper,sS o=true→AA o=true→False:=fun o h1 h2=>by
  unfold sS at h1
  split at h1
  ·rename_i ho;simp [AA,ho] at h2
  ·rename_i ho;simp [AA,ho] at h2
  ·cases h1
 simp only [KX,hx,hy,g1,g2,sx,sy,Bool.and_self,if_true] at h⊢
 rw [T.all_bind] at h⊢
 rcases g3 with (⟨g3,g4⟩ |⟨g3,g4⟩) |⟨g3,g4⟩
 ·have nx:¬Lh ops i x=true:=fun e=>notboth x (uU e) g3
  simp only [Qz,if_pos g4,if_neg nx] at h⊢
  rw [T.all_bind] at h
  have h2:=T.bD (fun z hz=>by
   simp only [T.all] at hz
   rw [T.all_bind,acf g3 a3] at hz
   exact hz) h
  refine T.bD (fun q hq=>?_) (T.swap h2)
  rw [T.all_bind,T.all_bind,oQ a1]
  refine T.bD (fun z hz=>?_) hq
  simp only [T.all]
  rw [jX a2]
  exact hz
 ·have ny:¬Lh ops j y=true:=fun e=>notboth y (uU e) g4
  simp only [Qz,if_pos g3,if_neg ny] at h⊢
  rw [T.all_bind]
  have h2:=T.bD (fun z hz=>by
   rw [T.all_bind,T.all_bind,oQ a3] at hz
   exact hz) h
  refine T.bD (fun q hq=>?_) (T.swap h2)
  simp only [T.all]
  rw [T.all_bind,acf g4 a1]
  refine T.bD (fun z hz=>?_) hq
  simp only [T.all] at hz
  rw [jX a2]
  exact hz
 ·simp only [Qz,if_pos g3,if_pos g4] at h⊢
  rw [T.all_bind] at h⊢
  have h2:=T.bD (fun z hz=>by
   simp only [T.all] at hz
   rw [T.all_bind,T.all_bind,oQ a3] at hz
   exact hz) h
  refine T.bD (fun q hq=>?_) (T.swap h2)
  simp only [T.all]
  rw [T.all_bind,T.all_bind,oQ a1]
  refine T.bD (fun z hz=>?_) hq
  simp only [T.all] at hz⊢
  rw [jX a2]
  exact hz
theorem ul {ops:Array Oper}{o:Oper}{d:Option Tmp}{y:LV}(hs:∀cs b,o.op≠ .select cs b) (h:∀t,d=some t→t∉o.looksAt ops):sU P G (dL F d y) o=sU P G F o:=by
 have hl:=looks h
 have e:∀x∈o.op.operands,aK G (dL F d y) x=aK G F x:=fun x hx=>dH (hl x hx)
 unfold sU
 have e1:o.op.operands.toList.all (fun x=>ahB (aK G (dL F d y) x))=o.op.operands.toList.all (fun x=>ahB (aK G F x)):=by
  rw [Bool.eq_iff_iff,List.all_eq_true,List.all_eq_true]
  exact ⟨fun q x hx=>by rw [←e x (by simpa using hx)];exact q x hx,fun q x hx=>by rw [e x (by simpa using hx)];exact q x hx⟩
 have e3:o.op.operands.toList.all (fun x=>auH (aK G (dL F d y) x))=o.op.operands.toList.all (fun x=>auH (aK G F x)):=by
  rw [Bool.eq_iff_iff,List.all_eq_true,List.all_eq_true]
  exact ⟨fun q x hx=>by rw [←e x (by simpa using hx)];exact q x hx,fun q x hx=>by rw [e x (by simpa using hx)];exact q x hx⟩
 have e2:ad4 P o (fun x=>(pl (aK G (dL F d y) x)).getD undef)=ad4 P o (fun x=>(pl (aK G F x)).getD undef):=by
  have c:=execOp_congr (ρ:=fun x=>(pl (aK G (dL F d y) x)).getD undef) (ρ':=fun x=>(pl (aK G F x)).getD undef) o hs (fun x hx=>by simp only [e x hx])
  unfold ad4
  rw [c]
  have a:LK P o.op (fun x=>(pl (aK G (dL F d y) x)).getD undef)=LK P o.op (fun x=>(pl (aK G F x)).getD undef):=by
   unfold LK
   split
   ·rename_i op t x z _ ho
    simp only [e x (by rw [ho];simp [Op.operands]),e z (by rw [ho];simp [Op.operands])]
   ·rfl
  rw [a]
 rw [e1,e2,e3]
theorem Hg {ops:Array Oper}{o:Oper}{d:Option Tmp}{y:LV}(h:∀t,d=some t→t∉o.looksAt ops):pux P G Γ (dL F d y) o=pux P G Γ F o:=by
 have hl:=looks h
 have e:∀x∈o.op.operands,aK G (dL F d y) x=aK G F x:=fun x hx=>dH (hl x hx)
 unfold pux
 split
 ·rename_i x ho;rw [e x (by rw [ho];simp [Op.operands])]
 ·rename_i x ho;rw [e x (by rw [ho];simp [Op.operands])]
 ·rename_i c x z ho;rw [e c (by rw [ho];simp [Op.operands]),e x (by rw [ho];simp [Op.operands]),e z (by rw [ho];simp [Op.operands])]
 ·rename_i t x ho;rw [e x (by rw [ho];simp [Op.operands])]
 ·rename_i s x i ho;rw [e x (by rw [ho];simp [Op.operands])]
 ·rename_i t x i ho;rw [e x (by rw [ho];simp [Op.operands]),e i (by rw [ho];simp [Op.operands])]
 ·rename_i t parts ho
  congr 1
  refine List.map_congr_left fun q hq=>?_
  have e':=e q.2 (by rw [ho];simp only [Op.operands,List.mem_toArray,List.mem_map];exact ⟨q,hq,rfl⟩)
  have:EH G (dL F d y) q.2=EH G F q.2:=by
   generalize q.2=x at e'
   cases x<;>first|rfl|exact e'
  rw [this]
 ·exact oQ h
 ·exact oQ h
 ·rename_i ho;exact ul (fun cs b e=>by rw [ho] at e;cases e) h
 ·rename_i op _ _ _ _ ho
  split
  ·rfl
  ·rfl
  ·rfl
  ·rfl
  ·exact ul (fun cs b e=>by rw [ho] at e;cases e) h
 ·rfl
def hpx (P:Program) (G:dB) (F:List LV) (H:List aS) (o:Oper):T LV:=
 match o.op with
 | .move x=> .ok (aK G F x)
 | .assign x=> .ok (aK G F x)
 | .load t x=>vO P H t (aK G F x)
 | .indexAddr t x i=>zu P t (aK G F x) (adY (aK G F i)) (aK G F i)
 | .fieldAddr s x i=>I5 P s (aK G F x) i
 | .extract x i=>(match aK G F x with
  | .jg l=>(match l[i]? with
   |some y=> .ok y
   |none=> .no)
  |_=>sU P G F o)
 | .binOp ..=>sU P G F o
 | .call ..=>sU P G F o
 |_=> .no
theorem IC {o:Oper}(h:(yK o ||FB o)=true):(∃x,o.op=.move x)∨(∃x,o.op=.assign x)∨(∃t x,o.op=.load t x)∨(∃t x i,o.op=.indexAddr t x i)∨(∃t x y u,o.op=.binOp .add t x y u)∨(∃t x y u,o.op=.binOp .sub t x y u)∨(∃x i,o.op=.extract x i)∨(∃x i,o.op=.call {callee:=.builtin .max,args:=x,argTypes:=i})∨(∃x i,o.op=.call {callee:=.builtin .min,args:=x,argTypes:=i})∨(∃s x i,o.op=.fieldAddr s x i):=by
 rcases Bool.or_eq_true_iff.1 h with h|h
 ·unfold yK at h
  split at h
  ·rename_i ho;exact .inl ⟨_,ho⟩
  ·rename_i ho;exact .inr (.inl ⟨_,ho⟩)
  ·rename_i ho;exact .inr (.inr (.inr (.inl ⟨_,_,_,ho⟩)))
  ·rename_i ho;exact .inr (.inr (.inr (.inr (.inr (.inr (.inr (.inr (.inr ⟨_,_,_,ho⟩))))))))
  ·rename_i ho;exact .inr (.inr (.inr (.inr (.inr (.inr (.inl ⟨_,_,ho⟩))))))
  ·rename_i ho;exact .inr (.inr (.inr (.inr (.inr (.inr (.inr (.inl ⟨_,_,ho⟩)))))))
  ·rename_i ho;exact .inr (.inr (.inr (.inr (.inr (.inr (.inr (.inr (.inl ⟨_,_,ho⟩))))))))
  ·rename_i ho
   split at h
   ·exact .inr (.inr (.inr (.inr (.inl ⟨_,_,_,_,ho⟩))))
   ·exact .inr (.inr (.inr (.inr (.inr (.inl ⟨_,_,_,_,ho⟩)))))
   ·cases h
  ·cases h
 ·unfold FB at h
  split at h
  ·rename_i ho;exact .inr (.inr (.inl ⟨_,_,ho⟩))
  ·cases h
theorem auK {ops:Array Oper}{k:Nat}{o:Oper}(h:(yK o ||FB o)=true):Qz P G Γ ops k F H o=(hpx P G F H o).bind fun y=> .ok (y,H):=by
 rcases IC h with ⟨x,ho⟩ |⟨x,ho⟩ |⟨t,x,ho⟩ |⟨t,x,i,ho⟩ |⟨t,x,y,u,ho⟩ |⟨t,x,y,u,ho⟩ |⟨x,i,ho⟩ |⟨x,i,ho⟩ |⟨x,i,ho⟩ |⟨t,x,i,ho⟩
 case inr.inr.inr.inr.inr.inr.inl=>
  unfold Qz Lh sS kP hpx
  simp only [ho,Bool.false_and,Bool.false_eq_true,if_false]
  generalize aK G F x=v
  cases v
  case jg l=>
   dsimp only
   cases l[i]? <;>rfl
  all_goals rfl
 all_goals (unfold Qz Lh sS kP hpx;simp [ho,T.bind])
theorem AB {ops:Array Oper}{o:Oper}{d:Option Tmp}{y:LV}(hh:(yK o ||FB o)=true) (h:∀t,d=some t→t∉o.looksAt ops):hpx P G (dL F d y) H o=hpx P G F H o:=by
 have hl:=looks h
 rcases IC hh with ⟨x,ho⟩ |⟨x,ho⟩ |⟨t,x,ho⟩ |⟨t,x,i,ho⟩ |⟨t,x,z,u,ho⟩ |⟨t,x,z,u,ho⟩ |⟨x,i,ho⟩ |⟨x,i,ho⟩ |⟨x,i,ho⟩ |⟨t,x,i,ho⟩
 ·unfold hpx;simp only [ho]
  rw [dH (hl x (by rw [ho];simp [Op.operands]))]
 ·unfold hpx;simp only [ho]
  rw [dH (hl x (by rw [ho];simp [Op.operands]))]
 ·unfold hpx;simp only [ho]
  rw [dH (hl x (by rw [ho];simp [Op.operands]))]
 ·unfold hpx;simp only [ho]
  rw [dH (hl x (by rw [ho];simp [Op.operands])),dH (hl i (by rw [ho];simp [Op.operands]))]
 ·have:=Hg (P:=P) (G:=G) (Γ:=fun _=>none) (F:=F) (y:=y) h
  unfold pux at this
  unfold hpx
  simp only [ho] at this⊢
  exact this
 ·have:=Hg (P:=P) (G:=G) (Γ:=fun _=>none) (F:=F) (y:=y) h
  unfold pux at this
  unfold hpx
  simp only [ho] at this⊢
  exact this
 ·unfold hpx;simp only [ho]
  rw [dH (hl x (by rw [ho];simp [Op.operands])),ul (fun cs b e=>by rw [ho] at e;cases e) h]
 ·unfold hpx;simp only [ho]
  rw [ul (fun cs b e=>by rw [ho] at e;cases e) h]
 ·unfold hpx;simp only [ho]
  rw [ul (fun cs b e=>by rw [ho] at e;cases e) h]
 ·unfold hpx;simp only [ho]
  rw [dH (hl x (by rw [ho];simp [Op.operands]))]
theorem ag4 {o:Oper}{H':List aS}(h:yK o=true):hpx P G F H o=hpx P G F H' o:=by
 unfold hpx
 cases ho:o.op<;>simp_all [yK]
theorem vg {o:Oper}{tr:List Nat}{n0:Nat}(h:(yK o ||FB o)=true) (F:List LV):dR G F tr n0 o=true:=by
 rcases IC h with ⟨x,ho⟩ |⟨x,ho⟩ |⟨t,x,ho⟩ |⟨t,x,i,ho⟩ |⟨t,x,y,u,ho⟩ |⟨t,x,y,u,ho⟩ |⟨x,i,ho⟩ |⟨x,i,ho⟩ |⟨x,i,ho⟩ |⟨t,x,i,ho⟩<;>simp [dR,zO,ho]
theorem Rt {ops:Array Oper}{k:Nat}{o:Oper}{d:Option Tmp}{y:LV}(hh:aaJ o=true) (h:∀t,d=some t→t∉o.looksAt ops):Qz P G Γ ops k (dL F d y) H o=Qz P G Γ ops k F H o∧∀tr n0,dR G (dL F d y) tr n0 o=dR G F tr n0 o:=by
 have hl:=looks h
 unfold aaJ at hh
 split at hh
 ·rename_i t x z ho
  have e1:=dH (G:=G) (F:=F) (y:=y) (hl x (by rw [ho];simp [Op.operands]))
  have e2:=dH (G:=G) (F:=F) (y:=y) (hl z (by rw [ho];simp [Op.operands]))
  refine ⟨?_,fun tr n0=>?_⟩
  ·unfold Qz Lh sS kP
   simp only [ho,Bool.false_and,Bool.false_eq_true,if_false]
   rw [e1,e2]
  ·unfold dR zO
   simp only [ho]
   rw [e1]
 ·cases hh
theorem O8 {ops:Array Oper}{k:Nat}{o:Oper}(h:Lh ops k o=true):Qz P G Γ ops k F H o=(mkx P G Γ F o).bind fun y=> .ok (y,H):=by
 unfold Qz
 rw [if_pos h]
theorem Uy {ops:Array Oper}{k:Nat}{o:Oper}{d:Option Tmp}{y:LV}(hh:anC o=true) (h:∀t,d=some t→t∉o.looksAt ops):Qz P G Γ ops k (dL F d y) H o=Qz P G Γ ops k F H o∧∀tr n0,dR G (dL F d y) tr n0 o=dR G F tr n0 o:=by
 have hl:=looks h
 unfold anC at hh
 split at hh
 ·rename_i args tys ho
  have e:args.toList.map (aK G (dL F d y))=args.toList.map (aK G F):=List.map_congr_left fun x hx=>dH (hl x (by rw [ho];simp only [Op.operands,Call.operands,Array.mem_append];exact .inr (by simpa using hx)))
  refine ⟨?_,fun tr n0=>?_⟩
  ·unfold Qz Lh sS kP
   simp only [ho,Bool.false_and,Bool.false_eq_true,if_false]
   rw [e]
  ·unfold dR zO
   simp only [ho]
   rw [e]
 ·cases hh
theorem T.uw {α:Type}{A:Prop}:∀ {t:T α},t.all (fun _=>A)→A
 | .ok _,h=>h
 | .br b x y,h=>by
  cases b with
  |true=>exact T.uw (t:=x) (h.1 rfl)
  |false=>exact T.uw (t:=y) (h.2 rfl)
 | .req _ x,h=>T.uw (t:=x) h.2
 | .no,h=>h.elim
theorem af9 {ops:Array Oper}{tr:List Nat}{n0:Nat}{i j:Nat}{is:List Nat}{K:List LV×List aS→Prop}(hc:I9 ops i j=true) (h:(KX P G Γ ops tr n0 (j::i::is) F H).all K):(KX P G Γ ops tr n0 (i::j::is) F H).all K:=by
 unfold I9 at hc
 split at hc
 ·rename_i x y hx hy
  simp only [Bool.and_eq_true,Bool.or_eq_true] at hc
  obtain ⟨⟨⟨g1,g2⟩,g3⟩,hap⟩:=hc
  obtain ⟨a1,a2,a3⟩:=Oper.apart_spec hap
  have step:∀(k:Nat) (o:Oper) (l:List Nat) (F:List LV) (H:List aS),ops[k]? =some o→o.guard.isNone=true→((KX P G Γ ops tr n0 (k::l) F H).all K↔(dR G F tr n0 o=true∧(Qz P G Γ ops k F H o).all (fun q=>(KX P G Γ ops tr n0 l (dL F o.dst q.1) q.2).all K))):=fun k o l F H hk hg=>by
   simp only [KX,hk,hg,Bool.true_and]
   split
   ·rename_i hs
    rw [T.all_bind]
    simp only [hs,true_and]
   ·rename_i hs
    constructor
    ·exact fun h=>h.elim
    ·exact fun h=>(hs h.1).elim
  have hpS:∀(k:Nat) (o:Oper) (F:List LV) (H:List aS) (K:LV×List aS→Prop),(yK o ||FB o)=true→((Qz P G Γ ops k F H o).all K↔(hpx P G F H o).all (fun v=>K (v,H))):=fun k o F H K ho=>by
   rw [auK ho,T.all_bind]
   rfl
  rcases g3 with ((((g3|g3) |g3) |g3) |g3) |g3
  ·exact adO x y hx hy g1 g2 g3 hap h
  ·have gx:(yK x ||FB x)=true:=Bool.or_eq_true_iff.2 g3.1
   have gy:(yK y ||FB y)=true:=Bool.or_eq_true_iff.2 g3.2
   rw [step _ _ _ _ _ hy g2,hpS j y _ _ _ gy] at h
   rw [step _ _ _ _ _ hx g1,hpS i x _ _ _ gx]
   refine ⟨vg gx F,?_⟩
   have h2:=T.bD (fun v hv=>by
    rw [step _ _ _ _ _ hx g1,hpS i x _ _ _ gx,AB gx a3] at hv
    exact hv.2) h.2
   refine T.bD (fun u hu=>?_) (T.swap h2)
   rw [step _ _ _ _ _ hy g2,hpS j y _ _ _ gy,AB gy a1]
   refine ⟨vg gy _,T.bD (fun v hv=>?_) hu⟩
   simp only at hv⊢
   rw [jX a2]
   exact hv
  ·obtain ⟨gx,gy⟩:=g3
   have gx':(yK x ||FB x)=true:=by rw [gx];rfl
   rw [step _ _ _ _ _ hy g2] at h
   rw [step _ _ _ _ _ hx g1,hpS i x _ _ _ gx']
   refine ⟨vg gx' F,?_⟩
   have h2:=T.bD (fun q hq=>by
    rw [step _ _ _ _ _ hx g1,hpS i x _ _ _ gx',AB gx' a3,ag4 (H':=H) gx] at hq
    exact hq.2) h.2
   refine T.bD (fun u hu=>?_) (T.swap h2)
   obtain ⟨e1,e2⟩:=Rt (P:=P) (G:=G) (Γ:=Γ) (F:=F) (H:=H) (y:=u) gy a1
   rw [step _ _ _ _ _ hy g2,e1,e2]
   refine ⟨h.1,T.bD (fun q hq=>?_) hu⟩
   simp only at hq⊢
   rw [jX a2]
   exact hq
  ·obtain ⟨gx,gy⟩:=g3
   have gy':(yK y ||FB y)=true:=by rw [gy];rfl
   rw [step _ _ _ _ _ hy g2,hpS j y _ _ _ gy'] at h
   have h2:=T.bD (fun v hv=>by
    obtain ⟨e1,e2⟩:=Rt (P:=P) (G:=G) (Γ:=Γ) (F:=F) (H:=H) (y:=v) gx a3
    rw [step _ _ _ _ _ hx g1,e1,e2] at hv
    exact hv) h.2
   rw [step _ _ _ _ _ hx g1]
   refine ⟨T.uw (T.bD (fun v hv=>hv.1) h2),?_⟩
   have h3:=T.bD (fun v hv=>hv.2) h2
   refine T.bD (fun q hq=>?_) (T.swap h3)
   rw [step _ _ _ _ _ hy g2,hpS j y _ _ _ gy',AB gy' a1,ag4 (H':=H) gy]
   refine ⟨vg gy' _,T.bD (fun v hv=>?_) hq⟩
   simp only at hv⊢
   rw [jX a2]
   exact hv
  ·obtain ⟨gx,gy⟩:=g3
   rw [step _ _ _ _ _ hy g2] at h
   rw [step _ _ _ _ _ hx g1,O8 gx,T.all_bind]
   refine ⟨zl (.inr (uU gx)),?_⟩
   have h2:=T.bD (fun q hq=>by
    rw [step _ _ _ _ _ hx g1,O8 gx,T.all_bind,oQ a3] at hq
    exact hq.2) h.2
   refine T.bD (fun u hu=>?_) (T.swap h2)
   obtain ⟨e1,e2⟩:=Uy (P:=P) (G:=G) (Γ:=Γ) (F:=F) (H:=H) (y:=u) gy a1
   (try simp only [T.all] at hu)
   (try simp only [T.all])
   rw [step _ _ _ _ _ hy g2,e1,e2]
   refine ⟨h.1,T.bD (fun q hq=>?_) hu⟩
   (try simp only at hq)
   (try simp only)
   rw [jX a2]
   exact hq
  ·obtain ⟨gx,gy⟩:=g3
   rw [step _ _ _ _ _ hy g2,O8 gy,T.all_bind] at h
   have h2:=T.bD (fun v hv=>by
    obtain ⟨e1,e2⟩:=Uy (P:=P) (G:=G) (Γ:=Γ) (F:=F) (H:=H) (y:=v) gx a3
    (try simp only [T.all] at hv)
    rw [step _ _ _ _ _ hx g1,e1,e2] at hv
    exact hv) h.2
   rw [step _ _ _ _ _ hx g1]
   refine ⟨T.uw (T.bD (fun v hv=>hv.1) h2),?_⟩
   have h3:=T.bD (fun v hv=>hv.2) h2
   refine T.bD (fun q hq=>?_) (T.swap h3)
   rw [step _ _ _ _ _ hy g2,O8 gy,T.all_bind,oQ a1]
   refine ⟨zl (.inr (uU gy)),T.bD (fun v hv=>?_) hq⟩
   (try simp only [T.all] at hv)
   (try simp only [T.all])
   rw [jX a2]
   exact hv
 ·cases hc
theorem aga {ops:Array Oper}{tr:List Nat}{n0:Nat}{j:Nat}{R R':List Nat}{K:List LV×List aS→Prop}(hh:∀(F:List LV) (H:List aS),(KX P G Γ ops tr n0 R F H).all K→(KX P G Γ ops tr n0 R' F H).all K) (h:(KX P G Γ ops tr n0 (j::R) F H).all K):(KX P G Γ ops tr n0 (j::R') F H).all K:=by
 simp only [KX] at h⊢
 split at h
 ·split at h
  ·rename_i hg
   rw [if_pos hg]
   rw [T.all_bind] at h⊢
   exact T.bD (fun q hq=>hh _ _ hq) h
  ·cases h
 ·cases h
theorem KW {ops:Array Oper}{tr:List Nat}{n0:Nat}{i:Nat}{K:List LV×List aS→Prop}:∀(R:List Nat) (F:List LV) (H:List aS),i∈R→(sZ i R).all (fun j=>I9 ops i j)=true→(KX P G Γ ops tr n0 R F H).all K→(KX P G Γ ops tr n0 (i::R.erase i) F H).all K
 | [],_,_,hi,_,_=>by cases hi
 | j::R,F,H,hi,hb,h=>by
  by_cases hj:j=i
  ·subst hj
   simpa using h
  ·have hi':i∈R:=by
    rcases List.mem_cons.1 hi with e|e
    ·exact absurd e.symm hj
    ·exact e
   simp only [sZ,if_neg hj,List.all_cons,Bool.and_eq_true] at hb
   rw [List.erase_cons_tail (by simpa using hj)]
   exact af9 hb.1 (aga (fun F H h=>KW R F H hi' hb.2 h) h)
theorem ahu {t:TypeId}{len:Nat}{l:List (Nat×LV)}{K:LV→Prop}(h:(Pv P t len l).all K):¬len=0:=by
 unfold Pv at h
 rintro rfl
 split at h
 ·split at h
  ·split at h
   ·rename_i hc;have:=hc.2.2.1;omega
   ·cases h
  ·cases h
 ·cases h
theorem Xr {t:TypeId}{len:Nat}{l:List (Nat×LV)}{K:LV→Prop}(h:(Pv P t len l).all K):NI P t=true:=by
 unfold Pv at h
 unfold NI
 split at h
 ·rename_i e hu
  split at h
  ·rename_i ty m z h1 h2 h3
   simp [h1]
  ·cases h
 ·cases h
theorem O7 {o:Oper}{lv:LV}(_:sS o=true) (h:(mkx P G Γ F o).all (fun z=>z=lv)):(kP P G Γ F H o).all (fun q=>q=(lv,H)):=by
 unfold mkx at h
 split at h
 ·rename_i t len parts ho
  split at h
  ·rename_i hno
   unfold kP
   simp only [ho]
   rw [if_neg (ahu h),if_pos (Xr h),if_pos hno,T.all_bind]
   exact T.bD (fun z hz=>by simp only [T.all];rw [hz]) h
  ·cases h
 ·rename_i f args ty ho
  unfold kP
  simp only [ho]
  split at h
  ·rename_i g cap hf
   split at h
   ·rename_i fn hfn
    split at h
    ·rename_i hb
     split at h
     ·rename_i S hS
      split at h
      ·rename_i hno
       simp only [xw,hfn,hb,if_true,hS,hno]
       rw [T.all_bind]
       exact T.bD (fun z hz=>by simp only [T.all];rw [hz]) h
      ·cases h
     ·cases h
    ·cases h
   ·cases h
  ·cases h
 ·cases h
theorem aaD {l:Array Bool}{i j:Nat}{d:Bool}:(l.setIfInBounds i true).getD j d=if i=j∧i<l.size then true else l.getD j d:=by
 rw [Array.getD_eq_getD_getElem?,Array.getD_eq_getD_getElem?,Array.getElem?_setIfInBounds]
 by_cases e:i=j
 ·subst e
  by_cases h:i<l.size
  ·simp [h]
  ·simp [h]
 ·simp [e]
theorem Pq {l:Array Bool}{i:Nat}(h:l.getD i true=false):i<l.size∧l.getD i false=false:=by
 rw [Array.getD_eq_getD_getElem?] at h⊢
 cases hq:l[i]? with
 |none=>rw [hq] at h;cases h
 |some b=>
  rw [hq] at h
  exact ⟨(Array.getElem?_eq_some_iff.1 hq).1,h⟩
theorem Jk {i:Nat}:∀ {R:List Nat}{j:Nat},j∈sZ i R→j∈R∧j≠i
 | [],_,h=>by cases h
 | k::R,j,h=>by
  simp only [sZ] at h
  split at h
  ·cases h
  ·rename_i hk
   rcases List.mem_cons.1 h with rfl|h
   ·exact ⟨by simp,hk⟩
   ·exact ⟨List.mem_cons_of_mem _ (Jk h).1,(Jk h).2⟩
theorem LX {p:Nat→Nat→Prop}{i:Nat}:∀ {R:List Nat}{j:Nat},R.Pairwise p→i∈R→j∈sZ i R→p j i
 | [],_,_,h,_=>by cases h
 | k::R,j,hp,hi,hj=>by
  rw [List.pairwise_cons] at hp
  simp only [sZ] at hj
  split at hj
  ·cases hj
  ·rename_i hk
   have hi2:i∈R:=by
    rcases List.mem_cons.1 hi with e|hi
    ·exact absurd e.symm hk
    ·exact hi
   rcases List.mem_cons.1 hj with rfl|hj
   ·exact hp.1 i hi2
   ·exact LX hp.2 hi2 hj
theorem Jl {i k q:Nat}(hk:k≠i) (hq:q≠i):∀ {R:List Nat},q∈sZ k R→q∈sZ k (R.erase i)
 | [],h=>by cases h
 | x::R,h=>by
  simp only [sZ] at h
  split at h
  ·cases h
  ·rename_i hx
   by_cases e:x=i
   ·subst e
    rw [List.erase_cons_head]
    rcases List.mem_cons.1 h with rfl|h
    ·exact absurd rfl hq
    ·exact h
   ·rw [List.erase_cons_tail (by simpa using e)]
    simp only [sZ,if_neg hx]
    rcases List.mem_cons.1 h with rfl|h
    ·simp
    ·exact List.mem_cons_of_mem _ (Jl hk hq h)
structure aB5 (ops:Array Oper) (R:List Nat) (listed:Array Bool):Prop where
 nd:R.Nodup
 mem:∀i,i∈R↔listed.getD i true=false
 pr:R.Pairwise fun j i=>preB ops i j=true∨I9 ops i j=true
 tp:∀i∈R,∃o,ops[i]? =some o∧∀e∈o.after,Region.binds .any e=true→listed.getD e.on false=true∨e.on∈sZ i R
theorem agd {ops:Array Oper}:∀(n:Nat) (R:List Nat) (listed:Array Bool),R.length=n→aB5 ops R listed→Og ops n R listed=true
 |0,R,listed,hn,I=>by
  have e:=List.eq_nil_of_length_eq_zero hn
  subst e
  simp only [Og,List.isEmpty_nil,Bool.true_and,List.isEmpty_iff]
  refine List.eq_nil_iff_forall_not_mem.2 fun i hi=>?_
  exact absurd ((I.mem i).2 (mem_ready.1 hi).1) (by simp)
 | n +1,R,listed,hn,I=>by
  simp only [Og,Bool.and_eq_true,List.all_eq_true,Bool.not_eq_true',List.isEmpty_eq_false_iff]
  refine ⟨fun h0=>?_,fun i hi=>?_⟩
  ·match R,hn,I with
   | k::R,_,I=>
    obtain ⟨o,ho,h1⟩:=I.tp k (by simp)
    have:k∈Region.ready .any ops listed:=mem_ready.2 ⟨(I.mem k).1 (by simp),o,ho,fun e he hb=>by
     rcases h1 e he hb with h2|h2
     ·exact h2
     ·simp [sZ] at h2⟩
    rw [h0] at this
    cases this
  ·obtain ⟨r1,o,ho,r2⟩:=mem_ready.1 hi
   have hR:=(I.mem i).2 r1
   refine ⟨⟨by simpa using hR,fun j hj=>?_⟩,agd n _ _ (by rw [List.length_erase_of_mem hR,hn];rfl) ⟨I.nd.erase i,fun j=>?_,I.pr.sublist List.erase_sublist,fun k hk=>?_⟩⟩
   ·obtain ⟨j1,j2⟩:=Jk hj
    rcases LX I.pr hR hj with h|h
    ·unfold preB at h
     rw [ho] at h
     simp only [List.any_eq_true,Bool.and_eq_true] at h
     obtain ⟨e,he,hb,hq⟩:=h
     have hq:e.on=j:=by simpa using hq
     have h3:=r2 e (by simpa using he) hb
     rw [hq] at h3
     have h4:=(Pq ((I.mem j).1 j1)).2
     rw [h3] at h4
     cases h4
    ·exact h
   ·rw [I.nd.mem_erase_iff,I.mem j,aaD]
    have hb:=(Pq r1).1
    by_cases e:i=j
    ·subst e
     simp [hb]
    ·simp [e,Ne.symm e]
   ·have hk':=I.nd.mem_erase_iff.1 hk
    obtain ⟨o',ho',h1⟩:=I.tp k hk'.2
    refine ⟨o',ho',fun e he hb=>?_⟩
    rw [aaD]
    by_cases q:i=e.on
    ·left
     rw [if_pos ⟨q,(Pq r1).1⟩]
    ·rw [if_neg (fun h=>q h.1)]
     rcases h1 e he hb with h2|h2
     ·exact .inl h2
     ·exact .inr (Jl hk'.1 (Ne.symm q) h2)
theorem abS:∀ {l:List Nat},aom l=true→l.Nodup
 | [],_=>List.nodup_nil
 |x::l,h=>by
  simp only [aom,Bool.and_eq_true,Bool.not_eq_true',List.contains_eq_mem,decide_eq_false_iff_not] at h
  exact List.nodup_cons.2 ⟨h.1,abS h.2⟩
theorem KT {ops:Array Oper}:∀ {R:List Nat},Oc ops R=true→R.Pairwise fun j i=>preB ops i j=true∨I9 ops i j=true
 | [],_=>List.Pairwise.nil
 |j::R,h=>by
  simp only [Oc,Bool.and_eq_true,List.all_eq_true,Bool.or_eq_true] at h
  exact List.pairwise_cons.2 ⟨h.1,KT h.2⟩
theorem atI {ops:Array Oper}{R:List Nat}{listed:Array Bool}(h:atJ ops R listed=true):Og ops R.length R listed=true:=by
 unfold atJ ao1 at h
 simp only [Bool.and_eq_true,List.all_eq_true,List.mem_range] at h
 obtain ⟨h1,h2,h3,h4,h5,h6⟩:=h
 have h2:listed.size=ops.size:=by simpa using h2
 refine agd _ R listed rfl ⟨abS h1,fun i=>?_,KT h5,fun i hi=>?_⟩
 ·by_cases hi:i<ops.size
  ·have:=h3 i hi
   simp only [List.contains_eq_mem,beq_iff_eq] at this
   constructor
   ·intro hm
    rw [decide_eq_true hm] at this
    simpa using this.symm
   ·intro hm
    rw [hm] at this
    simpa using this
  ·constructor
   ·intro hm
    exact absurd (of_decide_eq_true (h4 i hm)) hi
   ·intro hm
    have:=(Pq hm).1
    omega
 ·have:=h6 i hi
  split at this
  ·rename_i o ho
   refine ⟨o,ho,fun e he hb=>?_⟩
   have:=List.all_eq_true.1 this e (by simpa using he)
   rw [hb] at this
   simpa using this
  ·cases this
theorem EF (hΓ:∀g S,Γ g=some S→Valid P G g S) {ops:Array Oper}{tr:List Nat}{D:World→Prop}{sp:Nat→Bool}{Q:Act→Gh→Prop}{F':List LV}{H':List aS}
  (hQ:∀g:Gh,g.F=F'→g.H=H'→Q g.a g):∀(n:Nat) (R:List Nat) (listed:Array Bool) (g:Gh),(∀i∈R,sp i=true)→Og ops n R listed=true→
   (KX P G Γ ops tr H.length R g.F g.H).all (fun q=>q=(F',H'))→ku P .any ops D (nM ds G w0 Z0 tr β H wr) sp Q n listed g.a g
 |0,R,listed,g,_,hB,h=>by
  simp only [Og,Bool.and_eq_true,List.isEmpty_iff] at hB
  obtain ⟨rfl,h2⟩:=hB
  simp only [KX,T.all,Prod.mk.injEq] at h
  exact ⟨h2,hQ g h.1 h.2⟩
 | n +1,R,listed,g,hs,hB,h=>by
  simp only [Og,Bool.and_eq_true,List.all_eq_true,Bool.not_eq_true',List.isEmpty_eq_false_iff] at hB
  obtain ⟨hne,hall⟩:=hB
  refine ⟨fun h0=>absurd h0 hne,fun i hi=>?_⟩
  obtain ⟨⟨hR,hbef⟩,hrest⟩:=hall i hi
  have hiR:i∈R:=by simpa using hR
  have hf:=KW R g.F g.H hiR (by rw [List.all_eq_true];exact hbef) h
  simp only [KX] at hf
  split at hf
  ·rename_i o ho
   split at hf
   ·rename_i hgs
    simp only [Bool.and_eq_true,Option.isNone_iff_eq_none] at hgs
    obtain ⟨hgd,hst⟩:=hgs
    have hw:Region.wanted o (yielded ops g.a.tmps)=true:=by simp [Region.wanted,hgd]
    unfold DN
    simp only [ho,hw,if_true,hs i hiR]
    obtain ⟨⟨lv,H1⟩,h1,h2⟩:=T.aU hf
    have h1':(kP P G Γ g.F g.H o).all (fun q=>q=(lv,H1)):=by
     unfold Qz at h1
     split at h1
     ·rename_i hm
      obtain ⟨y,k1,k2⟩:=T.aU h1
      simp only [T.all,Prod.mk.injEq] at k2
      obtain ⟨rfl,rfl⟩:=k2
      exact O7 (uU hm) k1
     ·exact h1
    intro w' hc
    refine gB (fun v w'' ⟨g',e1,e2,e3,e4⟩=>⟨g',e1,?_⟩) (Bf hΓ hst h1' hc)
    rw [←e4]
    refine EF hΓ hQ n (R.erase i) _ g' (fun j hj=>hs j (List.mem_of_mem_erase hj)) hrest ?_
    rw [e2,e3]
    exact h2
   ·cases hf
  ·cases hf
theorem lW {T':Type}{md:Region.Mode}{D:World→Prop}{sp:Nat→Bool}{C:T'→World→Prop}{Q':Act→World→Prop}{ops:Array Oper}{g g1:T'}(hs:∀w',C g w'→C g1 w'):∀(n:Nat) (listed:Array Bool) (a:Act),
  ku P md ops D C sp (fun a' g'=>∀w',C g' w'→Q' a' w') n listed a g1→ku P md ops D C sp (fun a' g'=>∀w',C g' w'→Q' a' w') n listed a g
 |0,_,_,h=>⟨h.1,fun w' hw'=>h.2 w' (hs w' hw')⟩
 | n +1,listed,a,h=>⟨fun h0 w' hw'=>h.1 h0 w' (hs w' hw'),fun i hi=>by
   have:=h.2 i hi
   unfold DN at this⊢
   split
   ·rename_i ho;simp only [ho] at this;exact lW hs n _ _ this
   ·rename_i o ho
    simp only [ho] at this
    split
    ·rename_i hw
     simp only [hw,if_true] at this
     split
     ·rename_i hsp
      simp only [hsp,if_true] at this
      exact fun w hw=>this w (hs w hw)
     ·rename_i hsp
      simp only [hsp] at this
      exact yD (fun a' hk=>lW hs n _ a' hk) this
    ·rename_i hw
     simp only [hw] at this
     exact lW hs n _ _ this⟩
mutual
theorem R.zC {β':Nat→Loc}{n:Nat}:∀(x:LV) (y:Value),(∀j,j∈owns x→β' j=β j)→okV n x→R β Z w x y→R β' Z w x y
 | .v _,_,_,_,h=>h
 | .bl _,_,_,_,h=>h
 | .ki _ _,_,_,_,h=>h
 | .own k off,y,hj,_,h=>by simp only [R] at*;rw [h,hj k (by simp [owns])]
 | .agg l,y,hj,hk,h=>by
  simp only [R,owns,okV] at*
  obtain ⟨ys,h1,h2⟩:=h
  exact ⟨ys,h1,RL.zC l _ hj hk h2⟩
 | .jg l,y,hj,hk,h=>by
  simp only [R,owns,okV] at*
  obtain ⟨ys,h1,h2⟩:=h
  exact ⟨ys,h1,RL.zC l _ hj hk h2⟩
 | .fn f l,y,hj,hk,h=>by
  simp only [R,owns,okV] at*
  obtain ⟨ys,h1,h2⟩:=h
  exact ⟨ys,h1,RL.zC l _ hj hk h2⟩
 | .xq m f,y,_,hk,h=>by
  simp only [R,okV] at*
  obtain ⟨b,off,h1,h2,h3⟩:=h
  refine ⟨b,off,h1,h2,fun j hj=>?_⟩
  obtain ⟨z,h4,h5⟩:=h3 j hj
  exact ⟨z,h4,R.mono (n:=0) (fun _ hk=>absurd hk (by omega)) (fun _ h=>h) (fun _ _=>rfl) _ _ (hk j) h5⟩
 | .xl e l,y,_,_,h=>by simp only [R] at*;exact h
 | .os k es off n,y,hj,_,h=>by simp only [R] at*;rw [hj k (by simp [owns])];exact h
 | .op k es i j,y,hj,_,h=>by simp only [R] at*;rw [hj k (by simp [owns])];exact h
 | .om k,y,hj,_,h=>by simp only [R] at*;rw [hj k (by simp [owns])];exact h
 | .mp kd ks l,y,hj,hk,h=>by
  simp only [R,owns,okV] at*
  obtain ⟨r,es,clock,h1,h2,h3,h4,h5⟩:=h
  exact ⟨r,es,clock,h1,h2,h3,h4,RL.zC l _ hj hk h5⟩
 | .oc k es off n c,y,hj,_,h=>by simp only [R] at*;rw [hj k (by simp [owns])];exact h
 | .vK k,y,hj,_,h=>by simp only [R] at*;rw [h,hj k (by simp [owns])]
 | .junk,_,_,_,_=>by simp only [R]
theorem RL.zC {β':Nat→Loc}{n:Nat}:∀(l:List LV) (ys:List Value),(∀j,j∈ownsL l→β' j=β j)→dP n l→RL β Z w l ys→RL β' Z w l ys
 | [],_,_,_,h=>by simpa only [RL] using h
 |x::xs,ys,hj,hk,h=>by
  simp only [RL,ownsL,List.mem_append,dP] at*
  obtain ⟨y,zs,h1,h2,h3⟩:=h
  exact ⟨y,zs,h1,R.zC x y (fun j h=>hj j (.inl h)) hk.1 h2,RL.zC xs zs (fun j h=>hj j (.inr h)) hk.2 h3⟩
end
mutual
theorem okV_owns {n:Nat}:∀(x:LV),okV n x→∀j,j∈owns x→j<n
 | .v _,_,j,h=>by simp [owns] at h
 | .bl _,_,j,h=>by simp [owns] at h
 | .ki _ _,_,j,h=>by simp [owns] at h
 | .own k _,hk,j,h=>by simp [owns] at h;subst h;exact hk
 | .agg l,hk,j,h=>by simp only [owns,okV] at*;exact okL_owns l hk j h
 | .jg l,hk,j,h=>by simp only [owns,okV] at*;exact okL_owns l hk j h
 | .fn _ l,hk,j,h=>by simp only [owns,okV] at*;exact okL_owns l hk j h
 | .xq _ _,_,j,h=>by simp [owns] at h
 | .xl _ _,_,j,h=>by simp [owns] at h
 | .os k _ _ _,hk,j,h=>by simp [owns] at h;subst h;exact hk
 | .op k _ _ _,hk,j,h=>by simp [owns] at h;subst h;exact hk
 | .om k,hk,j,h=>by simp [owns] at h;subst h;exact hk
 | .mp _ _ l,hk,j,h=>by simp only [owns,okV] at*;exact okL_owns l hk j h
 | .oc k _ _ _ _,hk,j,h=>by simp [owns] at h;subst h;exact hk
 | .vK k,hk,j,h=>by simp [owns] at h;subst h;exact hk
 | .junk,_,j,h=>by simp [owns] at h
theorem okL_owns {n:Nat}:∀(l:List LV),dP n l→∀j,j∈ownsL l→j<n
 | [],_,j,h=>by simp [ownsL] at h
 |x::xs,hk,j,h=>by
  simp only [ownsL,List.mem_append,dP] at*
  rcases h with h|h
  ·exact okV_owns x hk.1 j h
  ·exact okL_owns xs hk.2 j h
end
mutual
theorem okV_lower {n m:Nat}:∀(x:LV),okV n x→(∀j,j∈owns x→j<m)→okV m x
 | .v _,_,_=>trivial
 | .bl _,_,_=>trivial
 | .ki _ _,_,_=>trivial
 | .own k _,_,h=>h k (by simp [owns])
 | .agg l,hk,h=>by simp only [owns,okV] at*;exact okL_lower l hk h
 | .jg l,hk,h=>by simp only [owns,okV] at*;exact okL_lower l hk h
 | .fn _ l,hk,h=>by simp only [owns,okV] at*;exact okL_lower l hk h
 | .xq _ _,hk,_=>by simpa only [okV] using hk
 | .xl _ _,_,_=>trivial
 | .os k _ _ _,_,h=>h k (by simp [owns])
 | .op k _ _ _,_,h=>h k (by simp [owns])
 | .om k,_,h=>h k (by simp [owns])
 | .mp _ _ l,hk,h=>by simp only [owns,okV] at*;exact okL_lower l hk h
 | .oc k _ _ _ _,_,h=>h k (by simp [owns])
 | .vK k,_,h=>h k (by simp [owns])
 | .junk,_,_=>trivial
theorem okL_lower {n m:Nat}:∀(l:List LV),dP n l→(∀j,j∈ownsL l→j<m)→dP m l
 | [],_,_=>trivial
 |x::xs,hk,h=>by
  simp only [ownsL,List.mem_append,dP] at*
  exact ⟨okV_lower x hk.1 (fun j hj=>h j (.inl hj)),okL_lower xs hk.2 (fun j hj=>h j (.inr hj))⟩
end
theorem agV {n:Nat}{b:aS}(h:okB n b):∀j,j∈b.owns→j<n:=fun j hj=>by
 unfold aS.owns at hj
 rcases List.mem_append.1 hj with hj|hj
 ·exact okL_owns _ h.1 j hj
 ·have h2:=h.2
  split at hj
  ·rename_i hk;rw [hk] at h2;exact okL_owns _ h2 j hj
  ·cases hj
theorem fP.zC {β':Nat→Loc}{n k k':Nat}{b:aS}(hk:β' k'=β k) (hj:∀j,j∈b.owns→β' j=β j) (hok:okB n b) (h:fP β Z w k b):fP β' Z w k' b:=by
 have hc:∀j,j∈ownsL b.c→β' j=β j:=fun j h=>hj j (List.mem_append.2 (.inl h))
 unfold fP at*
 rw [hk]
 cases hbk:b.k with
 |cl=>
  simp only [hbk] at h⊢
  obtain ⟨cs,h1,h2⟩:=h
  exact ⟨cs,h1,RL.zC _ _ hc hok.1 h2⟩
 |vec e l=>simp only [hbk] at h⊢;exact h
 |mp kd ks vs=>
  simp only [hbk] at h⊢
  obtain ⟨es,clock,h1,h2,h3⟩:=h
  have ho:=hok.2
  rw [hbk] at ho
  exact ⟨es,clock,h1,h2,RL.zC _ _ (fun j h=>hj j (by unfold aS.owns;rw [hbk];exact List.mem_append.2 (.inr h))) ho h3⟩
 |lG ps asg body st=>
  simp only [hbk] at h⊢
  obtain ⟨r,h1,h2,h3,h4,h5,h6⟩:=h
  exact ⟨r,h1,h2,h3,h4,h5,RL.zC _ _ hc hok.1 h6⟩
 |st e l=>simp only [hbk] at h⊢;exact h
 |dead=>trivial
def Dw (β:Nat→Loc) (k m:Nat):Nat→Loc:=fun j=>if j=k then β m else β j
theorem qy {k m:Nat}:Dw β k m k=β m:=by simp [Dw]
theorem jP {k m j:Nat}(h:j≠k):Dw β k m j=β j:=by simp [Dw,h]
theorem RW.move {k:Nat}{nb db:aS}(hW:RW G w0 Z0 Z β (H++[nb]) w) (hk:H[k]? =some db) (hp:nb.p=false)
  (hB:∀(j:Nat) (b:aS),H[j]? =some b→okB H.length b∧k∉b.owns) (hn:okB H.length nb∧k∉nb.owns) (hg:∀p,p∈Z0.gh→okV H.length p.1∧k∉owns p.1):
  RW G w0 Z0 Z (Dw β k H.length) (H.set k nb) w:=by
 have hkl:k<H.length:=(List.getElem?_eq_some_iff.1 hk).1
 have at_:∀(j:Nat) (b:aS),(H.set k nb)[j]? =some b→(j=k∧b=nb)∨(j≠k∧H[j]? =some b):=fun j b h=>by
  rw [List.getElem?_set] at h
  split at h
  ·rename_i e
   simp only [Option.some.injEq] at h
   exact .inl ⟨e.symm,h.symm⟩
  ·rename_i e;exact .inr ⟨fun x=>e x.symm,h⟩
 have last:(H++[nb])[H.length]? =some nb:=by simp
 have old:∀(j:Nat) (b:aS),H[j]? =some b→(H++[nb])[j]? =some b:=fun j b h=>by rw [List.getElem?_append_left (List.getElem?_eq_some_iff.1 h).1];exact h
 have lt:∀(j:Nat) (b:aS),H[j]? =some b→j<H.length:=fun j b h=>(List.getElem?_eq_some_iff.1 h).1
 have lk:live (Dw β k H.length) k nb=live β H.length nb:=by unfold live;rw [qy]
 have lj:∀j b,j≠k→live (Dw β k H.length) j b=live β j b:=fun j b h=>kQ (jP h)
 refine ⟨hW.below,hW.mJ,hW.tq,fun j b hj hl hq=>?_,fun j b hj hl hq=>?_,fun j b hj hl=>?_,fun i j bi bj hi hj li lj' pi e=>?_,fun j b hj=>?_,hW.jh,fun p hp=>?_,hW.rQ⟩
 ·rcases at_ j b hj with ⟨rfl,rfl⟩ |⟨h1,h2⟩
  ·rw [qy];rw [lk] at hl;exact hW.lu _ _ last hl hq
  ·rw [jP h1];rw [lj j b h1] at hl;exact hW.lu j b (old j b h2) hl hq
 ·rcases at_ j b hj with ⟨rfl,rfl⟩ |⟨h1,h2⟩
  ·rw [hp] at hq;cases hq
  ·rw [jP h1];rw [lj j b h1] at hl;exact hW.vV j b (old j b h2) hl hq
 ·rcases at_ j b hj with ⟨rfl,rfl⟩ |⟨h1,h2⟩
  ·rw [qy];rw [lk] at hl;exact hW.low _ _ last hl
  ·rw [jP h1];rw [lj j b h1] at hl;exact hW.low j b (old j b h2) hl
 ·rcases at_ i bi hi with ⟨rfl,rfl⟩ |⟨h1,h2⟩
  ·rcases at_ j bj hj with ⟨rfl,rfl⟩ |⟨g1,g2⟩
   ·rfl
   ·rw [lk] at li;rw [lj j bj g1] at lj';rw [qy,jP g1] at e
    have:=hW.inj _ j _ bj last (old j bj g2) li lj' pi e
    have:=lt j bj g2;omega
  ·rcases at_ j bj hj with ⟨rfl,rfl⟩ |⟨g1,g2⟩
   ·rw [lj i bi h1] at li;rw [lk] at lj';rw [jP h1,qy] at e
    have:=hW.inj i _ bi _ (old i bi h2) last li lj' pi e
    have:=lt i bi h2;omega
   ·rw [lj i bi h1] at li;rw [lj j bj g1] at lj';rw [jP h1,jP g1] at e
    exact hW.inj i j bi bj (old i bi h2) (old j bj g2) li lj' pi e
 ·rw [List.length_set]
  rcases at_ j b hj with ⟨rfl,rfl⟩ |⟨h1,h2⟩
  ·exact ⟨fP.zC qy (fun i hi=>jP (fun e=>hn.2 (e▸hi))) hn.1 (hW.blk _ _ last).1,hn.1⟩
  ·obtain ⟨q1,q2⟩:=hB j b h2
   exact ⟨fP.zC (jP h1) (fun i hi=>jP (fun e=>q2 (e▸hi))) q1 (hW.blk j b (old j b h2)).1,q1⟩
 ·obtain ⟨q1,q2⟩:=hg p hp
  rw [List.length_set]
  exact ⟨R.zC _ _ (fun j hj=>jP (fun e=>q2 (e▸hj))) q1 (hW.gh p hp).1,q1⟩
theorem Hq:∀ {l:List LV}{x:LV}{j:Nat},x∈l→j∈owns x→j∈ownsL l
 |y::ys,x,j,hx,hj=>by
  simp only [ownsL,List.mem_append]
  rcases List.mem_cons.1 hx with rfl|h
  ·exact .inl hj
  ·exact .inr (Hq h hj)
theorem wQ:∀ {l:List LV}{j:Nat},j∈ownsL l→∃x,x∈l∧j∈owns x
 |x::xs,j,h=>by
  simp only [ownsL,List.mem_append] at h
  rcases h with h|h
  ·exact ⟨x,by simp,h⟩
  ·obtain ⟨y,h1,h2⟩:=wQ h;exact ⟨y,by simp [h1],h2⟩
 | [],j,h=>by simp [ownsL] at h
theorem kC {x:Operand}{j:Nat}(h:j∈owns (aK G F x)):j∈ownsL F:=by
 cases x with
 |tmp t=>
  simp only [aK] at h
  cases ht:F[t]? with
  |none=>simp [List.getD,ht,owns] at h
  |some y=>simp [List.getD,ht] at h;exact Hq (List.mem_of_getElem? ht) h
 |const v=>simp only [aK] at h;split at h<;>simp [owns] at h
 |global g=>simp only [aK] at h;split at h<;>simp [owns] at h
 |func f=>simp [aK,owns,ownsL] at h
theorem wR:∀(l:List Value),ownsL (l.map .v)=[]
 | []=>rfl
 |x::xs=>by simp [ownsL,owns,wR xs]
theorem sD {x:LV}{cs:List LV}(h:dQ x=some cs):∀j,j∈ownsL cs→j∈owns x:=fun j hj=>by
 unfold dQ at h
 split at h
 ·split at h
  ·simp only [Option.some.injEq] at h;subst h;rw [wR] at hj;cases hj
  ·cases h
 ·split at h
  ·simp only [Option.some.injEq] at h;subst h;simpa only [owns] using hj
  ·cases h
 ·cases h
 ·cases h
 ·simp only [Option.some.injEq] at h;subst h;simpa [ownsL] using hj
theorem Dh {d:Option Tmp}{x:LV}{j:Nat}(h:j∈ownsL (dL F d x)):j∈ownsL F∨j∈owns x:=by
 cases d with
 |none=>exact .inl h
 |some t=>
  obtain ⟨y,h1,h2⟩:=wQ h
  simp only [dL] at h1
  rcases List.mem_or_eq_of_mem_set h1 with e|e
  ·exact .inl (Hq e h2)
  ·subst e;exact .inr h2
theorem UE {k:Nat}{o:Oper}{lv:LV}{H1:List aS}(h:(DZ P G F H k o).all (fun q=>q=(lv,H1))):(∃cs t,lv=.own k 0∧H1=H.set k ⟨cs,t,.cl,false⟩∧(kP P G Γ F H o).all (fun q=>q=(.own H.length 0,H++[⟨cs,t,.cl,false⟩]))∧∀j,j∈ownsL cs→j∈ownsL F)∨
  ∃(m n:Nat) (e:TypeId) (ty:Ty) (l:List ty.D),lv=.os k m 0 n∧H1=H.set k ⟨[],e,.vec ty l,false⟩∧(kP P G Γ F H o).all (fun q=>q=(.os H.length m 0 n,H++[⟨[],e,.vec ty l,false⟩])):=by
 unfold DZ at h
 split at h
 ·rename_i t ho
  split at h
  ·rename_i z hz
   split at h
   ·rename_i cs hcs
    simp only [T.all,Prod.mk.injEq] at h
    refine .inl ⟨cs,t,h.1.symm,h.2.symm,?_,fun j hj=>?_⟩
    ·unfold kP;simp only [ho,hz,hcs,T.all]
    ·have:=sD hcs j hj;simp [owns] at this
   ·cases h
  ·cases h
 ·rename_i t x ho
  split at h
  ·rename_i cs hcs
   simp only [T.all,Prod.mk.injEq] at h
   refine .inl ⟨cs,t,h.1.symm,h.2.symm,?_,fun j hj=>kC (sD hcs j hj)⟩
   unfold kP;simp only [ho,hcs,T.all]
  ·cases h
 ·rename_i t n c ho
  split at h
  ·rename_i e ty m by_ n' c' he hn hc
   split at h
   ·rename_i z hz
    split at h
    ·rename_i d hd
     split at h
     ·rename_i hsz
      simp only [T.all,Prod.mk.injEq] at h
      obtain ⟨h0,h1,h2⟩:=h
      refine .inr ⟨m,n'.toNat,e,ty,List.replicate n'.toNat d,h1.symm,h2.symm,?_⟩
      unfold kP
      simp only [ho,Lm,he,hn,hc,hz,hd,hsz,if_true,T.all]
      exact ⟨h0,trivial⟩
     ·cases h
    ·cases h
   ·cases h
  ·cases h
 ·cases h
structure Y5 (n0:Nat) (done:Nat→Prop) (R:List Nat) (g:Gh):Prop where
 f:∀j,j∈ownsL g.F→j<n0∨∃i,done i∧j=n0+i
 h:∀(k:Nat) (b:aS),g.H[k]? =some b→∀j,j∈b.owns→j<n0∨∃i,done i∧j=n0+i
 dead:∀i,i∈R→¬done i∧∃b,g.H[n0+i]? =some b
theorem abX (hΓ:∀g S,Γ g=some S→Valid P G g S) {tr:List Nat}{g:Gh}{o:Oper}{lv:LV}{H1:List aS}{w':World}{done:Nat→Prop}{R':List Nat}{i:Nat}(hgh:∀p,p∈Z0.gh→okV H.length p.1) (hI:Y5 H.length done R' g) (hi:i∈R')
  (hst:dR G g.F tr H.length o=true) {nb:aS} {lv0:LV} (hop:(kP P G Γ g.F g.H o).all (fun q=>q=(lv0,g.H++[nb]))) (hpn:nb.p=false) (hcs:∀j,j∈nb.owns→j∈ownsL g.F) (hlow:∀n m,okB n nb→(∀j,j∈nb.owns→j<m)→okB m nb)
  (hlv:∀β' Z' w'' v,R β' Z' w'' lv0 v→R (Dw β' (H.length+i) g.H.length) Z' w'' lv v) (hlo:∀n,H.length+i<n→okV n lv) (hH1:H1=g.H.set (H.length+i) nb) (hc:nM ds G w0 Z0 tr β H wr g w'):
  dU P (fun v w''=>∃g':Gh,nM ds G w0 Z0 tr β H wr g' w''∧g'.F=dL g.F o.dst lv∧g'.H=H1∧g'.a=g.a.put o.dst v) ((execOp g.a.eval o).run P w'):=by
 subst hH1
 refine gB (fun v w'' ⟨Z',β',e1,e2,e3,e4,e5,e6,e7,e8⟩=>?_) (yj hΓ hc.rw hc.rf hop)
 obtain ⟨hnd,db,hdb⟩:=hI.dead i hi
 have fresh:∀j,(j<H.length∨∃i',done i'∧j=H.length+i')→j≠H.length+i:=fun j hj e=>by
  rcases hj with hj|⟨i',hd,e'⟩
  ·omega
  ·have:i'=i:=by omega
   subst this;exact hnd hd
 have hkg:H.length+i<g.H.length:=(List.getElem?_eq_some_iff.1 hdb).1
 have hsz:=hc.near.size
 have hcl:∀j,j∈nb.owns→j<g.H.length:=fun j hj=>by
  obtain ⟨x,q1,q2⟩:=wQ (hcs j hj)
  obtain ⟨t',q3⟩:=List.getElem?_of_mem q1
  exact okV_owns x (hc.rf.get t' x q3).2 j q2
 have okcs:okB g.H.length nb:=hlow _ _ (e1.blk g.H.length nb (by simp)).2 hcl
 have hMv:=e1.move (k:=H.length+i) hdb hpn (fun j b hj=>⟨(hc.rw.blk j b hj).2,fun hm=>fresh _ (hI.h j b hj _ hm) rfl⟩) ⟨okcs,fun hm=>fresh _ (hI.f _ (hcs _ hm)) rfl⟩ (fun p hp=>⟨okV.mono hc.len _ (hgh p hp),fun hm=>by have:=okV_owns _ (hgh p hp) _ hm;omega⟩)
 have hF2:RF ds (Dw β' (H.length+i) g.H.length) Z' w'' (g.H.set (H.length+i) nb).length g.F g.a:=by
  rw [List.length_set]
  refine ⟨hc.rf.size,fun t' x hx=>?_,e2.defers⟩
  have q:=hc.rf.get t' x hx
  exact ⟨R.zC x _ (fun j hj=>jP (fresh j (hI.f j (Hq (List.mem_of_getElem? hx) hj)))) q.2 (e2.get t' x hx).1,q.2⟩
 refine ⟨⟨Z',Dw β' (H.length+i) g.H.length,g.H.set (H.length+i) nb,dL g.F o.dst lv,g.a.put o.dst v⟩,?_,rfl,rfl,rfl⟩
 refine ⟨hMv,hF2.put (hlv _ _ _ _ e3) (hlo _ (by simp only [List.length_set];exact hkg)) o.dst,⟨e8.os.trans hc.near.os,e8.tape.trans hc.near.tape,e8.output.trans hc.near.output,Nat.le_trans hsz e8.size,fun k hk hn=>?_⟩,by simp only [List.length_set];exact hc.len,fun k hk=>?_,fun k h3 h4=>?_,fun k b hb=>?_⟩
 ·rw [e8.block k (by omega) fun hm=>?_]
  ·exact hc.near.block k hk hn
  ·rcases hc.touch hst hm with h|h
   ·omega
   ·exact hn h
 ·show Dw β' (H.length+i) g.H.length k=β k
  rw [jP (by omega),e6 k (Nat.lt_of_lt_of_le hk hc.len)];exact hc.old k hk
 ·show wr.heap.size≤(Dw β' (H.length+i) g.H.length k).b∨(Dw β' (H.length+i) g.H.length k).b∈Aw β H tr
  simp only [List.length_set] at h4
  by_cases hkk:k=H.length+i
  ·subst hkk
   rw [qy]
   rcases e7 g.H.length (Nat.le_refl _) (by simp) with h|h
   ·exact .inl (by omega)
   ·exact hc.touch hst h
  ·rw [jP hkk,e6 k h4];exact hc.new k h3 h4
 ·have hkl:k<H.length:=(List.getElem?_eq_some_iff.1 hb).1
  obtain ⟨b',q1,q2⟩:=hc.QA k b hb
  exact ⟨b',by simp only;rw [List.getElem?_set_ne (by omega)];exact q1,q2⟩
theorem avs (hΓ:∀g S,Γ g=some S→Valid P G g S) {tr:List Nat}{g:Gh}{o:Oper}{lv:LV}{H1:List aS}{w':World}{done:Nat→Prop}{R':List Nat}{i:Nat}(hgh:∀p,p∈Z0.gh→okV H.length p.1) (hI:Y5 H.length done R' g) (hi:i∈R')
  (hst:dR G g.F tr H.length o=true) (h1:(DZ P G g.F g.H (H.length+i) o).all (fun q=>q=(lv,H1))) (hc:nM ds G w0 Z0 tr β H wr g w'):
  dU P (fun v w''=>∃g':Gh,nM ds G w0 Z0 tr β H wr g' w''∧g'.F=dL g.F o.dst lv∧g'.H=H1∧g'.a=g.a.put o.dst v) ((execOp g.a.eval o).run P w'):=by
 rcases UE (Γ:=Γ) h1 with ⟨cs,t,rfl,hH1,hop,hcs⟩ |⟨m,n,e,ty,l,rfl,hH1,hop⟩
 ·refine abX hΓ hgh hI hi hst hop rfl (fun j hj=>?_) (fun n m h1 h2=>⟨okL_lower cs h1.1 (fun j hj=>h2 j ?_),trivial⟩) (fun β' Z' w'' v hr=>by simp only [R] at hr⊢;rw [qy];exact hr) (fun n hn=>hn) hH1 hc
  ·unfold aS.owns at hj
   simp only [List.append_nil] at hj
   exact hcs j hj
  ·unfold aS.owns
   simp only [List.append_nil]
   exact hj
 ·refine abX hΓ hgh hI hi hst hop rfl (fun j hj=>?_) (fun n m h1 h2=>⟨trivial,trivial⟩) (fun β' Z' w'' v hr=>by simp only [R] at hr⊢;rw [qy];exact hr) (fun n hn=>hn) hH1 hc
  unfold aS.owns at hj
  simp [ownsL] at hj
theorem Yp {ops:Array Oper}{o:Oper}{d:Option Tmp}{y:LV}{k:Nat}(ha:vY o=true) (h:∀t,d=some t→t∉o.looksAt ops):DZ P G (dL F d y) H k o=DZ P G F H k o:=by
 have hl:=looks h
 unfold vY at ha
 split at ha
 ·rename_i t ho
  unfold DZ
  simp only [ho]
 ·rename_i t x ho
  unfold DZ
  simp only [ho]
  rw [dH (hl x (by rw [ho];simp [Op.operands]))]
 ·rename_i t n c ho
  unfold DZ
  simp only [ho]
  rw [dH (hl n (by rw [ho];simp [Op.operands])),dH (hl c (by rw [ho];simp [Op.operands]))]
 ·cases ha
theorem ai2 {o:Oper}{k:Nat}(ha:vY o=true):∃(p:Prop) (lv:LV) (nb:aS),∀(H:List aS) (K:LV×List aS→Prop),(DZ P G F H k o).all K↔(p∧K (lv,H.set k nb)):=by
 unfold vY at ha
 split at ha
 ·rename_i t ho
  unfold DZ
  simp only [ho]
  split
  ·split
   ·rename_i cs _
    exact ⟨True,.own k 0,⟨cs,t,.cl,false⟩,fun H K=>by simp only [T.all,true_and]⟩
   ·exact ⟨False,.junk,kD,fun H K=>by simp [T.all]⟩
  ·exact ⟨False,.junk,kD,fun H K=>by simp [T.all]⟩
 ·rename_i t x ho
  unfold DZ
  simp only [ho]
  split
  ·rename_i cs _
   exact ⟨True,.own k 0,⟨cs,t,.cl,false⟩,fun H K=>by simp only [T.all,true_and]⟩
  ·exact ⟨False,.junk,kD,fun H K=>by simp [T.all]⟩
 ·rename_i t n c ho
  unfold DZ
  simp only [ho]
  split
  ·split
   ·split
    ·split
     ·exact ⟨_,_,_,fun H K=>by simp only [T.all];exact Iff.rfl⟩
     ·exact ⟨False,.junk,kD,fun H K=>by simp [T.all]⟩
    ·exact ⟨False,.junk,kD,fun H K=>by simp [T.all]⟩
   ·exact ⟨False,.junk,kD,fun H K=>by simp [T.all]⟩
  ·exact ⟨False,.junk,kD,fun H K=>by simp [T.all]⟩
 ·cases ha
theorem Xc {o:Oper}(hm:PD o=true):vY o=false∧ahA o=true∧∀G tr n0 (F:List LV),dR G F tr n0 o=true:=by
 unfold PD at hm
 split at hm
 ·rename_i x ho
  simp [vY,ahA,dR,zO,ho]
 ·rename_i x ho
  simp [vY,ahA,dR,zO,ho]
 ·cases hm
theorem RZ {ops:Array Oper}{o:Oper}{d:Option Tmp}{y:LV}{n0 i:Nat}(ha:(vY o ||PD o)=true) (h:∀t,d=some t→t∉o.looksAt ops):spa P G Γ n0 i (dL F d y) H o=spa P G Γ n0 i F H o:=by
 rcases Bool.or_eq_true_iff.1 ha with ha|ha
 ·unfold spa
  rw [if_pos ha,if_pos ha,Yp ha h]
 ·obtain ⟨h1,h2,_⟩:=Xc ha
  have hl:=looks h
  unfold spa
  rw [h1,h2]
  unfold PD at ha
  split at ha
  ·rename_i x ho
   unfold kP
   simp only [ho]
   rw [dH (hl x (by rw [ho];simp [Op.operands]))]
   rfl
  ·rename_i x ho
   unfold kP
   simp only [ho]
   rw [dH (hl x (by rw [ho];simp [Op.operands]))]
   rfl
  ·cases ha
def putAt (k:Nat) (nb:Option aS) (H:List aS):List aS:=
 match nb with
 |some b=>H.set k b
 |none=>H
theorem V6 {i j:Nat}{a b:Option aS}{H:List aS}(h:i≠j):putAt i a (putAt j b H)=putAt j b (putAt i a H):=by
 cases a<;>cases b<;>simp only [putAt]
 exact List.set_comm _ _ (Ne.symm h)
theorem ZQ {o:Oper}{n0 i:Nat}(ha:(vY o ||PD o)=true):∃(p:Prop) (lv:LV) (nb:Option aS),∀(H:List aS) (K:LV×List aS→Prop),(spa P G Γ n0 i F H o).all K↔(p∧K (lv,putAt (n0+i) nb H)):=by
 rcases Bool.or_eq_true_iff.1 ha with ha|ha
 ·obtain ⟨p,lv,nb,h⟩:=ai2 (P:=P) (G:=G) (F:=F) (k:=n0+i) ha
  refine ⟨p,lv,some nb,fun H K=>?_⟩
  unfold spa
  rw [if_pos ha]
  exact h H K
 ·obtain ⟨h1,h2,_⟩:=Xc ha
  unfold PD at ha
  split at ha
  ·rename_i x ho
   refine ⟨True,aK G F x,none,fun H K=>?_⟩
   unfold spa kP
   rw [h1,h2]
   simp [ho,T.all,putAt]
  ·rename_i x ho
   refine ⟨True,aK G F x,none,fun H K=>?_⟩
   unfold spa kP
   rw [h1,h2]
   simp [ho,T.all,putAt]
  ·cases ha
theorem acg {o:Oper}{tr:List Nat}{n0:Nat}(ha:(vY o ||PD o)=true) (F:List LV):dR G F tr n0 o=true:=by
 rcases Bool.or_eq_true_iff.1 ha with ha|ha
 ·exact zl (.inl ha)
 ·exact (Xc ha).2.2 G tr n0 F
theorem agb {ops:Array Oper}{tr:List Nat}{n0:Nat}{i j:Nat}{is:List Nat}{K:List LV×List aS→Prop}(hc:abW ops i j=true) (h:(WE P G Γ ops tr n0 (j::i::is) F H).all K):(WE P G Γ ops tr n0 (i::j::is) F H).all K:=by
 unfold abW at hc
 split at hc
 ·rename_i x y hx hy
  simp only [Bool.and_eq_true,Bool.not_eq_true',beq_eq_false_iff_ne] at hc
  obtain ⟨⟨⟨⟨⟨hne,g1⟩,g2⟩,g3⟩,g4⟩,hap⟩:=hc
  obtain ⟨a1,a2,a3⟩:=Oper.apart_spec hap
  have sx:∀F:List LV,dR G F tr n0 x=true:=acg g3
  have sy:∀F:List LV,dR G F tr n0 y=true:=acg g4
  simp only [WE,hx,hy,g1,g2,sx,sy,Bool.and_self,if_true] at h⊢
  obtain ⟨px,lx,nx,ex⟩:=ZQ (P:=P) (G:=G) (Γ:=Γ) (F:=F) (n0:=n0) (i:=i) g3
  obtain ⟨py,ly,ny,ey⟩:=ZQ (P:=P) (G:=G) (Γ:=Γ) (F:=F) (n0:=n0) (i:=j) g4
  rw [T.all_bind,ey] at h
  obtain ⟨h1,h2⟩:=h
  rw [T.all_bind,RZ g3 a3,ex] at h2
  obtain ⟨h3,h4⟩:=h2
  rw [T.all_bind,ex]
  refine ⟨h3,?_⟩
  rw [T.all_bind,RZ g4 a1,ey]
  refine ⟨h1,?_⟩
  simp only at h4⊢
  rw [jX a2,V6 (show n0+j≠n0+i by omega)]
  exact h4
 ·cases hc
theorem agc {ops:Array Oper}{tr:List Nat}{n0:Nat}{j:Nat}{R R':List Nat}{K:List LV×List aS→Prop}(hh:∀(F:List LV) (H:List aS),(WE P G Γ ops tr n0 R F H).all K→(WE P G Γ ops tr n0 R' F H).all K) (h:(WE P G Γ ops tr n0 (j::R) F H).all K):(WE P G Γ ops tr n0 (j::R') F H).all K:=by
 simp only [WE] at h⊢
 split at h
 ·split at h
  ·rename_i hg
   rw [if_pos hg]
   rw [T.all_bind] at h⊢
   exact T.bD (fun q hq=>hh _ _ hq) h
  ·cases h
 ·cases h
theorem KY {ops:Array Oper}{tr:List Nat}{n0:Nat}{i:Nat}{K:List LV×List aS→Prop}:∀(R:List Nat) (F:List LV) (H:List aS),i∈R→(sZ i R).all (fun j=>abW ops i j)=true→(WE P G Γ ops tr n0 R F H).all K→(WE P G Γ ops tr n0 (i::R.erase i) F H).all K
 | [],_,_,hi,_,_=>by cases hi
 | j::R,F,H,hi,hb,h=>by
  by_cases hj:j=i
  ·subst hj
   simpa using h
  ·have hi':i∈R:=by
    rcases List.mem_cons.1 hi with e|e
    ·exact absurd e.symm hj
    ·exact e
   simp only [sZ,if_neg hj,List.all_cons,Bool.and_eq_true] at hb
   rw [List.erase_cons_tail (by simpa using hj)]
   exact agb hb.1 (agc (fun F H h=>KY R F H hi' hb.2 h) h)
theorem Ap {i:Nat}:∀ {R:List Nat},sQ R=true→∀i'∈R.erase i,i'≠i
 | [],_,_,h=>by simp at h
 | k::R,hn,i',h=>by
  simp only [sQ,Bool.and_eq_true,Bool.not_eq_true'] at hn
  by_cases hk:k=i
  ·subst hk
   simp only [List.erase_cons_head] at h
   rintro rfl
   have:i'∉R:=by simpa using hn.1
   exact this h
  ·rw [List.erase_cons_tail (by simpa using hk)] at h
   rcases List.mem_cons.1 h with rfl|h
   ·exact hk
   ·exact Ap hn.2 i' h
theorem H9 {i:Nat}:∀ {R:List Nat},sQ R=true→sQ (R.erase i)=true
 | [],_=>by simp [sQ]
 | k::R,hn=>by
  simp only [sQ,Bool.and_eq_true,Bool.not_eq_true'] at hn
  by_cases hk:k=i
  ·subst hk;simpa using hn.2
  ·rw [List.erase_cons_tail (by simpa using hk)]
   simp only [sQ,Bool.and_eq_true,Bool.not_eq_true']
   refine ⟨?_,H9 hn.2⟩
   have:k∉R:=by simpa using hn.1
   have:k∉R.erase i:=fun h=>this (List.mem_of_mem_erase h)
   simpa using this
theorem Ee {l cs:List LV}{off:Nat}{j:Nat}(h:j∈ownsL (setAt l off cs)):j∈ownsL l∨j∈ownsL cs:=by
 obtain ⟨x,h1,h2⟩:=wQ h
 unfold setAt at h1
 rcases List.mem_append.1 h1 with h1|h1
 ·rcases List.mem_append.1 h1 with h1|h1
  ·exact .inl (Hq (List.mem_of_mem_take h1) h2)
  ·exact .inr (Hq h1 h2)
 ·exact .inl (Hq (List.mem_of_mem_drop h1) h2)
theorem Rq {t:TypeId}{x y:LV}{H1:List aS}(h:(zh P H t x y).all (fun q=>q=H1)):∃(k:Nat) (b nb:aS),H[k]? =some b∧H1=H.set k nb∧∀j,j∈nb.owns→j∈b.owns∨j∈owns y:=by
 unfold zh at h
 split at h
 ·rename_i n cs hn hcs
  split at h
  ·rename_i k off
   split at h
   ·rename_i b hb
    split at h
    ·rename_i hc
     simp only [T.all] at h
     refine ⟨k,b,_,hb,h.symm,fun j hj=>?_⟩
     have hcl:b.k=.cl:=by
      have:=hc.1
      unfold aS.pF at this
      split at this
      ·assumption
      ·cases this
     unfold aS.owns at hj⊢
     simp only [hcl,List.append_nil] at hj⊢
     rcases Ee hj with h|h
     ·exact .inl h
     ·exact .inr (sD hcs j h)
    ·cases h
   ·cases h
  ·rename_i k es i j
   split at h
   ·rename_i bt e l hb
    split at h
    ·simp only [T.all] at h
     obtain ⟨_,h⟩:=h
     split at h
     ·simp only [T.all] at h
      refine ⟨k,_,_,hb,h.symm,fun j hj=>?_⟩
      unfold aS.owns at hj
      simp [ownsL] at hj
     ·cases h
    ·cases h
   ·cases h
  ·cases h
 ·cases h
theorem Lc {x:LV}:owns (norm x)=owns x:=by cases x<;>simp [norm,owns]
theorem Hr:∀(l:List LV),ownsL (l.map norm)=ownsL l
 | []=>rfl
 |x::xs=>by simp only [List.map_cons,ownsL,Lc,Hr xs]
theorem Xh {l:List LV}{j:Nat}(h:j∈owns (rV l)):j∈ownsL l:=by
 unfold rV at h
 split at h
 ·simp [owns] at h
 ·simp only [owns,Hr] at h;exact h
theorem I4 {place:Nat→Option (Nat×Nat)}:∀(parts:List (Nat×LV)) (cells cs:List LV),yU place cells parts=some cs→∀j,j∈ownsL cs→j∈ownsL cells∨∃q,q∈parts∧j∈owns q.2
 | [],cells,cs,h,j,hj=>by simp only [yU,Option.some.injEq] at h;subst h;exact .inl hj
 | (i,x)::rest,cells,cs,h,j,hj=>by
  simp only [yU] at h
  split at h
  ·rename_i off size c hp hc
   split at h
   ·rcases I4 rest _ cs h j hj with h1|⟨q,q1,q2⟩
    ·rcases Ee h1 with h2|h2
     ·exact .inl h2
     ·exact .inr ⟨(i,x),by simp,sD hc j h2⟩
    ·exact .inr ⟨q,by simp [q1],q2⟩
   ·cases h
  ·cases h
theorem Ue {t:TypeId}{parts:List (Nat×LV)}{lv:LV}(h:(DX P t parts).all (fun z=>z=lv)) (j:Nat) (hj:j∈owns lv):∃q,q∈parts∧j∈owns q.2:=by
 unfold DX at h
 split at h
 ·split at h
  ·rename_i z pf _ _ cs hcs
   simp only [T.all] at h
   have hj':j∈ownsL cs:=by
    rw [←h] at hj
    split at hj
    ·exact hj
    ·exact Xh hj
   rcases I4 parts _ cs hcs j hj' with h1|h1
   ·rw [wR] at h1;cases h1
   ·exact h1
  ·cases h
 ·cases h
theorem X5 {x:Operand}{j:Nat}(h:j∈owns (EH G F x)):j∈ownsL F:=by
 cases x with
 |const v=>simp only [EH,Lc] at h;exact kC h
 |tmp t=>exact kC (G:=G) (x:=.tmp t) h
 |global g=>exact kC (G:=G) (x:=.global g) h
 |func f=>exact kC (G:=G) (x:=.func f) h
theorem ahD {n0:Nat}{done:Nat→Prop}{R:List Nat}{g g':Gh}{o:Oper}{i:Nat}{lv:LV}{H1:List aS}(hI:Y5 n0 done R g) (hnd:∀i'∈R.erase i,i'≠i) (hs:(spa P G Γ n0 i g.F g.H o).all (fun q=>q=(lv,H1))) (eF:g'.F=dL g.F o.dst lv) (eH:g'.H=H1):Y5 n0 (fun i'=>done i'∨i'=i) (R.erase i) g':=by
 have up:∀j,(j<n0∨∃i',done i'∧j=n0+i')→j<n0∨∃i',(done i'∨i'=i)∧j=n0+i':=fun j h=>by
  rcases h with h|⟨i',h1,h2⟩
  ·exact .inl h
  ·exact .inr ⟨i',.inl h1,h2⟩
 unfold spa at hs
 split at hs
 ·have al:∀nb:aS,owns lv=[n0+i]→H1=g.H.set (n0+i) nb→(∀j,j∈nb.owns→j∈ownsL g.F)→Y5 n0 (fun i'=>done i'∨i'=i) (R.erase i) g':=fun nb ho hH1 hcs=>by
   subst hH1
   refine ⟨fun j hj=>?_,fun k b hb j hj=>?_,fun i' hi'=>?_⟩
   ·rw [eF] at hj
    rcases Dh hj with h|h
    ·exact up j (hI.f j h)
    ·rw [ho] at h;simp at h;subst h;exact .inr ⟨i,.inr rfl,rfl⟩
   ·rw [eH,List.getElem?_set] at hb
    split at hb
    ·split at hb
     ·simp only [Option.some.injEq] at hb
      subst hb
      exact up j (hI.f j (hcs j hj))
     ·cases hb
    ·exact up j (hI.h k b hb j hj)
   ·obtain ⟨h1,b,h2⟩:=hI.dead i' (List.mem_of_mem_erase hi')
    refine ⟨fun h=>h.elim h1 (hnd i' hi'),b,?_⟩
    rw [eH,List.getElem?_set_ne (by have:=hnd i' hi';omega)];exact h2
  rcases UE (Γ:=Γ) hs with ⟨cs,t,rfl,hH1,_,hcs⟩ |⟨m,n,e,ty,l,rfl,hH1,_⟩
  ·exact al _ rfl hH1 (fun j hj=>by
    unfold aS.owns at hj
    simp only [List.append_nil] at hj
    exact hcs j hj)
  ·exact al _ rfl hH1 (fun j hj=>by
    unfold aS.owns at hj
    simp [ownsL] at hj)
 ·split at hs
  ·rename_i hst
   have other:∀(x:LV),lv=x→H1=g.H→(∀j,j∈owns x→j∈ownsL g.F)→Y5 n0 (fun i'=>done i'∨i'=i) (R.erase i) g':=fun x e1 e2 e3=>by
    subst e1 e2
    refine ⟨fun j hj=>?_,fun k b hb j hj=>?_,fun i' hi'=>?_⟩
    ·rw [eF] at hj
     rcases Dh hj with h|h
     ·exact up j (hI.f j h)
     ·exact up j (hI.f j (e3 j h))
    ·rw [eH] at hb;exact up j (hI.h k b hb j hj)
    ·obtain ⟨h1,b,h2⟩:=hI.dead i' (List.mem_of_mem_erase hi')
     exact ⟨fun h=>h.elim h1 (hnd i' hi'),b,by rw [eH];exact h2⟩
   unfold ahA at hst
   split at hst
   ·rename_i t x y ho
    unfold kP at hs
    simp only [ho] at hs
    obtain ⟨H2,h1,h2⟩:=T.aU hs
    simp only [T.all,Prod.mk.injEq] at h2
    obtain ⟨rfl,rfl⟩:=h2
    obtain ⟨k,b,nb,q1,q2,q3⟩:=Rq h1
    subst q2
    refine ⟨fun j hj=>?_,fun k' b' hb j hj=>?_,fun i' hi'=>?_⟩
    ·rw [eF] at hj
     rcases Dh hj with h|h
     ·exact up j (hI.f j h)
     ·simp [owns] at h
    ·rw [eH,List.getElem?_set] at hb
     split at hb
     ·split at hb
      ·simp only [Option.some.injEq] at hb
       subst hb
       rcases q3 j hj with h|h
       ·exact up j (hI.h k b q1 j h)
       ·exact up j (hI.f j (kC h))
      ·cases hb
     ·exact up j (hI.h k' b' hb j hj)
    ·obtain ⟨h1,b0,h2⟩:=hI.dead i' (List.mem_of_mem_erase hi')
     refine ⟨fun h=>h.elim h1 (hnd i' hi'),?_⟩
     rw [eH]
     have hlt:=(List.getElem?_eq_some_iff.1 h2).1
     exact ⟨_,List.getElem?_eq_getElem (by rw [List.length_set];exact hlt)⟩
   ·rename_i x ho
    unfold kP at hs
    simp only [ho,T.all,Prod.mk.injEq] at hs
    exact other _ hs.1.symm hs.2.symm (fun j hj=>kC hj)
   ·rename_i x ho
    unfold kP at hs
    simp only [ho,T.all,Prod.mk.injEq] at hs
    exact other _ hs.1.symm hs.2.symm (fun j hj=>kC hj)
   ·rename_i t parts ho
    unfold kP at hs
    simp only [ho] at hs
    obtain ⟨y,h1,h2⟩:=T.aU hs
    simp only [T.all,Prod.mk.injEq] at h2
    refine other _ h2.1.symm h2.2.symm (fun j hj=>?_)
    obtain ⟨q,q1,q2⟩:=Ue h1 j hj
    obtain ⟨q0,_,rfl⟩:=List.mem_map.1 q1
    exact X5 q2
   ·cases hst
  ·cases hs
theorem LY (hΓ:∀g S,Γ g=some S→Valid P G g S) {ops:Array Oper}{tr:List Nat}{D:World→Prop}{sp:Nat→Bool}{Q:Act→Gh→Prop}{F':List LV}{H':List aS}(hgh:∀p,p∈Z0.gh→okV H.length p.1)
  (hQ:∀g:Gh,g.F=F'→g.H=H'→Q g.a g):∀(n:Nat) (R:List Nat) (listed:Array Bool) (g:Gh) (done:Nat→Prop),sQ R=true→Y5 H.length done R g→(∀i∈R,sp i=true)→agi ops n R listed=true→
   (WE P G Γ ops tr H.length R g.F g.H).all (fun q=>q=(F',H'))→ku P .any ops D (nM ds G w0 Z0 tr β H wr) sp Q n listed g.a g
 |0,R,listed,g,_,_,_,_,hB,h=>by
  simp only [agi,Bool.and_eq_true,List.isEmpty_iff] at hB
  obtain ⟨rfl,h2⟩:=hB
  simp only [WE,T.all,Prod.mk.injEq] at h
  exact ⟨h2,hQ g h.1 h.2⟩
 | n +1,R,listed,g,done,hnd,hI,hs,hB,h=>by
  simp only [agi,Bool.and_eq_true,List.all_eq_true,Bool.not_eq_true',List.isEmpty_eq_false_iff] at hB
  obtain ⟨hne,hall⟩:=hB
  refine ⟨fun h0=>absurd h0 hne,fun i hi=>?_⟩
  obtain ⟨⟨hR,hbef⟩,hrest⟩:=hall i hi
  have hiR:i∈R:=by simpa using hR
  have hf:=KY R g.F g.H hiR (by rw [List.all_eq_true];exact hbef) h
  simp only [WE] at hf
  split at hf
  ·rename_i o ho
   split at hf
   ·rename_i hgs
    simp only [Bool.and_eq_true,Option.isNone_iff_eq_none] at hgs
    obtain ⟨hgd,hst⟩:=hgs
    have hw:Region.wanted o (yielded ops g.a.tmps)=true:=by simp [Region.wanted,hgd]
    unfold DN
    simp only [ho,hw,if_true,hs i hiR]
    obtain ⟨⟨lv,H1⟩,h1,h2⟩:=T.aU hf
    have hne2:∀i'∈R.erase i,i'≠i:=Ap hnd
    intro w' hc
    have goal:dU P (fun v w''=>∃g':Gh,nM ds G w0 Z0 tr β H wr g' w''∧g'.F=dL g.F o.dst lv∧g'.H=H1∧g'.a=g.a.put o.dst v) ((execOp g.a.eval o).run P w'):=by
     unfold spa at h1
     split at h1
     ·exact avs hΓ hgh hI hiR hst h1 hc
     ·split at h1
      ·exact Bf hΓ hst h1 hc
      ·cases h1
    refine gB (fun v w'' ⟨g',e1,e2,e3,e4⟩=>⟨g',e1,?_⟩) goal
    rw [←e4]
    refine LY hΓ hgh hQ n (R.erase i) _ g' (fun i'=>done i'∨i'=i) (H9 hnd) (ahD hI hne2 h1 e2 e3) (fun j hj=>hs j (List.mem_of_mem_erase hj)) hrest ?_
    rw [e2,e3]
    exact h2
   ·cases hf
  ·cases hf
theorem RW.azm {βd:Nat→Loc}{m:Nat}(hW:RW G w0 Z0 Z β H w) (hd:∀k,k<H.length→βd k=β k):RW G w0 Z0 Z βd (H++List.replicate m kD) w:=by
 have old:∀(k:Nat) (b:aS),(H++List.replicate m kD)[k]? =some b→(k<H.length∧H[k]? =some b)∨b=kD:=fun k b hb=>by
  by_cases h0:k<H.length
  ·rw [List.getElem?_append_left h0] at hb;exact .inl ⟨h0,hb⟩
  ·rw [List.getElem?_append_right (by omega),List.getElem?_replicate] at hb
   split at hb
   ·simp only [Option.some.injEq] at hb;exact .inr hb.symm
   ·cases hb
 have nl:∀k,¬live βd k kD:=fun k h=>by simp [live,kD] at h
 refine ⟨hW.below,hW.mJ,hW.tq,fun k b hk hl hp=>?_,fun k b hk hl hp=>?_,fun k b hk hl=>?_,fun i j bi bj hi hj li lj pi e=>?_,fun k b hk=>?_,hW.jh,fun p hp=>⟨R.mono hd (fun _ h=>h) (fun _ _=>rfl) _ _ (hW.gh p hp).2 (hW.gh p hp).1,okV.mono (by simp) _ (hW.gh p hp).2⟩,hW.rQ⟩
 ·rcases old k b hk with ⟨h1,h2⟩ |rfl
  ·rw [hd k h1];rw [kQ (hd k h1)] at hl;exact hW.lu k b h2 hl hp
  ·exact absurd hl (nl k)
 ·rcases old k b hk with ⟨h1,h2⟩ |rfl
  ·rw [hd k h1];rw [kQ (hd k h1)] at hl;exact hW.vV k b h2 hl hp
  ·exact absurd hl (nl k)
 ·rcases old k b hk with ⟨h1,h2⟩ |rfl
  ·rw [hd k h1];rw [kQ (hd k h1)] at hl;exact hW.low k b h2 hl
  ·exact absurd hl (nl k)
 ·rcases old i bi hi with ⟨h1,h2⟩ |rfl
  ·rcases old j bj hj with ⟨g1,g2⟩ |rfl
   ·rw [kQ (hd i h1)] at li;rw [kQ (hd j g1)] at lj;rw [hd i h1,hd j g1] at e
    exact hW.inj i j bi bj h2 g2 li lj pi e
   ·exact absurd lj (nl j)
  ·exact absurd li (nl i)
 ·rcases old k b hk with ⟨h1,h2⟩ |rfl
  ·obtain ⟨g1,g2⟩:=hW.blk k b h2
   exact ⟨g1.keep hd (fun _ h=>h) (fun _ _=>rfl) (hd k h1) (fun _=>rfl) g2,g2.mono (by simp)⟩
  ·exact ⟨by simp [fP,kD],trivial,trivial⟩
theorem alT {o:Oper}{lv:LV}(h:(pux P G Γ F o).all (fun z=>z=lv)):(kP P G Γ F H o).all (fun q=>q=(lv,H))∧∀tr n0,dR G F tr n0 o=true:=by
 have bd:∀ {t:T LV},t.all (fun z=>z=lv)→(t.bind fun y=>(T.ok (y,H):T (LV×List aS))).all (fun q=>q=(lv,H)):=fun h=>by
  rw [T.all_bind]
  exact T.bD (fun z hz=>by simp only [T.all];rw [hz]) h
 have ok:∀ {o:Oper},zO G F o=[]→∀tr n0,dR G F tr n0 o=true:=fun hw tr n0=>by unfold dR;rw [hw];rfl
 unfold pux at h
 split at h
 ·rename_i x ho
  refine ⟨?_,ok (by simp [zO,ho])⟩
  unfold kP;simp only [ho];simp only [T.all] at h⊢;rw [h]
 ·rename_i x ho
  refine ⟨?_,ok (by simp [zO,ho])⟩
  unfold kP;simp only [ho];simp only [T.all] at h⊢;rw [h]
 ·rename_i c x y ho
  refine ⟨?_,ok (by simp [zO,ho])⟩
  unfold kP;simp only [ho];exact bd h
 ·rename_i t x ho
  refine ⟨?_,ok (by simp [zO,ho])⟩
  unfold kP;simp only [ho]
  split at h
  ·rename_i m f hx
   rw [hx]
   refine bd ?_
   unfold vO at h⊢
   exact h
  ·cases h
 ·rename_i s x i ho
  refine ⟨?_,ok (by simp [zO,ho])⟩
  unfold kP;simp only [ho];exact bd h
 ·rename_i t x i ho
  refine ⟨?_,ok (by simp [zO,ho])⟩
  unfold kP;simp only [ho];exact bd h
 ·rename_i t parts ho
  refine ⟨?_,ok (by simp [zO,ho])⟩
  unfold kP;simp only [ho];exact bd h
 ·rename_i ho
  exact ⟨O7 (by simp [sS,ho]) h,ok (by simp [zO,ho])⟩
 ·rename_i ho
  exact ⟨O7 (by simp [sS,ho]) h,ok (by simp [zO,ho])⟩
 ·rename_i ho
  refine ⟨?_,ok (by simp [zO,ho])⟩
  unfold kP;simp only [ho];exact bd h
 ·rename_i op _ _ _ _ ho
  refine ⟨?_,ok (by simp [zO,ho])⟩
  cases op<;>first|(cases h;done) |(unfold kP;simp only [ho];exact bd h)
 ·cases h
theorem KJ {ops:Array Oper}{o:Oper}{d:Option Tmp}{y:LV}(h:∀t,d=some t→t∉o.looksAt ops):aeG P G Γ ops (dL F d y) o=aeG P G Γ ops F o:=by
 unfold aeG
 rw [Hg h]
 split
 ·rfl
 ·rename_i j want hg
  split
  ·rename_i s hs
   have:(dL F d y).getD s .junk=F.getD s .junk:=by
    cases d with
    |none=>rfl
    | some t=>
     have hne:s≠t:=fun e=>h t rfl (by
      subst e
      unfold Oper.looksAt
      rw [hg]
      simp only [List.mem_append]
      right
      rw [hs];simp)
     simp only [dL,List.getD,List.getElem?_set_ne (Ne.symm hne)]
   rw [this]
  ·rfl
theorem af7 {ops:Array Oper}{i j:Nat}{is:List Nat}{K:List LV→Prop}(hc:abV ops i j=true) (h:(Oe P G Γ ops (j::i::is) F).all K):(Oe P G Γ ops (i::j::is) F).all K:=by
 unfold abV at hc
 split at hc
 ·rename_i x y hx hy
  obtain ⟨a1,a2,a3⟩:=Oper.apart_spec hc
  simp only [Oe,hx,hy] at h⊢
  rw [T.all_bind] at h⊢
  have h2:=T.bD (fun z hz=>by
   rw [T.all_bind,KJ a3] at hz
   exact hz) h
  refine T.bD (fun q hq=>?_) (T.swap h2)
  rw [T.all_bind,KJ a1]
  refine T.bD (fun z hz=>?_) hq
  rw [jX a2]
  exact hz
 ·cases hc
theorem af8 {ops:Array Oper}{j:Nat}{R R':List Nat}{K:List LV→Prop}(hh:∀(F:List LV),(Oe P G Γ ops R F).all K→(Oe P G Γ ops R' F).all K) (h:(Oe P G Γ ops (j::R) F).all K):(Oe P G Γ ops (j::R') F).all K:=by
 simp only [Oe] at h⊢
 split at h
 ·rw [T.all_bind] at h⊢
  exact T.bD (fun q hq=>hh _ hq) h
 ·cases h
theorem KU {ops:Array Oper}{i:Nat}{K:List LV→Prop}:∀(R:List Nat) (F:List LV),i∈R→(sZ i R).all (fun j=>abV ops i j)=true→(Oe P G Γ ops R F).all K→(Oe P G Γ ops (i::R.erase i) F).all K
 | [],_,hi,_,_=>by cases hi
 | j::R,F,hi,hb,h=>by
  by_cases hj:j=i
  ·subst hj
   simpa using h
  ·have hi':i∈R:=by
    rcases List.mem_cons.1 hi with e|e
    ·exact absurd e.symm hj
    ·exact e
   simp only [sZ,if_neg hj,List.all_cons,Bool.and_eq_true] at hb
   rw [List.erase_cons_tail (by simpa using hj)]
   exact af7 hb.1 (af8 (fun F h=>KU R F hi' hb.2 h) h)
theorem DJ (hΓ:∀g S,Γ g=some S→Valid P G g S) {ops:Array Oper} {tr:List Nat} {D:World→Prop} {sp:Nat→Bool} {Q:Act→World→Prop} {F':List LV} {H':List aS}
  (hQ:∀g:Gh,g.F=F'→g.H=H'→∀w',nM ds G w0 Z0 tr β H wr g w'→Q g.a w'):∀(n:Nat) (Rl:List Nat) (listed:Array Bool) (g:Gh),(∃w',nM ds G w0 Z0 tr β H wr g w')→g.H=H'→(∀i∈Rl,sp i=true)→agf ops n Rl listed=true→
   (Oe P G Γ ops Rl g.F).all (fun q=>q=F')→ku P .any ops D (nM ds G w0 Z0 tr β H wr) sp (fun a' g'=>∀w',nM ds G w0 Z0 tr β H wr g' w'→Q a' w') n listed g.a g
 |0,Rl,listed,g,_,hH,_,hB,h=>by
  simp only [agf,Bool.and_eq_true,List.isEmpty_iff] at hB
  obtain ⟨rfl,h2⟩:=hB
  simp only [Oe,T.all] at h
  exact ⟨h2,hQ g h hH⟩
 | n + 1,Rl,listed,g,hex,hH,hs,hB,h=>by
  simp only [agf,Bool.and_eq_true,List.all_eq_true,Bool.not_eq_true',List.isEmpty_eq_false_iff] at hB
  obtain ⟨hne,hall⟩:=hB
  refine ⟨fun h0=>absurd h0 hne,fun i hi=>?_⟩
  obtain ⟨⟨hR,hbef⟩,hrest⟩:=hall i hi
  have hiR:i∈Rl:=by simpa using hR
  have hf:=KU Rl g.F hiR (by rw [List.all_eq_true];exact hbef) h
  simp only [Oe] at hf
  split at hf
  ·rename_i o ho
   have hsub:∀j∈Rl.erase i,sp j=true:=fun j hj=>hs j (List.mem_of_mem_erase hj)
   have goOk:((pux P G Γ g.F o).bind (NS ops o)).all (fun y=>(Oe P G Γ ops (Rl.erase i) (dL g.F o.dst y)).all (fun q=>q=F'))→
     Jr P o g.a (nM ds G w0 Z0 tr β H wr) g (ku P .any ops D (nM ds G w0 Z0 tr β H wr) sp (fun a' g'=>∀w',nM ds G w0 Z0 tr β H wr g' w'→Q a' w') n (listed.setIfInBounds i true)):=fun h=>by
    rw [T.all_bind] at h
    obtain ⟨lv,h1,h2⟩:=T.pick h
    obtain ⟨hop,hst⟩:=alT (H:=g.H) h2
    intro w' hc
    refine gB (fun v w'' ⟨g',e1,e2,e3,e4⟩=>?_) (Bf hΓ (hst tr H.length) hop hc)
    have fin:∀(y:LV),(∀x,nM ds G w0 Z0 tr β H wr g' x→nM ds G w0 Z0 tr β H wr ⟨g'.Z,g'.β,g'.H,dL g.F o.dst y,g'.a⟩ x)→(Oe P G Γ ops (Rl.erase i) (dL g.F o.dst y)).all (fun q=>q=F')→∃g'',nM ds G w0 Z0 tr β H wr g'' w''∧ku P .any ops D (nM ds G w0 Z0 tr β H wr) sp (fun a' g'=>∀w',nM ds G w0 Z0 tr β H wr g' w'→Q a' w') n (listed.setIfInBounds i true) (g.a.put o.dst v) g'':=fun y hy hp=>by
     refine ⟨⟨g'.Z,g'.β,g'.H,dL g.F o.dst y,g'.a⟩,hy w'' e1,?_⟩
     rw [←e4]
     exact DJ hΓ hQ n (Rl.erase i) _ ⟨g'.Z,g'.β,g'.H,dL g.F o.dst y,g'.a⟩ ⟨w'',hy w'' e1⟩ (by rw [←hH];exact e3) hsub hrest hp
    have plain:(Oe P G Γ ops (Rl.erase i) (dL g.F o.dst lv)).all (fun q=>q=F')→∃g'',nM ds G w0 Z0 tr β H wr g'' w''∧ku P .any ops D (nM ds G w0 Z0 tr β H wr) sp (fun a' g'=>∀w',nM ds G w0 Z0 tr β H wr g' w'→Q a' w') n (listed.setIfInBounds i true) (g.a.put o.dst v) g'':=fun hp=>
     fin lv (fun x hx=>⟨hx.rw,by rw [←e2];exact hx.rf,hx.near,hx.len,hx.old,hx.new,hx.QA⟩) hp
    unfold NS at h1
    split at h1
    ·rename_i hgd
     split at h1
     ·rename_i b _
      unfold ayz at hgd
      split at hgd
      ·rename_i d hd
       have known:∀c,b=c→∀x,nM ds G w0 Z0 tr β H wr g' x→nM ds G w0 Z0 tr β H wr ⟨g'.Z,g'.β,g'.H,dL g.F o.dst (.bl c),g'.a⟩ x:=fun c e x hx=>by
        refine ⟨hx.rw,?_,hx.near,hx.len,hx.old,hx.new,hx.QA⟩
        have hrf:=hx.rf
        rw [e2,hd] at hrf
        simp only [dL] at hrf
        rw [hd]
        simp only [dL]
        have hk:∀y,(g.F.set d (.v (.bool b))).set d y=g.F.set d y:=fun y=>by simp
        rw [←hk]
        by_cases hlt:d<g.F.length
        ·have hs1:(g.F.set d (.v (.bool b)))[d]? =some (.v (.bool b)):=by simp [hlt]
         have hv:=(hrf.get d _ hs1).1
         simp only [R] at hv
         exact hrf.know (by simp only [R];rw [hv,e]) trivial
        ·have:∀y,(g.F.set d (.v (.bool b))).set d y=g.F.set d (.v (.bool b)):=fun y=>List.set_eq_of_length_le (by rw [List.length_set];exact Nat.le_of_not_lt hlt)
         rw [this];exact hrf
       simp only [T.all] at h1
       cases hb:b with
       |true=>exact fin _ (known true hb) (h1.1 hb)
       |false=>exact fin _ (known false hb) (h1.2 hb)
      ·cases hgd
     ·exact plain h1
    ·exact plain h1
   have passOk:(Oe P G Γ ops (Rl.erase i) (dL g.F o.dst (.v undef))).all (fun q=>q=F')→ku P .any ops D (nM ds G w0 Z0 tr β H wr) sp (fun a' g'=>∀w',nM ds G w0 Z0 tr β H wr g' w'→Q a' w') n (listed.setIfInBounds i true) (g.a.put o.dst undef) g:=fun h=>by
    have ps:∀w',nM ds G w0 Z0 tr β H wr g w'→nM ds G w0 Z0 tr β H wr ⟨g.Z,g.β,g.H,dL g.F o.dst (.v undef),g.a.put o.dst undef⟩ w':=fun w' hc=>⟨hc.rw,hc.rf.pass o.dst,hc.near,hc.len,hc.old,hc.new,hc.QA⟩
    refine lW (Q':=Q) (g1:=⟨g.Z,g.β,g.H,dL g.F o.dst (.v undef),g.a.put o.dst undef⟩) ps n _ _ ?_
    exact DJ hΓ hQ n (Rl.erase i) _ ⟨g.Z,g.β,g.H,dL g.F o.dst (.v undef),g.a.put o.dst undef⟩ (hex.imp fun w' hc=>ps w' hc) hH hsub hrest h
   obtain ⟨wx,hcx⟩:=hex
   have hF:=hcx.rf
   rw [T.all_bind] at hf
   unfold DN
   simp only [ho]
   unfold aeG at hf
   split at hf
   ·rename_i hg
    have hw:Region.wanted o (yielded ops g.a.tmps)=true:=by simp [Region.wanted,hg]
    rw [if_pos hw,if_pos (hs i hiR)]
    exact goOk hf
   ·rename_i j want hg
    split at hf
    ·rename_i d hd
     split at hf
     ·rename_i b hb
      obtain ⟨s1,s2⟩:=hF.slot hb (by simp)
      have hv:=(hF.get d _ s1).1
      simp only [R] at hv
      rw [hv] at s2
      rw [nY hg hd s2]
      split at hf
      ·rename_i e;subst e;simp only [beq_self_eq_true,if_true];rw [if_pos (hs i hiR)];exact goOk hf
      ·rename_i e;rw [if_neg (by simpa using e)];exact passOk hf
     ·rename_i vs hb
      obtain ⟨s1,s2⟩:=hF.slot hb (by simp)
      have hv:=(hF.get d _ s1).1
      simp only [R] at hv
      rw [hv] at s2
      rw [rF hg hd s2,if_neg (by simp)]
      exact passOk hf
     ·cases hf
    ·cases hf
  ·cases hf
theorem qj {K:List LV→Prop}{dl:List Deferred}:∀(ds:List Nat) (F:List LV),RF dl β Z w n F a→(Dc ds F).all K→∃F1,K F1∧RF dl β Z w n F1 a
 | [],F,hF,h=>⟨F,h,hF⟩
 | d::ds,F,hF,h=>by
  simp only [Dc] at h
  split at h
  ·rename_i g hx
   obtain ⟨s1,s2⟩:=hF.slot hx (by simp)
   have hv:=(hF.get d _ s1).1
   simp only [R] at hv
   simp only [T.all] at h
   cases hg:g with
   |true=>exact qj ds (F.set d (.bl true)) (hF.know (lv:=.bl true) (by simp only [R];rw [hv,hg]) trivial) (h.1 hg)
   |false=>exact qj ds (F.set d (.bl false)) (hF.know (lv:=.bl false) (by simp only [R];rw [hv,hg]) trivial) (h.2 hg)
  ·exact qj ds F hF h
theorem TW (hΓ:∀g S,Γ g=some S→Valid P G g S) {ops:Array Oper} {Q:Exit→Act→World→Prop} {F':List LV} {H':List aS} (hQ:∀Z' β' a' w',RW G w0 Z0 Z' β' H' w'→RF ds β' Z' w' H'.length F' a'→Q .normal a' w')
  (hW0:RW G w0 Z0 Z β H w) (hF0:RF ds β Z w H.length F a) (h:(abT P G Γ ops F H).all (fun q=>q=(F',H'))) (r:Option Nat) (m:Nat):P.follows .mixedOrders=true∧wpAnyIn (J8 r) m P .any ops Q ops.size (Array.replicate ops.size false) a {w with drawn:=w.drawn+1}:=by
 unfold abT at h
 simp only at h
 split at h
 ·rename_i hc
  simp only [Bool.and_eq_true] at hc
  obtain ⟨⟨hcalm,hmix⟩,htr0⟩:=hc
  generalize hfl:yA _ [] ops.toList=flags at h hcalm
  generalize htrd:tracked H ops.toList F=tr at h htr0
  have htr:∀k∈tr,k<H.length:=fun k hk=>by simpa using List.all_eq_true.1 htr0 k hk
  obtain ⟨⟨F1,H1⟩,h1,h2⟩:=T.aU h
  have hk:=og (P:=P) (G:=G) (Γ:=Γ) (H:=H) (tr:=tr) (Hm:=fZ tr 0 H) (F0:=F) flags ops.toList F (fun _ h=>h) ⟨rfl,fun _ _=>rfl⟩
  obtain ⟨⟨F2,H2⟩,g1,g2,g3⟩:=iE hk h1
  have hH2:H2=H:=(T.uY hk g1).2.2
  subst hH2
  have hbd:Below w.heap.size w {w with drawn:=w.drawn+1}:=⟨rfl,rfl,rfl,Nat.le_refl _,fun _ _=>rfl⟩
  have hW:=hW0.same hbd
  have hF:RF ds β Z {w with drawn:=w.drawn+1} H2.length F a:=hF0.mono (Nat.le_refl _) (fun _ _=>rfl) (fun _ h=>h) (fun _ _=>rfl)
  have hflen:flags.length=ops.toList.length:=by
   unfold abY at hcalm
   simp only [Bool.and_eq_true,beq_iff_eq] at hcalm
   simpa using hcalm.1.1.2
  have hops:ops=ops.toList.toArray:=by simp
  have hshp0:Shp tr β H2 {w with drawn:=w.drawn+1}:=fun k b _ hb hcl=>by
   obtain ⟨_,⟨cs,f2,f3⟩,_⟩:=DY hW hb hcl
   refine ⟨cs,f2,?_⟩
   have:=RL.length f3
   simpa using this
  refine ⟨hmix,?_⟩
  rw [hops]
  refine QD (P:=P) (G:=Gh) (D:=fun w'=>lX (Aw β H2 tr) {w with drawn:=w.drawn+1} w'∧Below w0.heap.size w0 w'∧Shp tr β H2 w') (C:=fun g w'=>nM ds G w0 Z0 tr β H2 {w with drawn:=w.drawn+1} g w') flags ⟨Z,β,H2,F,a⟩ (by rw [←hops];exact hcalm) (fun g w' hc=>⟨hc.near,hc.rw.below,hc.shape⟩) (fun g w1 w2 hc hb=>hc.keep hb)
   ⟨hW,hF,lX.refl _ _,Nat.le_refl _,fun _ _=>rfl,fun k k1 k2=>absurd k2 (Nat.not_lt.2 k1),EvL.refl _⟩ ?_
  rw [←hops]
  have hlm:(fZ tr 0 H2).length=H2.length:=je tr H2 0
  have hDm:∀w',(lX (Aw β H2 tr) {w with drawn:=w.drawn+1} w'∧Below w0.heap.size w0 w'∧Shp tr β H2 w')→RW G w0 Z0 Z β (fZ tr 0 H2) w'∧∀b,(Z b∨∃k bk,(fZ tr 0 H2)[k]? =some bk∧live β k bk∧tr.contains k=false∧b=(β k).b)→w'.heap[b]? =({w with drawn:=w.drawn+1}:World).heap[b]? :=fun w' ⟨d1,d2,d3⟩=>by
   refine ⟨hW.mask d1 d2 d3,fun b hb=>?_⟩
   rcases hb with hb|⟨k,bk,hk1,hk2,hk3,rfl⟩
   ·exact d1.block b (hW.mJ b hb) (hW.qA hb)
   ·have hkt:k∉tr:=by simpa using hk3
    rw [oh] at hk1
    cases hH:H2[k]? with
    |none=>simp [hH] at hk1
    |some b0=>
     simp only [hH,Option.map_some,Option.some.injEq,Nat.zero_add] at hk1
     rw [if_neg (by simpa using hkt)] at hk1
     subst hk1
     exact d1.block _ (hW.lt hH hk2) (hW.tX hH hk2 hkt)
  refine qJ (H:=H2) (HH:=H2) (F':=F2) hΓ hlm (hW.mask (lX.refl _ _) hW.below hshp0) hDm (fun a1 hF1=>?_) flags ops.toList F a hflen hF g1
  have hF1':=g3 _ _ _ _ _ _ hF1
  refine zQ (Q':=fun a' w'=>Q .normal a' w') (g1:=⟨Z,β,H2,F1,a1⟩) (fun w' hc=>?_) flags ops.toList a1 ?_
  ·refine ⟨hc.rw,?_,hc.near,hc.len,hc.old,hc.new,hc.QA⟩
   exact hF1'.mono (Nat.le_refl _) (fun _ _=>rfl) (fun _ h=>h) (fun b hz=>hc.near.block b (hW.mJ b hz) (hW.qA hz))
  ·exact Aj (H:=H2) (F':=F') (H':=H') hΓ (fun g e1 e2 w' hc=>hQ g.Z g.β g.a w' (by rw [←e2];exact hc.rw) (by rw [←e1,←e2];exact hc.rf)) flags ops.toList ⟨Z,β,H2,F1,a1⟩ hflen ⟨_,hW,hF1',lX.refl _ _,Nat.le_refl _,fun _ _=>rfl,fun k k1 k2=>absurd k2 (Nat.not_lt.2 k1),EvL.refl _⟩ h2
 ·split at h
  ·rename_i hc
   simp only [Bool.and_eq_true] at hc
   obtain ⟨⟨hcalm,hmix⟩,htr0⟩:=hc
   unfold aiB at hcalm
   simp only [Bool.and_eq_true,Bool.or_eq_true] at hcalm
   obtain ⟨hcalm,hord⟩:=hcalm
   replace hord:=hord.elim atI id
   generalize hfl:yA _ [] ops.toList=flags at h hcalm hord
   generalize htrd:tracked H ops.toList F=tr at h htr0
   have htr:∀k∈tr,k<H.length:=fun k hk=>by simpa using List.all_eq_true.1 htr0 k hk
   obtain ⟨⟨F1,H1⟩,h1,h2⟩:=T.aU h
   have hk:=og (P:=P) (G:=G) (Γ:=Γ) (H:=H) (tr:=tr) (Hm:=fZ tr 0 H) (F0:=F) flags ops.toList F (fun _ h=>h) ⟨rfl,fun _ _=>rfl⟩
   obtain ⟨⟨F2,H2⟩,g1,g2,g3⟩:=iE hk h1
   have hH2:H2=H:=(T.uY hk g1).2.2
   subst hH2
   have hbd:Below w.heap.size w {w with drawn:=w.drawn+1}:=⟨rfl,rfl,rfl,Nat.le_refl _,fun _ _=>rfl⟩
   have hW:=hW0.same hbd
   have hF:RF ds β Z {w with drawn:=w.drawn+1} H2.length F a:=hF0.mono (Nat.le_refl _) (fun _ _=>rfl) (fun _ h=>h) (fun _ _=>rfl)
   have hflen:flags.length=ops.toList.length:=by
    unfold xh at hcalm
    simp only [Bool.and_eq_true,beq_iff_eq] at hcalm
    simpa using hcalm.1.1.2
   have hops:ops=ops.toList.toArray:=by simp
   have hshp0:Shp tr β H2 {w with drawn:=w.drawn+1}:=fun k b _ hb hcl=>by
    obtain ⟨_,⟨cs,f2,f3⟩,_⟩:=DY hW hb hcl
    refine ⟨cs,f2,?_⟩
    have:=RL.length f3
    simpa using this
   refine ⟨hmix,?_⟩
   rw [hops]
   refine uG (P:=P) (G:=Gh) (D:=fun w'=>lX (Aw β H2 tr) {w with drawn:=w.drawn+1} w'∧Below w0.heap.size w0 w'∧Shp tr β H2 w') (C:=fun g w'=>nM ds G w0 Z0 tr β H2 {w with drawn:=w.drawn+1} g w') flags ⟨Z,β,H2,F,a⟩ (by rw [←hops];exact hcalm) (fun g w' hc=>⟨hc.near,hc.rw.below,hc.shape⟩) (fun g w1 w2 hc hb=>hc.keep hb)
    ⟨hW,hF,lX.refl _ _,Nat.le_refl _,fun _ _=>rfl,fun k k1 k2=>absurd k2 (Nat.not_lt.2 k1),EvL.refl _⟩ ?_
   rw [←hops]
   have hlm:(fZ tr 0 H2).length=H2.length:=je tr H2 0
   have hDm:∀w',(lX (Aw β H2 tr) {w with drawn:=w.drawn+1} w'∧Below w0.heap.size w0 w'∧Shp tr β H2 w')→RW G w0 Z0 Z β (fZ tr 0 H2) w'∧∀b,(Z b∨∃k bk,(fZ tr 0 H2)[k]? =some bk∧live β k bk∧tr.contains k=false∧b=(β k).b)→w'.heap[b]? =({w with drawn:=w.drawn+1}:World).heap[b]? :=fun w' ⟨d1,d2,d3⟩=>by
    refine ⟨hW.mask d1 d2 d3,fun b hb=>?_⟩
    rcases hb with hb|⟨k,bk,hk1,hk2,hk3,rfl⟩
    ·exact d1.block b (hW.mJ b hb) (hW.qA hb)
    ·have hkt:k∉tr:=by simpa using hk3
     rw [oh] at hk1
     cases hH:H2[k]? with
     |none=>simp [hH] at hk1
     |some b0=>
      simp only [hH,Option.map_some,Option.some.injEq,Nat.zero_add] at hk1
      rw [if_neg (by simpa using hkt)] at hk1
      subst hk1
      exact d1.block _ (hW.lt hH hk2) (hW.tX hH hk2 hkt)
   refine qJ (H:=H2) (HH:=H2) (F':=F2) hΓ hlm (hW.mask (lX.refl _ _) hW.below hshp0) hDm (fun a1 hF1=>?_) flags ops.toList F a hflen hF g1
   have hF1':=g3 _ _ _ _ _ _ hF1
   refine lW (Q':=fun a' w'=>Q .normal a' w') (g1:=⟨Z,β,H2,F1,a1⟩) (fun w' hc=>?_) _ _ a1 ?_
   ·refine ⟨hc.rw,?_,hc.near,hc.len,hc.old,hc.new,hc.QA⟩
    exact hF1'.mono (Nat.le_refl _) (fun _ _=>rfl) (fun _ h=>h) (fun b hz=>hc.near.block b (hW.mJ b hz) (hW.qA hz))
   ·exact EF (H:=H2) (F':=F') (H':=H') hΓ (fun g e1 e2 w' hc=>hQ g.Z g.β g.a w' (by rw [←e2];exact hc.rw) (by rw [←e1,←e2];exact hc.rf)) _ (idxs true flags 0) _ ⟨Z,β,H2,F1,a1⟩ (fun i hi=>by
     obtain ⟨_,h⟩:=uh true flags 0 i hi
     simp only [Nat.sub_zero] at h
     simp [List.getD,h]) hord h2
  ·split at h
   ·rename_i hc
    simp only [Bool.and_eq_true] at hc
    obtain ⟨⟨hcalm,hmix⟩,htr0⟩:=hc
    unfold alx at hcalm
    simp only [Bool.and_eq_true] at hcalm
    obtain ⟨⟨⟨hcalm,hnd⟩,hlt⟩,hord⟩:=hcalm
    generalize hfl:yA _ [] ops.toList=flags at h hcalm hord hnd hlt
    generalize htrd:tracked H ops.toList F=tr at h htr0
    have htr:∀k∈tr,k<H.length:=fun k hk=>by simpa using List.all_eq_true.1 htr0 k hk
    obtain ⟨⟨F1,H1⟩,h1,h2⟩:=T.aU h
    have hk:=og (P:=P) (G:=G) (Γ:=Γ) (H:=H) (tr:=tr) (Hm:=fZ tr 0 H) (F0:=F) flags ops.toList F (fun _ h=>h) ⟨rfl,fun _ _=>rfl⟩
    obtain ⟨⟨F2,H2⟩,g1,g2,g3⟩:=iE hk h1
    have hH2:H2=H:=(T.uY hk g1).2.2
    subst hH2
    have hbd:Below w.heap.size w {w with drawn:=w.drawn+1}:=⟨rfl,rfl,rfl,Nat.le_refl _,fun _ _=>rfl⟩
    have hW:=hW0.same hbd
    have hF:RF ds β Z {w with drawn:=w.drawn+1} H2.length F a:=hF0.mono (Nat.le_refl _) (fun _ _=>rfl) (fun _ h=>h) (fun _ _=>rfl)
    have hflen:flags.length=ops.toList.length:=by
     unfold xh at hcalm
     simp only [Bool.and_eq_true,beq_iff_eq] at hcalm
     simpa using hcalm.1.1.2
    have hops:ops=ops.toList.toArray:=by simp
    have hshp0:Shp tr β H2 {w with drawn:=w.drawn+1}:=fun k b _ hb hcl=>by
     obtain ⟨_,⟨cs,f2,f3⟩,_⟩:=DY hW hb hcl
     refine ⟨cs,f2,?_⟩
     have:=RL.length f3
     simpa using this
    refine ⟨hmix,?_⟩
    rw [hops]
    refine uG (P:=P) (G:=Gh) (D:=fun w'=>lX (Aw β H2 tr) {w with drawn:=w.drawn+1} w'∧Below w0.heap.size w0 w'∧Shp tr β H2 w') (C:=fun g w'=>nM ds G w0 Z0 tr β H2 {w with drawn:=w.drawn+1} g w') flags ⟨Z,β,H2,F,a⟩ (by rw [←hops];exact hcalm) (fun g w' hc=>⟨hc.near,hc.rw.below,hc.shape⟩) (fun g w1 w2 hc hb=>hc.keep hb)
     ⟨hW,hF,lX.refl _ _,Nat.le_refl _,fun _ _=>rfl,fun k k1 k2=>absurd k2 (Nat.not_lt.2 k1),EvL.refl _⟩ ?_
    rw [←hops]
    have hlm:(fZ tr 0 H2).length=H2.length:=je tr H2 0
    have hDm:∀w',(lX (Aw β H2 tr) {w with drawn:=w.drawn+1} w'∧Below w0.heap.size w0 w'∧Shp tr β H2 w')→RW G w0 Z0 Z β (fZ tr 0 H2) w'∧∀b,(Z b∨∃k bk,(fZ tr 0 H2)[k]? =some bk∧live β k bk∧tr.contains k=false∧b=(β k).b)→w'.heap[b]? =({w with drawn:=w.drawn+1}:World).heap[b]? :=fun w' ⟨d1,d2,d3⟩=>by
     refine ⟨hW.mask d1 d2 d3,fun b hb=>?_⟩
     rcases hb with hb|⟨k,bk,hk1,hk2,hk3,rfl⟩
     ·exact d1.block b (hW.mJ b hb) (hW.qA hb)
     ·have hkt:k∉tr:=by simpa using hk3
      rw [oh] at hk1
      cases hH:H2[k]? with
      |none=>simp [hH] at hk1
      |some b0=>
       simp only [hH,Option.map_some,Option.some.injEq,Nat.zero_add] at hk1
       rw [if_neg (by simpa using hkt)] at hk1
       subst hk1
       exact d1.block _ (hW.lt hH hk2) (hW.tX hH hk2 hkt)
    refine qJ (H:=H2) (HH:=H2) (F':=F2) hΓ hlm (hW.mask (lX.refl _ _) hW.below hshp0) hDm (fun a1 hF1=>?_) flags ops.toList F a hflen hF g1
    have hF1':=g3 _ _ _ _ _ _ hF1
    have d1:∀k,k<H2.length→(fun k=>if k<H2.length then β k else ⟨w.heap.size,0,none⟩:Nat→Loc) k=β k:=fun k hk=>by simp [hk]
    have d2:∀k,H2.length≤k→((fun k=>if k<H2.length then β k else ⟨w.heap.size,0,none⟩:Nat→Loc) k).b=w.heap.size:=fun k hk=>by simp [Nat.not_lt.2 hk]
    generalize (fun k=>if k<H2.length then β k else ⟨w.heap.size,0,none⟩:Nat→Loc)=βd at d1 d2
    refine lW (Q':=fun a' w'=>Q .normal a' w') (g1:=⟨Z,βd,H2++List.replicate ops.size kD,F1,a1⟩) (fun w' hc=>?_) _ _ a1 ?_
    ·refine ⟨hc.rw.azm d1,?_,hc.near,by simp,fun k hk=>d1 k hk,fun k k1 k2=> .inl (by rw [d2 k k1];exact Nat.le_refl _),EvL.app _ _⟩
     exact hF1'.mono (by simp) d1 (fun _ h=>h) (fun b hz=>hc.near.block b (hW.mJ b hz) (hW.qA hz))
    ·refine LY (H:=H2) (F':=F') (H':=H') hΓ (fun p hp=>(hW.gh p hp).2) (fun g e1 e2 w' hc=>hQ g.Z g.β g.a w' (by rw [←e2];exact hc.rw) (by rw [←e1,←e2];exact hc.rf)) _ (idxs true flags 0) _ ⟨Z,βd,H2++List.replicate ops.size kD,F1,a1⟩ (fun _=>False) hnd ⟨fun j hj=>?_,fun k b hb j hj=>?_,fun i hi=>⟨fun h=>h,?_⟩⟩ (fun i hi=>by
      obtain ⟨_,h⟩:=uh true flags 0 i hi
      simp only [Nat.sub_zero] at h
      simp [List.getD,h]) hord h2
     ·obtain ⟨x,q1,q2⟩:=wQ hj
      obtain ⟨t',q3⟩:=List.getElem?_of_mem q1
      exact .inl (okV_owns x (hF1'.get t' x q3).2 j q2)
     ·by_cases h0:k<H2.length
      ·simp only at hb
       rw [List.getElem?_append_left h0] at hb
       exact .inl (agV (hW.blk k b hb).2 j hj)
      ·simp only at hb
       rw [List.getElem?_append_right (by omega),List.getElem?_replicate] at hb
       split at hb
       ·simp only [Option.some.injEq] at hb
        subst hb
        simp [aS.owns,kD,ownsL] at hj
       ·cases hb
     ·have hlt':i<ops.size:=by simpa using List.all_eq_true.1 hlt i hi
      exact ⟨_,List.getElem?_eq_getElem (by simp;omega)⟩
   ·split at h
    ·rename_i hc
     simp only [Bool.and_eq_true] at hc
     obtain ⟨⟨hcalm,hmix⟩,htr0⟩:=hc
     unfold ayO at hcalm
     simp only [Bool.and_eq_true] at hcalm
     obtain ⟨hcalm,hord⟩:=hcalm
     generalize hfl:yA _ [] ops.toList=flags at h hcalm hord
     generalize htrd:tracked H ops.toList F=tr at h htr0
     have htr:∀k∈tr,k<H.length:=fun k hk=>by simpa using List.all_eq_true.1 htr0 k hk
     obtain ⟨⟨F2,H2⟩,g1,h2⟩:=T.aU h
     have hk:=og (P:=P) (G:=G) (Γ:=Γ) (H:=H) (tr:=tr) (Hm:=fZ tr 0 H) (F0:=F) flags ops.toList F (fun _ h=>h) ⟨rfl,fun _ _=>rfl⟩
     have hH2:H2=H:=(T.uY hk g1).2.2
     subst hH2
     have hbd:Below w.heap.size w {w with drawn:=w.drawn+1}:=⟨rfl,rfl,rfl,Nat.le_refl _,fun _ _=>rfl⟩
     have hW:=hW0.same hbd
     have hF:RF ds β Z {w with drawn:=w.drawn+1} H2.length F a:=hF0.mono (Nat.le_refl _) (fun _ _=>rfl) (fun _ h=>h) (fun _ _=>rfl)
     have hflen:flags.length=ops.toList.length:=by
      unfold xh at hcalm
      simp only [Bool.and_eq_true,beq_iff_eq] at hcalm
      simpa using hcalm.1.1.2
     have hops:ops=ops.toList.toArray:=by simp
     have hshp0:Shp tr β H2 {w with drawn:=w.drawn+1}:=fun k b _ hb hcl=>by
      obtain ⟨_,⟨cs,f2,f3⟩,_⟩:=DY hW hb hcl
      refine ⟨cs,f2,?_⟩
      have:=RL.length f3
      simpa using this
     refine ⟨hmix,?_⟩
     rw [hops]
     refine uG (P:=P) (G:=Gh) (D:=fun w'=>lX (Aw β H2 tr) {w with drawn:=w.drawn+1} w'∧Below w0.heap.size w0 w'∧Shp tr β H2 w') (C:=fun g w'=>nM ds G w0 Z0 tr β H2 {w with drawn:=w.drawn+1} g w') flags ⟨Z,β,H2,F,a⟩ (by rw [←hops];exact hcalm) (fun g w' hc=>⟨hc.near,hc.rw.below,hc.shape⟩) (fun g w1 w2 hc hb=>hc.keep hb)
      ⟨hW,hF,lX.refl _ _,Nat.le_refl _,fun _ _=>rfl,fun k k1 k2=>absurd k2 (Nat.not_lt.2 k1),EvL.refl _⟩ ?_
     rw [←hops]
     have hlm:(fZ tr 0 H2).length=H2.length:=je tr H2 0
     have hDm:∀w',(lX (Aw β H2 tr) {w with drawn:=w.drawn+1} w'∧Below w0.heap.size w0 w'∧Shp tr β H2 w')→RW G w0 Z0 Z β (fZ tr 0 H2) w'∧∀b,(Z b∨∃k bk,(fZ tr 0 H2)[k]? =some bk∧live β k bk∧tr.contains k=false∧b=(β k).b)→w'.heap[b]? =({w with drawn:=w.drawn+1}:World).heap[b]? :=fun w' ⟨d1,d2,d3⟩=>by
      refine ⟨hW.mask d1 d2 d3,fun b hb=>?_⟩
      rcases hb with hb|⟨k,bk,hk1,hk2,hk3,rfl⟩
      ·exact d1.block b (hW.mJ b hb) (hW.qA hb)
      ·have hkt:k∉tr:=by simpa using hk3
       rw [oh] at hk1
       cases hH:H2[k]? with
       |none=>simp [hH] at hk1
       |some b0=>
        simp only [hH,Option.map_some,Option.some.injEq,Nat.zero_add] at hk1
        rw [if_neg (by simpa using hkt)] at hk1
        subst hk1
        exact d1.block _ (hW.lt hH hk2) (hW.tX hH hk2 hkt)
     refine qJ (H:=H2) (HH:=H2) (F':=F2) hΓ hlm (hW.mask (lX.refl _ _) hW.below hshp0) hDm (fun a1 hF1=>?_) flags ops.toList F a hflen hF g1
     have hF1':=hF1
     rw [T.all_bind] at h2
     obtain ⟨F0,h2,hF0'⟩:=qj _ F2 hF1' h2
     obtain ⟨F3,h3,h4⟩:=T.aU h2
     simp only [T.all,Prod.mk.injEq] at h4
     obtain ⟨rfl,rfl⟩:=h4
     refine lW (Q':=fun a' w'=>Q .normal a' w') (g1:=⟨Z,β,H2,F0,a1⟩) (fun w' hc=>?_) _ _ a1 ?_
     ·refine ⟨hc.rw,?_,hc.near,hc.len,hc.old,hc.new,hc.QA⟩
      exact hF0'.mono (Nat.le_refl _) (fun _ _=>rfl) (fun _ h=>h) (fun b hz=>hc.near.block b (hW.mJ b hz) (hW.qA hz))
     ·exact DJ (H:=H2) (H':=H2) (Q:=fun a' w'=>Q .normal a' w') hΓ (fun g e1 e2 w' hc=>hQ g.Z g.β g.a w' (by rw [←e2];exact hc.rw) (by rw [←e1,←e2];exact hc.rf)) _ (idxs true flags 0) _ ⟨Z,β,H2,F0,a1⟩ ⟨_,hW,hF0',lX.refl _ _,Nat.le_refl _,fun _ _=>rfl,fun k k1 k2=>absurd k2 (Nat.not_lt.2 k1),EvL.refl _⟩ rfl (fun i hi=>by
       obtain ⟨_,h⟩:=uh true flags 0 i hi
       simp only [Nat.sub_zero] at h
       simp [List.getD,h]) hord h3
    ·cases h
theorem GR {α:Type}{f:Nat→T α}{n:Int}{p:α→Prop}:∀(m j:Nat),(splitN f n m j).all p→(j:Int)≤n→n<(j:Int)+m→∃i:Nat,n=(i:Int)∧(f i).all p
 |0,j,_,h1,h2=>by omega
 |1,j,h,h1,h2=>⟨j,by omega,h⟩
 |m+2,j,h,h1,h2=>by
  simp only [splitN,T.all] at h
  by_cases e:n=(j:Int)
  ·exact ⟨j,e,h.1 (by simp [e])⟩
  ·exact GR (m+1) (j+1) (h.2 (by simpa using e)) (by omega) (by omega)
theorem NQ {ops:List Oper}{s len:Nat}{k:IntKind}{n:Int}(h:NR P ops F=some (s,k,n,len)):F.getD s .junk=.v (.int k n):=by
 unfold NR at h
 split at h
 ·obtain ⟨o,_,ho⟩:=List.exists_of_findSome?_eq_some h
  split at ho
  ·split at ho
   ·split at ho
    ·rename_i hx
     simp only [Option.some.injEq,Prod.mk.injEq] at ho
     obtain ⟨rfl,rfl,rfl,rfl⟩:=ho
     exact hx
    ·cases ho
   ·cases ho
  ·cases ho
 ·cases h
theorem LQ (hΓ:∀g S,Γ g=some S→Valid P G g S) {ops:Array Oper}{Q:Exit→Act→World→Prop}{F':List LV}{H':List aS}(hQ:∀Z' β' a' w',RW G w0 Z0 Z' β' H' w'→RF ds β' Z' w' H'.length F' a'→Q .normal a' w')
  (hW0:RW G w0 Z0 Z β H w) (hF0:RF ds β Z w H.length F a) (h:(TU P G Γ ops F H).all (fun q=>q=(F',H'))) (r:Option Nat) (m:Nat):P.follows .mixedOrders=true∧wpAnyIn (J8 r) m P .any ops Q ops.size (Array.replicate ops.size false) a {w with drawn:=w.drawn+1}:=by
 unfold TU at h
 split at h
 ·rename_i s k n len hs
  simp only [T.all] at h
  obtain ⟨⟨h0,h1⟩,h2⟩:=h
  obtain ⟨i,hi,h3⟩:=GR len 0 h2 (by omega) (by omega)
  have hx:=NQ hs
  obtain ⟨s1,s2⟩:=hF0.slot hx (by simp)
  have hv:=(hF0.get s _ s1).1
  simp only [R] at hv
  exact TW hΓ hQ hW0 (hF0.know (lv:=.ki k i) (by simp only [R];rw [hv,hi]) trivial) h3 r m
 ·exact TW hΓ hQ hW0 hF0 h r m
theorem TT (hΓ:∀g S,Γ g=some S→Valid P G g S) {id:Nat}{ops:Array Oper}{Q:Exit→Act→World→Prop}{F':List LV}{H':List aS}(hQ:∀Z' β' a' w',RW G w0 Z0 Z' β' H' w'→RF ds β' Z' w' H'.length F' a'→Q .normal a' w')
  (hW0:RW G w0 Z0 Z β H w) (hF0:RF ds β Z w H.length F a) (h:(TU P G Γ ops F H).all (fun q=>q=(F',H'))) (r:Option Nat) (m:Nat):(Code.region id ops true).wpIn (J8 r) m P Q a w:=
 have h1:=LQ hΓ hQ hW0 hF0 h r m
 wpIn_region_any h1.1 h1.2
theorem Ku {ops:Array Oper}{o:Oper}(h:Iw G Γ ops=some o):∃ys:Array Oper,ops=ys.push o∧ops.pop=ys∧o.guard=none∧lastB .any ys o=true:=by
 unfold Iw at h
 split at h
 ·rename_i o' hb
  split at h
  ·split at h
   ·cases h
   ·split at h
    ·rename_i hl
     obtain rfl:=Option.some.inj h
     obtain ⟨ys,rfl⟩:=Array.back?_eq_some_iff.1 hb
     rw [Array.pop_push] at hl⊢
     refine ⟨ys,rfl,rfl,?_,hl⟩
     simp only [lastB,Bool.and_eq_true] at hl
     simpa using hl.1.1.1
    ·cases h
  ·cases h
 ·cases h
theorem TV {K:Hand}(hΓ:∀g S,Γ g=some S→Valid P G g S) (hK:cO P G K) {id:Nat}{ops:Array Oper}{Q:Exit→Act→World→Prop}{F':List LV}{H':List aS}(hQ:∀Z' β' a' w',RW G w0 Z0 Z' β' H' w'→RF ds β' Z' w' H'.length F' a'→Q .normal a' w')
  (hW0:RW G w0 Z0 Z β H w) (hF0:RF ds β Z w H.length F a) (h:(aiK P G Γ K ops F H).all (fun q=>q=(F',H'))) (r:Option Nat) (m:Nat):(Code.region id ops true).wpIn (J8 r) m P Q a w:=by
 unfold aiK at h
 split at h
 ·rename_i o ho
  obtain ⟨ys,rfl,hp,hg,hl⟩:=Ku ho
  rw [hp] at h
  obtain ⟨⟨F1,H1⟩,h1,h2⟩:=T.aU h
  obtain ⟨⟨lv,H2⟩,h3,h4⟩:=T.aU h2
  simp only [T.all,Prod.mk.injEq] at h4
  obtain ⟨rfl,rfl⟩:=h4
  have h5:=LQ hΓ (Q:=Tq (J8 r) m P (ys.push o) Q ys.size) (fun Z' β' a' w' e1 e2=>by
   show wpOpIn (J8 r) m P (ys.push o) Q ys.size (Q .normal) a' w'
   unfold wpOpIn
   have hw:Region.wanted o (yielded (ys.push o) a'.tmps)=true:=by simp [Region.wanted,hg]
   simp only [Array.getElem?_push_size,hw,if_true]
   exact uF (gB (fun v w' ⟨Z',β',e1,e2,e3,e4⟩=>hQ Z' β' _ w' e1 (e2.put e3 e4 o.dst)) (KZ hΓ hK e1 e2 h3)) r m) hW0 hF0 h1 r m
  exact Gs h5.1 hl h5.2
 ·exact TT hΓ hQ hW0 hF0 h r m
end Go.Sx
namespace Go.Sx
open Go Go.RowKit Go.Proofs.YtlihnbimgclogaaGreatDoor
variable {P : Program} {G : dB} {Γ : Specs} {K : Hand} {A : Gz → Prop} {β : Nat → Loc} {Z : Nat → Prop} {Z0 : Gz} {w w0 : World} {F : List LV} {H : List aS} {a : Act} {ds : List Deferred} {n : Nat}
def ava:Ex→Exit
 | .normal=> .normal
 | .exit n=> .exit n
 | .ret=> .ret
structure JM (w0:World) (Z0:Gz) (ds:List Deferred):Prop where
 new:∀D,jQ D∈ds→w0.heap.size≤D∧D∉Z0.rQ
 nodup:ds.Nodup
theorem JM.nil {w0:World}{Z0:Gz}:JM w0 Z0 []:=⟨fun _ h=>(by cases h),List.nodup_nil⟩
def bG (P:Program) (G:dB) (A:Gz→Prop) (c:Code) (t:List LV→List aS→T (Ex×List LV×List aS)):Prop:=
 ∀(r:Option Nat) (w0:World) (Z0:Gz) (Z:Nat→Prop) (β:Nat→Loc) (F:List LV) (H:List aS) (a:Act) (w:World) (ds:List Deferred) (Q:Exit→Act→World→Prop) (x:Ex) (F':List LV) (H':List aS),
  A Z0→(r=none∨zn c=true)→JM w0 Z0 ds→RW G w0 Z0 Z β H w→RF ds β Z w H.length F a→(t F H).all (fun q=>q=(x,F',H'))→(∀ds' Z' β' a' w',JM w0 Z0 ds'→RW G w0 Z0 Z' β' H' w'→RF ds' β' Z' w' H'.length F' a'→Q (ava x) a' w')→c.wpIn (J8 r) 0 P Q a w
def AN (N:Nat):Gz→Prop:=fun z=>∀p,p∈z.gh→okV N p.1
abbrev Sound (P:Program) (G:dB):=bG P G (AN 0)
def ay:Code→List Code
 | .seq a b=>ay a++ay b
 | .cond _ a b=>ay a++ay b
 | .block _ b=>ay b
 | .loop b=>[b]
 | .scope b=>ay b
 |_=>[]
def kz:Code→List (Array Tmp×Code×Code)
 | .seq a b=>kz a++kz b
 | .cond _ a b=>kz a++kz b
 | .block _ b=>kz b
 | .loop b=>kz b
 | .rangeFunc _ ps a b=>[(ps,a,b)]
 | .scope b=>kz b
 |_=>[]
theorem lZ {w:World}{D:Nat}(h:pK w D) (o':Obj) {b o:Nat}{z:Value}(hz:w.cell? ⟨b,o,none⟩=some z):(w.putObj D o').cell? ⟨b,o,none⟩=some z:=by
 have hne:b≠D:=by
  rintro rfl
  unfold pK at h
  simp [World.cell?,h] at hz
 rw [jf (World.putObj_heap_other hne)]
 exact hz
theorem RD.shut {D:Nat}(h:pK w D) (o':Obj):∀(t:Ty) (d:t.D) (b o:Nat),RD Z w t d b o→RD Z (w.putObj D o') t d b o
 | .int _,_,b,o,hh=>by simp only [RD] at*;exact lZ h o' hh
 | .bool,_,b,o,hh=>by simp only [RD] at*;exact lZ h o' hh
 | .str,_,b,o,hh=>by simp only [RD] at*;exact lZ h o' hh
 | .sl e,l,b,o,hh=>by
  simp only [RD] at*
  obtain ⟨a,cap,h1,h2,h3⟩:=hh
  refine ⟨a,cap,lZ h o' h1,h2,fun hn=>?_⟩
  obtain ⟨b',o'',h4,h5,h6⟩:=h3 hn
  exact ⟨b',o'',h4,h5,fun i d hd=>RD.shut h o' e d b' _ (h6 i d hd)⟩
 | .pair x y,d,b,o,hh=>by
  simp only [RD] at*
  exact ⟨RD.shut h o' x d.1 b o hh.1,RD.shut h o' y d.2 b _ hh.2⟩
theorem qF {w:World}{D:Nat}(h:pK w D) (o':Obj) {b:Nat}{x:Obj}(hx:w.heap[b]? =some x) (hn:∀q,x≠ .deferred q):(w.putObj D o').heap[b]? =some x:=by
 have hne:b≠D:=by
  rintro rfl
  unfold pK at h
  rw [h] at hx
  exact hn _ (Option.some.inj hx).symm
 rw [World.putObj_heap_other hne]
 exact hx
mutual
theorem R.shut {D:Nat}(h:pK w D) (o':Obj):∀(x:LV) (y:Value),R β Z w x y→R β Z (w.putObj D o') x y
 | .v _,_,hh=>hh
 | .bl _,_,hh=>hh
 | .ki _ _,_,hh=>hh
 | .own k off,y,hh=>by simpa only [R] using hh
 | .agg l,y,hh=>by
  simp only [R] at*
  obtain ⟨ys,h1,h2⟩:=hh
  exact ⟨ys,h1,RL.shut h o' l _ h2⟩
 | .jg l,y,hh=>by
  simp only [R] at*
  obtain ⟨ys,h1,h2⟩:=hh
  exact ⟨ys,h1,RL.shut h o' l _ h2⟩
 | .fn f l,y,hh=>by
  simp only [R] at*
  obtain ⟨ys,h1,h2⟩:=hh
  exact ⟨ys,h1,RL.shut h o' l _ h2⟩
 | .xq n f,y,hh=>by
  simp only [R] at*
  obtain ⟨b,off,h1,hz,h2⟩:=hh
  refine ⟨b,off,h1,hz,fun j hj=>?_⟩
  obtain ⟨z,h3,h4⟩:=h2 j hj
  exact ⟨z,lZ h o' h3,R.shut h o' (f j) z h4⟩
 | .xl e l,y,hh=>by
  simp only [R] at*
  obtain ⟨a,cap,h1,h2,h3⟩:=hh
  refine ⟨a,cap,h1,h2,fun hn=>?_⟩
  obtain ⟨b,off,h4,h5,h6⟩:=h3 hn
  exact ⟨b,off,h4,h5,fun i d hd=>RD.shut h o' e d b _ (h6 i d hd)⟩
 | .os k es off n,y,hh=>by simpa only [R] using hh
 | .op k es i j,y,hh=>by simpa only [R] using hh
 | .om k,y,hh=>by simpa only [R] using hh
 | .mp kd ks vs,y,hh=>by
  simp only [R] at*
  obtain ⟨r,es,clock,h1,h2,h3,h4,h5⟩:=hh
  exact ⟨r,es,clock,h1,h2,qF h o' h3 (fun _ e=>by cases e),h4,RL.shut h o' vs _ h5⟩
 | .oc k es off n c,y,hh=>by simpa only [R] using hh
 | .vK k,y,hh=>by simpa only [R] using hh
 | .junk,_,_=>by simp only [R]
theorem RL.shut {D:Nat}(h:pK w D) (o':Obj):∀(x:List LV) (y:List Value),RL β Z w x y→RL β Z (w.putObj D o') x y
 | [],_,hh=>by simpa only [RL] using hh
 |x::xs,ys,hh=>by
  simp only [RL] at*
  obtain ⟨y,zs,h1,h2,h3⟩:=hh
  exact ⟨y,zs,h1,R.shut h o' x y h2,RL.shut h o' xs zs h3⟩
end
theorem fP.shut {D:Nat}(h:pK w D) (o':Obj) {k:Nat}{b:aS}(hh:fP β Z w k b):fP β Z (w.putObj D o') k b:=by
 unfold fP at*
 cases hk:b.k with
 |cl=>
  simp only [hk] at hh⊢
  obtain ⟨cs,h1,h2⟩:=hh
  exact ⟨cs,qF h o' h1 (fun _ e=>by cases e),RL.shut h o' _ _ h2⟩
 | vec e l=>
  simp only [hk] at hh⊢
  cases hc:(β k).cap with
  |none=>simp only [hc] at hh⊢;exact hh
  |some c=>
   simp only [hc] at hh⊢
   obtain ⟨cs,h1,h2,h3,h4⟩:=hh
   exact ⟨cs,qF h o' h1 (fun _ e=>by cases e),h2,h3,fun i d hd=>RD.shut h o' e d _ _ (h4 i d hd)⟩
 |mp kd ks vs=>
  simp only [hk] at hh⊢
  obtain ⟨es,clock,h1,h2,h3⟩:=hh
  exact ⟨es,clock,qF h o' h1 (fun _ e=>by cases e),h2,RL.shut h o' _ _ h3⟩
 |lG ps asg body st=>
  simp only [hk] at hh⊢
  obtain ⟨r,h1,h2,h3,h4,h5,h6⟩:=hh
  exact ⟨r,qF h o' h1 (fun _ e=>by cases e),h2,h3,h4,h5,RL.shut h o' _ _ h6⟩
 |st e l=>
  simp only [hk] at hh⊢
  obtain ⟨es,clock,h1,h2,h3⟩:=hh
  exact ⟨es,clock,qF h o' h1 (fun _ e=>by cases e),h2,h3⟩
 |dead=>trivial
theorem putObj_size (w:World) (D:Nat) (o:Obj):(w.putObj D o).heap.size=w.heap.size:=by simp [World.putObj]
theorem pK.lt {w:World}{D:Nat}(h:pK w D):D<w.heap.size:=(Array.getElem?_eq_some_iff.1 h).1
theorem RW.shut (hW:RW G w0 Z0 Z β H w) {D:Nat}(h:pK w D) (h0:w0.heap.size≤D) (hm:D∉Z0.rQ) (o':Obj):RW G w0 Z0 Z β H (w.putObj D o'):=
 ⟨hW.below.trans ⟨rfl,rfl,rfl,Nat.le_of_eq (putObj_size _ _ _).symm,fun i hi=>World.putObj_heap_other (by omega)⟩,fun b hz=>by rw [putObj_size];exact hW.mJ b hz,hW.tq,hW.lu,hW.vV,hW.low,hW.inj,
  fun k b hb=>⟨(hW.blk k b hb).1.shut h o',(hW.blk k b hb).2⟩,fun g n f hg=>⟨(hW.jh g n f hg).1,fun j hj=>lZ h o' ((hW.jh g n f hg).2 j hj)⟩,
  fun p hp=>⟨R.shut h o' _ _ (hW.gh p hp).1,(hW.gh p hp).2⟩,fun D' hD'=>⟨(hW.rQ D' hD').1,by
   unfold pK
   rw [World.putObj_heap_other (fun e=>hm (by rw [←e];exact hD'))]
   exact (hW.rQ D' hD').2⟩⟩
theorem wY {fn:Func}{R:Ending→World→Prop}:∀(ds:List Deferred) (w:World) (a:Act),RW G w0 Z0 Z β H w→RF ds β Z w n F a→JM w0 Z0 ds→
  (∀w' a',a'.tmps=a.tmps→RW G w0 Z0 Z β H w'→RF [] β Z w' n F a'→∃v,(results fn a.tmps).run P w'=.ok v w'∧R (.returned v) w')→LeavesInM Fence.wide 0 P fn a.tmps R ds .returning w
 | [],w,a,hW,hF,_,hR=>hR w {a with defers:=[]} rfl hW ⟨hF.size,hF.get,rfl,fun _ h=>by cases h⟩
 |d::ds,w,a,hW,hF,hD,hR=>by
  obtain ⟨D,rfl,hz,hm⟩:=hF.defers.2 d (by simp)
  obtain ⟨n1,n2⟩:=hD.new D (by simp)
  have nd:=List.nodup_cons.1 hD.nodup
  refine ⟨by simp,.inl ⟨D,w.putObj D (.deferred none),rfl,run_takeDeferred hm,?_⟩⟩
  refine wY ds (w.putObj D (.deferred none)) {a with defers:=ds} (hW.shut hm n1 n2 _) ⟨hF.size,fun t x hx=>⟨Go.Sx.R.shut hm _ _ _ (hF.get t x hx).1,(hF.get t x hx).2⟩,rfl,fun d hd=>?_⟩ ⟨fun D' h'=>hD.new D' (by simp [h']),nd.2⟩ (fun w' a' e=>hR w' a' e)
  obtain ⟨D',e1,e2,e3⟩:=hF.defers.2 d (by simp [hd])
  refine ⟨D',e1,e2,?_⟩
  unfold pK
  rw [World.putObj_heap_other (fun e=>nd.1 (by rw [←e,←e1];exact hd))]
  exact e3
theorem RF.RL (hF:RF ds β Z w n F a):RL β Z w F a.tmps.toList∧dP n F:=by
 refine ⟨RL.dN (by simp [hF.size]) fun i x hx=>?_,dP.dN fun i x hx=>(hF.get i x hx).2⟩
 have hi:i<a.tmps.size:=by rw [hF.size];exact (List.getElem?_eq_some_iff.1 hx).1
 have:=(hF.get i x hx).1
 refine ⟨a.tmps[i],by simp [hi],?_⟩
 have e:a.tmps.getD i undef=a.tmps[i]:=by simp [Array.getD,hi]
 rw [e] at this
 exact this
theorem ahl (us:List Nat) {ys:List Value}(h:RL β Z w F ys) (hk:dP n F):RL β Z w (Ar us F) ys∧dP n (Ar us F):=by
 have hl:=RL.length h
 have at_:∀(i:Nat) (x:LV),(Ar us F)[i]? =some x→i<F.length∧(x=.junk∨F[i]? =some x):=fun i x hx=>by
  simp only [Ar,List.getElem?_map] at hx
  by_cases hi:i<F.length
  ·simp only [List.getElem?_range hi,Option.map_some,Option.some.injEq] at hx
   refine ⟨hi,?_⟩
   split at hx
   ·right
    rw [List.getElem?_eq_getElem hi]
    simpa [List.getD,List.getElem?_eq_getElem hi] using hx
   ·exact .inl hx.symm
  ·rw [List.getElem?_eq_none (by simpa using hi)] at hx
   cases hx
 refine ⟨RL.dN (by simp [Ar,hl]) fun i x hx=>?_,dP.dN fun i x hx=>?_⟩
 ·obtain ⟨hi,h1⟩:=at_ i x hx
  rcases h1 with rfl|h1
  ·exact ⟨ys[i]'(by omega),List.getElem?_eq_getElem _,by simp only [R]⟩
  ·exact RL.get i x h h1
 ·obtain ⟨hi,h1⟩:=at_ i x hx
  rcases h1 with rfl|h1
  ·trivial
  ·exact dP.get i x hk h1
theorem Tn {o:Option aS}{x:Ex}(h:Xw o=some x):∃c t ps asg body,(o=some ⟨c,t,.lG ps asg body .ready,false⟩∧x=.normal)∨(o=some ⟨c,t,.lG ps asg body (.done x),false⟩∧x≠ .normal):=by
 unfold Xw at h
 split at h
 ·rename_i c t ps asg body
  exact ⟨c,t,ps,asg,body,.inl ⟨rfl,(Option.some.inj h).symm⟩⟩
 ·rename_i c t ps asg body y
  split at h
  ·cases h
  ·rename_i hn
   have:=Option.some.inj h
   subst this
   exact ⟨c,t,ps,asg,body,.inr ⟨rfl,fun e=>hn e⟩⟩
 ·cases h
theorem RW.turn {k:Nat}{c:List LV}{t t':TypeId}{ps:Array Tmp}{asg body:Code}{st:LS}{nb:BK}{r':Loop}(hW:RW G w0 Z0 Z β H w) (hb:H[k]? =some ⟨c,t,.lG ps asg body st,false⟩)
  (hn:fP β Z (w.putObj (β k).b (.loop r')) k ⟨c,t',nb,false⟩) (hok:okB H.length ⟨c,t',nb,false⟩):RW G w0 Z0 Z β (H.set k ⟨c,t',nb,false⟩) (w.putObj (β k).b (.loop r'))∧(∀b,Z b→(w.putObj (β k).b (.loop r')).heap[b]? =w.heap[b]?):=
 ⟨hW.set hb trivial rfl rfl hok (putObj_size _ _ _) ⟨rfl,rfl,rfl⟩ (fun _ hj=>World.putObj_heap_other hj) hn,fun _ hz=>World.putObj_heap_other (fun e=>hW.lu k _ hb trivial rfl (e▸hz))⟩
theorem aas {r:Option Nat}{p q:Bool}(h:r=none∨(p&&q)=true):(r=none∨p=true)∧(r=none∨q=true):=by
 rcases h with h|h
 ·exact ⟨.inl h,.inl h⟩
 ·simp only [Bool.and_eq_true] at h
  exact ⟨.inr h.1,.inr h.2⟩
theorem lY {b:Frame}{k:List Item}{cs:List Frame}{c:Code}:step P (lone (b.atR a (.code (.scope c)::k)) cs w)=.next (lone (b.atR a (.code c::.inScope c::k)) cs w):=
 step_lone_go (by simp [stepG,stepG.exec,Frame.atR])
theorem J9 {b:Frame}{k:List Item}{cs:List Frame}{c:Code}:step P (lone (b.atR a (.inScope c::k)) cs w)=.next (lone (b.atR a k) cs w):=
 step_lone_go (by simp [stepG,stepG.exec,Frame.atR])
theorem VA {E:Fence}{m:Nat}{Q:Exit→Act→World→Prop}{c:Code}(h:c.wpIn E m P (Exit.noGoto Q) a w):(Code.scope c).wpIn E m P Q a w:=by
 intro b k cs hro hb hr
 have h0:(lone (b.atR a (.code (.scope c)::k)) cs w).fenced P E:=fenced_calm hb hr rfl
 obtain ⟨e,a₁,w₁,hq,harr⟩:=h b (.inScope c::k) cs hro hb hr
 cases e with
 |normal=>exact ⟨.normal,a₁,w₁,hq,.head h0 lY (StepsIn.trans harr (.one (fenced_calm hb hr rfl) J9))⟩
 | exit id'=>
  have hx:exitTo id' (.inScope c::k)=exitTo id' k:=by simp [exitTo]
  exact ⟨.exit id',a₁,w₁,hq,fun k' hk=> .head h0 lY (harr.1 k' (by rw [hx];exact hk)),
   fun hr' hk=>let ⟨k₁,h1,h2⟩:=harr.2 hr' (by rw [hx];exact hk);⟨k₁,h1,.head h0 lY h2⟩⟩
 |goto l=>exact hq.elim
 |ret=>exact ⟨_,a₁,w₁,hq,.of_steps (.one h0 lY) harr⟩
 |panic ch=>exact ⟨_,a₁,w₁,hq,.of_steps (.one h0 lY) harr⟩
 |outgrown=>exact ⟨_,a₁,w₁,hq,.of_steps (.one h0 lY) harr⟩
theorem aZ {L:L8} (hΓ:∀g S,Γ g=some S→Valid P G g S) (hK:cO P G K):∀(c:Code),(∀b∈ay c,bG P G A (.loop b) (L b))→bG P G A c (jb P G Γ K L c)
 | .skip,_=>fun r w0 Z0 Z β F H a w ds Q x F' H' hA hr hD hW hF h hQ=>by
  simp only [jb,T.all,Prod.mk.injEq] at h
  obtain ⟨rfl,rfl,rfl⟩:=h
  exact wpIn_skip (hQ ds Z β a w hD hW hF)
 | .ret,_=>fun r w0 Z0 Z β F H a w ds Q x F' H' hA hr hD hW hF h hQ=>by
  simp only [jb,T.all,Prod.mk.injEq] at h
  obtain ⟨rfl,rfl,rfl⟩:=h
  exact wpIn_ret (hQ ds Z β a w hD hW hF)
 | .exit m,_=>fun r w0 Z0 Z β F H a w ds Q x F' H' hA hr hD hW hF h hQ=>by
  simp only [jb,T.all,Prod.mk.injEq] at h
  obtain ⟨rfl,rfl,rfl⟩:=h
  exact wpIn_exit (hQ ds Z β a w hD hW hF)
 | .region id ops d,_=>fun r w0 Z0 Z β F H a w ds Q x F' H' hA hr hD hW hF h hQ=>by
  simp only [jb] at h
  obtain ⟨⟨F1,H1⟩,h1,h2⟩:=T.aU h
  simp only [T.all,Prod.mk.injEq] at h2
  obtain ⟨rfl,rfl,rfl⟩:=h2
  cases d with
  |true=>exact TV hΓ hK (fun Z' β' a' w' e1 e2=>hQ ds Z' β' a' w' hD e1 e2) hW hF h1 r 0
  |false=>exact adL hΓ hK (fun Z' β' a' w' e1 e2=>hQ ds Z' β' a' w' hD e1 e2) hW hF h1 r 0
 | .seq c1 c2,hl=>fun r w0 Z0 Z β F H a w ds Q x F' H' hA hr hD hW hF h hQ=>by
  simp only [jb] at h
  obtain ⟨⟨y,F1,H1⟩,h1,h2⟩:=T.aU h
  obtain ⟨hr1,hr2⟩:=aas (show r=none∨(zn c1&&zn c2)=true from hr)
  refine wpIn_seq (aZ hΓ hK c1 (fun b hb=>hl b (by simp [ay,hb])) r w0 Z0 Z β F H a w ds _ y F1 H1 hA hr1 hD hW hF h1 fun ds' Z' β' a' w' e0 e1 e2=>?_)
  cases y with
  |normal=>exact aZ hΓ hK c2 (fun b hb=>hl b (by simp [ay,hb])) r w0 Z0 Z' β' F1 H1 a' w' ds' Q x F' H' hA hr2 e0 e1 e2 h2 hQ
  |exit m=>
   simp only [T.all,Prod.mk.injEq] at h2
   obtain ⟨rfl,rfl,rfl⟩:=h2
   exact hQ ds' Z' β' a' w' e0 e1 e2
  |ret=>
   simp only [T.all,Prod.mk.injEq] at h2
   obtain ⟨rfl,rfl,rfl⟩:=h2
   exact hQ ds' Z' β' a' w' e0 e1 e2
 | .cond c c1 c2,hl=>fun r w0 Z0 Z β F H a w ds Q x F' H' hA hr hD hW hF h hQ=>by
  have s1:=aZ hΓ hK c1 (fun b hb=>hl b (by simp [ay,hb]))
  have s2:=aZ hΓ hK c2 (fun b hb=>hl b (by simp [ay,hb]))
  obtain ⟨hr1,hr2⟩:=aas (show r=none∨(zn c1&&zn c2)=true from hr)
  simp only [jb] at h
  split at h
  ·rename_i d
   split at h
   ·rename_i hb
    obtain ⟨q1,q2⟩:=hF.slot hb (by simp)
    have hv:=(hF.get d _ q1).1
    simp only [R] at hv
    exact wpIn_cond_true (by simp only [Act.eval];exact hv) (s1 r w0 Z0 Z β F H a w ds Q x F' H' hA hr1 hD hW hF h hQ)
   ·rename_i hb
    obtain ⟨q1,q2⟩:=hF.slot hb (by simp)
    have hv:=(hF.get d _ q1).1
    simp only [R] at hv
    exact wpIn_cond_false (by simp only [Act.eval];exact hv) (s2 r w0 Z0 Z β F H a w ds Q x F' H' hA hr2 hD hW hF h hQ)
   ·rename_i g hb
    obtain ⟨q1,q2⟩:=hF.slot hb (by simp)
    have hv:=(hF.get d _ q1).1
    simp only [R] at hv
    have kn:∀b,g=b→RF ds β Z w H.length (F.set d (.bl b)) a:=fun b e=>hF.know (by simp only [R];rw [hv,e]) trivial
    simp only [T.all] at h
    refine wpIn_cond_split (t:=g) (by simp only [Act.eval];exact hv) (fun hg=>s1 r w0 Z0 Z β _ H a w ds Q x F' H' hA hr1 hD hW (kn true hg) (h.1 hg) hQ) (fun hg=>s2 r w0 Z0 Z β _ H a w ds Q x F' H' hA hr2 hD hW (kn false hg) (h.2 hg) hQ)
   ·cases h
  ·exact wpIn_cond_true rfl (s1 r w0 Z0 Z β F H a w ds Q x F' H' hA hr1 hD hW hF h hQ)
  ·exact wpIn_cond_false rfl (s2 r w0 Z0 Z β F H a w ds Q x F' H' hA hr2 hD hW hF h hQ)
  ·cases h
 | .block id c,hl=>fun r w0 Z0 Z β F H a w ds Q x F' H' hA hr hD hW hF h hQ=>by
  simp only [jb] at h
  obtain ⟨⟨y,F1,H1⟩,h1,h2⟩:=T.aU h
  refine wpIn_block (aZ hΓ hK c (fun b hb=>hl b (by simpa [ay] using hb)) r w0 Z0 Z β F H a w ds _ y F1 H1 hA hr hD hW hF h1 fun ds' Z' β' a' w' e0 e1 e2=>?_)
  cases y with
  |normal=>
   simp only [T.all,Prod.mk.injEq] at h2
   obtain ⟨rfl,rfl,rfl⟩:=h2
   exact hQ ds' Z' β' a' w' e0 e1 e2
  | exit m=>
   simp only at h2
   simp only [ava,Exit.inBlock]
   split at h2
   ·rename_i hm
    simp only [T.all,Prod.mk.injEq] at h2
    obtain ⟨rfl,rfl,rfl⟩:=h2
    rw [if_pos hm];exact hQ ds' Z' β' a' w' e0 e1 e2
   ·rename_i hm
    simp only [T.all,Prod.mk.injEq] at h2
    obtain ⟨rfl,rfl,rfl⟩:=h2
    rw [if_neg hm];exact hQ ds' Z' β' a' w' e0 e1 e2
  |ret=>
   simp only [T.all,Prod.mk.injEq] at h2
   obtain ⟨rfl,rfl,rfl⟩:=h2
   exact hQ ds' Z' β' a' w' e0 e1 e2
 | .loop b,hl=>hl b (by simp [ay])
 | .rangeFunc g ps asg body,_=>fun r w0 Z0 Z β F H a w ds Q x F' H' hA hr hD hW hF h hQ=>by
  have hr0:r=none:=by
   rcases hr with h|h
   ·exact h
   ·simp [zn] at h
  subst hr0
  simp only [jb] at h
  split at h
  ·rename_i gf cap hg
   split at h
   ·rename_i fn hfn
    split at h
    ·rename_i hb
     simp only [Bool.and_eq_true,Bool.not_eq_true'] at hb
     obtain ⟨⟨lv,H1⟩,h1,h2⟩:=T.aU h
     simp only at h2
     have hgr:=hF.eval hW.jh g
     rw [hg] at hgr
     simp only [R,okV] at hgr
     obtain ⟨⟨ys,hy,hyr⟩,hcap⟩:=hgr
     split at h2
     ·rename_i x' hx'
      simp only [T.all,Prod.mk.injEq] at h2
      obtain ⟨rfl,rfl,rfl⟩:=h2
      refine wpIn_rangeFunc ?_
      intro fn0 _
      have hb1:Below w.heap.size w (w.alloc (.deferred (some []))):=(Below.refl _ _).alloc (Nat.le_refl _) _
      have hWd:=hW.call hb1
      generalize hrec:({state:=.ready,pending:=none,fn:=fn0,tmps:=a.tmps,params:=ps,assign:=asg,body:=body,defers:=w.heap.size}:Loop)=rec0 at*
      generalize hwd:w.alloc (.deferred (some []))=wd at*
      have hsd:wd.heap.size=w.heap.size+1:=by rw [←hwd];simp [World.size_alloc]
      have hmd:pK wd w.heap.size:=by rw [←hwd];exact World.alloc_heap_new w _
      have hb2:Below wd.heap.size wd (wd.alloc (.loop rec0)):=(Below.refl _ _).alloc (Nat.le_refl _) _
      have hW1:=hWd.same hb2
      generalize hw1:wd.alloc (.loop rec0)=w1 at*
      have hl1:w1.heap[wd.heap.size]? =some (.loop rec0):=by rw [←hw1];exact World.alloc_heap_new wd _
      have hF1:RF ds β (fun b=>Z b∨(w.heap.size≤b∧b<wd.heap.size)) w1 H.length F a:=hF.mono (Nat.le_refl _) (fun _ _=>rfl) (fun _ h=> .inl h) (fun b hz=>by
       have hlt:=hW.mJ b hz
       rw [bT hb2 (by omega),bT hb1 hlt])
      have hm1:pK w1 w.heap.size:=by unfold pK;rw [bT hb2 (by omega)];exact hmd
      have hF2:RF (jQ w.heap.size::ds) β (fun b=>Z b∨(w.heap.size≤b∧b<wd.heap.size)) w1 H.length F {a with defers:=jQ w.heap.size::a.defers}:=by
       refine ⟨hF1.size,hF1.get,by rw [hF1.defers.1],fun d hd=>?_⟩
       rcases List.mem_cons.1 hd with rfl|hd
       ·exact ⟨_,rfl,.inr ⟨Nat.le_refl _,by omega⟩,hm1⟩
       ·exact hF1.defers.2 d hd
      have hD2:JM w0 Z0 (jQ w.heap.size::ds):=by
       refine ⟨fun D hd=>?_,List.nodup_cons.2 ⟨fun hd=>?_,hD.nodup⟩⟩
       ·rcases List.mem_cons.1 hd with hd|hd
        ·simp only [jQ,Deferred.mk.injEq,Target.collected.injEq] at hd
         rw [hd.1]
         exact ⟨hW.below.size,fun hm=>by have:=(hW.rQ _ hm).2.lt;omega⟩
        ·exact hD.new D hd
       ·obtain ⟨D,e1,_,e3⟩:=hF.defers.2 _ hd
        simp only [jQ,Deferred.mk.injEq,Target.collected.injEq] at e1
        have:=e3.lt
        omega
      obtain ⟨fr1,fr2⟩:=hF1.RL
      obtain ⟨fr1,fr2⟩:=ahl (mO asg++mO body) fr1 fr2
      obtain ⟨β2,b1,b2,hW2⟩:=hW1.xG (ℓ:=⟨wd.heap.size,0,none⟩) (nb:=⟨Ar (mO asg++mO body) F,0,.lG ps asg body .ready,false⟩) rfl ⟨dP.mono (by omega) _ fr2,trivial⟩ (fun _=>⟨fun hz=>by
        rcases hz with hz|hz
        ·have:=hW.mJ _ hz;simp only at this;omega
        ·simp only at hz;omega,by have:=hW.below.size;simp only;omega,fun j bj hj lj e=>by have:=hW.lt hj lj;simp only at e;omega⟩) (fun β' q1 q2=>by
       simp only [fP,q2]
       refine ⟨rec0,hl1,by rw [←hrec],by rw [←hrec],by rw [←hrec],by rw [←hrec];exact ⟨rfl,rfl⟩,?_⟩
       rw [←hrec]
       exact RL.mono q1 (fun _ h=>h) (fun _ _=>rfl) _ _ fr2 fr1)
      have hF3:RF (jQ w.heap.size::ds) β2 (fun b=>Z b∨(w.heap.size≤b∧b<wd.heap.size)) w1 (H++[(⟨Ar (mO asg++mO body) F,0,.lG ps asg body .ready,false⟩:aS)]).length F {a with defers:=jQ w.heap.size::a.defers}:=hF2.mono (by simp) b1 (fun _ h=>h) (fun _ _=>rfl)
      have hW3:=hW2.hold hF3
      have hyl:R β2 (fun b=>Z b∨(w.heap.size≤b∧b<wd.heap.size)) w1 (.vK H.length) (.func (.yield wd.heap.size) #[] #[]):=by simp only [R,b2]
      have hW4:RW G w0 ⟨Z0.z,(LV.vK H.length,Value.func (.yield wd.heap.size) #[] #[])::(F.zip a.tmps.toList++Z0.gh),dsB (jQ w.heap.size::ds)++Z0.rQ⟩ (fun b=>Z b∨(w.heap.size≤b∧b<wd.heap.size)) β2 (H++[⟨Ar (mO asg++mO body) F,0,.lG ps asg body .ready,false⟩]) w1:=
       ⟨hW3.below,hW3.mJ,hW3.tq,hW3.lu,hW3.vV,hW3.low,hW3.inj,hW3.blk,hW3.jh,fun p hp=>by
        rcases List.mem_cons.1 hp with rfl|hp
        ·exact ⟨hyl,by simp [okV]⟩
        ·exact hW3.gh p hp,hW3.rQ⟩
      have hyr2:RL β2 (fun b=>Z b∨(w.heap.size≤b∧b<wd.heap.size)) w1 cap ys.toList:=RL.mono (n:=H.length) b1 (fun _ h=> .inl h) (fun b hz=>by
       have hlt:=hW.mJ b hz
       rw [bT hb2 (by omega),bT hb1 hlt]) _ _ hcap hyr
      have hbn:¬fn.body=none:=by intro hbb;simp [hbb] at hb
      have hb3:¬fn.name= "runtime.NumGoroutine":=by simpa using hb.2
      have eg:∀args w,(callFunc gf args).run P w=.ok (.enter gf args) w:=fun args w=>by simp [callFunc,hfn,hb3,hbn]
      refine ⟨wd.heap.size,[jQ w.heap.size],w1,{target:=.fn (.func gf) ys,args:=#[.func (.yield wd.heap.size) #[] #[]]},w1,gf,#[.func (.yield wd.heap.size) #[] #[]]++ys,w1,?_,?_,fun _ _=>trivial,?_,fun h=>(by cases h),callsIn_wide.2 ?_⟩
      ·have:=run_enterLoop_outer (P:=P) (w:=w) fn0 a.tmps ps asg body
       rw [hrec,hwd,hw1,←hsd] at this
       exact this
      ·simp only [resolve,hy]
       simp [go_sem]
      ·simp [invoke,go_sem,eg]
      ·refine (hK.k w0 _ _ β2 _ w1 gf (.vK H.length::cap) _ lv H1 hW4 (by simp only [Array.toList_append,RL];exact ⟨_,ys.toList,rfl,hyl,hyr2⟩) ⟨by simp [okV],dP.mono (by simp) _ hcap⟩ h1).mono fun e w2 ⟨v,he,Z',β',r1,r2,r3⟩=>?_
       subst he
       have hat:(β' H.length).b=wd.heap.size:=by
        have:=(r1.gh (LV.vK H.length,Value.func (.yield wd.heap.size) #[] #[]) (by simp)).1
        simp only [R,Value.func.injEq,Fn.yield.injEq] at this
        exact this.1.symm
       have r1':RW G w0 ⟨Z0.z,F.zip a.tmps.toList++Z0.gh,dsB (jQ w.heap.size::ds)++Z0.rQ⟩ Z' β' H1 w2:=⟨r1.below,r1.mJ,r1.tq,r1.lu,r1.vV,r1.low,r1.inj,r1.blk,r1.jh,fun p hp=>r1.gh p (List.mem_cons_of_mem _ hp),r1.rQ⟩
       have hF5:=RW.held hF3 r1'
       have hW5:RW G w0 Z0 Z' β' H1 w2:=r1'.less
       obtain ⟨c',t',ps',asg',body',hx⟩:=Tn hx'
       have fin:∀st,H1[H.length]? =some ⟨c',t',.lG ps' asg' body' st,false⟩→∃rr,w2.heap[wd.heap.size]? =some (.loop rr)∧LsR st rr∧∀rr',RW G w0 Z0 Z' β' (H1.set H.length ⟨[],0,.dead,false⟩) (w2.putObj wd.heap.size (.loop rr'))∧RF (jQ w.heap.size::ds) β' Z' (w2.putObj wd.heap.size (.loop rr')) (H1.set H.length ⟨[],0,.dead,false⟩).length F {a with defers:=jQ w.heap.size::a.defers}:=fun st hst=>by
        have hbk:=(hW5.blk _ _ hst).1
        simp only [fP,hat] at hbk
        obtain ⟨rr,q1,q2,q3,q4,q5,q6⟩:=hbk
        refine ⟨rr,q1,q5,fun rr'=>?_⟩
        have hs:=hW5.set (nb:=⟨[],0,.dead,false⟩) (w':=w2.putObj wd.heap.size (.loop rr')) hst trivial rfl rfl ⟨trivial,trivial⟩ (putObj_size _ _ _) ⟨rfl,rfl,rfl⟩ (fun j hj=>World.putObj_heap_other (by rw [hat] at hj;exact hj)) trivial
        refine ⟨hs,?_⟩
        rw [List.length_set]
        exact hF5.mono (Nat.le_refl _) (fun _ _=>rfl) (fun _ h=>h) (fun b hz=>World.putObj_heap_other (fun e=>hW5.lu _ _ hst trivial rfl (by rw [hat,←e];exact hz)))
       rcases hx with ⟨hx,rfl⟩ |⟨hx,hne⟩
       ·obtain ⟨rr,q1,q2,q3⟩:=fin _ hx
        refine ⟨none,w2.putObj wd.heap.size (.loop {rr with state:=.exhausted}),(run_endLoop q1 (by rw [q2.1];simp)).trans (by rw [q2.2]),?_⟩
        obtain ⟨f1,f2⟩:=q3 {rr with state:=.exhausted}
        exact hQ _ Z' β' _ _ hD2 f1 f2
       ·obtain ⟨rr,q1,q2,q3⟩:=fin _ hx
        refine ⟨aiH x',w2.putObj wd.heap.size (.loop {rr with state:=.exhausted}),(run_endLoop q1 (by rw [q2.1];simp)).trans (by rw [q2.2]),?_⟩
        obtain ⟨f1,f2⟩:=q3 {rr with state:=.exhausted}
        cases x' with
        |normal=>exact absurd rfl hne
        |exit m=>exact wpIn_exit (hQ _ Z' β' _ _ hD2 f1 f2)
        |ret=>exact wpIn_ret (hQ _ Z' β' _ _ hD2 f1 f2)
     ·cases h2
    ·cases h
   ·cases h
  ·cases h
 | .scope c,hl=>fun r w0 Z0 Z β F H a w ds Q x F' H' hA hr hD hW hF h hQ=>by
  simp only [jb] at h
  refine VA (aZ hΓ hK c (fun b hb=>hl b (by simpa [ay] using hb)) r w0 Z0 Z β F H a w ds _ x F' H' hA hr hD hW hF h fun ds' Z' β' a' w' e0 e1 e2=>?_)
  cases x with
  |normal=>exact hQ ds' Z' β' a' w' e0 e1 e2
  |exit m=>exact hQ ds' Z' β' a' w' e0 e1 e2
  |ret=>exact hQ ds' Z' β' a' w' e0 e1 e2
 | .label l,_=>fun r w0 Z0 Z β F H a w ds Q x F' H' hA hr hD hW hF h hQ=>by
  simp only [jb,T.all,Prod.mk.injEq] at h
  obtain ⟨rfl,rfl,rfl⟩:=h
  exact wpIn_label (hQ ds Z β a w hD hW hF)
 | .goto ..,_=>fun r w0 Z0 Z β F H a w ds Q x F' H' hA hr hD hW hF h hQ=>by simp only [jb,T.all] at h
 | .refuse ..,_=>fun r w0 Z0 Z β F H a w ds Q x F' H' hA hr hD hW hF h hQ=>by simp only [jb,T.all] at h
theorem bI {L:CQ}(hΓ:∀g S,Γ g=some S→Valid P G g S) (hK:cO P G K) (c:Code) (hl:∀b∈ay c,Sound P G (.loop b) (L (pG b))):Sound P G c (jb P G Γ K (Ud L) c):=aZ (L:=Ud L) hΓ hK c hl
def axW (a:Act):ResultVar→Sem Value
 | .tmp t=>pure (a.tmps.getD t undef)
 | .cell ad t=>do loadVar t (←asAddr (a.tmps.getD ad undef))
theorem Oa (fn:Func) (a:Act):results fn a.tmps=(do let vs ←fn.results.mapM (axW a);pure (if h:vs.size=1 then vs[0] else .tuple vs)):=by
 unfold results
 congr 1
theorem Ll {f:ResultVar→Sem Value}{r:ResultVar}{rs:List ResultVar}{z:Value}{vs:List Value}(h1:(f r).run P w=.ok z w) (h2:(rs.mapM f).run P w=.ok vs w):((r::rs).mapM f).run P w=.ok (z::vs) w:=by
 rw [List.mapM_cons]
 simp only [Sem.run_bind,h1,h2,Result.andThen_ok,Sem.run_pure]
theorem qI {fn:Func}:∀(rs:List ResultVar) (l:List LV),RW G w0 Z0 Z β H w→RF ds β Z w H.length F a→(Kr P fn F H rs).all (fun q=>q=l)→
  ∃vs:List Value,(rs.mapM (axW a)).run P w=.ok vs w∧RL β Z w l vs∧dP H.length l
 | [],l,hW,hF,h=>by
  simp only [Kr,T.all] at h
  subst h
  exact ⟨[],by simp,by simp [RL],trivial⟩
 | .tmp t::rs,l,hW,hF,h=>by
  simp only [Kr] at h
  obtain ⟨l1,h1,h2⟩:=T.aU h
  simp only [T.all] at h2
  obtain ⟨vs,e1,e2,e3⟩:=qI rs l1 hW hF h1
  have ev:=hF.eval hW.jh (.tmp t)
  simp only [aK,Act.eval] at ev
  refine ⟨a.tmps.getD t undef::vs,?_,?_,?_⟩
  ·exact Ll rfl e1
  ·rw [←h2];simp only [RL];exact ⟨_,_,rfl,sO ev.1,e2⟩
  ·rw [←h2];exact ⟨rP ev.2,e3⟩
 | .cell ad t::rs,l,hW,hF,h=>by
  simp only [Kr] at h
  obtain ⟨y,h1,h2⟩:=T.aU h
  obtain ⟨l1,h3,h4⟩:=T.aU h2
  simp only [T.all] at h4
  obtain ⟨vs,e1,e2,e3⟩:=qI rs l1 hW hF h3
  have ev:=hF.eval hW.jh (.tmp ad)
  simp only [aK,Act.eval] at ev
  obtain ⟨z,f1,f2,f3⟩:=rX hW h1 ev.1 ev.2
  have f1:=f1 w (fun _ _=>rfl)
  have f4:(do loadVar t (←asAddr (a.tmps.getD ad undef)):Sem Value).run P w=.ok z w:=by
   have hp:∃q,a.tmps.getD ad undef=.pointer (some q):=by
    have hr:=ev.1
    generalize hx:F.getD ad .junk=x at h1 hr
    cases x with
    |own k off=>simp only [R] at hr;exact ⟨_,hr⟩
    |xq n f=>simp only [R] at hr;obtain ⟨b,off,e,_⟩:=hr;exact ⟨_,e⟩
    |op k es i j=>simp only [R] at hr;exact ⟨_,hr.2⟩
    |_=>unfold vO at h1;split at h1<;>simp only [T.all] at h1
   obtain ⟨q,hq⟩:=hp
   rw [hq] at f1⊢
   simpa [Instr.loadAt,Instr.sureAddr,asAddr] using f1
  refine ⟨z::vs,?_,?_,?_⟩
  ·exact Ll f4 e1
  ·rw [←h4];simp only [RL];exact ⟨_,_,rfl,f2,e2⟩
  ·rw [←h4];exact ⟨f3,e3⟩
theorem agl {l:List LV}{vs:List Value}(h:RL β Z w l vs):R β Z w (one l) (if hs:vs.toArray.size=1 then vs.toArray[0] else .tuple vs.toArray):=by
 unfold one
 have hl:=RL.length h
 split
 ·rename_i x
  simp only [RL] at h
  obtain ⟨y,zs,e1,e2,e3⟩:=h
  subst e1 e3
  simpa using e2
 ·rename_i hne
  have:¬vs.toArray.size=1:=by
   intro h1
   simp at h1
   rw [h1] at hl
   cases l with
   |nil=>simp at hl
   |cons x xs=>cases xs with
    |nil=>exact hne x rfl
    |cons _ _=>simp at hl
  rw [dif_neg this]
  exact O9 (by simpa using h)
theorem wS {l:List LV}(h:dP n l):okV n (one l):=by
 unfold one
 split
 ·exact h.1
 ·exact Il h
theorem IV {args:List LV}{vals:Array Value}(hr:RL β Z w args vals.toList) (hok:dP H.length args) (m:Nat):RF [] β Z w H.length (args++List.replicate (m-args.length) (.v undef)) {tmps:=vals++Array.replicate (m-vals.size) undef,defers:=[]}:=by
 have hlen:vals.size=args.length:=by have:=RL.length hr;simpa using this
 refine ⟨by simp [hlen],fun t x hx=>?_,rfl,fun _ h=>by cases h⟩
 by_cases ht:t<args.length
 ·rw [List.getElem?_append_left ht] at hx
  obtain ⟨y,e1,e2⟩:=RL.get _ _ hr hx
  have e3:(vals++Array.replicate (m-vals.size) undef).getD t undef=y:=by
   have hts:t<vals.size:=by omega
   have:vals[t]? =some y:=by simpa using e1
   rw [Array.getD_eq_getD_getElem?,Array.getElem?_append_left hts,this];rfl
  exact ⟨by rw [e3];exact e2,dP.get _ _ hok hx⟩
 ·rw [List.getElem?_append_right (by omega)] at hx
  have hx':x=.v undef:=by
   rw [List.getElem?_replicate] at hx
   split at hx
   ·simpa using hx.symm
   ·cases hx
  have e3:(vals++Array.replicate (m-vals.size) undef).getD t undef=undef:=by
   rw [Array.getD_eq_getD_getElem?,Array.getElem?_append_right (by omega),Array.getElem?_replicate]
   split<;>rfl
  rw [hx',e3]
  exact ⟨by simp only [R],trivial⟩
theorem yP {b:Code}:bG P G A (.loop b) (FW b):=fun _ _ _ _ _ _ _ _ _ _ _ _ _ _ _ _ _ _ _ h=>by cases h
theorem NG {b:Code}{t:List LV→List aS→T (Ex×List LV×List aS)}(hb:bG P G A b t) (m:Nat):bG P G A (.loop b) (NH t m):=by
 intro r w0 Z0 Z β F H a w ds Q x F' H' hA hr hD hW hF h hQ
 refine wpIn_loop_rounds m ?_
 induction m generalizing Z β F H a w ds with
 |zero=>cases h
 | succ m ih=>
  rw [roundsIn_succ]
  simp only [NH] at h
  obtain ⟨⟨y,F1,H1⟩,h1,h2⟩:=T.aU h
  refine hb r w0 Z0 Z β F H a w ds _ y F1 H1 hA hr hD hW hF h1 fun ds' Z' β' a' w' e0 e1 e2=>?_
  cases y with
  |normal=>exact ih Z' β' F1 H1 a' w' ds' e0 e1 e2 h2
  |exit k=>
   simp only [T.all,Prod.mk.injEq] at h2
   obtain ⟨rfl,rfl,rfl⟩:=h2
   exact hQ ds' Z' β' a' w' e0 e1 e2
  |ret=>
   simp only [T.all,Prod.mk.injEq] at h2
   obtain ⟨rfl,rfl,rfl⟩:=h2
   exact hQ ds' Z' β' a' w' e0 e1 e2
theorem cu (hΓ:∀g S,Γ g=some S→Valid P G g S) (hK:cO P G K) (m:Nat):∀(d:Nat) (b:Code),bG P G A (.loop b) (mP P G Γ K m d b)
 |0,_=>yP
 |d+1,b=>NG (aZ hΓ hK b (fun b' _=>cu hΓ hK m d b')) m
theorem Sv:∀(ts:List Tmp) (xs:List LV) (vs:List Value) (F:List LV) (a:Act),RF ds β Z w n F a→RL β Z w xs vs→dP n xs→RF ds β Z w n (KO F ts xs) {a with tmps:=(ts.zip vs).foldl (fun t (p,v)=>t.setIfInBounds p v) a.tmps}
 | [],_,_,F,a,hF,_,_=>by simpa [KO] using hF
 |_::_,[],vs,F,a,hF,hr,_=>by
  simp only [RL] at hr
  subst hr
  simpa [KO] using hF
 |t::ts,x::xs,vs,F,a,hF,hr,hk=>by
  simp only [RL] at hr
  obtain ⟨y,zs,rfl,h1,h2⟩:=hr
  simp only [KO,List.zip_cons_cons,List.foldl_cons]
  exact Sv ts xs zs (F.set t x) {a with tmps:=a.tmps.setIfInBounds t y} (hF.put h1 hk.1 (some t)) h2 hk.2
theorem aew (ps:Array Tmp) (vs:Array Value) (t:Array Value):(ps.zip vs).foldl (fun t (p,v)=>t.setIfInBounds p v) t=(ps.toList.zip vs.toList).foldl (fun t (p,v)=>t.setIfInBounds p v) t:=by
 rw [←Array.foldl_toList,Array.toList_zip]
def Qr (P:Program) (G:dB) (LL:sG):Prop:=∀(K:Hand) (g:FuncId) (fn:Func) (c:Code) (N:Nat) (b:Code),cO P G K→P.funcs[g]? =some fn→fn.body=some c→b∈ay c→bG P G (AN N) (.loop b) (LL K g N b)
theorem RW.ghost {p:LV×Value}(hW:RW G w0 Z0 Z β H w) (h:R β Z w p.1 p.2∧okV H.length p.1):RW G w0 ⟨Z0.z,p::Z0.gh,Z0.rQ⟩ Z β H w:=
 ⟨hW.below,hW.mJ,hW.tq,hW.lu,hW.vV,hW.low,hW.inj,hW.blk,hW.jh,fun q hq=>by
  rcases List.mem_cons.1 hq with rfl|hq
  ·exact h
  ·exact hW.gh q hq,hW.rQ⟩
theorem RW.akI {p:LV×Value}(hW:RW G w0 ⟨Z0.z,p::Z0.gh,Z0.rQ⟩ Z β H w):RW G w0 Z0 Z β H w:=
 ⟨hW.below,hW.mJ,hW.tq,hW.lu,hW.vV,hW.low,hW.inj,hW.blk,hW.jh,fun q hq=>hW.gh q (List.mem_cons_of_mem _ hq),hW.rQ⟩
theorem wI {LL:sG} {K:Hand} (hΓ:∀g S,Γ g=some S→Valid P G g S) (hLL:Qr P G LL) (hK:cO P G K):cO P G (yN P G Γ LL K):=by
  refine ⟨fun w0 Z0 Z β H w g args vals lv H' hW hr hok h=>?_,fun w0 Z0 Z β H w k args vals lv H' hW hr hok h=>?_⟩
  ·simp only [yN] at h
   split at h
   ·rename_i fn hfn
    split at h
    ·rename_i c hc
     obtain ⟨⟨x,F1,H1⟩,h1,h2⟩:=T.aU h
     refine callsIn_wide.1 (callsIn_of_wp_marks (n:=0) hfn hc trivial ?_)
     refine aZ (A:=AN H.length) (L:=LL K g H.length) hΓ hK c (fun b hb=>hLL _ g fn c H.length b hK hfn hc hb) none w0 Z0 Z β _ H _ w [] _ x F1 H1 (fun p hp=>(hW.gh p hp).2) (.inl rfl) JM.nil hW (IV hr hok fn.ntmps) h1 fun ds' Z' β' a' w' e0 e1 e2=>?_
     have fin:((Kr P fn F1 H1 fn.results.toList).bind fun l=>(T.ok (one l,H1):T (LV×List aS))).all (fun q=>q=(lv,H'))→LeavesInM Fence.wide 0 P fn a'.tmps (fun e w'=>∃v,e=.returned v∧∃Z' β',RW G w0 Z0 Z' β' H' w'∧R β' Z' w' lv v∧okV H'.length lv) a'.defers .returning w':=fun h2=>by
      rw [e2.defers.1]
      refine wY ds' w' a' e1 e2 e0 fun w'' a'' et f1 f2=>?_
      obtain ⟨l,g1,g2⟩:=T.aU h2
      simp only [T.all,Prod.mk.injEq] at g2
      obtain ⟨g2,g3⟩:=g2
      subst g3
      obtain ⟨vs,g3,g4,g5⟩:=qI fn.results.toList l f1 f2 g1
      refine ⟨if hs:vs.toArray.size=1 then vs.toArray[0] else .tuple vs.toArray,?_,_,rfl,Z',β',f1,?_,?_⟩
      ·rw [←et,Oa,Array.mapM_eq_mapM_toList]
       simp only [Sem.run_bind,Sem.run_map,g3,Result.andThen_ok,Sem.run_pure]
      ·rw [←g2];exact agl g4
      ·rw [←g2];exact wS g5
     cases x with
     |normal=>exact fin h2
     |ret=>exact fin h2
     |exit m=>cases h2
    ·cases h
   ·cases h
  ·simp only [yN] at h
   split at h
   ·rename_i Fr t ps asg body hb
    split at h
    ·rename_i hc
     obtain ⟨hc1,hc2,hc3⟩:=hc
     obtain ⟨⟨y,F1,H1⟩,h1,h2⟩:=T.aU h
     have hbk:=(hW.blk k _ hb).1
     simp only [fP] at hbk
     obtain ⟨rr,q1,q2,q3,q4,q5,q6⟩:=hbk
     have hokF:dP H.length Fr:=(hW.blk k _ hb).2.1
     have hvl:vals.size=args.length:=by have:=RL.length hr;simpa using this
     have hkH:k<H.length:=(List.getElem?_eq_some_iff.1 hb).1
     refine ⟨rr,q1,by rw [q2,hvl,hc1],?_⟩
     have hF0:RF [] β Z w H.length Fr {tmps:=rr.tmps,defers:=[]}:=by
      refine ⟨by have:=RL.length q6;simpa using this,fun i x hx=>?_,rfl,fun _ h=>by cases h⟩
      obtain ⟨v,e1,e2⟩:=RL.get i x q6 hx
      refine ⟨?_,dP.get i x hokF hx⟩
      have:rr.tmps.getD i undef=v:=by
       rw [Array.getD_eq_getD_getElem?]
       have:rr.tmps[i]? =some v:=by simpa using e1
       rw [this];rfl
      rw [this];exact e2
     have hF1:=Sv ps.toList args vals.toList Fr _ hF0 hr hok
     generalize hl:(β k).b=l at*
     have hyl:R β Z w (.vK k) (.func (.yield l) #[] #[]):=by simp only [R,hl]
     have hW1:=hW.ghost (p:=(LV.vK k,Value.func (.yield l) #[] #[])) ⟨hyl,hkH⟩
     have atl:∀ {Z':Nat→Prop} {β':Nat→Loc} {H':List aS} {w':World},RW G w0 ⟨Z0.z,(LV.vK k,Value.func (.yield l) #[] #[])::Z0.gh,Z0.rQ⟩ Z' β' H' w'→(β' k).b=l:=fun r1=>by
      have:=(r1.gh (LV.vK k,Value.func (.yield l) #[] #[]) (by simp)).1
      simp only [R,Value.func.injEq,Fn.yield.injEq] at this
      exact this.1.symm
     refine roundIn_of_wpIn trivial ?_
     rw [q3,q4,q2,aew]
     refine aZ (A:=fun _=>True) (L:=FW) hΓ hK asg (fun b _=>yP) (some l) w0 _ Z β _ H _ w [] _ y F1 H1 trivial (.inr hc2) JM.nil hW1 hF1 h1 fun ds1 Z1 β1 a1 w1 e0 e1 e2=>?_
     simp only at h2
     cases y with
     |exit m=>cases h2
     |ret=>cases h2
     | normal=>
      simp only at h2
      split at h2
      ·rename_i Fr1 t1 ps1 asg1 body1 hb1
       obtain ⟨⟨x,F2,H2⟩,h3,h4⟩:=T.aU h2
       have hbk1:=(e1.blk k _ hb1).1
       simp only [fP] at hbk1
       obtain ⟨r1,p1,p2,p3,p4,p5,p6⟩:=hbk1
       have a1l:=atl e1
       rw [a1l] at p1
       refine ⟨_,run_beginRound p1 p5.1,?_⟩
       obtain ⟨t1a,t1b⟩:=RW.turn (t':=t) (nb:=.lG ps1 asg1 body1 .busy) (r':={r1 with state:=.busy}) e1 hb1 (by
        simp only [fP]
        rw [a1l]
        exact ⟨{r1 with state:=.busy},World.putObj_heap_same (Array.getElem?_eq_some_iff.1 p1).1,p2,p3,p4,rfl,RL.mono (n:=H1.length) (fun _ _=>rfl) (fun _ h=>h) (fun b hz=>World.putObj_heap_other (fun e=>e1.lu k _ hb1 trivial rfl (by rw [a1l,←e];exact hz))) _ _ (e1.blk k _ hb1).2.1 p6⟩) ⟨(e1.blk k _ hb1).2.1,trivial⟩
       rw [a1l] at t1a t1b
       have hF2:RF ds1 β1 Z1 (w1.putObj l (.loop {r1 with state:=.busy})) (H1.set k ⟨Fr1,t,.lG ps1 asg1 body1 .busy,false⟩).length F1 a1:=by
        rw [List.length_set]
        exact e2.mono (Nat.le_refl _) (fun _ _=>rfl) (fun _ h=>h) t1b
       refine aZ (A:=fun _=>True) (L:=mP P G Γ K 20 2) hΓ hK body (fun b _=>cu hΓ hK 20 2 b) (some l) w0 _ Z1 β1 _ _ a1 _ ds1 _ x F2 H2 trivial (.inr hc3) e0 t1a hF2 h3 fun ds2 Z2 β2 a2 w2 f0 f1 f2=>?_
       split at h4
       ·rename_i Fr2 t2 ps2 asg2 body2 hb2
        have hbk2:=(f1.blk k _ hb2).1
        simp only [fP] at hbk2
        obtain ⟨r2,s1,s2,s3,s4,s5,s6⟩:=hbk2
        have a2l:=atl f1
        rw [a2l] at s1
        have fin:∀(st:LS) (jump:Option Code) (b:Bool),LsR st {r2 with state:=if jump.isNone then .ready else .done,pending:=jump}→jump.isNone=b→(T.ok (LV.bl b,H2.set k ⟨Fr2,t,.lG ps2 asg2 body2 st,false⟩):T (LV×List aS)).all (fun q=>q=(lv,H'))→
          ∃v w',(Instr.endRound l jump).run P w2=.ok v w'∧(∃v',Ending.returned v=.returned v'∧∃Z' β',RW G w0 Z0 Z' β' H' w'∧R β' Z' w' lv v'∧okV H'.length lv):=fun st jump b hst hj h4=>by
         simp only [T.all,Prod.mk.injEq] at h4
         obtain ⟨rfl,rfl⟩:=h4
         refine ⟨_,_,run_endRound jump s1,_,rfl,Z2,β2,?_,?_,trivial⟩
         ·obtain ⟨t2a,t2b⟩:=RW.turn (t':=t) (nb:=.lG ps2 asg2 body2 st) (r':={r2 with state:=if jump.isNone then .ready else .done,pending:=jump}) f1 hb2 (by
           simp only [fP]
           rw [a2l]
           exact ⟨_,World.putObj_heap_same (Array.getElem?_eq_some_iff.1 s1).1,s2,s3,s4,hst,RL.mono (n:=H2.length) (fun _ _=>rfl) (fun _ h=>h) (fun b hz=>World.putObj_heap_other (fun e=>f1.lu k _ hb2 trivial rfl (by rw [a2l,←e];exact hz))) _ _ (f1.blk k _ hb2).2.1 s6⟩) ⟨(f1.blk k _ hb2).2.1,trivial⟩
          rw [a2l] at t2a
          exact t2a.akI
         ·simp only [R,hj]
        cases x with
        |normal=>exact fin .ready none true ⟨rfl,rfl⟩ rfl h4
        |exit m=>exact fin (.done (.exit m)) (some (.exit m)) false ⟨rfl,rfl⟩ rfl h4
        |ret=>exact fin (.done .ret) (some .ret) false ⟨rfl,rfl⟩ rfl h4
       ·cases h4
      ·cases h2
    ·cases h
   ·cases h
theorem bJ {LL:sG}(hΓ:∀g S,Γ g=some S→Valid P G g S) (hLL:Qr P G LL):∀(d:Nat),cO P G (inl P G Γ LL d)
 |0=>aC
 |d+1=>wI hΓ hLL (bJ hΓ hLL d)
def ru (P:Program) (G:dB) (g:FuncId) (m:List LV→List aS→T (LV×List aS)):Prop:=
 ∀(w0:World) (Z0:Gz) (Z:Nat→Prop) (β:Nat→Loc) (H:List aS) (w:World) (args:List LV) (vals:Array Value) (lv:LV) (H':List aS),RW G w0 Z0 Z β H w→RL β Z w args vals.toList→dP H.length args→(m args H).all (fun q=>q=(lv,H'))→
  Calls P g vals w fun e w'=>∃v,e=.returned v∧∃Z' β',RW G w0 Z0 Z' β' H' w'∧R β' Z' w' lv v∧okV H'.length lv
theorem uZ {LL:sG}{C:Does}(hΓ:∀g S,Γ g=some S→Valid P G g S) (hLL:Qr P G LL) (hC:∀g m,C g=some m→ru P G g m):∀(d:Nat),cO P G (PE P G Γ LL C d)
 |0=>aC
 | d+1=>by
  have h:=wI hΓ hLL (uZ hΓ hLL hC d)
  refine ⟨fun w0 Z0 Z β H w g args vals lv H' hW hr hok hq=>?_,h.y⟩
  simp only [PE] at hq
  split at hq
  ·rename_i m hm
   exact hC g m hm w0 Z0 Z β H w args vals lv H' hW hr hok hq
  ·exact h.k w0 Z0 Z β H w g args vals lv H' hW hr hok hq
theorem ru.walk {LL:sG}{K:Hand}{g:FuncId}{m:List LV→List aS→T (LV×List aS)}(hΓ:∀g S,Γ g=some S→Valid P G g S) (hLL:Qr P G LL) (hK:cO P G K)
  (hm:∀args H lv H',(m args H).all (fun q=>q=(lv,H'))→((yN P G Γ LL K).k g args H).all (fun q=>q=(lv,H'))):ru P G g m:=
 fun w0 Z0 Z β H w args vals lv H' hW hr hok hq=>(wI hΓ hLL hK).k w0 Z0 Z β H w g args vals lv H' hW hr hok (hm args H lv H' hq)
def jo (P:Program) (G:dB) (Γ:Specs) (m d:Nat):sG:=fun K _ _=>mP P G Γ K m d
theorem dw {m d:Nat}(hΓ:∀g S,Γ g=some S→Valid P G g S):Qr P G (jo P G Γ m d):=fun _ _ _ _ _ b hK _ _ _=>cu hΓ hK m d b
def dG (g:FuncId) (N id:Nat) (t:List LV→List aS→T (Ex×List LV×List aS)) (LL:sG):sG:=fun K g' N' b=>if g'=g∧N'=N∧pG b=id then t else LL K g' N' b
theorem aP {g:FuncId}{N id:Nat}{t:List LV→List aS→T (Ex×List LV×List aS)}{LL:sG}{fn:Func}{c bd:Code}(hfn:P.funcs[g]? =some fn) (hc:fn.body=some c) (hid:(ay c).filter (fun b=>pG b==id)=[bd]) (ht:bG P G (AN N) (.loop bd) t) (h:Qr P G LL):Qr P G (dG g N id t LL):=by
 intro K g' fn' c' N' b hK hfn' hc' hb
 unfold dG
 split
 ·rename_i e
  obtain ⟨rfl,rfl,e⟩:=e
  rw [hfn] at hfn'
  have:=Option.some.inj hfn'
  subst this
  rw [hc] at hc'
  have:=Option.some.inj hc'
  subst this
  have hm:b∈(ay c).filter (fun b=>pG b==id):=List.mem_filter.2 ⟨hb,by simpa using e⟩
  rw [hid] at hm
  have:b=bd:=by simpa using hm
  subst this
  exact ht
 ·exact h K g' fn' c' N' b hK hfn' hc' hb
theorem aeF {f:FuncId}{fn:Func}{c:Code}{S:List LV→T LV}{L:CQ}(hfn:P.funcs[f]? =some fn) (hc:fn.body=some c) (hΓ:∀g S,Γ g=some S→Valid P G g S) (hK:cO P G K)
  (hL:∀b∈ay c,Sound P G (.loop b) (L (pG b))) (hS:∀args lv,(S args).all (fun x=>x=lv)→(anI P G Γ K L fn args).all (fun x=>x=lv)):Valid P G f S:=by
 intro args vals w Z lv hz hg hok hr h
 have h:=hS args lv h
 unfold anI at h
 simp only [hc] at h
 obtain ⟨⟨x,F',H'⟩,h1,h2⟩:=T.aU h
 refine callsIn_wide.1 (callsIn_of_wp_marks (n:=0) hfn hc trivial ?_)
 have hW:RW G w ⟨Z,[],[]⟩ Z β0 [] w:=⟨Below.refl _ _,hz,fun b h=> .inl h,fun k b hk=>by simp at hk,fun k b hk=>by simp at hk,fun k b hk=>by simp at hk,fun i j bi bj hi=>by simp at hi,fun k b hb=>by simp at hb,hg,fun p hp=>(by cases hp),fun D hD=>(by cases hD)⟩
 have hF:RF [] β0 Z w ([]:List aS).length (args++List.replicate (fn.ntmps-args.length) (.v undef)) {tmps:=vals++Array.replicate (fn.ntmps-vals.size) undef,defers:=[]}:=IV (H:=[]) hr hok fn.ntmps
 refine bI (L:=L) hΓ hK c hL none w ⟨Z,[],[]⟩ Z β0 _ [] _ w [] _ x F' H' (fun p hp=>by cases hp) (.inl rfl) JM.nil hW hF h1 fun ds' Z' β' a' w' e0 e1 e2=>?_
 have fin:((Kr P fn F' H' fn.results.toList).bind fun l=>if noOwn (one l) then (T.ok (one l):T LV) else (fO H' 8 (one l)).bind fun _=> .ok (pV H' 8 (one l))).all (fun x=>x=lv)→LeavesInM Fence.wide 0 P fn a'.tmps (fun e w'=>Below w.heap.size w w'∧∃v',e=.returned v'∧okV 0 lv∧R β0 (fun b=>Z b∨(w.heap.size≤b∧b<w'.heap.size)) w' lv v') a'.defers .returning w':=fun h2=>by
  rw [e2.defers.1]
  refine wY ds' w' a' e1 e2 e0 fun w'' a'' et f1 f2=>?_
  obtain ⟨l,g1,g2⟩:=T.aU h2
  split at g2
  ·rename_i hno
   simp only [T.all] at g2
   obtain ⟨vs,g3,g4,g5⟩:=qI fn.results.toList l f1 f2 g1
   have hok0:okV 0 lv:=by rw [←g2];exact noOwn_ok _ hno (wS g5)
   refine ⟨if hs:vs.toArray.size=1 then vs.toArray[0] else .tuple vs.toArray,?_,f1.below,_,rfl,hok0,?_⟩
   ·rw [←et,Oa,Array.mapM_eq_mapM_toList]
    simp only [Sem.run_bind,Sem.run_map,g3,Result.andThen_ok,Sem.run_pure]
   ·have:=agl g4
    rw [g2] at this
    exact R.mono (n:=0) (fun _ hk=>absurd hk (by omega)) (fun b hb=>by
     rcases f1.tq b hb with h|h
     ·exact .inl h
     ·exact .inr ⟨h,f1.mJ b hb⟩) (fun _ _=>rfl) _ _ hok0 this
  ·obtain ⟨_,hg,g2⟩:=T.aU g2
   have hG:=T.bD (K':=fun _=>True) (fun _ _=>trivial) hg
   simp only [T.all] at g2
   obtain ⟨vs,g3,g4,g5⟩:=qI fn.results.toList l f1 f2 g1
   have hok0:okV 0 lv:=by rw [←g2];exact qG H' (fun k b hb=>(f1.blk k b hb).2) 8 _ (wS g5)
   refine ⟨if hs:vs.toArray.size=1 then vs.toArray[0] else .tuple vs.toArray,?_,f1.below,_,rfl,hok0,?_⟩
   ·rw [←et,Oa,Array.mapM_eq_mapM_toList]
    simp only [Sem.run_bind,Sem.run_map,g3,Result.andThen_ok,Sem.run_pure]
   ·have:=tu (S:=fun _=>True) f1 (fun _ _ _ _ _ _=>trivial) 8 _ _ hG (fun _ _=>trivial) (wS g5) (agl g4)
    rw [g2] at this
    exact R.mono (n:=0) (fun _ hk=>absurd hk (by omega)) (fun b hb=>by
     rcases hb with hb|⟨k,bk,_,h2,h3,rfl⟩
     ·rcases f1.tq b hb with h|h
      ·exact .inl h
      ·exact .inr ⟨h,f1.mJ b hb⟩
     ·exact .inr ⟨f1.low k bk h2 h3,f1.lt h2 h3⟩) (fun _ _=>rfl) _ _ hok0 this
 cases x with
 |normal=>exact fin h2
 |ret=>exact fin h2
 |exit m=>cases h2
end Go.Sx
namespace Go.Sx
open Go Go.RowKit Go.Proofs.YtlihnbimgclogaaGreatDoor
variable {P : Program} {G : dB} {Γ : Specs} {L : CQ} {β : Nat → Loc} {Z : Nat → Prop} {Z0 : Gz} {w w0 : World} {F : List LV} {H : List aS} {a : Act} {ds : List Deferred} {n : Nat}
theorem bF {c:Code}(h:ay c=[]):∀b∈ay c,Sound P G (.loop b) (L (pG b)):=fun b hb=>by rw [h] at hb;cases hb
def Vs (P:Program) (G:dB):List (FuncId×(List LV→T LV))→Prop
 | []=>True
 |p::ps=>Valid P G p.1 p.2∧Vs P G ps
theorem aX:∀ {l:List (FuncId×(List LV→T LV))},Vs P G l→∀g S,bn l g=some S→Valid P G g S
 | [],_,g,S,h=>by cases h
 |p::ps,hv,g,S,h=>by
  simp only [bn] at h
  split at h
  ·rename_i hg;simp only [Option.some.injEq] at h;subst h hg;exact hv.1
  ·exact aX hv.2 g S h
theorem aec {α:Type}{t t':T α}{K:α→Prop}(h:t=t') (h':t'.all K):t.all K:=h▸h'
end Go.Sx
namespace Go.Sx
open Go Go.RowKit Go.Proofs.YtlihnbimgclogaaGreatDoor
variable {P : Program} {G : dB} {Γ : Specs} {L : CQ} {β : Nat → Loc} {Z : Nat → Prop} {Z0 : Gz} {w w0 : World} {F : List LV} {H : List aS} {a : Act} {ds : List Deferred} {n : Nat}
def pos (k:Nat):List Nat→Nat→Nat
 | [],i=>i
 |j::js,i=>if k=j then i else pos k js (i+1)
theorem rO {k:Nat}:∀ {ks:List Nat}(i:Nat),k∈ks→i≤pos k ks i∧ks[pos k ks i-i]? =some k∧pos k ks i<i+ks.length
 | [],i,h=>by cases h
 | j::js,i,h=>by
  simp only [pos]
  split
  ·rename_i e;subst e;exact ⟨Nat.le_refl _,by simp,by simp⟩
  ·rename_i e
   have hk:k∈js:=by
    rcases List.mem_cons.1 h with h|h
    ·exact absurd h e
    ·exact h
   obtain ⟨h1,h2,h3⟩:=rO (i+1) hk
   refine ⟨by omega,?_,by simp;omega⟩
   rw [show pos k js (i+1)-i=(pos k js (i+1)-(i+1))+1 by omega]
   simpa using h2
mutual
def renV (ks:List Nat):LV→LV
 | .v x=> .v x
 | .bl b=> .v (.bool b)
 | .ki k n=> .v (.int k n)
 | .own k off=> .own (pos k ks 0) off
 | .agg l=> .agg (renL ks l)
 | .jg l=> .jg (renL ks l)
 | .fn f l=> .fn f (renL ks l)
 | .xq n f=> .xq n f
 | .xl e l=> .xl e l
 | .os k es off n=> .os (pos k ks 0) es off n
 | .op k es i j=> .op (pos k ks 0) es i j
 | .om k=> .om (pos k ks 0)
 | .mp kd kk l=> .mp kd kk (renL ks l)
 | .oc k es off n c=> .oc (pos k ks 0) es off n c
 | .vK k=> .vK (pos k ks 0)
 | .junk=> .junk
def renL (ks:List Nat):List LV→List LV
 | []=>[]
 |x::xs=>renV ks x::renL ks xs
end
def Ai (ks:List Nat):BK→BK
 | .cl=> .cl
 | .vec e l=> .vec e l
 | .mp kd kk vs=> .mp kd kk (renL ks vs)
 | .lG ps asg body st=> .lG ps asg body st
 | .st e l=> .st e l
 | .dead=> .dead
def SE (ks:List Nat) (b:aS):aS:=⟨renL ks b.c,b.t,Ai ks b.k,b.p⟩
def aiN:aS:=⟨[],0,.dead,false⟩
def nodupB:List Nat→Bool
 | []=>true
 |k::ks=>!ks.contains k&&nodupB ks
theorem Ia:∀ {ks:List Nat},nodupB ks=true→∀(i j k:Nat),ks[i]? =some k→ks[j]? =some k→i=j
 | [],_,i,j,k,h,_=>by simp at h
 | x::xs,hn,i,j,k,hi,hj=>by
  simp only [nodupB,Bool.and_eq_true,Bool.not_eq_true'] at hn
  have hx:x∉xs:=by simpa using hn.1
  cases i with
  | zero=>
   cases j with
   |zero=>rfl
   |succ j=>
    simp at hi hj
    subst hi
    exact absurd (List.mem_of_getElem? hj) hx
  | succ i=>
   cases j with
   |zero=>
    simp at hi hj
    subst hj
    exact absurd (List.mem_of_getElem? hi) hx
   |succ j=>
    simp at hi hj
    rw [Ia hn.2 i j k hi hj]
def Rn (ks:List Nat) (β β':Nat→Loc):Prop:=∀i k,ks[i]? =some k→β' i=β k
theorem Rn.at {ks:List Nat}{β':Nat→Loc}(h:Rn ks β β') {k:Nat}(hk:k∈ks):β' (pos k ks 0)=β k∧pos k ks 0<ks.length:=by
 obtain ⟨_,h2,h3⟩:=rO 0 hk
 exact ⟨h _ _ (by simpa using h2),by omega⟩
mutual
theorem ren_R {ks:List Nat}{β':Nat→Loc}{n:Nat}(h:Rn ks β β'):∀(x:LV) (y:Value),(∀k,k∈owns x→k∈ks)→okV n x→R β Z w x y→R β' Z w (renV ks x) y
 | .v _,_,_,_,hr=>hr
 | .bl _,_,_,_,hr=>hr
 | .ki _ _,_,_,_,hr=>hr
 | .own k off,y,ho,hok,hr=>by
  simp only [renV,R] at*
  rw [(h.at (ho k (by simp [owns]))).1];exact hr
 | .agg l,y,ho,hok,hr=>by
  simp only [renV,R,owns,okV] at*
  obtain ⟨ys,h1,h2⟩:=hr
  exact ⟨ys,h1,ren_RL h l _ ho hok h2⟩
 | .jg l,y,ho,hok,hr=>by
  simp only [renV,R,owns,okV] at*
  obtain ⟨ys,h1,h2⟩:=hr
  exact ⟨ys,h1,ren_RL h l _ ho hok h2⟩
 | .fn f l,y,ho,hok,hr=>by
  simp only [renV,R,owns,okV] at*
  obtain ⟨ys,h1,h2⟩:=hr
  exact ⟨ys,h1,ren_RL h l _ ho hok h2⟩
 | .xq n f,y,ho,hok,hr=>by
  simp only [renV,R,okV] at*
  obtain ⟨b,off,h1,h2,h3⟩:=hr
  refine ⟨b,off,h1,h2,fun j hj=>?_⟩
  obtain ⟨z,h4,h5⟩:=h3 j hj
  exact ⟨z,h4,R.mono (n:=0) (fun _ hk=>absurd hk (by omega)) (fun _ h=>h) (fun _ _=>rfl) _ _ (hok j) h5⟩
 | .xl e l,y,ho,hok,hr=>by simp only [renV,R] at*;exact hr
 | .os k es off n,y,ho,hok,hr=>by
  simp only [renV,R] at*
  rw [(h.at (ho k (by simp [owns]))).1];exact hr
 | .op k es i j,y,ho,hok,hr=>by
  simp only [renV,R] at*
  rw [(h.at (ho k (by simp [owns]))).1];exact hr
 | .om k,y,ho,hok,hr=>by
  simp only [renV,R] at*
  rw [(h.at (ho k (by simp [owns]))).1];exact hr
 | .mp kd kk l,y,ho,hok,hr=>by
  simp only [renV,R,owns,okV] at*
  obtain ⟨r,es,clock,h1,h2,h3,h4,h5⟩:=hr
  exact ⟨r,es,clock,h1,h2,h3,h4,ren_RL h l _ ho hok h5⟩
 | .oc k es off n c,y,ho,hok,hr=>by
  simp only [renV,R] at*
  rw [(h.at (ho k (by simp [owns]))).1];exact hr
 | .vK k,y,ho,hok,hr=>by
  simp only [renV,R] at*
  rw [(h.at (ho k (by simp [owns]))).1];exact hr
 | .junk,_,_,_,_=>by simp only [renV,R]
theorem ren_RL {ks:List Nat}{β':Nat→Loc}{n:Nat}(h:Rn ks β β'):∀(l:List LV) (ys:List Value),(∀k,k∈ownsL l→k∈ks)→dP n l→RL β Z w l ys→RL β' Z w (renL ks l) ys
 | [],_,_,_,hr=>by simpa only [renL,RL] using hr
 |x::xs,ys,ho,hok,hr=>by
  simp only [renL,RL,ownsL,List.mem_append,dP] at*
  obtain ⟨y,zs,h1,h2,h3⟩:=hr
  exact ⟨y,zs,h1,ren_R h x y (fun k hk=>ho k (.inl hk)) hok.1 h2,ren_RL h xs zs (fun k hk=>ho k (.inr hk)) hok.2 h3⟩
end
mutual
theorem ren_ok {ks:List Nat}{n:Nat}:∀(x:LV),(∀k,k∈owns x→k∈ks)→okV n x→okV ks.length (renV ks x)
 | .v _,_,_=>trivial
 | .bl _,_,_=>trivial
 | .ki _ _,_,_=>trivial
 | .own k off,ho,_=>by simp only [renV,okV];have:=(rO 0 (ho k (by simp [owns]))).2.2;omega
 | .agg l,ho,hk=>by simp only [renV,okV,owns] at*;exact ren_okL l ho hk
 | .jg l,ho,hk=>by simp only [renV,okV,owns] at*;exact ren_okL l ho hk
 | .fn f l,ho,hk=>by simp only [renV,okV,owns] at*;exact ren_okL l ho hk
 | .xq n f,_,hk=>by simpa only [renV,okV] using hk
 | .xl _ _,_,_=>trivial
 | .os k _ _ _,ho,_=>by simp only [renV,okV];have:=(rO 0 (ho k (by simp [owns]))).2.2;omega
 | .op k _ _ _,ho,_=>by simp only [renV,okV];have:=(rO 0 (ho k (by simp [owns]))).2.2;omega
 | .om k,ho,_=>by simp only [renV,okV];have:=(rO 0 (ho k (by simp [owns]))).2.2;omega
 | .mp kd kk l,ho,hk=>by simp only [renV,okV,owns] at*;exact ren_okL l ho hk
 | .oc k _ _ _ _,ho,_=>by simp only [renV,okV];have:=(rO 0 (ho k (by simp [owns]))).2.2;omega
 | .vK k,ho,_=>by simp only [renV,okV];have:=(rO 0 (ho k (by simp [owns]))).2.2;omega
 | .junk,_,_=>trivial
theorem ren_okL {ks:List Nat}{n:Nat}:∀(l:List LV),(∀k,k∈ownsL l→k∈ks)→dP n l→dP ks.length (renL ks l)
 | [],_,_=>trivial
 |x::xs,ho,hk=>by
  simp only [renL,dP,ownsL,List.mem_append] at*
  exact ⟨ren_ok x (fun k hk=>ho k (.inl hk)) hk.1,ren_okL xs (fun k hk=>ho k (.inr hk)) hk.2⟩
end
theorem wM {ks:List Nat}{β':Nat→Loc}{i k:Nat}{b:aS}(h:β' i=β k):live β' i (SE ks b)↔live β k b:=by
 unfold live SE
 cases hb:b.k<;>simp [Ai,h]
def alX (N:Nat) (ks:List Nat):Bool:=ks.take N==List.range N
theorem SH {N:Nat}{ks:List Nat}(h:alX N ks=true):N≤ks.length∧∀i,i<N→ks[i]? =some i:=by
 have h:ks.take N=List.range N:=by simpa [alX] using h
 have hl:=congrArg List.length h
 simp at hl
 refine ⟨by omega,fun i hi=>?_⟩
 have:=congrArg (fun l=>l[i]?) h
 simp only [List.getElem?_take,if_pos hi] at this
 rw [this]
 simp [hi]
theorem RW.ren {N:Nat}{ks:List Nat}{l:List LV}(hgh:AN N Z0) (hW:RW G w0 Z0 Z β H w) (hc:oL H ks l=true) (hn:nodupB ks=true) (hpin:alX N ks=true):
  ∃β',Rn ks β β'∧RW G w0 Z0 Z β' (ks.map fun k=>SE ks (H.getD k aiN)) w:=by
 have hex:∀k,k∈ks→∃b,H[k]? =some b:=fun k hk=>by
  unfold oL at hc
  simp only [Bool.and_eq_true,List.all_eq_true] at hc
  have:=hc.2 k hk
  cases hb:H[k]? with
  |none=>rw [hb] at this;cases this
  |some b=>exact ⟨b,rfl⟩
 obtain ⟨c1,c2⟩:=kT hc
 refine ⟨fun i=>β (ks.getD i 0),fun i k hi=>by simp [List.getD,hi],?_⟩
 have hRn:Rn ks β (fun i=>β (ks.getD i 0)):=fun i k hi=>by simp [List.getD,hi]
 generalize hβ':(fun i=>β (ks.getD i 0))=β' at hRn⊢
 have old:∀i b,(ks.map fun k=>SE ks (H.getD k aiN))[i]? =some b→∃k b0,ks[i]? =some k∧k∈ks∧H[k]? =some b0∧b=SE ks b0∧β' i=β k:=fun i b hb=>by
  rw [List.getElem?_map] at hb
  cases hk:ks[i]? with
  |none=>simp [hk] at hb
  |some k=>
   have hkm:=List.mem_of_getElem? hk
   obtain ⟨b0,h0⟩:=hex k hkm
   simp [hk,List.getD,h0] at hb
   exact ⟨k,b0,rfl,hkm,h0,hb.symm,hRn i k hk⟩
 refine ⟨hW.below,hW.mJ,hW.tq,fun i b hb hl hp=>?_,fun i b hb hl hp=>?_,fun i b hb hl=>?_,fun i j bi bj hi hj li lj pi e=>?_,fun i b hb=>?_,hW.jh,fun p hp=>⟨R.mono (n:=N) (fun k hk=>hRn k k ((SH hpin).2 k hk)) (fun _ h=>h) (fun _ _=>rfl) _ _ (hgh p hp) (hW.gh p hp).1,okV.mono (by rw [List.length_map];exact (SH hpin).1) _ (hgh p hp)⟩,hW.rQ⟩
 ·obtain ⟨k,b0,h1,h2,h3,rfl,h5⟩:=old i b hb
  rw [h5];exact hW.lu k b0 h3 ((wM h5).1 hl) hp
 ·obtain ⟨k,b0,h1,h2,h3,rfl,h5⟩:=old i b hb
  rw [h5];exact hW.vV k b0 h3 ((wM h5).1 hl) hp
 ·obtain ⟨k,b0,h1,h2,h3,rfl,h5⟩:=old i b hb
  rw [h5];exact hW.low k b0 h3 ((wM h5).1 hl)
 ·obtain ⟨k,b0,h1,h2,h3,rfl,h5⟩:=old i bi hi
  obtain ⟨k',b1,g1,g2,g3,rfl,g5⟩:=old j bj hj
  rw [h5,g5] at e
  have:=hW.inj k k' b0 b1 h3 g3 ((wM h5).1 li) ((wM g5).1 lj) pi e
  subst this
  exact Ia hn i j k h1 g1
 ·obtain ⟨k,b0,h1,h2,h3,rfl,h5⟩:=old i b hb
  obtain ⟨q1,q2⟩:=hW.blk k b0 h3
  have ow:=c2 k b0 h2 h3
  have owc:∀j,j∈ownsL b0.c→j∈ks:=fun j hj=>ow j (by unfold aS.owns;exact List.mem_append.2 (.inl hj))
  rw [List.length_map]
  refine ⟨?_,ren_okL _ owc q2.1,?_⟩
  ·unfold fP at q1⊢
   unfold SE
   cases hbk:b0.k with
   |cl=>
    simp only [hbk,Ai] at q1⊢
    obtain ⟨cs,e1,e2⟩:=q1
    exact ⟨cs,by rw [h5];exact e1,ren_RL hRn _ _ owc q2.1 e2⟩
   |vec e l=>
    simp only [hbk,Ai] at q1⊢
    rw [h5];exact q1
   |mp kd kk vs=>
    simp only [hbk,Ai] at q1⊢
    obtain ⟨es,clock,e1,e2,e3⟩:=q1
    exact ⟨es,clock,by rw [h5];exact e1,e2,ren_RL hRn _ _ (fun j hj=>ow j (by unfold aS.owns;rw [hbk];exact List.mem_append.2 (.inr hj))) (by have:=q2.2;rw [hbk] at this;exact this) e3⟩
   |lG ps asg body st=>
    simp only [hbk,Ai] at q1⊢
    obtain ⟨r,e1,e2,e3,e4,e5,e6⟩:=q1
    exact ⟨r,by rw [h5];exact e1,e2,e3,e4,e5,ren_RL hRn _ _ owc q2.1 e6⟩
   |st e l=>
    simp only [hbk,Ai] at q1⊢
    rw [h5];exact q1
   |dead=>simp only [Ai]
  ·have q22:=q2.2
   unfold SE
   cases hbk:b0.k with
   |mp kd kk vs=>
    simp only [hbk,Ai] at q22⊢
    exact ren_okL _ (fun j hj=>ow j (by unfold aS.owns;rw [hbk];exact List.mem_append.2 (.inr hj))) q22
   |cl=>simp only [Ai]
   |vec e l=>simp only [Ai]
   |lG ps asg body st=>simp only [Ai]
   |st e l=>simp only [Ai]
   |dead=>simp only [Ai]
def at_ (i:Nat):List Nat→List LV→LV
 |j::js,x::xs=>if i=j then x else at_ i js xs
 |_,_=> .junk
def vC (live:List Nat) (vals:List LV):Nat→Nat→List LV
 |0,_=>[]
 |n+1,i=>at_ i live vals::vC live vals n (i+1)
def lT (n:Nat) (live:List Nat) (vals:List LV):List LV:=vC live vals n 0
theorem qN (live:List Nat) (vals:List LV):∀n i,(vC live vals n i).length=n
 |0,_=>rfl
 |n+1,i=>by simp [vC,qN live vals n (i+1)]
theorem ED (live:List Nat) (vals:List LV):∀n i k,k<n→(vC live vals n i)[k]? =some (at_ (i+k) live vals)
 |0,_,k,h=>by omega
 |n+1,i,0,_=>by simp [vC]
 |n+1,i,k+1,h=>by
  simp only [vC,List.getElem?_cons_succ]
  rw [ED live vals n (i+1) k (by omega)]
  congr 2;omega
theorem aiX (i:Nat):∀(live:List Nat) (vals:List LV),at_ i live vals=.junk∨∃p:Nat,live[p]? =some i∧vals[p]? =some (at_ i live vals)
 | [],_=> .inl rfl
 |_::_,[]=> .inl rfl
 | j::js,x::xs=>by
  simp only [at_]
  split
  ·rename_i h;exact .inr ⟨0,by simp [h],by simp⟩
  ·rcases aiX i js xs with h|⟨p,h1,h2⟩
   ·exact .inl h
   ·exact .inr ⟨p+1,by simpa using h1,by simpa using h2⟩
def KH (live:List Nat) (F:List LV):List LV:=live.map fun j=>norm (F.getD j .junk)
theorem akA {live:List Nat}(hF:RF ds β Z w n F a):RL β Z w (KH live F) (live.map fun j=>a.tmps.getD j undef)∧dP n (KH live F):=by
 have one:∀j,R β Z w (F.getD j .junk) (a.tmps.getD j undef)∧okV n (F.getD j .junk):=fun j=>by
  cases hj:F[j]? with
  |none=>simp [List.getD,hj,R,okV]
  |some x=>simp only [List.getD,hj,Option.getD_some];exact hF.get j x hj
 refine ⟨RL.dN (by simp [KH]) fun i x hx=>?_,dP.dN fun i x hx=>?_⟩
 ·simp only [KH,List.getElem?_map] at hx⊢
  cases hl:live[i]? with
  |none=>simp [hl] at hx
  |some j=>simp [hl] at hx;subst hx;exact ⟨_,by simp,sO (one j).1⟩
 ·simp only [KH,List.getElem?_map] at hx
  cases hl:live[i]? with
  |none=>simp [hl] at hx
  |some j=>simp [hl] at hx;subst hx;exact rP (one j).2
theorem aiA {live:List Nat}{vals:List LV}{N:Nat}(hs:a.tmps.size=N) (hd:a.defers=ds∧∀d,d∈ds→∃D,d=jQ D∧Z D∧pK w D) (h:RL β Z w vals (live.map fun j=>a.tmps.getD j undef)) (hk:dP n vals):RF ds β Z w n (lT N live vals) a:=by
 refine ⟨by rw [hs];simp [lT,qN],fun t x hx=>?_,hd⟩
 have ht:t<N:=by have:=(List.getElem?_eq_some_iff.1 hx).1;simpa [lT,qN] using this
 unfold lT at hx
 rw [ED live _ _ _ t ht] at hx
 simp only [Option.some.injEq,Nat.zero_add] at hx
 rcases aiX t live vals with h1|⟨p,h1,h2⟩
 ·rw [hx] at h1;subst h1;exact ⟨by simp only [R],trivial⟩
 ·rw [hx] at h2
  obtain ⟨y,e1,e2⟩:=RL.get _ _ h h2
  simp only [List.getElem?_map,h1,Option.map_some,Option.some.injEq] at e1
  subst e1
  exact ⟨e2,dP.get _ _ hk h2⟩
inductive Up where
 |nl (i:Nat) (t:TypeId) (ty:Ty)
 |pb (i:Nat) (ty:Ty)
 |nc (k j:Nat) (t:TypeId) (ty:Ty)
 |pc (k j:Nat) (ty:Ty)
 |pk (k:Nat)
 |ns (i j:Nat) (t:TypeId) (ty:Ty)
 |ps (i j:Nat) (ty:Ty)
def aBL (F:List LV):Up→Up
 | .ns i j t ty=>match F.getD i .junk with
  | .own k _=> .nc k j t ty
  |_=> .ns i j t ty
 | .ps i j ty=>match F.getD i .junk with
  | .own k _=> .pc k j ty
  |_=> .ps i j ty
 |u=>u
def Fv:List Up→List LV→List aS→T (List LV×List aS)
 | [],F,H=> .ok (F,H)
 | .nl i t ty::us,F,H=>match F.getD i .junk with
  | .v (.slice none 0 0)=>Fv us (F.set i (.os H.length ty.n 0 0)) (H++[⟨[],t,.vec ty [],false⟩])
  |_=>Fv us F H
 | .pb i ty::us,F,H=>match F.getD i .junk with
  | .v (.slice none 0 0)=>Fv us (F.set i (.xl ty [])) H
  | .os k es off n=>if oL H (reach H 64 [k] []) [.os k es off n] then (fO H 6 (.os k es off n)).bind fun _=>Fv us (F.set i (pV H 6 (.os k es off n))) (mZ (reach H 64 [k] []) 0 H) else .no
  |_=>Fv us F H
 | .nc k j t ty::us,F,H=>match H[k]? with
  |some ⟨c,bt,.cl,false⟩=>(match c[j]? with
   |some (.v (.slice none 0 0))=>Fv us F (H.set k ⟨c.set j (.os H.length ty.n 0 0),bt,.cl,false⟩++[⟨[],t,.vec ty [],false⟩])
   |_=>Fv us F H)
  |_=>Fv us F H
 | .pc k j ty::us,F,H=>match H[k]? with
  |some ⟨c,bt,.cl,false⟩=>(match c[j]? with
   |some (.v (.slice none 0 0))=>Fv us F (H.set k ⟨c.set j (.xl ty []),bt,.cl,false⟩)
   |some (.os k' es off n)=>if oL H (reach H 64 [k'] []) [.os k' es off n]&&!(reach H 64 [k'] []).contains k then (fO H 6 (.os k' es off n)).bind fun _=>Fv us F ((mZ (reach H 64 [k'] []) 0 H).set k ⟨c.set j (pV H 6 (.os k' es off n)),bt,.cl,false⟩) else .no
   |_=>Fv us F H)
  |_=>Fv us F H
 | .pk k::us,F,H=>Fv us F (mZ (reach H 64 [k] []) 0 H)
 | .ns ..::us,F,H=>Fv us F H
 | .ps ..::us,F,H=>Fv us F H
theorem RL.set':∀ {l:List LV}{ys:List Value}{j:Nat}{x:LV}{y:Value},RL β Z w l ys→ys[j]? =some y→R β Z w x y→RL β Z w (l.set j x) ys
 | [],ys,j,x,y,h,hy,_=>by simp only [RL] at h;subst h;simp at hy
 |z::l,ys,0,x,y,h,hy,hr=>by
  simp only [List.set_cons_zero,RL] at h⊢
  obtain ⟨y0,zs,rfl,h1,h2⟩:=h
  simp at hy
  subst hy
  exact ⟨_,zs,rfl,hr,h2⟩
 |z::l,ys,j+1,x,y,h,hy,hr=>by
  simp only [List.set_cons_succ,RL] at h⊢
  obtain ⟨y0,zs,rfl,h1,h2⟩:=h
  exact ⟨y0,zs,rfl,h1,RL.set' h2 (by simpa using hy) hr⟩
theorem dP.set' {n:Nat}:∀ {l:List LV}{j:Nat}{x:LV},dP n l→okV n x→dP n (l.set j x)
 | [],_,_,h,_=>by simpa using h
 |z::l,0,x,h,hx=>⟨hx,h.2⟩
 |z::l,j+1,x,h,hx=>⟨h.1,dP.set' h.2 hx⟩
theorem RW.tell {k j:Nat}{c:List LV}{bt:TypeId}{x:LV}(hW:RW G w0 Z0 Z β H w) (hb:H[k]? =some ⟨c,bt,.cl,false⟩) (hx:∀y,(∃z,c[j]? =some z∧R β Z w z y)→R β Z w x y) (hj:∃z,c[j]? =some z) (hok:okV H.length x):RW G w0 Z0 Z β (H.set k ⟨c.set j x,bt,.cl,false⟩) w:=by
 obtain ⟨h1,h2⟩:=hW.blk k _ hb
 simp only [fP] at h1
 obtain ⟨cs,g1,g2⟩:=h1
 obtain ⟨z,hz⟩:=hj
 obtain ⟨y,q1,q2⟩:=RL.get j z g2 hz
 refine hW.set hb trivial rfl rfl ⟨dP.set' h2.1 hok,trivial⟩ rfl ⟨rfl,rfl,rfl⟩ (fun _ _=>rfl) ?_
 simp only [fP]
 exact ⟨cs,g1,RL.set' g2 q1 (hx y ⟨z,hz,q2⟩)⟩
theorem gJ:∀(us:List Up) (F:List LV) (H:List aS) (Z:Nat→Prop) (β:Nat→Loc) (F1:List LV) (H1:List aS),RW G w0 Z0 Z β H w→RF ds β Z w H.length F a→(Fv us F H).all (fun q=>q=(F1,H1))→∃Z' β',RW G w0 Z0 Z' β' H1 w∧RF ds β' Z' w H1.length F1 a∧F1.length=F.length
 | [],F,H,Z,β,F1,H1,hW,hF,h=>by
  simp only [Fv,T.all,Prod.mk.injEq] at h
  obtain ⟨rfl,rfl⟩:=h
  exact ⟨Z,β,hW,hF,rfl⟩
 | .nl i t ty::us,F,H,Z,β,F1,H1,hW,hF,h=>by
  simp only [Fv] at h
  split at h
  ·rename_i hx
   obtain ⟨s1,s2⟩:=hF.slot hx (by simp)
   have hv:=(hF.get i _ s1).1
   simp only [R] at hv
   obtain ⟨β',b1,b2,b3⟩:=hW.xG (ℓ:=⟨w.heap.size,0,none⟩) (nb:=⟨[],t,.vec ty [],false⟩) rfl ⟨trivial,trivial⟩ (fun hl=>absurd rfl hl) (fun β' g1 g2=>by simp only [fP,g2])
   have hF1:RF ds β' Z w (H++[(⟨[],t,.vec ty [],false⟩:aS)]).length F a:=hF.mono (by simp) b1 (fun _ h=>h) (fun _ _=>rfl)
   obtain ⟨Z2,β2,c1,c2,c3⟩:=gJ us (F.set i (.os H.length ty.n 0 0)) _ Z β' F1 H1 b3 (hF1.know (by simp only [R,b2];exact ⟨trivial,trivial,hv⟩) (by simp [okV])) h
   exact ⟨Z2,β2,c1,c2,by rw [c3];simp⟩
  ·exact gJ us F H Z β F1 H1 hW hF h
 | .pb i ty::us,F,H,Z,β,F1,H1,hW,hF,h=>by
  simp only [Fv] at h
  split at h
  ·rename_i hx
   obtain ⟨s1,s2⟩:=hF.slot hx (by simp)
   have hv:=(hF.get i _ s1).1
   simp only [R] at hv
   obtain ⟨Z2,β2,c1,c2,c3⟩:=gJ us (F.set i (.xl ty [])) H Z β F1 H1 hW (hF.know (by simp only [R];exact ⟨none,0,hv,Nat.le_refl _,fun h=>by simp at h⟩) trivial) h
   exact ⟨Z2,β2,c1,c2,by rw [c3];simp⟩
  ·rename_i k es off n hx
   split at h
   ·rename_i hcl
    obtain ⟨s1,s2⟩:=hF.slot hx (by simp)
    have hv:=hF.get i _ s1
    obtain ⟨_,hg,h2⟩:=T.aU h
    have hG:GX H 6 (.os k es off n):=T.bD (K':=fun _=>True) (fun _ _=>trivial) hg
    obtain ⟨q1,q2⟩:=kT hcl
    have hP:=hW.pub (reach H 64 [k] [])
    have hH:=fun k b hb=>(hW.blk k b hb).2
    have hr:=tu (S:=fun k=>k∈reach H 64 [k] []) hW
    have hr:R β (ZP Z β H fun j=>j∈reach H 64 [k] []) w (pV H 6 (.os k es off n)) (a.tmps.getD i undef):=tu (S:=fun j=>j∈reach H 64 [k] []) hW q2 6 _ _ hG (fun j hj=>q1 j (by simpa [ownsL] using hj)) hv.2 hv.1
    have hF1:RF ds β (ZP Z β H fun j=>j∈reach H 64 [k] []) w (mZ (reach H 64 [k] []) 0 H).length F a:=by
     rw [fH]
     exact hF.mono (Nat.le_refl _) (fun _ _=>rfl) (fun _ h=> .inl h) (fun _ _=>rfl)
    obtain ⟨Z2,β2,c1,c2,c3⟩:=gJ us (F.set i (pV H 6 (.os k es off n))) _ _ β F1 H1 hP (hF1.know hr (okV.mono (Nat.zero_le _) _ (qG H hH 6 _ hv.2))) h2
    exact ⟨Z2,β2,c1,c2,by rw [c3];simp⟩
   ·cases h
  ·exact gJ us F H Z β F1 H1 hW hF h
 | .nc k j t ty::us,F,H,Z,β,F1,H1,hW,hF,h=>by
  simp only [Fv] at h
  split at h
  ·rename_i c bt hb
   split at h
   ·rename_i hj
    have hkl:k<H.length:=(List.getElem?_eq_some_iff.1 hb).1
    obtain ⟨β',b1,b2,b3⟩:=hW.xG (ℓ:=⟨w.heap.size,0,none⟩) (nb:=⟨[],t,.vec ty [],false⟩) rfl ⟨trivial,trivial⟩ (fun hl=>absurd rfl hl) (fun β' g1 g2=>by simp only [fP,g2])
    have hb':(H++[(⟨[],t,.vec ty [],false⟩:aS)])[k]? =some ⟨c,bt,.cl,false⟩:=by rw [List.getElem?_append_left hkl];exact hb
    have hT:=b3.tell (j:=j) (x:=.os H.length ty.n 0 0) hb' (fun y ⟨z,hz,hr⟩=>by
     rw [hj] at hz
     have:=Option.some.inj hz
     subst this
     simp only [R] at hr
     simp only [R,b2]
     exact ⟨trivial,trivial,hr⟩) ⟨_,hj⟩ (by simp [okV])
    rw [List.set_append_left _ _ hkl] at hT
    have hF1:RF ds β' Z w (H.set k ⟨c.set j (.os H.length ty.n 0 0),bt,.cl,false⟩++[(⟨[],t,.vec ty [],false⟩:aS)]).length F a:=hF.mono (by simp) b1 (fun _ h=>h) (fun _ _=>rfl)
    exact gJ us F _ Z β' F1 H1 hT hF1 h
   ·exact gJ us F H Z β F1 H1 hW hF h
  ·exact gJ us F H Z β F1 H1 hW hF h
 | .pc k j ty::us,F,H,Z,β,F1,H1,hW,hF,h=>by
  simp only [Fv] at h
  split at h
  ·rename_i c bt hb
   split at h
   ·rename_i hj
    have hT:=hW.tell (j:=j) (x:=.xl ty []) hb (fun y ⟨z,hz,hr⟩=>by
     rw [hj] at hz
     have:=Option.some.inj hz
     subst this
     simp only [R] at hr⊢
     exact ⟨none,0,hr,Nat.le_refl _,fun h=>by simp at h⟩) ⟨_,hj⟩ trivial
    exact gJ us F _ Z β F1 H1 hT (hF.mono (by simp) (fun _ _=>rfl) (fun _ h=>h) (fun _ _=>rfl)) h
   ·rename_i k' es off n hj
    split at h
    ·rename_i hcl
     simp only [Bool.and_eq_true,Bool.not_eq_true'] at hcl
     obtain ⟨hcl,hnk⟩:=hcl
     obtain ⟨_,hg,h2⟩:=T.aU h
     have hG:GX H 6 (.os k' es off n):=T.bD (K':=fun _=>True) (fun _ _=>trivial) hg
     obtain ⟨q1,q2⟩:=kT hcl
     have hP:=hW.pub (reach H 64 [k'] [])
     have hH:=fun k b hb=>(hW.blk k b hb).2
     have hok:okV H.length (.os k' es off n):=dP.get j _ (hH k _ hb).1 hj
     have hb':(mZ (reach H 64 [k'] []) 0 H)[k]? =some ⟨c,bt,.cl,false⟩:=by
      rw [yh,hb]
      simp only [Option.map_some,Nat.zero_add,hnk]
      rfl
     have hT:=hP.tell (j:=j) (x:=pV H 6 (.os k' es off n)) hb' (fun y ⟨z,hz,hr⟩=>by
      rw [hj] at hz
      have:=Option.some.inj hz
      subst this
      have hr':R β Z w (.os k' es off n) y:=by simpa only [R] using hr
      exact tu (S:=fun j=>j∈reach H 64 [k'] []) hW q2 6 _ _ hG (fun j hj=>q1 j (by simpa [ownsL] using hj)) hok hr') ⟨_,hj⟩ (okV.mono (Nat.zero_le _) _ (qG H hH 6 _ hok))
     exact gJ us F _ _ β F1 H1 hT (hF.mono (by simp [fH]) (fun _ _=>rfl) (fun _ h=> .inl h) (fun _ _=>rfl)) h2
    ·cases h
   ·exact gJ us F H Z β F1 H1 hW hF h
  ·exact gJ us F H Z β F1 H1 hW hF h
 | .pk k::us,F,H,Z,β,F1,H1,hW,hF,h=>by
  simp only [Fv] at h
  have hP:=hW.pub (reach H 64 [k] [])
  have hF1:RF ds β (ZP Z β H fun j=>j∈reach H 64 [k] []) w (mZ (reach H 64 [k] []) 0 H).length F a:=by
   rw [fH]
   exact hF.mono (Nat.le_refl _) (fun _ _=>rfl) (fun _ h=> .inl h) (fun _ _=>rfl)
  exact gJ us F _ _ β F1 H1 hP hF1 h
 | .ns ..::us,F,H,Z,β,F1,H1,hW,hF,h=>gJ us F H Z β F1 H1 hW hF (by simpa only [Fv] using h)
 | .ps ..::us,F,H,Z,β,F1,H1,hW,hF,h=>gJ us F H Z β F1 H1 hW hF (by simpa only [Fv] using h)
def au0 (H:List aS):LV→T LV
 | .os k es off n=>match H[k]? with
  |some ⟨_,_,.vec _ l,_⟩=> .req (off=0∧n=List.length l) (.ok (.os k es 0 (List.length l)))
  |_=> .ok (.os k es off n)
 |x=> .ok x
def TN (H:List aS):List LV→T (List LV)
 | []=> .ok []
 |x::xs=>(au0 H x).bind fun y=>(TN H xs).bind fun ys=> .ok (y::ys)
theorem anK {x y:LV}(h:(au0 H x).all (fun z=>z=y)):y=x:=by
 unfold au0 at h
 split at h
 ·split at h
  ·simp only [T.all] at h
   obtain ⟨⟨rfl,rfl⟩,h⟩:=h
   exact h.symm
  ·exact h.symm
 ·exact h.symm
theorem F8:∀ {l l':List LV},(TN H l).all (fun z=>z=l')→l'=l
 | [],l',h=>h.symm
 |x::xs,l',h=>by
  simp only [TN] at h
  obtain ⟨y,h1,h2⟩:=T.aU h
  obtain ⟨ys,h3,h4⟩:=T.aU h2
  simp only [T.all] at h4
  rw [←h4,anK h1,F8 h3]
def X4 (H:List aS):List aS→T (List aS)
 | []=> .ok []
 |b::bs=>(TN H b.c).bind fun c=>(X4 H bs).bind fun cs=> .ok (⟨c,b.t,b.k,b.p⟩::cs)
theorem PX:∀ {l l':List aS},(X4 H l).all (fun z=>z=l')→l'=l
 | [],l',h=>h.symm
 |b::bs,l',h=>by
  simp only [X4] at h
  obtain ⟨c,h1,h2⟩:=T.aU h
  obtain ⟨cs,h3,h4⟩:=T.aU h2
  simp only [T.all] at h4
  rw [←h4,F8 h1,PX h3]
structure Vw where
 ex:Ex
 len:Nat
 vals:List LV
 Ci:List aS
 low:Bool
def adM (N:Nat) (H:List aS) (vals:List LV):List Nat:=reach H 400 (ownsL vals++(H.take N).flatMap aS.owns) (List.range N)
def azt (N:Nat) (live:List Nat) (x:Ex) (n:Nat) (F:List LV) (H:List aS):T Vw:=
 (TN H (KH live F)).bind fun vals=>(X4 H ((adM N H vals).map (fun k=>H.getD k aiN))).bind fun bs=>
  .ok ⟨x,n,renL (adM N H vals) vals,bs.map (SE (adM N H vals)),
   oL H (adM N H vals) vals&&nodupB (adM N H vals)&&alX N (adM N H vals)⟩
def aoE (N:Nat) (live:List Nat) (us:List Up) (x:Ex) (F:List LV) (H:List aS):T Vw:=(Fv (us.map (aBL F)) F H).bind fun q=>azt N live x F.length q.1 q.2
theorem zD {N:Nat}{live:List Nat}{us:List Up}{x:Ex}{v:Vw}(hgh:AN N Z0) (hW:RW G w0 Z0 Z β H w) (hF:RF ds β Z w H.length F a) (h:(aoE N live us x F H).all (fun z=>z=v)) (hl:v.low=true):
  v.ex=x∧v.len=F.length∧∃Z' β',RW G w0 Z0 Z' β' v.Ci w∧RF ds β' Z' w v.Ci.length (lT F.length live v.vals) a:=by
 unfold aoE at h
 obtain ⟨⟨F1,H1⟩,h0,h⟩:=T.aU h
 obtain ⟨Z1,β1,c1,c2,c3⟩:=gJ _ F H Z β F1 H1 hW hF h0
 unfold azt at h
 obtain ⟨vals,h1,h2⟩:=T.aU h
 obtain ⟨bs,h2b,h2⟩:=T.aU h2
 simp only [T.all] at h2
 have h3:=F8 h1
 have h4:=PX h2b
 subst h3
 subst h4
 rw [List.map_map] at h2
 subst h2
 refine ⟨rfl,rfl,?_⟩
 simp only [Bool.and_eq_true] at hl
 obtain ⟨β2,d1,d2⟩:=c1.ren hgh hl.1.1 hl.1.2 hl.2
 obtain ⟨v1,v2⟩:=akA (live:=live) c2
 obtain ⟨k1,_⟩:=kT hl.1.1
 refine ⟨Z1,β2,d2,aiA (by rw [hF.size]) c2.defers (ren_RL d1 _ _ k1 v2 v1) ?_⟩
 rw [List.length_map]
 exact ren_okL _ k1 v2
inductive Rd (σ:Type) where
 |next (s:σ)
 |stop (x:Ex) (s:σ)
def rdV {σ:Type}(n:Nat) (A:σ→List LV) (B:σ→List aS):Rd σ→Vw
 | .next s'=>⟨.normal,n,A s',B s',true⟩
 | .stop x s'=>⟨x,n,A s',B s',true⟩
structure awG {α:Type} (K:α→Prop) (t:T α):Prop where
 out:t.all K
def mM {σ:Type}(f:σ→Rd σ):Nat→σ→Ex×σ
 |0,s=>(.ret,s)
 |k+1,s=>match f s with
  | .next s'=>mM f k s'
  | .stop x s'=>(x,s')
theorem KP {σ:Type}{f:σ→Rd σ}{μ:σ→Nat}{I:σ→Prop}(hd:∀s s',I s→f s=.next s'→I s'∧μ s'<μ s):∀(k:Nat) (s:σ),I s→μ s<k→∃s',I s'∧f s'=.stop (mM f k s).1 (mM f k s).2
 |0,s,_,h=>by omega
 | k+1,s,hi,hk=>by
  simp only [mM]
  cases hf:f s with
  |next s'=>
   obtain ⟨h1,h2⟩:=hd s s' hi hf
   exact KP hd k s' h1 (by omega)
  |stop x s'=>exact ⟨s,hi,hf⟩
theorem T.agree {α:Type}{K:α→Prop}{p:α}:∀ {t:T α},t.all (fun x=>x=p)→t.all K→K p
 | .ok _,h,hk=>by simp only [T.all] at h hk;exact h▸hk
 | .br b t e,h,hk=>by
  cases b with
  |true=>exact T.agree (h.1 rfl) (hk.1 rfl)
  |false=>exact T.agree (h.2 rfl) (hk.2 rfl)
 | .req _ t,h,hk=>T.agree h.2 hk.2
 | .no,_,h=>by cases h
def aht {σ:Type}(N n:Nat) (live:List Nat) (us:List Up) (sel:List LV→List aS→T σ) (out:σ→T (Ex×List LV×List aS)) (F:List LV) (H:List aS):T (Ex×List LV×List aS):=
 if F.length=n then ((aoE N live us .normal F H).bind fun v=>if v.low then sel v.vals v.Ci else .no).bind out else .no
def aqU (N:Nat) (live:List Nat) (us:List Up) (t:T (Ex×List LV×List aS)):T Vw:=t.bind fun q=>aoE N live us q.1 q.2.1 q.2.2
def gI:LV→Int
 | .v (.int _ n)=>n
 | .ki _ n=>n
 |_=>0
def J7:LV→Bool
 | .v (.bool b)=>b
 | .bl b=>b
 |_=>false
def gSr:LV→ByteArray
 | .v (.string s)=>s
 |_=>ByteArray.empty
def gAn:LV→Value
 | .v y=>y
 |_=>undef
def bf (e:Ty) (x:LV):List e.D:=(TY e x).getD []
def gFn (x:LV) (j:Nat):LV:=
 match x with
 | .fn _ l=>l.getD j .junk
 |_=> .junk
def nN (x:LV) (j:Nat):LV:=
 match x with
 | .xq _ f=>f j
 |_=> .junk
def aV (H:List aS) (k:Nat):aS:=H.getD k ⟨[],0,.dead,false⟩
def bC (b:aS) (j:Nat):LV:=b.c.getD j .junk
def jm (e:Ty) (b:aS):List e.D:=
 match b.k with
 | .vec e' l=>(match Gy e' e with
  |some ⟨h⟩=>Bh h l
  |none=>[])
 |_=>[]
def gSe (e:Ty) (b:aS):List e.D:=
 match b.k with
 | .st e' l=>(match Gy e' e with
  |some ⟨h⟩=>Bh h l
  |none=>[])
 |_=>[]
def axA {σ:Type}(E:σ→Prop) (A:σ→List LV) (B:σ→List aS) (s:σ) (vals:List LV) (Ci:List aS):T σ:=.req (E s∧vals=A s∧Ci=B s) (.ok s)
theorem alK {σ:Type}{E:σ→Prop}{A:σ→List LV}{B:σ→List aS}{s0 s:σ}{vals:List LV}{Ci:List aS}(h:(axA E A B s0 vals Ci).all (fun x=>x=s)):E s∧vals=A s∧Ci=B s:=by
 obtain ⟨h1,rfl⟩:=h
 exact h1
theorem adV {σ:Type}(N n:Nat) (live:List Nat) (us:List Up) (A:σ→List LV) (B:σ→List aS) (I E:σ→Prop) (μ:σ→Nat) (f:σ→Rd σ) (sel:List LV→List aS→T σ) (out:σ→T (Ex×List LV×List aS)) {b:Code}{t:List LV→List aS→T (Ex×List LV×List aS)}(hb:bG P G (AN N) b t)
  (hsel:∀vals Ci s,(sel vals Ci).all (fun x=>x=s)→E s∧vals=A s∧Ci=B s) (hEI:∀s,E s→I s)
  (hd:∀s s',I s→f s=.next s'→I s'∧μ s'<μ s)
  (hne:∀s x s',f s=.stop x s'→x≠ .normal)
  (step':∀s,I s→awG (fun v=>v=rdV n A B (f s)) (aqU N live us (t (lT n live (A s)) (B s))))
  (hout:∀s,E s→(out s).all fun q=>q=((mM f (μ s+1) s).1,lT n live (A (mM f (μ s+1) s).2),B (mM f (μ s+1) s).2)):
  bG P G (AN N) (.loop b) (aht N n live us sel out):=by
 intro r w0 Z0 Z β F H a w ds Q x F' H' hgh hr hD hW hF h hQ
 unfold aht at h
 split at h
 ·rename_i hlen
  obtain ⟨s,h0,h2⟩:=T.aU h
  obtain ⟨v,hv,h1⟩:=T.aU h0
  split at h1
  ·rename_i hlow
   obtain ⟨hE,hvv,hbk⟩:=hsel _ _ s h1
   have hI:=hEI s hE
   have h2:=T.agree h2 (hout s hE)
   simp only [Prod.mk.injEq] at h2
   obtain ⟨h2,h3,h4⟩:=h2
   obtain ⟨_,_,Z1,β1,hW1,hF1⟩:=zD hgh hW hF hv hlow
   rw [hlen,hvv,hbk] at hF1
   rw [hbk] at hW1
   subst h2 h3 h4
   refine wpIn_loop_rounds (μ s+1) ?_
   have key:∀(k:Nat) (s:σ) (ds:List Deferred) (Z:Nat→Prop) (β:Nat→Loc) (a:Act) (w:World),I s→μ s<k→JM w0 Z0 ds→RW G w0 Z0 Z β (B s) w→RF ds β Z w (B s).length (lT n live (A s)) a→
     (∀ds' Z' β' a' w',JM w0 Z0 ds'→RW G w0 Z0 Z' β' (B (mM f k s).2) w'→RF ds' β' Z' w' (B (mM f k s).2).length (lT n live (A (mM f k s).2)) a'→Q (ava (mM f k s).1) a' w')→Code.roundsIn (J8 r) 0 P b Q k a w:=by
    intro k
    induction k with
    |zero=>intro s ds Z β a w _ h;omega
    | succ k ih=>
     intro s ds Z β a w hI hm hD hW hF hQ
     rw [roundsIn_succ]
     obtain ⟨v,h1,h2⟩:=T.pick (step' s hI).out
     obtain ⟨⟨x,F1,H1⟩,h3,h4⟩:=T.aU h2
     refine hb r w0 Z0 Z β _ (B s) a w ds _ x F1 H1 hgh hr hD hW hF h3 fun ds' Z' β' a' w' e0 e1 e2=>?_
     cases hf:f s with
     |next s'=>
      rw [hf] at h1
      subst h1
      obtain ⟨g1,g2,Z2,β2,k1,k2⟩:=zD hgh e1 e2 h4 rfl
      simp only [rdV] at g1 g2 k1 k2
      subst g1
      obtain ⟨i1,i2⟩:=hd s s' hI hf
      rw [←g2] at k2
      refine ih s' ds' Z2 β2 a' w' i1 (by omega) e0 k1 k2 ?_
      have:mM f (k+1) s=mM f k s':=by simp only [mM,hf]
      rw [this] at hQ
      exact hQ
     |stop y s'=>
      rw [hf] at h1
      subst h1
      obtain ⟨g1,g2,Z2,β2,k1,k2⟩:=zD hgh e1 e2 h4 rfl
      simp only [rdV] at g1 g2 k1 k2
      subst g1
      have hn:=hne s y s' hf
      rw [←g2] at k2
      have:mM f (k+1) s=(y,s'):=by simp only [mM,hf]
      rw [this] at hQ
      have hq:=hQ ds' Z2 β2 a' w' e0 k1 k2
      cases y with
      |normal=>exact absurd rfl hn
      |exit k=>exact hq
      |ret=>exact hq
   exact key _ s ds Z1 β1 a w hI (Nat.lt_succ_self _) hD hW1 hF1 hQ
  ·cases h1
 ·cases h
def bY {σ:Type}(Pn:σ→Prop) (Ps:Ex→σ→Prop):Rd σ→Prop
 | .next s=>Pn s
 | .stop x s=>Ps x s
theorem ai {σ:Type}{Pn:σ→Prop}{Ps:Ex→σ→Prop}{c:Bool}{x y:Rd σ}(h1:c=true→bY Pn Ps x) (h2:c=false→bY Pn Ps y):bY Pn Ps (if c=true then x else y):=by
 cases c with
 |true=>exact h1 rfl
 |false=>exact h2 rfl
theorem aed {σ:Type}{Pn:σ→Prop}{Ps:Ex→σ→Prop}{r:Rd σ}(h:bY Pn Ps r) {s:σ}(e:r=.next s):Pn s:=by subst e;exact h
theorem yG {σ:Type}{Pn:σ→Prop}{Ps:Ex→σ→Prop}{r:Rd σ}(h:bY Pn Ps r) {x:Ex}{s:σ}(e:r=.stop x s):Ps x s:=by subst e;exact h
def lH:Ex→Ex→Bool
 | .normal,.normal=>true
 | .ret,.ret=>true
 | .exit n,.exit m=>n==m
 |_,_=>false
theorem SA {S Y:Type}{f:S→Rd S}{I:S→Prop}{μ:S→Nat}{V:S→Y}{Q:Ex→S→Y→Prop}(hd:∀s s',I s→f s=.next s'→I s'∧μ s'<μ s) (hv:∀s,I s→bY (fun s'=>V s'=V s) (fun x s'=>Q x s' (V s)) (f s)):∀(k:Nat) (s:S),I s→μ s<k→Q (mM f k s).1 (mM f k s).2 (V s)
 |0,s,_,h=>by omega
 | k+1,s,h,hk=>by
  have h2:=hv s h
  simp only [mM]
  cases e:f s with
  |next s'=>
   rw [e] at h2
   obtain ⟨d1,d2⟩:=hd s s' h e
   have:=SA hd hv k s' d1 (by omega)
   simp only
   rw [show V s=V s' from h2.symm]
   exact this
  |stop x s'=>
   rw [e] at h2
   exact h2
def T.rd {σ:Type}(s:σ):T (Rd σ)→Rd σ
 | .ok x=>x
 | .br b x y=>if b=true then x.rd s else y.rd s
 | .req _ x=>x.rd s
 | .no=> .next s
def T.mp {α β:Type}(k:α→β):T α→T β
 | .ok x=> .ok (k x)
 | .br b x y=> .br b (x.mp k) (y.mp k)
 | .req p x=> .req p (x.mp k)
 | .no=> .no
theorem T.O6 {α β:Type}{k:α→β}{K:β→Prop}:∀ {t:T α},t.all (fun x=>K (k x))→(t.mp k).all K
 | .ok _,h=>h
 | .br _ _ _,h=>⟨fun c=>T.O6 (h.1 c),fun c=>T.O6 (h.2 c)⟩
 | .req _ _,h=>⟨h.1,T.O6 h.2⟩
 | .no,h=>h
theorem T.Ob {σ:Type}{s:σ}:∀ {t:T (Rd σ)},t.all (fun _=>True)→t.all (fun x=>x=t.rd s)
 | .ok _,_=>rfl
 | .br b _ _,h=>by
  cases b with
  |true=>exact ⟨fun c=>T.Ob (h.1 c),fun c=>by cases c⟩
  |false=>exact ⟨fun c=>(by cases c),fun c=>T.Ob (h.2 c)⟩
 | .req _ _,h=>⟨h.1,T.Ob h.2⟩
 | .no,h=>h
theorem T.KR {σ:Type}{s:σ}{k:Rd σ→Rd σ}(h0:k (.next s)=.next s):∀ {t:T (Rd σ)},t.mp k=t→k (t.rd s)=t.rd s
 | .ok x,h=>by
  simp only [T.mp,T.ok.injEq] at h
  simp only [T.rd,h]
 | .br b x y,h=>by
  simp only [T.mp,T.br.injEq,true_and] at h
  simp only [T.rd]
  split
  ·exact T.KR h0 h.1
  ·exact T.KR h0 h.2
 | .req _ x,h=>by
  simp only [T.mp,T.req.injEq,true_and] at h
  exact T.KR (t:=x) h0 h
 | .no,_=>h0
structure dn (σ:Type) where
 N:Nat
 n:Nat
 lv:List Nat
 us:List Up
 A:σ→List LV
 B:σ→List aS
 g:List LV→List aS→σ
 t:σ→T (Rd σ)
 kp:σ→σ→σ
 rd:σ→σ
 fx:Ex→σ→σ
 xs:List Ex
 E:σ→Prop
 I:σ→Prop
 mu:σ→Nat
def outT {β:Type}(e:Ex) (k:Ex→β):List Ex→T β
 | []=> .no
 | [x]=> .ok (k x)
 |x::y::xs=> .br (lH e x) (.ok (k x)) (outT e k (y::xs))
theorem aaL:∀ {x y:Ex},lH x y=true→x=y
 | .normal,.normal,_=>rfl
 | .ret,.ret,_=>rfl
 | .exit _,.exit _,h=>by simpa [lH] using h
theorem SI {β:Type}{e:Ex}{k:Ex→β}:∀ {xs:List Ex},xs.any (lH e)=true→(outT e k xs).all (fun q=>q=k e)
 | [],h=>by cases h
 | [x],h=>by
  simp only [List.any_cons,List.any_nil,Bool.or_false] at h
  rw [aaL h];rfl
 |x::y::xs,h=>by
  refine ⟨fun c=>?_,fun c=>SI ?_⟩
  ·rw [aaL c];rfl
  ·rw [List.any_cons,c,Bool.false_or] at h;exact h
def exB {σ:Type}(xs:List Ex):T (Rd σ)→Bool
 | .ok (.next _)=>true
 | .ok (.stop x _)=>xs.any (lH x)&&!lH x .normal
 | .br _ x y=>exB xs x&&exB xs y
 | .req _ x=>exB xs x
 | .no=>true
theorem I8 {σ:Type}{xs:List Ex}{s s':σ}{x:Ex}:∀ {t:T (Rd σ)},exB xs t=true→t.rd s=.stop x s'→xs.any (lH x)=true∧x≠ .normal
 | .ok (.next _),_,h=>by cases h
 | .ok (.stop y _),h,e=>by
  simp only [T.rd,Rd.stop.injEq] at e
  simp only [exB,Bool.and_eq_true,Bool.not_eq_true'] at h
  rw [e.1] at h
  refine ⟨h.1,fun e=>?_⟩
  rw [e] at h
  exact absurd h.2 (by simp [lH])
 | .br b x y,h,e=>by
  simp only [exB,Bool.and_eq_true] at h
  simp only [T.rd] at e
  split at e
  ·exact I8 h.1 e
  ·exact I8 h.2 e
 | .req _ x,h,e=>I8 (t:=x) h e
 | .no,_,h=>by cases h
namespace dn
variable {σ : Type} (D : dn σ)
def f (s:σ):Rd σ:=(D.t s).rd s
def run (s:σ):σ:=D.kp s (mM D.f (D.mu s+1) s).2
def lU (s:σ):Ex:=(mM D.f (D.mu s+1) s).1
def sel (vals:List LV) (Ci:List aS):T σ:=axA D.E D.A D.B (D.g vals Ci) vals Ci
def out (s:σ):T (Ex×List LV×List aS):=outT (D.lU s) (fun x=>(x,lT D.n D.lv (D.A (D.fx x (D.run s))),D.B (D.fx x (D.run s)))) D.xs
def lp:List LV→List aS→T (Ex×List LV×List aS):=aht D.N D.n D.lv D.us D.sel D.out
def q (s:σ):Prop:=D.E s∧D.A s=D.A s∧D.B s=D.B s
def kpR (s:σ):Rd σ→Rd σ
 | .next s'=> .next (D.kp s s')
 | .stop x s'=> .stop x (D.kp s s')
def fxR:Rd σ→Rd σ
 | .next s'=> .next s'
 | .stop x s'=> .stop x (D.fx x s')
structure Ok:Prop where
 keep:∀s,(D.t (D.rd s)).mp (D.kpR (D.rd s))=D.t (D.rd s)
 fix:∀s,(D.t (D.rd s)).mp D.fxR=D.t (D.rd s)
 ayt:∀s,D.kp s s=s
 ays:∀s t r,D.kp (D.kp s t) r=D.kp s r
 fx0:∀s,D.fx .normal (D.rd s)=D.rd s
 exs:∀s,exB D.xs (D.t s)=true
structure Pf (Q:Ex→σ→σ→Prop):Prop where
 ei:∀s,D.E s→D.I s
 rdy:∀s,D.I s→D.rd s=s
 da:∀s,D.I s→bY (fun s'=>D.I s'∧D.mu s'<D.mu s) (fun x s'=>Q x s s') (D.f s)
 rq:∀s,D.I s→(D.t s).all (fun _=>True)
variable {D} {Q : Ex → σ → σ → Prop}
theorem Pf.nx (p:D.Pf Q) (s s':σ) (h:D.I s) (e:D.f s=.next s'):D.I s'∧D.mu s'<D.mu s:=aed (p.da s h) e
theorem kept (o:D.Ok) (p:D.Pf Q):∀(k:Nat) (s:σ),D.I s→D.mu s<k→D.kp s (mM D.f k s).2=(mM D.f k s).2∧D.fx (mM D.f k s).1 (mM D.f k s).2=(mM D.f k s).2∧D.xs.any (lH (mM D.f k s).1)=true
 |0,_,_,h=>by omega
 | k+1,s,hI,hk=>by
  have h1:=o.keep s
  have h2:=o.fix s
  have h0:=o.fx0 s
  rw [p.rdy s hI] at h0 h1 h2
  have hl:=T.KR (s:=s) (by simp only [kpR,o.ayt]) h1
  have hx:=T.KR (s:=s) (by simp only [fxR]) h2
  change D.kpR s (D.f s)=D.f s at hl
  change D.fxR (D.f s)=D.f s at hx
  simp only [mM]
  cases hf:D.f s with
  |next s'=>
   rw [hf] at hl
   simp only [kpR,Rd.next.injEq] at hl
   obtain ⟨h1,h2⟩:=p.nx s s' hI hf
   obtain ⟨h3,h4⟩:=kept o p k s' h1 (by omega)
   refine ⟨?_,h4⟩
   have e:=o.ays s s' (mM D.f k s').2
   rw [hl,h3] at e
   exact e.symm
  |stop x s'=>
   rw [hf] at hl hx
   simp only [kpR,fxR,Rd.stop.injEq,true_and] at hl hx
   exact ⟨hl,hx,(I8 (o.exs s) hf).1⟩
theorem run_eq (o:D.Ok) (p:D.Pf Q) {s:σ}(hE:D.E s):(mM D.f (D.mu s+1) s).2=D.run s:=(kept o p _ s (p.ei s hE) (Nat.lt_succ_self _)).1.symm
theorem end_ (o:D.Ok) (p:D.Pf Q) (s:σ) (hE:D.E s):∃s',D.I s'∧D.f s'=.stop (D.lU s) (D.run s):=by
 rw [←run_eq o p hE]
 exact KP p.nx (D.mu s+1) s (p.ei s hE) (Nat.lt_succ_self _)
theorem fin (o:D.Ok) (p:D.Pf Q) (s:σ) (hE:D.E s):∃s',D.I s'∧Q (D.lU s) s' (D.run s):=by
 obtain ⟨s',hI,hf⟩:=end_ o p s hE
 exact ⟨s',hI,yG (p.da s' hI) hf⟩
theorem snd (o:D.Ok) (p:D.Pf Q) {b:Code}{t:List LV→List aS→T (Ex×List LV×List aS)}(hb:bG P G (AN D.N) b t)
  (hn:∀s,aqU D.N D.lv D.us (t (lT D.n D.lv (D.A (D.rd s))) (D.B (D.rd s)))=(D.t (D.rd s)).mp (rdV D.n D.A D.B)):bG P G (AN D.N) (.loop b) D.lp:=by
 refine adV D.N D.n D.lv D.us D.A D.B D.I D.E D.mu D.f D.sel D.out hb (fun _ _ _ h=>alK h) p.ei p.nx (fun s x s' hf=>(I8 (o.exs s) hf).2) (fun s hI=>⟨?_⟩) fun s hE=>?_
 ·have h:=hn s
  rw [p.rdy s hI] at h
  rw [h]
  exact T.O6 (T.bD (fun x hx=>by rw [hx];rfl) (T.Ob (s:=s) (p.rq s hI)))
 ·obtain ⟨h1,h2,h3⟩:=kept o p _ s (p.ei s hE) (Nat.lt_succ_self (D.mu s))
  have h4:=SI (k:=fun x=>(x,lT D.n D.lv (D.A (D.fx x (D.run s))),D.B (D.fx x (D.run s)))) h3
  refine T.bD (fun q hq=>?_) h4
  rw [hq]
  simp only [run,h1,h2]
theorem rC (o:D.Ok) (p:D.Pf Q) {Y:Type}(V:σ→Y) (K:Ex→σ→Y→Prop) (hv:∀s,D.I s→bY (fun s'=>V s'=V s) (fun x s'=>K x s' (V s)) (D.f s)) (s:σ) (hE:D.E s):K (D.lU s) (D.run s) (V s):=by
 rw [←run_eq o p hE]
 exact SA p.nx hv (D.mu s+1) s (p.ei s hE) (Nat.lt_succ_self _)
theorem vP (o:D.Ok) (p:D.Pf Q) {Y:Type}(V:σ→Y) (hv:∀s,D.I s→bY (fun s'=>V s'=V s) (fun _ s'=>V s'=V s) (D.f s)) (s:σ) (hE:D.E s):V (D.run s)=V s:=rC o p V (fun _ s' v=>V s'=v) hv s hE
def stR (s:σ):Rd σ→Rd σ
 | .next s'=> .next s'
 | .stop x _=> .stop x s
theorem inv (o:D.Ok) (p:D.Pf Q) (hs:∀s,(D.t s).mp (stR s)=D.t s) (s:σ) (hE:D.E s):D.I (D.run s)∧D.f (D.run s)=.stop (D.lU s) (D.run s):=by
 obtain ⟨s',hI,hf⟩:=end_ o p s hE
 have h:=T.KR (s:=s') (k:=stR s') rfl (hs s')
 have h:stR s' (D.f s')=D.f s':=h
 rw [hf] at h
 simp only [stR,Rd.stop.injEq,true_and] at h
 subst h
 exact ⟨hI,hf⟩
end dn
end Go.Sx
namespace Go.Sx
open Go Go.RowKit Go.Proofs.YtlihnbimgclogaaGreatDoor
variable {P : Program} {G : dB} {Γ : Specs} {K : Hand} {L : CQ} {β : Nat → Loc} {Z : Nat → Prop} {w : World} {n : Nat}
def azv (k:IntKind) (x y:Int):Int:=k.wrap ((BitVec.ofInt k.bits x&&&BitVec.ofInt k.bits y).toNat)
def gi (l:List Int) (n:Int):Int:=l.getD n.toNat 0
theorem jy {l:List Int}{n:Int}(h:n.toNat<l.length):gi l n=l[n.toNat]:=by simp [gi,List.getD,List.getElem?_eq_getElem h]
theorem nC {l:List Int}{n:Int}(h:n.toNat<l.length):gi l n∈l:=by rw [jy h];exact List.getElem_mem h
theorem aaT {α:Type}{f:LV→Option α}{l:List LV}{d:α}{ys:List Value}(h:hd1 f l=some d) (hr:RL β Z w l ys):∃x y,f x=some d∧ys=[y]∧R β Z w x y:=by
 unfold hd1 at h
 split at h
 ·rename_i x
  simp only [RL] at hr
  obtain ⟨y,zs,rfl,h3,rfl⟩:=hr
  exact ⟨x,y,h,rfl,h3⟩
 ·cases h
theorem RL.one {x:LV}{y:Value}(h:R β Z w x y):RL β Z w [x] [y]:=by simp only [RL];exact ⟨y,[],rfl,h,rfl⟩
theorem xu:∀(t:Ty) (cs:List LV) (d:t.D) (ys:List Value),rE t cs=some d→RL β Z w cs ys→RL β Z w (fU t d) ys
 | .int k,cs,d,ys,h,hr=>by
  simp only [rE] at h
  obtain ⟨x,y,h1,rfl,h3⟩:=aaT h hr
  unfold avk at h1
  split at h1
  ·split at h1
   ·rename_i hk;simp only [Option.some.injEq] at h1;subst h1 hk;exact RL.one h3
   ·cases h1
  ·split at h1
   ·rename_i hk;simp only [Option.some.injEq] at h1;subst h1 hk;exact RL.one (by simp only [R] at*;exact h3)
   ·cases h1
  ·cases h1
 | .bool,cs,d,ys,h,hr=>by
  simp only [rE] at h
  obtain ⟨x,y,h1,rfl,h3⟩:=aaT h hr
  unfold avl at h1
  split at h1
  ·simp only [Option.some.injEq] at h1;subst h1;exact RL.one h3
  ·simp only [Option.some.injEq] at h1;subst h1;exact RL.one (by simp only [R] at*;exact h3)
  ·cases h1
 | .str,cs,d,ys,h,hr=>by
  simp only [rE] at h
  obtain ⟨x,y,h1,rfl,h3⟩:=aaT h hr
  unfold avj at h1
  split at h1
  ·simp only [Option.some.injEq] at h1;subst h1;exact RL.one h3
  ·cases h1
 | .sl e,cs,d,ys,h,hr=>by
  simp only [rE] at h
  obtain ⟨x,y,h1,rfl,h3⟩:=aaT h hr
  exact RL.one (X7 h1 h3)
 | .pair a b,cs,d,ys,h,hr=>by
  simp only [rE] at h
  split at h
  ·rename_i x y h1 h2
   simp only [Option.some.injEq] at h
   subst h
   have e1:=xu a _ x _ h1 (hr.take a.n)
   have e2:=xu b _ y _ h2 (hr.drop a.n)
   simp only [fU]
   rw [←List.take_append_drop a.n ys]
   exact e1.app e2
  ·cases h
def upV (P:Program) (t:TypeId) (x:LV):LV:=
 match yH P 8 t,aee P t with
 | some ty,some true=>match x with
  | .v (.agg ys)=>(match rE ty (ys.toList.map .v) with
   |some d=>rV (fU ty d)
   |none=>x)
  | .agg l=>(match rE ty l with
   |some d=>rV (fU ty d)
   |none=>x)
  |_=>x
 | some ty,some false=>(match rE ty [x] with
  |some d=>(match fU ty d with
   | [c]=>c
   |_=>x)
  |none=>x)
 |_,_=>x
def upL (P:Program):List TypeId→List LV→List LV
 |t::ts,x::xs=>upV P t x::upL P ts xs
 |_,xs=>xs
def upR (P:Program) (ts:List TypeId) (x:LV):LV:=
 match ts with
 | [t]=>upV P t x
 |ts=>match x with
  | .v (.tuple ys)=>Io (upL P ts (ys.toList.map .v))
  | .jg l=>Io (upL P ts l)
  |x=>x
theorem RL.plain:∀(ys:List Value),RL β Z w (ys.map .v) ys
 | []=>by simp [RL]
 |y::ys=>by simp only [List.map_cons,RL];exact ⟨y,ys,rfl,by simp only [R],RL.plain ys⟩
theorem La:∀(ys:List Value),dP n (ys.map .v)
 | []=>trivial
 |_::ys=>⟨trivial,La ys⟩
theorem ao0 {t:TypeId}{x:LV}{y:Value}(h:R β Z w x y):R β Z w (upV P t x) y:=by
 unfold upV
 split
 ·split
  ·split
   ·rename_i d hd
    simp only [R] at h
    subst h
    exact rU (xu _ _ d _ hd (RL.plain _))
   ·exact h
  ·split
   ·rename_i d hd
    simp only [R] at h
    obtain ⟨ys,rfl,h2⟩:=h
    exact rU (xu _ _ d _ hd h2)
   ·exact h
  ·exact h
 ·split
  ·rename_i d hd
   split
   ·rename_i c hc
    have:=xu _ _ d _ hd (RL.one h)
    rw [hc] at this
    simp only [RL] at this
    obtain ⟨y',zs,e1,e2,e3⟩:=this
    simp only [List.cons.injEq] at e1
    rw [e1.1];exact e2
   ·exact h
  ·exact h
 ·exact h
theorem aeN {t:TypeId}{x:LV}(h:okV n x):okV n (upV P t x):=by
 unfold upV
 split
 ·split
  ·split
   ·exact oU (oK _ _ _)
   ·exact h
  ·split
   ·exact oU (oK _ _ _)
   ·exact h
  ·exact h
 ·split
  ·rename_i d hd
   split
   ·rename_i c hc
    have:=oK n _ d
    rw [hc] at this
    exact this.1
   ·exact h
  ·exact h
 ·exact h
theorem Zg:∀ {ts:List TypeId}{l:List LV}{ys:List Value},RL β Z w l ys→RL β Z w (upL P ts l) ys
 | [],l,ys,h=>by simpa only [upL] using h
 |_::_,[],ys,h=>by simpa only [upL] using h
 |t::ts,x::xs,ys,h=>by
  simp only [upL,RL] at h⊢
  obtain ⟨y,zs,h1,h2,h3⟩:=h
  exact ⟨y,zs,h1,ao0 h2,Zg h3⟩
theorem NF:∀ {ts:List TypeId}{l:List LV},dP n l→dP n (upL P ts l)
 | [],l,h=>by simpa only [upL] using h
 |_::_,[],h=>by simpa only [upL] using h
 |t::ts,x::xs,h=>by
  simp only [upL,dP] at h⊢
  exact ⟨aeN h.1,NF h.2⟩
theorem axi {ts:List TypeId}{x:LV}{y:Value}(h:R β Z w x y):R β Z w (upR P ts x) y:=by
 unfold upR
 split
 ·exact ao0 h
 ·split
  ·simp only [R] at h
   subst h
   exact O9 (Zg (RL.plain _))
  ·simp only [R] at h
   obtain ⟨ys,rfl,h2⟩:=h
   exact O9 (Zg h2)
  ·exact h
theorem ar6 {ts:List TypeId}{x:LV}(h:okV n x):okV n (upR P ts x):=by
 unfold upR
 split
 ·exact aeN h
 ·split
  ·exact Il (NF (La _))
  ·exact Il (NF (by simpa only [okV] using h))
  ·exact h
def jR (P:Program) (ts:List TypeId) (S:List LV→T LV):List LV→T LV:=fun l=>S (upL P ts l)
theorem Valid.up {f:FuncId}{S:List LV→T LV}(h:Valid P G f S) (ts:List TypeId):Valid P G f (jR P ts S):=by
 intro args vals w Z lv hz hg hok hr hs
 exact h (upL P ts args) vals w Z lv hz hg (NF hok) (Zg hr) hs
/-A pointer to cells that are only read,told by the cells. -/
mutual
def canX:LV→LV
 | .xq n f=> .xq n (fun j=>((List.range n).map fun i=>canX (f i)).getD j .junk)
 | .fn f l=> .fn f (canL l)
 |x=>x
def canL:List LV→List LV
 | []=>[]
 |x::xs=>canX x::canL xs
end
mutual
theorem canX_R:∀ {x:LV}{y:Value},R β Z w x y→R β Z w (canX x) y
 | .xq n f,y,h=>by
  simp only [canX,R] at h⊢
  obtain ⟨b,off,h1,hz,h2⟩:=h
  refine ⟨b,off,h1,hz,fun j hj=>?_⟩
  have e:((List.range n).map fun i=>canX (f i)).getD j .junk=canX (f j):=by simp [List.getD,hj]
  rw [e]
  obtain ⟨z,e1,e2⟩:=h2 j hj
  exact ⟨z,e1,canX_R e2⟩
 | .fn f l,y,h=>by
  simp only [canX,R] at h⊢
  obtain ⟨ys,h1,h2⟩:=h
  exact ⟨ys,h1,canL_R h2⟩
 | .v _,_,h=>h
 | .bl _,_,h=>h
 | .ki _ _,_,h=>h
 | .own _ _,_,h=>h
 | .agg _,_,h=>h
 | .jg _,_,h=>h
 | .xl _ _,_,h=>h
 | .os ..,_,h=>h
 | .op ..,_,h=>h
 | .om _,_,h=>h
 | .mp ..,_,h=>h
 | .oc ..,_,h=>h
 | .vK _,_,h=>h
 | .junk,_,h=>h
theorem canL_R:∀ {l:List LV}{ys:List Value},RL β Z w l ys→RL β Z w (canL l) ys
 | [],ys,h=>by simpa only [canL,RL] using h
 |x::xs,ys,h=>by
  simp only [canL,RL] at h⊢
  obtain ⟨y,zs,h1,h2,h3⟩:=h
  exact ⟨y,zs,h1,canX_R h2,canL_R h3⟩
end
mutual
theorem canX_ok:∀ {n:Nat}{x:LV},okV n x→okV n (canX x)
 | _,.xq m f,h=>by
  simp only [canX,okV] at h⊢
  intro j
  by_cases hj:j<m
  ·have e:((List.range m).map fun i=>canX (f i)).getD j .junk=canX (f j):=by simp [List.getD,hj]
   rw [e];exact canX_ok (h j)
  ·have e:((List.range m).map fun i=>canX (f i)).getD j .junk=.junk:=by simp [List.getD,hj]
   rw [e];trivial
 |_,.fn f l,h=>by
  simp only [canX,okV] at h⊢
  exact canL_ok h
 |_,.v _,h=>h
 |_,.bl _,h=>h
 |_,.ki _ _,h=>h
 |_,.own _ _,h=>h
 |_,.agg _,h=>h
 |_,.jg _,h=>h
 |_,.xl _ _,h=>h
 |_,.os ..,h=>h
 |_,.op ..,h=>h
 |_,.om _,h=>h
 |_,.mp ..,h=>h
 |_,.oc ..,h=>h
 |_,.vK _,h=>h
 |_,.junk,h=>h
theorem canL_ok:∀ {n:Nat}{l:List LV},dP n l→dP n (canL l)
 |_,[],h=>h
 |_,x::xs,h=>by
  simp only [canL,dP] at h⊢
  exact ⟨canX_ok h.1,canL_ok h.2⟩
end
theorem pI {n:Nat}{f:Nat→LV}{l:List LV}(h:(List.range n).map f=l):((List.range n).map fun i=>canX (f i))=canL l:=by
 have e:∀l:List LV,canL l=l.map canX:=fun l=>by induction l with
  |nil=>rfl
  |cons x l ih=>simp only [canL,ih,List.map_cons]
 rw [e,←h,List.map_map]
 rfl
def eX (P:Program) (G:dB) (Γ:Specs) (K:Hand) (L:CQ) (fn:Func) (args:List LV):T LV:=(anI P G Γ K L fn args).bind fun x=> .ok (canX (upR P fn.resultTypes.toList x))
theorem aJ {f:FuncId}{fn:Func}{c:Code}{S:List LV→T LV}(hfn:P.funcs[f]? =some fn) (hc:fn.body=some c) (hΓ:∀g S,Γ g=some S→Valid P G g S) (hK:cO P G K)
  (hL:∀b∈ay c,Sound P G (.loop b) (L (pG b))) (hS:∀args lv,(S args).all (fun x=>x=lv)→(eX P G Γ K L fn (canL args)).all (fun x=>x=lv)):Valid P G f (jR P fn.params.toList S):=by
 refine Valid.up ?_ _
 have h0:Valid P G f (fun l=>anI P G Γ K L fn l):=aeF hfn hc hΓ hK hL (fun _ _ h=>h)
 intro args vals w Z lv hz hg hok hr hs
 have hs:=hS args lv hs
 unfold eX at hs
 obtain ⟨x,h1,h2⟩:=T.aU hs
 simp only [T.all] at h2
 subst h2
 exact Calls.mono (h0 (canL args) vals w Z x hz hg (canL_ok hok) (canL_R hr) h1) (fun e w' ⟨e1,v,e2,e3,e4⟩=>⟨e1,v,e2,canX_ok (ar6 e3),canX_R (axi e4)⟩)
def T.red {α:Type}:T α→T α
 | .br true t _=>T.red t
 | .br false _ e=>T.red e
 | .req p t=> .req p (T.red t)
 |t=>t
theorem T.Gp {α:Type}{K:α→Prop}:∀ {t:T α},t.red.all K→t.all K
 | .ok _,h=>h
 | .br true t e,h=>⟨fun _=>T.Gp h,fun hb=>by cases hb⟩
 | .br false t e,h=>⟨fun hb=>(by cases hb),fun _=>T.Gp h⟩
 | .req p t,h=>⟨h.1,T.Gp h.2⟩
 | .no,h=>h
end Go.Sx
namespace Go.Proofs.YtlihnbimgclogaaGreatDoor
open Go.Sx
abbrev iJ:Ty:=.pair .str (.pair (.int .i64) (.pair (.int .i64) (.pair (.int .i64) (.pair (.pair (.int .i64) (.int .i64)) (.pair (.int .i64) (.pair (.int .i64) (.pair (.int .i64) (.pair (.int .i64) (.int .i64)))))))))
abbrev iQ:Ty:=.pair .str (.pair (.int .i64) (.pair (.int .i64) (.int .i64)))
abbrev gU:Ty:=.pair .str (.pair (.int .i64) (.pair (.int .i64) (.pair (.int .i64) (.pair (.int .i64) (.pair (.int .i64) (.pair (.int .i64) (.int .i64)))))))
abbrev iR:Ty:=.pair .str (.int .i64)
abbrev Cbl:=Int×Int×Int×Int×Int
abbrev Cd:=ByteArray×Int×Int×Int×(Int×Int)×Cbl
abbrev Ko:=ByteArray×Int×Int×Int
abbrev Ch:=ByteArray×Int×Int×Int×Int×Int×Int×Int
abbrev Ba:=ByteArray×Int
theorem aF {x:Int}(h1:-9223372036854775808≤x) (h2:x≤9223372036854775807):IntKind.i64.wrap x=x:=by
 simp [IntKind.wrap,IntKind.bits,IntKind.signed]
 omega
def inB (n a b:Int):Bool:=decide (n≥a)&&decide (n≤b)
theorem iP {n a b:Int}:inB n a b=true↔a≤n∧n≤b:=by simp [inB]
theorem AO {α:Type}{l:List α}{d:α}{n:Int}(h:n.toNat<l.length):l.getD n.toNat d=l[n.toNat]:=by simp [List.getD,List.getElem?_eq_getElem h]
theorem vk {α:Type}{l:List α}{d:α}{i:Int}(h0:0≤i) (h:i<l.length):l.drop i.toNat=l.getD i.toNat d::l.drop (i+1).toNat∧l.take (i+1).toNat=l.take i.toNat++[l.getD i.toNat d]:=by
 have hlt:i.toNat<l.length:=by omega
 rw [AO hlt,show (i+1).toNat=i.toNat+1 by omega,List.take_add_one,List.getElem?_eq_getElem hlt,List.drop_eq_getElem_cons hlt]
 exact ⟨rfl,rfl⟩
def emp:ByteArray:=ByteArray.mk #[]
def iw (l:List Cd) (n:Int):Cd:=l.getD n.toNat (emp,0,0,0,(0,0),0,0,0,0,0)
def bU (l:List Ch) (n:Int):Ch:=l.getD n.toNat (emp,0,0,0,0,0,0,0)
def Kv (l:List Ko) (n:Int):Ko:=l.getD n.toNat (emp,0,0,0)
def X0 (l:List Ba) (n:Int):Ba:=l.getD n.toNat (emp,0)
def gS (l:List ByteArray) (n:Int):ByteArray:=l.getD n.toNat emp
theorem gi_step {l:List Int}{i:Int}(h0:0≤i) (h:i<l.length):l.drop i.toNat=gi l i::l.drop (i+1).toNat∧l.take (i+1).toNat=l.take i.toNat++[gi l i]:=by
 have hlt:i.toNat<l.length:=by omega
 rw [jy hlt,show (i+1).toNat=i.toNat+1 by omega,List.take_add_one,List.getElem?_eq_getElem hlt,List.drop_eq_getElem_cons hlt]
 exact ⟨rfl,rfl⟩
theorem auX {l:List Ch}{n:Int}(h:n.toNat<l.length):bU l n=l[n.toNat]:=AO h
theorem aiy {l:List Cd}{i:Int}(h0:0≤i) (h:i<l.length):l.drop i.toNat=iw l i::l.drop (i+1).toNat∧l.take (i+1).toNat=l.take i.toNat++[iw l i]:=vk h0 h
theorem aix {l:List Ch}{i:Int}(h0:0≤i) (h:i<l.length):l.drop i.toNat=bU l i::l.drop (i+1).toNat∧l.take (i+1).toNat=l.take i.toNat++[bU l i]:=vk h0 h
theorem TL {l:List Ko}{i:Int}(h0:0≤i) (h:i<l.length):l.drop i.toNat=Kv l i::l.drop (i+1).toNat∧l.take (i+1).toNat=l.take i.toNat++[Kv l i]:=vk h0 h
theorem aiz {l:List Ba}{i:Int}(h0:0≤i) (h:i<l.length):l.drop i.toNat=X0 l i::l.drop (i+1).toNat∧l.take (i+1).toNat=l.take i.toNat++[X0 l i]:=vk h0 h
theorem aa4 {l:List ByteArray}{i:Int}(h0:0≤i) (h:i<l.length):l.drop i.toNat=gS l i::l.drop (i+1).toNat∧l.take (i+1).toNat=l.take i.toNat++[gS l i]:=vk h0 h
def ni (mi ma st:Int):Bool:=decide (1≤mi)&&(decide (mi≤ma)&&(decide (ma≤80)&&(decide (1≤st)&&decide (st≤80))))
theorem gm {mi ma st:Int}:ni mi ma st=true↔1≤mi∧mi≤ma∧ma≤80∧1≤st∧st≤80:=by simp [ni]
def Dy (mi ma st:Int):Int:=if ni mi ma st then (ma-mi) / st+2 else 0
def CZ (mi st k:Int):Int:=if k=0 then 0 else mi+(k-1)*st
def amE (mi ma st k:Int):Int:=if k<0∨Dy mi ma st≤k then 1 else 0
def amA (mi ma st k:Int):Int:=if k<0∨Dy mi ma st≤k then 0 else CZ mi st k
def Tm (mi ma st a:Int):Int:=if ni mi ma st=false∨a<0 then -1 else if a<mi then 0 else min (Dy mi ma st-1) ((a-mi) / st+1)
theorem DV {x st:Int}(h0:0≤x) (h1:1≤st):0≤x / st∧x / st≤x:=⟨Int.ediv_nonneg h0 (by omega),Int.ediv_le_self _ h0⟩
theorem aho {mi ma st:Int}:0≤Dy mi ma st∧Dy mi ma st≤81:=by
 unfold Dy
 split
 ·rename_i h
  have:=gm.1 h
  have:=DV (x:=ma-mi) (st:=st) (by omega) (by omega)
  omega
 ·omega
theorem Pm {mi ma st:Int}(h:ni mi ma st=true):2≤Dy mi ma st:=by
 unfold Dy
 rw [if_pos h]
 have:=gm.1 h
 have:=DV (x:=ma-mi) (st:=st) (by omega) (by omega)
 omega
theorem Ti {mi ma st:Int}(h:ni mi ma st=false):Dy mi ma st=0:=by simp [Dy,h]
theorem aum {a b:Int}(a0:0≤a) (a1:a≤1000) (b0:0≤b) (b1:b≤80):0≤a*b∧a*b≤80000:=
 ⟨Int.mul_nonneg a0 b0,Int.le_trans (Int.mul_le_mul_of_nonneg_left b1 a0) (by omega)⟩
theorem Zj (bs:ByteArray):∀(n i:Nat) (r:List UInt8),bs.size-i=n→ByteArray.toList.loop bs i r=r.reverse++bs.data.toList.drop i
 |0,i,r,h=>by
  rw [ByteArray.toList.loop,if_neg (by omega),List.drop_eq_nil_of_le (by simp only [Array.length_toList];show bs.size≤i;omega),List.append_nil]
 | n+1,i,r,h=>by
  have hi:i<bs.data.toList.length:=by simp only [Array.length_toList];show i<bs.size;omega
  rw [ByteArray.toList.loop,if_pos (by omega),Zj bs n (i+1) _ (by omega),List.reverse_cons,List.append_assoc,List.drop_eq_getElem_cons hi]
  have:bs.get! i=bs.data.toList[i]:=by
   have hi':i<bs.data.size:=by simpa using hi
   show bs.data[i]! =_
   rw [getElem!_pos bs.data i hi',Array.getElem_toList]
  rw [this]
  rfl
theorem Zk (bs:ByteArray):bs.toList=bs.data.toList:=by
 rw [ByteArray.toList,Zj bs _ 0 [] rfl]
 rfl
theorem ar8 {a b:ByteArray}(h:a.toList=b.toList):a=b:=by
 rw [Zk,Zk] at h
 cases a;cases b;simp at h;rw [h]
theorem Yg {a b:ByteArray}:(a==b)=true↔a=b:=by
 show (a.data==b.data)=true↔_
 rw [beq_iff_eq]
 exact ⟨fun h=>by cases a;cases b;simp at h;rw [h],fun h=>by rw [h]⟩
instance:LawfulBEq ByteArray where
 eq_of_beq h:=Yg.1 h
 rfl:=Yg.2 rfl
theorem GK (a b:ByteArray):(a.toList==b.toList)=(a==b):=by
 rw [Bool.eq_iff_iff,beq_iff_eq,Yg]
 exact ⟨ar8,fun h=>by rw [h]⟩
def kinds:List ByteArray:=[(ByteArray.mk #[102,101,101,100,101,114]),(ByteArray.mk #[99,97,98,108,101]),(ByteArray.mk #[111,119,110,101,114]),(ByteArray.mk #[99,111,110,116,114,97,99,116]),(ByteArray.mk #[99,104,97,114,103,101,114]),(ByteArray.mk #[98,97,121]),(ByteArray.mk #[116,97,114,105,102,102])]
def ace:List ByteArray:=[(ByteArray.mk #[108,105,109,105,116]),(ByteArray.mk #[110,101,117,116,114,97,108]),(ByteArray.mk #[102,117,115,101]),(ByteArray.mk #[116,104,101,114,109,97,108]),(ByteArray.mk #[102,114,111,109]),(ByteArray.mk #[97,116]),(ByteArray.mk #[112,104,97,115,101,115]),(ByteArray.mk #[97,109,112,115]),(ByteArray.mk #[102,97,108,108,98,97,99,107]),(ByteArray.mk #[111,119,110,101,114]),(ByteArray.mk #[99,97,114,100]),(ByteArray.mk #[114,97,110,107]),(ByteArray.mk #[99,104,97,114,103,101,114])]
def Cj:List ByteArray:=[(ByteArray.mk #[115,116,97,114,116]),(ByteArray.mk #[101,110,101,114,103,121]),(ByteArray.mk #[116,105,109,101]),(ByteArray.mk #[105,100,108,101]),(ByteArray.mk #[99,97,112]),(ByteArray.mk #[116,97,120])]
def words:List ByteArray:=[(ByteArray.mk #[111,110]),(ByteArray.mk #[119,111,114,107]),(ByteArray.mk #[115,97,116,117,114,100,97,121]),(ByteArray.mk #[115,117,110,100,97,121]),(ByteArray.mk #[98,101,116,119,101,101,110]),(ByteArray.mk #[112,101,114]),(ByteArray.mk #[102,114,101,101])]
def isIn (l:List ByteArray) (w:ByteArray):Bool:=l.any (w== ·)
def adX:Int→List ByteArray→ByteArray→Int
 |_,[],_=>0
 |n,x::l,w=>if w==x then n else adX (n+1) l w
theorem Tt:∀(n:Int) (l:List ByteArray) (w:ByteArray),0<n→(adX n l w !=0)=isIn l w
 |_,[],_,_=>rfl
 | n,x::l,w,h=>by
  simp only [adX,isIn,List.any_cons]
  split
  ·rename_i c;simp [c];omega
  ·rename_i c
   have:=Tt (n+1) l w (by omega)
   simp only [isIn] at this
   rw [this]
   simp [c]
def auz (w:ByteArray):Bool:=isIn kinds w ||(isIn ace w ||(isIn Cj w ||isIn words w))
def chA (b:Int):Bool:=decide (b≥97)&&decide (b≤122)
def chB (b:Int):Bool:=chA b ||((decide (b≥48)&&decide (b≤57)) ||b==95)
def gwB (w:ByteArray):Bool:=decide (1≤w.size∧w.size≤12)&&(chA (FD w 0)&&(List.range w.size).all fun i=>i==0 ||chB (FD w i))
def nameB (w:ByteArray):Bool:=gwB w&&!auz w
theorem CB {p q:Prop}(h:p) (k:p→q):p∧q:=⟨h,k h⟩
def Kq (n:Nat) (f:Int→Bool):Bool:=(List.range n).all fun j=>f (j:Int)
theorem iD {n:Nat}{f:Int→Bool}:Kq n f=true↔∀j:Nat,(j:Int)<(n:Int)→f j=true:=by
 unfold Kq
 rw [List.all_eq_true]
 exact ⟨fun h j hj=>h j (List.mem_range.2 (by omega)),fun h j hj=>h j (by have:=List.mem_range.1 hj;omega)⟩
theorem Hf {n:Nat}{f:Int→Bool}(j:Nat) (h:(j:Int)<(n:Int)) (hf:f j=false):Kq n f=false:=by
 rw [Bool.eq_false_iff]
 intro hx
 rw [iD.1 hx j h] at hf
 cases hf
def cbZ (c:Cbl):Bool:=(c.1==0)&&((c.2.1==0)&&((c.2.2.1==0)&&((c.2.2.2.1==0)&&(c.2.2.2.2==0))))
def Vy (c:Cbl):Bool:=cbZ c ||(decide (0≤c.1)&&(decide (c.1<c.2.1)&&(decide (c.2.1≤200000)&&(inB c.2.2.1 0 1000&&(inB c.2.2.2.1 0 1000&&inB c.2.2.2.2 1 1000000)))))
def Vx (i:Int) (c:Cd):Bool:=(if i=0 then c.2.1==-1 else inB c.2.1 0 (i-1))&&(inB c.2.2.1 1 1000&&(inB c.2.2.2.1 1 1000&&(((c.2.2.2.2.1.1==0)&&(c.2.2.2.2.1.2==0) ||(inB c.2.2.2.2.1.1 1 1000&&inB c.2.2.2.2.1.2 0 1000000))&&Vy c.2.2.2.2.2)))
def chW (c:Ch):Bool:=inB c.2.2.1 1 7&&(inB c.2.2.2.1 1 80&&(inB c.2.2.2.2.1 c.2.2.2.1 80&&(inB c.2.2.2.2.2.1 1 80&&(c.2.2.2.2.2.2.1==0 ||inB c.2.2.2.2.2.2.1 c.2.2.2.1 c.2.2.2.2.1))))
def Qb (nc no:Int) (c:Ch):Bool:=inB c.2.1 0 (nc-1)&&(inB c.2.2.2.2.2.2.2 0 (no-1)&&chW c)
def koV (no:Int) (c:Ko):Bool:=inB c.2.1 0 (no-1)&&(inB c.2.2.1 1 9&&inB c.2.2.2 1 1000000)
def once {α:Type} [BEq α] (l:List α):Bool:=(List.range l.length).all fun j=>match l[j]? with
 |some x=>!((l.take j).contains x)
 |none=>true
theorem H7 {α:Type} [BEq α] [LawfulBEq α] {l:List α}:once l=true↔∀(j:Nat) (h:j<l.length),¬l[j]∈l.take j:=by
 unfold once
 rw [List.all_eq_true]
 refine ⟨fun h j hj hm=>?_,fun h j hj=>?_⟩
 ·have:=h j (List.mem_range.2 hj)
  rw [List.getElem?_eq_getElem hj] at this
  simp only [Bool.not_eq_true'] at this
  rw [List.contains_iff_mem.2 hm] at this
  cases this
 ·have hj:=List.mem_range.1 hj
  rw [List.getElem?_eq_getElem hj]
  simp only [Bool.not_eq_true']
  rw [Bool.eq_false_iff]
  exact fun hc=>h j hj (List.contains_iff_mem.1 hc)
def vpB (cs:List Cd) (os:List ByteArray) (ks:List Ko) (gs:List Ch) (bs:List Ba):Bool:=
 Kq cs.length (fun j=>Vx j (iw cs j))&&(ks.all (koV os.length)&&(once (ks.map (·.2.2.2))&&(gs.all (Qb cs.length os.length)&&bs.all (fun b=>inB b.2 0 ((gs.length:Int)-1)))))
def pX (cs:List Cd) (os:List ByteArray) (ks:List Ko) (gs:List Ch) (bs:List Ba):List ByteArray:=cs.map (·.1)++os++ks.map (·.1)++gs.map (·.1)++bs.map (·.1)
def iF (cs:List Cd) (os:List ByteArray) (ks:List Ko) (gs:List Ch) (bs:List Ba):Bool:=
 decide (1≤cs.length∧cs.length≤16∧os.length≤8∧ks.length≤32∧gs.length≤16∧bs.length≤24)&&((pX cs os ks gs bs).all nameB&&(once (pX cs os ks gs bs)&&vpB cs os ks gs bs))
theorem avu {nm:ByteArray}{i up li ne ra he am mo ga lo de:Int}(hi:0≤i) {K:Bool→Prop}(h:K (Vx i (nm,up,li,ne,(ra,he),am,mo,ga,lo,de))):
  ((if i==0 then (up !=(-1)) ||((decide (i>0))&&((decide (up<0)) ||(decide (up≥i)))) else (decide (i>0))&&((decide (up<0)) ||(decide (up≥i))))=true→K false)∧
  ((if i==0 then (up !=(-1)) ||((decide (i>0))&&((decide (up<0)) ||(decide (up≥i)))) else (decide (i>0))&&((decide (up<0)) ||(decide (up≥i))))=false→
   (((!(inB li (1:Int) (1000:Int))) ||(!(inB ne (1:Int) (1000:Int))))=true→K false)∧
   (((!(inB li (1:Int) (1000:Int))) ||(!(inB ne (1:Int) (1000:Int))))=false→
    (((!((ra==0)&&(he==0)))&&(!(inB ra (1:Int) (1000:Int)) ||(!(inB he (0:Int) (1000000:Int)))))=true→K false)∧
    (((!((ra==0)&&(he==0)))&&(!(inB ra (1:Int) (1000:Int)) ||(!(inB he (0:Int) (1000000:Int)))))=false→
     (((am==0)&&((mo==0)&&((ga==0)&&((lo==0)&&(de==0)))))=true→K true)∧
     (((am==0)&&((mo==0)&&((ga==0)&&((lo==0)&&(de==0)))))=false→K ((inB am (0:Int) (200000:Int))&&((inB mo (0:Int) (200000:Int))&&((inB ga (0:Int) (1000:Int))&&((inB lo (0:Int) (1000:Int))&&((inB de (1:Int) (1000000:Int))&&(decide (mo>am))))))))))):=by
 have e1:(if i==0 then (up !=(-1)) ||((decide (i>0))&&((decide (up<0)) ||(decide (up≥i)))) else (decide (i>0))&&((decide (up<0)) ||(decide (up≥i))))=!(if i=0 then up==-1 else inB up 0 (i-1)):=by
  by_cases h0:i=0
  ·subst h0;simp [bne]
  ·have:(i==0)=false:=by simpa using h0
   rw [this,if_neg h0,Bool.eq_iff_iff]
   simp [inB]
   omega
 rw [e1]
 unfold Vx at h
 simp only at h
 generalize (if i=0 then up==-1 else inB up 0 (i-1))=b1 at*
 refine ⟨fun c=>?_,fun c=>⟨fun c2=>?_,fun c2=>⟨fun c3=>?_,fun c3=>⟨fun c4=>?_,fun c4=>?_⟩⟩⟩⟩
 ·simp at c;rw [c] at h;exact h
 all_goals
  have c:b1=true:=by simpa using c
  rw [c,Bool.true_and] at h
 ·have:(inB li 1 1000&&inB ne 1 1000)=false:=by simp at c2⊢;cases q:inB li 1 1000<;>simp_all
  rw [←Bool.and_assoc,this] at h;exact h
 all_goals
  have c2:inB li 1 1000=true∧inB ne 1 1000=true:=by simpa using c2
  rw [c2.1,c2.2,Bool.true_and,Bool.true_and] at h
 ·have:((ra==0)&&(he==0) ||(inB ra 1 1000&&inB he 0 1000000))=false:=by
   revert c3;cases ((ra==0)&&(he==0))<;>cases inB ra 1 1000<;>cases inB he 0 1000000<;>simp
  rw [this] at h;exact h
 all_goals
  have:((ra==0)&&(he==0) ||(inB ra 1 1000&&inB he 0 1000000))=true:=by
   revert c3;cases ((ra==0)&&(he==0))<;>cases inB ra 1 1000<;>cases inB he 0 1000000<;>simp
  rw [this,Bool.true_and] at h
 ·unfold Vy cbZ at h
  simp only at h
  rw [c4] at h;exact h
 ·unfold Vy cbZ at h
  simp only at h
  rw [c4,Bool.false_or] at h
  have:((inB am (0:Int) (200000:Int))&&((inB mo (0:Int) (200000:Int))&&((inB ga (0:Int) (1000:Int))&&((inB lo (0:Int) (1000:Int))&&((inB de (1:Int) (1000000:Int))&&(decide (mo>am)))))))=(decide (0≤am)&&(decide (am<mo)&&(decide (mo≤200000)&&(inB ga 0 1000&&(inB lo 0 1000&&inB de 1 1000000))))):=by
   rw [Bool.eq_iff_iff]
   simp only [Bool.and_eq_true,iP,decide_eq_true_eq]
   omega
  rw [this];exact h
theorem tZ {α β:Type} [BEq β] [LawfulBEq β] {l:List α}{d:α}{p:α→Bool}{k:α→β}:(∀j:Nat,(j:Int)<(l.length:Int)→(p (l.getD (j:Int).toNat d)&&!(((l.take (j:Int).toNat).map k).contains (k (l.getD (j:Int).toNat d))))=true)↔(l.all p&&once (l.map k))=true:=by
 have hg:∀(j:Nat) (h:j<l.length),l.getD (j:Int).toNat d=l[j]:=fun j h=>AO (n:=(j:Int)) h
 rw [Bool.and_eq_true,List.all_eq_true,H7]
 constructor
 ·intro h
  refine ⟨fun x hx=>?_,fun j hj hm=>?_⟩
  ·obtain ⟨j,hj,rfl⟩:=List.getElem_of_mem hx
   have:=h j (by omega)
   rw [hg j hj,Bool.and_eq_true] at this
   exact this.1
  ·have hj':j<l.length:=by simpa using hj
   have:=h j (by omega)
   rw [hg j hj',Bool.and_eq_true,Bool.not_eq_true'] at this
   have h2:=this.2
   rw [Int.toNat_natCast,List.map_take,List.contains_iff_mem.2 (by simpa using hm)] at h2
   cases h2
 ·intro ⟨h1,h2⟩ j hj
  have hj':j<l.length:=by omega
  rw [hg j hj',Bool.and_eq_true,Bool.not_eq_true']
  refine ⟨h1 _ (List.getElem_mem _),?_⟩
  rw [Bool.eq_false_iff,Int.toNat_natCast,List.map_take]
  intro hc
  exact h2 j (by simpa using hj') (by simpa using List.contains_iff_mem.1 hc)
theorem qE {α:Type}{l:List α}{d:α}{p:α→Bool}:(∀j:Nat,(j:Int)<(l.length:Int)→p (l.getD (j:Int).toNat d)=true)↔l.all p=true:=by
 have hg:∀(j:Nat) (h:j<l.length),l.getD (j:Int).toNat d=l[j]:=fun j h=>AO (n:=(j:Int)) h
 rw [List.all_eq_true]
 constructor
 ·intro h x hx
  obtain ⟨j,hj,rfl⟩:=List.getElem_of_mem hx
  have:=h j (by omega)
  rw [hg j hj] at this
  exact this
 ·intro h j hj
  have hj':j<l.length:=by omega
  rw [hg j hj']
  exact h _ (List.getElem_mem _)
end Go.Proofs.YtlihnbimgclogaaGreatDoor
namespace Go.Proofs.YtlihnbimgclogaaGreatDoor
open Go.Sx
def upB (cs:List Cd):Bool:=Kq cs.length (fun j=>decide ((iw cs j).2.1<j))
theorem VE {cs:List Cd}(h:upB cs=true) {c:Int}(h0:0≤c) (h1:c<cs.length):(iw cs c).2.1<c:=by
 have:=iD.1 h c.toNat (by omega)
 rw [Int.toNat_of_nonneg h0] at this
 simpa using this
def onW:Nat→List Cd→Int→Int→Bool
 |0,_,_,_=>false
 |k+1,cs,o,c=>if c≥0 then (c==o ||onW k cs o (iw cs c).2.1) else false
def Vt (cs:List Cd) (o c:Int):Bool:=onW (c.toNat+2) cs o c
theorem agm {cs:List Cd}{o:Int}(hu:upB cs=true):∀(k k':Nat) (c:Int),c<cs.length→(c+1).toNat<k→(c+1).toNat<k'→onW k cs o c=onW k' cs o c
 |0,_,_,_,h,_=>by omega
 |_+1,0,_,_,_,h=>by omega
 | k+1,k'+1,c,hc,h,h'=>by
  simp only [onW]
  by_cases h0:c≥0
  ·rw [if_pos h0,if_pos h0]
   have:=VE hu h0 hc
   rw [agm hu k k' (iw cs c).2.1 (by omega) (by omega) (by omega)]
  ·rw [if_neg h0,if_neg h0]
theorem agn {cs:List Cd}{o c:Int}(hu:upB cs=true) (hc:c<cs.length):Vt cs o c=if c≥0 then (c==o ||Vt cs o (iw cs c).2.1) else false:=by
 unfold Vt
 rw [onW]
 by_cases h0:c≥0
 ·rw [if_pos h0,if_pos h0]
  have:=VE hu h0 hc
  rw [agm hu (c.toNat+1) ((iw cs c).2.1.toNat+2) (iw cs c).2.1 (by omega) (by omega) (by omega)]
 ·rw [if_neg h0,if_neg h0]
def atB (cs:List Cd) (gs:List Ch):Bool:=Kq gs.length (fun j=>decide ((bU gs j).2.1<(cs.length:Int)))
theorem avD {cs:List Cd}{gs:List Ch}(h:atB cs gs=true) {c:Int}(h0:0≤c) (h1:c<gs.length):(bU gs c).2.1<(cs.length:Int):=by
 have:=iD.1 h c.toNat (by omega)
 rw [Int.toNat_of_nonneg h0] at this
 simpa using this
def uq (cs:List Cd) (gs:List Ch) (o:Int) (k:Nat):List Int:=((List.range k).map (fun j:Nat=>(j:Int))).filter (fun j=>Vt cs o (bU gs j).2.1)
theorem ad9 {cs:List Cd}{gs:List Ch}{o:Int}{k:Nat}:uq cs gs o (k+1)=uq cs gs o k++(if Vt cs o (bU gs k).2.1=true then [(k:Int)] else []):=by
 unfold uq
 rw [List.range_succ,List.map_append,List.filter_append]
 simp [List.filter_cons]
theorem Jj {cs:List Cd}{gs:List Ch}{o:Int}{k:Nat}:(uq cs gs o k).length≤k:=by
 unfold uq
 exact Nat.le_trans (List.length_filter_le _ _) (by simp)
theorem jq {cs:List Cd}{os:List ByteArray}{ks:List Ko}{gs:List Ch}{bs:List Ba}:iF cs os ks gs bs=true↔(1≤cs.length∧cs.length≤16∧os.length≤8∧ks.length≤32∧gs.length≤16∧bs.length≤24)∧(pX cs os ks gs bs).all nameB=true∧once (pX cs os ks gs bs)=true∧Kq cs.length (fun j=>Vx j (iw cs j))=true∧ks.all (koV os.length)=true∧once (ks.map (·.2.2.2))=true∧gs.all (Qb cs.length os.length)=true∧bs.all (fun b=>inB b.2 0 ((gs.length:Int)-1))=true:=by
 unfold iF vpB
 simp only [Bool.and_eq_true,decide_eq_true_eq]
theorem Sl {cs:List Cd}{os:List ByteArray}{ks:List Ko}{gs:List Ch}{bs:List Ba}(h:iF cs os ks gs bs=true) {c:Int}(h0:0≤c) (h1:c<cs.length):Vx c (iw cs c)=true:=by
 have:=iD.1 (jq.1 h).2.2.2.1 c.toNat (by omega)
 rwa [Int.toNat_of_nonneg h0] at this
theorem tH {cs:List Cd}{os:List ByteArray}{ks:List Ko}{gs:List Ch}{bs:List Ba}(h:iF cs os ks gs bs=true) {c:Int}(h0:0≤c) (h1:c<gs.length):Qb cs.length os.length (bU gs c)=true:=by
 have:=List.all_eq_true.1 (jq.1 h).2.2.2.2.2.2.1 gs[c.toNat] (List.getElem_mem _)
 rwa [auX (by omega)]
theorem ae5 {cs:List Cd}{os:List ByteArray}{ks:List Ko}{gs:List Ch}{bs:List Ba}(h:iF cs os ks gs bs=true):upB cs=true:=
 iD.2 fun j hj=>by
  have:=Sl h (c:=j) (by omega) hj
  unfold Vx at this
  rw [Bool.and_eq_true] at this
  have h1:=this.1
  rw [decide_eq_true_eq]
  split at h1
  ·rename_i h0;simp at h1;omega
  ·have:=iP.1 h1;omega
theorem ae6 {cs:List Cd}{os:List ByteArray}{ks:List Ko}{gs:List Ch}{bs:List Ba}(h:iF cs os ks gs bs=true):atB cs gs=true:=
 iD.2 fun j hj=>by
  have:=tH h (c:=j) (by omega) hj
  unfold Qb at this
  rw [Bool.and_eq_true] at this
  have:=iP.1 this.1
  rw [decide_eq_true_eq]
  omega
def avA (cs:List Cd) (os:List ByteArray) (ks:List Ko) (gs:List Ch) (bs:List Ba) (o:Int):Int:=if iF cs os ks gs bs=true∧0≤o∧o<cs.length then 0 else 1
def dD (cs:List Cd) (os:List ByteArray) (ks:List Ko) (gs:List Ch) (bs:List Ba) (o:Int):List Int:=if iF cs os ks gs bs=true∧0≤o∧o<cs.length then uq cs gs o gs.length else []
def afw (ga ro:Int):Nat→Int
 |0=>0
 |k+1=>if ga*(k+1)*(k+1)≤ro then (k:Int)+1 else afw ga ro k
theorem axv {ga m:Int}(h0:0≤ga) (h1:ga≤1000) (m0:0≤m) (m1:m≤1000):(0≤ga*m∧ga*m≤1000000)∧0≤ga*m*m∧ga*m*m≤1000000000:=by
 have a1:ga*m≤1000*m:=Int.mul_le_mul_of_nonneg_right h1 m0
 have a2:=Int.mul_nonneg h0 m0
 have a3:ga*m*m≤1000000*m:=Int.mul_le_mul_of_nonneg_right (by omega) m0
 exact ⟨⟨a2,by omega⟩,Int.mul_nonneg a2 m0,by omega⟩
theorem akW {ga a b:Int}(h0:0≤ga) (a0:0≤a) (h:a≤b):ga*a*a≤ga*b*b:=by
 have h1:ga*a≤ga*b:=Int.mul_le_mul_of_nonneg_left h h0
 exact Int.le_trans (Int.mul_le_mul_of_nonneg_right h1 a0) (Int.mul_le_mul_of_nonneg_left h (Int.mul_nonneg h0 (by omega)))
theorem aak {ga ro r:Int}:∀ {k:Nat},0≤r→r≤k→(r=0∨ga*r*r≤ro)→(∀a:Int,r<a→a≤k→¬ga*a*a≤ro)→afw ga ro k=r
 |0,h0,h1,_,_=>by simp only [afw];omega
 | k + 1, h0, h1, h2,h3=>by
  simp only [afw]
  by_cases hr:r=(k:Int)+1
  ·subst hr
   rw [if_pos (by rcases h2 with h|h;· omega
                  ·exact h)]
  ·rw [if_neg (h3 ((k:Int)+1) (by omega) (by omega))]
   exact aak h0 (by omega) h2 (fun a ha hk=>h3 a ha (by omega))
def prm (ga ro:Int):Int:=afw ga ro 1000
end Go.Proofs.YtlihnbimgclogaaGreatDoor
