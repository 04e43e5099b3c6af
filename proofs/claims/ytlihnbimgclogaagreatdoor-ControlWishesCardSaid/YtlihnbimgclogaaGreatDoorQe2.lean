/- ControlWishes returns true for all arguments: who does not want gets nothing, and if the greatest levels of all that want are permitted, the targets are these. Conditions: none; the table ramp.happens holds what its text says. -/
import Derived.Test.YtlihnbimgclogaaGreatDoorQe1
namespace Go.Sx
open Go Go.RowKit Go.Proofs.YtlihnbimgclogaaGreatDoor
variable {P : Program} {G : bW} {Γ : Specs} {K : Hand} {β : Nat → Loc} {Z : Nat → Prop} {Z0 : Gz} {w w0 : World} {F : List LV} {H : List aU} {a : Act} {ds : List Deferred} {n : Nat}
theorem adW (hΓ:∀g S,Γ g=some S→Valid P G g S) (hK:dL P G K) (hW:RW G w0 Z0 Z β H w) (hF:RF ds β Z w H.length F a) {o:Oper}{lv:LV}{H':List aU}(h:(opk P G Γ K F H o).all (fun q=>q=(lv,H'))):
  dB P (fun v w'=>∃Z' β',RW G w0 Z0 Z' β' H' w'∧RF ds β' Z' w' H'.length F a∧R β' Z' w' lv v∧okV H'.length lv) ((execOp a.eval o).run P w):=by
 unfold opk at h
 have old:(jV P G Γ F H o).all (fun q=>q=(lv,H'))→dB P (fun v w'=>∃Z' β',RW G w0 Z0 Z' β' H' w'∧RF ds β' Z' w' H'.length F a∧R β' Z' w' lv v∧okV H'.length lv) ((execOp a.eval o).run P w):=fun h=>
  fV (fun v w' ⟨Z',β',e1,e2,e3,e4,_⟩=>⟨Z',β',e1,e2,e3,e4⟩) (xk hΓ hW hF h)
 split at h
 ·rename_i g l hc
  split at h
  ·exact old h
  ·split at h
   ·rename_i fn hfn
    split at h
    ·rename_i hb
     obtain ⟨f,args,ty,cap,ho,hf,rfl⟩:=LM hc
     simp only [Bool.and_eq_true,Bool.not_eq_true'] at hb
     obtain ⟨hb1,hb2⟩:=hb
     have hfr:=hF.eval hW.iI f
     rw [hf] at hfr
     simp only [R,okV] at hfr
     obtain ⟨⟨ys,hy,hyr⟩,hcap⟩:=hfr
     have hrun:(execOp a.eval o).run P w=.ok (.enter g (args.map a.eval++ys)) w:=by
      unfold execOp
      simp only [ho]
      have hbn:¬fn.body=none:=by intro hbb;simp [hbb] at hb1
      have hb3:¬fn.name= "runtime.NumGoroutine":=by simpa using hb2
      simp [resolve,Deferred.ofValue,hy,invoke,callFunc,hfn,hb3,hbn]
     rw [hrun]
     simp only [dB]
     have hargs:RL β Z w (args.toList.map (fun x=>norm (aN G F x))++cap) (args.map a.eval++ys).toList:=by
      refine RL.cu (by simp [RL.length hyr]) fun i x hx=>?_
      rw [Array.toList_append,Array.toList_map]
      by_cases hi:i<args.toList.length
      ·rw [List.getElem?_append_left (by simpa using hi)] at hx⊢
       rw [List.getElem?_map] at hx⊢
       cases hq:args.toList[i]? with
       |none=>simp [hq] at hx
       |some q=>simp [hq] at hx;subst hx;exact ⟨a.eval q,by simp,rW (hF.eval hW.iI q).1⟩
      ·rw [List.getElem?_append_right (by simpa using hi)] at hx⊢
       obtain ⟨y,h1,h2⟩:=RL.get _ _ hyr hx
       exact ⟨y,by simpa using h1,h2⟩
     have hoka:dn H.length (args.toList.map (fun x=>norm (aN G F x))++cap):=by
      refine dn.append (dn.cu fun i x hx=>?_) hcap
      rw [List.getElem?_map] at hx
      cases hq:args.toList[i]? with
      |none=>simp [hq] at hx
      |some q=>simp [hq] at hx;subst hx;exact ru (hF.eval hW.iI q).2
     exact (hK.k w0 _ Z β H w g _ _ lv H' (hW.hold hF) hargs hoka h).mono fun e w' ⟨v,he,Z',β',r1,r2,r3⟩=>⟨v,he,Z',β',r1.less,RW.held hF r1,r2,r3⟩
    ·cases h
   ·cases h
 ·split at h
  ·rename_i k l hy
   obtain ⟨f,args,ty,ho,hf,rfl⟩:=QS hy
   have hfr:=hF.eval hW.iI f
   rw [hf] at hfr
   simp only [R,okV] at hfr
   have hargs:RL β Z w (args.toList.map (fun x=>norm (aN G F x))) (args.map a.eval).toList:=by
    refine RL.cu (by simp) fun i x hx=>?_
    rw [Array.toList_map,List.getElem?_map]
    rw [List.getElem?_map] at hx
    cases hq:args.toList[i]? with
    |none=>simp [hq] at hx
    |some q=>simp [hq] at hx;subst hx;exact ⟨a.eval q,by simp,rW (hF.eval hW.iI q).1⟩
   have hoka:dn H.length (args.toList.map (fun x=>norm (aN G F x))):=by
    refine dn.cu fun i x hx=>?_
    rw [List.getElem?_map] at hx
    cases hq:args.toList[i]? with
    |none=>simp [hq] at hx
    |some q=>simp [hq] at hx;subst hx;exact ru (hF.eval hW.iI q).2
   obtain ⟨r,h1,h2,h3⟩:=hK.y w0 _ Z β H w k _ _ lv H' (hW.hold hF) hargs hoka h
   have hrun:(execOp a.eval o).run P w=.ok (.round (β k).b r.fn ((r.params.zip (args.map a.eval)).foldl (fun t (p,v)=>t.setIfInBounds p v) r.tmps) r.assign r.body) w:=by
    unfold execOp
    simp only [ho]
    have:=run_yield (P:=P) h1 h2
    simp [resolve,Deferred.ofValue,hfr.1,invoke,this]
   rw [hrun]
   simp only [dB]
   exact h3.mono fun e w' ⟨v,he,Z',β',r1,r2,r3⟩=>⟨v,he,Z',β',r1.less,RW.held hF r1,r2,r3⟩
  ·exact old h
theorem avI {o:Oper}(hm:WQ P Γ o=true):opk P G Γ K F H o=jV P G Γ F H o:=by
 unfold opk
 split
 ·rename_i g l hc
  obtain ⟨f,args,ty,cap,ho,hf,rfl⟩:=LM hc
  unfold WQ at hm
  simp only [Bool.and_eq_true] at hm
  have hm2:=hm.2
  rw [ho] at hm2
  cases f with
  |func g'=>
   simp only [aN,LV.fn.injEq] at hf
   obtain ⟨rfl,_⟩:=hf
   simp only at hm2
   obtain ⟨S,hS⟩:=Option.isSome_iff_exists.1 hm2
   simp only [hS]
  |tmp _=>simp at hm2
  |const _=>simp at hm2
  |global _=>simp at hm2
 ·split
  ·rename_i k l hy
   obtain ⟨f,args,ty,ho,hf,rfl⟩:=QS hy
   unfold WQ at hm
   simp only [Bool.and_eq_true] at hm
   have hm2:=hm.2
   rw [ho] at hm2
   cases f with
   |func g'=>simp [aN] at hf
   |tmp _=>simp at hm2
   |const _=>simp at hm2
   |global _=>simp at hm2
  ·rfl
theorem ad6 {o:Oper}(hm:WQ P Γ o=true):og P o=true:=by
 unfold WQ at hm
 simp only [Bool.and_eq_true] at hm
 exact hm.1
theorem Kz {ty:Ty}:∀(cs:List LV) (ls:List (List ty.D)),YP ty cs=some ls→∀(j:Nat) (x:LV),cs[j]? =some x→∃l,x=.xl ty l∧ls[j]? =some l
 | [],_,_,j,x,hx=>by simp at hx
 | c ::cs,ls,h,j,x,hx=>by
  simp only [YP] at h
  split at h
  ·rename_i e l
   split at h
   ·rename_i he r _ hr
    simp only [Option.some.injEq] at h
    subst h
    subst he
    cases j with
    |zero=>
     simp only [List.getElem?_cons_zero,Option.some.injEq] at hx
     exact ⟨l,hx.symm,rfl⟩
    |succ j=>
     simp only [List.getElem?_cons_succ] at hx⊢
     exact Kz cs r hr j x hx
   ·cases h
  ·cases h
theorem Xd {o o2:Oper} {num:Int} {len:Nat} {lv:LV} (hW:RW G w0 Z0 Z β H w) (hF:RF ds β Z w H.length F a) (h:awt P G F H o o2=some (num,len,lv)) (h0:0≤num∧num<(len:Int)):
  o.guard=none∧o2.guard=none∧∃v z,(execOp a.eval o).run P w=.ok (.value v) w∧(execOp (a.put o.dst v).eval o2).run P w=.ok (.value z) w∧R β Z w lv z∧okV H.length lv:=by
 unfold awt at h
 split at h
 ·rename_i hg
  simp only [Bool.and_eq_true,Option.isNone_iff_eq_none] at hg
  refine ⟨hg.1,hg.2,?_⟩
  split at h
  ·rename_i t x i d t2 d2 ho hd ho2
   split at h
   ·rename_i hc
    obtain ⟨rfl,hdl,hagg⟩:=hc
    split at h
    ·rename_i len' e k off kd n hu hx hi
     split at h
     ·rename_i hsz
      split at h
      ·rename_i b hb
       split at h
       ·rename_i hcl
        split at h
        ·rename_i ty l rest hcs
         split at h
         ·rename_i ls hls
          simp only [Option.some.injEq,Prod.mk.injEq] at h
          obtain ⟨rfl,rfl,rfl⟩:=h
          have exv:=hF.eval hW.iI x
          have eiv:=hF.eval hW.iI i
          rw [hx] at exv
          rw [hi] at eiv
          simp only [R] at eiv
          have hix:(yM P t (.own k off) true (.ki kd n)).all (fun r=>r=.own k (off+n.toNat*(0+1))):=by
           unfold yM
           simp only [pl,hu,hsz,if_true]
           rw [if_pos h0]
           simp only [T.all]
          obtain ⟨v,e1,e2,e3⟩:=uy (w:=w) hix exv.1 (show R β Z w (.ki kd n) (a.eval i) by simp only [R];exact eiv.1) exv.2
          have hj:n.toNat<len':=by omega
          obtain ⟨c,hc⟩:∃c,b.c[off+n.toNat]? =some c:=⟨_,List.getElem?_eq_getElem (by omega)⟩
          have hcc:(LV.xl ty l::rest)[n.toNat]? =some c:=by
           rw [←hcs,List.getElem?_take,if_pos hj,List.getElem?_drop]
           exact hc
          obtain ⟨l',rfl,hl'⟩:=Kz _ _ hls _ _ hcc
          have hld:(uQ P H t2 (.own k (off+n.toNat*(0+1)))).all (fun z=>z=.xl ty l'):=by
           unfold uQ
           simp only [hagg,hb,Nat.zero_add,Nat.mul_one,hcl.1,if_true,hc,T.all]
          obtain ⟨z,f1,f2,f3⟩:=rF hW hld e2 e3
          have f1:=f1 w (fun _ _=>rfl)
          refine ⟨v,z,by simp [execOp,ho,e1],?_,?_,?_⟩
          ·have hda:d2<a.tmps.size:=by rw [hF.size];exact hdl
           have ev:(a.put o.dst v).eval (.tmp d2)=v:=by simp [hd,Act.put,Act.eval,Array.getD,hda]
           simp [execOp,ho2,ev,f1]
          ·have:ls.getD n.toNat []=l':=by simp [List.getD,hl']
           rw [this];exact f2
          ·trivial
         ·cases h
        ·cases h
       ·cases h
      ·cases h
     ·cases h
    ·cases h
   ·cases h
  ·cases h
 ·cases h
theorem sO (hΓ:∀g S,Γ g=some S→Valid P G g S) (hK:dL P G K) {ops:Array Oper}{Q:Exit→Act→World→Prop}{F':List LV}{H':List aU}(hQ:∀Z' β' a' w',RW G w0 Z0 Z' β' H' w'→RF ds β' Z' w' H'.length F' a'→Q .normal a' w') (r:Option Nat) (m:Nat):
  ∀(os:List Oper) (k:Nat) (F:List LV) (H:List aU) (Z:Nat→Prop) (β:Nat→Loc) (a:Act) (w:World),(∀j,os[j]? =ops[k+j]?)→RW G w0 Z0 Z β H w→RF ds β Z w H.length F a→
   (xU P G Γ K ops os F H).all (fun q=>q=(F',H'))→wpOpsIn (QO r) m P ops Q (List.range' k os.length) a w
 | [],k,F,H,Z,β,a,w,_,hW,hF,h=>by
  simp only [xU,T.all,Prod.mk.injEq] at h
  obtain ⟨rfl,rfl⟩:=h
  simp only [List.length_nil,List.range'_zero,wpOpsIn]
  exact hQ Z β a w hW hF
 | o ::os,k,F,H,Z,β,a,w,hl,hW,hF,h=>by
  have h0:ops[k]? =some o:=by simpa using (hl 0).symm
  have hl':∀j,os[j]? =ops[k+1+j]? :=fun j=>by have:=hl (j+1);simpa [Nat.add_assoc,Nat.add_comm 1 j] using this
  simp only [List.length_cons,List.range'_succ,wpOpsIn,h0]
  have goOk:∀(F:List LV),RF ds β Z w H.length F a→((opk P G Γ K F H o).bind fun q=>xU P G Γ K ops os (di F o.dst q.1) q.2).all (fun q=>q=(F',H'))→o.wpIn (QO r) m P a w (wpOpsIn (QO r) m P ops Q (List.range' (k+1) os.length)) Q:=fun F hF h=>by
   obtain ⟨⟨lv,H1⟩,h1,h2⟩:=T.aZ h
   refine yA (fV (fun v w' ⟨Z',β',e1,e2,e3,e4⟩=>?_) (adW hΓ hK hW hF h1)) r m
   exact sO hΓ hK hQ r m os (k+1) _ H1 Z' β' _ w' hl' e1 (e2.put e3 e4 o.dst) h2
  have passOk:∀(F:List LV),RF ds β Z w H.length F a→(xU P G Γ K ops os (di F o.dst (.v undef)) H).all (fun q=>q=(F',H'))→(∀f,o.about P w a.eval=some f→(QO r).fn f)∧wpOpsIn (QO r) m P ops Q (List.range' (k+1) os.length) (a.put o.dst undef) w:=fun F hF h=>
   ⟨fun _ _=>trivial,sO hΓ hK hQ r m os (k+1) _ H Z β _ w hl' hW (hF.pass o.dst) h⟩
  unfold xU at h
  simp only at h
  split at h
  ·rename_i hg
   have hw:Region.wanted o (yielded ops a.tmps)=true:=by simp [Region.wanted,hg]
   rw [if_pos hw]
   split at h
   ·exact goOk F hF h
   ·rename_i o2 os2
    split at h
    ·rename_i num len lv hix
     simp only [T.all] at h
     obtain ⟨h1,h2⟩:=h
     obtain ⟨_,hg2,v,z,r1,r2,r3,r4⟩:=Xd hW hF hix h1
     have h02:ops[k+1]? =some o2:=by simpa using (hl' 0).symm
     have hl2:∀j,os2[j]? =ops[k+1+1+j]? :=fun j=>by have:=hl' (j+1);rw [List.getElem?_cons_succ] at this;rw [this];congr 1;omega
     have act1:∀ {K:Value→World→Prop},K v w→dB P K ((execOp a.eval o).run P w):=fun h=>by rw [r1];exact h
     have act2:∀ {K:Value→World→Prop},K z w→dB P K ((execOp (a.put o.dst v).eval o2).run P w):=fun h=>by rw [r2];exact h
     refine yA (act1 ?_) r m
     simp only [List.length_cons,List.range'_succ,wpOpsIn,h02]
     have hw2:Region.wanted o2 (yielded ops (a.put o.dst v).tmps)=true:=by simp [Region.wanted,hg2]
     rw [if_pos hw2]
     refine yA (act2 ?_) r m
     exact sO hΓ hK hQ r m os2 (k+1+1) _ H Z β _ w hl2 hW ((hF.put (lv:=.junk) (by simp only [R]) trivial o.dst).put r3 r4 o2.dst) h2
    ·exact goOk F hF h
  ·rename_i j want hg
   split at h
   ·rename_i d hd
    split at h
    ·rename_i b hb
     obtain ⟨s1,s2⟩:=hF.slot hb (by simp)
     have hv:=(hF.get d _ s1).1
     simp only [R] at hv
     rw [hv] at s2
     rw [nP hg hd s2]
     split at h
     ·rename_i e;subst e;simp only [beq_self_eq_true,if_true];exact goOk F hF h
     ·rename_i e;rw [if_neg (by simpa using e)];exact passOk F hF h
    ·rename_i g hb
     obtain ⟨s1,s2⟩:=hF.slot hb (by simp)
     have hv:=(hF.get d _ s1).1
     simp only [R] at hv
     have kn:∀b,g=b→RF ds β Z w H.length (F.set d (.bl b)) a:=fun b e=>hF.know (by simp only [R];rw [hv,e]) trivial
     rw [hv] at s2
     rw [nP hg hd s2]
     split at h
     ·rename_i hwt
      subst hwt
      simp only [T.all] at h
      cases hgg:g with
      |true=>simp only [beq_self_eq_true,if_true];exact goOk _ (kn true hgg) (h.1 hgg)
      |false=>rw [if_neg (by simp)];exact passOk _ (kn false hgg) (h.2 hgg)
     ·rename_i hwt
      have hwt':want=false:=by simpa using hwt
      subst hwt'
      simp only [T.all] at h
      cases hgg:g with
      |true=>rw [if_neg (by simp)];exact passOk _ (kn true hgg) (h.1 hgg)
      |false=>simp only [beq_self_eq_true,if_true];exact goOk _ (kn false hgg) (h.2 hgg)
    ·rename_i vs hb
     obtain ⟨s1,s2⟩:=hF.slot hb (by simp)
     have hv:=(hF.get d _ s1).1
     simp only [R] at hv
     rw [hv] at s2
     rw [qP hg hd s2,if_neg (by simp)]
     exact passOk F hF h
    ·cases h
   ·cases h
def T.lv {α:Type}(p:α→Prop):T α→Prop
 | .ok x=>p x
 | .br _ t e=>t.lv p∧e.lv p
 | .req _ t=>t.lv p
 | .no=>True
theorem T.uo {α γ:Type}{p:α→Prop}{q:γ→Prop}{k:α→T γ}(hk:∀x,p x→(k x).lv q):∀ {t:T α},t.lv p→(t.bind k).lv q
 | .ok _,h=>hk _ h
 | .br _ t e,h=>⟨T.uo hk (t:=t) h.1,T.uo hk (t:=e) h.2⟩
 | .req _ t,h=>T.uo hk (t:=t) h
 | .no,_=>trivial
theorem T.xA {α:Type}{p:α→Prop}(hp:∀x,p x):∀(t:T α),t.lv p
 | .ok _=>hp _
 | .br _ t e=>⟨T.xA hp t,T.xA hp e⟩
 | .req _ t=>T.xA hp t
 | .no=>trivial
theorem XA {o:Oper}(hpt:kS P 8 o.type=true) {g:FuncId}{l:List LV}:(wB P Γ H o g l).lv (fun q=>q.2=H):=by
 have bd:∀(t:T LV),(t.bind fun y=>(T.ok (y,H):T (LV×List aU))).lv (fun q=>q.2=H):=fun t=>T.uo (p:=fun _=>True) (q:=fun q:LV×List aU=>q.2=H) (k:=fun y=>T.ok (y,H)) (fun x _=>(rfl:(x,H).2=H)) (T.xA (fun _=>trivial) t)
 unfold wB
 split
 ·split
  ·split
   ·split
    ·exact bd _
    ·first|exact bd _|(rw [if_pos hpt];exact bd _)
   ·trivial
  ·trivial
 ·trivial
theorem Hl {o:Oper}(hm:og P o=true):(jV P G Γ F H o).lv (fun q=>q.2=H):=by
 have bd:∀(t:T LV),(t.bind fun y=>(T.ok (y,H):T (LV×List aU))).lv (fun q=>q.2=H):=fun t=>T.uo (p:=fun _=>True) (q:=fun q:LV×List aU=>q.2=H) (k:=fun y=>T.ok (y,H)) (fun x _=>(rfl:(x,H).2=H)) (T.xA (fun _=>trivial) t)
 have c1:∀ {f:Operand} {args:Array Operand} {ty:Array TypeId},o.op=.call {callee:=.value f,args,argTypes:=ty}→kS P 8 o.type=true:=fun ho=>by simpa [og,ho] using hm
 have c2:∀ {r:Operand} {name:String} {args:Array Operand} {ty:Array TypeId},o.op=.call {callee:=.invoke r name,args,argTypes:=ty}→kS P 8 o.type=true:=fun ho=>by simpa [og,ho] using hm
 unfold jV
 split<;>(try exact bd _)<;>(try trivial)<;>(try rfl)<;>(try (rename_i ho;simp [og,ho] at hm;done))<;>(try (rename_i ho;have hpt:=c1 ho))<;>(try (rename_i ho;have hpt:=c2 ho))
 all_goals (split<;>(try exact bd _)<;>(try trivial)<;>(try rfl)<;>(try exact XA hpt))
 all_goals (split<;>(try exact bd _)<;>(try trivial)<;>(try rfl))
def Keeps (ds:List Nat) (F:List LV) (H:List aU) (q:List LV×List aU):Prop:=q.1.length=F.length∧(∀i,i∉ds→q.1[i]? =F[i]?)∧q.2=H
theorem jX {ds:List Nat}{F F1:List LV}(h:F1.length=F.length∧∀i,i∉ds→F1[i]? =F[i]?) {d:Nat}(hd:d∈ds) (x:LV):(F1.set d x).length=F.length∧∀i,i∉ds→(F1.set d x)[i]? =F[i]? :=by
 refine ⟨by simp [h.1],fun i hi=>?_⟩
 rw [List.getElem?_set,if_neg (by rintro rfl;exact hi hd)]
 exact h.2 i hi
theorem nX {ds:List Nat}{F F1:List LV}(h:F1.length=F.length∧∀i,i∉ds→F1[i]? =F[i]?) {d:Option Nat}(hd:∀t,d=some t→t∈ds) (x:LV):(di F1 d x).length=F.length∧∀i,i∉ds→(di F1 d x)[i]? =F[i]? :=by
 cases d with
 |none=>exact h
 |some t=>exact jX h (hd t rfl) x
theorem uf {ops:Array Oper}{F0:List LV}:∀(os:List Oper) (F:List LV),(∀o∈os,o∈ops.toList)→(∀o∈os,WQ P Γ o=true)→F.length=F0.length∧(∀i,i∉qM ops.toList→F[i]? =F0[i]?)→
  (xU P G Γ K ops os F H).lv (Keeps (qM ops.toList) F0 H)
 | [],F,_,_,h=>by simp only [xU,T.lv,Keeps];exact ⟨h.1,h.2,trivial⟩
 | o ::os,F,hin,hm,h=>by
  have hdo:∀t,o.dst=some t→t∈qM ops.toList:=fun t ht=>List.mem_filterMap.2 ⟨o,hin o (by simp),ht⟩
  have go:∀F:List LV,F.length=F0.length∧(∀i,i∉qM ops.toList→F[i]? =F0[i]?)→((opk P G Γ K F H o).bind fun q=>xU P G Γ K ops os (di F o.dst q.1) q.2).lv (Keeps (qM ops.toList) F0 H):=fun F hF=>
   T.uo (p:=fun q=>q.2=H) (fun q hq=>by rw [hq];exact uf os _ (fun o ho=>hin o (by simp [ho])) (fun o ho=>hm o (by simp [ho])) (nX hF hdo _)) (by rw [avI (hm o (by simp))];exact Hl (ad6 (hm o (by simp))))
  have pass:∀F:List LV,F.length=F0.length∧(∀i,i∉qM ops.toList→F[i]? =F0[i]?)→(xU P G Γ K ops os (di F o.dst (.v undef)) H).lv (Keeps (qM ops.toList) F0 H):=fun F hF=>
   uf os _ (fun o ho=>hin o (by simp [ho])) (fun o ho=>hm o (by simp [ho])) (nX hF hdo _)
  unfold xU
  simp only
  split
  ·split
   ·exact go F h
   ·rename_i o2 os2
    split
    ·have hdo2:∀t,o2.dst=some t→t∈qM ops.toList:=fun t ht=>List.mem_filterMap.2 ⟨o2,hin o2 (by simp),ht⟩
     exact uf os2 _ (fun o ho=>hin o (by simp [ho])) (fun o ho=>hm o (by simp [ho])) (nX (nX h hdo _) hdo2 _)
    ·exact go F h
  ·rename_i j want hg
   split
   ·rename_i d hd
    have hdd:d∈qM ops.toList:=by
     cases hj:ops[j]? with
     |none=>simp [hj] at hd
     |some oj=>simp [hj] at hd;exact List.mem_filterMap.2 ⟨oj,by simpa using Array.mem_of_getElem? hj,hd⟩
    split
    ·split
     ·exact go F h
     ·exact pass F h
    ·split
     ·exact ⟨go _ (jX h hdd _),pass _ (jX h hdd _)⟩
     ·exact ⟨pass _ (jX h hdd _),go _ (jX h hdd _)⟩
    ·exact pass F h
    ·trivial
   ·trivial
theorem aqN {x:LV}{v:Value}(h:R β Z w x v):R β Z w (nki x) v:=by cases x<;>exact h
theorem PU {x y:LV}{v:Value}(h:R β Z w x v):R β Z w (um true x y) v:=by
 unfold um
 split<;>simp_all [R]
 split<;>simp_all [R]
theorem J9 {x y:LV}{v:Value}(h:R β Z w y v):R β Z w (um false x y) v:=by
 unfold um
 split<;>simp_all [R]
 split<;>simp_all [R]
theorem WO {b:Bool}{x y:LV}:okV n (um b x y):=by
 unfold um
 split<;>(try trivial)
 split<;>trivial
theorem Ti {x y:LV}{v:Value}(h:R β Z w x v):R β Z w (Ih true x y) v:=PU (aqN h)
theorem PS {x y:LV}{v:Value}(h:R β Z w y v):R β Z w (Ih false x y) v:=J9 (aqN h)
theorem ad5 {b:Bool}{x y:LV}:okV n (Ih b x y):=WO
theorem KW {dl:List Deferred}{ds:List Nat}{b:Bool}{F F1 F2:List LV}(k1:F1.length=F.length∧∀i,i∉ds→F1[i]? =F[i]?) (k2:F2.length=F.length∧∀i,i∉ds→F2[i]? =F[i]?) (h:RF dl β Z w n (if b then F1 else F2) a):RF dl β Z w n (vW ds b F F1 F2) a:=by
 refine ⟨by rw [h.size];cases b<;>simp [vW,k1.1,k2.1],fun t x hx=>?_,h.defers⟩
 have ht:t<F.length:=by have:=(List.getElem?_eq_some_iff.1 hx).1;simpa [vW] using this
 have hx':x=if ds.contains t then Ih b (F1.getD t .junk) (F2.getD t .junk) else F.getD t .junk:=by
  simp [vW,ht] at hx
  rw [←hx]
  simp [List.getD,List.getElem?_eq_getElem ht]
 have g1:∀q,(if b then F1 else F2)[t]? =some q→R β Z w q (a.tmps.getD t undef)∧okV n q:=fun q hq=>h.get t q hq
 by_cases hc:t∈ds
 ·rw [if_pos (by simpa using hc)] at hx'
  rw [hx']
  refine ⟨?_,ad5⟩
  cases b with
  |true=>
   have e:F1[t]? =some (F1[t]'(by omega)):=List.getElem?_eq_getElem (by omega)
   have:=(g1 (F1[t]'(by omega)) (by simp only [if_true];exact e)).1
   have e2:F1.getD t .junk=F1[t]'(by omega):=by simp [List.getD,e]
   rw [e2];exact Ti this
  |false=>
   have e:F2[t]? =some (F2[t]'(by omega)):=List.getElem?_eq_getElem (by omega)
   have:=(g1 (F2[t]'(by omega)) (by simp only [Bool.false_eq_true,if_false];exact e)).1
   have e2:F2.getD t .junk=F2[t]'(by omega):=by simp [List.getD,e]
   rw [e2];exact PS this
 ·rw [if_neg (by simpa using hc)] at hx'
  have e:F[t]? =some (F[t]'ht):=List.getElem?_eq_getElem ht
  have e2:F.getD t .junk=F[t]'ht:=by simp [List.getD,e]
  rw [hx',e2]
  refine g1 _ ?_
  cases b with
  |true=>simp only [if_true];rw [k1.2 t hc,e]
  |false=>simp only [Bool.false_eq_true,if_false];rw [k2.2 t hc,e]
theorem mD {ds:List Nat}:∀ {t:T (List LV×List aU)},t.lv (Keeps ds F H)→(qp ds F H t).lv (Keeps ds F H)
 | .ok _,h=>h
 | .no,_=>trivial
 | .req _ t,h=>mD (t:=t) h
 | .br b t e,h=>by
  have h1:=mD h.1
  have h2:=mD h.2
  simp only [qp]
  split
  ·rename_i x y hx hy
   rw [hx] at h1
   rw [hy] at h2
   refine ⟨by simp [vW],fun i hi=>?_,rfl⟩
   simp only [vW]
   by_cases ht:i<F.length
   ·simp [ht,hi]
   ·simp [ht]
  ·exact ⟨h1,h2⟩
theorem gU {ds:List Nat}:∀ {t:T (List LV×List aU)}{r:List LV×List aU},t.lv (Keeps ds F H)→(qp ds F H t).all (fun q=>q=r)→
  ∃q,t.all (fun z=>z=q)∧q.2=r.2∧∀(dl:List Deferred) (β:Nat→Loc) (Z:Nat→Prop) (w:World) (n:Nat) (a:Act),RF dl β Z w n q.1 a→RF dl β Z w n r.1 a
 | .ok x,r,_,h=>⟨x,rfl,by rw [show x=r from h],fun _ _ _ _ _ _ hh=>by rw [←show x=r from h];exact hh⟩
 | .no,_,_,h=>by cases h
 | .req p t,r,hk,h=>by
  obtain ⟨q,h1,h2,h3⟩:=gU (t:=t) hk h.2
  exact ⟨q,⟨h.1,h1⟩,h2,h3⟩
 | .br b t e,r,hk,h=>by
  have k1:=mD hk.1
  have k2:=mD hk.2
  simp only [qp] at h
  split at h
  ·rename_i x y hx hy
   rw [hx] at k1
   rw [hy] at k2
   have hr:(vW ds b F x.1 y.1,H)=r:=h
   cases b with
   |true=>
    obtain ⟨q,h1,h2,h3⟩:=gU (t:=t) (r:=x) hk.1 (by rw [hx];rfl)
    refine ⟨q,⟨fun _=>h1,fun hb=>by cases hb⟩,by rw [←hr,h2];exact k1.2.2,fun dl β Z w n a hh=>?_⟩
    rw [←hr]
    exact KW ⟨k1.1,k1.2.1⟩ ⟨k2.1,k2.2.1⟩ (h3 dl β Z w n a hh)
   |false=>
    obtain ⟨q,h1,h2,h3⟩:=gU (t:=e) (r:=y) hk.2 (by rw [hy];rfl)
    refine ⟨q,⟨fun hb=>(by cases hb),fun _=>h1⟩,by rw [←hr,h2];exact k2.2.2,fun dl β Z w n a hh=>?_⟩
    rw [←hr]
    exact KW ⟨k1.1,k1.2.1⟩ ⟨k2.1,k2.2.1⟩ (h3 dl β Z w n a hh)
  ·cases b with
   |true=>
    obtain ⟨q,h1,h2,h3⟩:=gU (t:=t) hk.1 (h.1 rfl)
    exact ⟨q,⟨fun _=>h1,fun hb=>by cases hb⟩,h2,h3⟩
   |false=>
    obtain ⟨q,h1,h2,h3⟩:=gU (t:=e) hk.2 (h.2 rfl)
    exact ⟨q,⟨fun hb=>(by cases hb),fun _=>h1⟩,h2,h3⟩
theorem adS (hΓ:∀g S,Γ g=some S→Valid P G g S) (hK:dL P G K) {id:Nat}{ops:Array Oper}{Q:Exit→Act→World→Prop}{F':List LV}{H':List aU}(hQ:∀Z' β' a' w',RW G w0 Z0 Z' β' H' w'→RF ds β' Z' w' H'.length F' a'→Q .normal a' w')
  (hW:RW G w0 Z0 Z β H w) (hF:RF ds β Z w H.length F a) (h:(avy P G Γ K ops F H).all (fun q=>q=(F',H'))) (r:Option Nat) (m:Nat):(Code.region id ops false).wpIn (QO r) m P Q a w:=by
 refine wpIn_region ?_
 have e:List.range ops.size=List.range' 0 ops.toList.length:=by rw [List.range_eq_range'];simp
 rw [e]
 unfold avy at h
 split at h
 ·rename_i hm
  have hk:(xU P G Γ K ops ops.toList F H).lv (Keeps (qM ops.toList) F H):=uf _ _ (fun _ h=>h) (fun o ho=>List.all_eq_true.1 hm o ho) ⟨rfl,fun _ _=>rfl⟩
  obtain ⟨q,h1,h2,h3⟩:=gU hk h
  refine sO hΓ hK (F':=q.1) (H':=q.2) (fun Z' β' a' w' e1 e2=>hQ Z' β' a' w' (by rw [h2] at e1;exact e1) (by rw [h2] at e2;exact h3 _ _ _ _ _ _ e2)) r m ops.toList 0 F H Z β a w (by simp) hW hF h1
 ·exact sO hΓ hK hQ r m ops.toList 0 F H Z β a w (by simp) hW hF h
end Go.Sx
namespace Go.Sx
open Go Go.RowKit Go.Proofs.YtlihnbimgclogaaGreatDoor
variable {P : Program} {G : bW} {Γ : Specs} {β : Nat → Loc} {Z : Nat → Prop} {Z0 : Gz} {w w0 wr : World} {F : List LV} {H : List aU} {a : Act} {ds : List Deferred} {n : Nat}
theorem T.uq {α:Type}{p:α→Prop}{x:α}:∀ {t:T α},t.lv p→t.all (fun z=>z=x)→p x
 | .ok y,h,e=>by rw [←show y=x from e];exact h
 | .br b t e,h,hh=>by
  cases b with
  |true=>exact T.uq (t:=t) h.1 (hh.1 rfl)
  |false=>exact T.uq (t:=e) h.2 (hh.2 rfl)
 | .req _ t,h,hh=>T.uq (t:=t) h hh.2
 | .no,_,hh=>by cases hh
theorem WX {t:TypeId}{x lv:LV}{y:Value}(hW:RW G w0 Z0 Z β H w) (h:(uQ P H t x).all (fun z=>z=lv)) (hr:R β Z w x y):∀k,k∈owns x→(∃b,H[k]? =some b∧live β k b)∧((∃off,x=.own k off)∨∃es i j,x=.op k es i j):=by
 intro k hk
 have cl:∀b:aU,b.o6=true→live β k b:=fun b hc=>by
  unfold aU.o6 at hc
  split at hc
  ·rename_i hb;unfold live;rw [hb];trivial
  ·cases hc
 unfold uQ at h
 split at h
 ·split at h
  ·simp only [owns,List.mem_singleton] at hk
   subst hk
   split at h
   ·rename_i hb
    split at h
    ·rename_i hc;exact ⟨⟨_,hb,cl _ hc.1⟩,.inl ⟨_,rfl⟩⟩
    ·cases h
   ·cases h
  ·simp [owns] at hk
  ·simp only [owns,List.mem_singleton] at hk
   subst hk
   simp only [R] at hr
   split at h
   ·rename_i hb;exact ⟨⟨_,hb,hr.1⟩,.inr ⟨_,_,_,rfl⟩⟩
   ·cases h
  ·cases h
 ·split at h
  ·simp only [owns,List.mem_singleton] at hk
   subst hk
   split at h
   ·rename_i hb
    split at h
    ·rename_i hc;exact ⟨⟨_,hb,cl _ hc⟩,.inl ⟨_,rfl⟩⟩
    ·cases h
   ·cases h
  ·simp [owns] at hk
  ·simp only [owns,List.mem_singleton] at hk
   subst hk
   simp only [R] at hr
   split at h
   ·rename_i hb;exact ⟨⟨_,hb,hr.1⟩,.inr ⟨_,_,_,rfl⟩⟩
   ·cases h
  ·cases h
 ·cases h
theorem WV {t:TypeId}{x q lv:LV}(h:(KZ P H t x q).all (fun r=>r=lv)):∀k,x=.om k→∃b,H[k]? =some b∧live β k b:=by
 intro k hk
 subst hk
 unfold KZ at h
 split at h
 ·split at h
  ·split at h
   ·simp only at h
    split at h
    ·rename_i hb;exact ⟨_,hb,trivial⟩
    ·cases h
   ·cases h
  ·cases h
 ·cases h
theorem WW {t:TypeId}{x q lv:LV}(h:(Tq P H t x q).all (fun r=>r=lv)):∀k,x=.om k→∃b,H[k]? =some b∧live β k b:=by
 intro k hk
 subst hk
 unfold Tq at h
 simp only at h
 split at h
 ·rename_i hb;exact ⟨_,hb,trivial⟩
 ·exact WV h k rfl
theorem WU (hΓ:∀g S,Γ g=some S→Valid P G g S) {tr:List Nat} {D:World→Prop} {o:Oper} {lv:LV} (hW:RW G w0 Z0 Z β H wr) (hF:RF ds β Z wr H.length F a)
  (hD:∀w',D w'→RW G w0 Z0 Z β H w'∧∀b,(Z b∨∃k bk,H[k]? =some bk∧live β k bk∧tr.contains k=false∧b=(β k).b)→w'.heap[b]? =wr.heap[b]?)
  (h:(Uc P G Γ tr F H o).all (fun z=>z=lv)):∃v,(∀w',D w'→sD P o a w' v)∧R β Z wr lv v∧okV H.length lv:=by
 unfold Uc at h
 split at h
 ·cases h
 ·rename_i hsp
  simp only [Bool.or_eq_true,Bool.not_eq_true',not_or,Bool.not_eq_true,Bool.not_eq_false] at hsp
  obtain ⟨hsp,hap⟩:=hsp
  have ev:=fun x=>hF.eval hW.iI x
  have hFD:∀w',D w'→RF ds β Z w' H.length F a:=fun w' hw'=>hF.mono (Nat.le_refl _) (fun _ _=>rfl) (fun _ h=>h) (fun b hz=>(hD w' hw').2 b (.inl hz))
  split at h
  ·rename_i hcall
   obtain ⟨h1,hpl⟩:=Hq h
   obtain ⟨⟨lv',H'⟩,h2,h3⟩:=T.aZ h1
   have e3:lv'=lv:=h3
   subst e3
   obtain ⟨x,hx⟩:=Option.isSome_iff_exists.1 hpl
   have hm:og P o=true:=by unfold Dl at hcall;unfold og;unfold isSp at hsp;split at hcall<;>simp_all
   have hH:H'=H:=T.uq (p:=fun q:LV×List aU=>q.2=H) (x:=(lv',H')) (Hl hm) h2
   subst hH
   refine ⟨x,fun w' hw'=>?_,aBI hx,?_⟩
   ·have hs:=xk hΓ (hD w' hw').1 (hFD w' hw') h2
    have hrun:∃g vals,(execOp a.eval o).run P w'=.ok (.enter g vals) w':=by
     unfold Dl at hcall
     split at hcall
     ·rename_i f args ty ho
      have h2':=h2
      unfold jV at h2'
      simp only [ho] at h2'
      split at h2'
      ·rename_i g cap hf
       have hfr:=(ev f).1
       rw [hf] at hfr
       simp only [R] at hfr
       obtain ⟨ys,hy,_⟩:=hfr
       obtain ⟨fn,S,k1,k2,k3,_⟩:=sZ h2'
       exact ⟨_,_,KC ho hy k1 k2 k3 w'⟩
      ·cases h2'
     ·rename_i r name args ty ho
      have h2':=h2
      unfold jV at h2'
      simp only [ho] at h2'
      split at h2'
      ·rename_i g rv hf
       obtain ⟨t,v,hy,hm⟩:=aar hf (ev r).1
       obtain ⟨fn,S,k1,k2,k3,_⟩:=sZ h2'
       exact ⟨_,_,Ir ho hy hm k1 k2 k3 w'⟩
      ·cases h2'
     ·cases hcall
    obtain ⟨g,vals,hr⟩:=hrun
    unfold sD
    rw [hr] at hs⊢
    simp only [dB] at hs
    refine ⟨rfl,hs.mono fun e w'' ⟨v,he,Z',β',_,_,hrv,_,_,_,_,hn⟩=>?_⟩
    have hv:=jU hx hrv
    subst hv
    refine ⟨he,hn.os,hn.tape,hn.output,hn.size,fun k hk=>hn.block k hk ?_⟩
    unfold Dl at hcall
    split at hcall
    ·rename_i ho;simp [tV,zh,ho,zN]
    ·rename_i ho;simp [tV,zh,ho,zN]
    ·cases hcall
   ·cases lv' with
    |fn f l=>cases l with
     |nil=>trivial
     |cons _ _=>simp [pl] at hx
    |v _=>trivial
    |bl _=>trivial
    |ki _ _=>trivial
    |_=>simp [pl] at hx
  ·rename_i hnc
   obtain ⟨⟨lv',H'⟩,h2,h3⟩:=T.aZ h
   have e3:lv'=lv:=h3
   subst e3
   clear h3
   have val:∀ {v:Value},(∀w',D w'→(execOp a.eval o).run P w'=.ok (.value v) w')→R β Z wr lv' v→okV H.length lv'→∃v,(∀w',D w'→sD P o a w' v)∧R β Z wr lv' v∧okV H.length lv':=fun {v} hrun hr hk=>
    ⟨v,fun w' hw'=>by unfold sD;rw [hrun w' hw'];exact ⟨rfl,rfl⟩,hr,hk⟩
   have hsel:∀cs b,o.op≠ .select cs b:=fun cs b e=>by unfold jV at h2;simp only [e] at h2;cases h2
   have same:∀ {t:T LV},(t.bind fun y=>(T.ok (y,H):T (LV×List aU))).all (fun q=>q=(lv',H'))→t.all (fun z=>z=lv'):=fun h=>by
    obtain ⟨x,g1,g2⟩:=T.aZ h
    simp only [T.all,Prod.mk.injEq] at g2
    obtain ⟨rfl,rfl⟩:=g2
    exact g1
   have gen:(su P G F o).all (fun z=>z=lv')→∃v,(∀w',D w'→sD P o a w' v)∧R β Z wr lv' v∧okV H.length lv':=fun hg=>by
    unfold su at hg
    split at hg
    ·rename_i hpl
     split at hg
     ·rename_i y hy
      simp only [T.all] at hg
      have hcong:execOp a.eval o=execOp (fun x=>(pl (aN G F x)).getD undef) o:=execOp_congr o hsel fun x hx=>by
       have h1:=List.all_eq_true.1 hpl x (by simpa using hx)
       obtain ⟨z,hz⟩:=Option.isSome_iff_exists.1 h1
       rw [hz];exact jU hz (ev x).1
      refine val (v:=y) (fun w' _=>by rw [hcong];exact TF hy w') ?_ ?_<;>rw [←hg]
      ·split
       ·exact aAs y
       ·simp only [R]
      ·split
       ·exact aqQ y
       ·trivial
     ·cases hg
    ·cases hg
   have h:=h2
   unfold jV at h
   split at h
   ·cases h
   ·rename_i x ho
    simp only [T.all,Prod.mk.injEq] at h
    refine val (v:=a.eval x) (fun w' _=>by simp [execOp,ho]) ?_ ?_<;>rw [←h.1]
    ·exact (ev x).1
    ·exact (ev x).2
   ·rename_i x ho
    simp only [T.all,Prod.mk.injEq] at h
    refine val (v:=a.eval x) (fun w' _=>by simp [execOp,ho]) ?_ ?_<;>rw [←h.1]
    ·exact (ev x).1
    ·exact (ev x).2
   ·rename_i c x y ho
    obtain ⟨g,e1,e2,e3⟩:=DN (same h) (ev c).1 (ev x).1 (ev y).1 (ev x).2 (ev y).2
    exact val (v:=if g then a.eval x else a.eval y) (fun w' _=>by simp [execOp,ho,e1,asBool]) e2 e3
   ·rename_i ho;simp [isSp,ho] at hsp
   ·rename_i ho;simp [isSp,ho] at hsp
   ·rename_i t x ho
    obtain ⟨z,e1,e2,e3⟩:=rF hW (same h) (ev x).1 (ev x).2
    refine val (v:=z) (fun w' hw'=>?_) e2 e3
    have hlv:=WX hW (same h) (ev x).1
    have:=e1 w' (fun b hb=>(hD w' hw').2 b (by
     rcases hb with hb|⟨k,e4,e5⟩
     ·exact .inl hb
     ·obtain ⟨⟨bk,l1,l2⟩,l3⟩:=hlv k e4
      refine .inr ⟨k,bk,l1,l2,?_,e5⟩
      unfold XK at hap
      simp only [ho] at hap
      rcases l3 with ⟨off,l3⟩ |⟨es,i,j,l3⟩
      ·rw [l3] at hap;simpa using hap
      ·rw [l3] at hap;simpa using hap))
    simp [execOp,ho,this]
   ·rename_i ho;simp [isSp,ho] at hsp
   ·rename_i s x i ho
    obtain ⟨z,e1,e2,e3⟩:=Ae (w:=wr) (same h) (ev x).1 (ev x).2
    exact val (v:=z) (fun w' _=>by simp [execOp,ho,e1]) e2 e3
   ·rename_i t x i ho
    obtain ⟨z,e1,e2,e3⟩:=uy (w:=wr) (same h) (ev x).1 (ev i).1 (ev x).2
    exact val (v:=z) (fun w' _=>by simp [execOp,ho,e1]) e2 e3
   ·rename_i t parts ho
    obtain ⟨z,e1,e2,e3⟩:=Ak (β:=β) (Z:=Z) (w:=wr) (n:=H.length) (pv:=parts.map fun q=>(q.1,a.eval q.2)) (same h) (by simp [Function.comp_def]) (by
     simp only [Array.toList_map,List.map_map]
     refine RL.cu (by simp) fun i x hx=>?_
     rw [List.getElem?_map] at hx⊢
     cases hq:parts.toList[i]? with
     |none=>simp [hq] at hx
     |some q=>simp [hq] at hx;subst hx;exact ⟨a.eval q.2,by simp,(Gg (ev q.2)).1⟩) (by
     simp only [List.map_map]
     refine dn.cu fun i x hx=>?_
     rw [List.getElem?_map] at hx
     cases hq:parts.toList[i]? with
     |none=>simp [hq] at hx
     |some q=>simp [hq] at hx;subst hx;exact (Gg (ev q.2)).2)
    exact val (v:=z) (fun w' _=>by simp [execOp,ho,e1]) e2 e3
   ·rename_i ho;simp [isSp,ho] at hsp
   ·rename_i ho;simp [isSp,ho] at hsp
   ·rename_i t x lo hi ho
    split at h
    ·exact gen (same h)
    ·have ro:∀q:Option Operand,RO β Z wr (q.map (aN G F)) (q.map a.eval):=fun q=>by
      cases q with
      |none=>trivial
      |some q=>exact (ev q).1
     obtain ⟨z,e1,e2,e3⟩:=zu (w:=wr) (same h) (ev x).1 (ro lo) (ro hi) (ev x).2
     exact val (v:=z) (fun w' _=>by simp [execOp,ho,e1]) e2 e3
   ·rename_i ho;simp [isSp,ho] at hsp
   ·rename_i ho;simp [isSp,ho] at hsp
   ·rename_i ho;simp [isSp,ho] at hsp
   ·rename_i t x i ho
    obtain ⟨z,e1,e2,e3⟩:=DX hW (same h) (ev x).1 (ev i).1 (ev x).2
    refine val (v:=z) (fun w' hw'=>?_) e2 e3
    have hlv:=WW (β:=β) (same h)
    have:=e1 w' (fun b hb=>(hD w' hw').2 b (by
     rcases hb with hb|⟨k,e4,e5⟩
     ·exact .inl hb
     ·obtain ⟨bk,l1,l2⟩:=hlv k e4
      refine .inr ⟨k,bk,l1,l2,?_,e5⟩
      unfold XK at hap
      simp only [ho,e4] at hap
      simpa using hap))
    simp [execOp,ho,this]
   ·rename_i x i ho
    split at h
    ·rename_i l hl
     split at h
     ·rename_i y hy
      simp only [T.all,Prod.mk.injEq] at h
      obtain ⟨h1,_⟩:=h
      have hx:=ev x
      rw [hl] at hx
      simp only [R,okV] at hx
      obtain ⟨⟨ys,e1,e2⟩,e3⟩:=hx
      obtain ⟨z,e4,e5⟩:=RL.get _ _ e2 hy
      have e6:ys[i]? =some z:=by simpa using e4
      refine val (v:=z) (fun w' _=>by simp [execOp,ho,e1,Instr.extract,e6]) ?_ ?_<;>rw [←h1]
      ·exact e5
      ·exact dn.get _ _ e3 hy
     ·cases h
    ·exact gen (same h)
   ·rename_i t x i ho
    split at h
    ·rename_i l hl
     have hx:=ev x
     rw [hl] at hx
     simp only [R,okV] at hx
     obtain ⟨⟨ys,e1,e2⟩,e3⟩:=hx
     obtain ⟨z,f1,f2,f3⟩:=IY (same h) e2 e3
     exact val (v:=z) (fun w' _=>by simp [execOp,ho,e1,f1]) f2 f3
    ·exact gen (same h)
   ·rename_i f first cap ho
    split at h
    ·rename_i he
     simp only [T.all,Prod.mk.injEq] at h
     obtain ⟨h1,_⟩:=h
     have hfirst:first=#[]:=by
      have:first.toList=[]:=by simpa using he
      simpa using this
     refine val (v:=.func (.func f) #[] (cap.map a.eval)) (fun w' _=>by simp [execOp,ho,Instr.makeFunc,hfirst]) ?_ ?_<;>rw [←h1]
     ·simp only [R]
      refine ⟨_,rfl,?_⟩
      simp only [Array.toList_map]
      refine RL.cu (by simp) fun i x hx=>?_
      rw [List.getElem?_map] at hx⊢
      cases hq:cap.toList[i]? with
      |none=>simp [hq] at hx
      |some q=>simp [hq] at hx;subst hx;exact ⟨a.eval q,by simp,(ev q).1⟩
     ·simp only [okV]
      refine dn.cu fun i x hx=>?_
      rw [List.getElem?_map] at hx
      cases hq:cap.toList[i]? with
      |none=>simp [hq] at hx
      |some q=>simp [hq] at hx;subst hx;exact (ev q).2
    ·cases h
   ·rename_i x ho
    have hx:=ev x
    split at h
    ·rename_i k off hl
     simp only [T.all,Prod.mk.injEq] at h
     rw [hl] at hx
     have hx1:=hx.1
     simp only [R] at hx1
     refine val (v:=a.eval x) (fun w' _=>by simp [execOp,ho,hx1]) ?_ ?_<;>rw [←h.1]
     ·exact hx.1
     ·exact hx.2
    ·rename_i n f hl
     simp only [T.all,Prod.mk.injEq] at h
     rw [hl] at hx
     have hx1:=hx.1
     simp only [R] at hx1
     obtain ⟨b,off,e1,_⟩:=hx1
     refine val (v:=a.eval x) (fun w' _=>by simp [execOp,ho,e1]) ?_ ?_<;>rw [←h.1]
     ·exact hx.1
     ·exact hx.2
    ·rename_i f l hl
     simp only [T.all,Prod.mk.injEq] at h
     rw [hl] at hx
     have hx1:=hx.1
     simp only [R] at hx1
     obtain ⟨ys,e1,_⟩:=hx1
     refine val (v:=a.eval x) (fun w' _=>by simp [execOp,ho,e1]) ?_ ?_<;>rw [←h.1]
     ·exact hx.1
     ·exact hx.2
    ·exact gen (same h)
   ·rename_i t x y t' ho
    split at h
    ·rename_i k n k' m hx hy
     split at h
     ·rename_i hk
      subst hk
      simp only [T.all,Prod.mk.injEq] at h
      obtain ⟨h0,h1,_⟩:=h
      have e1:=jU hx (ev x).1
      have e2:=jU hy (ev y).1
      refine val (v:=.int k (k.wrap (n.tdiv m))) (fun w' _=>by simp [execOp,ho,e1,e2,eqGuard,binOp,Op.intDiv,h0]) ?_ ?_<;>rw [←h1]
      ·simp only [R]
      ·trivial
     ·cases h
    ·cases h
   ·rename_i t x y t' ho
    split at h
    ·rename_i k n k' m hx hy
     split at h
     ·rename_i hk
      subst hk
      simp only [T.all,Prod.mk.injEq] at h
      obtain ⟨h0,h1,_⟩:=h
      have e1:=jU hx (ev x).1
      have e2:=jU hy (ev y).1
      refine val (v:=.int k (n.tmod m)) (fun w' _=>by simp [execOp,ho,e1,e2,eqGuard,binOp,Op.intDiv,h0]) ?_ ?_<;>rw [←h1]
      ·simp only [R]
      ·trivial
     ·cases h
    ·cases h
   ·rename_i t x y t' ho
    split at h
    ·exact gen (same h)
    ·split at h
     ·rename_i k n k' m hx hy
      simp only [T.all,Prod.mk.injEq] at h
      obtain ⟨h0,h1,_⟩:=h
      have e1:=jU hx (ev x).1
      have e2:=jU hy (ev y).1
      refine val (v:=.int k (k.wrap (n*2^(min m.toNat k.bits)))) (fun w' _=>by simp [execOp,ho,e1,e2,eqGuard,binOp,Op.shift,Int.not_lt.2 h0]) ?_ ?_<;>rw [←h1]
      ·simp only [R]
      ·trivial
     ·cases h
   ·rename_i t x y t' ho
    split at h
    ·exact gen (same h)
    ·split at h
     ·rename_i k n k' m hx hy
      simp only [T.all,Prod.mk.injEq] at h
      obtain ⟨h0,h1,_⟩:=h
      have e1:=jU hx (ev x).1
      have e2:=jU hy (ev y).1
      refine val (v:=.int k (n.fdiv (2^(min m.toNat k.bits)))) (fun w' _=>by simp [execOp,ho,e1,e2,eqGuard,binOp,Op.shift,Int.not_lt.2 h0]) ?_ ?_<;>rw [←h1]
      ·simp only [R]
      ·trivial
     ·cases h
   ·rename_i t x i ho
    split at h
    ·rename_i s kd n hu hx hi
     simp only [T.all,Prod.mk.injEq] at h
     obtain ⟨⟨h0,hlt⟩,h1,_⟩:=h
     have e1:=jU hx (ev x).1
     have e2:=jU hi (ev i).1
     have hb:n.toNat<s.size:=by omega
     have hg:s[n.toNat]? =some s[n.toNat]:=by simp [hb]
     refine val (v:=.int .u8 (sG s n)) (fun w' _=>by simp [execOp,ho,e1,e2,Instr.index,asIntOf,run_underlying hu,h0,sG,hg]) ?_ ?_<;>rw [←h1]
     ·simp only [R]
     ·trivial
    ·cases h
   ·rename_i ho;simp [Dl,ho] at hnc
   ·rename_i ho;simp [Dl,ho] at hnc
   ·rename_i ho;simp [isSp,ho] at hsp
   ·rename_i args ty ho
    split at h
    ·rename_i k es off n e hl hu
     simp only [T.all,Prod.mk.injEq] at h
     obtain ⟨h1,_⟩:=h
     cases hargs:args.toList with
     |nil=>simp [hargs] at hl
     | cons x xs=>
      cases xs with
      |cons _ _=>simp [hargs] at hl
      | nil=>
       simp only [hargs,List.map_cons,List.map_nil,List.cons.injEq,and_true] at hl
       have hx:=(ev x).1
       rw [hl] at hx
       simp only [R] at hx
       have e1:∃ad cap,a.eval x=.slice ad n cap:=by
        split at hx
        ·obtain ⟨rfl,_,hx⟩:=hx;exact ⟨_,_,hx⟩
        ·obtain ⟨_,ad,hx,_⟩:=hx;exact ⟨_,_,hx⟩
       obtain ⟨ad,cap,e1⟩:=e1
       have ha:args=#[x]:=by rw [←Array.toArray_toList (xs:=args),hargs]
       cases ht:ty[0]? with
       |none=>simp [ht] at hu
       |some t=>
        simp only [ht,Option.bind_some] at hu
        refine val (v:=.int .i64 n) (fun w' _=>by simp [execOp,ho,resolve,invoke,builtin,Builtin.len_,ha,ht,run_underlying hu,e1,goInt]) ?_ ?_<;>rw [←h1]
        ·simp only [R]
        ·trivial
    ·rename_i e' l e hl hu
     simp only [T.all,Prod.mk.injEq] at h
     obtain ⟨h1,_⟩:=h
     cases hargs:args.toList with
     |nil=>simp [hargs] at hl
     | cons x xs=>
      cases xs with
      |cons _ _=>simp [hargs] at hl
      | nil=>
       simp only [hargs,List.map_cons,List.map_nil,List.cons.injEq,and_true] at hl
       have hx:=(ev x).1
       rw [hl] at hx
       simp only [R] at hx
       obtain ⟨ad,cap,e1,_⟩:=hx
       have ha:args=#[x]:=by rw [←Array.toArray_toList (xs:=args),hargs]
       cases ht:ty[0]? with
       |none=>simp [ht] at hu
       |some t=>
        simp only [ht,Option.bind_some] at hu
        refine val (v:=.int .i64 (List.length l:Int)) (fun w' _=>by simp [execOp,ho,resolve,invoke,builtin,Builtin.len_,ha,ht,run_underlying hu,e1,goInt]) ?_ ?_<;>rw [←h1]
        ·simp only [R]
        ·trivial
    ·rename_i k' es' off' n' c' e hl hu
     simp only [T.all,Prod.mk.injEq] at h
     obtain ⟨h1,_⟩:=h
     cases hargs:args.toList with
     |nil=>simp [hargs] at hl
     | cons x xs=>
      cases xs with
      |cons _ _=>simp [hargs] at hl
      | nil=>
       simp only [hargs,List.map_cons,List.map_nil,List.cons.injEq,and_true] at hl
       have hx:=(ev x).1
       rw [hl] at hx
       simp only [R] at hx
       obtain ⟨_,ad,e1,_⟩:=hx
       have ha:args=#[x]:=by rw [←Array.toArray_toList (xs:=args),hargs]
       cases ht:ty[0]? with
       |none=>simp [ht] at hu
       |some t=>
        simp only [ht,Option.bind_some] at hu
        refine val (v:=.int .i64 n') (fun w' _=>by simp [execOp,ho,resolve,invoke,builtin,Builtin.len_,ha,ht,run_underlying hu,e1,goInt]) ?_ ?_<;>rw [←h1]
        ·simp only [R]
        ·trivial
    ·exact gen (same h)
   ·exact gen (same h)
theorem nT (tr:List Nat):∀(H:List aU) (k i:Nat),(fF tr k H)[i]? =(H[i]?).map fun b=>if tr.contains (k+i) then DV b else b
 | [],k,i=>by simp [fF]
 |b::bs,k,0=>by simp [fF]
 |b::bs,k,i+1=>by
  simp only [fF,List.getElem?_cons_succ]
  rw [nT tr bs (k+1) i]
  have:k+1+i=k+(i+1):=by omega
  rw [this]
theorem iF (tr:List Nat):∀(H:List aU) (k:Nat),(fF tr k H).length=H.length
 | [],_=>rfl
 |_::bs,k=>by simp [fF,iF tr bs (k+1)]
theorem ac8:∀(ys:List Value),RL β Z w (List.replicate ys.length .junk) ys
 | []=>by simp [RL]
 |y::ys=>by simp only [List.length_cons,List.replicate_succ,RL];exact ⟨y,ys,rfl,by simp only [R],ac8 ys⟩
theorem SX (m:Nat):∀(k:Nat),dn m (List.replicate k .junk)
 |0=>trivial
 |k+1=>⟨trivial,SX m k⟩
def Shp (tr:List Nat) (β:Nat→Loc) (H:List aU) (w:World):Prop:=∀(k:Nat) (b:aU),tr.contains k=true→H[k]? =some b→b.o6=true→∃cs,w.heap[(β k).b]? =some (.cells cs b.t (0,0))∧cs.size=b.c.length
theorem awy {b:aU}(h:b.o6=true):b.k=.cl:=by
 unfold aU.o6 at h
 split at h
 ·assumption
 ·cases h
theorem DU (b:aU):(b.o6=true∧DV b=⟨List.replicate b.c.length .junk,b.t,.cl,b.p⟩)∨(b.o6=false∧DV b=⟨[],b.t,.dead,false⟩):=by
 unfold DV aU.o6
 split
 ·exact .inl ⟨rfl,rfl⟩
 ·exact .inr ⟨rfl,rfl⟩
theorem WR {b:aU}{k:Nat}(h:live β k (DV b)):live β k b∧(DV b).p=b.p:=by
 rcases DU b with ⟨h1,h2⟩ |⟨h1,h2⟩
 ·rw [h2];exact ⟨by unfold live;rw [awy h1];trivial,rfl⟩
 ·rw [h2] at h;exact absurd h (fun h=>h)
theorem RW.qf {tr:List Nat}(hW:RW G w0 Z0 Z β H wr) {b:Nat}(hz:Z b):b∉zN β H tr:=fun hm=>by
 obtain ⟨k,bk,_,h2,h3,h4,rfl⟩:=zK.1 hm
 exact hW.kE k bk h2 h3 h4 hz
theorem RW.sQ {tr:List Nat}(hW:RW G w0 Z0 Z β H wr) {k:Nat}{b:aU}(hb:H[k]? =some b) (hl:live β k b) (ht:k∉tr):(β k).b∉zN β H tr:=fun hm=>by
 obtain ⟨j,bj,h1,h2,h3,h4,h5⟩:=zK.1 hm
 have:=hW.inj j k bj b h2 hb h3 hl h4 h5.symm
 subst this
 exact ht h1
theorem RW.mask {tr:List Nat}{w':World}(hW:RW G w0 Z0 Z β H wr) (hn:lm (zN β H tr) wr w') (hb0:Below w0.heap.size w0 w') (hs:Shp tr β H w'):RW G w0 Z0 Z β (fF tr 0 H) w':=by
 have hw:∀b,Z b→w'.heap[b]? =wr.heap[b]? :=fun b hz=>hn.block b (hW.lQ b hz) (hW.qf hz)
 have old:∀k b,(fF tr 0 H)[k]? =some b→∃b0,H[k]? =some b0∧(live β k b→live β k b0∧b.p=b0.p)∧((tr.contains k=true∧b=DV b0)∨(tr.contains k=false∧b=b0)):=fun k b hb=>by
  rw [nT] at hb
  cases hH:H[k]? with
  |none=>simp [hH] at hb
  | some b0=>
   simp only [hH,Option.map_some,Option.some.injEq,Nat.zero_add] at hb
   refine ⟨b0,rfl,?_⟩
   split at hb
   ·rename_i ht
    subst hb
    exact ⟨WR,.inl ⟨ht,rfl⟩⟩
   ·rename_i ht
    subst hb
    exact ⟨fun h=>⟨h,rfl⟩,.inr ⟨by simpa using ht,rfl⟩⟩
 refine ⟨hb0,fun b hz=>?_,hW.sH,fun k b hk hl hp=>?_,fun k b hk hl hp=>?_,fun k b hk hl=>?_,fun i j bi bj hi hj li lj pi e=>?_,fun k b hb=>?_,hW.iI.mono (fun _ h=>h) hw,fun p hp=>⟨R.mono (n:=H.length) (fun _ _=>rfl) (fun _ h=>h) hw _ _ (hW.gh p hp).2 (hW.gh p hp).1,by rw [iF];exact (hW.gh p hp).2⟩,fun D hD=>⟨(hW.rC D hD).1,by unfold pq;rw [hw D (hW.rC D hD).1];exact (hW.rC D hD).2⟩⟩
 ·have:=hW.lQ b hz;have:=hn.size;omega
 ·obtain ⟨b0,h1,h2,_⟩:=old k b hk
  obtain ⟨h3,h4⟩:=h2 hl
  exact hW.kE k b0 h1 h3 (h4▸hp)
 ·obtain ⟨b0,h1,h2,_⟩:=old k b hk
  obtain ⟨h3,h4⟩:=h2 hl
  exact hW.vg k b0 h1 h3 (h4▸hp)
 ·obtain ⟨b0,h1,h2,_⟩:=old k b hk
  exact hW.low k b0 h1 (h2 hl).1
 ·obtain ⟨b0,h1,h2,_⟩:=old i bi hi
  obtain ⟨c0,g1,g2,_⟩:=old j bj hj
  exact hW.inj i j b0 c0 h1 g1 (h2 li).1 (g2 lj).1 ((h2 li).2▸pi) e
 ·obtain ⟨b0,h1,h2,h3⟩:=old k b hb
  obtain ⟨f1,f2⟩:=hW.blk k b0 h1
  rw [iF]
  rcases h3 with ⟨ht,rfl⟩ |⟨ht,rfl⟩
  ·rcases DU b0 with ⟨m1,m2⟩ |⟨m1,m2⟩
   ·rw [m2]
    obtain ⟨cs',g1,g2⟩:=hs k b0 ht h1 m1
    refine ⟨⟨cs',g1,?_⟩,SX _ _,trivial⟩
    have:=ac8 (β:=β) (Z:=Z) (w:=w') cs'.toList
    simpa [g2] using this
   ·rw [m2]
    exact ⟨trivial,trivial,trivial⟩
  ·have hkt:k∉tr:=by simpa using ht
   exact ⟨f1.keep (fun _ _=>rfl) (fun _ h=>h) hw rfl (fun hl=>hn.block _ (hW.lt h1 hl) (hW.sQ h1 hl hkt)) f2,f2⟩
theorem Ud {o:Oper}{g:FuncId}{l:List LV}{lv:LV}{H':List aU}(h:(wB P Γ H o g l).all (fun q=>q=(lv,H'))):EvL H H':=by
 have bd:∀ {t:T LV} {H1:List aU},(t.bind fun y=>(T.ok (y,H1):T (LV×List aU))).all (fun q=>q=(lv,H'))→H'=H1:=fun h=>by
  obtain ⟨x,h1,h2⟩:=T.aZ h
  simp only [T.all,Prod.mk.injEq] at h2
  exact h2.2.symm
 obtain ⟨_,_,_,_,_,_,h⟩:=sZ h
 split at h
 ·rw [bd h];exact EvL.refl H
 ·split at h
  ·rw [bd h];exact EvL.refl H
  ·split at h
   ·rw [bd h];exact EvL.pub _
   ·cases h
theorem avH {o:Oper} {lv:LV} {H':List aU} (h:(jV P G Γ F H o).all (fun q=>q=(lv,H'))):EvL H H':=by
 by_cases hm:og P o=true
 ·have hH:H'=H:=T.uq (p:=fun q:LV×List aU=>q.2=H) (x:=(lv,H')) (Hl hm) h
  rw [hH];exact EvL.refl H
 ·have bd:∀ {t:T LV} {H1:List aU},(t.bind fun y=>(T.ok (y,H1):T (LV×List aU))).all (fun q=>q=(lv,H'))→H'=H1:=fun h=>by
   obtain ⟨x,h1,h2⟩:=T.aZ h
   simp only [T.all,Prod.mk.injEq] at h2
   exact h2.2.symm
  unfold og at hm
  split at hm
  ·rename_i t ho
   unfold jV at h
   simp only [ho] at h
   split at h
   ·split at h
    ·simp only [T.all,Prod.mk.injEq] at h
     rw [←h.2];exact EvL.app _ _
    ·cases h
   ·cases h
  ·rename_i t x ho
   unfold jV at h
   simp only [ho] at h
   split at h
   ·simp only [T.all,Prod.mk.injEq] at h
    rw [←h.2];exact EvL.app _ _
   ·cases h
  ·rename_i t x y ho
   unfold jV at h
   simp only [ho] at h
   obtain ⟨H1,h1,h2⟩:=T.aZ h
   simp only [T.all,Prod.mk.injEq] at h2
   obtain ⟨_,rfl⟩:=h2
   exact adN h1
  ·rename_i t n c ho
   unfold jV at h
   simp only [ho] at h
   exact ah2 h
  ·rename_i t r ho
   unfold jV at h
   cases r with
   | none=>
    simp only [ho] at h
    split at h
    ·simp only [T.all,Prod.mk.injEq] at h
     rw [←h.2];exact EvL.app _ _
    ·split at h
     ·simp only [T.all,Prod.mk.injEq] at h
      rw [←h.2];exact EvL.app _ _
     ·cases h
   |some r=>
    simp only [ho] at h
    rw [bd h];exact EvL.refl H
  ·rename_i t m i x ho
   unfold jV at h
   simp only [ho] at h
   obtain ⟨H1,h1,h2⟩:=T.aZ h
   simp only [T.all,Prod.mk.injEq] at h2
   obtain ⟨_,rfl⟩:=h2
   exact aaC h1
  ·rename_i t m i x ho
   unfold jV at h
   simp only [ho] at h
   obtain ⟨H1,h1,h2⟩:=T.aZ h
   simp only [T.all,Prod.mk.injEq] at h2
   obtain ⟨_,rfl⟩:=h2
   exact aaC h1
  ·rename_i t len parts ho
   unfold jV at h
   simp only [ho] at h
   split at h
   ·split at h
    ·unfold Qk at h
     split at h
     ·simp only [T.all,Prod.mk.injEq] at h
      rw [←h.2];exact EvL.app _ _
     ·cases h
    ·cases h
   ·split at h
    ·split at h
     ·rw [bd h];exact EvL.refl H
     ·unfold awq at h
      split at h
      ·obtain ⟨y,h1,h2⟩:=T.aZ h
       simp only [T.all,Prod.mk.injEq] at h2
       rw [←h2.2];exact EvL.pub _
      ·cases h
    unfold aoQ at h
    split at h
    ·split at h
     ·split at h
      ·split at h
       ·simp only [T.all,Prod.mk.injEq] at h
        rw [←h.2];exact EvL.app _ _
       ·cases h
      ·cases h
     ·cases h
    ·cases h
  ·rename_i args ty ho
   unfold jV at h
   simp only [ho] at h
   split at h
   ·exact XJ h
   ·cases h
  ·rename_i f args ty ho
   unfold jV at h
   simp only [ho] at h
   split at h
   ·exact Ud h
   ·cases h
  ·rename_i r name args ty ho
   unfold jV at h
   simp only [ho] at h
   split at h
   ·exact Ud h
   ·cases h
  ·simp at hm
theorem qo (hΓ:∀g S,Γ g=some S→Valid P G g S) {ops:Array Oper}{tr:List Nat}{Hm:List aU}{D:World→Prop}{K:Act→Prop}{F':List LV}{HH:List aU}(hlen:Hm.length=H.length)
  (hW:RW G w0 Z0 Z β Hm wr) (hD:∀w',D w'→RW G w0 Z0 Z β Hm w'∧∀b,(Z b∨∃k bk,Hm[k]? =some bk∧live β k bk∧tr.contains k=false∧b=(β k).b)→w'.heap[b]? =wr.heap[b]?)
  (hK:∀a1,RF ds β Z wr H.length F' a1→K a1):∀(fs:List Bool) (os:List Oper) (F:List LV) (a:Act),fs.length=os.length→RF ds β Z wr H.length F a→
   (QL P G Γ ops tr HH Hm fs os F).all (fun q=>q=(F',HH))→vH P ops D K fs os a
 | [],[],F,a,_,hF,h=>by
  simp only [QL,T.all,Prod.mk.injEq,and_true] at h
  subst h
  exact aeR (hK a hF)
 | [],_::_,_,_,hl,_,_=>by simp at hl
 |_::_,[],_,_,hl,_,_=>by simp at hl
 | f ::fs,o::os,F,a,hl,hF,h=>by
  have hl':fs.length=os.length:=by simpa using hl
  simp only [QL] at h
  simp only [vH]
  split at h
  ·rename_i hf
   rw [if_pos hf]
   exact qo hΓ hlen hW hD hK fs os F a hl' hF h
  ·rename_i hf
   rw [if_neg hf]
   have goOk:∀(F:List LV),RF ds β Z wr H.length F a→((Uc P G Γ tr F Hm o).bind fun y=>QL P G Γ ops tr HH Hm fs os (di F o.dst y)).all (fun q=>q=(F',HH))→calm P o a D (vH P ops D K fs os):=fun F hF h=>by
    obtain ⟨lv,h1,h2⟩:=T.aZ h
    obtain ⟨v,g1,g2,g3⟩:=WU hΓ hW (by rw [hlen];exact hF) hD h1
    exact ⟨v,g1,qo hΓ hlen hW hD hK fs os _ _ hl' (hF.put g2 (by rw [←hlen];exact g3) o.dst) h2⟩
   have passOk:∀(F:List LV),RF ds β Z wr H.length F a→(QL P G Γ ops tr HH Hm fs os (di F o.dst (.v undef))).all (fun q=>q=(F',HH))→vH P ops D K fs os (a.put o.dst undef):=fun F hF h=>
    qo hΓ hlen hW hD hK fs os _ _ hl' (hF.pass o.dst) h
   split at h
   ·rename_i hg
    have hw:Region.wanted o (yielded ops a.tmps)=true:=by simp [Region.wanted,hg]
    rw [if_pos hw]
    exact goOk F hF h
   ·rename_i j want hg
    split at h
    ·rename_i d hd
     split at h
     ·rename_i b hb
      obtain ⟨s1,s2⟩:=hF.slot hb (by simp)
      have hv:=(hF.get d _ s1).1
      simp only [R] at hv
      rw [hv] at s2
      rw [nP hg hd s2]
      split at h
      ·rename_i e;subst e;simp only [beq_self_eq_true,if_true];exact goOk F hF h
      ·rename_i e;rw [if_neg (by simpa using e)];exact passOk F hF h
     ·rename_i g hb
      obtain ⟨s1,s2⟩:=hF.slot hb (by simp)
      have hv:=(hF.get d _ s1).1
      simp only [R] at hv
      have kn:∀b,g=b→RF ds β Z wr H.length (F.set d (.bl b)) a:=fun b e=>hF.know (by simp only [R];rw [hv,e]) trivial
      rw [hv] at s2
      rw [nP hg hd s2]
      split at h
      ·rename_i hwt
       subst hwt
       simp only [T.all] at h
       cases hgg:g with
       |true=>simp only [beq_self_eq_true,if_true];exact goOk _ (kn true hgg) (h.1 hgg)
       |false=>rw [if_neg (by simp)];exact passOk _ (kn false hgg) (h.2 hgg)
      ·rename_i hwt
       have hwt':want=false:=by simpa using hwt
       subst hwt'
       simp only [T.all] at h
       cases hgg:g with
       |true=>rw [if_neg (by simp)];exact passOk _ (kn true hgg) (h.1 hgg)
       |false=>simp only [beq_self_eq_true,if_true];exact goOk _ (kn false hgg) (h.2 hgg)
     ·rename_i vs hb
      obtain ⟨s1,s2⟩:=hF.slot hb (by simp)
      have hv:=(hF.get d _ s1).1
      simp only [R] at hv
      rw [hv] at s2
      rw [qP hg hd s2,if_neg (by simp)]
      exact passOk F hF h
     ·cases h
    ·cases h
theorem nR {ops:Array Oper}{tr:List Nat}{Hm:List aU}{F0:List LV}:∀(fs:List Bool) (os:List Oper) (F:List LV),(∀o∈os,o∈ops.toList)→F.length=F0.length∧(∀i,i∉qM ops.toList→F[i]? =F0[i]?)→
  (QL P G Γ ops tr H Hm fs os F).lv (Keeps (qM ops.toList) F0 H)
 | [],_,F,_,h=>by simp only [QL,T.lv,Keeps];exact ⟨h.1,h.2,trivial⟩
 |_::_,[],F,_,h=>by simp only [QL,T.lv,Keeps];exact ⟨h.1,h.2,trivial⟩
 | f ::fs,o::os,F,hin,h=>by
  have hin':∀o∈os,o∈ops.toList:=fun o ho=>hin o (by simp [ho])
  have hdo:∀t,o.dst=some t→t∈qM ops.toList:=fun t ht=>List.mem_filterMap.2 ⟨o,hin o (by simp),ht⟩
  have go:∀F:List LV,F.length=F0.length∧(∀i,i∉qM ops.toList→F[i]? =F0[i]?)→((Uc P G Γ tr F Hm o).bind fun y=>QL P G Γ ops tr H Hm fs os (di F o.dst y)).lv (Keeps (qM ops.toList) F0 H):=fun F hF=>
   T.uo (p:=fun _=>True) (fun q _=>nR fs os _ hin' (nX hF hdo _)) (T.xA (fun _=>trivial) _)
  have pass:∀F:List LV,F.length=F0.length∧(∀i,i∉qM ops.toList→F[i]? =F0[i]?)→(QL P G Γ ops tr H Hm fs os (di F o.dst (.v undef))).lv (Keeps (qM ops.toList) F0 H):=fun F hF=>
   nR fs os _ hin' (nX hF hdo _)
  simp only [QL]
  split
  ·exact nR fs os F hin' h
  ·split
   ·exact go F h
   ·rename_i j want hg
    split
    ·rename_i d hd
     have hdd:d∈qM ops.toList:=by
      cases hj:ops[j]? with
      |none=>simp [hj] at hd
      |some oj=>simp [hj] at hd;exact List.mem_filterMap.2 ⟨oj,by simpa using Array.mem_of_getElem? hj,hd⟩
     split
     ·split
      ·exact go F h
      ·exact pass F h
     ·split
      ·exact ⟨go _ (jX h hdd _),pass _ (jX h hdd _)⟩
      ·exact ⟨pass _ (jX h hdd _),go _ (jX h hdd _)⟩
     ·exact pass F h
     ·trivial
    ·trivial
structure Gh where
 Z:Nat→Prop
 β:Nat→Loc
 H:List aU
 F:List LV
 a:Act
structure ni (ds:List Deferred) (G:bW) (w0:World) (Z0:Gz) (tr:List Nat) (β:Nat→Loc) (H:List aU) (wr:World) (g:Gh) (w':World):Prop where
 rw:RW G w0 Z0 g.Z g.β g.H w'
 rf:RF ds g.β g.Z w' g.H.length g.F g.a
 near:lm (zN β H tr) wr w'
 len:H.length≤g.H.length
 old:∀k,k<H.length→g.β k=β k
 new:∀k,H.length≤k→k<g.H.length→wr.heap.size≤(g.β k).b∨(g.β k).b∈zN β H tr
 QK:EvL H g.H
theorem ni.keep {tr:List Nat}{g:Gh}{w' w'':World}(h:ni ds G w0 Z0 tr β H wr g w') (hb:Below w'.heap.size w' w''):ni ds G w0 Z0 tr β H wr g w'':=
 ⟨h.rw.same hb,h.rf.mono (Nat.le_refl _) (fun _ _=>rfl) (fun _ h=>h) (fun b hz=>bH hb (h.rw.lQ b hz)),WH h.near hb,h.len,h.old,h.new,h.QK⟩
theorem ni.shape {tr:List Nat}{g:Gh}{w':World}(h:ni ds G w0 Z0 tr β H wr g w'):Shp tr β H w':=fun k b _ hb hcl=>by
 obtain ⟨b',e1,e2⟩:=h.QK k b hb
 obtain ⟨c1,c2,c3⟩:=e2.cl hcl
 obtain ⟨_,⟨cs,f2,f3⟩,_⟩:=Dz h.rw e1 c1
 have hk:k<H.length:=(List.getElem?_eq_some_iff.1 hb).1
 rw [h.old k hk,c2] at f2
 refine ⟨cs,f2,?_⟩
 have:=RL.length f3
 simp at this
 omega
theorem ni.touch {tr:List Nat}{g:Gh}{o:Oper}{w':World}(hc:ni ds G w0 Z0 tr β H wr g w') (hst:dA G g.F tr H.length o=true) {x:Nat}(hx:x∈zN g.β g.H (zh G g.F o)):wr.heap.size≤x∨x∈zN β H tr:=by
 obtain ⟨k,b,h1,h2,h3,h4,rfl⟩:=zK.1 hx
 have hkg:k<g.H.length:=(List.getElem?_eq_some_iff.1 h2).1
 by_cases hk:k<H.length
 ·right
  unfold dA at hst
  have:=List.all_eq_true.1 hst k h1
  simp only [Bool.or_eq_true,decide_eq_true_eq] at this
  have hkt:k∈tr:=by
   rcases this with h|h
   ·simpa using h
   ·omega
  obtain ⟨b0,hb0⟩:∃b0,H[k]? =some b0:=⟨_,List.getElem?_eq_getElem hk⟩
  obtain ⟨b',e1,e2⟩:=hc.QK k b0 hb0
  rw [h2] at e1
  simp only [Option.some.injEq] at e1
  subst e1
  refine zK.2 ⟨k,b0,hkt,hb0,?_,e2.p h4,by rw [hc.old k hk]⟩
  have:=e2.live g.β k h3
  rwa [jW (hc.old k hk)] at this
 ·exact hc.new k (by omega) hkg
theorem Ag (hΓ:∀g S,Γ g=some S→Valid P G g S) {tr:List Nat}{g:Gh}{o:Oper}{lv:LV}{H1:List aU}{w':World}(hst:dA G g.F tr H.length o=true) (h1:(jV P G Γ g.F g.H o).all (fun q=>q=(lv,H1))) (hc:ni ds G w0 Z0 tr β H wr g w'):
  dB P (fun v w''=>∃g':Gh,ni ds G w0 Z0 tr β H wr g' w''∧g'.F=di g.F o.dst lv∧g'.H=H1∧g'.a=g.a.put o.dst v) ((execOp g.a.eval o).run P w'):=by
 refine fV (fun v w'' ⟨Z',β',e1,e2,e3,e4,e5,e6,e7,e8⟩=>?_) (xk hΓ hc.rw hc.rf h1)
 refine ⟨⟨Z',β',H1,di g.F o.dst lv,g.a.put o.dst v⟩,?_,rfl,rfl,rfl⟩
 have hsz:=hc.near.size
 refine ⟨e1,e2.put e3 e4 o.dst,⟨e8.os.trans hc.near.os,e8.tape.trans hc.near.tape,e8.output.trans hc.near.output,Nat.le_trans hsz e8.size,fun k hk hn=>?_⟩,Nat.le_trans hc.len e5,fun k hk=>?_,fun k h3 h4=>?_,hc.QK.trans (avH h1)⟩
 ·rw [e8.block k (by omega) fun hm=>?_]
  ·exact hc.near.block k hk hn
  ·rcases hc.touch hst hm with h|h
   ·omega
   ·exact hn h
 ·show β' k=β k
  rw [e6 k (Nat.lt_of_lt_of_le hk hc.len)];exact hc.old k hk
 ·show wr.heap.size≤(β' k).b∨(β' k).b∈zN β H tr
  by_cases hkk:k<g.H.length
  ·rw [e6 k hkk];exact hc.new k h3 hkk
  ·rcases e7 k (by omega) h4 with h|h
   ·exact .inl (by omega)
   ·exact hc.touch hst h
theorem zi {T':Type}{C:T'→World→Prop}{Q':Act→World→Prop}{ops:Array Oper}{g g1:T'}(hs:∀w',C g w'→C g1 w'):∀(fs:List Bool) (os:List Oper) (a:Act),
  tJ P ops C (fun a' g'=>∀w',C g' w'→Q' a' w') fs os a g1→tJ P ops C (fun a' g'=>∀w',C g' w'→Q' a' w') fs os a g
 | [],_,a,h=>by
  simp only [tJ] at h⊢
  exact fun w' hw'=>h w' (hs w' hw')
 |_::_,[],a,h=>by
  simp only [tJ] at h⊢
  exact fun w' hw'=>h w' (hs w' hw')
 | f::fs,o::os,a,h=>by
  simp only [tJ] at h⊢
  split
  ·rename_i hf
   rw [if_pos hf] at h
   split
   ·rename_i hw
    rw [if_pos hw] at h
    exact fun w' hw'=>h w' (hs w' hw')
   ·rename_i hw
    rw [if_neg hw] at h
    exact zi hs fs os _ h
  ·rename_i hf
   rw [if_neg hf] at h
   exact zi hs fs os a h
theorem zH (hΓ:∀g S,Γ g=some S→Valid P G g S) {ops:Array Oper}{tr:List Nat}{Q:Act→World→Prop}{F':List LV}{H':List aU}
  (hQ:∀g:Gh,g.F=F'→g.H=H'→∀w',ni ds G w0 Z0 tr β H wr g w'→Q g.a w'):∀(fs:List Bool) (os:List Oper) (g:Gh),fs.length=os.length→(∃w',ni ds G w0 Z0 tr β H wr g w')→
   (p2x P G Γ ops tr H.length fs os g.F g.H).all (fun q=>q=(F',H'))→tJ P ops (ni ds G w0 Z0 tr β H wr) (fun a' g'=>∀w',ni ds G w0 Z0 tr β H wr g' w'→Q a' w') fs os g.a g
 | [],[],g,_,_,h=>by
  simp only [p2x,T.all,Prod.mk.injEq] at h
  exact aeQ (hQ g h.1 h.2)
 | [],_::_,_,hl,_,_=>by simp at hl
 |_::_,[],_,hl,_,_=>by simp at hl
 | f ::fs,o::os,g,hl,hex,h=>by
  have hl':fs.length=os.length:=by simpa using hl
  simp only [p2x] at h
  simp only [tJ]
  split at h
  ·rename_i hf
   rw [if_pos hf]
   have turn:∀(F1:List LV),(∀w',ni ds G w0 Z0 tr β H wr g w'→RF ds g.β g.Z w' g.H.length F1 g.a)→∀w',ni ds G w0 Z0 tr β H wr g w'→ni ds G w0 Z0 tr β H wr ⟨g.Z,g.β,g.H,F1,g.a⟩ w':=fun F1 hF1 w' hc=>⟨hc.rw,hF1 w' hc,hc.near,hc.len,hc.old,hc.new,hc.QK⟩
   have goOk:∀(F1:List LV),(∀w',ni ds G w0 Z0 tr β H wr g w'→RF ds g.β g.Z w' g.H.length F1 g.a)→(if dA G F1 tr H.length o then (jV P G Γ F1 g.H o).bind fun q=>p2x P G Γ ops tr H.length fs os (di F1 o.dst q.1) q.2 else .no).all (fun q=>q=(F',H'))→
     Jl P o g.a (ni ds G w0 Z0 tr β H wr) g (tJ P ops (ni ds G w0 Z0 tr β H wr) (fun a' g'=>∀w',ni ds G w0 Z0 tr β H wr g' w'→Q a' w') fs os):=fun F1 hF1 h=>by
    split at h
    ·rename_i hst
     obtain ⟨⟨lv,H1⟩,h1,h2⟩:=T.aZ h
     intro w' hc
     refine fV (fun v w'' ⟨g',e1,e2,e3,e4⟩=>⟨g',e1,?_⟩) (Ag (g:=⟨g.Z,g.β,g.H,F1,g.a⟩) hΓ hst h1 (turn F1 hF1 w' hc))
     have:=zH hΓ hQ fs os g' hl' ⟨w'',e1⟩ (by rw [e2,e3];exact h2)
     rw [e4] at this
     exact this
    ·cases h
   have passOk:∀(F1:List LV),(∀w',ni ds G w0 Z0 tr β H wr g w'→RF ds g.β g.Z w' g.H.length F1 g.a)→(p2x P G Γ ops tr H.length fs os (di F1 o.dst (.v undef)) g.H).all (fun q=>q=(F',H'))→
     tJ P ops (ni ds G w0 Z0 tr β H wr) (fun a' g'=>∀w',ni ds G w0 Z0 tr β H wr g' w'→Q a' w') fs os (g.a.put o.dst undef) g:=fun F1 hF1 h=>by
    have ps:∀w',ni ds G w0 Z0 tr β H wr g w'→ni ds G w0 Z0 tr β H wr ⟨g.Z,g.β,g.H,di F1 o.dst (.v undef),g.a.put o.dst undef⟩ w':=fun w' hc=>⟨hc.rw,(hF1 w' hc).pass o.dst,hc.near,hc.len,hc.old,hc.new,hc.QK⟩
    refine zi (Q':=Q) (g1:=⟨g.Z,g.β,g.H,di F1 o.dst (.v undef),g.a.put o.dst undef⟩) ps fs os _ ?_
    exact zH hΓ hQ fs os ⟨g.Z,g.β,g.H,di F1 o.dst (.v undef),g.a.put o.dst undef⟩ hl' (hex.imp fun w' hc=>ps w' hc) h
   obtain ⟨wx,hcx⟩:=hex
   have hF:=hcx.rf
   split at h
   ·rename_i hg
    have hw:Region.wanted o (yielded ops g.a.tmps)=true:=by simp [Region.wanted,hg]
    rw [if_pos hw]
    exact goOk g.F (fun w' hc=>hc.rf) h
   ·rename_i j want hg
    split at h
    ·rename_i d hd
     split at h
     ·rename_i b hb
      obtain ⟨s1,s2⟩:=hF.slot hb (by simp)
      have hv:=(hF.get d _ s1).1
      simp only [R] at hv
      rw [hv] at s2
      rw [nP hg hd s2]
      split at h
      ·rename_i e;subst e;simp only [beq_self_eq_true,if_true];exact goOk g.F (fun w' hc=>hc.rf) h
      ·rename_i e;rw [if_neg (by simpa using e)];exact passOk g.F (fun w' hc=>hc.rf) h
     ·rename_i b hb
      obtain ⟨s1,s2⟩:=hF.slot hb (by simp)
      have hv:=(hF.get d _ s1).1
      simp only [R] at hv
      have kn:∀c,b=c→∀w',ni ds G w0 Z0 tr β H wr g w'→RF ds g.β g.Z w' g.H.length (g.F.set d (.bl c)) g.a:=fun c e w' hc=>hc.rf.know (by simp only [R];rw [hv,e]) trivial
      rw [hv] at s2
      rw [nP hg hd s2]
      split at h
      ·rename_i hwt
       subst hwt
       simp only [T.all] at h
       cases hgg:b with
       |true=>simp only [beq_self_eq_true,if_true];exact goOk _ (kn true hgg) (h.1 hgg)
       |false=>rw [if_neg (by simp)];exact passOk _ (kn false hgg) (h.2 hgg)
      ·rename_i hwt
       have hwt':want=false:=by simpa using hwt
       subst hwt'
       simp only [T.all] at h
       cases hgg:b with
       |true=>rw [if_neg (by simp)];exact passOk _ (kn true hgg) (h.1 hgg)
       |false=>simp only [beq_self_eq_true,if_true];exact goOk _ (kn false hgg) (h.2 hgg)
     ·rename_i vs hb
      obtain ⟨s1,s2⟩:=hF.slot hb (by simp)
      have hv:=(hF.get d _ s1).1
      simp only [R] at hv
      rw [hv] at s2
      rw [qP hg hd s2,if_neg (by simp)]
      exact passOk g.F (fun w' hc=>hc.rf) h
     ·cases h
    ·cases h
  ·rename_i hf
   rw [if_neg hf]
   exact zH hΓ hQ fs os g hl' hex h
theorem T.swap {α γ:Type}{K:α→γ→Prop}{t:T α}{u:T γ}:t.all (fun x=>u.all (fun y=>K x y))→u.all (fun y=>t.all (fun x=>K x y)):=by
 intro h
 obtain ⟨x,h1,h2⟩:=T.pick h
 refine T.bC (fun y hy=>?_) h1
 exact T.bC (fun z hz=>by rw [hz];exact hy) h2
theorem cZ {F:List LV}{d:Option Tmp}{y:LV}{x:Operand}(h:∀t,d=some t→x≠ .tmp t):aN G (di F d y) x=aN G F x:=by
 cases d with
 |none=>rfl
 | some t=>
  cases x with
  |tmp s=>
   have hne:s≠t:=fun e=>h t rfl (by rw [e])
   simp only [aN,di,List.getD,List.getElem?_set_ne (Ne.symm hne)]
  |_=>rfl
theorem looks {ops:Array Oper}{o:Oper}{d:Option Tmp}(h:∀t,d=some t→t∉o.looksAt ops):∀x∈o.op.operands,∀t,d=some t→x≠ .tmp t:=fun x hx t ht e=>h t ht (by
 subst e
 exact List.mem_append_left _ (List.mem_filterMap.2 ⟨.tmp t,by simpa using hx,rfl⟩))
theorem jA {F:List LV}{d e:Option Tmp}{x y:LV}(h:∀t,d=some t→e≠some t):di (di F d x) e y=di (di F e y) d x:=by
 cases d with
 |none=>rfl
 | some t=>
  cases e with
  |none=>rfl
  |some s=>
   have:t≠s:=fun e=>h t rfl (by rw [e])
   simp only [di]
   exact List.set_comm _ _ (by omega)
theorem oH {ops:Array Oper}{o:Oper}{d:Option Tmp}{y:LV}(h:∀t,d=some t→t∉o.looksAt ops):mkx P G Γ (di F d y) o=mkx P G Γ F o:=by
 have hl:=looks h
 unfold mkx
 split
 ·rename_i t len parts ho
  have em:(parts.toList.map fun q=>(q.1,aN G (di F d y) q.2))=parts.toList.map fun q=>(q.1,aN G F q.2):=List.map_congr_left fun q hq=>by
   rw [cZ (hl q.2 (by rw [ho];simp only [Op.operands,List.mem_toArray,List.mem_map];exact ⟨q,hq,rfl⟩))]
  rw [em]
 ·rename_i f args ty ho
  have e1:aN G (di F d y) f=aN G F f:=cZ (hl f (by rw [ho];simp [Op.operands,Call.operands]))
  have e2:(args.toList.map fun x=>norm (aN G (di F d y) x))=args.toList.map fun x=>norm (aN G F x):=List.map_congr_left fun x hx=>by
   rw [cZ (hl x (by rw [ho];simp only [Op.operands,Call.operands,Array.mem_append];exact .inr (by simpa using hx)))]
  rw [e1,e2]
 ·rfl
theorem abZ {ops:Array Oper}{o:Oper}{d:Option Tmp}{y:LV}(ha:zQ o=true) (h:∀t,d=some t→t∉o.looksAt ops):jV P G Γ (di F d y) H o=jV P G Γ F H o:=by
 have hl:=looks h
 unfold zQ at ha
 split at ha
 ·rename_i t ho
  unfold jV
  simp only [ho]
 ·rename_i t x ho
  unfold jV
  simp only [ho]
  rw [cZ (hl x (by rw [ho];simp [Op.operands]))]
 ·rename_i t x ho
  unfold jV
  simp only [ho]
  rw [cZ (hl x (by rw [ho];simp [Op.operands]))]
 ·cases ha
theorem yJ {tr:List Nat}{n0:Nat}{o:Oper}{F:List LV}(h:vw o=true∨rY o=true):dA G F tr n0 o=true:=by
 have hw:zh G F o=[]:=by
  unfold zh
  split
  ·rename_i ho
   rcases h with h|h
   ·simp [vw,ho] at h
   ·simp [rY,ho] at h
  ·rename_i ho
   rcases h with h|h
   ·simp [vw,ho] at h
   ·simp [rY,ho] at h
  ·rename_i ho
   rcases h with h|h
   ·simp [vw,ho] at h
   ·simp [rY,ho] at h
  ·rename_i ho
   rcases h with h|h
   ·simp [vw,ho] at h
   ·simp [rY,ho] at h
  ·rfl
 unfold dA
 rw [hw];rfl
theorem lC {tr:List Nat}{n0:Nat}{o:Oper}{F:List LV}(h:zQ o=true∨rY o=true):dA G F tr n0 o=true:=by
 have hw:zh G F o=[]:=by
  unfold zh
  split
  ·rename_i ho
   rcases h with h|h
   ·simp [zQ,ho] at h
   ·simp [rY,ho] at h
  ·rename_i ho
   rcases h with h|h
   ·simp [zQ,ho] at h
   ·simp [rY,ho] at h
  ·rename_i ho
   rcases h with h|h
   ·simp [zQ,ho] at h
   ·simp [rY,ho] at h
  ·rename_i ho
   rcases h with h|h
   ·simp [zQ,ho] at h
   ·simp [rY,ho] at h
  ·rfl
 unfold dA
 rw [hw];rfl
theorem ul {ops:Array Oper}{i:Nat}{o:Oper}(h:KU ops i o=true):rY o=true:=by
 unfold KU at h
 rw [Bool.and_eq_true] at h
 exact h.1
theorem adV {ops:Array Oper}{tr:List Nat}{n0:Nat}{i j:Nat}{is:List Nat}{K:List LV×List aU→Prop}(x y:Oper) (hx:ops[i]? =some x) (hy:ops[j]? =some y) (g1:x.guard.isNone=true) (g2:y.guard.isNone=true) (g3:((zQ x=true∧KU ops j y=true)∨(KU ops i x=true∧zQ y=true))∨(KU ops i x=true∧KU ops j y=true)) (hap:x.apart ops y=true) (h:(KO P G Γ ops tr n0 (j::i::is) F H).all K):(KO P G Γ ops tr n0 (i::j::is) F H).all K:=by
 obtain ⟨a1,a2,a3⟩:=Oper.apart_spec hap
 have sx:∀F:List LV,dA G F tr n0 x=true:=fun F=>by
  rcases g3 with (g3|g3) |g3
  ·exact lC (.inl g3.1)
  ·exact lC (.inr (ul g3.1))
  ·exact lC (.inr (ul g3.1))
 have sy:∀F:List LV,dA G F tr n0 y=true:=fun F=>by
  rcases g3 with (g3|g3) |g3
  ·exact lC (.inr (ul g3.2))
  ·exact lC (.inl g3.2)
  ·exact lC (.inr (ul g3.2))
 have notboth:∀o:Oper,rY o=true→zQ o=true→False:=fun o h1 h2=>by
  unfold rY at h1
  split at h1
  ·rename_i ho;simp [zQ,ho] at h2
  ·rename_i ho;simp [zQ,ho] at h2
  ·cases h1
 simp only [KO,hx,hy,g1,g2,sx,sy,Bool.and_self,if_true] at h⊢
 rw [T.all_bind] at h⊢
 rcases g3 with (⟨g3,g4⟩ |⟨g3,g4⟩) |⟨g3,g4⟩
 ·have nx:¬KU ops i x=true:=fun e=>notboth x (ul e) g3
  simp only [QJ,if_pos g4,if_neg nx] at h⊢
  rw [T.all_bind] at h
  have h2:=T.bC (fun z hz=>by
   simp only [T.all] at hz
   rw [T.all_bind,abZ g3 a3] at hz
   exact hz) h
  refine T.bC (fun q hq=>?_) (T.swap h2)
  rw [T.all_bind,T.all_bind,oH a1]
  refine T.bC (fun z hz=>?_) hq
  simp only [T.all]
  rw [jA a2]
  exact hz
 ·have ny:¬KU ops j y=true:=fun e=>notboth y (ul e) g4
  simp only [QJ,if_pos g3,if_neg ny] at h⊢
  rw [T.all_bind]
  have h2:=T.bC (fun z hz=>by
   rw [T.all_bind,T.all_bind,oH a3] at hz
   exact hz) h
  refine T.bC (fun q hq=>?_) (T.swap h2)
  simp only [T.all]
  rw [T.all_bind,abZ g4 a1]
  refine T.bC (fun z hz=>?_) hq
  simp only [T.all] at hz
  rw [jA a2]
  exact hz
 ·simp only [QJ,if_pos g3,if_pos g4] at h⊢
  rw [T.all_bind] at h⊢
  have h2:=T.bC (fun z hz=>by
   simp only [T.all] at hz
   rw [T.all_bind,T.all_bind,oH a3] at hz
   exact hz) h
  refine T.bC (fun q hq=>?_) (T.swap h2)
  simp only [T.all]
  rw [T.all_bind,T.all_bind,oH a1]
  refine T.bC (fun z hz=>?_) hq
  simp only [T.all] at hz⊢
  rw [jA a2]
  exact hz
theorem sW {ops:Array Oper}{o:Oper}{d:Option Tmp}{y:LV}(hs:∀cs b,o.op≠ .select cs b) (h:∀t,d=some t→t∉o.looksAt ops):su P G (di F d y) o=su P G F o:=by
 have hl:=looks h
 have e:∀x∈o.op.operands,aN G (di F d y) x=aN G F x:=fun x hx=>cZ (hl x hx)
 unfold su
 have e1:o.op.operands.toList.all (fun x=>aie (aN G (di F d y) x))=o.op.operands.toList.all (fun x=>aie (aN G F x)):=by
  rw [Bool.eq_iff_iff,List.all_eq_true,List.all_eq_true]
  exact ⟨fun q x hx=>by rw [←e x (by simpa using hx)];exact q x hx,fun q x hx=>by rw [e x (by simpa using hx)];exact q x hx⟩
 have e3:o.op.operands.toList.all (fun x=>awx (aN G (di F d y) x))=o.op.operands.toList.all (fun x=>awx (aN G F x)):=by
  rw [Bool.eq_iff_iff,List.all_eq_true,List.all_eq_true]
  exact ⟨fun q x hx=>by rw [←e x (by simpa using hx)];exact q x hx,fun q x hx=>by rw [e x (by simpa using hx)];exact q x hx⟩
 have e2:aek P o (fun x=>(pl (aN G (di F d y) x)).getD undef)=aek P o (fun x=>(pl (aN G F x)).getD undef):=by
  have c:=execOp_congr (ρ:=fun x=>(pl (aN G (di F d y) x)).getD undef) (ρ':=fun x=>(pl (aN G F x)).getD undef) o hs (fun x hx=>by simp only [e x hx])
  unfold aek
  rw [c]
  have a:LD P o.op (fun x=>(pl (aN G (di F d y) x)).getD undef)=LD P o.op (fun x=>(pl (aN G F x)).getD undef):=by
   unfold LD
   split
   ·rename_i op t x z _ ho
    simp only [e x (by rw [ho];simp [Op.operands]),e z (by rw [ho];simp [Op.operands])]
   ·rfl
  rw [a]
 rw [e1,e2,e3]
theorem G7 {ops:Array Oper}{o:Oper}{d:Option Tmp}{y:LV}(h:∀t,d=some t→t∉o.looksAt ops):pux P G Γ (di F d y) o=pux P G Γ F o:=by
 have hl:=looks h
 have e:∀x∈o.op.operands,aN G (di F d y) x=aN G F x:=fun x hx=>cZ (hl x hx)
 unfold pux
 split
 ·rename_i x ho;rw [e x (by rw [ho];simp [Op.operands])]
 ·rename_i x ho;rw [e x (by rw [ho];simp [Op.operands])]
 ·rename_i c x z ho;rw [e c (by rw [ho];simp [Op.operands]),e x (by rw [ho];simp [Op.operands]),e z (by rw [ho];simp [Op.operands])]
 ·rename_i t x ho;rw [e x (by rw [ho];simp [Op.operands])]
 ·rename_i s x i ho;rw [e x (by rw [ho];simp [Op.operands])]
 ·rename_i t x i ho;rw [e x (by rw [ho];simp [Op.operands]),e i (by rw [ho];simp [Op.operands])]
 ·rename_i t parts ho
  congr 1
  refine List.map_congr_left fun q hq=>?_
  have e':=e q.2 (by rw [ho];simp only [Op.operands,List.mem_toArray,List.mem_map];exact ⟨q,hq,rfl⟩)
  have:Eg G (di F d y) q.2=Eg G F q.2:=by
   generalize q.2=x at e'
   cases x<;>first|rfl|exact e'
  rw [this]
 ·exact oH h
 ·exact oH h
 ·rename_i ho;exact sW (fun cs b e=>by rw [ho] at e;cases e) h
 ·rename_i op _ _ _ _ ho
  split
  ·rfl
  ·rfl
  ·rfl
  ·rfl
  ·exact sW (fun cs b e=>by rw [ho] at e;cases e) h
 ·rfl
def hpx (P:Program) (G:bW) (F:List LV) (H:List aU) (o:Oper):T LV:=
 match o.op with
 | .move x=> .ok (aN G F x)
 | .assign x=> .ok (aN G F x)
 | .load t x=>uQ P H t (aN G F x)
 | .indexAddr t x i=>yM P t (aN G F x) (aeg (aN G F i)) (aN G F i)
 | .extract x i=>(match aN G F x with
  | .iD l=>(match l[i]? with
   |some y=> .ok y
   |none=> .no)
  |_=>su P G F o)
 | .binOp ..=>su P G F o
 | .call ..=>su P G F o
 |_=> .no
theorem Iy {o:Oper}(h:(xX o ||FM o)=true):(∃x,o.op=.move x)∨(∃x,o.op=.assign x)∨(∃t x,o.op=.load t x)∨(∃t x i,o.op=.indexAddr t x i)∨(∃t x y u,o.op=.binOp .add t x y u)∨(∃t x y u,o.op=.binOp .sub t x y u)∨(∃x i,o.op=.extract x i)∨(∃x i,o.op=.call {callee:=.builtin .max,args:=x,argTypes:=i})∨(∃x i,o.op=.call {callee:=.builtin .min,args:=x,argTypes:=i}):=by
 rcases Bool.or_eq_true_iff.1 h with h|h
 ·unfold xX at h
  split at h
  ·rename_i ho;exact .inl ⟨_,ho⟩
  ·rename_i ho;exact .inr (.inl ⟨_,ho⟩)
  ·rename_i ho;exact .inr (.inr (.inr (.inl ⟨_,_,_,ho⟩)))
  ·rename_i ho;exact .inr (.inr (.inr (.inr (.inr (.inr (.inl ⟨_,_,ho⟩))))))
  ·rename_i ho;exact .inr (.inr (.inr (.inr (.inr (.inr (.inr (.inl ⟨_,_,ho⟩)))))))
  ·rename_i ho;exact .inr (.inr (.inr (.inr (.inr (.inr (.inr (.inr ⟨_,_,ho⟩)))))))
  ·rename_i ho
   split at h
   ·exact .inr (.inr (.inr (.inr (.inl ⟨_,_,_,_,ho⟩))))
   ·exact .inr (.inr (.inr (.inr (.inr (.inl ⟨_,_,_,_,ho⟩)))))
   ·cases h
  ·cases h
 ·unfold FM at h
  split at h
  ·rename_i ho;exact .inr (.inr (.inl ⟨_,_,ho⟩))
  ·cases h
theorem awF {ops:Array Oper}{k:Nat}{o:Oper}(h:(xX o ||FM o)=true):QJ P G Γ ops k F H o=(hpx P G F H o).bind fun y=> .ok (y,H):=by
 rcases Iy h with ⟨x,ho⟩ |⟨x,ho⟩ |⟨t,x,ho⟩ |⟨t,x,i,ho⟩ |⟨t,x,y,u,ho⟩ |⟨t,x,y,u,ho⟩ |⟨x,i,ho⟩ |⟨x,i,ho⟩ |⟨x,i,ho⟩
 case inr.inr.inr.inr.inr.inr.inl=>
  unfold QJ KU rY jV hpx
  simp only [ho,Bool.false_and,Bool.false_eq_true,if_false]
  generalize aN G F x=v
  cases v
  case iD l=>
   dsimp only
   cases l[i]? <;>rfl
  all_goals rfl
 all_goals (unfold QJ KU rY jV hpx;simp [ho,T.bind])
theorem zS {ops:Array Oper}{o:Oper}{d:Option Tmp}{y:LV}(hh:(xX o ||FM o)=true) (h:∀t,d=some t→t∉o.looksAt ops):hpx P G (di F d y) H o=hpx P G F H o:=by
 have hl:=looks h
 rcases Iy hh with ⟨x,ho⟩ |⟨x,ho⟩ |⟨t,x,ho⟩ |⟨t,x,i,ho⟩ |⟨t,x,z,u,ho⟩ |⟨t,x,z,u,ho⟩ |⟨x,i,ho⟩ |⟨x,i,ho⟩ |⟨x,i,ho⟩
 ·unfold hpx;simp only [ho]
  rw [cZ (hl x (by rw [ho];simp [Op.operands]))]
 ·unfold hpx;simp only [ho]
  rw [cZ (hl x (by rw [ho];simp [Op.operands]))]
 ·unfold hpx;simp only [ho]
  rw [cZ (hl x (by rw [ho];simp [Op.operands]))]
 ·unfold hpx;simp only [ho]
  rw [cZ (hl x (by rw [ho];simp [Op.operands])),cZ (hl i (by rw [ho];simp [Op.operands]))]
 ·have:=G7 (P:=P) (G:=G) (Γ:=fun _=>none) (F:=F) (y:=y) h
  unfold pux at this
  unfold hpx
  simp only [ho] at this⊢
  exact this
 ·have:=G7 (P:=P) (G:=G) (Γ:=fun _=>none) (F:=F) (y:=y) h
  unfold pux at this
  unfold hpx
  simp only [ho] at this⊢
  exact this
 ·unfold hpx;simp only [ho]
  rw [cZ (hl x (by rw [ho];simp [Op.operands])),sW (fun cs b e=>by rw [ho] at e;cases e) h]
 ·unfold hpx;simp only [ho]
  rw [sW (fun cs b e=>by rw [ho] at e;cases e) h]
 ·unfold hpx;simp only [ho]
  rw [sW (fun cs b e=>by rw [ho] at e;cases e) h]
theorem ahI {o:Oper}{H':List aU}(h:xX o=true):hpx P G F H o=hpx P G F H' o:=by
 unfold hpx
 cases ho:o.op<;>simp_all [xX]
theorem uz {o:Oper}{tr:List Nat}{n0:Nat}(h:(xX o ||FM o)=true) (F:List LV):dA G F tr n0 o=true:=by
 rcases Iy h with ⟨x,ho⟩ |⟨x,ho⟩ |⟨t,x,ho⟩ |⟨t,x,i,ho⟩ |⟨t,x,y,u,ho⟩ |⟨t,x,y,u,ho⟩ |⟨x,i,ho⟩ |⟨x,i,ho⟩ |⟨x,i,ho⟩<;>simp [dA,zh,ho]
theorem RU {ops:Array Oper}{k:Nat}{o:Oper}{d:Option Tmp}{y:LV}(hh:aay o=true) (h:∀t,d=some t→t∉o.looksAt ops):QJ P G Γ ops k (di F d y) H o=QJ P G Γ ops k F H o∧∀tr n0,dA G (di F d y) tr n0 o=dA G F tr n0 o:=by
 have hl:=looks h
 unfold aay at hh
 split at hh
 ·rename_i t x z ho
  have e1:=cZ (G:=G) (F:=F) (y:=y) (hl x (by rw [ho];simp [Op.operands]))
  have e2:=cZ (G:=G) (F:=F) (y:=y) (hl z (by rw [ho];simp [Op.operands]))
  refine ⟨?_,fun tr n0=>?_⟩
  ·unfold QJ KU rY jV
   simp only [ho,Bool.false_and,Bool.false_eq_true,if_false]
   rw [e1,e2]
  ·unfold dA zh
   simp only [ho]
   rw [e1]
 ·cases hh
theorem PN {ops:Array Oper}{k:Nat}{o:Oper}(h:KU ops k o=true):QJ P G Γ ops k F H o=(mkx P G Γ F o).bind fun y=> .ok (y,H):=by
 unfold QJ
 rw [if_pos h]
theorem Ut {ops:Array Oper}{k:Nat}{o:Oper}{d:Option Tmp}{y:LV}(hh:aoY o=true) (h:∀t,d=some t→t∉o.looksAt ops):QJ P G Γ ops k (di F d y) H o=QJ P G Γ ops k F H o∧∀tr n0,dA G (di F d y) tr n0 o=dA G F tr n0 o:=by
 have hl:=looks h
 unfold aoY at hh
 split at hh
 ·rename_i args tys ho
  have e:args.toList.map (aN G (di F d y))=args.toList.map (aN G F):=List.map_congr_left fun x hx=>cZ (hl x (by rw [ho];simp only [Op.operands,Call.operands,Array.mem_append];exact .inr (by simpa using hx)))
  refine ⟨?_,fun tr n0=>?_⟩
  ·unfold QJ KU rY jV
   simp only [ho,Bool.false_and,Bool.false_eq_true,if_false]
   rw [e]
  ·unfold dA zh
   simp only [ho]
   rw [e]
 ·cases hh
theorem T.tu {α:Type}{A:Prop}:∀ {t:T α},t.all (fun _=>A)→A
 | .ok _,h=>h
 | .br b x y,h=>by
  cases b with
  |true=>exact T.tu (t:=x) (h.1 rfl)
  |false=>exact T.tu (t:=y) (h.2 rfl)
 | .req _ x,h=>T.tu (t:=x) h.2
 | .no,h=>h.elim
theorem agx {ops:Array Oper}{tr:List Nat}{n0:Nat}{i j:Nat}{is:List Nat}{K:List LV×List aU→Prop}(hc:abR ops i j=true) (h:(KO P G Γ ops tr n0 (j::i::is) F H).all K):(KO P G Γ ops tr n0 (i::j::is) F H).all K:=by
 unfold abR at hc
 split at hc
 ·rename_i x y hx hy
  simp only [Bool.and_eq_true,Bool.or_eq_true] at hc
  obtain ⟨⟨⟨g1,g2⟩,g3⟩,hap⟩:=hc
  obtain ⟨a1,a2,a3⟩:=Oper.apart_spec hap
  have step:∀(k:Nat) (o:Oper) (l:List Nat) (F:List LV) (H:List aU),ops[k]? =some o→o.guard.isNone=true→((KO P G Γ ops tr n0 (k::l) F H).all K↔(dA G F tr n0 o=true∧(QJ P G Γ ops k F H o).all (fun q=>(KO P G Γ ops tr n0 l (di F o.dst q.1) q.2).all K))):=fun k o l F H hk hg=>by
   simp only [KO,hk,hg,Bool.true_and]
   split
   ·rename_i hs
    rw [T.all_bind]
    simp only [hs,true_and]
   ·rename_i hs
    constructor
    ·exact fun h=>h.elim
    ·exact fun h=>(hs h.1).elim
  have hpS:∀(k:Nat) (o:Oper) (F:List LV) (H:List aU) (K:LV×List aU→Prop),(xX o ||FM o)=true→((QJ P G Γ ops k F H o).all K↔(hpx P G F H o).all (fun v=>K (v,H))):=fun k o F H K ho=>by
   rw [awF ho,T.all_bind]
   rfl
  rcases g3 with ((((g3|g3) |g3) |g3) |g3) |g3
  ·exact adV x y hx hy g1 g2 g3 hap h
  ·have gx:(xX x ||FM x)=true:=Bool.or_eq_true_iff.2 g3.1
   have gy:(xX y ||FM y)=true:=Bool.or_eq_true_iff.2 g3.2
   rw [step _ _ _ _ _ hy g2,hpS j y _ _ _ gy] at h
   rw [step _ _ _ _ _ hx g1,hpS i x _ _ _ gx]
   refine ⟨uz gx F,?_⟩
   have h2:=T.bC (fun v hv=>by
    rw [step _ _ _ _ _ hx g1,hpS i x _ _ _ gx,zS gx a3] at hv
    exact hv.2) h.2
   refine T.bC (fun u hu=>?_) (T.swap h2)
   rw [step _ _ _ _ _ hy g2,hpS j y _ _ _ gy,zS gy a1]
   refine ⟨uz gy _,T.bC (fun v hv=>?_) hu⟩
   simp only at hv⊢
   rw [jA a2]
   exact hv
  ·obtain ⟨gx,gy⟩:=g3
   have gx':(xX x ||FM x)=true:=by rw [gx];rfl
   rw [step _ _ _ _ _ hy g2] at h
   rw [step _ _ _ _ _ hx g1,hpS i x _ _ _ gx']
   refine ⟨uz gx' F,?_⟩
   have h2:=T.bC (fun q hq=>by
    rw [step _ _ _ _ _ hx g1,hpS i x _ _ _ gx',zS gx' a3,ahI (H':=H) gx] at hq
    exact hq.2) h.2
   refine T.bC (fun u hu=>?_) (T.swap h2)
   obtain ⟨e1,e2⟩:=RU (P:=P) (G:=G) (Γ:=Γ) (F:=F) (H:=H) (y:=u) gy a1
   rw [step _ _ _ _ _ hy g2,e1,e2]
   refine ⟨h.1,T.bC (fun q hq=>?_) hu⟩
   simp only at hq⊢
   rw [jA a2]
   exact hq
  ·obtain ⟨gx,gy⟩:=g3
   have gy':(xX y ||FM y)=true:=by rw [gy];rfl
   rw [step _ _ _ _ _ hy g2,hpS j y _ _ _ gy'] at h
   have h2:=T.bC (fun v hv=>by
    obtain ⟨e1,e2⟩:=RU (P:=P) (G:=G) (Γ:=Γ) (F:=F) (H:=H) (y:=v) gx a3
    rw [step _ _ _ _ _ hx g1,e1,e2] at hv
    exact hv) h.2
   rw [step _ _ _ _ _ hx g1]
   refine ⟨T.tu (T.bC (fun v hv=>hv.1) h2),?_⟩
   have h3:=T.bC (fun v hv=>hv.2) h2
   refine T.bC (fun q hq=>?_) (T.swap h3)
   rw [step _ _ _ _ _ hy g2,hpS j y _ _ _ gy',zS gy' a1,ahI (H':=H) gy]
   refine ⟨uz gy' _,T.bC (fun v hv=>?_) hq⟩
   simp only at hv⊢
   rw [jA a2]
   exact hv
  ·obtain ⟨gx,gy⟩:=g3
   rw [step _ _ _ _ _ hy g2] at h
   rw [step _ _ _ _ _ hx g1,PN gx,T.all_bind]
   refine ⟨yJ (.inr (ul gx)),?_⟩
   have h2:=T.bC (fun q hq=>by
    rw [step _ _ _ _ _ hx g1,PN gx,T.all_bind,oH a3] at hq
    exact hq.2) h.2
   refine T.bC (fun u hu=>?_) (T.swap h2)
   obtain ⟨e1,e2⟩:=Ut (P:=P) (G:=G) (Γ:=Γ) (F:=F) (H:=H) (y:=u) gy a1
   (try simp only [T.all] at hu)
   (try simp only [T.all])
   rw [step _ _ _ _ _ hy g2,e1,e2]
   refine ⟨h.1,T.bC (fun q hq=>?_) hu⟩
   (try simp only at hq)
   (try simp only)
   rw [jA a2]
   exact hq
  ·obtain ⟨gx,gy⟩:=g3
   rw [step _ _ _ _ _ hy g2,PN gy,T.all_bind] at h
   have h2:=T.bC (fun v hv=>by
    obtain ⟨e1,e2⟩:=Ut (P:=P) (G:=G) (Γ:=Γ) (F:=F) (H:=H) (y:=v) gx a3
    (try simp only [T.all] at hv)
    rw [step _ _ _ _ _ hx g1,e1,e2] at hv
    exact hv) h.2
   rw [step _ _ _ _ _ hx g1]
   refine ⟨T.tu (T.bC (fun v hv=>hv.1) h2),?_⟩
   have h3:=T.bC (fun v hv=>hv.2) h2
   refine T.bC (fun q hq=>?_) (T.swap h3)
   rw [step _ _ _ _ _ hy g2,PN gy,T.all_bind,oH a1]
   refine ⟨yJ (.inr (ul gy)),T.bC (fun v hv=>?_) hq⟩
   (try simp only [T.all] at hv)
   (try simp only [T.all])
   rw [jA a2]
   exact hv
 ·cases hc
theorem agy {ops:Array Oper}{tr:List Nat}{n0:Nat}{j:Nat}{R R':List Nat}{K:List LV×List aU→Prop}(hh:∀(F:List LV) (H:List aU),(KO P G Γ ops tr n0 R F H).all K→(KO P G Γ ops tr n0 R' F H).all K) (h:(KO P G Γ ops tr n0 (j::R) F H).all K):(KO P G Γ ops tr n0 (j::R') F H).all K:=by
 simp only [KO] at h⊢
 split at h
 ·split at h
  ·rename_i hg
   rw [if_pos hg]
   rw [T.all_bind] at h⊢
   exact T.bC (fun q hq=>hh _ _ hq) h
  ·cases h
 ·cases h
theorem KN {ops:Array Oper}{tr:List Nat}{n0:Nat}{i:Nat}{K:List LV×List aU→Prop}:∀(R:List Nat) (F:List LV) (H:List aU),i∈R→(Ku i R).all (fun j=>abR ops i j)=true→(KO P G Γ ops tr n0 R F H).all K→(KO P G Γ ops tr n0 (i::R.erase i) F H).all K
 | [],_,_,hi,_,_=>by cases hi
 | j::R,F,H,hi,hb,h=>by
  by_cases hj:j=i
  ·subst hj
   simpa using h
  ·have hi':i∈R:=by
    rcases List.mem_cons.1 hi with e|e
    ·exact absurd e.symm hj
    ·exact e
   simp only [Ku,if_neg hj,List.all_cons,Bool.and_eq_true] at hb
   rw [List.erase_cons_tail (by simpa using hj)]
   exact agx hb.1 (agy (fun F H h=>KN R F H hi' hb.2 h) h)
theorem ah8 {t:TypeId}{len:Nat}{l:List (Nat×LV)}{K:LV→Prop}(h:(PX P t len l).all K):¬len=0:=by
 unfold PX at h
 rintro rfl
 split at h
 ·split at h
  ·split at h
   ·rename_i hc;have:=hc.2.2.1;omega
   ·cases h
  ·cases h
 ·cases h
theorem WY {t:TypeId}{len:Nat}{l:List (Nat×LV)}{K:LV→Prop}(h:(PX P t len l).all K):NS P t=true:=by
 unfold PX at h
 unfold NS
 split at h
 ·rename_i e hu
  split at h
  ·rename_i ty m z h1 h2 h3
   simp [h1]
  ·cases h
 ·cases h
theorem PL {o:Oper}{lv:LV}(hm:rY o=true) (h:(mkx P G Γ F o).all (fun z=>z=lv)):(jV P G Γ F H o).all (fun q=>q=(lv,H)):=by
 unfold mkx at h
 split at h
 ·rename_i t len parts ho
  split at h
  ·rename_i hno
   unfold jV
   simp only [ho]
   rw [if_neg (ah8 h),if_pos (WY h),if_pos hno,T.all_bind]
   exact T.bC (fun z hz=>by simp only [T.all];rw [hz]) h
  ·cases h
 ·rename_i f args ty ho
  unfold jV
  simp only [ho]
  split at h
  ·rename_i g cap hf
   split at h
   ·rename_i fn hfn
    split at h
    ·rename_i hb
     split at h
     ·rename_i S hS
      split at h
      ·rename_i hno
       simp only [hf,wB,hfn,hb,if_true,hS,hno]
       rw [T.all_bind]
       exact T.bC (fun z hz=>by simp only [T.all];rw [hz]) h
      ·cases h
     ·cases h
    ·cases h
   ·cases h
  ·cases h
 ·cases h
theorem Ee (hΓ:∀g S,Γ g=some S→Valid P G g S) {ops:Array Oper}{tr:List Nat}{D:World→Prop}{sp:Nat→Bool}{Q:Act→Gh→Prop}{F':List LV}{H':List aU}
  (hQ:∀g:Gh,g.F=F'→g.H=H'→Q g.a g):∀(n:Nat) (R:List Nat) (listed:Array Bool) (g:Gh),(∀i∈R,sp i=true)→agC ops n R listed=true→
   (KO P G Γ ops tr H.length R g.F g.H).all (fun q=>q=(F',H'))→jH P .any ops D (ni ds G w0 Z0 tr β H wr) sp Q n listed g.a g
 |0,R,listed,g,_,hB,h=>by
  simp only [agC,Bool.and_eq_true,List.isEmpty_iff] at hB
  obtain ⟨rfl,h2⟩:=hB
  simp only [KO,T.all,Prod.mk.injEq] at h
  exact ⟨h2,hQ g h.1 h.2⟩
 | n +1,R,listed,g,hs,hB,h=>by
  simp only [agC,Bool.and_eq_true,List.all_eq_true,Bool.not_eq_true',List.isEmpty_eq_false_iff] at hB
  obtain ⟨hne,hall⟩:=hB
  refine ⟨fun h0=>absurd h0 hne,fun i hi=>?_⟩
  obtain ⟨⟨hR,hbef⟩,hrest⟩:=hall i hi
  have hiR:i∈R:=by simpa using hR
  have hf:=KN R g.F g.H hiR (by rw [List.all_eq_true];exact hbef) h
  simp only [KO] at hf
  split at hf
  ·rename_i o ho
   split at hf
   ·rename_i hgs
    simp only [Bool.and_eq_true,Option.isNone_iff_eq_none] at hgs
    obtain ⟨hgd,hst⟩:=hgs
    have hw:Region.wanted o (yielded ops g.a.tmps)=true:=by simp [Region.wanted,hgd]
    unfold Dq
    simp only [ho,hw,if_true,hs i hiR]
    obtain ⟨⟨lv,H1⟩,h1,h2⟩:=T.aZ hf
    have h1':(jV P G Γ g.F g.H o).all (fun q=>q=(lv,H1)):=by
     unfold QJ at h1
     split at h1
     ·rename_i hm
      obtain ⟨y,k1,k2⟩:=T.aZ h1
      simp only [T.all,Prod.mk.injEq] at k2
      obtain ⟨rfl,rfl⟩:=k2
      exact PL (ul hm) k1
     ·exact h1
    intro w' hc
    refine fV (fun v w'' ⟨g',e1,e2,e3,e4⟩=>⟨g',e1,?_⟩) (Ag hΓ hst h1' hc)
    rw [←e4]
    refine Ee hΓ hQ n (R.erase i) _ g' (fun j hj=>hs j (List.mem_of_mem_erase hj)) hrest ?_
    rw [e2,e3]
    exact h2
   ·cases hf
  ·cases hf
theorem kW {T':Type}{md:Region.Mode}{D:World→Prop}{sp:Nat→Bool}{C:T'→World→Prop}{Q':Act→World→Prop}{ops:Array Oper}{g g1:T'}(hs:∀w',C g w'→C g1 w'):∀(n:Nat) (listed:Array Bool) (a:Act),
  jH P md ops D C sp (fun a' g'=>∀w',C g' w'→Q' a' w') n listed a g1→jH P md ops D C sp (fun a' g'=>∀w',C g' w'→Q' a' w') n listed a g
 |0,_,_,h=>⟨h.1,fun w' hw'=>h.2 w' (hs w' hw')⟩
 | n +1,listed,a,h=>⟨fun h0 w' hw'=>h.1 h0 w' (hs w' hw'),fun i hi=>by
   have:=h.2 i hi
   unfold Dq at this⊢
   split
   ·rename_i ho;simp only [ho] at this;exact kW hs n _ _ this
   ·rename_i o ho
    simp only [ho] at this
    split
    ·rename_i hw
     simp only [hw,if_true] at this
     split
     ·rename_i hsp
      simp only [hsp,if_true] at this
      exact fun w hw=>this w (hs w hw)
     ·rename_i hsp
      simp only [hsp] at this
      exact xM (fun a' hk=>kW hs n _ a' hk) this
    ·rename_i hw
     simp only [hw] at this
     exact kW hs n _ _ this⟩
mutual
theorem R.yS {β':Nat→Loc}{n:Nat}:∀(x:LV) (y:Value),(∀j,j∈owns x→β' j=β j)→okV n x→R β Z w x y→R β' Z w x y
 | .v _,_,_,_,h=>h
 | .bl _,_,_,_,h=>h
 | .ki _ _,_,_,_,h=>h
 | .own k off,y,hj,_,h=>by simp only [R] at*;rw [h,hj k (by simp [owns])]
 | .agg l,y,hj,hk,h=>by
  simp only [R,owns,okV] at*
  obtain ⟨ys,h1,h2⟩:=h
  exact ⟨ys,h1,RL.yS l _ hj hk h2⟩
 | .iD l,y,hj,hk,h=>by
  simp only [R,owns,okV] at*
  obtain ⟨ys,h1,h2⟩:=h
  exact ⟨ys,h1,RL.yS l _ hj hk h2⟩
 | .fn f l,y,hj,hk,h=>by
  simp only [R,owns,okV] at*
  obtain ⟨ys,h1,h2⟩:=h
  exact ⟨ys,h1,RL.yS l _ hj hk h2⟩
 | .xq m f,y,_,hk,h=>by
  simp only [R,okV] at*
  obtain ⟨b,off,h1,h2,h3⟩:=h
  refine ⟨b,off,h1,h2,fun j hj=>?_⟩
  obtain ⟨z,h4,h5⟩:=h3 j hj
  exact ⟨z,h4,R.mono (n:=0) (fun _ hk=>absurd hk (by omega)) (fun _ h=>h) (fun _ _=>rfl) _ _ (hk j) h5⟩
 | .xl e l,y,_,_,h=>by simp only [R] at*;exact h
 | .os k es off n,y,hj,_,h=>by simp only [R] at*;rw [hj k (by simp [owns])];exact h
 | .op k es i j,y,hj,_,h=>by simp only [R] at*;rw [hj k (by simp [owns])];exact h
 | .om k,y,hj,_,h=>by simp only [R] at*;rw [hj k (by simp [owns])];exact h
 | .mp kd ks l,y,hj,hk,h=>by
  simp only [R,owns,okV] at*
  obtain ⟨r,es,clock,h1,h2,h3,h4,h5⟩:=h
  exact ⟨r,es,clock,h1,h2,h3,h4,RL.yS l _ hj hk h5⟩
 | .oc k es off n c,y,hj,_,h=>by simp only [R] at*;rw [hj k (by simp [owns])];exact h
 | .uN k,y,hj,_,h=>by simp only [R] at*;rw [h,hj k (by simp [owns])]
 | .junk,_,_,_,_=>by simp only [R]
theorem RL.yS {β':Nat→Loc}{n:Nat}:∀(l:List LV) (ys:List Value),(∀j,j∈ownsL l→β' j=β j)→dn n l→RL β Z w l ys→RL β' Z w l ys
 | [],_,_,_,h=>by simpa only [RL] using h
 |x::xs,ys,hj,hk,h=>by
  simp only [RL,ownsL,List.mem_append,dn] at*
  obtain ⟨y,zs,h1,h2,h3⟩:=h
  exact ⟨y,zs,h1,R.yS x y (fun j h=>hj j (.inl h)) hk.1 h2,RL.yS xs zs (fun j h=>hj j (.inr h)) hk.2 h3⟩
end
mutual
theorem okV_owns {n:Nat}:∀(x:LV),okV n x→∀j,j∈owns x→j<n
 | .v _,_,j,h=>by simp [owns] at h
 | .bl _,_,j,h=>by simp [owns] at h
 | .ki _ _,_,j,h=>by simp [owns] at h
 | .own k _,hk,j,h=>by simp [owns] at h;subst h;exact hk
 | .agg l,hk,j,h=>by simp only [owns,okV] at*;exact okL_owns l hk j h
 | .iD l,hk,j,h=>by simp only [owns,okV] at*;exact okL_owns l hk j h
 | .fn _ l,hk,j,h=>by simp only [owns,okV] at*;exact okL_owns l hk j h
 | .xq _ _,_,j,h=>by simp [owns] at h
 | .xl _ _,_,j,h=>by simp [owns] at h
 | .os k _ _ _,hk,j,h=>by simp [owns] at h;subst h;exact hk
 | .op k _ _ _,hk,j,h=>by simp [owns] at h;subst h;exact hk
 | .om k,hk,j,h=>by simp [owns] at h;subst h;exact hk
 | .mp _ _ l,hk,j,h=>by simp only [owns,okV] at*;exact okL_owns l hk j h
 | .oc k _ _ _ _,hk,j,h=>by simp [owns] at h;subst h;exact hk
 | .uN k,hk,j,h=>by simp [owns] at h;subst h;exact hk
 | .junk,_,j,h=>by simp [owns] at h
theorem okL_owns {n:Nat}:∀(l:List LV),dn n l→∀j,j∈ownsL l→j<n
 | [],_,j,h=>by simp [ownsL] at h
 |x::xs,hk,j,h=>by
  simp only [ownsL,List.mem_append,dn] at*
  rcases h with h|h
  ·exact okV_owns x hk.1 j h
  ·exact okL_owns xs hk.2 j h
end
mutual
theorem okV_lower {n m:Nat}:∀(x:LV),okV n x→(∀j,j∈owns x→j<m)→okV m x
 | .v _,_,_=>trivial
 | .bl _,_,_=>trivial
 | .ki _ _,_,_=>trivial
 | .own k _,_,h=>h k (by simp [owns])
 | .agg l,hk,h=>by simp only [owns,okV] at*;exact okL_lower l hk h
 | .iD l,hk,h=>by simp only [owns,okV] at*;exact okL_lower l hk h
 | .fn _ l,hk,h=>by simp only [owns,okV] at*;exact okL_lower l hk h
 | .xq _ _,hk,_=>by simpa only [okV] using hk
 | .xl _ _,_,_=>trivial
 | .os k _ _ _,_,h=>h k (by simp [owns])
 | .op k _ _ _,_,h=>h k (by simp [owns])
 | .om k,_,h=>h k (by simp [owns])
 | .mp _ _ l,hk,h=>by simp only [owns,okV] at*;exact okL_lower l hk h
 | .oc k _ _ _ _,_,h=>h k (by simp [owns])
 | .uN k,_,h=>h k (by simp [owns])
 | .junk,_,_=>trivial
theorem okL_lower {n m:Nat}:∀(l:List LV),dn n l→(∀j,j∈ownsL l→j<m)→dn m l
 | [],_,_=>trivial
 |x::xs,hk,h=>by
  simp only [ownsL,List.mem_append,dn] at*
  exact ⟨okV_lower x hk.1 (fun j hj=>h j (.inl hj)),okL_lower xs hk.2 (fun j hj=>h j (.inr hj))⟩
end
theorem ahy {n:Nat}{b:aU}(h:okB n b):∀j,j∈b.owns→j<n:=fun j hj=>by
 unfold aU.owns at hj
 rcases List.mem_append.1 hj with hj|hj
 ·exact okL_owns _ h.1 j hj
 ·have h2:=h.2
  split at hj
  ·rename_i hk;rw [hk] at h2;exact okL_owns _ h2 j hj
  ·cases hj
theorem fC.yS {β':Nat→Loc}{n k k':Nat}{b:aU}(hk:β' k'=β k) (hj:∀j,j∈b.owns→β' j=β j) (hok:okB n b) (h:fC β Z w k b):fC β' Z w k' b:=by
 have hc:∀j,j∈ownsL b.c→β' j=β j:=fun j h=>hj j (List.mem_append.2 (.inl h))
 unfold fC at*
 rw [hk]
 cases hbk:b.k with
 |cl=>
  simp only [hbk] at h⊢
  obtain ⟨cs,h1,h2⟩:=h
  exact ⟨cs,h1,RL.yS _ _ hc hok.1 h2⟩
 |vec e l=>simp only [hbk] at h⊢;exact h
 |mp kd ks vs=>
  simp only [hbk] at h⊢
  obtain ⟨es,clock,h1,h2,h3⟩:=h
  have ho:=hok.2
  rw [hbk] at ho
  exact ⟨es,clock,h1,h2,RL.yS _ _ (fun j h=>hj j (by unfold aU.owns;rw [hbk];exact List.mem_append.2 (.inr h))) ho h3⟩
 |kG ps asg body st=>
  simp only [hbk] at h⊢
  obtain ⟨r,h1,h2,h3,h4,h5,h6⟩:=h
  exact ⟨r,h1,h2,h3,h4,h5,RL.yS _ _ hc hok.1 h6⟩
 |st e l=>simp only [hbk] at h⊢;exact h
 |dead=>trivial
def Di (β:Nat→Loc) (k m:Nat):Nat→Loc:=fun j=>if j=k then β m else β j
theorem pY {k m:Nat}:Di β k m k=β m:=by simp [Di]
theorem jq {k m j:Nat}(h:j≠k):Di β k m j=β j:=by simp [Di,h]
theorem RW.move {k:Nat}{nb db:aU}(hW:RW G w0 Z0 Z β (H++[nb]) w) (hk:H[k]? =some db) (hp:nb.p=false)
  (hB:∀(j:Nat) (b:aU),H[j]? =some b→okB H.length b∧k∉b.owns) (hn:okB H.length nb∧k∉nb.owns) (hg:∀p,p∈Z0.gh→okV H.length p.1∧k∉owns p.1):
  RW G w0 Z0 Z (Di β k H.length) (H.set k nb) w:=by
 have hkl:k<H.length:=(List.getElem?_eq_some_iff.1 hk).1
 have at_:∀(j:Nat) (b:aU),(H.set k nb)[j]? =some b→(j=k∧b=nb)∨(j≠k∧H[j]? =some b):=fun j b h=>by
  rw [List.getElem?_set] at h
  split at h
  ·rename_i e
   simp only [Option.some.injEq] at h
   exact .inl ⟨e.symm,h.symm⟩
  ·rename_i e;exact .inr ⟨fun x=>e x.symm,h⟩
 have last:(H++[nb])[H.length]? =some nb:=by simp
 have old:∀(j:Nat) (b:aU),H[j]? =some b→(H++[nb])[j]? =some b:=fun j b h=>by rw [List.getElem?_append_left (List.getElem?_eq_some_iff.1 h).1];exact h
 have lt:∀(j:Nat) (b:aU),H[j]? =some b→j<H.length:=fun j b h=>(List.getElem?_eq_some_iff.1 h).1
 have lk:live (Di β k H.length) k nb=live β H.length nb:=by unfold live;rw [pY]
 have lj:∀j b,j≠k→live (Di β k H.length) j b=live β j b:=fun j b h=>jW (jq h)
 refine ⟨hW.below,hW.lQ,hW.sH,fun j b hj hl hq=>?_,fun j b hj hl hq=>?_,fun j b hj hl=>?_,fun i j bi bj hi hj li lj' pi e=>?_,fun j b hj=>?_,hW.iI,fun p hp=>?_,hW.rC⟩
 ·rcases at_ j b hj with ⟨rfl,rfl⟩ |⟨h1,h2⟩
  ·rw [pY];rw [lk] at hl;exact hW.kE _ _ last hl hq
  ·rw [jq h1];rw [lj j b h1] at hl;exact hW.kE j b (old j b h2) hl hq
 ·rcases at_ j b hj with ⟨rfl,rfl⟩ |⟨h1,h2⟩
  ·rw [hp] at hq;cases hq
  ·rw [jq h1];rw [lj j b h1] at hl;exact hW.vg j b (old j b h2) hl hq
 ·rcases at_ j b hj with ⟨rfl,rfl⟩ |⟨h1,h2⟩
  ·rw [pY];rw [lk] at hl;exact hW.low _ _ last hl
  ·rw [jq h1];rw [lj j b h1] at hl;exact hW.low j b (old j b h2) hl
 ·rcases at_ i bi hi with ⟨rfl,rfl⟩ |⟨h1,h2⟩
  ·rcases at_ j bj hj with ⟨rfl,rfl⟩ |⟨g1,g2⟩
   ·rfl
   ·rw [lk] at li;rw [lj j bj g1] at lj';rw [pY,jq g1] at e
    have:=hW.inj _ j _ bj last (old j bj g2) li lj' pi e
    have:=lt j bj g2;omega
  ·rcases at_ j bj hj with ⟨rfl,rfl⟩ |⟨g1,g2⟩
   ·rw [lj i bi h1] at li;rw [lk] at lj';rw [jq h1,pY] at e
    have:=hW.inj i _ bi _ (old i bi h2) last li lj' pi e
    have:=lt i bi h2;omega
   ·rw [lj i bi h1] at li;rw [lj j bj g1] at lj';rw [jq h1,jq g1] at e
    exact hW.inj i j bi bj (old i bi h2) (old j bj g2) li lj' pi e
 ·rw [List.length_set]
  rcases at_ j b hj with ⟨rfl,rfl⟩ |⟨h1,h2⟩
  ·exact ⟨fC.yS pY (fun i hi=>jq (fun e=>hn.2 (e▸hi))) hn.1 (hW.blk _ _ last).1,hn.1⟩
  ·obtain ⟨q1,q2⟩:=hB j b h2
   exact ⟨fC.yS (jq h1) (fun i hi=>jq (fun e=>q2 (e▸hi))) q1 (hW.blk j b (old j b h2)).1,q1⟩
 ·obtain ⟨q1,q2⟩:=hg p hp
  rw [List.length_set]
  exact ⟨R.yS _ _ (fun j hj=>jq (fun e=>q2 (e▸hj))) q1 (hW.gh p hp).1,q1⟩
theorem He:∀ {l:List LV}{x:LV}{j:Nat},x∈l→j∈owns x→j∈ownsL l
 |y::ys,x,j,hx,hj=>by
  simp only [ownsL,List.mem_append]
  rcases List.mem_cons.1 hx with rfl|h
  ·exact .inl hj
  ·exact .inr (He h hj)
theorem vO:∀ {l:List LV}{j:Nat},j∈ownsL l→∃x,x∈l∧j∈owns x
 |x::xs,j,h=>by
  simp only [ownsL,List.mem_append] at h
  rcases h with h|h
  ·exact ⟨x,by simp,h⟩
  ·obtain ⟨y,h1,h2⟩:=vO h;exact ⟨y,by simp [h1],h2⟩
 | [],j,h=>by simp [ownsL] at h
theorem jK {x:Operand}{j:Nat}(h:j∈owns (aN G F x)):j∈ownsL F:=by
 cases x with
 |tmp t=>
  simp only [aN] at h
  cases ht:F[t]? with
  |none=>simp [List.getD,ht,owns] at h
  |some y=>simp [List.getD,ht] at h;exact He (List.mem_of_getElem? ht) h
 |const v=>simp only [aN] at h;split at h<;>simp [owns] at h
 |global g=>simp only [aN] at h;split at h<;>simp [owns] at h
 |func f=>simp [aN,owns,ownsL] at h
theorem vP:∀(l:List Value),ownsL (l.map .v)=[]
 | []=>rfl
 |x::xs=>by simp [ownsL,owns,vP xs]
theorem rM {x:LV}{cs:List LV}(h:dw x=some cs):∀j,j∈ownsL cs→j∈owns x:=fun j hj=>by
 unfold dw at h
 split at h
 ·split at h
  ·simp only [Option.some.injEq] at h;subst h;rw [vP] at hj;cases hj
  ·cases h
 ·split at h
  ·simp only [Option.some.injEq] at h;subst h;simpa only [owns] using hj
  ·cases h
 ·cases h
 ·cases h
 ·simp only [Option.some.injEq] at h;subst h;simpa [ownsL] using hj
theorem CV {d:Option Tmp}{x:LV}{j:Nat}(h:j∈ownsL (di F d x)):j∈ownsL F∨j∈owns x:=by
 cases d with
 |none=>exact .inl h
 |some t=>
  obtain ⟨y,h1,h2⟩:=vO h
  simp only [di] at h1
  rcases List.mem_or_eq_of_mem_set h1 with e|e
  ·exact .inl (He e h2)
  ·subst e;exact .inr h2
theorem Uy {k:Nat}{o:Oper}{lv:LV}{H1:List aU}(h:(DC P G F H k o).all (fun q=>q=(lv,H1))):(∃cs t,lv=.own k 0∧H1=H.set k ⟨cs,t,.cl,false⟩∧(jV P G Γ F H o).all (fun q=>q=(.own H.length 0,H++[⟨cs,t,.cl,false⟩]))∧∀j,j∈ownsL cs→j∈ownsL F)∨
  ∃(m n:Nat) (e:TypeId) (ty:Ty) (l:List ty.D),lv=.os k m 0 n∧H1=H.set k ⟨[],e,.vec ty l,false⟩∧(jV P G Γ F H o).all (fun q=>q=(.os H.length m 0 n,H++[⟨[],e,.vec ty l,false⟩])):=by
 unfold DC at h
 split at h
 ·rename_i t ho
  split at h
  ·rename_i z hz
   split at h
   ·rename_i cs hcs
    simp only [T.all,Prod.mk.injEq] at h
    refine .inl ⟨cs,t,h.1.symm,h.2.symm,?_,fun j hj=>?_⟩
    ·unfold jV;simp only [ho,hz,hcs,T.all]
    ·have:=rM hcs j hj;simp [owns] at this
   ·cases h
  ·cases h
 ·rename_i t x ho
  split at h
  ·rename_i cs hcs
   simp only [T.all,Prod.mk.injEq] at h
   refine .inl ⟨cs,t,h.1.symm,h.2.symm,?_,fun j hj=>jK (rM hcs j hj)⟩
   unfold jV;simp only [ho,hcs,T.all]
  ·cases h
 ·rename_i t n c ho
  split at h
  ·rename_i e ty m by_ n' c' he hn hc
   split at h
   ·rename_i z hz
    split at h
    ·rename_i d hd
     split at h
     ·rename_i hsz
      simp only [T.all,Prod.mk.injEq] at h
      obtain ⟨h0,h1,h2⟩:=h
      refine .inr ⟨m,n'.toNat,e,ty,List.replicate n'.toNat d,h1.symm,h2.symm,?_⟩
      unfold jV
      simp only [ho,KY,he,hn,hc,hz,hd,hsz,if_true,T.all]
      exact ⟨h0,trivial⟩
     ·cases h
    ·cases h
   ·cases h
  ·cases h
 ·cases h
structure YJ (n0:Nat) (done:Nat→Prop) (R:List Nat) (g:Gh):Prop where
 f:∀j,j∈ownsL g.F→j<n0∨∃i,done i∧j=n0+i
 h:∀(k:Nat) (b:aU),g.H[k]? =some b→∀j,j∈b.owns→j<n0∨∃i,done i∧j=n0+i
 dead:∀i,i∈R→¬done i∧∃b,g.H[n0+i]? =some b
theorem abT (hΓ:∀g S,Γ g=some S→Valid P G g S) {tr:List Nat}{g:Gh}{o:Oper}{lv:LV}{H1:List aU}{w':World}{done:Nat→Prop}{R':List Nat}{i:Nat}(hgh:∀p,p∈Z0.gh→okV H.length p.1) (hI:YJ H.length done R' g) (hi:i∈R')
  (hst:dA G g.F tr H.length o=true) {nb:aU} {lv0:LV} (hop:(jV P G Γ g.F g.H o).all (fun q=>q=(lv0,g.H++[nb]))) (hpn:nb.p=false) (hcs:∀j,j∈nb.owns→j∈ownsL g.F) (hlow:∀n m,okB n nb→(∀j,j∈nb.owns→j<m)→okB m nb)
  (hlv:∀β' Z' w'' v,R β' Z' w'' lv0 v→R (Di β' (H.length+i) g.H.length) Z' w'' lv v) (hlo:∀n,H.length+i<n→okV n lv) (hH1:H1=g.H.set (H.length+i) nb) (hc:ni ds G w0 Z0 tr β H wr g w'):
  dB P (fun v w''=>∃g':Gh,ni ds G w0 Z0 tr β H wr g' w''∧g'.F=di g.F o.dst lv∧g'.H=H1∧g'.a=g.a.put o.dst v) ((execOp g.a.eval o).run P w'):=by
 subst hH1
 refine fV (fun v w'' ⟨Z',β',e1,e2,e3,e4,e5,e6,e7,e8⟩=>?_) (xk hΓ hc.rw hc.rf hop)
 obtain ⟨hnd,db,hdb⟩:=hI.dead i hi
 have fresh:∀j,(j<H.length∨∃i',done i'∧j=H.length+i')→j≠H.length+i:=fun j hj e=>by
  rcases hj with hj|⟨i',hd,e'⟩
  ·omega
  ·have:i'=i:=by omega
   subst this;exact hnd hd
 have hkg:H.length+i<g.H.length:=(List.getElem?_eq_some_iff.1 hdb).1
 have hsz:=hc.near.size
 have hcl:∀j,j∈nb.owns→j<g.H.length:=fun j hj=>by
  obtain ⟨x,q1,q2⟩:=vO (hcs j hj)
  obtain ⟨t',q3⟩:=List.getElem?_of_mem q1
  exact okV_owns x (hc.rf.get t' x q3).2 j q2
 have okcs:okB g.H.length nb:=hlow _ _ (e1.blk g.H.length nb (by simp)).2 hcl
 have hMv:=e1.move (k:=H.length+i) hdb hpn (fun j b hj=>⟨(hc.rw.blk j b hj).2,fun hm=>fresh _ (hI.h j b hj _ hm) rfl⟩) ⟨okcs,fun hm=>fresh _ (hI.f _ (hcs _ hm)) rfl⟩ (fun p hp=>⟨okV.mono hc.len _ (hgh p hp),fun hm=>by have:=okV_owns _ (hgh p hp) _ hm;omega⟩)
 have hF2:RF ds (Di β' (H.length+i) g.H.length) Z' w'' (g.H.set (H.length+i) nb).length g.F g.a:=by
  rw [List.length_set]
  refine ⟨hc.rf.size,fun t' x hx=>?_,e2.defers⟩
  have q:=hc.rf.get t' x hx
  exact ⟨R.yS x _ (fun j hj=>jq (fresh j (hI.f j (He (List.mem_of_getElem? hx) hj)))) q.2 (e2.get t' x hx).1,q.2⟩
 refine ⟨⟨Z',Di β' (H.length+i) g.H.length,g.H.set (H.length+i) nb,di g.F o.dst lv,g.a.put o.dst v⟩,?_,rfl,rfl,rfl⟩
 refine ⟨hMv,hF2.put (hlv _ _ _ _ e3) (hlo _ (by simp only [List.length_set];exact hkg)) o.dst,⟨e8.os.trans hc.near.os,e8.tape.trans hc.near.tape,e8.output.trans hc.near.output,Nat.le_trans hsz e8.size,fun k hk hn=>?_⟩,by simp only [List.length_set];exact hc.len,fun k hk=>?_,fun k h3 h4=>?_,fun k b hb=>?_⟩
 ·rw [e8.block k (by omega) fun hm=>?_]
  ·exact hc.near.block k hk hn
  ·rcases hc.touch hst hm with h|h
   ·omega
   ·exact hn h
 ·show Di β' (H.length+i) g.H.length k=β k
  rw [jq (by omega),e6 k (Nat.lt_of_lt_of_le hk hc.len)];exact hc.old k hk
 ·show wr.heap.size≤(Di β' (H.length+i) g.H.length k).b∨(Di β' (H.length+i) g.H.length k).b∈zN β H tr
  simp only [List.length_set] at h4
  by_cases hkk:k=H.length+i
  ·subst hkk
   rw [pY]
   rcases e7 g.H.length (Nat.le_refl _) (by simp) with h|h
   ·exact .inl (by omega)
   ·exact hc.touch hst h
  ·rw [jq hkk,e6 k h4];exact hc.new k h3 h4
 ·have hkl:k<H.length:=(List.getElem?_eq_some_iff.1 hb).1
  obtain ⟨b',q1,q2⟩:=hc.QK k b hb
  exact ⟨b',by simp only;rw [List.getElem?_set_ne (by omega)];exact q1,q2⟩
theorem axm (hΓ:∀g S,Γ g=some S→Valid P G g S) {tr:List Nat}{g:Gh}{o:Oper}{lv:LV}{H1:List aU}{w':World}{done:Nat→Prop}{R':List Nat}{i:Nat}(hgh:∀p,p∈Z0.gh→okV H.length p.1) (hI:YJ H.length done R' g) (hi:i∈R')
  (hst:dA G g.F tr H.length o=true) (h1:(DC P G g.F g.H (H.length+i) o).all (fun q=>q=(lv,H1))) (hc:ni ds G w0 Z0 tr β H wr g w'):
  dB P (fun v w''=>∃g':Gh,ni ds G w0 Z0 tr β H wr g' w''∧g'.F=di g.F o.dst lv∧g'.H=H1∧g'.a=g.a.put o.dst v) ((execOp g.a.eval o).run P w'):=by
 rcases Uy (Γ:=Γ) h1 with ⟨cs,t,rfl,hH1,hop,hcs⟩ |⟨m,n,e,ty,l,rfl,hH1,hop⟩
 ·refine abT hΓ hgh hI hi hst hop rfl (fun j hj=>?_) (fun n m h1 h2=>⟨okL_lower cs h1.1 (fun j hj=>h2 j ?_),trivial⟩) (fun β' Z' w'' v hr=>by simp only [R] at hr⊢;rw [pY];exact hr) (fun n hn=>hn) hH1 hc
  ·unfold aU.owns at hj
   simp only [List.append_nil] at hj
   exact hcs j hj
  ·unfold aU.owns
   simp only [List.append_nil]
   exact hj
 ·refine abT hΓ hgh hI hi hst hop rfl (fun j hj=>?_) (fun n m h1 h2=>⟨trivial,trivial⟩) (fun β' Z' w'' v hr=>by simp only [R] at hr⊢;rw [pY];exact hr) (fun n hn=>hn) hH1 hc
  unfold aU.owns at hj
  simp [ownsL] at hj
theorem XR {ops:Array Oper}{o:Oper}{d:Option Tmp}{y:LV}{k:Nat}(ha:vw o=true) (h:∀t,d=some t→t∉o.looksAt ops):DC P G (di F d y) H k o=DC P G F H k o:=by
 have hl:=looks h
 unfold vw at ha
 split at ha
 ·rename_i t ho
  unfold DC
  simp only [ho]
 ·rename_i t x ho
  unfold DC
  simp only [ho]
  rw [cZ (hl x (by rw [ho];simp [Op.operands]))]
 ·rename_i t n c ho
  unfold DC
  simp only [ho]
  rw [cZ (hl n (by rw [ho];simp [Op.operands])),cZ (hl c (by rw [ho];simp [Op.operands]))]
 ·cases ha
theorem ajy {o:Oper}{k:Nat}(ha:vw o=true):∃(p:Prop) (lv:LV) (nb:aU),∀(H:List aU) (K:LV×List aU→Prop),(DC P G F H k o).all K↔(p∧K (lv,H.set k nb)):=by
 unfold vw at ha
 split at ha
 ·rename_i t ho
  unfold DC
  simp only [ho]
  split
  ·split
   ·rename_i cs _
    exact ⟨True,.own k 0,⟨cs,t,.cl,false⟩,fun H K=>by simp only [T.all,true_and]⟩
   ·exact ⟨False,.junk,jL,fun H K=>by simp [T.all]⟩
  ·exact ⟨False,.junk,jL,fun H K=>by simp [T.all]⟩
 ·rename_i t x ho
  unfold DC
  simp only [ho]
  split
  ·rename_i cs _
   exact ⟨True,.own k 0,⟨cs,t,.cl,false⟩,fun H K=>by simp only [T.all,true_and]⟩
  ·exact ⟨False,.junk,jL,fun H K=>by simp [T.all]⟩
 ·rename_i t n c ho
  unfold DC
  simp only [ho]
  split
  ·split
   ·split
    ·split
     ·exact ⟨_,_,_,fun H K=>by simp only [T.all];exact Iff.rfl⟩
     ·exact ⟨False,.junk,jL,fun H K=>by simp [T.all]⟩
    ·exact ⟨False,.junk,jL,fun H K=>by simp [T.all]⟩
   ·exact ⟨False,.junk,jL,fun H K=>by simp [T.all]⟩
  ·exact ⟨False,.junk,jL,fun H K=>by simp [T.all]⟩
 ·cases ha
theorem WI {o:Oper}(hm:P6 o=true):vw o=false∧aid o=true∧∀G tr n0 (F:List LV),dA G F tr n0 o=true:=by
 unfold P6 at hm
 split at hm
 ·rename_i x ho
  simp [vw,aid,dA,zh,ho]
 ·rename_i x ho
  simp [vw,aid,dA,zh,ho]
 ·cases hm
theorem RX {ops:Array Oper}{o:Oper}{d:Option Tmp}{y:LV}{n0 i:Nat}(ha:(vw o ||P6 o)=true) (h:∀t,d=some t→t∉o.looksAt ops):spa P G Γ n0 i (di F d y) H o=spa P G Γ n0 i F H o:=by
 rcases Bool.or_eq_true_iff.1 ha with ha|ha
 ·unfold spa
  rw [if_pos ha,if_pos ha,XR ha h]
 ·obtain ⟨h1,h2,_⟩:=WI ha
  have hl:=looks h
  unfold spa
  rw [h1,h2]
  unfold P6 at ha
  split at ha
  ·rename_i x ho
   unfold jV
   simp only [ho]
   rw [cZ (hl x (by rw [ho];simp [Op.operands]))]
   rfl
  ·rename_i x ho
   unfold jV
   simp only [ho]
   rw [cZ (hl x (by rw [ho];simp [Op.operands]))]
   rfl
  ·cases ha
def putAt (k:Nat) (nb:Option aU) (H:List aU):List aU:=
 match nb with
 |some b=>H.set k b
 |none=>H
theorem VS {i j:Nat}{a b:Option aU}{H:List aU}(h:i≠j):putAt i a (putAt j b H)=putAt j b (putAt i a H):=by
 cases a<;>cases b<;>simp only [putAt]
 exact List.set_comm _ _ (Ne.symm h)
theorem ZG {o:Oper}{n0 i:Nat}(ha:(vw o ||P6 o)=true):∃(p:Prop) (lv:LV) (nb:Option aU),∀(H:List aU) (K:LV×List aU→Prop),(spa P G Γ n0 i F H o).all K↔(p∧K (lv,putAt (n0+i) nb H)):=by
 rcases Bool.or_eq_true_iff.1 ha with ha|ha
 ·obtain ⟨p,lv,nb,h⟩:=ajy (P:=P) (G:=G) (F:=F) (k:=n0+i) ha
  refine ⟨p,lv,some nb,fun H K=>?_⟩
  unfold spa
  rw [if_pos ha]
  exact h H K
 ·obtain ⟨h1,h2,_⟩:=WI ha
  unfold P6 at ha
  split at ha
  ·rename_i x ho
   refine ⟨True,aN G F x,none,fun H K=>?_⟩
   unfold spa jV
   rw [h1,h2]
   simp [ho,T.all,putAt]
  ·rename_i x ho
   refine ⟨True,aN G F x,none,fun H K=>?_⟩
   unfold spa jV
   rw [h1,h2]
   simp [ho,T.all,putAt]
  ·cases ha
theorem ab2 {o:Oper}{tr:List Nat}{n0:Nat}(ha:(vw o ||P6 o)=true) (F:List LV):dA G F tr n0 o=true:=by
 rcases Bool.or_eq_true_iff.1 ha with ha|ha
 ·exact yJ (.inl ha)
 ·exact (WI ha).2.2 G tr n0 F
theorem agz {ops:Array Oper}{tr:List Nat}{n0:Nat}{i j:Nat}{is:List Nat}{K:List LV×List aU→Prop}(hc:abS ops i j=true) (h:(Wh P G Γ ops tr n0 (j::i::is) F H).all K):(Wh P G Γ ops tr n0 (i::j::is) F H).all K:=by
 unfold abS at hc
 split at hc
 ·rename_i x y hx hy
  simp only [Bool.and_eq_true,Bool.not_eq_true',beq_eq_false_iff_ne] at hc
  obtain ⟨⟨⟨⟨⟨hne,g1⟩,g2⟩,g3⟩,g4⟩,hap⟩:=hc
  obtain ⟨a1,a2,a3⟩:=Oper.apart_spec hap
  have sx:∀F:List LV,dA G F tr n0 x=true:=ab2 g3
  have sy:∀F:List LV,dA G F tr n0 y=true:=ab2 g4
  simp only [Wh,hx,hy,g1,g2,sx,sy,Bool.and_self,if_true] at h⊢
  obtain ⟨px,lx,nx,ex⟩:=ZG (P:=P) (G:=G) (Γ:=Γ) (F:=F) (n0:=n0) (i:=i) g3
  obtain ⟨py,ly,ny,ey⟩:=ZG (P:=P) (G:=G) (Γ:=Γ) (F:=F) (n0:=n0) (i:=j) g4
  rw [T.all_bind,ey] at h
  obtain ⟨h1,h2⟩:=h
  rw [T.all_bind,RX g3 a3,ex] at h2
  obtain ⟨h3,h4⟩:=h2
  rw [T.all_bind,ex]
  refine ⟨h3,?_⟩
  rw [T.all_bind,RX g4 a1,ey]
  refine ⟨h1,?_⟩
  simp only at h4⊢
  rw [jA a2,VS (show n0+j≠n0+i by omega)]
  exact h4
 ·cases hc
theorem agA {ops:Array Oper}{tr:List Nat}{n0:Nat}{j:Nat}{R R':List Nat}{K:List LV×List aU→Prop}(hh:∀(F:List LV) (H:List aU),(Wh P G Γ ops tr n0 R F H).all K→(Wh P G Γ ops tr n0 R' F H).all K) (h:(Wh P G Γ ops tr n0 (j::R) F H).all K):(Wh P G Γ ops tr n0 (j::R') F H).all K:=by
 simp only [Wh] at h⊢
 split at h
 ·split at h
  ·rename_i hg
   rw [if_pos hg]
   rw [T.all_bind] at h⊢
   exact T.bC (fun q hq=>hh _ _ hq) h
  ·cases h
 ·cases h
theorem KP {ops:Array Oper}{tr:List Nat}{n0:Nat}{i:Nat}{K:List LV×List aU→Prop}:∀(R:List Nat) (F:List LV) (H:List aU),i∈R→(Ku i R).all (fun j=>abS ops i j)=true→(Wh P G Γ ops tr n0 R F H).all K→(Wh P G Γ ops tr n0 (i::R.erase i) F H).all K
 | [],_,_,hi,_,_=>by cases hi
 | j::R,F,H,hi,hb,h=>by
  by_cases hj:j=i
  ·subst hj
   simpa using h
  ·have hi':i∈R:=by
    rcases List.mem_cons.1 hi with e|e
    ·exact absurd e.symm hj
    ·exact e
   simp only [Ku,if_neg hj,List.all_cons,Bool.and_eq_true] at hb
   rw [List.erase_cons_tail (by simpa using hj)]
   exact agz hb.1 (agA (fun F H h=>KP R F H hi' hb.2 h) h)
theorem zJ {i:Nat}:∀ {R:List Nat},rX R=true→∀i'∈R.erase i,i'≠i
 | [],_,_,h=>by simp at h
 | k::R,hn,i',h=>by
  simp only [rX,Bool.and_eq_true,Bool.not_eq_true'] at hn
  by_cases hk:k=i
  ·subst hk
   simp only [List.erase_cons_head] at h
   rintro rfl
   have:i'∉R:=by simpa using hn.1
   exact this h
  ·rw [List.erase_cons_tail (by simpa using hk)] at h
   rcases List.mem_cons.1 h with rfl|h
   ·exact hk
   ·exact zJ hn.2 i' h
theorem Hw {i:Nat}:∀ {R:List Nat},rX R=true→rX (R.erase i)=true
 | [],_=>by simp [rX]
 | k::R,hn=>by
  simp only [rX,Bool.and_eq_true,Bool.not_eq_true'] at hn
  by_cases hk:k=i
  ·subst hk;simpa using hn.2
  ·rw [List.erase_cons_tail (by simpa using hk)]
   simp only [rX,Bool.and_eq_true,Bool.not_eq_true']
   refine ⟨?_,Hw hn.2⟩
   have:k∉R:=by simpa using hn.1
   have:k∉R.erase i:=fun h=>this (List.mem_of_mem_erase h)
   simpa using this
theorem DR {l cs:List LV}{off:Nat}{j:Nat}(h:j∈ownsL (setAt l off cs)):j∈ownsL l∨j∈ownsL cs:=by
 obtain ⟨x,h1,h2⟩:=vO h
 unfold setAt at h1
 rcases List.mem_append.1 h1 with h1|h1
 ·rcases List.mem_append.1 h1 with h1|h1
  ·exact .inl (He (List.mem_of_mem_take h1) h2)
  ·exact .inr (He h1 h2)
 ·exact .inl (He (List.mem_of_mem_drop h1) h2)
theorem RS {t:TypeId}{x y:LV}{H1:List aU}(h:(yH P H t x y).all (fun q=>q=H1)):∃(k:Nat) (b nb:aU),H[k]? =some b∧H1=H.set k nb∧∀j,j∈nb.owns→j∈b.owns∨j∈owns y:=by
 unfold yH at h
 split at h
 ·rename_i n cs hn hcs
  split at h
  ·rename_i k off
   split at h
   ·rename_i b hb
    split at h
    ·rename_i hc
     simp only [T.all] at h
     refine ⟨k,b,_,hb,h.symm,fun j hj=>?_⟩
     have hcl:b.k=.cl:=by
      have:=hc.1
      unfold aU.o6 at this
      split at this
      ·assumption
      ·cases this
     unfold aU.owns at hj⊢
     simp only [hcl,List.append_nil] at hj⊢
     rcases DR hj with h|h
     ·exact .inl h
     ·exact .inr (rM hcs j h)
    ·cases h
   ·cases h
  ·rename_i k es i j
   split at h
   ·rename_i bt e l hb
    split at h
    ·simp only [T.all] at h
     obtain ⟨_,h⟩:=h
     split at h
     ·simp only [T.all] at h
      refine ⟨k,_,_,hb,h.symm,fun j hj=>?_⟩
      unfold aU.owns at hj
      simp [ownsL] at hj
     ·cases h
    ·cases h
   ·cases h
  ·cases h
 ·cases h
theorem KR {x:LV}:owns (norm x)=owns x:=by cases x<;>simp [norm,owns]
theorem Hf:∀(l:List LV),ownsL (l.map norm)=ownsL l
 | []=>rfl
 |x::xs=>by simp only [List.map_cons,ownsL,KR,Hf xs]
theorem WN {l:List LV}{j:Nat}(h:j∈owns (rE l)):j∈ownsL l:=by
 unfold rE at h
 split at h
 ·simp [owns] at h
 ·simp only [owns,Hf] at h;exact h
theorem I5 {place:Nat→Option (Nat×Nat)}:∀(parts:List (Nat×LV)) (cells cs:List LV),yw place cells parts=some cs→∀j,j∈ownsL cs→j∈ownsL cells∨∃q,q∈parts∧j∈owns q.2
 | [],cells,cs,h,j,hj=>by simp only [yw,Option.some.injEq] at h;subst h;exact .inl hj
 | (i,x)::rest,cells,cs,h,j,hj=>by
  simp only [yw] at h
  split at h
  ·rename_i off size c hp hc
   split at h
   ·rcases I5 rest _ cs h j hj with h1|⟨q,q1,q2⟩
    ·rcases DR h1 with h2|h2
     ·exact .inl h2
     ·exact .inr ⟨(i,x),by simp,rM hc j h2⟩
    ·exact .inr ⟨q,by simp [q1],q2⟩
   ·cases h
  ·cases h
theorem Ue {t:TypeId}{parts:List (Nat×LV)}{lv:LV}(h:(Dy P t parts).all (fun z=>z=lv)) (j:Nat) (hj:j∈owns lv):∃q,q∈parts∧j∈owns q.2:=by
 unfold Dy at h
 split at h
 ·split at h
  ·rename_i z pf _ _ cs hcs
   simp only [T.all] at h
   have hj':j∈ownsL cs:=by
    rw [←h] at hj
    split at hj
    ·exact hj
    ·exact WN hj
   rcases I5 parts _ cs hcs j hj' with h1|h1
   ·rw [vP] at h1;cases h1
   ·exact h1
  ·cases h
 ·cases h
theorem Xu {x:Operand}{j:Nat}(h:j∈owns (Eg G F x)):j∈ownsL F:=by
 cases x with
 |const v=>simp only [Eg,KR] at h;exact jK h
 |tmp t=>exact jK (G:=G) (x:=.tmp t) h
 |global g=>exact jK (G:=G) (x:=.global g) h
 |func f=>exact jK (G:=G) (x:=.func f) h
theorem aij {n0:Nat}{done:Nat→Prop}{R:List Nat}{g g':Gh}{o:Oper}{i:Nat}{lv:LV}{H1:List aU}(hI:YJ n0 done R g) (hnd:∀i'∈R.erase i,i'≠i) (hs:(spa P G Γ n0 i g.F g.H o).all (fun q=>q=(lv,H1))) (eF:g'.F=di g.F o.dst lv) (eH:g'.H=H1):YJ n0 (fun i'=>done i'∨i'=i) (R.erase i) g':=by
 have up:∀j,(j<n0∨∃i',done i'∧j=n0+i')→j<n0∨∃i',(done i'∨i'=i)∧j=n0+i':=fun j h=>by
  rcases h with h|⟨i',h1,h2⟩
  ·exact .inl h
  ·exact .inr ⟨i',.inl h1,h2⟩
 unfold spa at hs
 split at hs
 ·have al:∀nb:aU,owns lv=[n0+i]→H1=g.H.set (n0+i) nb→(∀j,j∈nb.owns→j∈ownsL g.F)→YJ n0 (fun i'=>done i'∨i'=i) (R.erase i) g':=fun nb ho hH1 hcs=>by
   subst hH1
   refine ⟨fun j hj=>?_,fun k b hb j hj=>?_,fun i' hi'=>?_⟩
   ·rw [eF] at hj
    rcases CV hj with h|h
    ·exact up j (hI.f j h)
    ·rw [ho] at h;simp at h;subst h;exact .inr ⟨i,.inr rfl,rfl⟩
   ·rw [eH,List.getElem?_set] at hb
    split at hb
    ·split at hb
     ·simp only [Option.some.injEq] at hb
      subst hb
      exact up j (hI.f j (hcs j hj))
     ·cases hb
    ·exact up j (hI.h k b hb j hj)
   ·obtain ⟨h1,b,h2⟩:=hI.dead i' (List.mem_of_mem_erase hi')
    refine ⟨fun h=>h.elim h1 (hnd i' hi'),b,?_⟩
    rw [eH,List.getElem?_set_ne (by have:=hnd i' hi';omega)];exact h2
  rcases Uy (Γ:=Γ) hs with ⟨cs,t,rfl,hH1,_,hcs⟩ |⟨m,n,e,ty,l,rfl,hH1,_⟩
  ·exact al _ rfl hH1 (fun j hj=>by
    unfold aU.owns at hj
    simp only [List.append_nil] at hj
    exact hcs j hj)
  ·exact al _ rfl hH1 (fun j hj=>by
    unfold aU.owns at hj
    simp [ownsL] at hj)
 ·split at hs
  ·rename_i hst
   have other:∀(x:LV),lv=x→H1=g.H→(∀j,j∈owns x→j∈ownsL g.F)→YJ n0 (fun i'=>done i'∨i'=i) (R.erase i) g':=fun x e1 e2 e3=>by
    subst e1 e2
    refine ⟨fun j hj=>?_,fun k b hb j hj=>?_,fun i' hi'=>?_⟩
    ·rw [eF] at hj
     rcases CV hj with h|h
     ·exact up j (hI.f j h)
     ·exact up j (hI.f j (e3 j h))
    ·rw [eH] at hb;exact up j (hI.h k b hb j hj)
    ·obtain ⟨h1,b,h2⟩:=hI.dead i' (List.mem_of_mem_erase hi')
     exact ⟨fun h=>h.elim h1 (hnd i' hi'),b,by rw [eH];exact h2⟩
   unfold aid at hst
   split at hst
   ·rename_i t x y ho
    unfold jV at hs
    simp only [ho] at hs
    obtain ⟨H2,h1,h2⟩:=T.aZ hs
    simp only [T.all,Prod.mk.injEq] at h2
    obtain ⟨rfl,rfl⟩:=h2
    obtain ⟨k,b,nb,q1,q2,q3⟩:=RS h1
    subst q2
    refine ⟨fun j hj=>?_,fun k' b' hb j hj=>?_,fun i' hi'=>?_⟩
    ·rw [eF] at hj
     rcases CV hj with h|h
     ·exact up j (hI.f j h)
     ·simp [owns] at h
    ·rw [eH,List.getElem?_set] at hb
     split at hb
     ·split at hb
      ·simp only [Option.some.injEq] at hb
       subst hb
       rcases q3 j hj with h|h
       ·exact up j (hI.h k b q1 j h)
       ·exact up j (hI.f j (jK h))
      ·cases hb
     ·exact up j (hI.h k' b' hb j hj)
    ·obtain ⟨h1,b0,h2⟩:=hI.dead i' (List.mem_of_mem_erase hi')
     refine ⟨fun h=>h.elim h1 (hnd i' hi'),?_⟩
     rw [eH]
     have hlt:=(List.getElem?_eq_some_iff.1 h2).1
     exact ⟨_,List.getElem?_eq_getElem (by rw [List.length_set];exact hlt)⟩
   ·rename_i x ho
    unfold jV at hs
    simp only [ho,T.all,Prod.mk.injEq] at hs
    exact other _ hs.1.symm hs.2.symm (fun j hj=>jK hj)
   ·rename_i x ho
    unfold jV at hs
    simp only [ho,T.all,Prod.mk.injEq] at hs
    exact other _ hs.1.symm hs.2.symm (fun j hj=>jK hj)
   ·rename_i t parts ho
    unfold jV at hs
    simp only [ho] at hs
    obtain ⟨y,h1,h2⟩:=T.aZ hs
    simp only [T.all,Prod.mk.injEq] at h2
    refine other _ h2.1.symm h2.2.symm (fun j hj=>?_)
    obtain ⟨q,q1,q2⟩:=Ue h1 j hj
    obtain ⟨q0,_,rfl⟩:=List.mem_map.1 q1
    exact Xu q2
   ·cases hst
  ·cases hs
theorem LP (hΓ:∀g S,Γ g=some S→Valid P G g S) {ops:Array Oper}{tr:List Nat}{D:World→Prop}{sp:Nat→Bool}{Q:Act→Gh→Prop}{F':List LV}{H':List aU}(hgh:∀p,p∈Z0.gh→okV H.length p.1)
  (hQ:∀g:Gh,g.F=F'→g.H=H'→Q g.a g):∀(n:Nat) (R:List Nat) (listed:Array Bool) (g:Gh) (done:Nat→Prop),rX R=true→YJ H.length done R g→(∀i∈R,sp i=true)→agF ops n R listed=true→
   (Wh P G Γ ops tr H.length R g.F g.H).all (fun q=>q=(F',H'))→jH P .any ops D (ni ds G w0 Z0 tr β H wr) sp Q n listed g.a g
 |0,R,listed,g,_,_,_,_,hB,h=>by
  simp only [agF,Bool.and_eq_true,List.isEmpty_iff] at hB
  obtain ⟨rfl,h2⟩:=hB
  simp only [Wh,T.all,Prod.mk.injEq] at h
  exact ⟨h2,hQ g h.1 h.2⟩
 | n +1,R,listed,g,done,hnd,hI,hs,hB,h=>by
  simp only [agF,Bool.and_eq_true,List.all_eq_true,Bool.not_eq_true',List.isEmpty_eq_false_iff] at hB
  obtain ⟨hne,hall⟩:=hB
  refine ⟨fun h0=>absurd h0 hne,fun i hi=>?_⟩
  obtain ⟨⟨hR,hbef⟩,hrest⟩:=hall i hi
  have hiR:i∈R:=by simpa using hR
  have hf:=KP R g.F g.H hiR (by rw [List.all_eq_true];exact hbef) h
  simp only [Wh] at hf
  split at hf
  ·rename_i o ho
   split at hf
   ·rename_i hgs
    simp only [Bool.and_eq_true,Option.isNone_iff_eq_none] at hgs
    obtain ⟨hgd,hst⟩:=hgs
    have hw:Region.wanted o (yielded ops g.a.tmps)=true:=by simp [Region.wanted,hgd]
    unfold Dq
    simp only [ho,hw,if_true,hs i hiR]
    obtain ⟨⟨lv,H1⟩,h1,h2⟩:=T.aZ hf
    have hne2:∀i'∈R.erase i,i'≠i:=zJ hnd
    intro w' hc
    have goal:dB P (fun v w''=>∃g':Gh,ni ds G w0 Z0 tr β H wr g' w''∧g'.F=di g.F o.dst lv∧g'.H=H1∧g'.a=g.a.put o.dst v) ((execOp g.a.eval o).run P w'):=by
     unfold spa at h1
     split at h1
     ·exact axm hΓ hgh hI hiR hst h1 hc
     ·split at h1
      ·exact Ag hΓ hst h1 hc
      ·cases h1
    refine fV (fun v w'' ⟨g',e1,e2,e3,e4⟩=>⟨g',e1,?_⟩) goal
    rw [←e4]
    refine LP hΓ hgh hQ n (R.erase i) _ g' (fun i'=>done i'∨i'=i) (Hw hnd) (aij hI hne2 h1 e2 e3) (fun j hj=>hs j (List.mem_of_mem_erase hj)) hrest ?_
    rw [e2,e3]
    exact h2
   ·cases hf
  ·cases hf
theorem RW.aBs {βd:Nat→Loc}{m:Nat}(hW:RW G w0 Z0 Z β H w) (hd:∀k,k<H.length→βd k=β k):RW G w0 Z0 Z βd (H++List.replicate m jL) w:=by
 have old:∀(k:Nat) (b:aU),(H++List.replicate m jL)[k]? =some b→(k<H.length∧H[k]? =some b)∨b=jL:=fun k b hb=>by
  by_cases h0:k<H.length
  ·rw [List.getElem?_append_left h0] at hb;exact .inl ⟨h0,hb⟩
  ·rw [List.getElem?_append_right (by omega),List.getElem?_replicate] at hb
   split at hb
   ·simp only [Option.some.injEq] at hb;exact .inr hb.symm
   ·cases hb
 have nl:∀k,¬live βd k jL:=fun k h=>by simp [live,jL] at h
 refine ⟨hW.below,hW.lQ,hW.sH,fun k b hk hl hp=>?_,fun k b hk hl hp=>?_,fun k b hk hl=>?_,fun i j bi bj hi hj li lj pi e=>?_,fun k b hk=>?_,hW.iI,fun p hp=>⟨R.mono hd (fun _ h=>h) (fun _ _=>rfl) _ _ (hW.gh p hp).2 (hW.gh p hp).1,okV.mono (by simp) _ (hW.gh p hp).2⟩,hW.rC⟩
 ·rcases old k b hk with ⟨h1,h2⟩ |rfl
  ·rw [hd k h1];rw [jW (hd k h1)] at hl;exact hW.kE k b h2 hl hp
  ·exact absurd hl (nl k)
 ·rcases old k b hk with ⟨h1,h2⟩ |rfl
  ·rw [hd k h1];rw [jW (hd k h1)] at hl;exact hW.vg k b h2 hl hp
  ·exact absurd hl (nl k)
 ·rcases old k b hk with ⟨h1,h2⟩ |rfl
  ·rw [hd k h1];rw [jW (hd k h1)] at hl;exact hW.low k b h2 hl
  ·exact absurd hl (nl k)
 ·rcases old i bi hi with ⟨h1,h2⟩ |rfl
  ·rcases old j bj hj with ⟨g1,g2⟩ |rfl
   ·rw [jW (hd i h1)] at li;rw [jW (hd j g1)] at lj;rw [hd i h1,hd j g1] at e
    exact hW.inj i j bi bj h2 g2 li lj pi e
   ·exact absurd lj (nl j)
  ·exact absurd li (nl i)
 ·rcases old k b hk with ⟨h1,h2⟩ |rfl
  ·obtain ⟨g1,g2⟩:=hW.blk k b h2
   exact ⟨g1.keep hd (fun _ h=>h) (fun _ _=>rfl) (hd k h1) (fun _=>rfl) g2,g2.mono (by simp)⟩
  ·exact ⟨by simp [fC,jL],trivial,trivial⟩
theorem ank {o:Oper}{lv:LV}(h:(pux P G Γ F o).all (fun z=>z=lv)):(jV P G Γ F H o).all (fun q=>q=(lv,H))∧∀tr n0,dA G F tr n0 o=true:=by
 have bd:∀ {t:T LV},t.all (fun z=>z=lv)→(t.bind fun y=>(T.ok (y,H):T (LV×List aU))).all (fun q=>q=(lv,H)):=fun h=>by
  rw [T.all_bind]
  exact T.bC (fun z hz=>by simp only [T.all];rw [hz]) h
 have ok:∀ {o:Oper},zh G F o=[]→∀tr n0,dA G F tr n0 o=true:=fun hw tr n0=>by unfold dA;rw [hw];rfl
 unfold pux at h
 split at h
 ·rename_i x ho
  refine ⟨?_,ok (by simp [zh,ho])⟩
  unfold jV;simp only [ho];simp only [T.all] at h⊢;rw [h]
 ·rename_i x ho
  refine ⟨?_,ok (by simp [zh,ho])⟩
  unfold jV;simp only [ho];simp only [T.all] at h⊢;rw [h]
 ·rename_i c x y ho
  refine ⟨?_,ok (by simp [zh,ho])⟩
  unfold jV;simp only [ho];exact bd h
 ·rename_i t x ho
  refine ⟨?_,ok (by simp [zh,ho])⟩
  unfold jV;simp only [ho]
  split at h
  ·rename_i m f hx
   rw [hx]
   refine bd ?_
   unfold uQ at h⊢
   exact h
  ·cases h
 ·rename_i s x i ho
  refine ⟨?_,ok (by simp [zh,ho])⟩
  unfold jV;simp only [ho];exact bd h
 ·rename_i t x i ho
  refine ⟨?_,ok (by simp [zh,ho])⟩
  unfold jV;simp only [ho];exact bd h
 ·rename_i t parts ho
  refine ⟨?_,ok (by simp [zh,ho])⟩
  unfold jV;simp only [ho];exact bd h
 ·rename_i ho
  exact ⟨PL (by simp [rY,ho]) h,ok (by simp [zh,ho])⟩
 ·rename_i ho
  exact ⟨PL (by simp [rY,ho]) h,ok (by simp [zh,ho])⟩
 ·rename_i ho
  refine ⟨?_,ok (by simp [zh,ho])⟩
  unfold jV;simp only [ho];exact bd h
 ·rename_i op _ _ _ _ ho
  refine ⟨?_,ok (by simp [zh,ho])⟩
  cases op<;>first|(cases h;done) |(unfold jV;simp only [ho];exact bd h)
 ·cases h
theorem KD {ops:Array Oper}{o:Oper}{d:Option Tmp}{y:LV}(h:∀t,d=some t→t∉o.looksAt ops):aeT P G Γ ops (di F d y) o=aeT P G Γ ops F o:=by
 unfold aeT
 rw [G7 h]
 split
 ·rfl
 ·rename_i j want hg
  split
  ·rename_i s hs
   have:(di F d y).getD s .junk=F.getD s .junk:=by
    cases d with
    |none=>rfl
    | some t=>
     have hne:s≠t:=fun e=>h t rfl (by
      subst e
      unfold Oper.looksAt
      rw [hg]
      simp only [List.mem_append]
      right
      rw [hs];simp)
     simp only [di,List.getD,List.getElem?_set_ne (Ne.symm hne)]
   rw [this]
  ·rfl
theorem agv {ops:Array Oper}{i j:Nat}{is:List Nat}{K:List LV→Prop}(hc:abQ ops i j=true) (h:(Oh P G Γ ops (j::i::is) F).all K):(Oh P G Γ ops (i::j::is) F).all K:=by
 unfold abQ at hc
 split at hc
 ·rename_i x y hx hy
  obtain ⟨a1,a2,a3⟩:=Oper.apart_spec hc
  simp only [Oh,hx,hy] at h⊢
  rw [T.all_bind] at h⊢
  have h2:=T.bC (fun z hz=>by
   rw [T.all_bind,KD a3] at hz
   exact hz) h
  refine T.bC (fun q hq=>?_) (T.swap h2)
  rw [T.all_bind,KD a1]
  refine T.bC (fun z hz=>?_) hq
  rw [jA a2]
  exact hz
 ·cases hc
theorem agw {ops:Array Oper}{j:Nat}{R R':List Nat}{K:List LV→Prop}(hh:∀(F:List LV),(Oh P G Γ ops R F).all K→(Oh P G Γ ops R' F).all K) (h:(Oh P G Γ ops (j::R) F).all K):(Oh P G Γ ops (j::R') F).all K:=by
 simp only [Oh] at h⊢
 split at h
 ·rw [T.all_bind] at h⊢
  exact T.bC (fun q hq=>hh _ hq) h
 ·cases h
theorem KL {ops:Array Oper}{i:Nat}{K:List LV→Prop}:∀(R:List Nat) (F:List LV),i∈R→(Ku i R).all (fun j=>abQ ops i j)=true→(Oh P G Γ ops R F).all K→(Oh P G Γ ops (i::R.erase i) F).all K
 | [],_,hi,_,_=>by cases hi
 | j::R,F,hi,hb,h=>by
  by_cases hj:j=i
  ·subst hj
   simpa using h
  ·have hi':i∈R:=by
    rcases List.mem_cons.1 hi with e|e
    ·exact absurd e.symm hj
    ·exact e
   simp only [Ku,if_neg hj,List.all_cons,Bool.and_eq_true] at hb
   rw [List.erase_cons_tail (by simpa using hj)]
   exact agv hb.1 (agw (fun F h=>KL R F hi' hb.2 h) h)
theorem Dp (hΓ:∀g S,Γ g=some S→Valid P G g S) {ops:Array Oper} {tr:List Nat} {D:World→Prop} {sp:Nat→Bool} {Q:Act→World→Prop} {F':List LV} {H':List aU}
  (hQ:∀g:Gh,g.F=F'→g.H=H'→∀w',ni ds G w0 Z0 tr β H wr g w'→Q g.a w'):∀(n:Nat) (Rl:List Nat) (listed:Array Bool) (g:Gh),(∃w',ni ds G w0 Z0 tr β H wr g w')→g.H=H'→(∀i∈Rl,sp i=true)→agB ops n Rl listed=true→
   (Oh P G Γ ops Rl g.F).all (fun q=>q=F')→jH P .any ops D (ni ds G w0 Z0 tr β H wr) sp (fun a' g'=>∀w',ni ds G w0 Z0 tr β H wr g' w'→Q a' w') n listed g.a g
 |0,Rl,listed,g,_,hH,_,hB,h=>by
  simp only [agB,Bool.and_eq_true,List.isEmpty_iff] at hB
  obtain ⟨rfl,h2⟩:=hB
  simp only [Oh,T.all] at h
  exact ⟨h2,hQ g h hH⟩
 | n + 1,Rl,listed,g,hex,hH,hs,hB,h=>by
  simp only [agB,Bool.and_eq_true,List.all_eq_true,Bool.not_eq_true',List.isEmpty_eq_false_iff] at hB
  obtain ⟨hne,hall⟩:=hB
  refine ⟨fun h0=>absurd h0 hne,fun i hi=>?_⟩
  obtain ⟨⟨hR,hbef⟩,hrest⟩:=hall i hi
  have hiR:i∈Rl:=by simpa using hR
  have hf:=KL Rl g.F hiR (by rw [List.all_eq_true];exact hbef) h
  simp only [Oh] at hf
  split at hf
  ·rename_i o ho
   have hsub:∀j∈Rl.erase i,sp j=true:=fun j hj=>hs j (List.mem_of_mem_erase hj)
   have goOk:((pux P G Γ g.F o).bind (N7 ops o)).all (fun y=>(Oh P G Γ ops (Rl.erase i) (di g.F o.dst y)).all (fun q=>q=F'))→
     Jl P o g.a (ni ds G w0 Z0 tr β H wr) g (jH P .any ops D (ni ds G w0 Z0 tr β H wr) sp (fun a' g'=>∀w',ni ds G w0 Z0 tr β H wr g' w'→Q a' w') n (listed.setIfInBounds i true)):=fun h=>by
    rw [T.all_bind] at h
    obtain ⟨lv,h1,h2⟩:=T.pick h
    obtain ⟨hop,hst⟩:=ank (H:=g.H) h2
    intro w' hc
    refine fV (fun v w'' ⟨g',e1,e2,e3,e4⟩=>?_) (Ag hΓ (hst tr H.length) hop hc)
    have fin:∀(y:LV),(∀x,ni ds G w0 Z0 tr β H wr g' x→ni ds G w0 Z0 tr β H wr ⟨g'.Z,g'.β,g'.H,di g.F o.dst y,g'.a⟩ x)→(Oh P G Γ ops (Rl.erase i) (di g.F o.dst y)).all (fun q=>q=F')→∃g'',ni ds G w0 Z0 tr β H wr g'' w''∧jH P .any ops D (ni ds G w0 Z0 tr β H wr) sp (fun a' g'=>∀w',ni ds G w0 Z0 tr β H wr g' w'→Q a' w') n (listed.setIfInBounds i true) (g.a.put o.dst v) g'':=fun y hy hp=>by
     refine ⟨⟨g'.Z,g'.β,g'.H,di g.F o.dst y,g'.a⟩,hy w'' e1,?_⟩
     rw [←e4]
     exact Dp hΓ hQ n (Rl.erase i) _ ⟨g'.Z,g'.β,g'.H,di g.F o.dst y,g'.a⟩ ⟨w'',hy w'' e1⟩ (by rw [←hH];exact e3) hsub hrest hp
    have plain:(Oh P G Γ ops (Rl.erase i) (di g.F o.dst lv)).all (fun q=>q=F')→∃g'',ni ds G w0 Z0 tr β H wr g'' w''∧jH P .any ops D (ni ds G w0 Z0 tr β H wr) sp (fun a' g'=>∀w',ni ds G w0 Z0 tr β H wr g' w'→Q a' w') n (listed.setIfInBounds i true) (g.a.put o.dst v) g'':=fun hp=>
     fin lv (fun x hx=>⟨hx.rw,by rw [←e2];exact hx.rf,hx.near,hx.len,hx.old,hx.new,hx.QK⟩) hp
    unfold N7 at h1
    split at h1
    ·rename_i hgd
     split at h1
     ·rename_i b _
      unfold aAy at hgd
      split at hgd
      ·rename_i d hd
       have known:∀c,b=c→∀x,ni ds G w0 Z0 tr β H wr g' x→ni ds G w0 Z0 tr β H wr ⟨g'.Z,g'.β,g'.H,di g.F o.dst (.bl c),g'.a⟩ x:=fun c e x hx=>by
        refine ⟨hx.rw,?_,hx.near,hx.len,hx.old,hx.new,hx.QK⟩
        have hrf:=hx.rf
        rw [e2,hd] at hrf
        simp only [di] at hrf
        rw [hd]
        simp only [di]
        have hk:∀y,(g.F.set d (.v (.bool b))).set d y=g.F.set d y:=fun y=>by simp
        rw [←hk]
        by_cases hlt:d<g.F.length
        ·have hs1:(g.F.set d (.v (.bool b)))[d]? =some (.v (.bool b)):=by simp [hlt]
         have hv:=(hrf.get d _ hs1).1
         simp only [R] at hv
         exact hrf.know (by simp only [R];rw [hv,e]) trivial
        ·have:∀y,(g.F.set d (.v (.bool b))).set d y=g.F.set d (.v (.bool b)):=fun y=>List.set_eq_of_length_le (by rw [List.length_set];exact Nat.le_of_not_lt hlt)
         rw [this];exact hrf
       simp only [T.all] at h1
       cases hb:b with
       |true=>exact fin _ (known true hb) (h1.1 hb)
       |false=>exact fin _ (known false hb) (h1.2 hb)
      ·cases hgd
     ·exact plain h1
    ·exact plain h1
   have passOk:(Oh P G Γ ops (Rl.erase i) (di g.F o.dst (.v undef))).all (fun q=>q=F')→jH P .any ops D (ni ds G w0 Z0 tr β H wr) sp (fun a' g'=>∀w',ni ds G w0 Z0 tr β H wr g' w'→Q a' w') n (listed.setIfInBounds i true) (g.a.put o.dst undef) g:=fun h=>by
    have ps:∀w',ni ds G w0 Z0 tr β H wr g w'→ni ds G w0 Z0 tr β H wr ⟨g.Z,g.β,g.H,di g.F o.dst (.v undef),g.a.put o.dst undef⟩ w':=fun w' hc=>⟨hc.rw,hc.rf.pass o.dst,hc.near,hc.len,hc.old,hc.new,hc.QK⟩
    refine kW (Q':=Q) (g1:=⟨g.Z,g.β,g.H,di g.F o.dst (.v undef),g.a.put o.dst undef⟩) ps n _ _ ?_
    exact Dp hΓ hQ n (Rl.erase i) _ ⟨g.Z,g.β,g.H,di g.F o.dst (.v undef),g.a.put o.dst undef⟩ (hex.imp fun w' hc=>ps w' hc) hH hsub hrest h
   obtain ⟨wx,hcx⟩:=hex
   have hF:=hcx.rf
   rw [T.all_bind] at hf
   unfold Dq
   simp only [ho]
   unfold aeT at hf
   split at hf
   ·rename_i hg
    have hw:Region.wanted o (yielded ops g.a.tmps)=true:=by simp [Region.wanted,hg]
    rw [if_pos hw,if_pos (hs i hiR)]
    exact goOk hf
   ·rename_i j want hg
    split at hf
    ·rename_i d hd
     split at hf
     ·rename_i b hb
      obtain ⟨s1,s2⟩:=hF.slot hb (by simp)
      have hv:=(hF.get d _ s1).1
      simp only [R] at hv
      rw [hv] at s2
      rw [nP hg hd s2]
      split at hf
      ·rename_i e;subst e;simp only [beq_self_eq_true,if_true];rw [if_pos (hs i hiR)];exact goOk hf
      ·rename_i e;rw [if_neg (by simpa using e)];exact passOk hf
     ·rename_i vs hb
      obtain ⟨s1,s2⟩:=hF.slot hb (by simp)
      have hv:=(hF.get d _ s1).1
      simp only [R] at hv
      rw [hv] at s2
      rw [qP hg hd s2,if_neg (by simp)]
      exact passOk hf
     ·cases hf
    ·cases hf
  ·cases hf
theorem pV {K:List LV→Prop}{dl:List Deferred}:∀(ds:List Nat) (F:List LV),RF dl β Z w n F a→(CS ds F).all K→∃F1,K F1∧RF dl β Z w n F1 a
 | [],F,hF,h=>⟨F,h,hF⟩
 | d::ds,F,hF,h=>by
  simp only [CS] at h
  split at h
  ·rename_i g hx
   obtain ⟨s1,s2⟩:=hF.slot hx (by simp)
   have hv:=(hF.get d _ s1).1
   simp only [R] at hv
   simp only [T.all] at h
   cases hg:g with
   |true=>exact pV ds (F.set d (.bl true)) (hF.know (lv:=.bl true) (by simp only [R];rw [hv,hg]) trivial) (h.1 hg)
   |false=>exact pV ds (F.set d (.bl false)) (hF.know (lv:=.bl false) (by simp only [R];rw [hv,hg]) trivial) (h.2 hg)
  ·exact pV ds F hF h
theorem I8 (hΓ:∀g S,Γ g=some S→Valid P G g S) {id:Nat} {ops:Array Oper} {Q:Exit→Act→World→Prop} {F':List LV} {H':List aU} (hQ:∀Z' β' a' w',RW G w0 Z0 Z' β' H' w'→RF ds β' Z' w' H'.length F' a'→Q .normal a' w')
  (hW0:RW G w0 Z0 Z β H w) (hF0:RF ds β Z w H.length F a) (h:(abO P G Γ ops F H).all (fun q=>q=(F',H'))) (r:Option Nat) (m:Nat):(Code.region id ops true).wpIn (QO r) m P Q a w:=by
 unfold abO at h
 simp only at h
 split at h
 ·rename_i hc
  simp only [Bool.and_eq_true] at hc
  obtain ⟨⟨hcalm,hmix⟩,htr0⟩:=hc
  generalize hfl:xG _ [] ops.toList=flags at h hcalm
  generalize htrd:tracked H ops.toList F=tr at h htr0
  have htr:∀k∈tr,k<H.length:=fun k hk=>by simpa using List.all_eq_true.1 htr0 k hk
  obtain ⟨⟨F1,H1⟩,h1,h2⟩:=T.aZ h
  have hk:=nR (P:=P) (G:=G) (Γ:=Γ) (H:=H) (tr:=tr) (Hm:=fF tr 0 H) (F0:=F) flags ops.toList F (fun _ h=>h) ⟨rfl,fun _ _=>rfl⟩
  obtain ⟨⟨F2,H2⟩,g1,g2,g3⟩:=gU hk h1
  have hH2:H2=H:=(T.uq hk g1).2.2
  subst hH2
  have hbd:Below w.heap.size w {w with drawn:=w.drawn+1}:=⟨rfl,rfl,rfl,Nat.le_refl _,fun _ _=>rfl⟩
  have hW:=hW0.same hbd
  have hF:RF ds β Z {w with drawn:=w.drawn+1} H2.length F a:=hF0.mono (Nat.le_refl _) (fun _ _=>rfl) (fun _ h=>h) (fun _ _=>rfl)
  have hflen:flags.length=ops.toList.length:=by
   unfold abU at hcalm
   simp only [Bool.and_eq_true,beq_iff_eq] at hcalm
   simpa using hcalm.1.1.2
  have hops:ops=ops.toList.toArray:=by simp
  have hshp0:Shp tr β H2 {w with drawn:=w.drawn+1}:=fun k b _ hb hcl=>by
   obtain ⟨_,⟨cs,f2,f3⟩,_⟩:=Dz hW hb hcl
   refine ⟨cs,f2,?_⟩
   have:=RL.length f3
   simpa using this
  rw [hops]
  refine Gt (P:=P) (G:=Gh) (D:=fun w'=>lm (zN β H2 tr) {w with drawn:=w.drawn+1} w'∧Below w0.heap.size w0 w'∧Shp tr β H2 w') (C:=fun g w'=>ni ds G w0 Z0 tr β H2 {w with drawn:=w.drawn+1} g w') flags ⟨Z,β,H2,F,a⟩ hmix (by rw [←hops];exact hcalm) (fun g w' hc=>⟨hc.near,hc.rw.below,hc.shape⟩) (fun g w1 w2 hc hb=>hc.keep hb)
   ⟨hW,hF,lm.refl _ _,Nat.le_refl _,fun _ _=>rfl,fun k k1 k2=>absurd k2 (Nat.not_lt.2 k1),EvL.refl _⟩ ?_
  rw [←hops]
  have hlm:(fF tr 0 H2).length=H2.length:=iF tr H2 0
  have hDm:∀w',(lm (zN β H2 tr) {w with drawn:=w.drawn+1} w'∧Below w0.heap.size w0 w'∧Shp tr β H2 w')→RW G w0 Z0 Z β (fF tr 0 H2) w'∧∀b,(Z b∨∃k bk,(fF tr 0 H2)[k]? =some bk∧live β k bk∧tr.contains k=false∧b=(β k).b)→w'.heap[b]? =({w with drawn:=w.drawn+1}:World).heap[b]? :=fun w' ⟨d1,d2,d3⟩=>by
   refine ⟨hW.mask d1 d2 d3,fun b hb=>?_⟩
   rcases hb with hb|⟨k,bk,hk1,hk2,hk3,rfl⟩
   ·exact d1.block b (hW.lQ b hb) (hW.qf hb)
   ·have hkt:k∉tr:=by simpa using hk3
    rw [nT] at hk1
    cases hH:H2[k]? with
    |none=>simp [hH] at hk1
    |some b0=>
     simp only [hH,Option.map_some,Option.some.injEq,Nat.zero_add] at hk1
     rw [if_neg (by simpa using hkt)] at hk1
     subst hk1
     exact d1.block _ (hW.lt hH hk2) (hW.sQ hH hk2 hkt)
  refine qo (H:=H2) (HH:=H2) (F':=F2) hΓ hlm (hW.mask (lm.refl _ _) hW.below hshp0) hDm (fun a1 hF1=>?_) flags ops.toList F a hflen hF g1
  have hF1':=g3 _ _ _ _ _ _ hF1
  refine zi (Q':=fun a' w'=>Q .normal a' w') (g1:=⟨Z,β,H2,F1,a1⟩) (fun w' hc=>?_) flags ops.toList a1 ?_
  ·refine ⟨hc.rw,?_,hc.near,hc.len,hc.old,hc.new,hc.QK⟩
   exact hF1'.mono (Nat.le_refl _) (fun _ _=>rfl) (fun _ h=>h) (fun b hz=>hc.near.block b (hW.lQ b hz) (hW.qf hz))
  ·exact zH (H:=H2) (F':=F') (H':=H') hΓ (fun g e1 e2 w' hc=>hQ g.Z g.β g.a w' (by rw [←e2];exact hc.rw) (by rw [←e1,←e2];exact hc.rf)) flags ops.toList ⟨Z,β,H2,F1,a1⟩ hflen ⟨_,hW,hF1',lm.refl _ _,Nat.le_refl _,fun _ _=>rfl,fun k k1 k2=>absurd k2 (Nat.not_lt.2 k1),EvL.refl _⟩ h2
 ·split at h
  ·rename_i hc
   simp only [Bool.and_eq_true] at hc
   obtain ⟨⟨hcalm,hmix⟩,htr0⟩:=hc
   unfold ai7 at hcalm
   simp only [Bool.and_eq_true] at hcalm
   obtain ⟨hcalm,hord⟩:=hcalm
   generalize hfl:xG _ [] ops.toList=flags at h hcalm hord
   generalize htrd:tracked H ops.toList F=tr at h htr0
   have htr:∀k∈tr,k<H.length:=fun k hk=>by simpa using List.all_eq_true.1 htr0 k hk
   obtain ⟨⟨F1,H1⟩,h1,h2⟩:=T.aZ h
   have hk:=nR (P:=P) (G:=G) (Γ:=Γ) (H:=H) (tr:=tr) (Hm:=fF tr 0 H) (F0:=F) flags ops.toList F (fun _ h=>h) ⟨rfl,fun _ _=>rfl⟩
   obtain ⟨⟨F2,H2⟩,g1,g2,g3⟩:=gU hk h1
   have hH2:H2=H:=(T.uq hk g1).2.2
   subst hH2
   have hbd:Below w.heap.size w {w with drawn:=w.drawn+1}:=⟨rfl,rfl,rfl,Nat.le_refl _,fun _ _=>rfl⟩
   have hW:=hW0.same hbd
   have hF:RF ds β Z {w with drawn:=w.drawn+1} H2.length F a:=hF0.mono (Nat.le_refl _) (fun _ _=>rfl) (fun _ h=>h) (fun _ _=>rfl)
   have hflen:flags.length=ops.toList.length:=by
    unfold wo at hcalm
    simp only [Bool.and_eq_true,beq_iff_eq] at hcalm
    simpa using hcalm.1.1.2
   have hops:ops=ops.toList.toArray:=by simp
   have hshp0:Shp tr β H2 {w with drawn:=w.drawn+1}:=fun k b _ hb hcl=>by
    obtain ⟨_,⟨cs,f2,f3⟩,_⟩:=Dz hW hb hcl
    refine ⟨cs,f2,?_⟩
    have:=RL.length f3
    simpa using this
   rw [hops]
   refine o5 (P:=P) (G:=Gh) (D:=fun w'=>lm (zN β H2 tr) {w with drawn:=w.drawn+1} w'∧Below w0.heap.size w0 w'∧Shp tr β H2 w') (C:=fun g w'=>ni ds G w0 Z0 tr β H2 {w with drawn:=w.drawn+1} g w') flags ⟨Z,β,H2,F,a⟩ hmix (by rw [←hops];exact hcalm) (fun g w' hc=>⟨hc.near,hc.rw.below,hc.shape⟩) (fun g w1 w2 hc hb=>hc.keep hb)
    ⟨hW,hF,lm.refl _ _,Nat.le_refl _,fun _ _=>rfl,fun k k1 k2=>absurd k2 (Nat.not_lt.2 k1),EvL.refl _⟩ ?_
   rw [←hops]
   have hlm:(fF tr 0 H2).length=H2.length:=iF tr H2 0
   have hDm:∀w',(lm (zN β H2 tr) {w with drawn:=w.drawn+1} w'∧Below w0.heap.size w0 w'∧Shp tr β H2 w')→RW G w0 Z0 Z β (fF tr 0 H2) w'∧∀b,(Z b∨∃k bk,(fF tr 0 H2)[k]? =some bk∧live β k bk∧tr.contains k=false∧b=(β k).b)→w'.heap[b]? =({w with drawn:=w.drawn+1}:World).heap[b]? :=fun w' ⟨d1,d2,d3⟩=>by
    refine ⟨hW.mask d1 d2 d3,fun b hb=>?_⟩
    rcases hb with hb|⟨k,bk,hk1,hk2,hk3,rfl⟩
    ·exact d1.block b (hW.lQ b hb) (hW.qf hb)
    ·have hkt:k∉tr:=by simpa using hk3
     rw [nT] at hk1
     cases hH:H2[k]? with
     |none=>simp [hH] at hk1
     |some b0=>
      simp only [hH,Option.map_some,Option.some.injEq,Nat.zero_add] at hk1
      rw [if_neg (by simpa using hkt)] at hk1
      subst hk1
      exact d1.block _ (hW.lt hH hk2) (hW.sQ hH hk2 hkt)
   refine qo (H:=H2) (HH:=H2) (F':=F2) hΓ hlm (hW.mask (lm.refl _ _) hW.below hshp0) hDm (fun a1 hF1=>?_) flags ops.toList F a hflen hF g1
   have hF1':=g3 _ _ _ _ _ _ hF1
   refine kW (Q':=fun a' w'=>Q .normal a' w') (g1:=⟨Z,β,H2,F1,a1⟩) (fun w' hc=>?_) _ _ a1 ?_
   ·refine ⟨hc.rw,?_,hc.near,hc.len,hc.old,hc.new,hc.QK⟩
    exact hF1'.mono (Nat.le_refl _) (fun _ _=>rfl) (fun _ h=>h) (fun b hz=>hc.near.block b (hW.lQ b hz) (hW.qf hz))
   ·exact Ee (H:=H2) (F':=F') (H':=H') hΓ (fun g e1 e2 w' hc=>hQ g.Z g.β g.a w' (by rw [←e2];exact hc.rw) (by rw [←e1,←e2];exact hc.rf)) _ (idxs true flags 0) _ ⟨Z,β,H2,F1,a1⟩ (fun i hi=>by
     obtain ⟨_,h⟩:=sS true flags 0 i hi
     simp only [Nat.sub_zero] at h
     simp [List.getD,h]) hord h2
  ·split at h
   ·rename_i hc
    simp only [Bool.and_eq_true] at hc
    obtain ⟨⟨hcalm,hmix⟩,htr0⟩:=hc
    unfold alx at hcalm
    simp only [Bool.and_eq_true] at hcalm
    obtain ⟨⟨⟨hcalm,hnd⟩,hlt⟩,hord⟩:=hcalm
    generalize hfl:xG _ [] ops.toList=flags at h hcalm hord hnd hlt
    generalize htrd:tracked H ops.toList F=tr at h htr0
    have htr:∀k∈tr,k<H.length:=fun k hk=>by simpa using List.all_eq_true.1 htr0 k hk
    obtain ⟨⟨F1,H1⟩,h1,h2⟩:=T.aZ h
    have hk:=nR (P:=P) (G:=G) (Γ:=Γ) (H:=H) (tr:=tr) (Hm:=fF tr 0 H) (F0:=F) flags ops.toList F (fun _ h=>h) ⟨rfl,fun _ _=>rfl⟩
    obtain ⟨⟨F2,H2⟩,g1,g2,g3⟩:=gU hk h1
    have hH2:H2=H:=(T.uq hk g1).2.2
    subst hH2
    have hbd:Below w.heap.size w {w with drawn:=w.drawn+1}:=⟨rfl,rfl,rfl,Nat.le_refl _,fun _ _=>rfl⟩
    have hW:=hW0.same hbd
    have hF:RF ds β Z {w with drawn:=w.drawn+1} H2.length F a:=hF0.mono (Nat.le_refl _) (fun _ _=>rfl) (fun _ h=>h) (fun _ _=>rfl)
    have hflen:flags.length=ops.toList.length:=by
     unfold wo at hcalm
     simp only [Bool.and_eq_true,beq_iff_eq] at hcalm
     simpa using hcalm.1.1.2
    have hops:ops=ops.toList.toArray:=by simp
    have hshp0:Shp tr β H2 {w with drawn:=w.drawn+1}:=fun k b _ hb hcl=>by
     obtain ⟨_,⟨cs,f2,f3⟩,_⟩:=Dz hW hb hcl
     refine ⟨cs,f2,?_⟩
     have:=RL.length f3
     simpa using this
    rw [hops]
    refine o5 (P:=P) (G:=Gh) (D:=fun w'=>lm (zN β H2 tr) {w with drawn:=w.drawn+1} w'∧Below w0.heap.size w0 w'∧Shp tr β H2 w') (C:=fun g w'=>ni ds G w0 Z0 tr β H2 {w with drawn:=w.drawn+1} g w') flags ⟨Z,β,H2,F,a⟩ hmix (by rw [←hops];exact hcalm) (fun g w' hc=>⟨hc.near,hc.rw.below,hc.shape⟩) (fun g w1 w2 hc hb=>hc.keep hb)
     ⟨hW,hF,lm.refl _ _,Nat.le_refl _,fun _ _=>rfl,fun k k1 k2=>absurd k2 (Nat.not_lt.2 k1),EvL.refl _⟩ ?_
    rw [←hops]
    have hlm:(fF tr 0 H2).length=H2.length:=iF tr H2 0
    have hDm:∀w',(lm (zN β H2 tr) {w with drawn:=w.drawn+1} w'∧Below w0.heap.size w0 w'∧Shp tr β H2 w')→RW G w0 Z0 Z β (fF tr 0 H2) w'∧∀b,(Z b∨∃k bk,(fF tr 0 H2)[k]? =some bk∧live β k bk∧tr.contains k=false∧b=(β k).b)→w'.heap[b]? =({w with drawn:=w.drawn+1}:World).heap[b]? :=fun w' ⟨d1,d2,d3⟩=>by
     refine ⟨hW.mask d1 d2 d3,fun b hb=>?_⟩
     rcases hb with hb|⟨k,bk,hk1,hk2,hk3,rfl⟩
     ·exact d1.block b (hW.lQ b hb) (hW.qf hb)
     ·have hkt:k∉tr:=by simpa using hk3
      rw [nT] at hk1
      cases hH:H2[k]? with
      |none=>simp [hH] at hk1
      |some b0=>
       simp only [hH,Option.map_some,Option.some.injEq,Nat.zero_add] at hk1
       rw [if_neg (by simpa using hkt)] at hk1
       subst hk1
       exact d1.block _ (hW.lt hH hk2) (hW.sQ hH hk2 hkt)
    refine qo (H:=H2) (HH:=H2) (F':=F2) hΓ hlm (hW.mask (lm.refl _ _) hW.below hshp0) hDm (fun a1 hF1=>?_) flags ops.toList F a hflen hF g1
    have hF1':=g3 _ _ _ _ _ _ hF1
    have d1:∀k,k<H2.length→(fun k=>if k<H2.length then β k else ⟨w.heap.size,0,none⟩:Nat→Loc) k=β k:=fun k hk=>by simp [hk]
    have d2:∀k,H2.length≤k→((fun k=>if k<H2.length then β k else ⟨w.heap.size,0,none⟩:Nat→Loc) k).b=w.heap.size:=fun k hk=>by simp [Nat.not_lt.2 hk]
    generalize (fun k=>if k<H2.length then β k else ⟨w.heap.size,0,none⟩:Nat→Loc)=βd at d1 d2
    refine kW (Q':=fun a' w'=>Q .normal a' w') (g1:=⟨Z,βd,H2++List.replicate ops.size jL,F1,a1⟩) (fun w' hc=>?_) _ _ a1 ?_
    ·refine ⟨hc.rw.aBs d1,?_,hc.near,by simp,fun k hk=>d1 k hk,fun k k1 k2=> .inl (by rw [d2 k k1];exact Nat.le_refl _),EvL.app _ _⟩
     exact hF1'.mono (by simp) d1 (fun _ h=>h) (fun b hz=>hc.near.block b (hW.lQ b hz) (hW.qf hz))
    ·refine LP (H:=H2) (F':=F') (H':=H') hΓ (fun p hp=>(hW.gh p hp).2) (fun g e1 e2 w' hc=>hQ g.Z g.β g.a w' (by rw [←e2];exact hc.rw) (by rw [←e1,←e2];exact hc.rf)) _ (idxs true flags 0) _ ⟨Z,βd,H2++List.replicate ops.size jL,F1,a1⟩ (fun _=>False) hnd ⟨fun j hj=>?_,fun k b hb j hj=>?_,fun i hi=>⟨fun h=>h,?_⟩⟩ (fun i hi=>by
      obtain ⟨_,h⟩:=sS true flags 0 i hi
      simp only [Nat.sub_zero] at h
      simp [List.getD,h]) hord h2
     ·obtain ⟨x,q1,q2⟩:=vO hj
      obtain ⟨t',q3⟩:=List.getElem?_of_mem q1
      exact .inl (okV_owns x (hF1'.get t' x q3).2 j q2)
     ·by_cases h0:k<H2.length
      ·simp only at hb
       rw [List.getElem?_append_left h0] at hb
       exact .inl (ahy (hW.blk k b hb).2 j hj)
      ·simp only at hb
       rw [List.getElem?_append_right (by omega),List.getElem?_replicate] at hb
       split at hb
       ·simp only [Option.some.injEq] at hb
        subst hb
        simp [aU.owns,jL,ownsL] at hj
       ·cases hb
     ·have hlt':i<ops.size:=by simpa using List.all_eq_true.1 hlt i hi
      exact ⟨_,List.getElem?_eq_getElem (by simp;omega)⟩
   ·split at h
    ·rename_i hc
     simp only [Bool.and_eq_true] at hc
     obtain ⟨⟨hcalm,hmix⟩,htr0⟩:=hc
     unfold aAO at hcalm
     simp only [Bool.and_eq_true] at hcalm
     obtain ⟨hcalm,hord⟩:=hcalm
     generalize hfl:xG _ [] ops.toList=flags at h hcalm hord
     generalize htrd:tracked H ops.toList F=tr at h htr0
     have htr:∀k∈tr,k<H.length:=fun k hk=>by simpa using List.all_eq_true.1 htr0 k hk
     obtain ⟨⟨F2,H2⟩,g1,h2⟩:=T.aZ h
     have hk:=nR (P:=P) (G:=G) (Γ:=Γ) (H:=H) (tr:=tr) (Hm:=fF tr 0 H) (F0:=F) flags ops.toList F (fun _ h=>h) ⟨rfl,fun _ _=>rfl⟩
     have hH2:H2=H:=(T.uq hk g1).2.2
     subst hH2
     have hbd:Below w.heap.size w {w with drawn:=w.drawn+1}:=⟨rfl,rfl,rfl,Nat.le_refl _,fun _ _=>rfl⟩
     have hW:=hW0.same hbd
     have hF:RF ds β Z {w with drawn:=w.drawn+1} H2.length F a:=hF0.mono (Nat.le_refl _) (fun _ _=>rfl) (fun _ h=>h) (fun _ _=>rfl)
     have hflen:flags.length=ops.toList.length:=by
      unfold wo at hcalm
      simp only [Bool.and_eq_true,beq_iff_eq] at hcalm
      simpa using hcalm.1.1.2
     have hops:ops=ops.toList.toArray:=by simp
     have hshp0:Shp tr β H2 {w with drawn:=w.drawn+1}:=fun k b _ hb hcl=>by
      obtain ⟨_,⟨cs,f2,f3⟩,_⟩:=Dz hW hb hcl
      refine ⟨cs,f2,?_⟩
      have:=RL.length f3
      simpa using this
     rw [hops]
     refine o5 (P:=P) (G:=Gh) (D:=fun w'=>lm (zN β H2 tr) {w with drawn:=w.drawn+1} w'∧Below w0.heap.size w0 w'∧Shp tr β H2 w') (C:=fun g w'=>ni ds G w0 Z0 tr β H2 {w with drawn:=w.drawn+1} g w') flags ⟨Z,β,H2,F,a⟩ hmix (by rw [←hops];exact hcalm) (fun g w' hc=>⟨hc.near,hc.rw.below,hc.shape⟩) (fun g w1 w2 hc hb=>hc.keep hb)
      ⟨hW,hF,lm.refl _ _,Nat.le_refl _,fun _ _=>rfl,fun k k1 k2=>absurd k2 (Nat.not_lt.2 k1),EvL.refl _⟩ ?_
     rw [←hops]
     have hlm:(fF tr 0 H2).length=H2.length:=iF tr H2 0
     have hDm:∀w',(lm (zN β H2 tr) {w with drawn:=w.drawn+1} w'∧Below w0.heap.size w0 w'∧Shp tr β H2 w')→RW G w0 Z0 Z β (fF tr 0 H2) w'∧∀b,(Z b∨∃k bk,(fF tr 0 H2)[k]? =some bk∧live β k bk∧tr.contains k=false∧b=(β k).b)→w'.heap[b]? =({w with drawn:=w.drawn+1}:World).heap[b]? :=fun w' ⟨d1,d2,d3⟩=>by
      refine ⟨hW.mask d1 d2 d3,fun b hb=>?_⟩
      rcases hb with hb|⟨k,bk,hk1,hk2,hk3,rfl⟩
      ·exact d1.block b (hW.lQ b hb) (hW.qf hb)
      ·have hkt:k∉tr:=by simpa using hk3
       rw [nT] at hk1
       cases hH:H2[k]? with
       |none=>simp [hH] at hk1
       |some b0=>
        simp only [hH,Option.map_some,Option.some.injEq,Nat.zero_add] at hk1
        rw [if_neg (by simpa using hkt)] at hk1
        subst hk1
        exact d1.block _ (hW.lt hH hk2) (hW.sQ hH hk2 hkt)
     refine qo (H:=H2) (HH:=H2) (F':=F2) hΓ hlm (hW.mask (lm.refl _ _) hW.below hshp0) hDm (fun a1 hF1=>?_) flags ops.toList F a hflen hF g1
     have hF1':=hF1
     rw [T.all_bind] at h2
     obtain ⟨F0,h2,hF0'⟩:=pV _ F2 hF1' h2
     obtain ⟨F3,h3,h4⟩:=T.aZ h2
     simp only [T.all,Prod.mk.injEq] at h4
     obtain ⟨rfl,rfl⟩:=h4
     refine kW (Q':=fun a' w'=>Q .normal a' w') (g1:=⟨Z,β,H2,F0,a1⟩) (fun w' hc=>?_) _ _ a1 ?_
     ·refine ⟨hc.rw,?_,hc.near,hc.len,hc.old,hc.new,hc.QK⟩
      exact hF0'.mono (Nat.le_refl _) (fun _ _=>rfl) (fun _ h=>h) (fun b hz=>hc.near.block b (hW.lQ b hz) (hW.qf hz))
     ·exact Dp (H:=H2) (H':=H2) (Q:=fun a' w'=>Q .normal a' w') hΓ (fun g e1 e2 w' hc=>hQ g.Z g.β g.a w' (by rw [←e2];exact hc.rw) (by rw [←e1,←e2];exact hc.rf)) _ (idxs true flags 0) _ ⟨Z,β,H2,F0,a1⟩ ⟨_,hW,hF0',lm.refl _ _,Nat.le_refl _,fun _ _=>rfl,fun k k1 k2=>absurd k2 (Nat.not_lt.2 k1),EvL.refl _⟩ rfl (fun i hi=>by
       obtain ⟨_,h⟩:=sS true flags 0 i hi
       simp only [Nat.sub_zero] at h
       simp [List.getD,h]) hord h3
    ·cases h
theorem GN {α:Type}{f:Nat→T α}{n:Int}{p:α→Prop}:∀(m j:Nat),(splitN f n m j).all p→(j:Int)≤n→n<(j:Int)+m→∃i:Nat,n=(i:Int)∧(f i).all p
 |0,j,_,h1,h2=>by omega
 |1,j,h,h1,h2=>⟨j,by omega,h⟩
 |m+2,j,h,h1,h2=>by
  simp only [splitN,T.all] at h
  by_cases e:n=(j:Int)
  ·exact ⟨j,e,h.1 (by simp [e])⟩
  ·exact GN (m+1) (j+1) (h.2 (by simpa using e)) (by omega) (by omega)
theorem NY {ops:List Oper}{s len:Nat}{k:IntKind}{n:Int}(h:NZ P ops F=some (s,k,n,len)):F.getD s .junk=.v (.int k n):=by
 unfold NZ at h
 split at h
 ·obtain ⟨o,_,ho⟩:=List.exists_of_findSome?_eq_some h
  split at ho
  ·split at ho
   ·split at ho
    ·rename_i hx
     simp only [Option.some.injEq,Prod.mk.injEq] at ho
     obtain ⟨rfl,rfl,rfl,rfl⟩:=ho
     exact hx
    ·cases ho
   ·cases ho
  ·cases ho
 ·cases h
theorem TY (hΓ:∀g S,Γ g=some S→Valid P G g S) {id:Nat}{ops:Array Oper}{Q:Exit→Act→World→Prop}{F':List LV}{H':List aU}(hQ:∀Z' β' a' w',RW G w0 Z0 Z' β' H' w'→RF ds β' Z' w' H'.length F' a'→Q .normal a' w')
  (hW0:RW G w0 Z0 Z β H w) (hF0:RF ds β Z w H.length F a) (h:(ajh P G Γ ops F H).all (fun q=>q=(F',H'))) (r:Option Nat) (m:Nat):(Code.region id ops true).wpIn (QO r) m P Q a w:=by
 unfold ajh at h
 split at h
 ·rename_i s k n len hs
  simp only [T.all] at h
  obtain ⟨⟨h0,h1⟩,h2⟩:=h
  obtain ⟨i,hi,h3⟩:=GN len 0 h2 (by omega) (by omega)
  have hx:=NY hs
  obtain ⟨s1,s2⟩:=hF0.slot hx (by simp)
  have hv:=(hF0.get s _ s1).1
  simp only [R] at hv
  exact I8 hΓ hQ hW0 (hF0.know (lv:=.ki k i) (by simp only [R];rw [hv,hi]) trivial) h3 r m
 ·exact I8 hΓ hQ hW0 hF0 h r m
end Go.Sx
namespace Go.Sx
open Go Go.RowKit Go.Proofs.YtlihnbimgclogaaGreatDoor
variable {P : Program} {G : bW} {Γ : Specs} {K : Hand} {A : Gz → Prop} {β : Nat → Loc} {Z : Nat → Prop} {Z0 : Gz} {w w0 : World} {F : List LV} {H : List aU} {a : Act} {ds : List Deferred} {n : Nat}
def aw1:Ex→Exit
 | .normal=> .normal
 | .exit n=> .exit n
 | .ret=> .ret
structure JR (w0:World) (Z0:Gz) (ds:List Deferred):Prop where
 new:∀D,jr D∈ds→w0.heap.size≤D∧D∉Z0.rC
 nodup:ds.Nodup
theorem JR.nil {w0:World}{Z0:Gz}:JR w0 Z0 []:=⟨fun _ h=>(by cases h),List.nodup_nil⟩
def bn (P:Program) (G:bW) (A:Gz→Prop) (c:Code) (t:List LV→List aU→T (Ex×List LV×List aU)):Prop:=
 ∀(r:Option Nat) (w0:World) (Z0:Gz) (Z:Nat→Prop) (β:Nat→Loc) (F:List LV) (H:List aU) (a:Act) (w:World) (ds:List Deferred) (Q:Exit→Act→World→Prop) (x:Ex) (F':List LV) (H':List aU),
  A Z0→(r=none∨yK c=true)→JR w0 Z0 ds→RW G w0 Z0 Z β H w→RF ds β Z w H.length F a→(t F H).all (fun q=>q=(x,F',H'))→(∀ds' Z' β' a' w',JR w0 Z0 ds'→RW G w0 Z0 Z' β' H' w'→RF ds' β' Z' w' H'.length F' a'→Q (aw1 x) a' w')→c.wpIn (QO r) 0 P Q a w
def AN (N:Nat):Gz→Prop:=fun z=>∀p,p∈z.gh→okV N p.1
abbrev Sound (P:Program) (G:bW):=bn P G (AN 0)
def aB:Code→List Code
 | .seq a b=>aB a++aB b
 | .cond _ a b=>aB a++aB b
 | .block _ b=>aB b
 | .loop b=>[b]
 | .scope b=>aB b
 |_=>[]
def jI:Code→List (Array Tmp×Code×Code)
 | .seq a b=>jI a++jI b
 | .cond _ a b=>jI a++jI b
 | .block _ b=>jI b
 | .loop b=>jI b
 | .rangeFunc _ ps a b=>[(ps,a,b)]
 | .scope b=>jI b
 |_=>[]
theorem lu {w:World}{D:Nat}(h:pq w D) (o':Obj) {b o:Nat}{z:Value}(hz:w.cell? ⟨b,o,none⟩=some z):(w.putObj D o').cell? ⟨b,o,none⟩=some z:=by
 have hne:b≠D:=by
  rintro rfl
  unfold pq at h
  simp [World.cell?,h] at hz
 rw [iG (World.putObj_heap_other hne)]
 exact hz
theorem RD.shut {D:Nat}(h:pq w D) (o':Obj):∀(t:Ty) (d:t.D) (b o:Nat),RD Z w t d b o→RD Z (w.putObj D o') t d b o
 | .int _,_,b,o,hh=>by simp only [RD] at*;exact lu h o' hh
 | .bool,_,b,o,hh=>by simp only [RD] at*;exact lu h o' hh
 | .str,_,b,o,hh=>by simp only [RD] at*;exact lu h o' hh
 | .sl e,l,b,o,hh=>by
  simp only [RD] at*
  obtain ⟨a,cap,h1,h2,h3⟩:=hh
  refine ⟨a,cap,lu h o' h1,h2,fun hn=>?_⟩
  obtain ⟨b',o'',h4,h5,h6⟩:=h3 hn
  exact ⟨b',o'',h4,h5,fun i d hd=>RD.shut h o' e d b' _ (h6 i d hd)⟩
 | .pair x y,d,b,o,hh=>by
  simp only [RD] at*
  exact ⟨RD.shut h o' x d.1 b o hh.1,RD.shut h o' y d.2 b _ hh.2⟩
theorem qi {w:World}{D:Nat}(h:pq w D) (o':Obj) {b:Nat}{x:Obj}(hx:w.heap[b]? =some x) (hn:∀q,x≠ .deferred q):(w.putObj D o').heap[b]? =some x:=by
 have hne:b≠D:=by
  rintro rfl
  unfold pq at h
  rw [h] at hx
  exact hn _ (Option.some.inj hx).symm
 rw [World.putObj_heap_other hne]
 exact hx
mutual
theorem R.shut {D:Nat}(h:pq w D) (o':Obj):∀(x:LV) (y:Value),R β Z w x y→R β Z (w.putObj D o') x y
 | .v _,_,hh=>hh
 | .bl _,_,hh=>hh
 | .ki _ _,_,hh=>hh
 | .own k off,y,hh=>by simpa only [R] using hh
 | .agg l,y,hh=>by
  simp only [R] at*
  obtain ⟨ys,h1,h2⟩:=hh
  exact ⟨ys,h1,RL.shut h o' l _ h2⟩
 | .iD l,y,hh=>by
  simp only [R] at*
  obtain ⟨ys,h1,h2⟩:=hh
  exact ⟨ys,h1,RL.shut h o' l _ h2⟩
 | .fn f l,y,hh=>by
  simp only [R] at*
  obtain ⟨ys,h1,h2⟩:=hh
  exact ⟨ys,h1,RL.shut h o' l _ h2⟩
 | .xq n f,y,hh=>by
  simp only [R] at*
  obtain ⟨b,off,h1,hz,h2⟩:=hh
  refine ⟨b,off,h1,hz,fun j hj=>?_⟩
  obtain ⟨z,h3,h4⟩:=h2 j hj
  exact ⟨z,lu h o' h3,R.shut h o' (f j) z h4⟩
 | .xl e l,y,hh=>by
  simp only [R] at*
  obtain ⟨a,cap,h1,h2,h3⟩:=hh
  refine ⟨a,cap,h1,h2,fun hn=>?_⟩
  obtain ⟨b,off,h4,h5,h6⟩:=h3 hn
  exact ⟨b,off,h4,h5,fun i d hd=>RD.shut h o' e d b _ (h6 i d hd)⟩
 | .os k es off n,y,hh=>by simpa only [R] using hh
 | .op k es i j,y,hh=>by simpa only [R] using hh
 | .om k,y,hh=>by simpa only [R] using hh
 | .mp kd ks vs,y,hh=>by
  simp only [R] at*
  obtain ⟨r,es,clock,h1,h2,h3,h4,h5⟩:=hh
  exact ⟨r,es,clock,h1,h2,qi h o' h3 (fun _ e=>by cases e),h4,RL.shut h o' vs _ h5⟩
 | .oc k es off n c,y,hh=>by simpa only [R] using hh
 | .uN k,y,hh=>by simpa only [R] using hh
 | .junk,_,_=>by simp only [R]
theorem RL.shut {D:Nat}(h:pq w D) (o':Obj):∀(x:List LV) (y:List Value),RL β Z w x y→RL β Z (w.putObj D o') x y
 | [],_,hh=>by simpa only [RL] using hh
 |x::xs,ys,hh=>by
  simp only [RL] at*
  obtain ⟨y,zs,h1,h2,h3⟩:=hh
  exact ⟨y,zs,h1,R.shut h o' x y h2,RL.shut h o' xs zs h3⟩
end
theorem fC.shut {D:Nat}(h:pq w D) (o':Obj) {k:Nat}{b:aU}(hh:fC β Z w k b):fC β Z (w.putObj D o') k b:=by
 unfold fC at*
 cases hk:b.k with
 |cl=>
  simp only [hk] at hh⊢
  obtain ⟨cs,h1,h2⟩:=hh
  exact ⟨cs,qi h o' h1 (fun _ e=>by cases e),RL.shut h o' _ _ h2⟩
 | vec e l=>
  simp only [hk] at hh⊢
  cases hc:(β k).cap with
  |none=>simp only [hc] at hh⊢;exact hh
  |some c=>
   simp only [hc] at hh⊢
   obtain ⟨cs,h1,h2,h3,h4⟩:=hh
   exact ⟨cs,qi h o' h1 (fun _ e=>by cases e),h2,h3,fun i d hd=>RD.shut h o' e d _ _ (h4 i d hd)⟩
 |mp kd ks vs=>
  simp only [hk] at hh⊢
  obtain ⟨es,clock,h1,h2,h3⟩:=hh
  exact ⟨es,clock,qi h o' h1 (fun _ e=>by cases e),h2,RL.shut h o' _ _ h3⟩
 |kG ps asg body st=>
  simp only [hk] at hh⊢
  obtain ⟨r,h1,h2,h3,h4,h5,h6⟩:=hh
  exact ⟨r,qi h o' h1 (fun _ e=>by cases e),h2,h3,h4,h5,RL.shut h o' _ _ h6⟩
 |st e l=>
  simp only [hk] at hh⊢
  obtain ⟨es,clock,h1,h2,h3⟩:=hh
  exact ⟨es,clock,qi h o' h1 (fun _ e=>by cases e),h2,h3⟩
 |dead=>trivial
theorem putObj_size (w:World) (D:Nat) (o:Obj):(w.putObj D o).heap.size=w.heap.size:=by simp [World.putObj]
theorem pq.lt {w:World}{D:Nat}(h:pq w D):D<w.heap.size:=(Array.getElem?_eq_some_iff.1 h).1
theorem RW.shut (hW:RW G w0 Z0 Z β H w) {D:Nat}(h:pq w D) (h0:w0.heap.size≤D) (hm:D∉Z0.rC) (o':Obj):RW G w0 Z0 Z β H (w.putObj D o'):=
 ⟨hW.below.trans ⟨rfl,rfl,rfl,Nat.le_of_eq (putObj_size _ _ _).symm,fun i hi=>World.putObj_heap_other (by omega)⟩,fun b hz=>by rw [putObj_size];exact hW.lQ b hz,hW.sH,hW.kE,hW.vg,hW.low,hW.inj,
  fun k b hb=>⟨(hW.blk k b hb).1.shut h o',(hW.blk k b hb).2⟩,fun g n f hg=>⟨(hW.iI g n f hg).1,fun j hj=>lu h o' ((hW.iI g n f hg).2 j hj)⟩,
  fun p hp=>⟨R.shut h o' _ _ (hW.gh p hp).1,(hW.gh p hp).2⟩,fun D' hD'=>⟨(hW.rC D' hD').1,by
   unfold pq
   rw [World.putObj_heap_other (fun e=>hm (by rw [←e];exact hD'))]
   exact (hW.rC D' hD').2⟩⟩
theorem vX {fn:Func}{R:Ending→World→Prop}:∀(ds:List Deferred) (w:World) (a:Act),RW G w0 Z0 Z β H w→RF ds β Z w n F a→JR w0 Z0 ds→
  (∀w' a',a'.tmps=a.tmps→RW G w0 Z0 Z β H w'→RF [] β Z w' n F a'→∃v,(results fn a.tmps).run P w'=.ok v w'∧R (.returned v) w')→LeavesInM Fence.wide 0 P fn a.tmps R ds .returning w
 | [],w,a,hW,hF,_,hR=>hR w {a with defers:=[]} rfl hW ⟨hF.size,hF.get,rfl,fun _ h=>by cases h⟩
 |d::ds,w,a,hW,hF,hD,hR=>by
  obtain ⟨D,rfl,hz,hm⟩:=hF.defers.2 d (by simp)
  obtain ⟨n1,n2⟩:=hD.new D (by simp)
  have nd:=List.nodup_cons.1 hD.nodup
  refine ⟨by simp,.inl ⟨D,w.putObj D (.deferred none),rfl,run_takeDeferred hm,?_⟩⟩
  refine vX ds (w.putObj D (.deferred none)) {a with defers:=ds} (hW.shut hm n1 n2 _) ⟨hF.size,fun t x hx=>⟨Go.Sx.R.shut hm _ _ _ (hF.get t x hx).1,(hF.get t x hx).2⟩,rfl,fun d hd=>?_⟩ ⟨fun D' h'=>hD.new D' (by simp [h']),nd.2⟩ (fun w' a' e=>hR w' a' e)
  obtain ⟨D',e1,e2,e3⟩:=hF.defers.2 d (by simp [hd])
  refine ⟨D',e1,e2,?_⟩
  unfold pq
  rw [World.putObj_heap_other (fun e=>nd.1 (by rw [←e,←e1];exact hd))]
  exact e3
theorem RF.RL (hF:RF ds β Z w n F a):RL β Z w F a.tmps.toList∧dn n F:=by
 refine ⟨RL.cu (by simp [hF.size]) fun i x hx=>?_,dn.cu fun i x hx=>(hF.get i x hx).2⟩
 have hi:i<a.tmps.size:=by rw [hF.size];exact (List.getElem?_eq_some_iff.1 hx).1
 have:=(hF.get i x hx).1
 refine ⟨a.tmps[i],by simp [hi],?_⟩
 have e:a.tmps.getD i undef=a.tmps[i]:=by simp [Array.getD,hi]
 rw [e] at this
 exact this
theorem ah1 (us:List Nat) {ys:List Value}(h:RL β Z w F ys) (hk:dn n F):RL β Z w (zL us F) ys∧dn n (zL us F):=by
 have hl:=RL.length h
 have at_:∀(i:Nat) (x:LV),(zL us F)[i]? =some x→i<F.length∧(x=.junk∨F[i]? =some x):=fun i x hx=>by
  simp only [zL,List.getElem?_map] at hx
  by_cases hi:i<F.length
  ·simp only [List.getElem?_range hi,Option.map_some,Option.some.injEq] at hx
   refine ⟨hi,?_⟩
   split at hx
   ·right
    rw [List.getElem?_eq_getElem hi]
    simpa [List.getD,List.getElem?_eq_getElem hi] using hx
   ·exact .inl hx.symm
  ·rw [List.getElem?_eq_none (by simpa using hi)] at hx
   cases hx
 refine ⟨RL.cu (by simp [zL,hl]) fun i x hx=>?_,dn.cu fun i x hx=>?_⟩
 ·obtain ⟨hi,h1⟩:=at_ i x hx
  rcases h1 with rfl|h1
  ·exact ⟨ys[i]'(by omega),List.getElem?_eq_getElem _,by simp only [R]⟩
  ·exact RL.get i x h h1
 ·obtain ⟨hi,h1⟩:=at_ i x hx
  rcases h1 with rfl|h1
  ·trivial
  ·exact dn.get i x hk h1
theorem Tt {o:Option aU}{x:Ex}(h:Xc o=some x):∃c t ps asg body,(o=some ⟨c,t,.kG ps asg body .ready,false⟩∧x=.normal)∨(o=some ⟨c,t,.kG ps asg body (.done x),false⟩∧x≠ .normal):=by
 unfold Xc at h
 split at h
 ·rename_i c t ps asg body
  exact ⟨c,t,ps,asg,body,.inl ⟨rfl,(Option.some.inj h).symm⟩⟩
 ·rename_i c t ps asg body y
  split at h
  ·cases h
  ·rename_i hn
   have:=Option.some.inj h
   subst this
   exact ⟨c,t,ps,asg,body,.inr ⟨rfl,fun e=>hn e⟩⟩
 ·cases h
theorem RW.turn {k:Nat}{c:List LV}{t t':TypeId}{ps:Array Tmp}{asg body:Code}{st:LS}{nb:BK}{r':Loop}(hW:RW G w0 Z0 Z β H w) (hb:H[k]? =some ⟨c,t,.kG ps asg body st,false⟩)
  (hn:fC β Z (w.putObj (β k).b (.loop r')) k ⟨c,t',nb,false⟩) (hok:okB H.length ⟨c,t',nb,false⟩):RW G w0 Z0 Z β (H.set k ⟨c,t',nb,false⟩) (w.putObj (β k).b (.loop r'))∧(∀b,Z b→(w.putObj (β k).b (.loop r')).heap[b]? =w.heap[b]?):=
 ⟨hW.set hb trivial rfl rfl hok (putObj_size _ _ _) ⟨rfl,rfl,rfl⟩ (fun _ hj=>World.putObj_heap_other hj) hn,fun _ hz=>World.putObj_heap_other (fun e=>hW.kE k _ hb trivial rfl (e▸hz))⟩
theorem aal {r:Option Nat}{p q:Bool}(h:r=none∨(p&&q)=true):(r=none∨p=true)∧(r=none∨q=true):=by
 rcases h with h|h
 ·exact ⟨.inl h,.inl h⟩
 ·simp only [Bool.and_eq_true] at h
  exact ⟨.inr h.1,.inr h.2⟩
theorem lq {b:Frame}{k:List Item}{cs:List Frame}{c:Code}:step P (lone (b.atR a (.code (.scope c)::k)) cs w)=.next (lone (b.atR a (.code c::.inScope c::k)) cs w):=
 step_lone_go (by simp [stepG,stepG.exec,Frame.atR])
theorem J5 {b:Frame}{k:List Item}{cs:List Frame}{c:Code}:step P (lone (b.atR a (.inScope c::k)) cs w)=.next (lone (b.atR a k) cs w):=
 step_lone_go (by simp [stepG,stepG.exec,Frame.atR])
theorem Vy {E:Fence}{m:Nat}{Q:Exit→Act→World→Prop}{c:Code}(h:c.wpIn E m P (Exit.noGoto Q) a w):(Code.scope c).wpIn E m P Q a w:=by
 intro b k cs hro hb hr
 have h0:(lone (b.atR a (.code (.scope c)::k)) cs w).fenced P E:=fenced_calm hb hr rfl
 obtain ⟨e,a₁,w₁,hq,harr⟩:=h b (.inScope c::k) cs hro hb hr
 cases e with
 |normal=>exact ⟨.normal,a₁,w₁,hq,.head h0 lq (StepsIn.trans harr (.one (fenced_calm hb hr rfl) J5))⟩
 | exit id'=>
  have hx:exitTo id' (.inScope c::k)=exitTo id' k:=by simp [exitTo]
  exact ⟨.exit id',a₁,w₁,hq,fun k' hk=> .head h0 lq (harr.1 k' (by rw [hx];exact hk)),
   fun hr' hk=>let ⟨k₁,h1,h2⟩:=harr.2 hr' (by rw [hx];exact hk);⟨k₁,h1,.head h0 lq h2⟩⟩
 |goto l=>exact hq.elim
 |ret=>exact ⟨_,a₁,w₁,hq,.of_steps (.one h0 lq) harr⟩
 |panic ch=>exact ⟨_,a₁,w₁,hq,.of_steps (.one h0 lq) harr⟩
 |outgrown=>exact ⟨_,a₁,w₁,hq,.of_steps (.one h0 lq) harr⟩
theorem bF {L:LZ} (hΓ:∀g S,Γ g=some S→Valid P G g S) (hK:dL P G K):∀(c:Code),(∀b∈aB c,bn P G A (.loop b) (L b))→bn P G A c (iy P G Γ K L c)
 | .skip,_=>fun r w0 Z0 Z β F H a w ds Q x F' H' hA hr hD hW hF h hQ=>by
  simp only [iy,T.all,Prod.mk.injEq] at h
  obtain ⟨rfl,rfl,rfl⟩:=h
  exact wpIn_skip (hQ ds Z β a w hD hW hF)
 | .ret,_=>fun r w0 Z0 Z β F H a w ds Q x F' H' hA hr hD hW hF h hQ=>by
  simp only [iy,T.all,Prod.mk.injEq] at h
  obtain ⟨rfl,rfl,rfl⟩:=h
  exact wpIn_ret (hQ ds Z β a w hD hW hF)
 | .exit m,_=>fun r w0 Z0 Z β F H a w ds Q x F' H' hA hr hD hW hF h hQ=>by
  simp only [iy,T.all,Prod.mk.injEq] at h
  obtain ⟨rfl,rfl,rfl⟩:=h
  exact wpIn_exit (hQ ds Z β a w hD hW hF)
 | .region id ops d,_=>fun r w0 Z0 Z β F H a w ds Q x F' H' hA hr hD hW hF h hQ=>by
  simp only [iy] at h
  obtain ⟨⟨F1,H1⟩,h1,h2⟩:=T.aZ h
  simp only [T.all,Prod.mk.injEq] at h2
  obtain ⟨rfl,rfl,rfl⟩:=h2
  cases d with
  |true=>exact TY hΓ (fun Z' β' a' w' e1 e2=>hQ ds Z' β' a' w' hD e1 e2) hW hF h1 r 0
  |false=>exact adS hΓ hK (fun Z' β' a' w' e1 e2=>hQ ds Z' β' a' w' hD e1 e2) hW hF h1 r 0
 | .seq c1 c2,hl=>fun r w0 Z0 Z β F H a w ds Q x F' H' hA hr hD hW hF h hQ=>by
  simp only [iy] at h
  obtain ⟨⟨y,F1,H1⟩,h1,h2⟩:=T.aZ h
  obtain ⟨hr1,hr2⟩:=aal (show r=none∨(yK c1&&yK c2)=true from hr)
  refine wpIn_seq (bF hΓ hK c1 (fun b hb=>hl b (by simp [aB,hb])) r w0 Z0 Z β F H a w ds _ y F1 H1 hA hr1 hD hW hF h1 fun ds' Z' β' a' w' e0 e1 e2=>?_)
  cases y with
  |normal=>exact bF hΓ hK c2 (fun b hb=>hl b (by simp [aB,hb])) r w0 Z0 Z' β' F1 H1 a' w' ds' Q x F' H' hA hr2 e0 e1 e2 h2 hQ
  |exit m=>
   simp only [T.all,Prod.mk.injEq] at h2
   obtain ⟨rfl,rfl,rfl⟩:=h2
   exact hQ ds' Z' β' a' w' e0 e1 e2
  |ret=>
   simp only [T.all,Prod.mk.injEq] at h2
   obtain ⟨rfl,rfl,rfl⟩:=h2
   exact hQ ds' Z' β' a' w' e0 e1 e2
 | .cond c c1 c2,hl=>fun r w0 Z0 Z β F H a w ds Q x F' H' hA hr hD hW hF h hQ=>by
  have s1:=bF hΓ hK c1 (fun b hb=>hl b (by simp [aB,hb]))
  have s2:=bF hΓ hK c2 (fun b hb=>hl b (by simp [aB,hb]))
  obtain ⟨hr1,hr2⟩:=aal (show r=none∨(yK c1&&yK c2)=true from hr)
  simp only [iy] at h
  split at h
  ·rename_i d
   split at h
   ·rename_i hb
    obtain ⟨q1,q2⟩:=hF.slot hb (by simp)
    have hv:=(hF.get d _ q1).1
    simp only [R] at hv
    exact wpIn_cond_true (by simp only [Act.eval];exact hv) (s1 r w0 Z0 Z β F H a w ds Q x F' H' hA hr1 hD hW hF h hQ)
   ·rename_i hb
    obtain ⟨q1,q2⟩:=hF.slot hb (by simp)
    have hv:=(hF.get d _ q1).1
    simp only [R] at hv
    exact wpIn_cond_false (by simp only [Act.eval];exact hv) (s2 r w0 Z0 Z β F H a w ds Q x F' H' hA hr2 hD hW hF h hQ)
   ·rename_i g hb
    obtain ⟨q1,q2⟩:=hF.slot hb (by simp)
    have hv:=(hF.get d _ q1).1
    simp only [R] at hv
    have kn:∀b,g=b→RF ds β Z w H.length (F.set d (.bl b)) a:=fun b e=>hF.know (by simp only [R];rw [hv,e]) trivial
    simp only [T.all] at h
    refine wpIn_cond_split (t:=g) (by simp only [Act.eval];exact hv) (fun hg=>s1 r w0 Z0 Z β _ H a w ds Q x F' H' hA hr1 hD hW (kn true hg) (h.1 hg) hQ) (fun hg=>s2 r w0 Z0 Z β _ H a w ds Q x F' H' hA hr2 hD hW (kn false hg) (h.2 hg) hQ)
   ·cases h
  ·exact wpIn_cond_true rfl (s1 r w0 Z0 Z β F H a w ds Q x F' H' hA hr1 hD hW hF h hQ)
  ·exact wpIn_cond_false rfl (s2 r w0 Z0 Z β F H a w ds Q x F' H' hA hr2 hD hW hF h hQ)
  ·cases h
 | .block id c,hl=>fun r w0 Z0 Z β F H a w ds Q x F' H' hA hr hD hW hF h hQ=>by
  simp only [iy] at h
  obtain ⟨⟨y,F1,H1⟩,h1,h2⟩:=T.aZ h
  refine wpIn_block (bF hΓ hK c (fun b hb=>hl b (by simpa [aB] using hb)) r w0 Z0 Z β F H a w ds _ y F1 H1 hA hr hD hW hF h1 fun ds' Z' β' a' w' e0 e1 e2=>?_)
  cases y with
  |normal=>
   simp only [T.all,Prod.mk.injEq] at h2
   obtain ⟨rfl,rfl,rfl⟩:=h2
   exact hQ ds' Z' β' a' w' e0 e1 e2
  | exit m=>
   simp only at h2
   simp only [aw1,Exit.inBlock]
   split at h2
   ·rename_i hm
    simp only [T.all,Prod.mk.injEq] at h2
    obtain ⟨rfl,rfl,rfl⟩:=h2
    rw [if_pos hm];exact hQ ds' Z' β' a' w' e0 e1 e2
   ·rename_i hm
    simp only [T.all,Prod.mk.injEq] at h2
    obtain ⟨rfl,rfl,rfl⟩:=h2
    rw [if_neg hm];exact hQ ds' Z' β' a' w' e0 e1 e2
  |ret=>
   simp only [T.all,Prod.mk.injEq] at h2
   obtain ⟨rfl,rfl,rfl⟩:=h2
   exact hQ ds' Z' β' a' w' e0 e1 e2
 | .loop b,hl=>hl b (by simp [aB])
 | .rangeFunc g ps asg body,_=>fun r w0 Z0 Z β F H a w ds Q x F' H' hA hr hD hW hF h hQ=>by
  have hr0:r=none:=by
   rcases hr with h|h
   ·exact h
   ·simp [yK] at h
  subst hr0
  simp only [iy] at h
  split at h
  ·rename_i gf cap hg
   split at h
   ·rename_i fn hfn
    split at h
    ·rename_i hb
     simp only [Bool.and_eq_true,Bool.not_eq_true'] at hb
     obtain ⟨⟨lv,H1⟩,h1,h2⟩:=T.aZ h
     simp only at h2
     have hgr:=hF.eval hW.iI g
     rw [hg] at hgr
     simp only [R,okV] at hgr
     obtain ⟨⟨ys,hy,hyr⟩,hcap⟩:=hgr
     split at h2
     ·rename_i x' hx'
      simp only [T.all,Prod.mk.injEq] at h2
      obtain ⟨rfl,rfl,rfl⟩:=h2
      refine wpIn_rangeFunc ?_
      intro fn0 _
      have hb1:Below w.heap.size w (w.alloc (.deferred (some []))):=(Below.refl _ _).alloc (Nat.le_refl _) _
      have hWd:=hW.call hb1
      generalize hrec:({state:=.ready,pending:=none,fn:=fn0,tmps:=a.tmps,params:=ps,assign:=asg,body:=body,defers:=w.heap.size}:Loop)=rec0 at*
      generalize hwd:w.alloc (.deferred (some []))=wd at*
      have hsd:wd.heap.size=w.heap.size+1:=by rw [←hwd];simp [World.size_alloc]
      have hmd:pq wd w.heap.size:=by rw [←hwd];exact World.alloc_heap_new w _
      have hb2:Below wd.heap.size wd (wd.alloc (.loop rec0)):=(Below.refl _ _).alloc (Nat.le_refl _) _
      have hW1:=hWd.same hb2
      generalize hw1:wd.alloc (.loop rec0)=w1 at*
      have hl1:w1.heap[wd.heap.size]? =some (.loop rec0):=by rw [←hw1];exact World.alloc_heap_new wd _
      have hF1:RF ds β (fun b=>Z b∨(w.heap.size≤b∧b<wd.heap.size)) w1 H.length F a:=hF.mono (Nat.le_refl _) (fun _ _=>rfl) (fun _ h=> .inl h) (fun b hz=>by
       have hlt:=hW.lQ b hz
       rw [bH hb2 (by omega),bH hb1 hlt])
      have hm1:pq w1 w.heap.size:=by unfold pq;rw [bH hb2 (by omega)];exact hmd
      have hF2:RF (jr w.heap.size::ds) β (fun b=>Z b∨(w.heap.size≤b∧b<wd.heap.size)) w1 H.length F {a with defers:=jr w.heap.size::a.defers}:=by
       refine ⟨hF1.size,hF1.get,by rw [hF1.defers.1],fun d hd=>?_⟩
       rcases List.mem_cons.1 hd with rfl|hd
       ·exact ⟨_,rfl,.inr ⟨Nat.le_refl _,by omega⟩,hm1⟩
       ·exact hF1.defers.2 d hd
      have hD2:JR w0 Z0 (jr w.heap.size::ds):=by
       refine ⟨fun D hd=>?_,List.nodup_cons.2 ⟨fun hd=>?_,hD.nodup⟩⟩
       ·rcases List.mem_cons.1 hd with hd|hd
        ·simp only [jr,Deferred.mk.injEq,Target.collected.injEq] at hd
         rw [hd.1]
         exact ⟨hW.below.size,fun hm=>by have:=(hW.rC _ hm).2.lt;omega⟩
        ·exact hD.new D hd
       ·obtain ⟨D,e1,_,e3⟩:=hF.defers.2 _ hd
        simp only [jr,Deferred.mk.injEq,Target.collected.injEq] at e1
        have:=e3.lt
        omega
      obtain ⟨fr1,fr2⟩:=hF1.RL
      obtain ⟨fr1,fr2⟩:=ah1 (lW asg++lW body) fr1 fr2
      obtain ⟨β2,b1,b2,hW2⟩:=hW1.wF (ℓ:=⟨wd.heap.size,0,none⟩) (nb:=⟨zL (lW asg++lW body) F,0,.kG ps asg body .ready,false⟩) rfl ⟨dn.mono (by omega) _ fr2,trivial⟩ (fun _=>⟨fun hz=>by
        rcases hz with hz|hz
        ·have:=hW.lQ _ hz;simp only at this;omega
        ·simp only at hz;omega,by have:=hW.below.size;simp only;omega,fun j bj hj lj e=>by have:=hW.lt hj lj;simp only at e;omega⟩) (fun β' q1 q2=>by
       simp only [fC,q2]
       refine ⟨rec0,hl1,by rw [←hrec],by rw [←hrec],by rw [←hrec],by rw [←hrec];exact ⟨rfl,rfl⟩,?_⟩
       rw [←hrec]
       exact RL.mono q1 (fun _ h=>h) (fun _ _=>rfl) _ _ fr2 fr1)
      have hF3:RF (jr w.heap.size::ds) β2 (fun b=>Z b∨(w.heap.size≤b∧b<wd.heap.size)) w1 (H++[(⟨zL (lW asg++lW body) F,0,.kG ps asg body .ready,false⟩:aU)]).length F {a with defers:=jr w.heap.size::a.defers}:=hF2.mono (by simp) b1 (fun _ h=>h) (fun _ _=>rfl)
      have hW3:=hW2.hold hF3
      have hyl:R β2 (fun b=>Z b∨(w.heap.size≤b∧b<wd.heap.size)) w1 (.uN H.length) (.func (.yield wd.heap.size) #[] #[]):=by simp only [R,b2]
      have hW4:RW G w0 ⟨Z0.z,(LV.uN H.length,Value.func (.yield wd.heap.size) #[] #[])::(F.zip a.tmps.toList++Z0.gh),dsB (jr w.heap.size::ds)++Z0.rC⟩ (fun b=>Z b∨(w.heap.size≤b∧b<wd.heap.size)) β2 (H++[⟨zL (lW asg++lW body) F,0,.kG ps asg body .ready,false⟩]) w1:=
       ⟨hW3.below,hW3.lQ,hW3.sH,hW3.kE,hW3.vg,hW3.low,hW3.inj,hW3.blk,hW3.iI,fun p hp=>by
        rcases List.mem_cons.1 hp with rfl|hp
        ·exact ⟨hyl,by simp [okV]⟩
        ·exact hW3.gh p hp,hW3.rC⟩
      have hyr2:RL β2 (fun b=>Z b∨(w.heap.size≤b∧b<wd.heap.size)) w1 cap ys.toList:=RL.mono (n:=H.length) b1 (fun _ h=> .inl h) (fun b hz=>by
       have hlt:=hW.lQ b hz
       rw [bH hb2 (by omega),bH hb1 hlt]) _ _ hcap hyr
      have hbn:¬fn.body=none:=by intro hbb;simp [hbb] at hb
      have hb3:¬fn.name= "runtime.NumGoroutine":=by simpa using hb.2
      have eg:∀args w,(callFunc gf args).run P w=.ok (.enter gf args) w:=fun args w=>by simp [callFunc,hfn,hb3,hbn]
      refine ⟨wd.heap.size,[jr w.heap.size],w1,{target:=.fn (.func gf) ys,args:=#[.func (.yield wd.heap.size) #[] #[]]},w1,gf,#[.func (.yield wd.heap.size) #[] #[]]++ys,w1,?_,?_,fun _ _=>trivial,?_,fun h=>(by cases h),callsIn_wide.2 ?_⟩
      ·have:=run_enterLoop_outer (P:=P) (w:=w) fn0 a.tmps ps asg body
       rw [hrec,hwd,hw1,←hsd] at this
       exact this
      ·simp only [resolve,hy]
       simp [go_sem]
      ·simp [invoke,go_sem,eg]
      ·refine (hK.k w0 _ _ β2 _ w1 gf (.uN H.length::cap) _ lv H1 hW4 (by simp only [Array.toList_append,RL];exact ⟨_,ys.toList,rfl,hyl,hyr2⟩) ⟨by simp [okV],dn.mono (by simp) _ hcap⟩ h1).mono fun e w2 ⟨v,he,Z',β',r1,r2,r3⟩=>?_
       subst he
       have hat:(β' H.length).b=wd.heap.size:=by
        have:=(r1.gh (LV.uN H.length,Value.func (.yield wd.heap.size) #[] #[]) (by simp)).1
        simp only [R,Value.func.injEq,Fn.yield.injEq] at this
        exact this.1.symm
       have r1':RW G w0 ⟨Z0.z,F.zip a.tmps.toList++Z0.gh,dsB (jr w.heap.size::ds)++Z0.rC⟩ Z' β' H1 w2:=⟨r1.below,r1.lQ,r1.sH,r1.kE,r1.vg,r1.low,r1.inj,r1.blk,r1.iI,fun p hp=>r1.gh p (List.mem_cons_of_mem _ hp),r1.rC⟩
       have hF5:=RW.held hF3 r1'
       have hW5:RW G w0 Z0 Z' β' H1 w2:=r1'.less
       obtain ⟨c',t',ps',asg',body',hx⟩:=Tt hx'
       have fin:∀st,H1[H.length]? =some ⟨c',t',.kG ps' asg' body' st,false⟩→∃rr,w2.heap[wd.heap.size]? =some (.loop rr)∧LsR st rr∧∀rr',RW G w0 Z0 Z' β' (H1.set H.length ⟨[],0,.dead,false⟩) (w2.putObj wd.heap.size (.loop rr'))∧RF (jr w.heap.size::ds) β' Z' (w2.putObj wd.heap.size (.loop rr')) (H1.set H.length ⟨[],0,.dead,false⟩).length F {a with defers:=jr w.heap.size::a.defers}:=fun st hst=>by
        have hbk:=(hW5.blk _ _ hst).1
        simp only [fC,hat] at hbk
        obtain ⟨rr,q1,q2,q3,q4,q5,q6⟩:=hbk
        refine ⟨rr,q1,q5,fun rr'=>?_⟩
        have hs:=hW5.set (nb:=⟨[],0,.dead,false⟩) (w':=w2.putObj wd.heap.size (.loop rr')) hst trivial rfl rfl ⟨trivial,trivial⟩ (putObj_size _ _ _) ⟨rfl,rfl,rfl⟩ (fun j hj=>World.putObj_heap_other (by rw [hat] at hj;exact hj)) trivial
        refine ⟨hs,?_⟩
        rw [List.length_set]
        exact hF5.mono (Nat.le_refl _) (fun _ _=>rfl) (fun _ h=>h) (fun b hz=>World.putObj_heap_other (fun e=>hW5.kE _ _ hst trivial rfl (by rw [hat,←e];exact hz)))
       rcases hx with ⟨hx,rfl⟩ |⟨hx,hne⟩
       ·obtain ⟨rr,q1,q2,q3⟩:=fin _ hx
        refine ⟨none,w2.putObj wd.heap.size (.loop {rr with state:=.exhausted}),(run_endLoop q1 (by rw [q2.1];simp)).trans (by rw [q2.2]),?_⟩
        obtain ⟨f1,f2⟩:=q3 {rr with state:=.exhausted}
        exact hQ _ Z' β' _ _ hD2 f1 f2
       ·obtain ⟨rr,q1,q2,q3⟩:=fin _ hx
        refine ⟨aje x',w2.putObj wd.heap.size (.loop {rr with state:=.exhausted}),(run_endLoop q1 (by rw [q2.1];simp)).trans (by rw [q2.2]),?_⟩
        obtain ⟨f1,f2⟩:=q3 {rr with state:=.exhausted}
        cases x' with
        |normal=>exact absurd rfl hne
        |exit m=>exact wpIn_exit (hQ _ Z' β' _ _ hD2 f1 f2)
        |ret=>exact wpIn_ret (hQ _ Z' β' _ _ hD2 f1 f2)
     ·cases h2
    ·cases h
   ·cases h
  ·cases h
 | .scope c,hl=>fun r w0 Z0 Z β F H a w ds Q x F' H' hA hr hD hW hF h hQ=>by
  simp only [iy] at h
  refine Vy (bF hΓ hK c (fun b hb=>hl b (by simpa [aB] using hb)) r w0 Z0 Z β F H a w ds _ x F' H' hA hr hD hW hF h fun ds' Z' β' a' w' e0 e1 e2=>?_)
  cases x with
  |normal=>exact hQ ds' Z' β' a' w' e0 e1 e2
  |exit m=>exact hQ ds' Z' β' a' w' e0 e1 e2
  |ret=>exact hQ ds' Z' β' a' w' e0 e1 e2
 | .label l,_=>fun r w0 Z0 Z β F H a w ds Q x F' H' hA hr hD hW hF h hQ=>by
  simp only [iy,T.all,Prod.mk.injEq] at h
  obtain ⟨rfl,rfl,rfl⟩:=h
  exact wpIn_label (hQ ds Z β a w hD hW hF)
 | .goto ..,_=>fun r w0 Z0 Z β F H a w ds Q x F' H' hA hr hD hW hF h hQ=>by simp only [iy,T.all] at h
 | .refuse ..,_=>fun r w0 Z0 Z β F H a w ds Q x F' H' hA hr hD hW hF h hQ=>by simp only [iy,T.all] at h
theorem aP {L:Cj}(hΓ:∀g S,Γ g=some S→Valid P G g S) (hK:dL P G K) (c:Code) (hl:∀b∈aB c,Sound P G (.loop b) (L (o8 b))):Sound P G c (iy P G Γ K (aer L) c):=bF (L:=aer L) hΓ hK c hl
def azU (a:Act):ResultVar→Sem Value
 | .tmp t=>pure (a.tmps.getD t undef)
 | .cell ad t=>do loadVar t (←asAddr (a.tmps.getD ad undef))
theorem Oe (fn:Func) (a:Act):results fn a.tmps=(do let vs ←fn.results.mapM (azU a);pure (if h:vs.size=1 then vs[0] else .tuple vs)):=by
 unfold results
 congr 1
theorem KX {f:ResultVar→Sem Value}{r:ResultVar}{rs:List ResultVar}{z:Value}{vs:List Value}(h1:(f r).run P w=.ok z w) (h2:(rs.mapM f).run P w=.ok vs w):((r::rs).mapM f).run P w=.ok (z::vs) w:=by
 rw [List.mapM_cons]
 simp only [Sem.run_bind,h1,h2,Result.andThen_ok,Sem.run_pure]
theorem qm {fn:Func}:∀(rs:List ResultVar) (l:List LV),RW G w0 Z0 Z β H w→RF ds β Z w H.length F a→(J7 P fn F H rs).all (fun q=>q=l)→
  ∃vs:List Value,(rs.mapM (azU a)).run P w=.ok vs w∧RL β Z w l vs∧dn H.length l
 | [],l,hW,hF,h=>by
  simp only [J7,T.all] at h
  subst h
  exact ⟨[],by simp,by simp [RL],trivial⟩
 | .tmp t::rs,l,hW,hF,h=>by
  simp only [J7] at h
  obtain ⟨l1,h1,h2⟩:=T.aZ h
  simp only [T.all] at h2
  obtain ⟨vs,e1,e2,e3⟩:=qm rs l1 hW hF h1
  have ev:=hF.eval hW.iI (.tmp t)
  simp only [aN,Act.eval] at ev
  refine ⟨a.tmps.getD t undef::vs,?_,?_,?_⟩
  ·exact KX rfl e1
  ·rw [←h2];simp only [RL];exact ⟨_,_,rfl,rW ev.1,e2⟩
  ·rw [←h2];exact ⟨ru ev.2,e3⟩
 | .cell ad t::rs,l,hW,hF,h=>by
  simp only [J7] at h
  obtain ⟨y,h1,h2⟩:=T.aZ h
  obtain ⟨l1,h3,h4⟩:=T.aZ h2
  simp only [T.all] at h4
  obtain ⟨vs,e1,e2,e3⟩:=qm rs l1 hW hF h3
  have ev:=hF.eval hW.iI (.tmp ad)
  simp only [aN,Act.eval] at ev
  obtain ⟨z,f1,f2,f3⟩:=rF hW h1 ev.1 ev.2
  have f1:=f1 w (fun _ _=>rfl)
  have f4:(do loadVar t (←asAddr (a.tmps.getD ad undef)):Sem Value).run P w=.ok z w:=by
   have hp:∃q,a.tmps.getD ad undef=.pointer (some q):=by
    have hr:=ev.1
    generalize hx:F.getD ad .junk=x at h1 hr
    cases x with
    |own k off=>simp only [R] at hr;exact ⟨_,hr⟩
    |xq n f=>simp only [R] at hr;obtain ⟨b,off,e,_⟩:=hr;exact ⟨_,e⟩
    |op k es i j=>simp only [R] at hr;exact ⟨_,hr.2⟩
    |_=>unfold uQ at h1;split at h1<;>simp only [T.all] at h1
   obtain ⟨q,hq⟩:=hp
   rw [hq] at f1⊢
   simpa [Instr.loadAt,Instr.sureAddr,asAddr] using f1
  refine ⟨z::vs,?_,?_,?_⟩
  ·exact KX f4 e1
  ·rw [←h4];simp only [RL];exact ⟨_,_,rfl,f2,e2⟩
  ·rw [←h4];exact ⟨f3,e3⟩
theorem agH {l:List LV}{vs:List Value}(h:RL β Z w l vs):R β Z w (one l) (if hs:vs.toArray.size=1 then vs.toArray[0] else .tuple vs.toArray):=by
 unfold one
 have hl:=RL.length h
 split
 ·rename_i x
  simp only [RL] at h
  obtain ⟨y,zs,e1,e2,e3⟩:=h
  subst e1 e3
  simpa using e2
 ·rename_i hne
  have:¬vs.toArray.size=1:=by
   intro h1
   simp at h1
   rw [h1] at hl
   cases l with
   |nil=>simp at hl
   |cons x xs=>cases xs with
    |nil=>exact hne x rfl
    |cons _ _=>simp at hl
  rw [dif_neg this]
  exact PO (by simpa using h)
theorem Oj {l:List LV}(h:dn n l):okV n (one l):=by
 unfold one
 split
 ·exact h.1
 ·exact Ie h
theorem IW {args:List LV}{vals:Array Value}(hr:RL β Z w args vals.toList) (hok:dn H.length args) (m:Nat):RF [] β Z w H.length (args++List.replicate (m-args.length) (.v undef)) {tmps:=vals++Array.replicate (m-vals.size) undef,defers:=[]}:=by
 have hlen:vals.size=args.length:=by have:=RL.length hr;simpa using this
 refine ⟨by simp [hlen],fun t x hx=>?_,rfl,fun _ h=>by cases h⟩
 by_cases ht:t<args.length
 ·rw [List.getElem?_append_left ht] at hx
  obtain ⟨y,e1,e2⟩:=RL.get _ _ hr hx
  have e3:(vals++Array.replicate (m-vals.size) undef).getD t undef=y:=by
   have hts:t<vals.size:=by omega
   have:vals[t]? =some y:=by simpa using e1
   rw [Array.getD_eq_getD_getElem?,Array.getElem?_append_left hts,this];rfl
  exact ⟨by rw [e3];exact e2,dn.get _ _ hok hx⟩
 ·rw [List.getElem?_append_right (by omega)] at hx
  have hx':x=.v undef:=by
   rw [List.getElem?_replicate] at hx
   split at hx
   ·simpa using hx.symm
   ·cases hx
  have e3:(vals++Array.replicate (m-vals.size) undef).getD t undef=undef:=by
   rw [Array.getD_eq_getD_getElem?,Array.getElem?_append_right (by omega),Array.getElem?_replicate]
   split<;>rfl
  rw [hx',e3]
  exact ⟨by simp only [R],trivial⟩
theorem yg {b:Code}:bn P G A (.loop b) (FY b):=fun _ _ _ _ _ _ _ _ _ _ _ _ _ _ _ _ _ _ _ h=>by cases h
theorem NQ {b:Code}{t:List LV→List aU→T (Ex×List LV×List aU)}(hb:bn P G A b t) (m:Nat):bn P G A (.loop b) (NR t m):=by
 intro r w0 Z0 Z β F H a w ds Q x F' H' hA hr hD hW hF h hQ
 refine wpIn_loop_rounds m ?_
 induction m generalizing Z β F H a w ds with
 |zero=>cases h
 | succ m ih=>
  rw [roundsIn_succ]
  simp only [NR] at h
  obtain ⟨⟨y,F1,H1⟩,h1,h2⟩:=T.aZ h
  refine hb r w0 Z0 Z β F H a w ds _ y F1 H1 hA hr hD hW hF h1 fun ds' Z' β' a' w' e0 e1 e2=>?_
  cases y with
  |normal=>exact ih Z' β' F1 H1 a' w' ds' e0 e1 e2 h2
  |exit k=>
   simp only [T.all,Prod.mk.injEq] at h2
   obtain ⟨rfl,rfl,rfl⟩:=h2
   exact hQ ds' Z' β' a' w' e0 e1 e2
  |ret=>
   simp only [T.all,Prod.mk.injEq] at h2
   obtain ⟨rfl,rfl,rfl⟩:=h2
   exact hQ ds' Z' β' a' w' e0 e1 e2
theorem dR (hΓ:∀g S,Γ g=some S→Valid P G g S) (hK:dL P G K) (m:Nat):∀(d:Nat) (b:Code),bn P G A (.loop b) (tN P G Γ K m d b)
 |0,_=>yg
 |d+1,b=>NQ (bF hΓ hK b (fun b' _=>dR hΓ hK m d b')) m
theorem Sv:∀(ts:List Tmp) (xs:List LV) (vs:List Value) (F:List LV) (a:Act),RF ds β Z w n F a→RL β Z w xs vs→dn n xs→RF ds β Z w n (KG F ts xs) {a with tmps:=(ts.zip vs).foldl (fun t (p,v)=>t.setIfInBounds p v) a.tmps}
 | [],_,_,F,a,hF,_,_=>by simpa [KG] using hF
 |_::_,[],vs,F,a,hF,hr,_=>by
  simp only [RL] at hr
  subst hr
  simpa [KG] using hF
 |t::ts,x::xs,vs,F,a,hF,hr,hk=>by
  simp only [RL] at hr
  obtain ⟨y,zs,rfl,h1,h2⟩:=hr
  simp only [KG,List.zip_cons_cons,List.foldl_cons]
  exact Sv ts xs zs (F.set t x) {a with tmps:=a.tmps.setIfInBounds t y} (hF.put h1 hk.1 (some t)) h2 hk.2
theorem aeN (ps:Array Tmp) (vs:Array Value) (t:Array Value):(ps.zip vs).foldl (fun t (p,v)=>t.setIfInBounds p v) t=(ps.toList.zip vs.toList).foldl (fun t (p,v)=>t.setIfInBounds p v) t:=by
 rw [←Array.foldl_toList,Array.toList_zip]
def aqg (P:Program) (G:bW) (LL:Jw):Prop:=∀(K:Hand) (g:FuncId) (fn:Func) (c:Code) (N:Nat) (b:Code),dL P G K→P.funcs[g]? =some fn→fn.body=some c→b∈aB c→bn P G (AN N) (.loop b) (LL K g N b)
theorem RW.ghost {p:LV×Value}(hW:RW G w0 Z0 Z β H w) (h:R β Z w p.1 p.2∧okV H.length p.1):RW G w0 ⟨Z0.z,p::Z0.gh,Z0.rC⟩ Z β H w:=
 ⟨hW.below,hW.lQ,hW.sH,hW.kE,hW.vg,hW.low,hW.inj,hW.blk,hW.iI,fun q hq=>by
  rcases List.mem_cons.1 hq with rfl|hq
  ·exact h
  ·exact hW.gh q hq,hW.rC⟩
theorem RW.alB {p:LV×Value}(hW:RW G w0 ⟨Z0.z,p::Z0.gh,Z0.rC⟩ Z β H w):RW G w0 Z0 Z β H w:=
 ⟨hW.below,hW.lQ,hW.sH,hW.kE,hW.vg,hW.low,hW.inj,hW.blk,hW.iI,fun q hq=>hW.gh q (List.mem_cons_of_mem _ hq),hW.rC⟩
theorem bQ {LL:Jw} (hΓ:∀g S,Γ g=some S→Valid P G g S) (hLL:aqg P G LL):∀(d:Nat),dL P G (inl P G Γ LL d)
 |0=>aF
 | d + 1 =>by
  have hK:=bQ hΓ hLL d
  refine ⟨fun w0 Z0 Z β H w g args vals lv H' hW hr hok h=>?_,fun w0 Z0 Z β H w k args vals lv H' hW hr hok h=>?_⟩
  ·simp only [inl] at h
   split at h
   ·rename_i fn hfn
    split at h
    ·rename_i c hc
     obtain ⟨⟨x,F1,H1⟩,h1,h2⟩:=T.aZ h
     refine callsIn_wide.1 (callsIn_of_wp_marks (n:=0) hfn hc trivial ?_)
     refine bF (A:=AN H.length) (L:=LL (inl P G Γ LL d) g H.length) hΓ hK c (fun b hb=>hLL _ g fn c H.length b hK hfn hc hb) none w0 Z0 Z β _ H _ w [] _ x F1 H1 (fun p hp=>(hW.gh p hp).2) (.inl rfl) JR.nil hW (IW hr hok fn.ntmps) h1 fun ds' Z' β' a' w' e0 e1 e2=>?_
     have fin:((J7 P fn F1 H1 fn.results.toList).bind fun l=>(T.ok (one l,H1):T (LV×List aU))).all (fun q=>q=(lv,H'))→LeavesInM Fence.wide 0 P fn a'.tmps (fun e w'=>∃v,e=.returned v∧∃Z' β',RW G w0 Z0 Z' β' H' w'∧R β' Z' w' lv v∧okV H'.length lv) a'.defers .returning w':=fun h2=>by
      rw [e2.defers.1]
      refine vX ds' w' a' e1 e2 e0 fun w'' a'' et f1 f2=>?_
      obtain ⟨l,g1,g2⟩:=T.aZ h2
      simp only [T.all,Prod.mk.injEq] at g2
      obtain ⟨g2,g3⟩:=g2
      subst g3
      obtain ⟨vs,g3,g4,g5⟩:=qm fn.results.toList l f1 f2 g1
      refine ⟨if hs:vs.toArray.size=1 then vs.toArray[0] else .tuple vs.toArray,?_,_,rfl,Z',β',f1,?_,?_⟩
      ·rw [←et,Oe,Array.mapM_eq_mapM_toList]
       simp only [Sem.run_bind,Sem.run_map,g3,Result.andThen_ok,Sem.run_pure]
      ·rw [←g2];exact agH g4
      ·rw [←g2];exact Oj g5
     cases x with
     |normal=>exact fin h2
     |ret=>exact fin h2
     |exit m=>cases h2
    ·cases h
   ·cases h
  ·simp only [inl] at h
   split at h
   ·rename_i Fr t ps asg body hb
    split at h
    ·rename_i hc
     obtain ⟨hc1,hc2,hc3⟩:=hc
     obtain ⟨⟨y,F1,H1⟩,h1,h2⟩:=T.aZ h
     have hbk:=(hW.blk k _ hb).1
     simp only [fC] at hbk
     obtain ⟨rr,q1,q2,q3,q4,q5,q6⟩:=hbk
     have hokF:dn H.length Fr:=(hW.blk k _ hb).2.1
     have hvl:vals.size=args.length:=by have:=RL.length hr;simpa using this
     have hkH:k<H.length:=(List.getElem?_eq_some_iff.1 hb).1
     refine ⟨rr,q1,by rw [q2,hvl,hc1],?_⟩
     have hF0:RF [] β Z w H.length Fr {tmps:=rr.tmps,defers:=[]}:=by
      refine ⟨by have:=RL.length q6;simpa using this,fun i x hx=>?_,rfl,fun _ h=>by cases h⟩
      obtain ⟨v,e1,e2⟩:=RL.get i x q6 hx
      refine ⟨?_,dn.get i x hokF hx⟩
      have:rr.tmps.getD i undef=v:=by
       rw [Array.getD_eq_getD_getElem?]
       have:rr.tmps[i]? =some v:=by simpa using e1
       rw [this];rfl
      rw [this];exact e2
     have hF1:=Sv ps.toList args vals.toList Fr _ hF0 hr hok
     generalize hl:(β k).b=l at*
     have hyl:R β Z w (.uN k) (.func (.yield l) #[] #[]):=by simp only [R,hl]
     have hW1:=hW.ghost (p:=(LV.uN k,Value.func (.yield l) #[] #[])) ⟨hyl,hkH⟩
     have atl:∀ {Z':Nat→Prop} {β':Nat→Loc} {H':List aU} {w':World},RW G w0 ⟨Z0.z,(LV.uN k,Value.func (.yield l) #[] #[])::Z0.gh,Z0.rC⟩ Z' β' H' w'→(β' k).b=l:=fun r1=>by
      have:=(r1.gh (LV.uN k,Value.func (.yield l) #[] #[]) (by simp)).1
      simp only [R,Value.func.injEq,Fn.yield.injEq] at this
      exact this.1.symm
     refine roundIn_of_wpIn trivial ?_
     rw [q3,q4,q2,aeN]
     refine bF (A:=fun _=>True) (L:=FY) hΓ hK asg (fun b _=>yg) (some l) w0 _ Z β _ H _ w [] _ y F1 H1 trivial (.inr hc2) JR.nil hW1 hF1 h1 fun ds1 Z1 β1 a1 w1 e0 e1 e2=>?_
     simp only at h2
     cases y with
     |exit m=>cases h2
     |ret=>cases h2
     | normal=>
      simp only at h2
      split at h2
      ·rename_i Fr1 t1 ps1 asg1 body1 hb1
       obtain ⟨⟨x,F2,H2⟩,h3,h4⟩:=T.aZ h2
       have hbk1:=(e1.blk k _ hb1).1
       simp only [fC] at hbk1
       obtain ⟨r1,p1,p2,p3,p4,p5,p6⟩:=hbk1
       have a1l:=atl e1
       rw [a1l] at p1
       refine ⟨_,run_beginRound p1 p5.1,?_⟩
       obtain ⟨t1a,t1b⟩:=RW.turn (t':=t) (nb:=.kG ps1 asg1 body1 .busy) (r':={r1 with state:=.busy}) e1 hb1 (by
        simp only [fC]
        rw [a1l]
        exact ⟨{r1 with state:=.busy},World.putObj_heap_same (Array.getElem?_eq_some_iff.1 p1).1,p2,p3,p4,rfl,RL.mono (n:=H1.length) (fun _ _=>rfl) (fun _ h=>h) (fun b hz=>World.putObj_heap_other (fun e=>e1.kE k _ hb1 trivial rfl (by rw [a1l,←e];exact hz))) _ _ (e1.blk k _ hb1).2.1 p6⟩) ⟨(e1.blk k _ hb1).2.1,trivial⟩
       rw [a1l] at t1a t1b
       have hF2:RF ds1 β1 Z1 (w1.putObj l (.loop {r1 with state:=.busy})) (H1.set k ⟨Fr1,t,.kG ps1 asg1 body1 .busy,false⟩).length F1 a1:=by
        rw [List.length_set]
        exact e2.mono (Nat.le_refl _) (fun _ _=>rfl) (fun _ h=>h) t1b
       refine bF (A:=fun _=>True) (L:=tN P G Γ (inl P G Γ LL d) 20 2) hΓ hK body (fun b _=>dR hΓ hK 20 2 b) (some l) w0 _ Z1 β1 _ _ a1 _ ds1 _ x F2 H2 trivial (.inr hc3) e0 t1a hF2 h3 fun ds2 Z2 β2 a2 w2 f0 f1 f2=>?_
       split at h4
       ·rename_i Fr2 t2 ps2 asg2 body2 hb2
        have hbk2:=(f1.blk k _ hb2).1
        simp only [fC] at hbk2
        obtain ⟨r2,s1,s2,s3,s4,s5,s6⟩:=hbk2
        have a2l:=atl f1
        rw [a2l] at s1
        have fin:∀(st:LS) (jump:Option Code) (b:Bool),LsR st {r2 with state:=if jump.isNone then .ready else .done,pending:=jump}→jump.isNone=b→(T.ok (LV.bl b,H2.set k ⟨Fr2,t,.kG ps2 asg2 body2 st,false⟩):T (LV×List aU)).all (fun q=>q=(lv,H'))→
          ∃v w',(Instr.endRound l jump).run P w2=.ok v w'∧(∃v',Ending.returned v=.returned v'∧∃Z' β',RW G w0 Z0 Z' β' H' w'∧R β' Z' w' lv v'∧okV H'.length lv):=fun st jump b hst hj h4=>by
         simp only [T.all,Prod.mk.injEq] at h4
         obtain ⟨rfl,rfl⟩:=h4
         refine ⟨_,_,run_endRound jump s1,_,rfl,Z2,β2,?_,?_,trivial⟩
         ·obtain ⟨t2a,t2b⟩:=RW.turn (t':=t) (nb:=.kG ps2 asg2 body2 st) (r':={r2 with state:=if jump.isNone then .ready else .done,pending:=jump}) f1 hb2 (by
           simp only [fC]
           rw [a2l]
           exact ⟨_,World.putObj_heap_same (Array.getElem?_eq_some_iff.1 s1).1,s2,s3,s4,hst,RL.mono (n:=H2.length) (fun _ _=>rfl) (fun _ h=>h) (fun b hz=>World.putObj_heap_other (fun e=>f1.kE k _ hb2 trivial rfl (by rw [a2l,←e];exact hz))) _ _ (f1.blk k _ hb2).2.1 s6⟩) ⟨(f1.blk k _ hb2).2.1,trivial⟩
          rw [a2l] at t2a
          exact t2a.alB
         ·simp only [R,hj]
        cases x with
        |normal=>exact fin .ready none true ⟨rfl,rfl⟩ rfl h4
        |exit m=>exact fin (.done (.exit m)) (some (.exit m)) false ⟨rfl,rfl⟩ rfl h4
        |ret=>exact fin (.done .ret) (some .ret) false ⟨rfl,rfl⟩ rfl h4
       ·cases h4
      ·cases h2
    ·cases h
   ·cases h
def lX (P:Program) (G:bW) (Γ:Specs) (m d:Nat):Jw:=fun K _ _=>tN P G Γ K m d
theorem dQ {m d:Nat}(hΓ:∀g S,Γ g=some S→Valid P G g S):aqg P G (lX P G Γ m d):=fun _ _ _ _ _ b hK _ _ _=>dR hΓ hK m d b
def kD (g:FuncId) (N id:Nat) (t:List LV→List aU→T (Ex×List LV×List aU)) (LL:Jw):Jw:=fun K g' N' b=>if g'=g∧N'=N∧o8 b=id then t else LL K g' N' b
theorem dK {g:FuncId}{N id:Nat}{t:List LV→List aU→T (Ex×List LV×List aU)}{LL:Jw}{fn:Func}{c bd:Code}(hfn:P.funcs[g]? =some fn) (hc:fn.body=some c) (hid:(aB c).filter (fun b=>o8 b==id)=[bd]) (ht:bn P G (AN N) (.loop bd) t) (h:aqg P G LL):aqg P G (kD g N id t LL):=by
 intro K g' fn' c' N' b hK hfn' hc' hb
 unfold kD
 split
 ·rename_i e
  obtain ⟨rfl,rfl,e⟩:=e
  rw [hfn] at hfn'
  have:=Option.some.inj hfn'
  subst this
  rw [hc] at hc'
  have:=Option.some.inj hc'
  subst this
  have hm:b∈(aB c).filter (fun b=>o8 b==id):=List.mem_filter.2 ⟨hb,by simpa using e⟩
  rw [hid] at hm
  have:b=bd:=by simpa using hm
  subst this
  exact ht
 ·exact h K g' fn' c' N' b hK hfn' hc' hb
theorem aeS {f:FuncId}{fn:Func}{c:Code}{S:List LV→T LV}{L:Cj}(hfn:P.funcs[f]? =some fn) (hc:fn.body=some c) (hΓ:∀g S,Γ g=some S→Valid P G g S) (hK:dL P G K)
  (hL:∀b∈aB c,Sound P G (.loop b) (L (o8 b))) (hS:∀args lv,(S args).all (fun x=>x=lv)→(ao6 P G Γ K L fn args).all (fun x=>x=lv)):Valid P G f S:=by
 intro args vals w Z lv hz hg hok hr h
 have h:=hS args lv h
 unfold ao6 at h
 simp only [hc] at h
 obtain ⟨⟨x,F',H'⟩,h1,h2⟩:=T.aZ h
 refine callsIn_wide.1 (callsIn_of_wp_marks (n:=0) hfn hc trivial ?_)
 have hW:RW G w ⟨Z,[],[]⟩ Z β0 [] w:=⟨Below.refl _ _,hz,fun b h=> .inl h,fun k b hk=>by simp at hk,fun k b hk=>by simp at hk,fun k b hk=>by simp at hk,fun i j bi bj hi=>by simp at hi,fun k b hb=>by simp at hb,hg,fun p hp=>(by cases hp),fun D hD=>(by cases hD)⟩
 have hF:RF [] β0 Z w ([]:List aU).length (args++List.replicate (fn.ntmps-args.length) (.v undef)) {tmps:=vals++Array.replicate (fn.ntmps-vals.size) undef,defers:=[]}:=IW (H:=[]) hr hok fn.ntmps
 refine aP (L:=L) hΓ hK c hL none w ⟨Z,[],[]⟩ Z β0 _ [] _ w [] _ x F' H' (fun p hp=>by cases hp) (.inl rfl) JR.nil hW hF h1 fun ds' Z' β' a' w' e0 e1 e2=>?_
 have fin:((J7 P fn F' H' fn.results.toList).bind fun l=>if noOwn (one l) then (T.ok (one l):T LV) else (fB H' 8 (one l)).bind fun _=> .ok (pF H' 8 (one l))).all (fun x=>x=lv)→LeavesInM Fence.wide 0 P fn a'.tmps (fun e w'=>Below w.heap.size w w'∧∃v',e=.returned v'∧okV 0 lv∧R β0 (fun b=>Z b∨(w.heap.size≤b∧b<w'.heap.size)) w' lv v') a'.defers .returning w':=fun h2=>by
  rw [e2.defers.1]
  refine vX ds' w' a' e1 e2 e0 fun w'' a'' et f1 f2=>?_
  obtain ⟨l,g1,g2⟩:=T.aZ h2
  split at g2
  ·rename_i hno
   simp only [T.all] at g2
   obtain ⟨vs,g3,g4,g5⟩:=qm fn.results.toList l f1 f2 g1
   have hok0:okV 0 lv:=by rw [←g2];exact noOwn_ok _ hno (Oj g5)
   refine ⟨if hs:vs.toArray.size=1 then vs.toArray[0] else .tuple vs.toArray,?_,f1.below,_,rfl,hok0,?_⟩
   ·rw [←et,Oe,Array.mapM_eq_mapM_toList]
    simp only [Sem.run_bind,Sem.run_map,g3,Result.andThen_ok,Sem.run_pure]
   ·have:=agH g4
    rw [g2] at this
    exact R.mono (n:=0) (fun _ hk=>absurd hk (by omega)) (fun b hb=>by
     rcases f1.sH b hb with h|h
     ·exact .inl h
     ·exact .inr ⟨h,f1.lQ b hb⟩) (fun _ _=>rfl) _ _ hok0 this
  ·obtain ⟨_,hg,g2⟩:=T.aZ g2
   have hG:=T.bC (K':=fun _=>True) (fun _ _=>trivial) hg
   simp only [T.all] at g2
   obtain ⟨vs,g3,g4,g5⟩:=qm fn.results.toList l f1 f2 g1
   have hok0:okV 0 lv:=by rw [←g2];exact qj H' (fun k b hb=>(f1.blk k b hb).2) 8 _ (Oj g5)
   refine ⟨if hs:vs.toArray.size=1 then vs.toArray[0] else .tuple vs.toArray,?_,f1.below,_,rfl,hok0,?_⟩
   ·rw [←et,Oe,Array.mapM_eq_mapM_toList]
    simp only [Sem.run_bind,Sem.run_map,g3,Result.andThen_ok,Sem.run_pure]
   ·have:=sJ (S:=fun _=>True) f1 (fun _ _ _ _ _ _=>trivial) 8 _ _ hG (fun _ _=>trivial) (Oj g5) (agH g4)
    rw [g2] at this
    exact R.mono (n:=0) (fun _ hk=>absurd hk (by omega)) (fun b hb=>by
     rcases hb with hb|⟨k,bk,_,h2,h3,rfl⟩
     ·rcases f1.sH b hb with h|h
      ·exact .inl h
      ·exact .inr ⟨h,f1.lQ b hb⟩
     ·exact .inr ⟨f1.low k bk h2 h3,f1.lt h2 h3⟩) (fun _ _=>rfl) _ _ hok0 this
 cases x with
 |normal=>exact fin h2
 |ret=>exact fin h2
 |exit m=>cases h2
end Go.Sx
namespace Go.Sx
open Go Go.RowKit Go.Proofs.YtlihnbimgclogaaGreatDoor
variable {P : Program} {G : bW} {Γ : Specs} {L : Cj} {β : Nat → Loc} {Z : Nat → Prop} {Z0 : Gz} {w w0 : World} {F : List LV} {H : List aU} {a : Act} {ds : List Deferred} {n : Nat}
theorem aY {c:Code}(h:aB c=[]):∀b∈aB c,Sound P G (.loop b) (L (o8 b)):=fun b hb=>by rw [h] at hb;cases hb
def Vs (P:Program) (G:bW):List (FuncId×(List LV→T LV))→Prop
 | []=>True
 |p::ps=>Valid P G p.1 p.2∧Vs P G ps
theorem aT:∀ {l:List (FuncId×(List LV→T LV))},Vs P G l→∀g S,bf l g=some S→Valid P G g S
 | [],_,g,S,h=>by cases h
 |p::ps,hv,g,S,h=>by
  simp only [bf] at h
  split at h
  ·rename_i hg;simp only [Option.some.injEq] at h;subst h hg;exact hv.1
  ·exact aT hv.2 g S h
theorem aew {α:Type}{t t':T α}{K:α→Prop}(h:t=t') (h':t'.all K):t.all K:=h▸h'
end Go.Sx
namespace Go.Sx
open Go Go.RowKit Go.Proofs.YtlihnbimgclogaaGreatDoor
variable {P : Program} {G : bW} {Γ : Specs} {L : Cj} {β : Nat → Loc} {Z : Nat → Prop} {Z0 : Gz} {w w0 : World} {F : List LV} {H : List aU} {a : Act} {ds : List Deferred} {n : Nat}
def pos (k:Nat):List Nat→Nat→Nat
 | [],i=>i
 |j::js,i=>if k=j then i else pos k js (i+1)
theorem qZ {k:Nat}:∀ {ks:List Nat}(i:Nat),k∈ks→i≤pos k ks i∧ks[pos k ks i-i]? =some k∧pos k ks i<i+ks.length
 | [],i,h=>by cases h
 | j::js,i,h=>by
  simp only [pos]
  split
  ·rename_i e;subst e;exact ⟨Nat.le_refl _,by simp,by simp⟩
  ·rename_i e
   have hk:k∈js:=by
    rcases List.mem_cons.1 h with h|h
    ·exact absurd h e
    ·exact h
   obtain ⟨h1,h2,h3⟩:=qZ (i+1) hk
   refine ⟨by omega,?_,by simp;omega⟩
   rw [show pos k js (i+1)-i=(pos k js (i+1)-(i+1))+1 by omega]
   simpa using h2
mutual
def renV (ks:List Nat):LV→LV
 | .v x=> .v x
 | .bl b=> .v (.bool b)
 | .ki k n=> .v (.int k n)
 | .own k off=> .own (pos k ks 0) off
 | .agg l=> .agg (renL ks l)
 | .iD l=> .iD (renL ks l)
 | .fn f l=> .fn f (renL ks l)
 | .xq n f=> .xq n f
 | .xl e l=> .xl e l
 | .os k es off n=> .os (pos k ks 0) es off n
 | .op k es i j=> .op (pos k ks 0) es i j
 | .om k=> .om (pos k ks 0)
 | .mp kd kk l=> .mp kd kk (renL ks l)
 | .oc k es off n c=> .oc (pos k ks 0) es off n c
 | .uN k=> .uN (pos k ks 0)
 | .junk=> .junk
def renL (ks:List Nat):List LV→List LV
 | []=>[]
 |x::xs=>renV ks x::renL ks xs
end
def zG (ks:List Nat):BK→BK
 | .cl=> .cl
 | .vec e l=> .vec e l
 | .mp kd kk vs=> .mp kd kk (renL ks vs)
 | .kG ps asg body st=> .kG ps asg body st
 | .st e l=> .st e l
 | .dead=> .dead
def SI (ks:List Nat) (b:aU):aU:=⟨renL ks b.c,b.t,zG ks b.k,b.p⟩
def ajk:aU:=⟨[],0,.dead,false⟩
def nodupB:List Nat→Bool
 | []=>true
 |k::ks=>!ks.contains k&&nodupB ks
theorem Hy:∀ {ks:List Nat},nodupB ks=true→∀(i j k:Nat),ks[i]? =some k→ks[j]? =some k→i=j
 | [],_,i,j,k,h,_=>by simp at h
 | x::xs,hn,i,j,k,hi,hj=>by
  simp only [nodupB,Bool.and_eq_true,Bool.not_eq_true'] at hn
  have hx:x∉xs:=by simpa using hn.1
  cases i with
  | zero=>
   cases j with
   |zero=>rfl
   |succ j=>
    simp at hi hj
    subst hi
    exact absurd (List.mem_of_getElem? hj) hx
  | succ i=>
   cases j with
   |zero=>
    simp at hi hj
    subst hj
    exact absurd (List.mem_of_getElem? hi) hx
   |succ j=>
    simp at hi hj
    rw [Hy hn.2 i j k hi hj]
def Rn (ks:List Nat) (β β':Nat→Loc):Prop:=∀i k,ks[i]? =some k→β' i=β k
theorem Rn.at {ks:List Nat}{β':Nat→Loc}(h:Rn ks β β') {k:Nat}(hk:k∈ks):β' (pos k ks 0)=β k∧pos k ks 0<ks.length:=by
 obtain ⟨_,h2,h3⟩:=qZ 0 hk
 exact ⟨h _ _ (by simpa using h2),by omega⟩
mutual
theorem ren_R {ks:List Nat}{β':Nat→Loc}{n:Nat}(h:Rn ks β β'):∀(x:LV) (y:Value),(∀k,k∈owns x→k∈ks)→okV n x→R β Z w x y→R β' Z w (renV ks x) y
 | .v _,_,_,_,hr=>hr
 | .bl _,_,_,_,hr=>hr
 | .ki _ _,_,_,_,hr=>hr
 | .own k off,y,ho,hok,hr=>by
  simp only [renV,R] at*
  rw [(h.at (ho k (by simp [owns]))).1];exact hr
 | .agg l,y,ho,hok,hr=>by
  simp only [renV,R,owns,okV] at*
  obtain ⟨ys,h1,h2⟩:=hr
  exact ⟨ys,h1,ren_RL h l _ ho hok h2⟩
 | .iD l,y,ho,hok,hr=>by
  simp only [renV,R,owns,okV] at*
  obtain ⟨ys,h1,h2⟩:=hr
  exact ⟨ys,h1,ren_RL h l _ ho hok h2⟩
 | .fn f l,y,ho,hok,hr=>by
  simp only [renV,R,owns,okV] at*
  obtain ⟨ys,h1,h2⟩:=hr
  exact ⟨ys,h1,ren_RL h l _ ho hok h2⟩
 | .xq n f,y,ho,hok,hr=>by
  simp only [renV,R,okV] at*
  obtain ⟨b,off,h1,h2,h3⟩:=hr
  refine ⟨b,off,h1,h2,fun j hj=>?_⟩
  obtain ⟨z,h4,h5⟩:=h3 j hj
  exact ⟨z,h4,R.mono (n:=0) (fun _ hk=>absurd hk (by omega)) (fun _ h=>h) (fun _ _=>rfl) _ _ (hok j) h5⟩
 | .xl e l,y,ho,hok,hr=>by simp only [renV,R] at*;exact hr
 | .os k es off n,y,ho,hok,hr=>by
  simp only [renV,R] at*
  rw [(h.at (ho k (by simp [owns]))).1];exact hr
 | .op k es i j,y,ho,hok,hr=>by
  simp only [renV,R] at*
  rw [(h.at (ho k (by simp [owns]))).1];exact hr
 | .om k,y,ho,hok,hr=>by
  simp only [renV,R] at*
  rw [(h.at (ho k (by simp [owns]))).1];exact hr
 | .mp kd kk l,y,ho,hok,hr=>by
  simp only [renV,R,owns,okV] at*
  obtain ⟨r,es,clock,h1,h2,h3,h4,h5⟩:=hr
  exact ⟨r,es,clock,h1,h2,h3,h4,ren_RL h l _ ho hok h5⟩
 | .oc k es off n c,y,ho,hok,hr=>by
  simp only [renV,R] at*
  rw [(h.at (ho k (by simp [owns]))).1];exact hr
 | .uN k,y,ho,hok,hr=>by
  simp only [renV,R] at*
  rw [(h.at (ho k (by simp [owns]))).1];exact hr
 | .junk,_,_,_,_=>by simp only [renV,R]
theorem ren_RL {ks:List Nat}{β':Nat→Loc}{n:Nat}(h:Rn ks β β'):∀(l:List LV) (ys:List Value),(∀k,k∈ownsL l→k∈ks)→dn n l→RL β Z w l ys→RL β' Z w (renL ks l) ys
 | [],_,_,_,hr=>by simpa only [renL,RL] using hr
 |x::xs,ys,ho,hok,hr=>by
  simp only [renL,RL,ownsL,List.mem_append,dn] at*
  obtain ⟨y,zs,h1,h2,h3⟩:=hr
  exact ⟨y,zs,h1,ren_R h x y (fun k hk=>ho k (.inl hk)) hok.1 h2,ren_RL h xs zs (fun k hk=>ho k (.inr hk)) hok.2 h3⟩
end
mutual
theorem ren_ok {ks:List Nat}{n:Nat}:∀(x:LV),(∀k,k∈owns x→k∈ks)→okV n x→okV ks.length (renV ks x)
 | .v _,_,_=>trivial
 | .bl _,_,_=>trivial
 | .ki _ _,_,_=>trivial
 | .own k off,ho,_=>by simp only [renV,okV];have:=(qZ 0 (ho k (by simp [owns]))).2.2;omega
 | .agg l,ho,hk=>by simp only [renV,okV,owns] at*;exact ren_okL l ho hk
 | .iD l,ho,hk=>by simp only [renV,okV,owns] at*;exact ren_okL l ho hk
 | .fn f l,ho,hk=>by simp only [renV,okV,owns] at*;exact ren_okL l ho hk
 | .xq n f,_,hk=>by simpa only [renV,okV] using hk
 | .xl _ _,_,_=>trivial
 | .os k _ _ _,ho,_=>by simp only [renV,okV];have:=(qZ 0 (ho k (by simp [owns]))).2.2;omega
 | .op k _ _ _,ho,_=>by simp only [renV,okV];have:=(qZ 0 (ho k (by simp [owns]))).2.2;omega
 | .om k,ho,_=>by simp only [renV,okV];have:=(qZ 0 (ho k (by simp [owns]))).2.2;omega
 | .mp kd kk l,ho,hk=>by simp only [renV,okV,owns] at*;exact ren_okL l ho hk
 | .oc k _ _ _ _,ho,_=>by simp only [renV,okV];have:=(qZ 0 (ho k (by simp [owns]))).2.2;omega
 | .uN k,ho,_=>by simp only [renV,okV];have:=(qZ 0 (ho k (by simp [owns]))).2.2;omega
 | .junk,_,_=>trivial
theorem ren_okL {ks:List Nat}{n:Nat}:∀(l:List LV),(∀k,k∈ownsL l→k∈ks)→dn n l→dn ks.length (renL ks l)
 | [],_,_=>trivial
 |x::xs,ho,hk=>by
  simp only [renL,dn,ownsL,List.mem_append] at*
  exact ⟨ren_ok x (fun k hk=>ho k (.inl hk)) hk.1,ren_okL xs (fun k hk=>ho k (.inr hk)) hk.2⟩
end
theorem vM {ks:List Nat}{β':Nat→Loc}{i k:Nat}{b:aU}(h:β' i=β k):live β' i (SI ks b)↔live β k b:=by
 unfold live SI
 cases hb:b.k<;>simp [zG,h]
def ano (N:Nat) (ks:List Nat):Bool:=ks.take N==List.range N
theorem SN {N:Nat}{ks:List Nat}(h:ano N ks=true):N≤ks.length∧∀i,i<N→ks[i]? =some i:=by
 have h:ks.take N=List.range N:=by simpa [ano] using h
 have hl:=congrArg List.length h
 simp at hl
 refine ⟨by omega,fun i hi=>?_⟩
 have:=congrArg (fun l=>l[i]?) h
 simp only [List.getElem?_take,if_pos hi] at this
 rw [this]
 simp [hi]
theorem RW.ren {N:Nat}{ks:List Nat}{l:List LV}(hgh:AN N Z0) (hW:RW G w0 Z0 Z β H w) (hc:ou H ks l=true) (hn:nodupB ks=true) (hpin:ano N ks=true):
  ∃β',Rn ks β β'∧RW G w0 Z0 Z β' (ks.map fun k=>SI ks (H.getD k ajk)) w:=by
 have hex:∀k,k∈ks→∃b,H[k]? =some b:=fun k hk=>by
  unfold ou at hc
  simp only [Bool.and_eq_true,List.all_eq_true] at hc
  have:=hc.2 k hk
  cases hb:H[k]? with
  |none=>rw [hb] at this;cases this
  |some b=>exact ⟨b,rfl⟩
 obtain ⟨c1,c2⟩:=jY hc
 refine ⟨fun i=>β (ks.getD i 0),fun i k hi=>by simp [List.getD,hi],?_⟩
 have hRn:Rn ks β (fun i=>β (ks.getD i 0)):=fun i k hi=>by simp [List.getD,hi]
 generalize hβ':(fun i=>β (ks.getD i 0))=β' at hRn⊢
 have old:∀i b,(ks.map fun k=>SI ks (H.getD k ajk))[i]? =some b→∃k b0,ks[i]? =some k∧k∈ks∧H[k]? =some b0∧b=SI ks b0∧β' i=β k:=fun i b hb=>by
  rw [List.getElem?_map] at hb
  cases hk:ks[i]? with
  |none=>simp [hk] at hb
  |some k=>
   have hkm:=List.mem_of_getElem? hk
   obtain ⟨b0,h0⟩:=hex k hkm
   simp [hk,List.getD,h0] at hb
   exact ⟨k,b0,rfl,hkm,h0,hb.symm,hRn i k hk⟩
 refine ⟨hW.below,hW.lQ,hW.sH,fun i b hb hl hp=>?_,fun i b hb hl hp=>?_,fun i b hb hl=>?_,fun i j bi bj hi hj li lj pi e=>?_,fun i b hb=>?_,hW.iI,fun p hp=>⟨R.mono (n:=N) (fun k hk=>hRn k k ((SN hpin).2 k hk)) (fun _ h=>h) (fun _ _=>rfl) _ _ (hgh p hp) (hW.gh p hp).1,okV.mono (by rw [List.length_map];exact (SN hpin).1) _ (hgh p hp)⟩,hW.rC⟩
 ·obtain ⟨k,b0,h1,h2,h3,rfl,h5⟩:=old i b hb
  rw [h5];exact hW.kE k b0 h3 ((vM h5).1 hl) hp
 ·obtain ⟨k,b0,h1,h2,h3,rfl,h5⟩:=old i b hb
  rw [h5];exact hW.vg k b0 h3 ((vM h5).1 hl) hp
 ·obtain ⟨k,b0,h1,h2,h3,rfl,h5⟩:=old i b hb
  rw [h5];exact hW.low k b0 h3 ((vM h5).1 hl)
 ·obtain ⟨k,b0,h1,h2,h3,rfl,h5⟩:=old i bi hi
  obtain ⟨k',b1,g1,g2,g3,rfl,g5⟩:=old j bj hj
  rw [h5,g5] at e
  have:=hW.inj k k' b0 b1 h3 g3 ((vM h5).1 li) ((vM g5).1 lj) pi e
  subst this
  exact Hy hn i j k h1 g1
 ·obtain ⟨k,b0,h1,h2,h3,rfl,h5⟩:=old i b hb
  obtain ⟨q1,q2⟩:=hW.blk k b0 h3
  have ow:=c2 k b0 h2 h3
  have owc:∀j,j∈ownsL b0.c→j∈ks:=fun j hj=>ow j (by unfold aU.owns;exact List.mem_append.2 (.inl hj))
  rw [List.length_map]
  refine ⟨?_,ren_okL _ owc q2.1,?_⟩
  ·unfold fC at q1⊢
   unfold SI
   cases hbk:b0.k with
   |cl=>
    simp only [hbk,zG] at q1⊢
    obtain ⟨cs,e1,e2⟩:=q1
    exact ⟨cs,by rw [h5];exact e1,ren_RL hRn _ _ owc q2.1 e2⟩
   |vec e l=>
    simp only [hbk,zG] at q1⊢
    rw [h5];exact q1
   |mp kd kk vs=>
    simp only [hbk,zG] at q1⊢
    obtain ⟨es,clock,e1,e2,e3⟩:=q1
    exact ⟨es,clock,by rw [h5];exact e1,e2,ren_RL hRn _ _ (fun j hj=>ow j (by unfold aU.owns;rw [hbk];exact List.mem_append.2 (.inr hj))) (by have:=q2.2;rw [hbk] at this;exact this) e3⟩
   |kG ps asg body st=>
    simp only [hbk,zG] at q1⊢
    obtain ⟨r,e1,e2,e3,e4,e5,e6⟩:=q1
    exact ⟨r,by rw [h5];exact e1,e2,e3,e4,e5,ren_RL hRn _ _ owc q2.1 e6⟩
   |st e l=>
    simp only [hbk,zG] at q1⊢
    rw [h5];exact q1
   |dead=>simp only [zG]
  ·have q22:=q2.2
   unfold SI
   cases hbk:b0.k with
   |mp kd kk vs=>
    simp only [hbk,zG] at q22⊢
    exact ren_okL _ (fun j hj=>ow j (by unfold aU.owns;rw [hbk];exact List.mem_append.2 (.inr hj))) q22
   |cl=>simp only [zG]
   |vec e l=>simp only [zG]
   |kG ps asg body st=>simp only [zG]
   |st e l=>simp only [zG]
   |dead=>simp only [zG]
def at_ (i:Nat):List Nat→List LV→LV
 |j::js,x::xs=>if i=j then x else at_ i js xs
 |_,_=> .junk
def uG (live:List Nat) (vals:List LV):Nat→Nat→List LV
 |0,_=>[]
 |n+1,i=>at_ i live vals::uG live vals n (i+1)
def kU (n:Nat) (live:List Nat) (vals:List LV):List LV:=uG live vals n 0
theorem qA (live:List Nat) (vals:List LV):∀n i,(uG live vals n i).length=n
 |0,_=>rfl
 |n+1,i=>by simp [uG,qA live vals n (i+1)]
theorem Ed (live:List Nat) (vals:List LV):∀n i k,k<n→(uG live vals n i)[k]? =some (at_ (i+k) live vals)
 |0,_,k,h=>by omega
 |n+1,i,0,_=>by simp [uG]
 |n+1,i,k+1,h=>by
  simp only [uG,List.getElem?_cons_succ]
  rw [Ed live vals n (i+1) k (by omega)]
  congr 2;omega
theorem ajt (i:Nat):∀(live:List Nat) (vals:List LV),at_ i live vals=.junk∨∃p:Nat,live[p]? =some i∧vals[p]? =some (at_ i live vals)
 | [],_=> .inl rfl
 |_::_,[]=> .inl rfl
 | j::js,x::xs=>by
  simp only [at_]
  split
  ·rename_i h;exact .inr ⟨0,by simp [h],by simp⟩
  ·rcases ajt i js xs with h|⟨p,h1,h2⟩
   ·exact .inl h
   ·exact .inr ⟨p+1,by simpa using h1,by simpa using h2⟩
def KA (live:List Nat) (F:List LV):List LV:=live.map fun j=>norm (F.getD j .junk)
theorem alo {live:List Nat}(hF:RF ds β Z w n F a):RL β Z w (KA live F) (live.map fun j=>a.tmps.getD j undef)∧dn n (KA live F):=by
 have one:∀j,R β Z w (F.getD j .junk) (a.tmps.getD j undef)∧okV n (F.getD j .junk):=fun j=>by
  cases hj:F[j]? with
  |none=>simp [List.getD,hj,R,okV]
  |some x=>simp only [List.getD,hj,Option.getD_some];exact hF.get j x hj
 refine ⟨RL.cu (by simp [KA]) fun i x hx=>?_,dn.cu fun i x hx=>?_⟩
 ·simp only [KA,List.getElem?_map] at hx⊢
  cases hl:live[i]? with
  |none=>simp [hl] at hx
  |some j=>simp [hl] at hx;subst hx;exact ⟨_,by simp,rW (one j).1⟩
 ·simp only [KA,List.getElem?_map] at hx
  cases hl:live[i]? with
  |none=>simp [hl] at hx
  |some j=>simp [hl] at hx;subst hx;exact ru (one j).2
theorem ai6 {live:List Nat}{vals:List LV}{N:Nat}(hs:a.tmps.size=N) (hd:a.defers=ds∧∀d,d∈ds→∃D,d=jr D∧Z D∧pq w D) (h:RL β Z w vals (live.map fun j=>a.tmps.getD j undef)) (hk:dn n vals):RF ds β Z w n (kU N live vals) a:=by
 refine ⟨by rw [hs];simp [kU,qA],fun t x hx=>?_,hd⟩
 have ht:t<N:=by have:=(List.getElem?_eq_some_iff.1 hx).1;simpa [kU,qA] using this
 unfold kU at hx
 rw [Ed live _ _ _ t ht] at hx
 simp only [Option.some.injEq,Nat.zero_add] at hx
 rcases ajt t live vals with h1|⟨p,h1,h2⟩
 ·rw [hx] at h1;subst h1;exact ⟨by simp only [R],trivial⟩
 ·rw [hx] at h2
  obtain ⟨y,e1,e2⟩:=RL.get _ _ h h2
  simp only [List.getElem?_map,h1,Option.map_some,Option.some.injEq] at e1
  subst e1
  exact ⟨e2,dn.get _ _ hk h2⟩
inductive Up where
 |nl (i:Nat) (t:TypeId) (ty:Ty)
 |pb (i:Nat) (ty:Ty)
 |nc (k j:Nat) (t:TypeId) (ty:Ty)
 |pc (k j:Nat) (ty:Ty)
 |pk (k:Nat)
 |ns (i j:Nat) (t:TypeId) (ty:Ty)
 |ps (i j:Nat) (ty:Ty)
def aD5 (F:List LV):Up→Up
 | .ns i j t ty=>match F.getD i .junk with
  | .own k _=> .nc k j t ty
  |_=> .ns i j t ty
 | .ps i j ty=>match F.getD i .junk with
  | .own k _=> .pc k j ty
  |_=> .ps i j ty
 |u=>u
def FD:List Up→List LV→List aU→T (List LV×List aU)
 | [],F,H=> .ok (F,H)
 | .nl i t ty::us,F,H=>match F.getD i .junk with
  | .v (.slice none 0 0)=>FD us (F.set i (.os H.length ty.n 0 0)) (H++[⟨[],t,.vec ty [],false⟩])
  |_=>FD us F H
 | .pb i ty::us,F,H=>match F.getD i .junk with
  | .v (.slice none 0 0)=>FD us (F.set i (.xl ty [])) H
  | .os k es off n=>if ou H (reach H 64 [k] []) [.os k es off n] then (fB H 6 (.os k es off n)).bind fun _=>FD us (F.set i (pF H 6 (.os k es off n))) (mr (reach H 64 [k] []) 0 H) else .no
  |_=>FD us F H
 | .nc k j t ty::us,F,H=>match H[k]? with
  |some ⟨c,bt,.cl,false⟩=>(match c[j]? with
   |some (.v (.slice none 0 0))=>FD us F (H.set k ⟨c.set j (.os H.length ty.n 0 0),bt,.cl,false⟩++[⟨[],t,.vec ty [],false⟩])
   |_=>FD us F H)
  |_=>FD us F H
 | .pc k j ty::us,F,H=>match H[k]? with
  |some ⟨c,bt,.cl,false⟩=>(match c[j]? with
   |some (.v (.slice none 0 0))=>FD us F (H.set k ⟨c.set j (.xl ty []),bt,.cl,false⟩)
   |some (.os k' es off n)=>if ou H (reach H 64 [k'] []) [.os k' es off n]&&!(reach H 64 [k'] []).contains k then (fB H 6 (.os k' es off n)).bind fun _=>FD us F ((mr (reach H 64 [k'] []) 0 H).set k ⟨c.set j (pF H 6 (.os k' es off n)),bt,.cl,false⟩) else .no
   |_=>FD us F H)
  |_=>FD us F H
 | .pk k::us,F,H=>FD us F (mr (reach H 64 [k] []) 0 H)
 | .ns ..::us,F,H=>FD us F H
 | .ps ..::us,F,H=>FD us F H
theorem RL.set':∀ {l:List LV}{ys:List Value}{j:Nat}{x:LV}{y:Value},RL β Z w l ys→ys[j]? =some y→R β Z w x y→RL β Z w (l.set j x) ys
 | [],ys,j,x,y,h,hy,_=>by simp only [RL] at h;subst h;simp at hy
 |z::l,ys,0,x,y,h,hy,hr=>by
  simp only [List.set_cons_zero,RL] at h⊢
  obtain ⟨y0,zs,rfl,h1,h2⟩:=h
  simp at hy
  subst hy
  exact ⟨_,zs,rfl,hr,h2⟩
 |z::l,ys,j+1,x,y,h,hy,hr=>by
  simp only [List.set_cons_succ,RL] at h⊢
  obtain ⟨y0,zs,rfl,h1,h2⟩:=h
  exact ⟨y0,zs,rfl,h1,RL.set' h2 (by simpa using hy) hr⟩
theorem dn.set' {n:Nat}:∀ {l:List LV}{j:Nat}{x:LV},dn n l→okV n x→dn n (l.set j x)
 | [],_,_,h,_=>by simpa using h
 |z::l,0,x,h,hx=>⟨hx,h.2⟩
 |z::l,j+1,x,h,hx=>⟨h.1,dn.set' h.2 hx⟩
theorem RW.tell {k j:Nat}{c:List LV}{bt:TypeId}{x:LV}(hW:RW G w0 Z0 Z β H w) (hb:H[k]? =some ⟨c,bt,.cl,false⟩) (hx:∀y,(∃z,c[j]? =some z∧R β Z w z y)→R β Z w x y) (hj:∃z,c[j]? =some z) (hok:okV H.length x):RW G w0 Z0 Z β (H.set k ⟨c.set j x,bt,.cl,false⟩) w:=by
 obtain ⟨h1,h2⟩:=hW.blk k _ hb
 simp only [fC] at h1
 obtain ⟨cs,g1,g2⟩:=h1
 obtain ⟨z,hz⟩:=hj
 obtain ⟨y,q1,q2⟩:=RL.get j z g2 hz
 refine hW.set hb trivial rfl rfl ⟨dn.set' h2.1 hok,trivial⟩ rfl ⟨rfl,rfl,rfl⟩ (fun _ _=>rfl) ?_
 simp only [fC]
 exact ⟨cs,g1,RL.set' g2 q1 (hx y ⟨z,hz,q2⟩)⟩
theorem fJ:∀(us:List Up) (F:List LV) (H:List aU) (Z:Nat→Prop) (β:Nat→Loc) (F1:List LV) (H1:List aU),RW G w0 Z0 Z β H w→RF ds β Z w H.length F a→(FD us F H).all (fun q=>q=(F1,H1))→∃Z' β',RW G w0 Z0 Z' β' H1 w∧RF ds β' Z' w H1.length F1 a∧F1.length=F.length
 | [],F,H,Z,β,F1,H1,hW,hF,h=>by
  simp only [FD,T.all,Prod.mk.injEq] at h
  obtain ⟨rfl,rfl⟩:=h
  exact ⟨Z,β,hW,hF,rfl⟩
 | .nl i t ty::us,F,H,Z,β,F1,H1,hW,hF,h=>by
  simp only [FD] at h
  split at h
  ·rename_i hx
   obtain ⟨s1,s2⟩:=hF.slot hx (by simp)
   have hv:=(hF.get i _ s1).1
   simp only [R] at hv
   obtain ⟨β',b1,b2,b3⟩:=hW.wF (ℓ:=⟨w.heap.size,0,none⟩) (nb:=⟨[],t,.vec ty [],false⟩) rfl ⟨trivial,trivial⟩ (fun hl=>absurd rfl hl) (fun β' g1 g2=>by simp only [fC,g2])
   have hF1:RF ds β' Z w (H++[(⟨[],t,.vec ty [],false⟩:aU)]).length F a:=hF.mono (by simp) b1 (fun _ h=>h) (fun _ _=>rfl)
   obtain ⟨Z2,β2,c1,c2,c3⟩:=fJ us (F.set i (.os H.length ty.n 0 0)) _ Z β' F1 H1 b3 (hF1.know (by simp only [R,b2];exact ⟨trivial,trivial,hv⟩) (by simp [okV])) h
   exact ⟨Z2,β2,c1,c2,by rw [c3];simp⟩
  ·exact fJ us F H Z β F1 H1 hW hF h
 | .pb i ty::us,F,H,Z,β,F1,H1,hW,hF,h=>by
  simp only [FD] at h
  split at h
  ·rename_i hx
   obtain ⟨s1,s2⟩:=hF.slot hx (by simp)
   have hv:=(hF.get i _ s1).1
   simp only [R] at hv
   obtain ⟨Z2,β2,c1,c2,c3⟩:=fJ us (F.set i (.xl ty [])) H Z β F1 H1 hW (hF.know (by simp only [R];exact ⟨none,0,hv,Nat.le_refl _,fun h=>by simp at h⟩) trivial) h
   exact ⟨Z2,β2,c1,c2,by rw [c3];simp⟩
  ·rename_i k es off n hx
   split at h
   ·rename_i hcl
    obtain ⟨s1,s2⟩:=hF.slot hx (by simp)
    have hv:=hF.get i _ s1
    obtain ⟨_,hg,h2⟩:=T.aZ h
    have hG:GX H 6 (.os k es off n):=T.bC (K':=fun _=>True) (fun _ _=>trivial) hg
    obtain ⟨q1,q2⟩:=jY hcl
    have hP:=hW.pub (reach H 64 [k] [])
    have hH:=fun k b hb=>(hW.blk k b hb).2
    have hr:=sJ (S:=fun k=>k∈reach H 64 [k] []) hW
    have hr:R β (ZP Z β H fun j=>j∈reach H 64 [k] []) w (pF H 6 (.os k es off n)) (a.tmps.getD i undef):=sJ (S:=fun j=>j∈reach H 64 [k] []) hW q2 6 _ _ hG (fun j hj=>q1 j (by simpa [ownsL] using hj)) hv.2 hv.1
    have hF1:RF ds β (ZP Z β H fun j=>j∈reach H 64 [k] []) w (mr (reach H 64 [k] []) 0 H).length F a:=by
     rw [eP]
     exact hF.mono (Nat.le_refl _) (fun _ _=>rfl) (fun _ h=> .inl h) (fun _ _=>rfl)
    obtain ⟨Z2,β2,c1,c2,c3⟩:=fJ us (F.set i (pF H 6 (.os k es off n))) _ _ β F1 H1 hP (hF1.know hr (okV.mono (Nat.zero_le _) _ (qj H hH 6 _ hv.2))) h2
    exact ⟨Z2,β2,c1,c2,by rw [c3];simp⟩
   ·cases h
  ·exact fJ us F H Z β F1 H1 hW hF h
 | .nc k j t ty::us,F,H,Z,β,F1,H1,hW,hF,h=>by
  simp only [FD] at h
  split at h
  ·rename_i c bt hb
   split at h
   ·rename_i hj
    have hkl:k<H.length:=(List.getElem?_eq_some_iff.1 hb).1
    obtain ⟨β',b1,b2,b3⟩:=hW.wF (ℓ:=⟨w.heap.size,0,none⟩) (nb:=⟨[],t,.vec ty [],false⟩) rfl ⟨trivial,trivial⟩ (fun hl=>absurd rfl hl) (fun β' g1 g2=>by simp only [fC,g2])
    have hb':(H++[(⟨[],t,.vec ty [],false⟩:aU)])[k]? =some ⟨c,bt,.cl,false⟩:=by rw [List.getElem?_append_left hkl];exact hb
    have hT:=b3.tell (j:=j) (x:=.os H.length ty.n 0 0) hb' (fun y ⟨z,hz,hr⟩=>by
     rw [hj] at hz
     have:=Option.some.inj hz
     subst this
     simp only [R] at hr
     simp only [R,b2]
     exact ⟨trivial,trivial,hr⟩) ⟨_,hj⟩ (by simp [okV])
    rw [List.set_append_left _ _ hkl] at hT
    have hF1:RF ds β' Z w (H.set k ⟨c.set j (.os H.length ty.n 0 0),bt,.cl,false⟩++[(⟨[],t,.vec ty [],false⟩:aU)]).length F a:=hF.mono (by simp) b1 (fun _ h=>h) (fun _ _=>rfl)
    exact fJ us F _ Z β' F1 H1 hT hF1 h
   ·exact fJ us F H Z β F1 H1 hW hF h
  ·exact fJ us F H Z β F1 H1 hW hF h
 | .pc k j ty::us,F,H,Z,β,F1,H1,hW,hF,h=>by
  simp only [FD] at h
  split at h
  ·rename_i c bt hb
   split at h
   ·rename_i hj
    have hT:=hW.tell (j:=j) (x:=.xl ty []) hb (fun y ⟨z,hz,hr⟩=>by
     rw [hj] at hz
     have:=Option.some.inj hz
     subst this
     simp only [R] at hr⊢
     exact ⟨none,0,hr,Nat.le_refl _,fun h=>by simp at h⟩) ⟨_,hj⟩ trivial
    exact fJ us F _ Z β F1 H1 hT (hF.mono (by simp) (fun _ _=>rfl) (fun _ h=>h) (fun _ _=>rfl)) h
   ·rename_i k' es off n hj
    split at h
    ·rename_i hcl
     simp only [Bool.and_eq_true,Bool.not_eq_true'] at hcl
     obtain ⟨hcl,hnk⟩:=hcl
     obtain ⟨_,hg,h2⟩:=T.aZ h
     have hG:GX H 6 (.os k' es off n):=T.bC (K':=fun _=>True) (fun _ _=>trivial) hg
     obtain ⟨q1,q2⟩:=jY hcl
     have hP:=hW.pub (reach H 64 [k'] [])
     have hH:=fun k b hb=>(hW.blk k b hb).2
     have hok:okV H.length (.os k' es off n):=dn.get j _ (hH k _ hb).1 hj
     have hb':(mr (reach H 64 [k'] []) 0 H)[k]? =some ⟨c,bt,.cl,false⟩:=by
      rw [xh,hb]
      simp only [Option.map_some,Nat.zero_add,hnk]
      rfl
     have hT:=hP.tell (j:=j) (x:=pF H 6 (.os k' es off n)) hb' (fun y ⟨z,hz,hr⟩=>by
      rw [hj] at hz
      have:=Option.some.inj hz
      subst this
      have hr':R β Z w (.os k' es off n) y:=by simpa only [R] using hr
      exact sJ (S:=fun j=>j∈reach H 64 [k'] []) hW q2 6 _ _ hG (fun j hj=>q1 j (by simpa [ownsL] using hj)) hok hr') ⟨_,hj⟩ (okV.mono (Nat.zero_le _) _ (qj H hH 6 _ hok))
     exact fJ us F _ _ β F1 H1 hT (hF.mono (by simp [eP]) (fun _ _=>rfl) (fun _ h=> .inl h) (fun _ _=>rfl)) h2
    ·cases h
   ·exact fJ us F H Z β F1 H1 hW hF h
  ·exact fJ us F H Z β F1 H1 hW hF h
 | .pk k::us,F,H,Z,β,F1,H1,hW,hF,h=>by
  simp only [FD] at h
  have hP:=hW.pub (reach H 64 [k] [])
  have hF1:RF ds β (ZP Z β H fun j=>j∈reach H 64 [k] []) w (mr (reach H 64 [k] []) 0 H).length F a:=by
   rw [eP]
   exact hF.mono (Nat.le_refl _) (fun _ _=>rfl) (fun _ h=> .inl h) (fun _ _=>rfl)
  exact fJ us F _ _ β F1 H1 hP hF1 h
 | .ns ..::us,F,H,Z,β,F1,H1,hW,hF,h=>fJ us F H Z β F1 H1 hW hF (by simpa only [FD] using h)
 | .ps ..::us,F,H,Z,β,F1,H1,hW,hF,h=>fJ us F H Z β F1 H1 hW hF (by simpa only [FD] using h)
def awW (H:List aU):LV→T LV
 | .os k es off n=>match H[k]? with
  |some ⟨_,_,.vec _ l,_⟩=> .req (off=0∧n=List.length l) (.ok (.os k es 0 (List.length l)))
  |_=> .ok (.os k es off n)
 |x=> .ok x
def ai8 (H:List aU):List LV→T (List LV)
 | []=> .ok []
 |x::xs=>(awW H x).bind fun y=>(ai8 H xs).bind fun ys=> .ok (y::ys)
theorem ao7 {x y:LV}(h:(awW H x).all (fun z=>z=y)):y=x:=by
 unfold awW at h
 split at h
 ·split at h
  ·simp only [T.all] at h
   obtain ⟨⟨rfl,rfl⟩,h⟩:=h
   exact h.symm
  ·exact h.symm
 ·exact h.symm
theorem Qc:∀ {l l':List LV},(ai8 H l).all (fun z=>z=l')→l'=l
 | [],l',h=>h.symm
 |x::xs,l',h=>by
  simp only [ai8] at h
  obtain ⟨y,h1,h2⟩:=T.aZ h
  obtain ⟨ys,h3,h4⟩:=T.aZ h2
  simp only [T.all] at h4
  rw [←h4,ao7 h1,Qc h3]
def ao8 (H:List aU):List aU→T (List aU)
 | []=> .ok []
 |b::bs=>(ai8 H b.c).bind fun c=>(ao8 H bs).bind fun cs=> .ok (⟨c,b.t,b.k,b.p⟩::cs)
theorem aaW:∀ {l l':List aU},(ao8 H l).all (fun z=>z=l')→l'=l
 | [],l',h=>h.symm
 |b::bs,l',h=>by
  simp only [ao8] at h
  obtain ⟨c,h1,h2⟩:=T.aZ h
  obtain ⟨cs,h3,h4⟩:=T.aZ h2
  simp only [T.all] at h4
  rw [←h4,Qc h1,aaW h3]
structure Vw where
 ex:Ex
 len:Nat
 vals:List LV
 BU:List aU
 low:Bool
def adT (N:Nat) (H:List aU) (vals:List LV):List Nat:=reach H 400 (ownsL vals++(H.take N).flatMap aU.owns) (List.range N)
def aBy (N:Nat) (live:List Nat) (x:Ex) (n:Nat) (F:List LV) (H:List aU):T Vw:=
 (ai8 H (KA live F)).bind fun vals=>(ao8 H ((adT N H vals).map (fun k=>H.getD k ajk))).bind fun bs=>
  .ok ⟨x,n,renL (adT N H vals) vals,bs.map (SI (adT N H vals)),
   ou H (adT N H vals) vals&&nodupB (adT N H vals)&&ano N (adT N H vals)⟩
def ap5 (N:Nat) (live:List Nat) (us:List Up) (x:Ex) (F:List LV) (H:List aU):T Vw:=(FD (us.map (aD5 F)) F H).bind fun q=>aBy N live x F.length q.1 q.2
theorem yT {N:Nat}{live:List Nat}{us:List Up}{x:Ex}{v:Vw}(hgh:AN N Z0) (hW:RW G w0 Z0 Z β H w) (hF:RF ds β Z w H.length F a) (h:(ap5 N live us x F H).all (fun z=>z=v)) (hl:v.low=true):
  v.ex=x∧v.len=F.length∧∃Z' β',RW G w0 Z0 Z' β' v.BU w∧RF ds β' Z' w v.BU.length (kU F.length live v.vals) a:=by
 unfold ap5 at h
 obtain ⟨⟨F1,H1⟩,h0,h⟩:=T.aZ h
 obtain ⟨Z1,β1,c1,c2,c3⟩:=fJ _ F H Z β F1 H1 hW hF h0
 unfold aBy at h
 obtain ⟨vals,h1,h2⟩:=T.aZ h
 obtain ⟨bs,h2b,h2⟩:=T.aZ h2
 simp only [T.all] at h2
 have h3:=Qc h1
 have h4:=aaW h2b
 subst h3
 subst h4
 rw [List.map_map] at h2
 subst h2
 refine ⟨rfl,rfl,?_⟩
 simp only [Bool.and_eq_true] at hl
 obtain ⟨β2,d1,d2⟩:=c1.ren hgh hl.1.1 hl.1.2 hl.2
 obtain ⟨v1,v2⟩:=alo (live:=live) c2
 obtain ⟨k1,_⟩:=jY hl.1.1
 refine ⟨Z1,β2,d2,ai6 (by rw [hF.size]) c2.defers (ren_RL d1 _ _ k1 v2 v1) ?_⟩
 rw [List.length_map]
 exact ren_okL _ k1 v2
inductive Rd (σ:Type) where
 |next (s:σ)
 |stop (x:Ex) (s:σ)
def rdV {σ:Type}(n:Nat) (A:σ→List LV) (B:σ→List aU):Rd σ→Vw
 | .next s'=>⟨.normal,n,A s',B s',true⟩
 | .stop x s'=>⟨x,n,A s',B s',true⟩
structure aEy {α:Type} (K:α→Prop) (t:T α):Prop where
 out:t.all K
def lT {σ:Type}(f:σ→Rd σ):Nat→σ→Ex×σ
 |0,s=>(.ret,s)
 |k+1,s=>match f s with
  | .next s'=>lT f k s'
  | .stop x s'=>(x,s')
theorem KH {σ:Type}{f:σ→Rd σ}{μ:σ→Nat}{I:σ→Prop}(hd:∀s s',I s→f s=.next s'→I s'∧μ s'<μ s):∀(k:Nat) (s:σ),I s→μ s<k→∃s',I s'∧f s'=.stop (lT f k s).1 (lT f k s).2
 |0,s,_,h=>by omega
 | k+1,s,hi,hk=>by
  simp only [lT]
  cases hf:f s with
  |next s'=>
   obtain ⟨h1,h2⟩:=hd s s' hi hf
   exact KH hd k s' h1 (by omega)
  |stop x s'=>exact ⟨s,hi,hf⟩
theorem T.agree {α:Type}{K:α→Prop}{p:α}:∀ {t:T α},t.all (fun x=>x=p)→t.all K→K p
 | .ok _,h,hk=>by simp only [T.all] at h hk;exact h▸hk
 | .br b t e,h,hk=>by
  cases b with
  |true=>exact T.agree (h.1 rfl) (hk.1 rfl)
  |false=>exact T.agree (h.2 rfl) (hk.2 rfl)
 | .req _ t,h,hk=>T.agree h.2 hk.2
 | .no,h,_=>by cases h
def ah7 {σ:Type}(N n:Nat) (live:List Nat) (us:List Up) (sel:List LV→List aU→T σ) (out:σ→T (Ex×List LV×List aU)) (F:List LV) (H:List aU):T (Ex×List LV×List aU):=
 if F.length=n then ((ap5 N live us .normal F H).bind fun v=>if v.low then sel v.vals v.BU else .no).bind out else .no
def asu (N:Nat) (live:List Nat) (us:List Up) (t:T (Ex×List LV×List aU)):T Vw:=t.bind fun q=>ap5 N live us q.1 q.2.1 q.2.2
def gI:LV→Int
 | .v (.int _ n)=>n
 | .ki _ n=>n
 |_=>0
def uT:LV→Bool
 | .v (.bool b)=>b
 | .bl b=>b
 |_=>false
def gSr:LV→ByteArray
 | .v (.string s)=>s
 |_=>ByteArray.empty
def gAn:LV→Value
 | .v y=>y
 |_=>undef
def aQ (e:Ty) (x:LV):List e.D:=(Ua e x).getD []
def gFn (x:LV) (j:Nat):LV:=
 match x with
 | .fn _ l=>l.getD j .junk
 |_=> .junk
def nD (x:LV) (j:Nat):LV:=
 match x with
 | .xq _ f=>f j
 |_=> .junk
def aO (H:List aU) (k:Nat):aU:=H.getD k ⟨[],0,.dead,false⟩
def aX (b:aU) (j:Nat):LV:=b.c.getD j .junk
def iT (e:Ty) (b:aU):List e.D:=
 match b.k with
 | .vec e' l=>(match Gx e' e with
  |some ⟨h⟩=>Ai h l
  |none=>[])
 |_=>[]
def gSe (e:Ty) (b:aU):List e.D:=
 match b.k with
 | .st e' l=>(match Gx e' e with
  |some ⟨h⟩=>Ai h l
  |none=>[])
 |_=>[]
def azq {σ:Type}(E:σ→Prop) (A:σ→List LV) (B:σ→List aU) (s:σ) (vals:List LV) (BU:List aU):T σ:=.req (E s∧vals=A s∧BU=B s) (.ok s)
theorem amR {σ:Type}{E:σ→Prop}{A:σ→List LV}{B:σ→List aU}{s0 s:σ}{vals:List LV}{BU:List aU}(h:(azq E A B s0 vals BU).all (fun x=>x=s)):E s∧vals=A s∧BU=B s:=by
 obtain ⟨h1,rfl⟩:=h
 exact h1
theorem ad9 {σ:Type}(N n:Nat) (live:List Nat) (us:List Up) (A:σ→List LV) (B:σ→List aU) (I E:σ→Prop) (μ:σ→Nat) (f:σ→Rd σ) (sel:List LV→List aU→T σ) (out:σ→T (Ex×List LV×List aU)) {b:Code}{t:List LV→List aU→T (Ex×List LV×List aU)}(hb:bn P G (AN N) b t)
  (hsel:∀vals BU s,(sel vals BU).all (fun x=>x=s)→E s∧vals=A s∧BU=B s) (hEI:∀s,E s→I s)
  (hd:∀s s',I s→f s=.next s'→I s'∧μ s'<μ s)
  (hne:∀s x s',f s=.stop x s'→x≠ .normal)
  (step':∀s,I s→aEy (fun v=>v=rdV n A B (f s)) (asu N live us (t (kU n live (A s)) (B s))))
  (hout:∀s,E s→(out s).all fun q=>q=((lT f (μ s+1) s).1,kU n live (A (lT f (μ s+1) s).2),B (lT f (μ s+1) s).2)):
  bn P G (AN N) (.loop b) (ah7 N n live us sel out):=by
 intro r w0 Z0 Z β F H a w ds Q x F' H' hgh hr hD hW hF h hQ
 unfold ah7 at h
 split at h
 ·rename_i hlen
  obtain ⟨s,h0,h2⟩:=T.aZ h
  obtain ⟨v,hv,h1⟩:=T.aZ h0
  split at h1
  ·rename_i hlow
   obtain ⟨hE,hvv,hbk⟩:=hsel _ _ s h1
   have hI:=hEI s hE
   have h2:=T.agree h2 (hout s hE)
   simp only [Prod.mk.injEq] at h2
   obtain ⟨h2,h3,h4⟩:=h2
   obtain ⟨_,_,Z1,β1,hW1,hF1⟩:=yT hgh hW hF hv hlow
   rw [hlen,hvv,hbk] at hF1
   rw [hbk] at hW1
   subst h2 h3 h4
   refine wpIn_loop_rounds (μ s+1) ?_
   have key:∀(k:Nat) (s:σ) (ds:List Deferred) (Z:Nat→Prop) (β:Nat→Loc) (a:Act) (w:World),I s→μ s<k→JR w0 Z0 ds→RW G w0 Z0 Z β (B s) w→RF ds β Z w (B s).length (kU n live (A s)) a→
     (∀ds' Z' β' a' w',JR w0 Z0 ds'→RW G w0 Z0 Z' β' (B (lT f k s).2) w'→RF ds' β' Z' w' (B (lT f k s).2).length (kU n live (A (lT f k s).2)) a'→Q (aw1 (lT f k s).1) a' w')→Code.roundsIn (QO r) 0 P b Q k a w:=by
    intro k
    induction k with
    |zero=>intro s ds Z β a w _ h;omega
    | succ k ih=>
     intro s ds Z β a w hI hm hD hW hF hQ
     rw [roundsIn_succ]
     obtain ⟨v,h1,h2⟩:=T.pick (step' s hI).out
     obtain ⟨⟨x,F1,H1⟩,h3,h4⟩:=T.aZ h2
     refine hb r w0 Z0 Z β _ (B s) a w ds _ x F1 H1 hgh hr hD hW hF h3 fun ds' Z' β' a' w' e0 e1 e2=>?_
     cases hf:f s with
     |next s'=>
      rw [hf] at h1
      subst h1
      obtain ⟨g1,g2,Z2,β2,k1,k2⟩:=yT hgh e1 e2 h4 rfl
      simp only [rdV] at g1 g2 k1 k2
      subst g1
      obtain ⟨i1,i2⟩:=hd s s' hI hf
      rw [←g2] at k2
      refine ih s' ds' Z2 β2 a' w' i1 (by omega) e0 k1 k2 ?_
      have:lT f (k+1) s=lT f k s':=by simp only [lT,hf]
      rw [this] at hQ
      exact hQ
     |stop y s'=>
      rw [hf] at h1
      subst h1
      obtain ⟨g1,g2,Z2,β2,k1,k2⟩:=yT hgh e1 e2 h4 rfl
      simp only [rdV] at g1 g2 k1 k2
      subst g1
      have hn:=hne s y s' hf
      rw [←g2] at k2
      have:lT f (k+1) s=(y,s'):=by simp only [lT,hf]
      rw [this] at hQ
      have hq:=hQ ds' Z2 β2 a' w' e0 k1 k2
      cases y with
      |normal=>exact absurd rfl hn
      |exit k=>exact hq
      |ret=>exact hq
   exact key _ s ds Z1 β1 a w hI (Nat.lt_succ_self _) hD hW1 hF1 hQ
  ·cases h1
 ·cases h
def bJ {σ:Type}(Pn:σ→Prop) (Ps:Ex→σ→Prop):Rd σ→Prop
 | .next s=>Pn s
 | .stop x s=>Ps x s
theorem au {σ:Type}{Pn:σ→Prop}{Ps:Ex→σ→Prop}{c:Bool}{x y:Rd σ}(h1:c=true→bJ Pn Ps x) (h2:c=false→bJ Pn Ps y):bJ Pn Ps (if c=true then x else y):=by
 cases c with
 |true=>exact h1 rfl
 |false=>exact h2 rfl
theorem aex {σ:Type}{Pn:σ→Prop}{Ps:Ex→σ→Prop}{r:Rd σ}(h:bJ Pn Ps r) {s:σ}(e:r=.next s):Pn s:=by subst e;exact h
theorem xO {σ:Type}{Pn:σ→Prop}{Ps:Ex→σ→Prop}{r:Rd σ}(h:bJ Pn Ps r) {x:Ex}{s:σ}(e:r=.stop x s):Ps x s:=by subst e;exact h
def iw:Ex→Ex→Bool
 | .normal,.normal=>true
 | .ret,.ret=>true
 | .exit n,.exit m=>n==m
 |_,_=>false
theorem SA {S Y:Type}{f:S→Rd S}{I:S→Prop}{μ:S→Nat}{V:S→Y}{Q:Ex→S→Y→Prop}(hd:∀s s',I s→f s=.next s'→I s'∧μ s'<μ s) (hv:∀s,I s→bJ (fun s'=>V s'=V s) (fun x s'=>Q x s' (V s)) (f s)):∀(k:Nat) (s:S),I s→μ s<k→Q (lT f k s).1 (lT f k s).2 (V s)
 |0,s,_,h=>by omega
 | k+1,s,h,hk=>by
  have h2:=hv s h
  simp only [lT]
  cases e:f s with
  |next s'=>
   rw [e] at h2
   obtain ⟨d1,d2⟩:=hd s s' h e
   have:=SA hd hv k s' d1 (by omega)
   simp only
   rw [show V s=V s' from h2.symm]
   exact this
  |stop x s'=>
   rw [e] at h2
   exact h2
def T.rd {σ:Type}(s:σ):T (Rd σ)→Rd σ
 | .ok x=>x
 | .br b x y=>if b=true then x.rd s else y.rd s
 | .req _ x=>x.rd s
 | .no=> .stop .normal s
def T.mp {α β:Type}(k:α→β):T α→T β
 | .ok x=> .ok (k x)
 | .br b x y=> .br b (x.mp k) (y.mp k)
 | .req p x=> .req p (x.mp k)
 | .no=> .no
theorem T.PK {α β:Type}{k:α→β}{K:β→Prop}:∀ {t:T α},t.all (fun x=>K (k x))→(t.mp k).all K
 | .ok _,h=>h
 | .br _ _ _,h=>⟨fun c=>T.PK (h.1 c),fun c=>T.PK (h.2 c)⟩
 | .req _ _,h=>⟨h.1,T.PK h.2⟩
 | .no,h=>h
theorem T.Og {σ:Type}{s:σ}:∀ {t:T (Rd σ)},t.all (fun _=>True)→t.all (fun x=>x=t.rd s)
 | .ok _,_=>rfl
 | .br b _ _,h=>by
  cases b with
  |true=>exact ⟨fun c=>T.Og (h.1 c),fun c=>by cases c⟩
  |false=>exact ⟨fun c=>(by cases c),fun c=>T.Og (h.2 c)⟩
 | .req _ _,h=>⟨h.1,T.Og h.2⟩
 | .no,h=>h
theorem T.KJ {σ:Type}{s:σ}{k:Rd σ→Rd σ}(h0:k (.stop .normal s)=.stop .normal s):∀ {t:T (Rd σ)},t.mp k=t→k (t.rd s)=t.rd s
 | .ok x,h=>by
  simp only [T.mp,T.ok.injEq] at h
  simp only [T.rd,h]
 | .br b x y,h=>by
  simp only [T.mp,T.br.injEq,true_and] at h
  simp only [T.rd]
  split
  ·exact T.KJ h0 h.1
  ·exact T.KJ h0 h.2
 | .req _ x,h=>by
  simp only [T.mp,T.req.injEq,true_and] at h
  exact T.KJ (t:=x) h0 h
 | .no,_=>h0
structure bK (σ:Type) where
 N:Nat
 n:Nat
 lv:List Nat
 us:List Up
 A:σ→List LV
 B:σ→List aU
 g:List LV→List aU→σ
 t:σ→T (Rd σ)
 kp:σ→σ→σ
 rd:σ→σ
 fx:Ex→σ→σ
 xs:List Ex
 E:σ→Prop
 I:σ→Prop
 mu:σ→Nat
def outT {β:Type}(e:Ex) (k:Ex→β):List Ex→T β
 | []=> .no
 | [x]=> .ok (k x)
 |x::y::xs=> .br (iw e x) (.ok (k x)) (outT e k (y::xs))
theorem aaA:∀ {x y:Ex},iw x y=true→x=y
 | .normal,.normal,_=>rfl
 | .ret,.ret,_=>rfl
 | .exit _,.exit _,h=>by simpa [iw] using h
theorem SQ {β:Type}{e:Ex}{k:Ex→β}:∀ {xs:List Ex},xs.any (iw e)=true→(outT e k xs).all (fun q=>q=k e)
 | [],h=>by cases h
 | [x],h=>by
  simp only [List.any_cons,List.any_nil,Bool.or_false] at h
  rw [aaA h];rfl
 |x::y::xs,h=>by
  refine ⟨fun c=>?_,fun c=>SQ ?_⟩
  ·rw [aaA c];rfl
  ·rw [List.any_cons,c,Bool.false_or] at h;exact h
def exB {σ:Type}(xs:List Ex):T (Rd σ)→Bool
 | .ok (.next _)=>true
 | .ok (.stop x _)=>xs.any (iw x)&&!iw x .normal
 | .br _ x y=>exB xs x&&exB xs y
 | .req _ x=>exB xs x
 | .no=>false
theorem I7 {σ:Type}{xs:List Ex}{s s':σ}{x:Ex}:∀ {t:T (Rd σ)},exB xs t=true→t.rd s=.stop x s'→xs.any (iw x)=true∧x≠ .normal
 | .ok (.next _),_,h=>by cases h
 | .ok (.stop y _),h,e=>by
  simp only [T.rd,Rd.stop.injEq] at e
  simp only [exB,Bool.and_eq_true,Bool.not_eq_true'] at h
  rw [e.1] at h
  refine ⟨h.1,fun e=>?_⟩
  rw [e] at h
  exact absurd h.2 (by simp [iw])
 | .br b x y,h,e=>by
  simp only [exB,Bool.and_eq_true] at h
  simp only [T.rd] at e
  split at e
  ·exact I7 h.1 e
  ·exact I7 h.2 e
 | .req _ x,h,e=>I7 (t:=x) h e
 | .no,h,_=>by cases h
namespace bK
variable {σ : Type} (D : bK σ)
def f (s:σ):Rd σ:=(D.t s).rd s
def run (s:σ):σ:=D.kp s (lT D.f (D.mu s+1) s).2
def jG (s:σ):Ex:=(lT D.f (D.mu s+1) s).1
def sel (vals:List LV) (BU:List aU):T σ:=azq D.E D.A D.B (D.g vals BU) vals BU
def out (s:σ):T (Ex×List LV×List aU):=outT (D.jG s) (fun x=>(x,kU D.n D.lv (D.A (D.fx x (D.run s))),D.B (D.fx x (D.run s)))) D.xs
def lp:List LV→List aU→T (Ex×List LV×List aU):=ah7 D.N D.n D.lv D.us D.sel D.out
def q (s:σ):Prop:=D.E s∧D.A s=D.A s∧D.B s=D.B s
def kpR (s:σ):Rd σ→Rd σ
 | .next s'=> .next (D.kp s s')
 | .stop x s'=> .stop x (D.kp s s')
def fxR:Rd σ→Rd σ
 | .next s'=> .next s'
 | .stop x s'=> .stop x (D.fx x s')
structure Ok:Prop where
 keep:∀s,(D.t (D.rd s)).mp (D.kpR (D.rd s))=D.t (D.rd s)
 fix:∀s,(D.t (D.rd s)).mp D.fxR=D.t (D.rd s)
 aAu:∀s,D.kp s s=s
 aAt:∀s t r,D.kp (D.kp s t) r=D.kp s r
 fx0:∀s,D.fx .normal (D.rd s)=D.rd s
 exs:∀s,exB D.xs (D.t s)=true
structure Pf (Q:Ex→σ→σ→Prop):Prop where
 ei:∀s,D.E s→D.I s
 rdy:∀s,D.I s→D.rd s=s
 da:∀s,D.I s→bJ (fun s'=>D.I s'∧D.mu s'<D.mu s) (fun x s'=>Q x s s') (D.f s)
 rq:∀s,D.I s→(D.t s).all (fun _=>True)
variable {D} {Q : Ex → σ → σ → Prop}
theorem Pf.nx (p:D.Pf Q) (s s':σ) (h:D.I s) (e:D.f s=.next s'):D.I s'∧D.mu s'<D.mu s:=aex (p.da s h) e
theorem kept (o:D.Ok) (p:D.Pf Q):∀(k:Nat) (s:σ),D.I s→D.mu s<k→D.kp s (lT D.f k s).2=(lT D.f k s).2∧D.fx (lT D.f k s).1 (lT D.f k s).2=(lT D.f k s).2∧D.xs.any (iw (lT D.f k s).1)=true
 |0,_,_,h=>by omega
 | k+1,s,hI,hk=>by
  have h1:=o.keep s
  have h2:=o.fix s
  have h0:=o.fx0 s
  rw [p.rdy s hI] at h0 h1 h2
  have hl:=T.KJ (s:=s) (by simp only [kpR,o.aAu]) h1
  have hx:=T.KJ (s:=s) (by simp only [fxR,h0]) h2
  change D.kpR s (D.f s)=D.f s at hl
  change D.fxR (D.f s)=D.f s at hx
  simp only [lT]
  cases hf:D.f s with
  |next s'=>
   rw [hf] at hl
   simp only [kpR,Rd.next.injEq] at hl
   obtain ⟨h1,h2⟩:=p.nx s s' hI hf
   obtain ⟨h3,h4⟩:=kept o p k s' h1 (by omega)
   refine ⟨?_,h4⟩
   have e:=o.aAt s s' (lT D.f k s').2
   rw [hl,h3] at e
   exact e.symm
  |stop x s'=>
   rw [hf] at hl hx
   simp only [kpR,fxR,Rd.stop.injEq,true_and] at hl hx
   exact ⟨hl,hx,(I7 (o.exs s) hf).1⟩
theorem run_eq (o:D.Ok) (p:D.Pf Q) {s:σ}(hE:D.E s):(lT D.f (D.mu s+1) s).2=D.run s:=(kept o p _ s (p.ei s hE) (Nat.lt_succ_self _)).1.symm
theorem end_ (o:D.Ok) (p:D.Pf Q) (s:σ) (hE:D.E s):∃s',D.I s'∧D.f s'=.stop (D.jG s) (D.run s):=by
 rw [←run_eq o p hE]
 exact KH p.nx (D.mu s+1) s (p.ei s hE) (Nat.lt_succ_self _)
theorem fin (o:D.Ok) (p:D.Pf Q) (s:σ) (hE:D.E s):∃s',D.I s'∧Q (D.jG s) s' (D.run s):=by
 obtain ⟨s',hI,hf⟩:=end_ o p s hE
 exact ⟨s',hI,xO (p.da s' hI) hf⟩
theorem snd (o:D.Ok) (p:D.Pf Q) {b:Code}{t:List LV→List aU→T (Ex×List LV×List aU)}(hb:bn P G (AN D.N) b t)
  (hn:∀s,asu D.N D.lv D.us (t (kU D.n D.lv (D.A (D.rd s))) (D.B (D.rd s)))=(D.t (D.rd s)).mp (rdV D.n D.A D.B)):bn P G (AN D.N) (.loop b) D.lp:=by
 refine ad9 D.N D.n D.lv D.us D.A D.B D.I D.E D.mu D.f D.sel D.out hb (fun _ _ _ h=>amR h) p.ei p.nx (fun s x s' hf=>(I7 (o.exs s) hf).2) (fun s hI=>⟨?_⟩) fun s hE=>?_
 ·have h:=hn s
  rw [p.rdy s hI] at h
  rw [h]
  exact T.PK (T.bC (fun x hx=>by rw [hx];rfl) (T.Og (s:=s) (p.rq s hI)))
 ·obtain ⟨h1,h2,h3⟩:=kept o p _ s (p.ei s hE) (Nat.lt_succ_self (D.mu s))
  have h4:=SQ (k:=fun x=>(x,kU D.n D.lv (D.A (D.fx x (D.run s))),D.B (D.fx x (D.run s)))) h3
  refine T.bC (fun q hq=>?_) h4
  rw [hq]
  simp only [run,h1,h2]
theorem wu (o:D.Ok) (p:D.Pf Q) {Y:Type}(V:σ→Y) (K:Ex→σ→Y→Prop) (hv:∀s,D.I s→bJ (fun s'=>V s'=V s) (fun x s'=>K x s' (V s)) (D.f s)) (s:σ) (hE:D.E s):K (D.jG s) (D.run s) (V s):=by
 rw [←run_eq o p hE]
 exact SA p.nx hv (D.mu s+1) s (p.ei s hE) (Nat.lt_succ_self _)
theorem uS (o:D.Ok) (p:D.Pf Q) {Y:Type}(V:σ→Y) (hv:∀s,D.I s→bJ (fun s'=>V s'=V s) (fun _ s'=>V s'=V s) (D.f s)) (s:σ) (hE:D.E s):V (D.run s)=V s:=wu o p V (fun _ s' v=>V s'=v) hv s hE
def stR (s:σ):Rd σ→Rd σ
 | .next s'=> .next s'
 | .stop x _=> .stop x s
theorem inv (o:D.Ok) (p:D.Pf Q) (hs:∀s,(D.t s).mp (stR s)=D.t s) (s:σ) (hE:D.E s):D.I (D.run s)∧D.f (D.run s)=.stop (D.jG s) (D.run s):=by
 obtain ⟨s',hI,hf⟩:=end_ o p s hE
 have h:=T.KJ (s:=s') (k:=stR s') rfl (hs s')
 have h:stR s' (D.f s')=D.f s':=h
 rw [hf] at h
 simp only [stR,Rd.stop.injEq,true_and] at h
 subst h
 exact ⟨hI,hf⟩
end bK
end Go.Sx
namespace Go.Sx
open Go Go.RowKit Go.Proofs.YtlihnbimgclogaaGreatDoor
variable {P : Program} {G : bW} {Γ : Specs} {K : Hand} {L : Cj} {β : Nat → Loc} {Z : Nat → Prop} {w : World} {n : Nat}
def aBA (k:IntKind) (x y:Int):Int:=k.wrap ((BitVec.ofInt k.bits x&&&BitVec.ofInt k.bits y).toNat)
def gi (l:List Int) (n:Int):Int:=l.getD n.toNat 0
theorem nH {l:List Int}{n:Int}(h:n.toNat<l.length):gi l n=l[n.toNat]:=by simp [gi,List.getD,List.getElem?_eq_getElem h]
theorem kX {l:List Int}{n:Int}(h:n.toNat<l.length):gi l n∈l:=by rw [nH h];exact List.getElem_mem h
theorem aaJ {α:Type}{f:LV→Option α}{l:List LV}{d:α}{ys:List Value}(h:hd1 f l=some d) (hr:RL β Z w l ys):∃x y,f x=some d∧ys=[y]∧R β Z w x y:=by
 unfold hd1 at h
 split at h
 ·rename_i x
  simp only [RL] at hr
  obtain ⟨y,zs,rfl,h3,rfl⟩:=hr
  exact ⟨x,y,h,rfl,h3⟩
 ·cases h
theorem RL.one {x:LV}{y:Value}(h:R β Z w x y):RL β Z w [x] [y]:=by simp only [RL];exact ⟨y,[],rfl,h,rfl⟩
theorem wz:∀(t:Ty) (cs:List LV) (d:t.D) (ys:List Value),qN t cs=some d→RL β Z w cs ys→RL β Z w (fE t d) ys
 | .int k,cs,d,ys,h,hr=>by
  simp only [qN] at h
  obtain ⟨x,y,h1,rfl,h3⟩:=aaJ h hr
  unfold axe at h1
  split at h1
  ·split at h1
   ·rename_i hk;simp only [Option.some.injEq] at h1;subst h1 hk;exact RL.one h3
   ·cases h1
  ·split at h1
   ·rename_i hk;simp only [Option.some.injEq] at h1;subst h1 hk;exact RL.one (by simp only [R] at*;exact h3)
   ·cases h1
  ·cases h1
 | .bool,cs,d,ys,h,hr=>by
  simp only [qN] at h
  obtain ⟨x,y,h1,rfl,h3⟩:=aaJ h hr
  unfold axf at h1
  split at h1
  ·simp only [Option.some.injEq] at h1;subst h1;exact RL.one h3
  ·simp only [Option.some.injEq] at h1;subst h1;exact RL.one (by simp only [R] at*;exact h3)
  ·cases h1
 | .str,cs,d,ys,h,hr=>by
  simp only [qN] at h
  obtain ⟨x,y,h1,rfl,h3⟩:=aaJ h hr
  unfold axd at h1
  split at h1
  ·simp only [Option.some.injEq] at h1;subst h1;exact RL.one h3
  ·cases h1
 | .sl e,cs,d,ys,h,hr=>by
  simp only [qN] at h
  obtain ⟨x,y,h1,rfl,h3⟩:=aaJ h hr
  exact RL.one (Xw h1 h3)
 | .pair a b,cs,d,ys,h,hr=>by
  simp only [qN] at h
  split at h
  ·rename_i x y h1 h2
   simp only [Option.some.injEq] at h
   subst h
   have e1:=wz a _ x _ h1 (hr.take a.n)
   have e2:=wz b _ y _ h2 (hr.drop a.n)
   simp only [fE]
   rw [←List.take_append_drop a.n ys]
   exact e1.app e2
  ·cases h
def upV (P:Program) (t:TypeId) (x:LV):LV:=
 match xQ P 8 t,aey P t with
 | some ty,some true=>match x with
  | .v (.agg ys)=>(match qN ty (ys.toList.map .v) with
   |some d=>rE (fE ty d)
   |none=>x)
  | .agg l=>(match qN ty l with
   |some d=>rE (fE ty d)
   |none=>x)
  |_=>x
 | some ty,some false=>(match qN ty [x] with
  |some d=>(match fE ty d with
   | [c]=>c
   |_=>x)
  |none=>x)
 |_,_=>x
def upL (P:Program):List TypeId→List LV→List LV
 |t::ts,x::xs=>upV P t x::upL P ts xs
 |_,xs=>xs
def upR (P:Program) (ts:List TypeId) (x:LV):LV:=
 match ts with
 | [t]=>upV P t x
 |ts=>match x with
  | .v (.tuple ys)=>Ig (upL P ts (ys.toList.map .v))
  | .iD l=>Ig (upL P ts l)
  |x=>x
theorem RL.plain:∀(ys:List Value),RL β Z w (ys.map .v) ys
 | []=>by simp [RL]
 |y::ys=>by simp only [List.map_cons,RL];exact ⟨y,ys,rfl,by simp only [R],RL.plain ys⟩
theorem KQ:∀(ys:List Value),dn n (ys.map .v)
 | []=>trivial
 |_::ys=>⟨trivial,KQ ys⟩
theorem aqt {t:TypeId}{x:LV}{y:Value}(h:R β Z w x y):R β Z w (upV P t x) y:=by
 unfold upV
 split
 ·split
  ·split
   ·rename_i d hd
    simp only [R] at h
    subst h
    exact rD (wz _ _ d _ hd (RL.plain _))
   ·exact h
  ·split
   ·rename_i d hd
    simp only [R] at h
    obtain ⟨ys,rfl,h2⟩:=h
    exact rD (wz _ _ d _ hd h2)
   ·exact h
  ·exact h
 ·split
  ·rename_i d hd
   split
   ·rename_i c hc
    have:=wz _ _ d _ hd (RL.one h)
    rw [hc] at this
    simp only [RL] at this
    obtain ⟨y',zs,e1,e2,e3⟩:=this
    simp only [List.cons.injEq] at e1
    rw [e1.1];exact e2
   ·exact h
  ·exact h
 ·exact h
theorem ae3 {t:TypeId}{x:LV}(h:okV n x):okV n (upV P t x):=by
 unfold upV
 split
 ·split
  ·split
   ·exact oI (oq _ _ _)
   ·exact h
  ·split
   ·exact oI (oq _ _ _)
   ·exact h
  ·exact h
 ·split
  ·rename_i d hd
   split
   ·rename_i c hc
    have:=oq n _ d
    rw [hc] at this
    exact this.1
   ·exact h
  ·exact h
 ·exact h
theorem YU:∀ {ts:List TypeId}{l:List LV}{ys:List Value},RL β Z w l ys→RL β Z w (upL P ts l) ys
 | [],l,ys,h=>by simpa only [upL] using h
 |_::_,[],ys,h=>by simpa only [upL] using h
 |t::ts,x::xs,ys,h=>by
  simp only [upL,RL] at h⊢
  obtain ⟨y,zs,h1,h2,h3⟩:=h
  exact ⟨y,zs,h1,aqt h2,YU h3⟩
theorem NP:∀ {ts:List TypeId}{l:List LV},dn n l→dn n (upL P ts l)
 | [],l,h=>by simpa only [upL] using h
 |_::_,[],h=>by simpa only [upL] using h
 |t::ts,x::xs,h=>by
  simp only [upL,dn] at h⊢
  exact ⟨ae3 h.1,NP h.2⟩
theorem aze {ts:List TypeId}{x:LV}{y:Value}(h:R β Z w x y):R β Z w (upR P ts x) y:=by
 unfold upR
 split
 ·exact aqt h
 ·split
  ·simp only [R] at h
   subst h
   exact PO (YU (RL.plain _))
  ·simp only [R] at h
   obtain ⟨ys,rfl,h2⟩:=h
   exact PO (YU h2)
  ·exact h
theorem atM {ts:List TypeId}{x:LV}(h:okV n x):okV n (upR P ts x):=by
 unfold upR
 split
 ·exact ae3 h
 ·split
  ·exact Ie (NP (KQ _))
  ·exact Ie (NP (by simpa only [okV] using h))
  ·exact h
def gJ (P:Program) (ts:List TypeId) (S:List LV→T LV):List LV→T LV:=fun l=>S (upL P ts l)
theorem Valid.up {f:FuncId}{S:List LV→T LV}(h:Valid P G f S) (ts:List TypeId):Valid P G f (gJ P ts S):=by
 intro args vals w Z lv hz hg hok hr hs
 exact h (upL P ts args) vals w Z lv hz hg (NP hok) (YU hr) hs
/-A pointer to cells that are only read,told by the cells. -/
mutual
def canX:LV→LV
 | .xq n f=> .xq n (fun j=>((List.range n).map fun i=>canX (f i)).getD j .junk)
 | .fn f l=> .fn f (canL l)
 |x=>x
def canL:List LV→List LV
 | []=>[]
 |x::xs=>canX x::canL xs
end
mutual
theorem canX_R:∀ {x:LV}{y:Value},R β Z w x y→R β Z w (canX x) y
 | .xq n f,y,h=>by
  simp only [canX,R] at h⊢
  obtain ⟨b,off,h1,hz,h2⟩:=h
  refine ⟨b,off,h1,hz,fun j hj=>?_⟩
  have e:((List.range n).map fun i=>canX (f i)).getD j .junk=canX (f j):=by simp [List.getD,hj]
  rw [e]
  obtain ⟨z,e1,e2⟩:=h2 j hj
  exact ⟨z,e1,canX_R e2⟩
 | .fn f l,y,h=>by
  simp only [canX,R] at h⊢
  obtain ⟨ys,h1,h2⟩:=h
  exact ⟨ys,h1,canL_R h2⟩
 | .v _,_,h=>h
 | .bl _,_,h=>h
 | .ki _ _,_,h=>h
 | .own _ _,_,h=>h
 | .agg _,_,h=>h
 | .iD _,_,h=>h
 | .xl _ _,_,h=>h
 | .os ..,_,h=>h
 | .op ..,_,h=>h
 | .om _,_,h=>h
 | .mp ..,_,h=>h
 | .oc ..,_,h=>h
 | .uN _,_,h=>h
 | .junk,_,h=>h
theorem canL_R:∀ {l:List LV}{ys:List Value},RL β Z w l ys→RL β Z w (canL l) ys
 | [],ys,h=>by simpa only [canL,RL] using h
 |x::xs,ys,h=>by
  simp only [canL,RL] at h⊢
  obtain ⟨y,zs,h1,h2,h3⟩:=h
  exact ⟨y,zs,h1,canX_R h2,canL_R h3⟩
end
mutual
theorem canX_ok:∀ {n:Nat}{x:LV},okV n x→okV n (canX x)
 | _,.xq m f,h=>by
  simp only [canX,okV] at h⊢
  intro j
  by_cases hj:j<m
  ·have e:((List.range m).map fun i=>canX (f i)).getD j .junk=canX (f j):=by simp [List.getD,hj]
   rw [e];exact canX_ok (h j)
  ·have e:((List.range m).map fun i=>canX (f i)).getD j .junk=.junk:=by simp [List.getD,hj]
   rw [e];trivial
 |_,.fn f l,h=>by
  simp only [canX,okV] at h⊢
  exact canL_ok h
 |_,.v _,h=>h
 |_,.bl _,h=>h
 |_,.ki _ _,h=>h
 |_,.own _ _,h=>h
 |_,.agg _,h=>h
 |_,.iD _,h=>h
 |_,.xl _ _,h=>h
 |_,.os ..,h=>h
 |_,.op ..,h=>h
 |_,.om _,h=>h
 |_,.mp ..,h=>h
 |_,.oc ..,h=>h
 |_,.uN _,h=>h
 |_,.junk,h=>h
theorem canL_ok:∀ {n:Nat}{l:List LV},dn n l→dn n (canL l)
 |_,[],h=>h
 |_,x::xs,h=>by
  simp only [canL,dn] at h⊢
  exact ⟨canX_ok h.1,canL_ok h.2⟩
end
theorem o9 {n:Nat}{f:Nat→LV}{l:List LV}(h:(List.range n).map f=l):((List.range n).map fun i=>canX (f i))=canL l:=by
 have e:∀l:List LV,canL l=l.map canX:=fun l=>by induction l with
  |nil=>rfl
  |cons x l ih=>simp only [canL,ih,List.map_cons]
 rw [e,←h,List.map_map]
 rfl
def bT (P:Program) (G:bW) (Γ:Specs) (K:Hand) (L:Cj) (fn:Func) (args:List LV):T LV:=(ao6 P G Γ K L fn args).bind fun x=> .ok (canX (upR P fn.resultTypes.toList x))
theorem aH {f:FuncId}{fn:Func}{c:Code}{S:List LV→T LV}(hfn:P.funcs[f]? =some fn) (hc:fn.body=some c) (hΓ:∀g S,Γ g=some S→Valid P G g S) (hK:dL P G K)
  (hL:∀b∈aB c,Sound P G (.loop b) (L (o8 b))) (hS:∀args lv,(S args).all (fun x=>x=lv)→(bT P G Γ K L fn (canL args)).all (fun x=>x=lv)):Valid P G f (gJ P fn.params.toList S):=by
 refine Valid.up ?_ _
 have h0:Valid P G f (fun l=>ao6 P G Γ K L fn l):=aeS hfn hc hΓ hK hL (fun _ _ h=>h)
 intro args vals w Z lv hz hg hok hr hs
 have hs:=hS args lv hs
 unfold bT at hs
 obtain ⟨x,h1,h2⟩:=T.aZ hs
 simp only [T.all] at h2
 subst h2
 exact Calls.mono (h0 (canL args) vals w Z x hz hg (canL_ok hok) (canL_R hr) h1) (fun e w' ⟨e1,v,e2,e3,e4⟩=>⟨e1,v,e2,canX_ok (atM e3),canX_R (aze e4)⟩)
def T.red {α:Type}:T α→T α
 | .br true t _=>T.red t
 | .br false _ e=>T.red e
 | .req p t=> .req p (T.red t)
 |t=>t
theorem T.Gq {α:Type}{K:α→Prop}:∀ {t:T α},t.red.all K→t.all K
 | .ok _,h=>h
 | .br true t e,h=>⟨fun _=>T.Gq h,fun hb=>by cases hb⟩
 | .br false t e,h=>⟨fun hb=>(by cases hb),fun _=>T.Gq h⟩
 | .req p t,h=>⟨h.1,T.Gq h.2⟩
 | .no,h=>h
end Go.Sx
namespace Go.Proofs.YtlihnbimgclogaaGreatDoor
open Go.Sx
abbrev dU:Ty:=.pair .str (.pair (.int .i64) (.pair (.int .i64) (.pair (.int .i64) (.pair (.pair (.int .i64) (.int .i64)) (.pair (.int .i64) (.pair (.int .i64) (.pair (.int .i64) (.pair (.int .i64) (.int .i64)))))))))
abbrev dW:Ty:=.pair .str (.pair (.int .i64) (.pair (.int .i64) (.int .i64)))
abbrev dM:Ty:=.pair .str (.pair (.int .i64) (.pair (.int .i64) (.pair (.int .i64) (.pair (.int .i64) (.pair (.int .i64) (.pair (.int .i64) (.int .i64)))))))
abbrev dX:Ty:=.pair .str (.int .i64)
abbrev Cbl:=Int×Int×Int×Int×Int
abbrev Cd:=ByteArray×Int×Int×Int×(Int×Int)×Cbl
abbrev Ko:=ByteArray×Int×Int×Int
abbrev Ch:=ByteArray×Int×Int×Int×Int×Int×Int×Int
abbrev Ba:=ByteArray×Int
theorem aK {x:Int}(h1:-9223372036854775808≤x) (h2:x≤9223372036854775807):IntKind.i64.wrap x=x:=by
 simp [IntKind.wrap,IntKind.bits,IntKind.signed]
 omega
def inB (n a b:Int):Bool:=decide (n≥a)&&decide (n≤b)
theorem eU {n a b:Int}:inB n a b=true↔a≤n∧n≤b:=by simp [inB]
theorem vY {α:Type}{l:List α}{d:α}{n:Int}(h:n.toNat<l.length):l.getD n.toNat d=l[n.toNat]:=by simp [List.getD,List.getElem?_eq_getElem h]
theorem uD {α:Type}{l:List α}{d:α}{i:Int}(h0:0≤i) (h:i<l.length):l.drop i.toNat=l.getD i.toNat d::l.drop (i+1).toNat∧l.take (i+1).toNat=l.take i.toNat++[l.getD i.toNat d]:=by
 have hlt:i.toNat<l.length:=by omega
 rw [vY hlt,show (i+1).toNat=i.toNat+1 by omega,List.take_add_one,List.getElem?_eq_getElem hlt,List.drop_eq_getElem_cons hlt]
 exact ⟨rfl,rfl⟩
def emp:ByteArray:=ByteArray.mk #[]
def fO (l:List Cd) (n:Int):Cd:=l.getD n.toNat (emp,0,0,0,(0,0),0,0,0,0,0)
def aW (l:List Ch) (n:Int):Ch:=l.getD n.toNat (emp,0,0,0,0,0,0,0)
def nG (l:List Ko) (n:Int):Ko:=l.getD n.toNat (emp,0,0,0)
def CJ (l:List Ba) (n:Int):Ba:=l.getD n.toNat (emp,0)
def gS (l:List ByteArray) (n:Int):ByteArray:=l.getD n.toNat emp
theorem gi_step {l:List Int}{i:Int}(h0:0≤i) (h:i<l.length):l.drop i.toNat=gi l i::l.drop (i+1).toNat∧l.take (i+1).toNat=l.take i.toNat++[gi l i]:=by
 have hlt:i.toNat<l.length:=by omega
 rw [nH hlt,show (i+1).toNat=i.toNat+1 by omega,List.take_add_one,List.getElem?_eq_getElem hlt,List.drop_eq_getElem_cons hlt]
 exact ⟨rfl,rfl⟩
theorem awT {l:List Ch}{n:Int}(h:n.toNat<l.length):aW l n=l[n.toNat]:=vY h
theorem ai5 {l:List Ko}{n:Int}(h:n.toNat<l.length):nG l n=l[n.toNat]:=vY h
theorem aA8 {l:List ByteArray}{n:Int}(h:n.toNat<l.length):gS l n=l[n.toNat]:=vY h
theorem TP {l:List Cd}{i:Int}(h0:0≤i) (h:i<l.length):l.drop i.toNat=fO l i::l.drop (i+1).toNat∧l.take (i+1).toNat=l.take i.toNat++[fO l i]:=uD h0 h
theorem TN {l:List Ch}{i:Int}(h0:0≤i) (h:i<l.length):l.drop i.toNat=aW l i::l.drop (i+1).toNat∧l.take (i+1).toNat=l.take i.toNat++[aW l i]:=uD h0 h
theorem IV {l:List Ko}{i:Int}(h0:0≤i) (h:i<l.length):l.drop i.toNat=nG l i::l.drop (i+1).toNat∧l.take (i+1).toNat=l.take i.toNat++[nG l i]:=uD h0 h
theorem TQ {l:List Ba}{i:Int}(h0:0≤i) (h:i<l.length):l.drop i.toNat=CJ l i::l.drop (i+1).toNat∧l.take (i+1).toNat=l.take i.toNat++[CJ l i]:=uD h0 h
theorem uF {l:List ByteArray}{i:Int}(h0:0≤i) (h:i<l.length):l.drop i.toNat=gS l i::l.drop (i+1).toNat∧l.take (i+1).toNat=l.take i.toNat++[gS l i]:=uD h0 h
def kC (mi ma st:Int):Bool:=decide (1≤mi)&&(decide (mi≤ma)&&(decide (ma≤80)&&(decide (1≤st)&&decide (st≤80))))
theorem dV {mi ma st:Int}:kC mi ma st=true↔1≤mi∧mi≤ma∧ma≤80∧1≤st∧st≤80:=by simp [kC]
def pI (mi ma st:Int):Int:=if kC mi ma st then (ma-mi) / st+2 else 0
def BX (mi st k:Int):Int:=if k=0 then 0 else mi+(k-1)*st
def amE (mi ma st k:Int):Int:=if k<0∨pI mi ma st≤k then 1 else 0
def Qv (mi ma st k:Int):Int:=if k<0∨pI mi ma st≤k then 0 else BX mi st k
def QN (mi ma st a:Int):Int:=if kC mi ma st=false∨a<0 then -1 else if a<mi then 0 else min (pI mi ma st-1) ((a-mi) / st+1)
theorem Dv {x st:Int}(h0:0≤x) (h1:1≤st):0≤x / st∧x / st≤x:=⟨Int.ediv_nonneg h0 (by omega),Int.ediv_le_self _ h0⟩
theorem PW {mi ma st:Int}:0≤pI mi ma st∧pI mi ma st≤81:=by
 unfold pI
 split
 ·rename_i h
  have:=dV.1 h
  have:=Dv (x:=ma-mi) (st:=st) (by omega) (by omega)
  omega
 ·omega
theorem F5 {mi ma st:Int}(h:kC mi ma st=true):2≤pI mi ma st:=by
 unfold pI
 rw [if_pos h]
 have:=dV.1 h
 have:=Dv (x:=ma-mi) (st:=st) (by omega) (by omega)
 omega
theorem Ij {mi ma st:Int}(h:kC mi ma st=false):pI mi ma st=0:=by simp [pI,h]
theorem awG {mi ma st k:Int}(h0:0≤k) (h:k<pI mi ma st):kC mi ma st=true:=by
 cases e:kC mi ma st with
 |true=>rfl
 |false=>rw [Ij e] at h;omega
theorem awj {a b:Int}(a0:0≤a) (a1:a≤1000) (b0:0≤b) (b1:b≤80):0≤a*b∧a*b≤80000:=
 ⟨Int.mul_nonneg a0 b0,Int.le_trans (Int.mul_le_mul_of_nonneg_left b1 a0) (by omega)⟩
theorem YX (bs:ByteArray):∀(n i:Nat) (r:List UInt8),bs.size-i=n→ByteArray.toList.loop bs i r=r.reverse++bs.data.toList.drop i
 |0,i,r,h=>by
  rw [ByteArray.toList.loop,if_neg (by omega),List.drop_eq_nil_of_le (by simp only [Array.length_toList];show bs.size≤i;omega),List.append_nil]
 | n+1,i,r,h=>by
  have hi:i<bs.data.toList.length:=by simp only [Array.length_toList];show i<bs.size;omega
  rw [ByteArray.toList.loop,if_pos (by omega),YX bs n (i+1) _ (by omega),List.reverse_cons,List.append_assoc,List.drop_eq_getElem_cons hi]
  have:bs.get! i=bs.data.toList[i]:=by
   have hi':i<bs.data.size:=by simpa using hi
   show bs.data[i]! =_
   rw [getElem!_pos bs.data i hi',Array.getElem_toList]
  rw [this]
  rfl
theorem YZ (bs:ByteArray):bs.toList=bs.data.toList:=by
 rw [ByteArray.toList,YX bs _ 0 [] rfl]
 rfl
theorem atQ {a b:ByteArray}(h:a.toList=b.toList):a=b:=by
 rw [YZ,YZ] at h
 cases a;cases b;simp at h;rw [h]
theorem XG {a b:ByteArray}:(a==b)=true↔a=b:=by
 show (a.data==b.data)=true↔_
 rw [beq_iff_eq]
 exact ⟨fun h=>by cases a;cases b;simp at h;rw [h],fun h=>by rw [h]⟩
instance:LawfulBEq ByteArray where
 eq_of_beq h:=XG.1 h
 rfl:=XG.2 rfl
theorem tX (a b:ByteArray):(a.toList==b.toList)=(a==b):=by
 rw [Bool.eq_iff_iff,beq_iff_eq,XG]
 exact ⟨atQ,fun h=>by rw [h]⟩
def kinds:List ByteArray:=[(ByteArray.mk #[102,101,101,100,101,114]),(ByteArray.mk #[99,97,98,108,101]),(ByteArray.mk #[111,119,110,101,114]),(ByteArray.mk #[99,111,110,116,114,97,99,116]),(ByteArray.mk #[99,104,97,114,103,101,114]),(ByteArray.mk #[98,97,121]),(ByteArray.mk #[116,97,114,105,102,102])]
def Ei:List ByteArray:=[(ByteArray.mk #[108,105,109,105,116]),(ByteArray.mk #[110,101,117,116,114,97,108]),(ByteArray.mk #[102,117,115,101]),(ByteArray.mk #[116,104,101,114,109,97,108]),(ByteArray.mk #[102,114,111,109]),(ByteArray.mk #[97,116]),(ByteArray.mk #[112,104,97,115,101,115]),(ByteArray.mk #[97,109,112,115]),(ByteArray.mk #[102,97,108,108,98,97,99,107]),(ByteArray.mk #[111,119,110,101,114]),(ByteArray.mk #[99,97,114,100]),(ByteArray.mk #[114,97,110,107]),(ByteArray.mk #[99,104,97,114,103,101,114])]
def oK:List ByteArray:=[(ByteArray.mk #[115,116,97,114,116]),(ByteArray.mk #[101,110,101,114,103,121]),(ByteArray.mk #[116,105,109,101]),(ByteArray.mk #[105,100,108,101]),(ByteArray.mk #[99,97,112]),(ByteArray.mk #[116,97,120])]
def words:List ByteArray:=[(ByteArray.mk #[111,110]),(ByteArray.mk #[119,111,114,107]),(ByteArray.mk #[115,97,116,117,114,100,97,121]),(ByteArray.mk #[115,117,110,100,97,121]),(ByteArray.mk #[98,101,116,119,101,101,110]),(ByteArray.mk #[112,101,114]),(ByteArray.mk #[102,114,101,101])]
def isIn (l:List ByteArray) (w:ByteArray):Bool:=l.any (w== ·)
def aed:Int→List ByteArray→ByteArray→Int
 |_,[],_=>0
 |n,x::l,w=>if w==x then n else aed (n+1) l w
theorem Tv:∀(n:Int) (l:List ByteArray) (w:ByteArray),0<n→(aed n l w !=0)=isIn l w
 |_,[],_,_=>rfl
 | n,x::l,w,h=>by
  simp only [aed,isIn,List.any_cons]
  split
  ·rename_i c;simp [c];omega
  ·rename_i c
   have:=Tv (n+1) l w (by omega)
   simp only [isIn] at this
   rw [this]
   simp [c]
def FK (w:ByteArray):Bool:=isIn kinds w ||(isIn Ei w ||(isIn oK w ||isIn words w))
def chA (b:Int):Bool:=decide (b≥97)&&decide (b≤122)
def chB (b:Int):Bool:=chA b ||((decide (b≥48)&&decide (b≤57)) ||b==95)
def gwB (w:ByteArray):Bool:=decide (1≤w.size∧w.size≤12)&&(chA (sG w 0)&&(List.range w.size).all fun i=>i==0 ||chB (sG w i))
def nameB (w:ByteArray):Bool:=gwB w&&!FK w
theorem mQ {p q:Prop}(h:p) (k:p→q):p∧q:=⟨h,k h⟩
def J6 (n:Nat) (f:Int→Bool):Bool:=(List.range n).all fun j=>f (j:Int)
theorem fQ {n:Nat}{f:Int→Bool}:J6 n f=true↔∀j:Nat,(j:Int)<(n:Int)→f j=true:=by
 unfold J6
 rw [List.all_eq_true]
 exact ⟨fun h j hj=>h j (List.mem_range.2 (by omega)),fun h j hj=>h j (by have:=List.mem_range.1 hj;omega)⟩
theorem uh {n:Nat}{f:Int→Bool}(j:Nat) (h:(j:Int)<(n:Int)) (hf:f j=false):J6 n f=false:=by
 rw [Bool.eq_false_iff]
 intro hx
 rw [fQ.1 hx j h] at hf
 cases hf
def cbZ (c:Cbl):Bool:=(c.1==0)&&((c.2.1==0)&&((c.2.2.1==0)&&((c.2.2.2.1==0)&&(c.2.2.2.2==0))))
def Qn (c:Cbl):Bool:=cbZ c ||(decide (0≤c.1)&&(decide (c.1<c.2.1)&&(decide (c.2.1≤200000)&&(inB c.2.2.1 0 1000&&(inB c.2.2.2.1 0 1000&&inB c.2.2.2.2 1 1000000)))))
def Eh (i:Int) (c:Cd):Bool:=(if i=0 then c.2.1==-1 else inB c.2.1 0 (i-1))&&(inB c.2.2.1 1 1000&&(inB c.2.2.2.1 1 1000&&(((c.2.2.2.2.1.1==0)&&(c.2.2.2.2.1.2==0) ||(inB c.2.2.2.2.1.1 1 1000&&inB c.2.2.2.2.1.2 0 1000000))&&Qn c.2.2.2.2.2)))
def chW (c:Ch):Bool:=inB c.2.2.1 1 7&&(inB c.2.2.2.1 1 80&&(inB c.2.2.2.2.1 c.2.2.2.1 80&&(inB c.2.2.2.2.2.1 1 80&&(c.2.2.2.2.2.2.1==0 ||inB c.2.2.2.2.2.2.1 c.2.2.2.1 c.2.2.2.2.1))))
def Gi (nc no:Int) (c:Ch):Bool:=inB c.2.1 0 (nc-1)&&(inB c.2.2.2.2.2.2.2 0 (no-1)&&chW c)
def koV (no:Int) (c:Ko):Bool:=inB c.2.1 0 (no-1)&&(inB c.2.2.1 1 9&&inB c.2.2.2 1 1000000)
def once {α:Type} [BEq α] (l:List α):Bool:=(List.range l.length).all fun j=>match l[j]? with
 |some x=>!((l.take j).contains x)
 |none=>true
theorem Ht {α:Type} [BEq α] [LawfulBEq α] {l:List α}:once l=true↔∀(j:Nat) (h:j<l.length),¬l[j]∈l.take j:=by
 unfold once
 rw [List.all_eq_true]
 refine ⟨fun h j hj hm=>?_,fun h j hj=>?_⟩
 ·have:=h j (List.mem_range.2 hj)
  rw [List.getElem?_eq_getElem hj] at this
  simp only [Bool.not_eq_true'] at this
  rw [List.contains_iff_mem.2 hm] at this
  cases this
 ·have hj:=List.mem_range.1 hj
  rw [List.getElem?_eq_getElem hj]
  simp only [Bool.not_eq_true']
  rw [Bool.eq_false_iff]
  exact fun hc=>h j hj (List.contains_iff_mem.1 hc)
def Vr (cs:List Cd) (os:List ByteArray) (ks:List Ko) (gs:List Ch) (bs:List Ba):Bool:=
 J6 cs.length (fun j=>Eh j (fO cs j))&&(ks.all (koV os.length)&&(once (ks.map (·.2.2.2))&&(gs.all (Gi cs.length os.length)&&bs.all (fun b=>inB b.2 0 ((gs.length:Int)-1)))))
def gB (cs:List Cd) (os:List ByteArray) (ks:List Ko) (gs:List Ch) (bs:List Ba):List ByteArray:=cs.map (·.1)++os++ks.map (·.1)++gs.map (·.1)++bs.map (·.1)
def fM (cs:List Cd) (os:List ByteArray) (ks:List Ko) (gs:List Ch) (bs:List Ba):Bool:=
 decide (1≤cs.length∧cs.length≤16∧os.length≤8∧ks.length≤32∧gs.length≤16∧bs.length≤24)&&((gB cs os ks gs bs).all nameB&&(once (gB cs os ks gs bs)&&Vr cs os ks gs bs))
theorem axp {nm:ByteArray}{i up li ne ra he am mo ga lo de:Int}(hi:0≤i) {K:Bool→Prop}(h:K (Eh i (nm,up,li,ne,(ra,he),am,mo,ga,lo,de))):
  ((if i==0 then (up !=(-1)) ||((decide (i>0))&&((decide (up<0)) ||(decide (up≥i)))) else (decide (i>0))&&((decide (up<0)) ||(decide (up≥i))))=true→K false)∧
  ((if i==0 then (up !=(-1)) ||((decide (i>0))&&((decide (up<0)) ||(decide (up≥i)))) else (decide (i>0))&&((decide (up<0)) ||(decide (up≥i))))=false→
   (((!(inB li (1:Int) (1000:Int))) ||(!(inB ne (1:Int) (1000:Int))))=true→K false)∧
   (((!(inB li (1:Int) (1000:Int))) ||(!(inB ne (1:Int) (1000:Int))))=false→
    (((!((ra==0)&&(he==0)))&&(!(inB ra (1:Int) (1000:Int)) ||(!(inB he (0:Int) (1000000:Int)))))=true→K false)∧
    (((!((ra==0)&&(he==0)))&&(!(inB ra (1:Int) (1000:Int)) ||(!(inB he (0:Int) (1000000:Int)))))=false→
     (((am==0)&&((mo==0)&&((ga==0)&&((lo==0)&&(de==0)))))=true→K true)∧
     (((am==0)&&((mo==0)&&((ga==0)&&((lo==0)&&(de==0)))))=false→K ((inB am (0:Int) (200000:Int))&&((inB mo (0:Int) (200000:Int))&&((inB ga (0:Int) (1000:Int))&&((inB lo (0:Int) (1000:Int))&&((inB de (1:Int) (1000000:Int))&&(decide (mo>am))))))))))):=by
 have e1:(if i==0 then (up !=(-1)) ||((decide (i>0))&&((decide (up<0)) ||(decide (up≥i)))) else (decide (i>0))&&((decide (up<0)) ||(decide (up≥i))))=!(if i=0 then up==-1 else inB up 0 (i-1)):=by
  by_cases h0:i=0
  ·subst h0;simp [bne]
  ·have:(i==0)=false:=by simpa using h0
   rw [this,if_neg h0,Bool.eq_iff_iff]
   simp [inB]
   omega
 rw [e1]
 unfold Eh at h
 simp only at h
 generalize (if i=0 then up==-1 else inB up 0 (i-1))=b1 at*
 refine ⟨fun c=>?_,fun c=>⟨fun c2=>?_,fun c2=>⟨fun c3=>?_,fun c3=>⟨fun c4=>?_,fun c4=>?_⟩⟩⟩⟩
 ·simp at c;rw [c] at h;exact h
 all_goals
  have c:b1=true:=by simpa using c
  rw [c,Bool.true_and] at h
 ·have:(inB li 1 1000&&inB ne 1 1000)=false:=by simp at c2⊢;cases q:inB li 1 1000<;>simp_all
  rw [←Bool.and_assoc,this] at h;exact h
 all_goals
  have c2:inB li 1 1000=true∧inB ne 1 1000=true:=by simpa using c2
  rw [c2.1,c2.2,Bool.true_and,Bool.true_and] at h
 ·have:((ra==0)&&(he==0) ||(inB ra 1 1000&&inB he 0 1000000))=false:=by
   revert c3;cases ((ra==0)&&(he==0))<;>cases inB ra 1 1000<;>cases inB he 0 1000000<;>simp
  rw [this] at h;exact h
 all_goals
  have:((ra==0)&&(he==0) ||(inB ra 1 1000&&inB he 0 1000000))=true:=by
   revert c3;cases ((ra==0)&&(he==0))<;>cases inB ra 1 1000<;>cases inB he 0 1000000<;>simp
  rw [this,Bool.true_and] at h
 ·unfold Qn cbZ at h
  simp only at h
  rw [c4] at h;exact h
 ·unfold Qn cbZ at h
  simp only at h
  rw [c4,Bool.false_or] at h
  have:((inB am (0:Int) (200000:Int))&&((inB mo (0:Int) (200000:Int))&&((inB ga (0:Int) (1000:Int))&&((inB lo (0:Int) (1000:Int))&&((inB de (1:Int) (1000000:Int))&&(decide (mo>am)))))))=(decide (0≤am)&&(decide (am<mo)&&(decide (mo≤200000)&&(inB ga 0 1000&&(inB lo 0 1000&&inB de 1 1000000))))):=by
   rw [Bool.eq_iff_iff]
   simp only [Bool.and_eq_true,eU,decide_eq_true_eq]
   omega
  rw [this];exact h
theorem kH {α β:Type} [BEq β] [LawfulBEq β] {l:List α}{d:α}{p:α→Bool}{k:α→β}:(∀j:Nat,(j:Int)<(l.length:Int)→(p (l.getD (j:Int).toNat d)&&!(((l.take (j:Int).toNat).map k).contains (k (l.getD (j:Int).toNat d))))=true)↔(l.all p&&once (l.map k))=true:=by
 have hg:∀(j:Nat) (h:j<l.length),l.getD (j:Int).toNat d=l[j]:=fun j h=>vY (n:=(j:Int)) h
 rw [Bool.and_eq_true,List.all_eq_true,Ht]
 constructor
 ·intro h
  refine ⟨fun x hx=>?_,fun j hj hm=>?_⟩
  ·obtain ⟨j,hj,rfl⟩:=List.getElem_of_mem hx
   have:=h j (by omega)
   rw [hg j hj,Bool.and_eq_true] at this
   exact this.1
  ·have hj':j<l.length:=by simpa using hj
   have:=h j (by omega)
   rw [hg j hj',Bool.and_eq_true,Bool.not_eq_true'] at this
   have h2:=this.2
   rw [Int.toNat_natCast,List.map_take,List.contains_iff_mem.2 (by simpa using hm)] at h2
   cases h2
 ·intro ⟨h1,h2⟩ j hj
  have hj':j<l.length:=by omega
  rw [hg j hj',Bool.and_eq_true,Bool.not_eq_true']
  refine ⟨h1 _ (List.getElem_mem _),?_⟩
  rw [Bool.eq_false_iff,Int.toNat_natCast,List.map_take]
  intro hc
  exact h2 j (by simpa using hj') (by simpa using List.contains_iff_mem.1 hc)
theorem iM {α:Type}{l:List α}{d:α}{p:α→Bool}:(∀j:Nat,(j:Int)<(l.length:Int)→p (l.getD (j:Int).toNat d)=true)↔l.all p=true:=by
 have hg:∀(j:Nat) (h:j<l.length),l.getD (j:Int).toNat d=l[j]:=fun j h=>vY (n:=(j:Int)) h
 rw [List.all_eq_true]
 constructor
 ·intro h x hx
  obtain ⟨j,hj,rfl⟩:=List.getElem_of_mem hx
  have:=h j (by omega)
  rw [hg j hj] at this
  exact this
 ·intro h j hj
  have hj':j<l.length:=by omega
  rw [hg j hj']
  exact h _ (List.getElem_mem _)
end Go.Proofs.YtlihnbimgclogaaGreatDoor
namespace Go.Proofs.YtlihnbimgclogaaGreatDoor
open Go.Sx
def upB (cs:List Cd):Bool:=J6 cs.length (fun j=>decide ((fO cs j).2.1<j))
theorem VF {cs:List Cd}(h:upB cs=true) {c:Int}(h0:0≤c) (h1:c<cs.length):(fO cs c).2.1<c:=by
 have:=fQ.1 h c.toNat (by omega)
 rw [Int.toNat_of_nonneg h0] at this
 simpa using this
def onW:Nat→List Cd→Int→Int→Bool
 |0,_,_,_=>false
 |k+1,cs,o,c=>if c≥0 then (c==o ||onW k cs o (fO cs c).2.1) else false
def Vt (cs:List Cd) (o c:Int):Bool:=onW (c.toNat+2) cs o c
theorem agI {cs:List Cd}{o:Int}(hu:upB cs=true):∀(k k':Nat) (c:Int),c<cs.length→(c+1).toNat<k→(c+1).toNat<k'→onW k cs o c=onW k' cs o c
 |0,_,_,_,h,_=>by omega
 |_+1,0,_,_,_,h=>by omega
 | k+1,k'+1,c,hc,h,h'=>by
  simp only [onW]
  by_cases h0:c≥0
  ·rw [if_pos h0,if_pos h0]
   have:=VF hu h0 hc
   rw [agI hu k k' (fO cs c).2.1 (by omega) (by omega) (by omega)]
  ·rw [if_neg h0,if_neg h0]
theorem agJ {cs:List Cd}{o c:Int}(hu:upB cs=true) (hc:c<cs.length):Vt cs o c=if c≥0 then (c==o ||Vt cs o (fO cs c).2.1) else false:=by
 unfold Vt
 rw [onW]
 by_cases h0:c≥0
 ·rw [if_pos h0,if_pos h0]
  have:=VF hu h0 hc
  rw [agI hu (c.toNat+1) ((fO cs c).2.1.toNat+2) (fO cs c).2.1 (by omega) (by omega) (by omega)]
 ·rw [if_neg h0,if_neg h0]
def atB (cs:List Cd) (gs:List Ch):Bool:=J6 gs.length (fun j=>decide ((aW gs j).2.1<(cs.length:Int)))
theorem axx {cs:List Cd}{gs:List Ch}(h:atB cs gs=true) {c:Int}(h0:0≤c) (h1:c<gs.length):(aW gs c).2.1<(cs.length:Int):=by
 have:=fQ.1 h c.toNat (by omega)
 rw [Int.toNat_of_nonneg h0] at this
 simpa using this
def tq (cs:List Cd) (gs:List Ch) (o:Int) (k:Nat):List Int:=((List.range k).map (fun j:Nat=>(j:Int))).filter (fun j=>Vt cs o (aW gs j).2.1)
theorem aes {cs:List Cd}{gs:List Ch}{o:Int}{k:Nat}:tq cs gs o (k+1)=tq cs gs o k++(if Vt cs o (aW gs k).2.1=true then [(k:Int)] else []):=by
 unfold tq
 rw [List.range_succ,List.map_append,List.filter_append]
 simp [List.filter_cons]
theorem Jf {cs:List Cd}{gs:List Ch}{o:Int}{k:Nat}:(tq cs gs o k).length≤k:=by
 unfold tq
 exact Nat.le_trans (List.length_filter_le _ _) (by simp)
theorem fP {cs:List Cd}{os:List ByteArray}{ks:List Ko}{gs:List Ch}{bs:List Ba}:fM cs os ks gs bs=true↔(1≤cs.length∧cs.length≤16∧os.length≤8∧ks.length≤32∧gs.length≤16∧bs.length≤24)∧(gB cs os ks gs bs).all nameB=true∧once (gB cs os ks gs bs)=true∧J6 cs.length (fun j=>Eh j (fO cs j))=true∧ks.all (koV os.length)=true∧once (ks.map (·.2.2.2))=true∧gs.all (Gi cs.length os.length)=true∧bs.all (fun b=>inB b.2 0 ((gs.length:Int)-1))=true:=by
 unfold fM Vr
 simp only [Bool.and_eq_true,decide_eq_true_eq]
theorem Sl {cs:List Cd}{os:List ByteArray}{ks:List Ko}{gs:List Ch}{bs:List Ba}(h:fM cs os ks gs bs=true) {c:Int}(h0:0≤c) (h1:c<cs.length):Eh c (fO cs c)=true:=by
 have:=fQ.1 (fP.1 h).2.2.2.1 c.toNat (by omega)
 rwa [Int.toNat_of_nonneg h0] at this
theorem sK {cs:List Cd}{os:List ByteArray}{ks:List Ko}{gs:List Ch}{bs:List Ba}(h:fM cs os ks gs bs=true) {c:Int}(h0:0≤c) (h1:c<gs.length):Gi cs.length os.length (aW gs c)=true:=by
 have:=List.all_eq_true.1 (fP.1 h).2.2.2.2.2.2.1 gs[c.toNat] (List.getElem_mem _)
 rwa [awT (by omega)]
theorem afa {cs:List Cd}{os:List ByteArray}{ks:List Ko}{gs:List Ch}{bs:List Ba}(h:fM cs os ks gs bs=true):upB cs=true:=
 fQ.2 fun j hj=>by
  have:=Sl h (c:=j) (by omega) hj
  unfold Eh at this
  rw [Bool.and_eq_true] at this
  have h1:=this.1
  rw [decide_eq_true_eq]
  split at h1
  ·rename_i h0;simp at h1;omega
  ·have:=eU.1 h1;omega
theorem afc {cs:List Cd}{os:List ByteArray}{ks:List Ko}{gs:List Ch}{bs:List Ba}(h:fM cs os ks gs bs=true):atB cs gs=true:=
 fQ.2 fun j hj=>by
  have:=sK h (c:=j) (by omega) hj
  unfold Gi at this
  rw [Bool.and_eq_true] at this
  have:=eU.1 this.1
  rw [decide_eq_true_eq]
  omega
def axw (cs:List Cd) (os:List ByteArray) (ks:List Ko) (gs:List Ch) (bs:List Ba) (o:Int):Int:=if fM cs os ks gs bs=true∧0≤o∧o<cs.length then 0 else 1
def bU (cs:List Cd) (os:List ByteArray) (ks:List Ko) (gs:List Ch) (bs:List Ba) (o:Int):List Int:=if fM cs os ks gs bs=true∧0≤o∧o<cs.length then tq cs gs o gs.length else []
def afz (ga ro:Int):Nat→Int
 |0=>0
 |k+1=>if ga*(k+1)*(k+1)≤ro then (k:Int)+1 else afz ga ro k
theorem azl {ga m:Int}(h0:0≤ga) (h1:ga≤1000) (m0:0≤m) (m1:m≤1000):(0≤ga*m∧ga*m≤1000000)∧0≤ga*m*m∧ga*m*m≤1000000000:=by
 have a1:ga*m≤1000*m:=Int.mul_le_mul_of_nonneg_right h1 m0
 have a2:=Int.mul_nonneg h0 m0
 have a3:ga*m*m≤1000000*m:=Int.mul_le_mul_of_nonneg_right (by omega) m0
 exact ⟨⟨a2,by omega⟩,Int.mul_nonneg a2 m0,by omega⟩
theorem alK {ga a b:Int}(h0:0≤ga) (a0:0≤a) (h:a≤b):ga*a*a≤ga*b*b:=by
 have h1:ga*a≤ga*b:=Int.mul_le_mul_of_nonneg_left h h0
 exact Int.le_trans (Int.mul_le_mul_of_nonneg_right h1 a0) (Int.mul_le_mul_of_nonneg_left h (Int.mul_nonneg h0 (by omega)))
theorem aaf {ga ro r:Int}:∀ {k:Nat},0≤r→r≤k→(r=0∨ga*r*r≤ro)→(∀a:Int,r<a→a≤k→¬ga*a*a≤ro)→afz ga ro k=r
 |0,h0,h1,_,_=>by simp only [afz];omega
 | k + 1, h0, h1, h2,h3=>by
  simp only [afz]
  by_cases hr:r=(k:Int)+1
  ·subst hr
   rw [if_pos (by rcases h2 with h|h;· omega
                  ·exact h)]
  ·rw [if_neg (h3 ((k:Int)+1) (by omega) (by omega))]
   exact aaf h0 (by omega) h2 (fun a ha hk=>h3 a ha (by omega))
def prm (ga ro:Int):Int:=afz ga ro 1000
def pmE (c:Cbl):Int:=if Qn c=true then 0 else 1
def pmA (c:Cbl):Int:=if Qn c=true then (if cbZ c=true then 1000 else prm c.2.2.1 ((if c.2.2.2.2<c.2.2.2.1 then c.2.2.2.2 else c.2.2.2.1)*(c.2.1-c.1))) else 0
theorem axq {c:Cbl}(h:Qn c=true) (hz:cbZ c=false):(0≤c.1∧c.1<c.2.1∧c.2.1≤200000)∧(0≤c.2.2.1∧c.2.2.1≤1000)∧(0≤c.2.2.2.1∧c.2.2.2.1≤1000)∧1≤c.2.2.2.2∧c.2.2.2.2≤1000000:=by
 unfold Qn at h
 rw [hz,Bool.false_or] at h
 simp only [Bool.and_eq_true,decide_eq_true_eq,eU] at h
 omega
end Go.Proofs.YtlihnbimgclogaaGreatDoor
namespace Go.Proofs.YtlihnbimgclogaaGreatDoor
open Go.Sx
def WT (f:Int) (l:List Int):Int:=l.foldl (fun a n=>if n<a then n else a) f
def dO (c:Cd):Int:=if c.2.2.2.2.1.1=0 then WT c.2.2.1 [c.2.2.2.1,pmA c.2.2.2.2.2] else WT c.2.2.1 [c.2.2.2.1,pmA c.2.2.2.2.2,c.2.2.2.2.1.1]
theorem anm {c:Cbl}:(pmE c !=0)=!Qn c:=by
 unfold pmE
 cases Qn c<;>rfl
abbrev CQ:Ty:=.pair (.int .i64) (.sl (.int .i64))
abbrev Rw:=Int×List Int
def o7 (l:List Rw) (n:Int):Rw:=l.getD n.toNat (0,[])
theorem yO {l:List Rw}{n:Int}(h:n.toNat<l.length):o7 l n=l[n.toNat]:=vY h
theorem ai4 {l:List Rw}{i:Int}(h0:0≤i) (h:i<l.length):l.drop i.toNat=o7 l i::l.drop (i+1).toNat∧l.take (i+1).toNat=l.take i.toNat++[o7 l i]:=uD h0 h
theorem nH {l:List Int}{n:Int}(h:n.toNat<l.length):gi l n=l[n.toNat]:=vY h
def usA (ph p:Int):Bool:=aBA .i64 ph (IntKind.i64.wrap ((1:Int)*2^(min p.toNat 64))) !=0
def gX (gs:List Ch) (p:Int) (l:List Int):List Int:=l.filter (fun k=>usA (aW gs k).2.2.1 p)
def Ub (gs:List Ch) (p:Int) (l:List Int):Prop:=0≤p∧l.length≤1000∧∀k∈l,0≤k∧k<(gs.length:Int)
theorem ap0 {gs:List Ch}{p:Int}{l:List Int}:(gX gs p l).length≤l.length:=List.length_filter_le _ _
theorem Us {cs:List Cd}{gs:List Ch}{o:Int}{k:Nat}{x:Int}(h:x∈tq cs gs o k):0≤x∧x<(k:Int):=by
 unfold tq at h
 have:=(List.mem_filter.1 h).1
 obtain ⟨j,h1,rfl⟩:=List.mem_map.1 this
 have:=List.mem_range.1 h1
 omega
def rowP (cs:List Cd) (gs:List Ch) (c p:Int):List Rw:=if (gX gs p (tq cs gs c gs.length)).length>0 then [(dO (fO cs c),gX gs p (tq cs gs c gs.length))] else []
def am6 (cs:List Cd) (gs:List Ch) (c:Int):List Rw:=rowP cs gs c 0++rowP cs gs c 1++rowP cs gs c 2
def jB (cs:List Cd) (gs:List Ch):Nat→List Rw
 |0=>[]
 |k+1=>jB cs gs k++am6 cs gs k
theorem GY {cs:List Cd}{gs:List Ch}{c p:Int}:(rowP cs gs c p).length≤1:=by
 unfold rowP
 split<;>simp
theorem afv {cs:List Cd}{gs:List Ch}{c:Int}:(am6 cs gs c).length≤3:=by
 unfold am6
 have h0:=GY (cs:=cs) (gs:=gs) (c:=c) (p:=0)
 have h1:=GY (cs:=cs) (gs:=gs) (c:=c) (p:=1)
 have h2:=GY (cs:=cs) (gs:=gs) (c:=c) (p:=2)
 simp only [List.length_append]
 omega
theorem vK {cs:List Cd}{gs:List Ch}:∀ {k:Nat},(jB cs gs k).length≤3*k
 |0=>by simp [jB]
 |k+1=>by
  have:=vK (cs:=cs) (gs:=gs) (k:=k)
  have h2:=afv (cs:=cs) (gs:=gs) (c:=k)
  simp only [jB,List.length_append]
  omega
def FH (cs:List Cd) (os:List ByteArray) (ks:List Ko) (gs:List Ch) (bs:List Ba):Int:=if fM cs os ks gs bs=true then 0 else 1
def gQ (cs:List Cd) (os:List ByteArray) (ks:List Ko) (gs:List Ch) (bs:List Ba):List Rw:=if fM cs os ks gs bs=true then jB cs gs cs.length else []
end Go.Proofs.YtlihnbimgclogaaGreatDoor
namespace Go.Proofs.YtlihnbimgclogaaGreatDoor
open Go.Sx
def uI (a:Int):Bool:=decide (a≥0)&&decide (a≤80)
theorem oJ {a:Int}:uI a=true↔0≤a∧a≤80:=by simp [uI]
def SH (n i:Int):Bool:=decide (0≤i)&&decide (i<n)
theorem zF {n i:Int}:SH n i=true↔0≤i∧i<n:=by simp [SH]
def mG (l:List Int) (n:Int):Bool:=decide ((l.length:Int)=n)&&(l.all (SH n)&&once l)
def smA (alive l:List Int):Int:=(l.map (fun m=>gi alive m)).sum
def vk (i:Int) (o:List (List Int)) (l:List Int):List (List Int):=l.foldl (fun o m=>o.modify m.toNat (·++[i])) o
def QY (o:List (List Int)) (i:Int):List Rw→List (List Int)
 | []=>o
 |r::rs=>QY (vk i o r.2) (i+1) rs
def QX (alive sm:List Int) (i:Int):List Rw→List Int
 | []=>sm
 |r::rs=>QX alive (sm.set i.toNat (sm.getD i.toNat 0+smA alive r.2)) (i+1) rs
theorem Sj {alive l:List Int}{m:Int}:smA alive (m::l)=gi alive m+smA alive l:=by simp [smA]
theorem xg {i m:Int}{o:List (List Int)}{l:List Int}:vk i o (m::l)=vk i (o.modify m.toNat (·++[i])) l:=rfl
theorem vN {i:Int}:∀ {l:List Int}{o:List (List Int)},(vk i o l).length=o.length
 | [],o=>rfl
 |m::l,o=>by rw [xg,vN,List.length_modify]
theorem aae {i:Int}:∀ {l:List Int}{o:List (List Int)}{b:Int},(∀x∈o,(x.length:Int)≤b)→∀x∈vk i o l,(x.length:Int)≤b+l.length
 | [],o,b,h,x,hx=>by have:=h x hx;simp only [List.length_nil];omega
 | m::l,o,b,h,x,hx=>by
  rw [xg] at hx
  have:=aae (b:=b+1) (fun y hy=>by
   obtain ⟨k,hk,rfl⟩:=List.mem_iff_getElem.1 hy
   rw [List.length_modify] at hk
   have:=h o[k] (List.getElem_mem _)
   rw [List.getElem_modify]
   split
   ·simp only [List.length_append,List.length_cons,List.length_nil];omega
   ·omega) x hx
  simp only [List.length_cons]
  omega
theorem afj {l:List Int}{i:Nat}(h:i<l.length):l.set i (l.getD i 0+0)=l:=by
 rw [Int.add_zero,List.getD_eq_getElem?_getD,List.getElem?_eq_getElem h,Option.getD_some,List.set_getElem_self]
theorem Sr {l:List Int}{i:Nat}{a b:Int}(h:i<l.length):(l.set i (l.getD i 0+a)).set i ((l.set i (l.getD i 0+a)).getD i 0+b)=l.set i (l.getD i 0+(a+b)):=by
 have e:(l.set i (l.getD i 0+a)).getD i 0=l.getD i 0+a:=by simp [List.getD,h]
 rw [e,List.set_set]
 congr 1
 omega
def mx (a b:Int):Int:=if a<b then b else a
def uX (gs:List Ch) (i k:Int):Int:=BX (aW gs i).2.2.2.1 (aW gs i).2.2.2.2.2.1 k
def xW (gs:List Ch) (i a:Int):Int:=QN (aW gs i).2.2.2.1 (aW gs i).2.2.2.2.1 (aW gs i).2.2.2.2.2.1 a
def KT (gs:List Ch) (alive:List Int) (i k:Int):Int:=mx (gi alive i) (uX gs i k)-mx (gi alive i) (uX gs i (k-1))
def Ad (rows:List Rw) (sm:List Int) (mo r:Int):Bool:=decide (sm.getD r.toNat 0+mo≤(o7 rows r).1)
def yY (sm:List Int) (mo:Int) (l:List Int):List Int:=l.foldl (fun sm r=>sm.set r.toNat (sm.getD r.toNat 0+mo)) sm
abbrev Tr:=List Int×List Int×Bool
def CY (O:List (List Int)) (rows:List Rw) (gs:List Ch) (alive most:List Int) (level:Int) (t:Tr) (i:Int):Tr:=
 if t.2.1.getD i.toNat 0=level-1∧level≤xW gs i (gi most i) then
  (if ((O.getD i.toNat []).all (Ad rows t.1 (KT gs alive i level)))=true then (yY t.1 (KT gs alive i level) (O.getD i.toNat []),t.2.1.set i.toNat level,true) else t)
 else t
def swp (O:List (List Int)) (rows:List Rw) (gs:List Ch) (alive most:List Int) (level:Int) (t:Tr) (l:List Int):Tr:=l.foldl (CY O rows gs alive most level) t
def shl (O:List (List Int)) (rows:List Rw) (gs:List Ch) (alive most order:List Int):Nat→Int→List Int→List Int→List Int
 |0,_,_,lv=>lv
 |f+1,level,sm,lv=>if (swp O rows gs alive most level (sm,lv,false) order).2.2=true then shl O rows gs alive most order f (level+1) (swp O rows gs alive most level (sm,lv,false) order).1 (swp O rows gs alive most level (sm,lv,false) order).2.1 else (swp O rows gs alive most level (sm,lv,false) order).2.1
theorem DF {sm l:List Int}{mo r:Int}:yY sm mo (r::l)=yY (sm.set r.toNat (sm.getD r.toNat 0+mo)) mo l:=rfl
theorem rO {mo:Int}:∀ {l sm:List Int},(yY sm mo l).length=sm.length
 | [],_=>rfl
 |r::l,sm=>by rw [DF,rO,List.length_set]
theorem qy {sm:List Int}{i k:Nat}{v:Int}:(sm.set i v).getD k 0=if i=k∧k<sm.length then v else sm.getD k 0:=by
 simp only [List.getD,List.getElem?_set]
 by_cases h:i=k
 ·subst h
  by_cases h2:i<sm.length
  ·simp [h2]
  ·simp [h2]
 ·simp [h]
theorem Ji {mo:Int}:∀ {l sm:List Int}{k:Nat},(∀r∈l,r.toNat≠k)→(yY sm mo l).getD k 0=sm.getD k 0
 | [],_,_,_=>rfl
 |r::l,sm,k,h=>by
  rw [DF,Ji (fun x hx=>h x (by simp [hx])),qy,if_neg (fun e=>h r (by simp) e.1)]
theorem Jj {mo:Int}:∀ {l sm:List Int}{k:Nat},l.Nodup→(∀r∈l,0≤r)→k<sm.length→(yY sm mo l).getD k 0=sm.getD k 0+(if (k:Int)∈l then mo else 0)
 | [],sm,k,_,_,_=>by simp [yY]
 | r::l,sm,k,hn,h0,hk=>by
  rw [DF]
  obtain ⟨n1,n2⟩:=List.nodup_cons.1 hn
  have hr:=h0 r (by simp)
  by_cases e:r.toNat=k
  ·rw [Ji (fun x hx e2=>n1 (by
    have:=h0 x (by simp [hx])
    have:r=x:=by omega
    rw [this];exact hx)),qy,if_pos ⟨e,hk⟩,if_pos (by simp;left;omega),e]
  ·rw [Jj n2 (fun x hx=>h0 x (by simp [hx])) (by rw [List.length_set];exact hk),qy,if_neg (fun c=>e c.1)]
   have:¬(k:Int)=r:=by omega
   simp [this]
theorem Xa {mi ma st a:Int}:QN mi ma st a≤80:=by
 have:=PW (mi:=mi) (ma:=ma) (st:=st)
 unfold QN
 split
 ·omega
 ·split
  ·omega
  ·omega
structure OkT (O:List (List Int)) (rows:List Rw) (gs:List Ch) (alive most order:List Int):Prop where
 ol:O.length=16
 ord:∀i∈order,(0≤i∧i<16)∧i<(gs.length:Int)∧i<(alive.length:Int)∧i<(most.length:Int)
 al:∀a∈alive,0≤a∧a≤80
 mo:∀a∈most,0≤a∧a≤80
 has:∀i∈order,kC (aW gs i).2.2.2.1 (aW gs i).2.2.2.2.1 (aW gs i).2.2.2.2.2.1=true
 row:∀o∈O,o.Nodup∧(o.length:Int)≤1000∧∀r∈o,0≤r∧r<(rows.length:Int)
 cap:∀r∈rows,r.1≤1000
structure OkS (rows:List Rw) (order sm lv:List Int):Prop where
 len:sm.length=rows.length
 bd:∀k:Nat,0≤sm.getD k 0∧sm.getD k 0≤2000
 lD:∀i∈order,i<(lv.length:Int)
 lvb:∀k:Nat,0≤lv.getD k 0∧lv.getD k 0≤80
theorem ajv {mi st k:Int}(h:1≤mi∧mi≤80∧1≤st∧st≤80) (h0:0≤k) (h1:k≤81):0≤BX mi st k∧BX mi st k≤6480:=by
 unfold BX
 split
 ·omega
 ·have a1:0≤(k-1)*st:=Int.mul_nonneg (by omega) (by omega)
  have a2:(k-1)*st≤(k-1)*80:=Int.mul_le_mul_of_nonneg_left (by omega) (by omega)
  omega
theorem Uu {mi st j k:Int}(h:1≤mi∧1≤st) (h0:0≤j) (h1:j≤k):BX mi st j≤BX mi st k:=by
 unfold BX
 split
 ·split
  ·omega
  ·have a1:0≤(k-1)*st:=Int.mul_nonneg (by omega) (by omega)
   omega
 ·rw [if_neg (by omega)]
  have:(j-1)*st≤(k-1)*st:=Int.mul_le_mul_of_nonneg_right (by omega) (by omega)
  omega
theorem ahZ {gs:List Ch}{alive:List Int}{i k:Int}(hh:kC (aW gs i).2.2.2.1 (aW gs i).2.2.2.2.1 (aW gs i).2.2.2.2.2.1=true) (ha:0≤gi alive i∧gi alive i≤80) (h0:1≤k) (h1:k≤81):0≤KT gs alive i k∧KT gs alive i k≤10000:=by
 obtain ⟨g1,g2,g3,g4,g5⟩:=dV.1 hh
 have b1:=ajv (mi:=(aW gs i).2.2.2.1) (st:=(aW gs i).2.2.2.2.2.1) (k:=k) ⟨g1,by omega,g4,g5⟩ (by omega) h1
 have b2:=ajv (mi:=(aW gs i).2.2.2.1) (st:=(aW gs i).2.2.2.2.2.1) (k:=k-1) ⟨g1,by omega,g4,g5⟩ (by omega) (by omega)
 have b3:=Uu (mi:=(aW gs i).2.2.2.1) (st:=(aW gs i).2.2.2.2.2.1) (j:=k-1) (k:=k) ⟨g1,g4⟩ (by omega) (by omega)
 unfold KT mx uX
 split<;>split<;>omega
theorem kX {l:List Int}{i:Int}(h0:0≤i) (h:i<(l.length:Int)):gi l i∈l:=by
 rw [nH (by omega)];exact List.getElem_mem _
theorem afq {O:List (List Int)}{rows:List Rw}{gs:List Ch}{alive most order:List Int}{level:Int}{t:Tr}{i:Int}(hT:OkT O rows gs alive most order) (hS:OkS rows order t.1 t.2.1) (hi:i∈order) (h0:1≤level) (h1:level≤81):OkS rows order (CY O rows gs alive most level t i).1 (CY O rows gs alive most level t i).2.1:=by
 unfold CY
 split
 ·split
  ·rename_i hc hf
   obtain ⟨⟨o0,o1⟩,o2,o3,o4⟩:=hT.ord i hi
   have hl80:=Xa (mi:=(aW gs i).2.2.2.1) (ma:=(aW gs i).2.2.2.2.1) (st:=(aW gs i).2.2.2.2.2.1) (a:=gi most i)
   have hl81:=hc.2
   unfold xW at hl81
   have hm:=ahZ (gs:=gs) (alive:=alive) (k:=level) (hT.has i hi) (hT.al _ (kX o0 o3)) h0 h1
   have ho:O.getD i.toNat []∈O:=by
    have hl:=hT.ol
    rw [List.getD_eq_getElem?_getD,List.getElem?_eq_getElem (by omega),Option.getD_some]
    exact List.getElem_mem _
   obtain ⟨r1,r2,r3⟩:=hT.row _ ho
   refine ⟨by simp only;rw [rO];exact hS.len,fun k=>?_,fun j hj=>by simp only [List.length_set];exact hS.lD j hj,fun k=>by
    have:=hS.lvb k
    simp only
    rw [qy]
    split<;>omega⟩
   simp only
   by_cases hk:k<t.1.length
   ·rw [Jj r1 (fun r hr=>(r3 r hr).1) hk]
    have hb:=hS.bd k
    split
    ·rename_i hkm
     have hfit:=List.all_eq_true.1 hf _ hkm
     unfold Ad at hfit
     rw [decide_eq_true_eq,Int.toNat_natCast] at hfit
     have hk2:=hS.len
     have:=hT.cap (o7 rows (k:Int)) (by rw [yO (by omega)];exact List.getElem_mem _)
     omega
    ·omega
   ·rw [List.getD_eq_getElem?_getD,List.getElem?_eq_none (by rw [rO];omega)]
    simp
  ·exact hS
 ·exact hS
theorem VH {O:List (List Int)}{rows:List Rw}{gs:List Ch}{alive most order:List Int}{level:Int}(hT:OkT O rows gs alive most order) (h0:1≤level) (h1:level≤81):∀(l:List Int) (t:Tr),(∀i∈l,i∈order)→OkS rows order t.1 t.2.1→OkS rows order (swp O rows gs alive most level t l).1 (swp O rows gs alive most level t l).2.1
 | [],t,_,h=>h
 |i::l,t,hl,h=>VH hT h0 h1 l _ (fun j hj=>hl j (by simp [hj])) (afq hT h (hl i (by simp)) h0 h1)
theorem zo {O:List (List Int)}{rows:List Rw}{gs:List Ch}{alive most:List Int}{level:Int}:∀(l:List Int) (t:Tr),(swp O rows gs alive most level t l).2.2=true→t.2.2=true∨level≤80
 | [],t,h=> .inl h
 | i::l,t,h=>by
  rcases zo l _ h with h2|h2
  ·unfold CY at h2
   split at h2
   ·rename_i hc
    have:=Xa (mi:=(aW gs i).2.2.2.1) (ma:=(aW gs i).2.2.2.2.1) (st:=(aW gs i).2.2.2.2.2.1) (a:=gi most i)
    have h3:=hc.2
    unfold xW at h3
    exact .inr (by omega)
   ·exact .inl h2
  ·exact .inr h2
end Go.Proofs.YtlihnbimgclogaaGreatDoor
namespace Go.Proofs.YtlihnbimgclogaaGreatDoor
open Go.Sx
theorem VN {O:List (List Int)}{rows:List Rw}{gs:List Ch}{alive most:List Int}{level:Int}{t:Tr}{i:Int}:(CY O rows gs alive most level t i).2.1.length=t.2.1.length:=by
 unfold CY
 split
 ·split
  ·simp only [List.length_set]
  ·rfl
 ·rfl
theorem GK {O:List (List Int)}{rows:List Rw}{gs:List Ch}{alive most:List Int}{level:Int}:∀(l:List Int) (t:Tr),(swp O rows gs alive most level t l).2.1.length=t.2.1.length
 | [],_=>rfl
 |_::l,_=>(GK l _).trans VN
theorem afe {O:List (List Int)}{rows:List Rw}{gs:List Ch}{alive most order:List Int}(hT:OkT O rows gs alive most order):∀(f:Nat) (level:Int) (sm lv:List Int),1≤level→level≤81→OkS rows order sm lv→(shl O rows gs alive most order f level sm lv).length=lv.length∧∀k:Nat,0≤(shl O rows gs alive most order f level sm lv).getD k 0∧(shl O rows gs alive most order f level sm lv).getD k 0≤80
 |0,_,_,lv,_,_,h=>⟨rfl,h.lvb⟩
 | f+1,level,sm,lv,h0,h1,h=>by
  have hk:=VH hT h0 h1 order (sm,lv,false) (fun _ h=>h) h
  have hl:=GK (O:=O) (rows:=rows) (gs:=gs) (alive:=alive) (most:=most) (level:=level) order (sm,lv,false)
  have hs:=zo (O:=O) (rows:=rows) (gs:=gs) (alive:=alive) (most:=most) (level:=level) order (sm,lv,false)
  rw [shl]
  split
  ·rename_i hc
   have h80:level≤80:=by
    rcases hs hc with h|h
    ·cases h
    ·exact h
   obtain ⟨g1,g2⟩:=afe hT f (level+1) _ _ (by omega) (by omega) hk
   exact ⟨g1.trans hl,g2⟩
  ·exact ⟨hl,hk.lvb⟩
def ofF (i:Int):List Rw→Int→List Int
 | [],_=>[]
 |r::rs,j=>(if r.2.contains j then [i] else [])++ofF (i+1) rs j
theorem Tf {o:List (List Int)}{f:List Int→List Int}{j k:Nat}(h:k<o.length):(o.modify j f).getD k []=if j=k then f (o.getD k []) else o.getD k []:=by
 simp only [List.getD,List.getElem?_modify,List.getElem?_eq_getElem h]
 split<;>simp_all
theorem SL {i:Int}:∀ {l:List Int}{o:List (List Int)}{k:Nat},l.Nodup→(∀m∈l,0≤m)→k<o.length→(vk i o l).getD k []=o.getD k []++(if l.contains (k:Int) then [i] else [])
 | [],o,k,_,_,_=>by simp [vk]
 | m::l,o,k,hn,h0,hk=>by
  obtain ⟨n1,n2⟩:=List.nodup_cons.1 hn
  have hm:=h0 m (by simp)
  rw [xg,SL n2 (fun x hx=>h0 x (by simp [hx])) (by rw [List.length_modify];exact hk),Tf hk]
  by_cases e:m.toNat=k
  ·have e2:(k:Int)=m:=by omega
   have:¬(k:Int)∈l:=by rw [e2];exact n1
   rw [if_pos e]
   simp [e2,n1]
  ·rw [if_neg e]
   have:¬(k:Int)=m:=by omega
   simp [this]
def ah0 (r:Rw):Prop:=r.2.Nodup∧∀m∈r.2,0≤m
theorem GH:∀ {rs:List Rw}{o:List (List Int)}{i:Int},(QY o i rs).length=o.length
 | [],_,_=>rfl
 |r::rs,o,i=>by rw [QY,GH,vN]
theorem YW:∀ {rs:List Rw}{o:List (List Int)}{i:Int}{k:Nat},(∀r∈rs,ah0 r)→k<o.length→(QY o i rs).getD k []=o.getD k []++ofF i rs k
 | [],o,i,k,_,_=>by simp [QY,ofF]
 |r::rs,o,i,k,h,hk=>by
  obtain ⟨h1,h2⟩:=h r (by simp)
  rw [QY,YW (fun x hx=>h x (by simp [hx])) (by rw [vN];exact hk),SL h1 h2 hk,ofF,List.append_assoc]
theorem uj:∀ {rs:List Rw}{i j x:Int},x∈ofF i rs j↔i≤x∧x<i+rs.length∧(o7 rs (x-i)).2.contains j=true
 | [],i,j,x=>by simp [ofF];omega
 | r ::rs,i,j,x=>by
  rw [ofF,List.mem_append,uj]
  by_cases e:x=i
  ·subst e
   have g0:o7 (r::rs) (x-x)=r:=by simp [o7]
   rw [g0]
   simp only [List.length_cons]
   constructor
   ·rintro (h|h)
    ·split at h
     ·rename_i hc
      exact ⟨by omega,by omega,hc⟩
     ·cases h
    ·omega
   ·rintro ⟨_,_,h⟩
    rw [if_pos h]
    simp
  ·have hn:¬x∈(if r.2.contains j then [i] else []):=by
    split
    ·simpa using e
    ·simp
   simp only [List.length_cons]
   constructor
   ·rintro (h|⟨h1,h2,h3⟩)
    ·exact absurd h hn
    ·refine ⟨by omega,by omega,?_⟩
     have:o7 (r::rs) (x-i)=o7 rs (x-(i+1)):=by
      unfold o7
      rw [show (x-i).toNat=(x-(i+1)).toNat+1 by omega]
      simp
     rw [this];exact h3
   ·rintro ⟨h1,h2,h3⟩
    refine .inr ⟨by omega,by omega,?_⟩
    have:o7 (r::rs) (x-i)=o7 rs (x-(i+1)):=by
     unfold o7
     rw [show (x-i).toNat=(x-(i+1)).toNat+1 by omega]
     simp
    rw [←this];exact h3
theorem xw:∀ {rs:List Rw}{i j:Int},(ofF i rs j).Nodup
 | [],_,_=>List.nodup_nil
 | r::rs,i,j=>by
  rw [ofF]
  split
  ·rw [List.singleton_append,List.nodup_cons]
   refine ⟨fun h=>?_,xw⟩
   have:=(uj.1 h).1
   omega
  ·rw [List.nil_append];exact xw
theorem aak:∀ {rs:List Rw}{i j:Int},(ofF i rs j).length≤rs.length
 | [],_,_=>Nat.le_refl _
 |r::rs,i,j=>by
  have:=aak (rs:=rs) (i:=i+1) (j:=j)
  rw [ofF]
  split<;>simp only [List.length_append,List.length_cons,List.length_nil]<;>omega
theorem Gy {alive:List Int}:∀ {rs:List Rw}{sm:List Int}{i:Int},(QX alive sm i rs).length=sm.length
 | [],_,_=>rfl
 |r::rs,sm,i=>by rw [QX,Gy,List.length_set]
theorem YV {alive:List Int}:∀ {rs:List Rw}{sm:List Int}{i:Int}{k:Nat},0≤i→k<sm.length→(QX alive sm i rs).getD k 0=sm.getD k 0+(if i≤(k:Int)∧(k:Int)<i+rs.length then smA alive (o7 rs ((k:Int)-i)).2 else 0)
 | [],sm,i,k,_,_=>by
  rw [if_neg (by simp only [List.length_nil];omega)]
  simp [QX]
 | r ::rs,sm,i,k,hi,hk=>by
  rw [QX,YV (by omega) (by rw [List.length_set];exact hk),qy]
  by_cases e:i.toNat=k
  ·have e2:(k:Int)=i:=by omega
   rw [if_pos ⟨e,hk⟩,if_neg (by omega),if_pos (by simp only [List.length_cons];omega),e,e2]
   have:o7 (r::rs) (i-i)=r:=by simp [o7]
   rw [this]
   omega
  ·rw [if_neg (fun c=>e c.1)]
   by_cases c:i+1≤(k:Int)∧(k:Int)<i+1+rs.length
   ·rw [if_pos c,if_pos (by simp only [List.length_cons];omega)]
    have:o7 (r::rs) ((k:Int)-i)=o7 rs ((k:Int)-(i+1)):=by
     unfold o7
     rw [show ((k:Int)-i).toNat=((k:Int)-(i+1)).toNat+1 by omega]
     simp
    rw [this]
   ·rw [if_neg c,if_neg (by simp only [List.length_cons];omega)]
theorem ae9 {alive:List Int}(ha:∀a∈alive,0≤a∧a≤80):∀ {l:List Int},(∀m∈l,0≤m∧m<(alive.length:Int))→0≤smA alive l∧smA alive l≤80*l.length
 | [],_=>by simp [smA]
 |m::l,h=>by
  have h1:=ae9 ha (l:=l) (fun x hx=>h x (by simp [hx]))
  have hm:=h m (by simp)
  have:=ha (gi alive m) (kX hm.1 hm.2)
  rw [Sj]
  simp only [List.length_cons]
  omega
theorem zI {α:Type}{l:List α}(p:α→Bool) (h:l.Nodup):(l.filter p).Nodup:=List.Pairwise.filter p h
theorem XF {cs:List Cd}{gs:List Ch}{o:Int}{k:Nat}:(tq cs gs o k).Nodup:=by
 unfold tq
 refine zI _ ?_
 exact List.Pairwise.map _ (fun a b h=>by omega) List.nodup_range
theorem apZ {gs:List Ch}{p k:Int}{l:List Int}:k∈gX gs p l↔k∈l∧usA (aW gs k).2.2.1 p=true:=by simp [gX,List.mem_filter]
theorem GV {cs:List Cd}{gs:List Ch}{c p:Int}{r:Rw}(h:r∈rowP cs gs c p):r=(dO (fO cs c),gX gs p (tq cs gs c gs.length))∧(gX gs p (tq cs gs c gs.length)).length>0:=by
 unfold rowP at h
 split at h
 ·simp only [List.mem_singleton] at h;exact ⟨h,by assumption⟩
 ·cases h
end Go.Proofs.YtlihnbimgclogaaGreatDoor
