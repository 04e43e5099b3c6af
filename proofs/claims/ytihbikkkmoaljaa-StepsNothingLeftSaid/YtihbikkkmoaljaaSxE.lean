/- The executor is right: regions in the order of the text, code, functions. -/
import Derived.Test.YtihbikkkmoaljaaSxD
namespace Go.Sx
open Go Go.RowKit Go.Proofs.Ytihbikkkmoaljaa
variable {P : Program} {G : Globs} {Γ : Specs} {K : Hand} {β : Nat → Loc} {Z : Nat → Prop} {Z0 : Gz} {w w0 : World} {F : List LV} {H : List Blk} {a : Act} {ds : List Deferred} {n : Nat}
theorem RF.put (hF : RF ds β Z w n F a) {lv : LV} {v : Value} (hr : R β Z w lv v) (hk : okV n lv) (d : Option Tmp) : RF ds β Z w n (setF F d lv) (a.put d v) := by
 cases d with
 | none => exact hF
 | some d =>
  refine ⟨by simp [setF, Act.put, hF.size], fun t x hx => ?_, hF.defers⟩
  simp only [setF] at hx
  rw [List.getElem?_set] at hx
  simp only [Act.put]
  have hlt : t < F.length := by
   by_cases ht : t < F.length
   ·exact ht
   ·exfalso
    split at hx
    ·split at hx
     ·omega
     ·cases hx
    ·rw [List.getElem?_eq_none (by omega)] at hx; cases hx
  have hta : t < a.tmps.size := by rw [hF.size]; exact hlt
  by_cases hdt : d = t
  ·subst hdt
   simp only [if_true, hlt] at hx
   simp only [Option.some.injEq] at hx
   subst hx
   have : (a.tmps.setIfInBounds d v).getD d undef = v := by simp [Array.getD, hta]
   rw [this]; exact ⟨hr, hk⟩
  ·rw [if_neg hdt] at hx
   have : (a.tmps.setIfInBounds d v).getD t undef = a.tmps.getD t undef := by simp [Array.getD, hta, hdt]
   rw [this]; exact hF.get t x hx
theorem RF.know (hF : RF ds β Z w n F a) {d : Nat} {lv : LV} (hr : R β Z w lv (a.tmps.getD d undef)) (hk : okV n lv) : RF ds β Z w n (F.set d lv) a := by
 refine ⟨by simp [hF.size], fun t x hx => ?_, hF.defers⟩
 rw [List.getElem?_set] at hx
 by_cases hdt : d = t
 ·subst hdt
  simp only [if_true] at hx
  split at hx
  ·simp only [Option.some.injEq] at hx; subst hx; exact ⟨hr, hk⟩
  ·cases hx
 ·rw [if_neg hdt] at hx; exact hF.get t x hx
theorem RF.pass (hF : RF ds β Z w n F a) (d : Option Tmp) : RF ds β Z w n (setF F d (.v undef)) (a.put d undef) := hF.put (lv := .v undef) (by simp only [R]) trivial d
theorem wp_of_act' {o : Oper} {K : Act → World → Prop} {Q : Exit → Act → World → Prop} (h : actUpon P (fun v w' => K (a.put o.dst v) w') ((execOp a.eval o).run P w)) (r : Option Nat) (m : Nat) : o.wpIn (fen r) m P a w K Q := by
 have hnd : ∀ c, o.op ≠ .defer c := fun c hc => by
  rcases defer_upon (P := P) (ρ := a.eval) (w := w) hc with ⟨d, w', e⟩ | ⟨d, w', e⟩ <;> rw [e] at h <;> simp only [actUpon] at h
 unfold Oper.wpIn
 refine ⟨fun _ _ => trivial, ?_⟩
 rw [semAt_eq hnd]
 generalize (execOp a.eval o).run P w = res at *
 cases res with
 | ok m w' =>
  cases m <;> simp only [actUpon] at h <;> simp only [Oper.uponIn]
  case value u => exact h
  case skip => exact h
  case enter f args => exact ⟨fun h => (by cases h), callsIn_wide.2 (h.mono fun e w'' ⟨v, he, hk⟩ => by subst he; exact hk)⟩
  case round l f tmps assign body => exact ⟨fun h => (by cases h), round_wide (h.mono fun e w'' ⟨v, he, hk⟩ => by subst he; exact hk)⟩
 | halt x w' => simp only [actUpon] at h
theorem wanted_of {ops : Array Oper} {o : Oper} {j d : Nat} {want b : Bool} (hg : o.guard = some (j, want)) (hd : (ops[j]?).bind (·.dst) = some d) (hv : a.tmps[d]? = some (.bool b)) : Region.wanted o (yielded ops a.tmps) = (b == want) := by
 unfold Region.wanted
 rw [hg]
 simp only [yielded, hd, Option.bind_some, hv]
 cases b <;> cases want <;> rfl
theorem wanted_none {ops : Array Oper} {o : Oper} {j d : Nat} {want : Bool} {vs : Array Value} (hg : o.guard = some (j, want)) (hd : (ops[j]?).bind (·.dst) = some d) (hv : a.tmps[d]? = some (.tuple vs)) : Region.wanted o (yielded ops a.tmps) = false := by
 unfold Region.wanted
 rw [hg]
 simp only [yielded, hd, Option.bind_some, hv]
 cases want <;> rfl
theorem RF.slot (hF : RF ds β Z w n F a) {d : Nat} {x : LV} (hx : F.getD d .junk = x) (hj : x ≠ .junk) : F[d]? = some x ∧ a.tmps[d]? = some (a.tmps.getD d undef) := by
 cases h : F[d]? with
 | none => simp [List.getD, h] at hx; exact absurd hx.symm hj
 | some y =>
  simp [List.getD, h] at hx
  subst hx
  refine ⟨rfl, ?_⟩
  have : d < a.tmps.size := by rw [hF.size]; exact (List.getElem?_eq_some_iff.1 h).1
  simp [Array.getD, this]
theorem RW.less {gh : List (LV × Value)} {mk : List Nat} (hW : RW G w0 ⟨Z0.z, gh ++ Z0.gh, mk ++ Z0.mks⟩ Z β H w) : RW G w0 Z0 Z β H w := ⟨hW.below, hW.zlt, hW.znew, hW.zown, hW.zpub, hW.low, hW.inj, hW.blk, hW.glob, fun p hp => hW.gh p (List.mem_append.2 (.inr hp)), fun D hD => hW.mks D (List.mem_append.2 (.inr hD))⟩
def dsB : List Deferred → List Nat
 | [] => []
 | ⟨.collected D, _⟩ :: ds => D :: dsB ds
 | _ :: ds => dsB ds
theorem mem_dsB : ∀ {ds : List Deferred} {D : Nat}, markOf D ∈ ds → D ∈ dsB ds
 | d :: ds, D, h => by
  rcases List.mem_cons.1 h with h | h
  ·rw [← h]; simp [dsB]
  ·unfold dsB
   split
   ·exact absurd ‹_› (by simp)
   ·rename_i e; simp only [List.cons.injEq] at e; rw [← e.2]; exact List.mem_cons_of_mem _ (mem_dsB h)
   ·rename_i e; simp only [List.cons.injEq] at e; rw [← e.2]; exact mem_dsB h
theorem of_dsB : ∀ {ds : List Deferred} {D : Nat}, D ∈ dsB ds → (∀ d, d ∈ ds → ∃ D, d = markOf D) → markOf D ∈ ds
 | [], D, h, _ => by cases h
 | d :: ds, D, h, hm => by
  obtain ⟨D0, rfl⟩ := hm d (by simp)
  simp only [dsB] at h
  rcases List.mem_cons.1 h with h | h
  ·rw [h]; exact List.mem_cons_self
  ·exact List.mem_cons_of_mem _ (of_dsB h (fun d hd => hm d (List.mem_cons_of_mem _ hd)))
theorem RW.hold (hW : RW G w0 Z0 Z β H w) (hF : RF ds β Z w H.length F a) : RW G w0 ⟨Z0.z, F.zip a.tmps.toList ++ Z0.gh, dsB ds ++ Z0.mks⟩ Z β H w := ⟨hW.below, hW.zlt, hW.znew, hW.zown, hW.zpub, hW.low, hW.inj, hW.blk, hW.glob, fun p hp => by
  rcases List.mem_append.1 hp with hp | hp
  ·obtain ⟨i, hi, hpi⟩ := List.mem_iff_getElem.1 hp
   have hiF : i < F.length := by simp at hi; omega
   have hia : i < a.tmps.size := by simp at hi; omega
   have h1 := hF.get i F[i] (List.getElem?_eq_getElem hiF)
   have e1 : p = (F[i], a.tmps[i]) := by rw [← hpi]; simp
   have e2 : a.tmps.getD i undef = a.tmps[i] := by simp [Array.getD, hia]
   rw [e2] at h1
   rw [e1]; exact h1
  ·exact hW.gh p hp, fun D hD => by
  rcases List.mem_append.1 hD with hD | hD
  ·have := of_dsB hD (fun d hd => by obtain ⟨D, h, _⟩ := hF.defers.2 d hd; exact ⟨D, h⟩)
   obtain ⟨D', h1, h2, h3⟩ := hF.defers.2 _ this
   simp only [markOf, Deferred.mk.injEq, Target.collected.injEq] at h1
   rw [h1.1]; exact ⟨h2, h3⟩
  ·exact hW.mks D hD⟩
theorem RW.held {β' : Nat → Loc} {Z' : Nat → Prop} {w' : World} {H' : List Blk} (hF : RF ds β Z w H.length F a) (r1 : RW G w0 ⟨Z0.z, F.zip a.tmps.toList ++ Z0.gh, dsB ds ++ Z0.mks⟩ Z' β' H' w') : RF ds β' Z' w' H'.length F a := by
 refine ⟨hF.size, fun t x hx => ?_, hF.defers.1, fun d hd => ?_⟩
 ·have htF : t < F.length := (List.getElem?_eq_some_iff.1 hx).1
  have hta : t < a.tmps.size := by have := hF.size; omega
  have e2 : a.tmps.getD t undef = a.tmps[t] := by simp [Array.getD, hta]
  rw [e2]
  refine r1.gh (x, a.tmps[t]) (List.mem_append.2 (.inl (List.mem_iff_getElem.2 ⟨t, by simp; omega, ?_⟩)))
  have : F[t] = x := by simpa [List.getElem?_eq_getElem htF] using hx
  simp [this]
 ·obtain ⟨D, h1, h2, h3⟩ := hF.defers.2 d hd
  have := r1.mks D (List.mem_append.2 (.inl (mem_dsB (h1 ▸ hd))))
  exact ⟨D, h1, this.1, this.2⟩
theorem callOf_op {o : Oper} {g : FuncId} {l : List LV} (h : callOf G F o = some (g, l)) : ∃ f args ty cap, o.op = .call { callee := .value f, args, argTypes := ty } ∧ evalL G F f = .fn g cap ∧ l = args.toList.map (fun x => norm (evalL G F x)) ++ cap := by
 unfold callOf at h
 split at h
 ·rename_i f args ty ho
  split at h
  ·rename_i g' cap hf
   simp only [Option.some.injEq, Prod.mk.injEq] at h
   obtain ⟨rfl, rfl⟩ := h
   exact ⟨f, args, ty, cap, ho, hf, rfl⟩
  ·cases h
 ·cases h
theorem yldOf_op {o : Oper} {k : Nat} {l : List LV} (h : yldOf G F o = some (k, l)) : ∃ f args ty, o.op = .call { callee := .value f, args, argTypes := ty } ∧ evalL G F f = .yld k ∧ l = args.toList.map (fun x => norm (evalL G F x)) := by
 unfold yldOf at h
 split at h
 ·rename_i f args ty ho
  split at h
  ·rename_i k' hf
   simp only [Option.some.injEq, Prod.mk.injEq] at h
   obtain ⟨rfl, rfl⟩ := h
   exact ⟨f, args, ty, ho, hf, rfl⟩
  ·cases h
 ·cases h
theorem opk_sound (hΓ : ∀ g S, Γ g = some S → Valid P G g S) (hK : KSound P G K) (hW : RW G w0 Z0 Z β H w) (hF : RF ds β Z w H.length F a) {o : Oper} {lv : LV} {H' : List Blk} (h : (opk P G Γ K F H o).all (fun q => q = (lv, H'))) :
  actUpon P (fun v w' => ∃ Z' β', RW G w0 Z0 Z' β' H' w' ∧ RF ds β' Z' w' H'.length F a ∧ R β' Z' w' lv v ∧ okV H'.length lv) ((execOp a.eval o).run P w) := by
 unfold opk at h
 have old : (opx P G Γ F H o).all (fun q => q = (lv, H')) → actUpon P (fun v w' => ∃ Z' β', RW G w0 Z0 Z' β' H' w' ∧ RF ds β' Z' w' H'.length F a ∧ R β' Z' w' lv v ∧ okV H'.length lv) ((execOp a.eval o).run P w) := fun h =>
  actUpon_mono (fun v w' ⟨Z', β', e1, e2, e3, e4, _⟩ => ⟨Z', β', e1, e2, e3, e4⟩) (opx_sound hΓ hW hF h)
 split at h
 ·rename_i g l hc
  split at h
  ·exact old h
  ·split at h
   ·rename_i fn hfn
    split at h
    ·rename_i hb
     obtain ⟨f, args, ty, cap, ho, hf, rfl⟩ := callOf_op hc
     simp only [Bool.and_eq_true, Bool.not_eq_true'] at hb
     obtain ⟨hb1, hb2⟩ := hb
     have hfr := hF.eval hW.glob f
     rw [hf] at hfr
     simp only [R, okV] at hfr
     obtain ⟨⟨ys, hy, hyr⟩, hcap⟩ := hfr
     have hrun : (execOp a.eval o).run P w = .ok (.enter g (args.map a.eval ++ ys)) w := by
      unfold execOp
      simp only [ho]
      have hbn : ¬ fn.body = none := by intro hbb; simp [hbb] at hb1
      have hb3 : ¬ fn.name = "runtime.NumGoroutine" := by simpa using hb2
      simp [resolve, Deferred.ofValue, hy, invoke, callFunc, hfn, hb3, hbn]
     rw [hrun]
     simp only [actUpon]
     have hargs : RL β Z w (args.toList.map (fun x => norm (evalL G F x)) ++ cap) (args.map a.eval ++ ys).toList := by
      refine RL.of_get (by simp [RL.length hyr]) fun i x hx => ?_
      rw [Array.toList_append, Array.toList_map]
      by_cases hi : i < args.toList.length
      ·rw [List.getElem?_append_left (by simpa using hi)] at hx ⊢
       rw [List.getElem?_map] at hx ⊢
       cases hq : args.toList[i]? with
       | none => simp [hq] at hx
       | some q => simp [hq] at hx; subst hx; exact ⟨a.eval q, by simp, norm_R (hF.eval hW.glob q).1⟩
      ·rw [List.getElem?_append_right (by simpa using hi)] at hx ⊢
       obtain ⟨y, h1, h2⟩ := RL.get _ _ hyr hx
       exact ⟨y, by simpa using h1, h2⟩
     have hoka : okL H.length (args.toList.map (fun x => norm (evalL G F x)) ++ cap) := by
      refine okL.append (okL.of_get fun i x hx => ?_) hcap
      rw [List.getElem?_map] at hx
      cases hq : args.toList[i]? with
      | none => simp [hq] at hx
      | some q => simp [hq] at hx; subst hx; exact norm_ok (hF.eval hW.glob q).2
     exact (hK.k w0 _ Z β H w g _ _ lv H' (hW.hold hF) hargs hoka h).mono fun e w' ⟨v, he, Z', β', r1, r2, r3⟩ => ⟨v, he, Z', β', r1.less, RW.held hF r1, r2, r3⟩
    ·cases h
   ·cases h
 ·split at h
  ·rename_i k l hy
   obtain ⟨f, args, ty, ho, hf, rfl⟩ := yldOf_op hy
   have hfr := hF.eval hW.glob f
   rw [hf] at hfr
   simp only [R, okV] at hfr
   have hargs : RL β Z w (args.toList.map (fun x => norm (evalL G F x))) (args.map a.eval).toList := by
    refine RL.of_get (by simp) fun i x hx => ?_
    rw [Array.toList_map, List.getElem?_map]
    rw [List.getElem?_map] at hx
    cases hq : args.toList[i]? with
    | none => simp [hq] at hx
    | some q => simp [hq] at hx; subst hx; exact ⟨a.eval q, by simp, norm_R (hF.eval hW.glob q).1⟩
   have hoka : okL H.length (args.toList.map (fun x => norm (evalL G F x))) := by
    refine okL.of_get fun i x hx => ?_
    rw [List.getElem?_map] at hx
    cases hq : args.toList[i]? with
    | none => simp [hq] at hx
    | some q => simp [hq] at hx; subst hx; exact norm_ok (hF.eval hW.glob q).2
   obtain ⟨r, h1, h2, h3⟩ := hK.y w0 _ Z β H w k _ _ lv H' (hW.hold hF) hargs hoka h
   have hrun : (execOp a.eval o).run P w = .ok (.round (β k).b r.fn ((r.params.zip (args.map a.eval)).foldl (fun t (p, v) => t.setIfInBounds p v) r.tmps) r.assign r.body) w := by
    unfold execOp
    simp only [ho]
    have := run_yield (P := P) h1 h2
    simp [resolve, Deferred.ofValue, hfr.1, invoke, this]
   rw [hrun]
   simp only [actUpon]
   exact h3.mono fun e w' ⟨v, he, Z', β', r1, r2, r3⟩ => ⟨v, he, Z', β', r1.less, RW.held hF r1, r2, r3⟩
  ·exact old h
theorem opk_eq {o : Oper} (hm : memK P Γ o = true) : opk P G Γ K F H o = opx P G Γ F H o := by
 unfold opk
 split
 ·rename_i g l hc
  obtain ⟨f, args, ty, cap, ho, hf, rfl⟩ := callOf_op hc
  unfold memK at hm
  simp only [Bool.and_eq_true] at hm
  have hm2 := hm.2
  rw [ho] at hm2
  cases f with
  | func g' =>
   simp only [evalL, LV.fn.injEq] at hf
   obtain ⟨rfl, _⟩ := hf
   simp only at hm2
   obtain ⟨S, hS⟩ := Option.isSome_iff_exists.1 hm2
   simp only [hS]
  | tmp _ => simp at hm2
  | const _ => simp at hm2
  | global _ => simp at hm2
 ·split
  ·rename_i k l hy
   obtain ⟨f, args, ty, ho, hf, rfl⟩ := yldOf_op hy
   unfold memK at hm
   simp only [Bool.and_eq_true] at hm
   have hm2 := hm.2
   rw [ho] at hm2
   cases f with
   | func g' => simp [evalL] at hf
   | tmp _ => simp at hm2
   | const _ => simp at hm2
   | global _ => simp at hm2
  ·rfl
theorem memK_free {o : Oper} (hm : memK P Γ o = true) : memFree P o = true := by
 unfold memK at hm
 simp only [Bool.and_eq_true] at hm
 exact hm.1
theorem xlsOf_get {ty : Ty} : ∀ (cs : List LV) (ls : List (List ty.D)), xlsOf ty cs = some ls → ∀ (j : Nat) (x : LV), cs[j]? = some x → ∃ l, x = .xl ty l ∧ ls[j]? = some l
 | [], _, _, j, x, hx => by simp at hx
 | c :: cs, ls, h, j, x, hx => by
  simp only [xlsOf] at h
  split at h
  ·rename_i e l
   split at h
   ·rename_i he r _ hr
    simp only [Option.some.injEq] at h
    subst h
    subst he
    cases j with
    | zero =>
     simp only [List.getElem?_cons_zero, Option.some.injEq] at hx
     exact ⟨l, hx.symm, rfl⟩
    | succ j =>
     simp only [List.getElem?_cons_succ] at hx ⊢
     exact xlsOf_get cs r hr j x hx
   ·cases h
  ·cases h
theorem ixld_sound {o o2 : Oper} {num : Int} {len : Nat} {lv : LV} (hW : RW G w0 Z0 Z β H w) (hF : RF ds β Z w H.length F a) (h : ixld P G F H o o2 = some (num, len, lv)) (h0 : 0 ≤ num ∧ num < (len : Int)) :
  o.guard = none ∧ o2.guard = none ∧ ∃ v z, (execOp a.eval o).run P w = .ok (.value v) w ∧ (execOp (a.put o.dst v).eval o2).run P w = .ok (.value z) w ∧ R β Z w lv z ∧ okV H.length lv := by
 unfold ixld at h
 split at h
 ·rename_i hg
  simp only [Bool.and_eq_true, Option.isNone_iff_eq_none] at hg
  refine ⟨hg.1, hg.2, ?_⟩
  split at h
  ·rename_i t x i d t2 d2 ho hd ho2
   split at h
   ·rename_i hc
    obtain ⟨rfl, hdl, hagg⟩ := hc
    split at h
    ·rename_i len' e k off kd n hu hx hi
     split at h
     ·rename_i hsz
      split at h
      ·rename_i b hb
       split at h
       ·rename_i hcl
        split at h
        ·rename_i ty l rest hcs
         split at h
         ·rename_i ls hls
          simp only [Option.some.injEq, Prod.mk.injEq] at h
          obtain ⟨rfl, rfl, rfl⟩ := h
          have exv := hF.eval hW.glob x
          have eiv := hF.eval hW.glob i
          rw [hx] at exv
          rw [hi] at eiv
          simp only [R] at eiv
          have hix : (indexL P t (.own k off) true (.ki kd n)).all (fun r => r = .own k (off + n.toNat * (0 + 1))) := by
           unfold indexL
           simp only [pl, hu, hsz, if_true]
           rw [if_pos h0]
           simp only [T.all]
          obtain ⟨v, e1, e2, e3⟩ := indexL_sound (w := w) hix exv.1 (show R β Z w (.ki kd n) (a.eval i) by simp only [R]; exact eiv.1) exv.2
          have hj : n.toNat < len' := by omega
          obtain ⟨c, hc⟩ : ∃ c, b.c[off + n.toNat]? = some c := ⟨_, List.getElem?_eq_getElem (by omega)⟩
          have hcc : (LV.xl ty l :: rest)[n.toNat]? = some c := by
           rw [← hcs, List.getElem?_take, if_pos hj, List.getElem?_drop]
           exact hc
          obtain ⟨l', rfl, hl'⟩ := xlsOf_get _ _ hls _ _ hcc
          have hld : (loadL P H t2 (.own k (off + n.toNat * (0 + 1)))).all (fun z => z = .xl ty l') := by
           unfold loadL
           simp only [hagg, hb, Nat.zero_add, Nat.mul_one, hcl.1, if_true, hc, T.all]
          obtain ⟨z, f1, f2, f3⟩ := loadL_sound hW hld e2 e3
          have f1 := f1 w (fun _ _ => rfl)
          refine ⟨v, z, by simp [execOp, ho, e1], ?_, ?_, ?_⟩
          ·have hda : d2 < a.tmps.size := by rw [hF.size]; exact hdl
           have ev : (a.put o.dst v).eval (.tmp d2) = v := by simp [hd, Act.put, Act.eval, Array.getD, hda]
           simp [execOp, ho2, ev, f1]
          ·have : ls.getD n.toNat [] = l' := by simp [List.getD, hl']
           rw [this]; exact f2
          ·trivial
         ·cases h
        ·cases h
       ·cases h
      ·cases h
     ·cases h
    ·cases h
   ·cases h
  ·cases h
 ·cases h
theorem seq_sound (hΓ : ∀ g S, Γ g = some S → Valid P G g S) (hK : KSound P G K) {ops : Array Oper} {Q : Exit → Act → World → Prop} {F' : List LV} {H' : List Blk} (hQ : ∀ Z' β' a' w', RW G w0 Z0 Z' β' H' w' → RF ds β' Z' w' H'.length F' a' → Q .normal a' w') (r : Option Nat) (m : Nat) :
  ∀ (os : List Oper) (k : Nat) (F : List LV) (H : List Blk) (Z : Nat → Prop) (β : Nat → Loc) (a : Act) (w : World), (∀ j, os[j]? = ops[k + j]?) → RW G w0 Z0 Z β H w → RF ds β Z w H.length F a →
   (seqx P G Γ K ops os F H).all (fun q => q = (F', H')) → wpOpsIn (fen r) m P ops Q (List.range' k os.length) a w
 | [], k, F, H, Z, β, a, w, _, hW, hF, h => by
  simp only [seqx, T.all, Prod.mk.injEq] at h
  obtain ⟨rfl, rfl⟩ := h
  simp only [List.length_nil, List.range'_zero, wpOpsIn]
  exact hQ Z β a w hW hF
 | o :: os, k, F, H, Z, β, a, w, hl, hW, hF, h => by
  have h0 : ops[k]? = some o := by simpa using (hl 0).symm
  have hl' : ∀ j, os[j]? = ops[k + 1 + j]? := fun j => by have := hl (j + 1); simpa [Nat.add_assoc, Nat.add_comm 1 j] using this
  simp only [List.length_cons, List.range'_succ, wpOpsIn, h0]
  have goOk : ∀ (F : List LV), RF ds β Z w H.length F a → ((opk P G Γ K F H o).bind fun q => seqx P G Γ K ops os (setF F o.dst q.1) q.2).all (fun q => q = (F', H')) → o.wpIn (fen r) m P a w (wpOpsIn (fen r) m P ops Q (List.range' (k + 1) os.length)) Q := fun F hF h => by
   obtain ⟨⟨lv, H1⟩, h1, h2⟩ := T.bind_all h
   refine wp_of_act' (actUpon_mono (fun v w' ⟨Z', β', e1, e2, e3, e4⟩ => ?_) (opk_sound hΓ hK hW hF h1)) r m
   exact seq_sound hΓ hK hQ r m os (k + 1) _ H1 Z' β' _ w' hl' e1 (e2.put e3 e4 o.dst) h2
  have passOk : ∀ (F : List LV), RF ds β Z w H.length F a → (seqx P G Γ K ops os (setF F o.dst (.v undef)) H).all (fun q => q = (F', H')) → (∀ f, o.about P w a.eval = some f → (fen r).fn f) ∧ wpOpsIn (fen r) m P ops Q (List.range' (k + 1) os.length) (a.put o.dst undef) w := fun F hF h =>
   ⟨fun _ _ => trivial, seq_sound hΓ hK hQ r m os (k + 1) _ H Z β _ w hl' hW (hF.pass o.dst) h⟩
  unfold seqx at h
  simp only at h
  split at h
  ·rename_i hg
   have hw : Region.wanted o (yielded ops a.tmps) = true := by simp [Region.wanted, hg]
   rw [if_pos hw]
   split at h
   ·exact goOk F hF h
   ·rename_i o2 os2
    split at h
    ·rename_i num len lv hix
     simp only [T.all] at h
     obtain ⟨h1, h2⟩ := h
     obtain ⟨_, hg2, v, z, r1, r2, r3, r4⟩ := ixld_sound hW hF hix h1
     have h02 : ops[k + 1]? = some o2 := by simpa using (hl' 0).symm
     have hl2 : ∀ j, os2[j]? = ops[k + 1 + 1 + j]? := fun j => by have := hl' (j + 1); rw [List.getElem?_cons_succ] at this; rw [this]; congr 1; omega
     have act1 : ∀ {K : Value → World → Prop}, K v w → actUpon P K ((execOp a.eval o).run P w) := fun h => by rw [r1]; exact h
     have act2 : ∀ {K : Value → World → Prop}, K z w → actUpon P K ((execOp (a.put o.dst v).eval o2).run P w) := fun h => by rw [r2]; exact h
     refine wp_of_act' (act1 ?_) r m
     simp only [List.length_cons, List.range'_succ, wpOpsIn, h02]
     have hw2 : Region.wanted o2 (yielded ops (a.put o.dst v).tmps) = true := by simp [Region.wanted, hg2]
     rw [if_pos hw2]
     refine wp_of_act' (act2 ?_) r m
     exact seq_sound hΓ hK hQ r m os2 (k + 1 + 1) _ H Z β _ w hl2 hW ((hF.put (lv := .junk) (by simp only [R]) trivial o.dst).put r3 r4 o2.dst) h2
    ·exact goOk F hF h
  ·rename_i j want hg
   split at h
   ·rename_i d hd
    split at h
    ·rename_i b hb
     obtain ⟨s1, s2⟩ := hF.slot hb (by simp)
     have hv := (hF.get d _ s1).1
     simp only [R] at hv
     rw [hv] at s2
     rw [wanted_of hg hd s2]
     split at h
     ·rename_i e; subst e; simp only [beq_self_eq_true, if_true]; exact goOk F hF h
     ·rename_i e; rw [if_neg (by simpa using e)]; exact passOk F hF h
    ·rename_i g hb
     obtain ⟨s1, s2⟩ := hF.slot hb (by simp)
     have hv := (hF.get d _ s1).1
     simp only [R] at hv
     have kn : ∀ b, g = b → RF ds β Z w H.length (F.set d (.bl b)) a := fun b e => hF.know (by simp only [R]; rw [hv, e]) trivial
     rw [hv] at s2
     rw [wanted_of hg hd s2]
     split at h
     ·rename_i hwt
      subst hwt
      simp only [T.all] at h
      cases hgg : g with
      | true => simp only [beq_self_eq_true, if_true]; exact goOk _ (kn true hgg) (h.1 hgg)
      | false => rw [if_neg (by simp)]; exact passOk _ (kn false hgg) (h.2 hgg)
     ·rename_i hwt
      have hwt' : want = false := by simpa using hwt
      subst hwt'
      simp only [T.all] at h
      cases hgg : g with
      | true => rw [if_neg (by simp)]; exact passOk _ (kn true hgg) (h.1 hgg)
      | false => simp only [beq_self_eq_true, if_true]; exact goOk _ (kn false hgg) (h.2 hgg)
    ·rename_i vs hb
     obtain ⟨s1, s2⟩ := hF.slot hb (by simp)
     have hv := (hF.get d _ s1).1
     simp only [R] at hv
     rw [hv] at s2
     rw [wanted_none hg hd s2, if_neg (by simp)]
     exact passOk F hF h
    ·cases h
   ·cases h
/-! ### ways that meet again -/
def T.lv {α : Type} (p : α → Prop) : T α → Prop
 | .ok x => p x
 | .br _ t e => t.lv p ∧ e.lv p
 | .req _ t => t.lv p
 | .no => True
theorem T.lv_bind {α γ : Type} {p : α → Prop} {q : γ → Prop} {k : α → T γ} (hk : ∀ x, p x → (k x).lv q) : ∀ {t : T α}, t.lv p → (t.bind k).lv q
 | .ok _, h => hk _ h
 | .br _ t e, h => ⟨T.lv_bind hk (t := t) h.1, T.lv_bind hk (t := e) h.2⟩
 | .req _ t, h => T.lv_bind hk (t := t) h
 | .no, _ => trivial
theorem T.lv_true {α : Type} {p : α → Prop} (hp : ∀ x, p x) : ∀ (t : T α), t.lv p
 | .ok _ => hp _
 | .br _ t e => ⟨T.lv_true hp t, T.lv_true hp e⟩
 | .req _ t => T.lv_true hp t
 | .no => trivial
theorem callG_heap {o : Oper} (hpt : plainTy P 8 o.type = true) {g : FuncId} {l : List LV} : (callG P Γ H o g l).lv (fun q => q.2 = H) := by
 have bd : ∀ (t : T LV), (t.bind fun y => (T.ok (y, H) : T (LV × List Blk))).lv (fun q => q.2 = H) := fun t => T.lv_bind (p := fun _ => True) (q := fun q : LV × List Blk => q.2 = H) (k := fun y => T.ok (y, H)) (fun x _ => (rfl : (x, H).2 = H)) (T.lv_true (fun _ => trivial) t)
 unfold callG
 split
 ·split
  ·split
   ·split
    ·exact bd _
    ·first | exact bd _ | (rw [if_pos hpt]; exact bd _)
   ·trivial
  ·trivial
 ·trivial
theorem opx_heap {o : Oper} (hm : memFree P o = true) : (opx P G Γ F H o).lv (fun q => q.2 = H) := by
 have bd : ∀ (t : T LV), (t.bind fun y => (T.ok (y, H) : T (LV × List Blk))).lv (fun q => q.2 = H) := fun t => T.lv_bind (p := fun _ => True) (q := fun q : LV × List Blk => q.2 = H) (k := fun y => T.ok (y, H)) (fun x _ => (rfl : (x, H).2 = H)) (T.lv_true (fun _ => trivial) t)
 have c1 : ∀ {f : Operand} {args : Array Operand} {ty : Array TypeId}, o.op = .call { callee := .value f, args, argTypes := ty } → plainTy P 8 o.type = true := fun ho => by simpa [memFree, ho] using hm
 have c2 : ∀ {r : Operand} {name : String} {args : Array Operand} {ty : Array TypeId}, o.op = .call { callee := .invoke r name, args, argTypes := ty } → plainTy P 8 o.type = true := fun ho => by simpa [memFree, ho] using hm
 unfold opx
 split <;> (try exact bd _) <;> (try trivial) <;> (try rfl) <;> (try (rename_i ho; simp [memFree, ho] at hm; done)) <;> (try (rename_i ho; have hpt := c1 ho)) <;> (try (rename_i ho; have hpt := c2 ho))
 all_goals (split <;> (try exact bd _) <;> (try trivial) <;> (try rfl) <;> (try exact callG_heap hpt))
 all_goals (split <;> (try exact bd _) <;> (try trivial) <;> (try rfl))
def Keeps (ds : List Nat) (F : List LV) (H : List Blk) (q : List LV × List Blk) : Prop := q.1.length = F.length ∧ (∀ i, i ∉ ds → q.1[i]? = F[i]?) ∧ q.2 = H
theorem keeps_set {ds : List Nat} {F F1 : List LV} (h : F1.length = F.length ∧ ∀ i, i ∉ ds → F1[i]? = F[i]?) {d : Nat} (hd : d ∈ ds) (x : LV) : (F1.set d x).length = F.length ∧ ∀ i, i ∉ ds → (F1.set d x)[i]? = F[i]? := by
 refine ⟨by simp [h.1], fun i hi => ?_⟩
 rw [List.getElem?_set, if_neg (by rintro rfl; exact hi hd)]
 exact h.2 i hi
theorem keeps_setF {ds : List Nat} {F F1 : List LV} (h : F1.length = F.length ∧ ∀ i, i ∉ ds → F1[i]? = F[i]?) {d : Option Nat} (hd : ∀ t, d = some t → t ∈ ds) (x : LV) : (setF F1 d x).length = F.length ∧ ∀ i, i ∉ ds → (setF F1 d x)[i]? = F[i]? := by
 cases d with
 | none => exact h
 | some t => exact keeps_set h (hd t rfl) x
theorem seqx_keeps {ops : Array Oper} {F0 : List LV} : ∀ (os : List Oper) (F : List LV), (∀ o ∈ os, o ∈ ops.toList) → (∀ o ∈ os, memK P Γ o = true) → F.length = F0.length ∧ (∀ i, i ∉ dsts ops.toList → F[i]? = F0[i]?) →
  (seqx P G Γ K ops os F H).lv (Keeps (dsts ops.toList) F0 H)
 | [], F, _, _, h => by simp only [seqx, T.lv, Keeps]; exact ⟨h.1, h.2, trivial⟩
 | o :: os, F, hin, hm, h => by
  have hdo : ∀ t, o.dst = some t → t ∈ dsts ops.toList := fun t ht => List.mem_filterMap.2 ⟨o, hin o (by simp), ht⟩
  have go : ∀ F : List LV, F.length = F0.length ∧ (∀ i, i ∉ dsts ops.toList → F[i]? = F0[i]?) → ((opk P G Γ K F H o).bind fun q => seqx P G Γ K ops os (setF F o.dst q.1) q.2).lv (Keeps (dsts ops.toList) F0 H) := fun F hF =>
   T.lv_bind (p := fun q => q.2 = H) (fun q hq => by rw [hq]; exact seqx_keeps os _ (fun o ho => hin o (by simp [ho])) (fun o ho => hm o (by simp [ho])) (keeps_setF hF hdo _)) (by rw [opk_eq (hm o (by simp))]; exact opx_heap (memK_free (hm o (by simp))))
  have pass : ∀ F : List LV, F.length = F0.length ∧ (∀ i, i ∉ dsts ops.toList → F[i]? = F0[i]?) → (seqx P G Γ K ops os (setF F o.dst (.v undef)) H).lv (Keeps (dsts ops.toList) F0 H) := fun F hF =>
   seqx_keeps os _ (fun o ho => hin o (by simp [ho])) (fun o ho => hm o (by simp [ho])) (keeps_setF hF hdo _)
  unfold seqx
  simp only
  split
  ·split
   ·exact go F h
   ·rename_i o2 os2
    split
    ·have hdo2 : ∀ t, o2.dst = some t → t ∈ dsts ops.toList := fun t ht => List.mem_filterMap.2 ⟨o2, hin o2 (by simp), ht⟩
     exact seqx_keeps os2 _ (fun o ho => hin o (by simp [ho])) (fun o ho => hm o (by simp [ho])) (keeps_setF (keeps_setF h hdo _) hdo2 _)
    ·exact go F h
  ·rename_i j want hg
   split
   ·rename_i d hd
    have hdd : d ∈ dsts ops.toList := by
     cases hj : ops[j]? with
     | none => simp [hj] at hd
     | some oj => simp [hj] at hd; exact List.mem_filterMap.2 ⟨oj, by simpa using Array.mem_of_getElem? hj, hd⟩
    split
    ·split
     ·exact go F h
     ·exact pass F h
    ·split
     ·exact ⟨go _ (keeps_set h hdd _), pass _ (keeps_set h hdd _)⟩
     ·exact ⟨pass _ (keeps_set h hdd _), go _ (keeps_set h hdd _)⟩
    ·exact pass F h
    ·trivial
   ·trivial
theorem nki_R {x : LV} {v : Value} (h : R β Z w x v) : R β Z w (nki x) v := by cases x <;> exact h
theorem mergeV0_true {x y : LV} {v : Value} (h : R β Z w x v) : R β Z w (mergeV0 true x y) v := by
 unfold mergeV0
 split <;> simp_all [R]
 split <;> simp_all [R]
theorem mergeV0_false {x y : LV} {v : Value} (h : R β Z w y v) : R β Z w (mergeV0 false x y) v := by
 unfold mergeV0
 split <;> simp_all [R]
 split <;> simp_all [R]
theorem mergeV0_ok {b : Bool} {x y : LV} : okV n (mergeV0 b x y) := by
 unfold mergeV0
 split <;> (try trivial)
 split <;> trivial
theorem mergeV_true {x y : LV} {v : Value} (h : R β Z w x v) : R β Z w (mergeV true x y) v := mergeV0_true (nki_R h)
theorem mergeV_false {x y : LV} {v : Value} (h : R β Z w y v) : R β Z w (mergeV false x y) v := mergeV0_false (nki_R h)
theorem mergeV_ok {b : Bool} {x y : LV} : okV n (mergeV b x y) := mergeV0_ok
theorem mergeF_RF {dl : List Deferred} {ds : List Nat} {b : Bool} {F F1 F2 : List LV} (k1 : F1.length = F.length ∧ ∀ i, i ∉ ds → F1[i]? = F[i]?) (k2 : F2.length = F.length ∧ ∀ i, i ∉ ds → F2[i]? = F[i]?) (h : RF dl β Z w n (if b then F1 else F2) a) : RF dl β Z w n (mergeF ds b F F1 F2) a := by
 refine ⟨by rw [h.size]; cases b <;> simp [mergeF, k1.1, k2.1], fun t x hx => ?_, h.defers⟩
 have ht : t < F.length := by have := (List.getElem?_eq_some_iff.1 hx).1; simpa [mergeF] using this
 have hx' : x = if ds.contains t then mergeV b (F1.getD t .junk) (F2.getD t .junk) else F.getD t .junk := by
  simp [mergeF, ht] at hx
  rw [← hx]
  simp [List.getD, List.getElem?_eq_getElem ht]
 have g1 : ∀ q, (if b then F1 else F2)[t]? = some q → R β Z w q (a.tmps.getD t undef) ∧ okV n q := fun q hq => h.get t q hq
 by_cases hc : t ∈ ds
 ·rw [if_pos (by simpa using hc)] at hx'
  rw [hx']
  refine ⟨?_, mergeV_ok⟩
  cases b with
  | true =>
   have e : F1[t]? = some (F1[t]'(by omega)) := List.getElem?_eq_getElem (by omega)
   have := (g1 (F1[t]'(by omega)) (by simp only [if_true]; exact e)).1
   have e2 : F1.getD t .junk = F1[t]'(by omega) := by simp [List.getD, e]
   rw [e2]; exact mergeV_true this
  | false =>
   have e : F2[t]? = some (F2[t]'(by omega)) := List.getElem?_eq_getElem (by omega)
   have := (g1 (F2[t]'(by omega)) (by simp only [Bool.false_eq_true, if_false]; exact e)).1
   have e2 : F2.getD t .junk = F2[t]'(by omega) := by simp [List.getD, e]
   rw [e2]; exact mergeV_false this
 ·rw [if_neg (by simpa using hc)] at hx'
  have e : F[t]? = some (F[t]'ht) := List.getElem?_eq_getElem ht
  have e2 : F.getD t .junk = F[t]'ht := by simp [List.getD, e]
  rw [hx', e2]
  refine g1 _ ?_
  cases b with
  | true => simp only [if_true]; rw [k1.2 t hc, e]
  | false => simp only [Bool.false_eq_true, if_false]; rw [k2.2 t hc, e]
theorem mergeT_keeps {ds : List Nat} : ∀ {t : T (List LV × List Blk)}, t.lv (Keeps ds F H) → (mergeT ds F H t).lv (Keeps ds F H)
 | .ok _, h => h
 | .no, _ => trivial
 | .req _ t, h => mergeT_keeps (t := t) h
 | .br b t e, h => by
  have h1 := mergeT_keeps h.1
  have h2 := mergeT_keeps h.2
  simp only [mergeT]
  split
  ·rename_i x y hx hy
   rw [hx] at h1
   rw [hy] at h2
   refine ⟨by simp [mergeF], fun i hi => ?_, rfl⟩
   simp only [mergeF]
   by_cases ht : i < F.length
   ·simp [ht, hi]
   ·simp [ht]
  ·exact ⟨h1, h2⟩
theorem mergeT_sound {ds : List Nat} : ∀ {t : T (List LV × List Blk)} {r : List LV × List Blk}, t.lv (Keeps ds F H) → (mergeT ds F H t).all (fun q => q = r) →
  ∃ q, t.all (fun z => z = q) ∧ q.2 = r.2 ∧ ∀ (dl : List Deferred) (β : Nat → Loc) (Z : Nat → Prop) (w : World) (n : Nat) (a : Act), RF dl β Z w n q.1 a → RF dl β Z w n r.1 a
 | .ok x, r, _, h => ⟨x, rfl, by rw [show x = r from h], fun _ _ _ _ _ _ hh => by rw [← show x = r from h]; exact hh⟩
 | .no, _, _, h => by cases h
 | .req p t, r, hk, h => by
  obtain ⟨q, h1, h2, h3⟩ := mergeT_sound (t := t) hk h.2
  exact ⟨q, ⟨h.1, h1⟩, h2, h3⟩
 | .br b t e, r, hk, h => by
  have k1 := mergeT_keeps hk.1
  have k2 := mergeT_keeps hk.2
  simp only [mergeT] at h
  split at h
  ·rename_i x y hx hy
   rw [hx] at k1
   rw [hy] at k2
   have hr : (mergeF ds b F x.1 y.1, H) = r := h
   cases b with
   | true =>
    obtain ⟨q, h1, h2, h3⟩ := mergeT_sound (t := t) (r := x) hk.1 (by rw [hx]; rfl)
    refine ⟨q, ⟨fun _ => h1, fun hb => by cases hb⟩, by rw [← hr, h2]; exact k1.2.2, fun dl β Z w n a hh => ?_⟩
    rw [← hr]
    exact mergeF_RF ⟨k1.1, k1.2.1⟩ ⟨k2.1, k2.2.1⟩ (h3 dl β Z w n a hh)
   | false =>
    obtain ⟨q, h1, h2, h3⟩ := mergeT_sound (t := e) (r := y) hk.2 (by rw [hy]; rfl)
    refine ⟨q, ⟨fun hb => (by cases hb), fun _ => h1⟩, by rw [← hr, h2]; exact k2.2.2, fun dl β Z w n a hh => ?_⟩
    rw [← hr]
    exact mergeF_RF ⟨k1.1, k1.2.1⟩ ⟨k2.1, k2.2.1⟩ (h3 dl β Z w n a hh)
  ·cases b with
   | true =>
    obtain ⟨q, h1, h2, h3⟩ := mergeT_sound (t := t) hk.1 (h.1 rfl)
    exact ⟨q, ⟨fun _ => h1, fun hb => by cases hb⟩, h2, h3⟩
   | false =>
    obtain ⟨q, h1, h2, h3⟩ := mergeT_sound (t := e) hk.2 (h.2 rfl)
    exact ⟨q, ⟨fun hb => (by cases hb), fun _ => h1⟩, h2, h3⟩
theorem reg_sound (hΓ : ∀ g S, Γ g = some S → Valid P G g S) (hK : KSound P G K) {id : Nat} {ops : Array Oper} {Q : Exit → Act → World → Prop} {F' : List LV} {H' : List Blk} (hQ : ∀ Z' β' a' w', RW G w0 Z0 Z' β' H' w' → RF ds β' Z' w' H'.length F' a' → Q .normal a' w')
  (hW : RW G w0 Z0 Z β H w) (hF : RF ds β Z w H.length F a) (h : (regx P G Γ K ops F H).all (fun q => q = (F', H'))) (r : Option Nat) (m : Nat) : (Code.region id ops false).wpIn (fen r) m P Q a w := by
 refine wpIn_region ?_
 have e : List.range ops.size = List.range' 0 ops.toList.length := by rw [List.range_eq_range']; simp
 rw [e]
 unfold regx at h
 split at h
 ·rename_i hm
  have hk : (seqx P G Γ K ops ops.toList F H).lv (Keeps (dsts ops.toList) F H) := seqx_keeps _ _ (fun _ h => h) (fun o ho => List.all_eq_true.1 hm o ho) ⟨rfl, fun _ _ => rfl⟩
  obtain ⟨q, h1, h2, h3⟩ := mergeT_sound hk h
  refine seq_sound hΓ hK (F' := q.1) (H' := q.2) (fun Z' β' a' w' e1 e2 => hQ Z' β' a' w' (by rw [h2] at e1; exact e1) (by rw [h2] at e2; exact h3 _ _ _ _ _ _ e2)) r m ops.toList 0 F H Z β a w (by simp) hW hF h1
 ·exact seq_sound hΓ hK hQ r m ops.toList 0 F H Z β a w (by simp) hW hF h
end Go.Sx
