/- The executor is right: drawn regions. -/
import Derived.Test.YtihbikkkmoaljaaSxE
namespace Go.Sx
open Go Go.RowKit Go.Proofs.Ytihbikkkmoaljaa
variable {P : Program} {G : Globs} {Γ : Specs} {β : Nat → Loc} {Z : Nat → Prop} {Z0 : Gz} {w w0 wr : World} {F : List LV} {H : List Blk} {a : Act} {ds : List Deferred} {n : Nat}
theorem T.lv_all {α : Type} {p : α → Prop} {x : α} : ∀ {t : T α}, t.lv p → t.all (fun z => z = x) → p x
 | .ok y, h, e => by rw [← show y = x from e]; exact h
 | .br b t e, h, hh => by
  cases b with
  | true => exact T.lv_all (t := t) h.1 (hh.1 rfl)
  | false => exact T.lv_all (t := e) h.2 (hh.2 rfl)
 | .req _ t, h, hh => T.lv_all (t := t) h hh.2
 | .no, _, hh => by cases hh
theorem loadL_live {t : TypeId} {x lv : LV} {y : Value} (_ : RW G w0 Z0 Z β H w) (h : (loadL P H t x).all (fun z => z = lv)) (hr : R β Z w x y) : ∀ k, k ∈ owns x → (∃ b, H[k]? = some b ∧ live β k b) ∧ ((∃ off, x = .own k off) ∨ ∃ es i j, x = .op k es i j) := by
 intro k hk
 have cl : ∀ b : Blk, b.isCl = true → live β k b := fun b hc => by
  unfold Blk.isCl at hc
  split at hc
  ·rename_i hb; unfold live; rw [hb]; trivial
  ·cases hc
 unfold loadL at h
 split at h
 ·split at h
  ·simp only [owns, List.mem_singleton] at hk
   subst hk
   split at h
   ·rename_i hb
    split at h
    ·rename_i hc; exact ⟨⟨_, hb, cl _ hc.1⟩, .inl ⟨_, rfl⟩⟩
    ·cases h
   ·cases h
  ·simp [owns] at hk
  ·simp only [owns, List.mem_singleton] at hk
   subst hk
   simp only [R] at hr
   split at h
   ·rename_i hb; exact ⟨⟨_, hb, hr.1⟩, .inr ⟨_, _, _, rfl⟩⟩
   ·cases h
  ·cases h
 ·split at h
  ·simp only [owns, List.mem_singleton] at hk
   subst hk
   split at h
   ·rename_i hb
    split at h
    ·rename_i hc; exact ⟨⟨_, hb, cl _ hc⟩, .inl ⟨_, rfl⟩⟩
    ·cases h
   ·cases h
  ·simp [owns] at hk
  ·simp only [owns, List.mem_singleton] at hk
   subst hk
   simp only [R] at hr
   split at h
   ·rename_i hb; exact ⟨⟨_, hb, hr.1⟩, .inr ⟨_, _, _, rfl⟩⟩
   ·cases h
  ·cases h
 ·cases h
theorem lookM_live {t : TypeId} {x q lv : LV} (h : (lookM P H t x q).all (fun r => r = lv)) : ∀ k, x = .om k → ∃ b, H[k]? = some b ∧ live β k b := by
 intro k hk
 subst hk
 unfold lookM at h
 split at h
 ·split at h
  ·split at h
   ·simp only at h
    split at h
    ·rename_i hb; exact ⟨_, hb, trivial⟩
    ·cases h
   ·cases h
  ·cases h
 ·cases h
theorem lookL_live {t : TypeId} {x q lv : LV} (h : (lookL P H t x q).all (fun r => r = lv)) : ∀ k, x = .om k → ∃ b, H[k]? = some b ∧ live β k b := by
 intro k hk
 subst hk
 unfold lookL at h
 simp only at h
 split at h
 ·rename_i hb; exact ⟨_, hb, trivial⟩
 ·exact lookM_live h k rfl
theorem look_sound (hΓ : ∀ g S, Γ g = some S → Valid P G g S) {tr : List Nat} {D : World → Prop} {o : Oper} {lv : LV} (hW : RW G w0 Z0 Z β H wr) (hF : RF ds β Z wr H.length F a)
  (hD : ∀ w', D w' → RW G w0 Z0 Z β H w' ∧ ∀ b, (Z b ∨ ∃ k bk, H[k]? = some bk ∧ live β k bk ∧ tr.contains k = false ∧ b = (β k).b) → w'.heap[b]? = wr.heap[b]?)
  (h : (calmx P G Γ tr F H o).all (fun z => z = lv)) : ∃ v, (∀ w', D w' → calmAt P o a w' v) ∧ R β Z wr lv v ∧ okV H.length lv := by
 unfold calmx at h
 split at h
 ·cases h
 ·rename_i hsp
  simp only [Bool.or_eq_true, Bool.not_eq_true', not_or, Bool.not_eq_true, Bool.not_eq_false] at hsp
  obtain ⟨hsp, hap⟩ := hsp
  have ev := fun x => hF.eval hW.glob x
  have hFD : ∀ w', D w' → RF ds β Z w' H.length F a := fun w' hw' => hF.mono (Nat.le_refl _) (fun _ _ => rfl) (fun _ h => h) (fun b hz => (hD w' hw').2 b (.inl hz))
  split at h
  ·rename_i hcall
   obtain ⟨h1, hpl⟩ := onlyPl_all h
   obtain ⟨⟨lv', H'⟩, h2, h3⟩ := T.bind_all h1
   have e3 : lv' = lv := h3
   subst e3
   obtain ⟨x, hx⟩ := Option.isSome_iff_exists.1 hpl
   have hm : memFree P o = true := by unfold isCall at hcall; unfold memFree; unfold isSp at hsp; split at hcall <;> simp_all
   have hH : H' = H := T.lv_all (p := fun q : LV × List Blk => q.2 = H) (x := (lv', H')) (opx_heap hm) h2
   subst hH
   refine ⟨x, fun w' hw' => ?_, R_pl hx, ?_⟩
   ·have hs := opx_sound hΓ (hD w' hw').1 (hFD w' hw') h2
    have hrun : ∃ g vals, (execOp a.eval o).run P w' = .ok (.enter g vals) w' := by
     unfold isCall at hcall
     split at hcall
     ·rename_i f args ty ho
      have h2' := h2
      unfold opx at h2'
      simp only [ho] at h2'
      split at h2'
      ·rename_i g cap hf
       have hfr := (ev f).1
       rw [hf] at hfr
       simp only [R] at hfr
       obtain ⟨ys, hy, _⟩ := hfr
       obtain ⟨fn, S, k1, k2, k3, _⟩ := callG_fn h2'
       exact ⟨_, _, value_run ho hy k1 k2 k3 w'⟩
      ·cases h2'
     ·rename_i r name args ty ho
      have h2' := h2
      unfold opx at h2'
      simp only [ho] at h2'
      split at h2'
      ·rename_i g rv hf
       obtain ⟨t, v, hy, hm⟩ := metOf_R hf (ev r).1
       obtain ⟨fn, S, k1, k2, k3, _⟩ := callG_fn h2'
       exact ⟨_, _, invoke_run ho hy hm k1 k2 k3 w'⟩
      ·cases h2'
     ·cases hcall
    obtain ⟨g, vals, hr⟩ := hrun
    unfold calmAt
    rw [hr] at hs ⊢
    simp only [actUpon] at hs
    refine ⟨rfl, hs.mono fun e w'' ⟨v, he, Z', β', _, _, hrv, _, _, _, _, hn⟩ => ?_⟩
    have hv := pl_R hx hrv
    subst hv
    refine ⟨he, hn.os, hn.tape, hn.output, hn.size, fun k hk => hn.block k hk ?_⟩
    unfold isCall at hcall
    split at hcall
    ·rename_i ho; simp [touchB, wrt, ho, lvB]
    ·rename_i ho; simp [touchB, wrt, ho, lvB]
    ·cases hcall
   ·cases lv' with
    | fn f l => cases l with
     | nil => trivial
     | cons _ _ => simp [pl] at hx
    | v _ => trivial
    | bl _ => trivial
    | ki _ _ => trivial
    | _ => simp [pl] at hx
  ·rename_i hnc
   obtain ⟨⟨lv', H'⟩, h2, h3⟩ := T.bind_all h
   have e3 : lv' = lv := h3
   subst e3
   clear h3
   have val : ∀ {v : Value}, (∀ w', D w' → (execOp a.eval o).run P w' = .ok (.value v) w') → R β Z wr lv' v → okV H.length lv' → ∃ v, (∀ w', D w' → calmAt P o a w' v) ∧ R β Z wr lv' v ∧ okV H.length lv' := fun {v} hrun hr hk =>
    ⟨v, fun w' hw' => by unfold calmAt; rw [hrun w' hw']; exact ⟨rfl, rfl⟩, hr, hk⟩
   have hsel : ∀ cs b, o.op ≠ .select cs b := fun cs b e => by unfold opx at h2; simp only [e] at h2; cases h2
   have same : ∀ {t : T LV}, (t.bind fun y => (T.ok (y, H) : T (LV × List Blk))).all (fun q => q = (lv', H')) → t.all (fun z => z = lv') := fun h => by
    obtain ⟨x, g1, g2⟩ := T.bind_all h
    simp only [T.all, Prod.mk.injEq] at g2
    obtain ⟨rfl, rfl⟩ := g2
    exact g1
   have gen : (genL P G F o).all (fun z => z = lv') → ∃ v, (∀ w', D w' → calmAt P o a w' v) ∧ R β Z wr lv' v ∧ okV H.length lv' := fun hg => by
    unfold genL at hg
    split at hg
    ·rename_i hpl
     split at hg
     ·rename_i y hy
      simp only [T.all] at hg
      have hcong : execOp a.eval o = execOp (fun x => (pl (evalL G F x)).getD undef) o := execOp_congr o hsel fun x hx => by
       have h1 := List.all_eq_true.1 hpl x (by simpa using hx)
       obtain ⟨z, hz⟩ := Option.isSome_iff_exists.1 h1
       rw [hz]; exact pl_R hz (ev x).1
      refine val (v := y) (fun w' _ => by rw [hcong]; exact genV_run hy w') ?_ ?_ <;> rw [← hg]
      ·split
       ·exact kn_R y
       ·simp only [R]
      ·split
       ·exact kn_ok y
       ·trivial
     ·cases hg
    ·cases hg
   have h := h2
   unfold opx at h
   split at h
   ·cases h
   ·rename_i x ho
    simp only [T.all, Prod.mk.injEq] at h
    refine val (v := a.eval x) (fun w' _ => by simp [execOp, ho]) ?_ ?_ <;> rw [← h.1]
    ·exact (ev x).1
    ·exact (ev x).2
   ·rename_i x ho
    simp only [T.all, Prod.mk.injEq] at h
    refine val (v := a.eval x) (fun w' _ => by simp [execOp, ho]) ?_ ?_ <;> rw [← h.1]
    ·exact (ev x).1
    ·exact (ev x).2
   ·rename_i c x y ho
    obtain ⟨g, e1, e2, e3⟩ := pickL_sound (same h) (ev c).1 (ev x).1 (ev y).1 (ev x).2 (ev y).2
    exact val (v := if g then a.eval x else a.eval y) (fun w' _ => by simp [execOp, ho, e1, asBool]) e2 e3
   ·rename_i ho; simp [isSp, ho] at hsp
   ·rename_i ho; simp [isSp, ho] at hsp
   ·rename_i t x ho
    obtain ⟨z, e1, e2, e3⟩ := loadL_sound hW (same h) (ev x).1 (ev x).2
    refine val (v := z) (fun w' hw' => ?_) e2 e3
    have hlv := loadL_live hW (same h) (ev x).1
    have := e1 w' (fun b hb => (hD w' hw').2 b (by
     rcases hb with hb | ⟨k, e4, e5⟩
     ·exact .inl hb
     ·obtain ⟨⟨bk, l1, l2⟩, l3⟩ := hlv k e4
      refine .inr ⟨k, bk, l1, l2, ?_, e5⟩
      unfold apartL at hap
      simp only [ho] at hap
      rcases l3 with ⟨off, l3⟩ | ⟨es, i, j, l3⟩
      ·rw [l3] at hap; simpa using hap
      ·rw [l3] at hap; simpa using hap))
    simp [execOp, ho, this]
   ·rename_i ho; simp [isSp, ho] at hsp
   ·rename_i s x i ho
    obtain ⟨z, e1, e2, e3⟩ := fieldL_sound (w := wr) (same h) (ev x).1 (ev x).2
    exact val (v := z) (fun w' _ => by simp [execOp, ho, e1]) e2 e3
   ·rename_i t x i ho
    obtain ⟨z, e1, e2, e3⟩ := indexL_sound (w := wr) (same h) (ev x).1 (ev i).1 (ev x).2
    exact val (v := z) (fun w' _ => by simp [execOp, ho, e1]) e2 e3
   ·rename_i t parts ho
    obtain ⟨z, e1, e2, e3⟩ := buildL_sound (β := β) (Z := Z) (w := wr) (n := H.length) (pv := parts.map fun q => (q.1, a.eval q.2)) (same h) (by simp [Function.comp_def]) (by
     simp only [Array.toList_map, List.map_map]
     refine RL.of_get (by simp) fun i x hx => ?_
     rw [List.getElem?_map] at hx ⊢
     cases hq : parts.toList[i]? with
     | none => simp [hq] at hx
     | some q => simp [hq] at hx; subst hx; exact ⟨a.eval q.2, by simp, (evalN_R (ev q.2)).1⟩) (by
     simp only [List.map_map]
     refine okL.of_get fun i x hx => ?_
     rw [List.getElem?_map] at hx
     cases hq : parts.toList[i]? with
     | none => simp [hq] at hx
     | some q => simp [hq] at hx; subst hx; exact (evalN_R (ev q.2)).2)
    exact val (v := z) (fun w' _ => by simp [execOp, ho, e1]) e2 e3
   ·rename_i ho; simp [isSp, ho] at hsp
   ·rename_i ho; simp [isSp, ho] at hsp
   ·rename_i t x lo hi ho
    split at h
    ·exact gen (same h)
    ·have ro : ∀ q : Option Operand, RO β Z wr (q.map (evalL G F)) (q.map a.eval) := fun q => by
      cases q with
      | none => trivial
      | some q => exact (ev q).1
     obtain ⟨z, e1, e2, e3⟩ := sliceL_sound (w := wr) (same h) (ev x).1 (ro lo) (ro hi) (ev x).2
     exact val (v := z) (fun w' _ => by simp [execOp, ho, e1]) e2 e3
   ·rename_i ho; simp [isSp, ho] at hsp
   ·rename_i ho; simp [isSp, ho] at hsp
   ·rename_i ho; simp [isSp, ho] at hsp
   ·rename_i t x i ho
    obtain ⟨z, e1, e2, e3⟩ := lookL_sound hW (same h) (ev x).1 (ev i).1 (ev x).2
    refine val (v := z) (fun w' hw' => ?_) e2 e3
    have hlv := lookL_live (β := β) (same h)
    have := e1 w' (fun b hb => (hD w' hw').2 b (by
     rcases hb with hb | ⟨k, e4, e5⟩
     ·exact .inl hb
     ·obtain ⟨bk, l1, l2⟩ := hlv k e4
      refine .inr ⟨k, bk, l1, l2, ?_, e5⟩
      unfold apartL at hap
      simp only [ho, e4] at hap
      simpa using hap))
    simp [execOp, ho, this]
   ·rename_i x i ho
    split at h
    ·rename_i l hl
     split at h
     ·rename_i y hy
      simp only [T.all, Prod.mk.injEq] at h
      obtain ⟨h1, _⟩ := h
      have hx := ev x
      rw [hl] at hx
      simp only [R, okV] at hx
      obtain ⟨⟨ys, e1, e2⟩, e3⟩ := hx
      obtain ⟨z, e4, e5⟩ := RL.get _ _ e2 hy
      have e6 : ys[i]? = some z := by simpa using e4
      refine val (v := z) (fun w' _ => by simp [execOp, ho, e1, Instr.extract, e6]) ?_ ?_ <;> rw [← h1]
      ·exact e5
      ·exact okL.get _ _ e3 hy
     ·cases h
    ·exact gen (same h)
   ·rename_i t x i ho
    split at h
    ·rename_i l hl
     have hx := ev x
     rw [hl] at hx
     simp only [R, okV] at hx
     obtain ⟨⟨ys, e1, e2⟩, e3⟩ := hx
     obtain ⟨z, f1, f2, f3⟩ := fldL_sound (same h) e2 e3
     exact val (v := z) (fun w' _ => by simp [execOp, ho, e1, f1]) f2 f3
    ·exact gen (same h)
   ·rename_i f first cap ho
    split at h
    ·rename_i he
     simp only [T.all, Prod.mk.injEq] at h
     obtain ⟨h1, _⟩ := h
     have hfirst : first = #[] := by
      have : first.toList = [] := by simpa using he
      simpa using this
     refine val (v := .func (.func f) #[] (cap.map a.eval)) (fun w' _ => by simp [execOp, ho, Instr.makeFunc, hfirst]) ?_ ?_ <;> rw [← h1]
     ·simp only [R]
      refine ⟨_, rfl, ?_⟩
      simp only [Array.toList_map]
      refine RL.of_get (by simp) fun i x hx => ?_
      rw [List.getElem?_map] at hx ⊢
      cases hq : cap.toList[i]? with
      | none => simp [hq] at hx
      | some q => simp [hq] at hx; subst hx; exact ⟨a.eval q, by simp, (ev q).1⟩
     ·simp only [okV]
      refine okL.of_get fun i x hx => ?_
      rw [List.getElem?_map] at hx
      cases hq : cap.toList[i]? with
      | none => simp [hq] at hx
      | some q => simp [hq] at hx; subst hx; exact (ev q).2
    ·cases h
   ·rename_i x ho
    have hx := ev x
    split at h
    ·rename_i k off hl
     simp only [T.all, Prod.mk.injEq] at h
     rw [hl] at hx
     have hx1 := hx.1
     simp only [R] at hx1
     refine val (v := a.eval x) (fun w' _ => by simp [execOp, ho, hx1]) ?_ ?_ <;> rw [← h.1]
     ·exact hx.1
     ·exact hx.2
    ·rename_i n f hl
     simp only [T.all, Prod.mk.injEq] at h
     rw [hl] at hx
     have hx1 := hx.1
     simp only [R] at hx1
     obtain ⟨b, off, e1, _⟩ := hx1
     refine val (v := a.eval x) (fun w' _ => by simp [execOp, ho, e1]) ?_ ?_ <;> rw [← h.1]
     ·exact hx.1
     ·exact hx.2
    ·rename_i f l hl
     simp only [T.all, Prod.mk.injEq] at h
     rw [hl] at hx
     have hx1 := hx.1
     simp only [R] at hx1
     obtain ⟨ys, e1, _⟩ := hx1
     refine val (v := a.eval x) (fun w' _ => by simp [execOp, ho, e1]) ?_ ?_ <;> rw [← h.1]
     ·exact hx.1
     ·exact hx.2
    ·exact gen (same h)
   ·rename_i t x y t' ho
    split at h
    ·rename_i k n k' m hx hy
     split at h
     ·rename_i hk
      subst hk
      simp only [T.all, Prod.mk.injEq] at h
      obtain ⟨h0, h1, _⟩ := h
      have e1 := pl_R hx (ev x).1
      have e2 := pl_R hy (ev y).1
      refine val (v := .int k (k.wrap (n.tdiv m))) (fun w' _ => by simp [execOp, ho, e1, e2, eqGuard, binOp, Op.intDiv, h0]) ?_ ?_ <;> rw [← h1]
      ·simp only [R]
      ·trivial
     ·cases h
    ·cases h
   ·rename_i t x y t' ho
    split at h
    ·rename_i k n k' m hx hy
     split at h
     ·rename_i hk
      subst hk
      simp only [T.all, Prod.mk.injEq] at h
      obtain ⟨h0, h1, _⟩ := h
      have e1 := pl_R hx (ev x).1
      have e2 := pl_R hy (ev y).1
      refine val (v := .int k (n.tmod m)) (fun w' _ => by simp [execOp, ho, e1, e2, eqGuard, binOp, Op.intDiv, h0]) ?_ ?_ <;> rw [← h1]
      ·simp only [R]
      ·trivial
     ·cases h
    ·cases h
   ·rename_i t x y t' ho
    split at h
    ·exact gen (same h)
    ·split at h
     ·rename_i k n k' m hx hy
      simp only [T.all, Prod.mk.injEq] at h
      obtain ⟨h0, h1, _⟩ := h
      have e1 := pl_R hx (ev x).1
      have e2 := pl_R hy (ev y).1
      refine val (v := .int k (k.wrap (n * 2 ^ (min m.toNat k.bits)))) (fun w' _ => by simp [execOp, ho, e1, e2, eqGuard, binOp, Op.shift, Int.not_lt.2 h0]) ?_ ?_ <;> rw [← h1]
      ·simp only [R]
      ·trivial
     ·cases h
   ·rename_i t x y t' ho
    split at h
    ·exact gen (same h)
    ·split at h
     ·rename_i k n k' m hx hy
      simp only [T.all, Prod.mk.injEq] at h
      obtain ⟨h0, h1, _⟩ := h
      have e1 := pl_R hx (ev x).1
      have e2 := pl_R hy (ev y).1
      refine val (v := .int k (n.fdiv (2 ^ (min m.toNat k.bits)))) (fun w' _ => by simp [execOp, ho, e1, e2, eqGuard, binOp, Op.shift, Int.not_lt.2 h0]) ?_ ?_ <;> rw [← h1]
      ·simp only [R]
      ·trivial
     ·cases h
   ·rename_i t x i ho
    split at h
    ·rename_i s kd n hu hx hi
     simp only [T.all, Prod.mk.injEq] at h
     obtain ⟨⟨h0, hlt⟩, h1, _⟩ := h
     have e1 := pl_R hx (ev x).1
     have e2 := pl_R hi (ev i).1
     have hb : n.toNat < s.size := by omega
     have hg : s[n.toNat]? = some s[n.toNat] := by simp [hb]
     refine val (v := .int .u8 (byI s n)) (fun w' _ => by simp [execOp, ho, e1, e2, Instr.index, asIntOf, run_underlying hu, h0, byI, hg]) ?_ ?_ <;> rw [← h1]
     ·simp only [R]
     ·trivial
    ·cases h
   ·rename_i ho; simp [isCall, ho] at hnc
   ·rename_i ho; simp [isCall, ho] at hnc
   ·rename_i ho; simp [isSp, ho] at hsp
   ·rename_i args ty ho
    split at h
    ·rename_i k es off n e hl hu
     simp only [T.all, Prod.mk.injEq] at h
     obtain ⟨h1, _⟩ := h
     cases hargs : args.toList with
     | nil => simp [hargs] at hl
     | cons x xs =>
      cases xs with
      | cons _ _ => simp [hargs] at hl
      | nil =>
       simp only [hargs, List.map_cons, List.map_nil, List.cons.injEq, and_true] at hl
       have hx := (ev x).1
       rw [hl] at hx
       simp only [R] at hx
       have e1 : ∃ ad cap, a.eval x = .slice ad n cap := by
        split at hx
        ·obtain ⟨rfl, _, hx⟩ := hx; exact ⟨_, _, hx⟩
        ·obtain ⟨_, ad, hx, _⟩ := hx; exact ⟨_, _, hx⟩
       obtain ⟨ad, cap, e1⟩ := e1
       have ha : args = #[x] := by rw [← Array.toArray_toList (xs := args), hargs]
       cases ht : ty[0]? with
       | none => simp [ht] at hu
       | some t =>
        simp only [ht, Option.bind_some] at hu
        refine val (v := .int .i64 n) (fun w' _ => by simp [execOp, ho, resolve, invoke, builtin, Builtin.len_, ha, ht, run_underlying hu, e1, goInt]) ?_ ?_ <;> rw [← h1]
        ·simp only [R]
        ·trivial
    ·rename_i e' l e hl hu
     simp only [T.all, Prod.mk.injEq] at h
     obtain ⟨h1, _⟩ := h
     cases hargs : args.toList with
     | nil => simp [hargs] at hl
     | cons x xs =>
      cases xs with
      | cons _ _ => simp [hargs] at hl
      | nil =>
       simp only [hargs, List.map_cons, List.map_nil, List.cons.injEq, and_true] at hl
       have hx := (ev x).1
       rw [hl] at hx
       simp only [R] at hx
       obtain ⟨ad, cap, e1, _⟩ := hx
       have ha : args = #[x] := by rw [← Array.toArray_toList (xs := args), hargs]
       cases ht : ty[0]? with
       | none => simp [ht] at hu
       | some t =>
        simp only [ht, Option.bind_some] at hu
        refine val (v := .int .i64 (List.length l : Int)) (fun w' _ => by simp [execOp, ho, resolve, invoke, builtin, Builtin.len_, ha, ht, run_underlying hu, e1, goInt]) ?_ ?_ <;> rw [← h1]
        ·simp only [R]
        ·trivial
    ·rename_i k' es' off' n' c' e hl hu
     simp only [T.all, Prod.mk.injEq] at h
     obtain ⟨h1, _⟩ := h
     cases hargs : args.toList with
     | nil => simp [hargs] at hl
     | cons x xs =>
      cases xs with
      | cons _ _ => simp [hargs] at hl
      | nil =>
       simp only [hargs, List.map_cons, List.map_nil, List.cons.injEq, and_true] at hl
       have hx := (ev x).1
       rw [hl] at hx
       simp only [R] at hx
       obtain ⟨_, ad, e1, _⟩ := hx
       have ha : args = #[x] := by rw [← Array.toArray_toList (xs := args), hargs]
       cases ht : ty[0]? with
       | none => simp [ht] at hu
       | some t =>
        simp only [ht, Option.bind_some] at hu
        refine val (v := .int .i64 n') (fun w' _ => by simp [execOp, ho, resolve, invoke, builtin, Builtin.len_, ha, ht, run_underlying hu, e1, goInt]) ?_ ?_ <;> rw [← h1]
        ·simp only [R]
        ·trivial
    ·exact gen (same h)
   ·exact gen (same h)
/-! ### masks -/
theorem maskGo_get (tr : List Nat) : ∀ (H : List Blk) (k i : Nat), (maskGo tr k H)[i]? = (H[i]?).map fun b => if tr.contains (k + i) then maskB b else b
 | [], k, i => by simp [maskGo]
 | b :: bs, k, 0 => by simp [maskGo]
 | b :: bs, k, i + 1 => by
  simp only [maskGo, List.getElem?_cons_succ]
  rw [maskGo_get tr bs (k + 1) i]
  have : k + 1 + i = k + (i + 1) := by omega
  rw [this]
theorem maskGo_length (tr : List Nat) : ∀ (H : List Blk) (k : Nat), (maskGo tr k H).length = H.length
 | [], _ => rfl
 | _ :: bs, k => by simp [maskGo, maskGo_length tr bs (k + 1)]
theorem RL_junk : ∀ (ys : List Value), RL β Z w (List.replicate ys.length .junk) ys
 | [] => by simp [RL]
 | y :: ys => by simp only [List.length_cons, List.replicate_succ, RL]; exact ⟨y, ys, rfl, by simp only [R], RL_junk ys⟩
theorem okL_junk (m : Nat) : ∀ (k : Nat), okL m (List.replicate k .junk)
 | 0 => trivial
 | k + 1 => ⟨trivial, okL_junk m k⟩
def Shp (tr : List Nat) (β : Nat → Loc) (H : List Blk) (w : World) : Prop := ∀ (k : Nat) (b : Blk), tr.contains k = true → H[k]? = some b → b.isCl = true → ∃ cs, w.heap[(β k).b]? = some (.cells cs b.t (0, 0)) ∧ cs.size = b.c.length
theorem isCl_k {b : Blk} (h : b.isCl = true) : b.k = .cl := by
 unfold Blk.isCl at h
 split at h
 ·assumption
 ·cases h
theorem maskB_cases (b : Blk) : (b.isCl = true ∧ maskB b = ⟨List.replicate b.c.length .junk, b.t, .cl, b.p⟩) ∨ (b.isCl = false ∧ maskB b = ⟨[], b.t, .dead, false⟩) := by
 unfold maskB Blk.isCl
 split
 ·exact .inl ⟨rfl, rfl⟩
 ·exact .inr ⟨rfl, rfl⟩
theorem maskB_live {b : Blk} {k : Nat} (h : live β k (maskB b)) : live β k b ∧ (maskB b).p = b.p := by
 rcases maskB_cases b with ⟨h1, h2⟩ | ⟨h1, h2⟩
 ·rw [h2]; exact ⟨by unfold live; rw [isCl_k h1]; trivial, rfl⟩
 ·rw [h2] at h; exact absurd h (fun h => h)
theorem RW.lvB_not {tr : List Nat} (hW : RW G w0 Z0 Z β H wr) {b : Nat} (hz : Z b) : b ∉ lvB β H tr := fun hm => by
 obtain ⟨k, bk, _, h2, h3, h4, rfl⟩ := mem_lvB.1 hm
 exact hW.zown k bk h2 h3 h4 hz
theorem RW.lvB_other {tr : List Nat} (hW : RW G w0 Z0 Z β H wr) {k : Nat} {b : Blk} (hb : H[k]? = some b) (hl : live β k b) (ht : k ∉ tr) : (β k).b ∉ lvB β H tr := fun hm => by
 obtain ⟨j, bj, h1, h2, h3, h4, h5⟩ := mem_lvB.1 hm
 have := hW.inj j k bj b h2 hb h3 hl h4 h5.symm
 subst this
 exact ht h1
theorem RW.mask {tr : List Nat} {w' : World} (hW : RW G w0 Z0 Z β H wr) (hn : Near (lvB β H tr) wr w') (hb0 : Below w0.heap.size w0 w') (hs : Shp tr β H w') : RW G w0 Z0 Z β (maskGo tr 0 H) w' := by
 have hw : ∀ b, Z b → w'.heap[b]? = wr.heap[b]? := fun b hz => hn.block b (hW.zlt b hz) (hW.lvB_not hz)
 have old : ∀ k b, (maskGo tr 0 H)[k]? = some b → ∃ b0, H[k]? = some b0 ∧ (live β k b → live β k b0 ∧ b.p = b0.p) ∧ ((tr.contains k = true ∧ b = maskB b0) ∨ (tr.contains k = false ∧ b = b0)) := fun k b hb => by
  rw [maskGo_get] at hb
  cases hH : H[k]? with
  | none => simp [hH] at hb
  | some b0 =>
   simp only [hH, Option.map_some, Option.some.injEq, Nat.zero_add] at hb
   refine ⟨b0, rfl, ?_⟩
   split at hb
   ·rename_i ht
    subst hb
    exact ⟨maskB_live, .inl ⟨ht, rfl⟩⟩
   ·rename_i ht
    subst hb
    exact ⟨fun h => ⟨h, rfl⟩, .inr ⟨by simpa using ht, rfl⟩⟩
 refine ⟨hb0, fun b hz => ?_, hW.znew, fun k b hk hl hp => ?_, fun k b hk hl hp => ?_, fun k b hk hl => ?_, fun i j bi bj hi hj li lj pi e => ?_, fun k b hb => ?_, hW.glob.mono (fun _ h => h) hw, fun p hp => ⟨R.mono (n := H.length) (fun _ _ => rfl) (fun _ h => h) hw _ _ (hW.gh p hp).2 (hW.gh p hp).1, by rw [maskGo_length]; exact (hW.gh p hp).2⟩, fun D hD => ⟨(hW.mks D hD).1, by unfold MkAt; rw [hw D (hW.mks D hD).1]; exact (hW.mks D hD).2⟩⟩
 ·have := hW.zlt b hz; have := hn.size; omega
 ·obtain ⟨b0, h1, h2, _⟩ := old k b hk
  obtain ⟨h3, h4⟩ := h2 hl
  exact hW.zown k b0 h1 h3 (h4 ▸ hp)
 ·obtain ⟨b0, h1, h2, _⟩ := old k b hk
  obtain ⟨h3, h4⟩ := h2 hl
  exact hW.zpub k b0 h1 h3 (h4 ▸ hp)
 ·obtain ⟨b0, h1, h2, _⟩ := old k b hk
  exact hW.low k b0 h1 (h2 hl).1
 ·obtain ⟨b0, h1, h2, _⟩ := old i bi hi
  obtain ⟨c0, g1, g2, _⟩ := old j bj hj
  exact hW.inj i j b0 c0 h1 g1 (h2 li).1 (g2 lj).1 ((h2 li).2 ▸ pi) e
 ·obtain ⟨b0, h1, h2, h3⟩ := old k b hb
  obtain ⟨f1, f2⟩ := hW.blk k b0 h1
  rw [maskGo_length]
  rcases h3 with ⟨ht, rfl⟩ | ⟨ht, rfl⟩
  ·rcases maskB_cases b0 with ⟨m1, m2⟩ | ⟨m1, m2⟩
   ·rw [m2]
    obtain ⟨cs', g1, g2⟩ := hs k b0 ht h1 m1
    refine ⟨⟨cs', g1, ?_⟩, okL_junk _ _, trivial⟩
    have := RL_junk (β := β) (Z := Z) (w := w') cs'.toList
    simpa [g2] using this
   ·rw [m2]
    exact ⟨trivial, trivial, trivial⟩
  ·have hkt : k ∉ tr := by simpa using ht
   exact ⟨f1.keep (fun _ _ => rfl) (fun _ h => h) hw rfl (fun hl => hn.block _ (hW.lt h1 hl) (hW.lvB_other h1 hl hkt)) f2, f2⟩
theorem callG_ev {o : Oper} {g : FuncId} {l : List LV} {lv : LV} {H' : List Blk} (h : (callG P Γ H o g l).all (fun q => q = (lv, H'))) : EvL H H' := by
 have bd : ∀ {t : T LV} {H1 : List Blk}, (t.bind fun y => (T.ok (y, H1) : T (LV × List Blk))).all (fun q => q = (lv, H')) → H' = H1 := fun h => by
  obtain ⟨x, h1, h2⟩ := T.bind_all h
  simp only [T.all, Prod.mk.injEq] at h2
  exact h2.2.symm
 obtain ⟨_, _, _, _, _, _, h⟩ := callG_fn h
 split at h
 ·rw [bd h]; exact EvL.refl H
 ·split at h
  ·rw [bd h]; exact EvL.refl H
  ·split at h
   ·rw [bd h]; exact EvL.pub _
   ·cases h
theorem opx_ev {o : Oper} {lv : LV} {H' : List Blk} (h : (opx P G Γ F H o).all (fun q => q = (lv, H'))) : EvL H H' := by
 by_cases hm : memFree P o = true
 ·have hH : H' = H := T.lv_all (p := fun q : LV × List Blk => q.2 = H) (x := (lv, H')) (opx_heap hm) h
  rw [hH]; exact EvL.refl H
 ·have bd : ∀ {t : T LV} {H1 : List Blk}, (t.bind fun y => (T.ok (y, H1) : T (LV × List Blk))).all (fun q => q = (lv, H')) → H' = H1 := fun h => by
   obtain ⟨x, h1, h2⟩ := T.bind_all h
   simp only [T.all, Prod.mk.injEq] at h2
   exact h2.2.symm
  unfold memFree at hm
  split at hm
  ·rename_i t ho
   unfold opx at h
   simp only [ho] at h
   split at h
   ·split at h
    ·simp only [T.all, Prod.mk.injEq] at h
     rw [← h.2]; exact EvL.app _ _
    ·cases h
   ·cases h
  ·rename_i t x ho
   unfold opx at h
   simp only [ho] at h
   split at h
   ·simp only [T.all, Prod.mk.injEq] at h
    rw [← h.2]; exact EvL.app _ _
   ·cases h
  ·rename_i t x y ho
   unfold opx at h
   simp only [ho] at h
   obtain ⟨H1, h1, h2⟩ := T.bind_all h
   simp only [T.all, Prod.mk.injEq] at h2
   obtain ⟨_, rfl⟩ := h2
   exact storeL_ev h1
  ·rename_i t n c ho
   unfold opx at h
   simp only [ho] at h
   exact makeL_ev h
  ·rename_i t r ho
   unfold opx at h
   cases r with
   | none =>
    simp only [ho] at h
    split at h
    ·simp only [T.all, Prod.mk.injEq] at h
     rw [← h.2]; exact EvL.app _ _
    ·split at h
     ·simp only [T.all, Prod.mk.injEq] at h
      rw [← h.2]; exact EvL.app _ _
     ·cases h
   | some r =>
    simp only [ho] at h
    rw [bd h]; exact EvL.refl H
  ·rename_i t m i x ho
   unfold opx at h
   simp only [ho] at h
   obtain ⟨H1, h1, h2⟩ := T.bind_all h
   simp only [T.all, Prod.mk.injEq] at h2
   obtain ⟨_, rfl⟩ := h2
   exact insL_ev h1
  ·rename_i t m i x ho
   unfold opx at h
   simp only [ho] at h
   obtain ⟨H1, h1, h2⟩ := T.bind_all h
   simp only [T.all, Prod.mk.injEq] at h2
   obtain ⟨_, rfl⟩ := h2
   exact insL_ev h1
  ·rename_i t len parts ho
   unfold opx at h
   simp only [ho] at h
   split at h
   ·split at h
    ·unfold emptyL at h
     split at h
     ·simp only [T.all, Prod.mk.injEq] at h
      rw [← h.2]; exact EvL.app _ _
     ·cases h
    ·cases h
   ·split at h
    ·split at h
     ·rw [bd h]; exact EvL.refl H
     ·unfold litO at h
      split at h
      ·obtain ⟨y, h1, h2⟩ := T.bind_all h
       simp only [T.all, Prod.mk.injEq] at h2
       rw [← h2.2]; exact EvL.pub _
      ·cases h
    unfold litC at h
    split at h
    ·split at h
     ·split at h
      ·split at h
       ·simp only [T.all, Prod.mk.injEq] at h
        rw [← h.2]; exact EvL.app _ _
       ·cases h
      ·cases h
     ·cases h
    ·cases h
  ·rename_i args ty ho
   unfold opx at h
   simp only [ho] at h
   split at h
   ·exact appendL_ev h
   ·cases h
  ·rename_i f args ty ho
   unfold opx at h
   simp only [ho] at h
   split at h
   ·exact callG_ev h
   ·cases h
  ·rename_i r name args ty ho
   unfold opx at h
   simp only [ho] at h
   split at h
   ·exact callG_ev h
   ·cases h
  ·simp at hm
/-! ### the first pass -/
theorem p1_sound (hΓ : ∀ g S, Γ g = some S → Valid P G g S) {ops : Array Oper} {tr : List Nat} {Hm : List Blk} {D : World → Prop} {K : Act → Prop} {F' : List LV} {HH : List Blk} (hlen : Hm.length = H.length)
  (hW : RW G w0 Z0 Z β Hm wr) (hD : ∀ w', D w' → RW G w0 Z0 Z β Hm w' ∧ ∀ b, (Z b ∨ ∃ k bk, Hm[k]? = some bk ∧ live β k bk ∧ tr.contains k = false ∧ b = (β k).b) → w'.heap[b]? = wr.heap[b]?)
  (hK : ∀ a1, RF ds β Z wr H.length F' a1 → K a1) : ∀ (fs : List Bool) (os : List Oper) (F : List LV) (a : Act), fs.length = os.length → RF ds β Z wr H.length F a →
   (p1x P G Γ ops tr HH Hm fs os F).all (fun q => q = (F', HH)) → wpP1 P ops D K fs os a
 | [], [], F, a, _, hF, h => by
  simp only [p1x, T.all, Prod.mk.injEq, and_true] at h
  subst h
  exact wpP1_end (hK a hF)
 | [], _ :: _, _, _, hl, _, _ => by simp at hl
 | _ :: _, [], _, _, hl, _, _ => by simp at hl
 | f :: fs, o :: os, F, a, hl, hF, h => by
  have hl' : fs.length = os.length := by simpa using hl
  simp only [p1x] at h
  simp only [wpP1]
  split at h
  ·rename_i hf
   rw [if_pos hf]
   exact p1_sound hΓ hlen hW hD hK fs os F a hl' hF h
  ·rename_i hf
   rw [if_neg hf]
   have goOk : ∀ (F : List LV), RF ds β Z wr H.length F a → ((calmx P G Γ tr F Hm o).bind fun y => p1x P G Γ ops tr HH Hm fs os (setF F o.dst y)).all (fun q => q = (F', HH)) → calm P o a D (wpP1 P ops D K fs os) := fun F hF h => by
    obtain ⟨lv, h1, h2⟩ := T.bind_all h
    obtain ⟨v, g1, g2, g3⟩ := look_sound hΓ hW (by rw [hlen]; exact hF) hD h1
    exact ⟨v, g1, p1_sound hΓ hlen hW hD hK fs os _ _ hl' (hF.put g2 (by rw [← hlen]; exact g3) o.dst) h2⟩
   have passOk : ∀ (F : List LV), RF ds β Z wr H.length F a → (p1x P G Γ ops tr HH Hm fs os (setF F o.dst (.v undef))).all (fun q => q = (F', HH)) → wpP1 P ops D K fs os (a.put o.dst undef) := fun F hF h =>
    p1_sound hΓ hlen hW hD hK fs os _ _ hl' (hF.pass o.dst) h
   split at h
   ·rename_i hg
    have hw : Region.wanted o (yielded ops a.tmps) = true := by simp [Region.wanted, hg]
    rw [if_pos hw]
    exact goOk F hF h
   ·rename_i j want hg
    split at h
    ·rename_i d hd
     split at h
     ·rename_i b hb
      obtain ⟨s1, s2⟩ := hF.slot hb (by simp)
      have hv := (hF.get d _ s1).1
      simp only [R] at hv
      rw [hv] at s2
      rw [wanted_of hg hd s2]
      split at h
      ·rename_i e; subst e; simp only [beq_self_eq_true, if_true]; exact goOk F hF h
      ·rename_i e; rw [if_neg (by simpa using e)]; exact passOk F hF h
     ·rename_i g hb
      obtain ⟨s1, s2⟩ := hF.slot hb (by simp)
      have hv := (hF.get d _ s1).1
      simp only [R] at hv
      have kn : ∀ b, g = b → RF ds β Z wr H.length (F.set d (.bl b)) a := fun b e => hF.know (by simp only [R]; rw [hv, e]) trivial
      rw [hv] at s2
      rw [wanted_of hg hd s2]
      split at h
      ·rename_i hwt
       subst hwt
       simp only [T.all] at h
       cases hgg : g with
       | true => simp only [beq_self_eq_true, if_true]; exact goOk _ (kn true hgg) (h.1 hgg)
       | false => rw [if_neg (by simp)]; exact passOk _ (kn false hgg) (h.2 hgg)
      ·rename_i hwt
       have hwt' : want = false := by simpa using hwt
       subst hwt'
       simp only [T.all] at h
       cases hgg : g with
       | true => rw [if_neg (by simp)]; exact passOk _ (kn true hgg) (h.1 hgg)
       | false => simp only [beq_self_eq_true, if_true]; exact goOk _ (kn false hgg) (h.2 hgg)
     ·rename_i vs hb
      obtain ⟨s1, s2⟩ := hF.slot hb (by simp)
      have hv := (hF.get d _ s1).1
      simp only [R] at hv
      rw [hv] at s2
      rw [wanted_none hg hd s2, if_neg (by simp)]
      exact passOk F hF h
     ·cases h
    ·cases h
theorem p1x_keeps {ops : Array Oper} {tr : List Nat} {Hm : List Blk} {F0 : List LV} : ∀ (fs : List Bool) (os : List Oper) (F : List LV), (∀ o ∈ os, o ∈ ops.toList) → F.length = F0.length ∧ (∀ i, i ∉ dsts ops.toList → F[i]? = F0[i]?) →
  (p1x P G Γ ops tr H Hm fs os F).lv (Keeps (dsts ops.toList) F0 H)
 | [], _, F, _, h => by simp only [p1x, T.lv, Keeps]; exact ⟨h.1, h.2, trivial⟩
 | _ :: _, [], F, _, h => by simp only [p1x, T.lv, Keeps]; exact ⟨h.1, h.2, trivial⟩
 | f :: fs, o :: os, F, hin, h => by
  have hin' : ∀ o ∈ os, o ∈ ops.toList := fun o ho => hin o (by simp [ho])
  have hdo : ∀ t, o.dst = some t → t ∈ dsts ops.toList := fun t ht => List.mem_filterMap.2 ⟨o, hin o (by simp), ht⟩
  have go : ∀ F : List LV, F.length = F0.length ∧ (∀ i, i ∉ dsts ops.toList → F[i]? = F0[i]?) → ((calmx P G Γ tr F Hm o).bind fun y => p1x P G Γ ops tr H Hm fs os (setF F o.dst y)).lv (Keeps (dsts ops.toList) F0 H) := fun F hF =>
   T.lv_bind (p := fun _ => True) (fun q _ => p1x_keeps fs os _ hin' (keeps_setF hF hdo _)) (T.lv_true (fun _ => trivial) _)
  have pass : ∀ F : List LV, F.length = F0.length ∧ (∀ i, i ∉ dsts ops.toList → F[i]? = F0[i]?) → (p1x P G Γ ops tr H Hm fs os (setF F o.dst (.v undef))).lv (Keeps (dsts ops.toList) F0 H) := fun F hF =>
   p1x_keeps fs os _ hin' (keeps_setF hF hdo _)
  simp only [p1x]
  split
  ·exact p1x_keeps fs os F hin' h
  ·split
   ·exact go F h
   ·rename_i j want hg
    split
    ·rename_i d hd
     have hdd : d ∈ dsts ops.toList := by
      cases hj : ops[j]? with
      | none => simp [hj] at hd
      | some oj => simp [hj] at hd; exact List.mem_filterMap.2 ⟨oj, by simpa using Array.mem_of_getElem? hj, hd⟩
     split
     ·split
      ·exact go F h
      ·exact pass F h
     ·split
      ·exact ⟨go _ (keeps_set h hdd _), pass _ (keeps_set h hdd _)⟩
      ·exact ⟨pass _ (keeps_set h hdd _), go _ (keeps_set h hdd _)⟩
     ·exact pass F h
     ·trivial
    ·trivial
/-! ### the second pass -/
structure Gh where
 Z : Nat → Prop
 β : Nat → Loc
 H : List Blk
 F : List LV
 a : Act
structure Cls (ds : List Deferred) (G : Globs) (w0 : World) (Z0 : Gz) (tr : List Nat) (β : Nat → Loc) (H : List Blk) (wr : World) (g : Gh) (w' : World) : Prop where
 rw : RW G w0 Z0 g.Z g.β g.H w'
 rf : RF ds g.β g.Z w' g.H.length g.F g.a
 near : Near (lvB β H tr) wr w'
 len : H.length ≤ g.H.length
 old : ∀ k, k < H.length → g.β k = β k
 new : ∀ k, H.length ≤ k → k < g.H.length → wr.heap.size ≤ (g.β k).b ∨ (g.β k).b ∈ lvB β H tr
 shp : EvL H g.H
theorem Cls.keep {tr : List Nat} {g : Gh} {w' w'' : World} (h : Cls ds G w0 Z0 tr β H wr g w') (hb : Below w'.heap.size w' w'') : Cls ds G w0 Z0 tr β H wr g w'' :=
 ⟨h.rw.same hb, h.rf.mono (Nat.le_refl _) (fun _ _ => rfl) (fun _ h => h) (fun b hz => below_block hb (h.rw.zlt b hz)), near_below h.near hb, h.len, h.old, h.new, h.shp⟩
theorem Cls.shape {tr : List Nat} {g : Gh} {w' : World} (h : Cls ds G w0 Z0 tr β H wr g w') : Shp tr β H w' := fun k b _ hb hcl => by
 obtain ⟨b', e1, e2⟩ := h.shp k b hb
 obtain ⟨c1, c2, c3⟩ := e2.cl hcl
 obtain ⟨_, ⟨cs, f2, f3⟩, _⟩ := blk_cl h.rw e1 c1
 have hk : k < H.length := (List.getElem?_eq_some_iff.1 hb).1
 rw [h.old k hk, c2] at f2
 refine ⟨cs, f2, ?_⟩
 have := RL.length f3
 simp at this
 omega
theorem Cls.touch {tr : List Nat} {g : Gh} {o : Oper} {w' : World} (hc : Cls ds G w0 Z0 tr β H wr g w') (hst : okStore G g.F tr H.length o = true) {x : Nat} (hx : x ∈ lvB g.β g.H (wrt G g.F o)) : wr.heap.size ≤ x ∨ x ∈ lvB β H tr := by
 obtain ⟨k, b, h1, h2, h3, h4, rfl⟩ := mem_lvB.1 hx
 have hkg : k < g.H.length := (List.getElem?_eq_some_iff.1 h2).1
 by_cases hk : k < H.length
 ·right
  unfold okStore at hst
  have := List.all_eq_true.1 hst k h1
  simp only [Bool.or_eq_true, decide_eq_true_eq] at this
  have hkt : k ∈ tr := by
   rcases this with h | h
   ·simpa using h
   ·omega
  obtain ⟨b0, hb0⟩ : ∃ b0, H[k]? = some b0 := ⟨_, List.getElem?_eq_getElem hk⟩
  obtain ⟨b', e1, e2⟩ := hc.shp k b0 hb0
  rw [h2] at e1
  simp only [Option.some.injEq] at e1
  subst e1
  refine mem_lvB.2 ⟨k, b0, hkt, hb0, ?_, e2.p h4, by rw [hc.old k hk]⟩
  have := e2.live g.β k h3
  rwa [live_eq (hc.old k hk)] at this
 ·exact hc.new k (by omega) hkg
theorem cls_step (hΓ : ∀ g S, Γ g = some S → Valid P G g S) {tr : List Nat} {g : Gh} {o : Oper} {lv : LV} {H1 : List Blk} {w' : World} (hst : okStore G g.F tr H.length o = true) (h1 : (opx P G Γ g.F g.H o).all (fun q => q = (lv, H1))) (hc : Cls ds G w0 Z0 tr β H wr g w') :
  actUpon P (fun v w'' => ∃ g' : Gh, Cls ds G w0 Z0 tr β H wr g' w'' ∧ g'.F = setF g.F o.dst lv ∧ g'.H = H1 ∧ g'.a = g.a.put o.dst v) ((execOp g.a.eval o).run P w') := by
 refine actUpon_mono (fun v w'' ⟨Z', β', e1, e2, e3, e4, e5, e6, e7, e8⟩ => ?_) (opx_sound hΓ hc.rw hc.rf h1)
 refine ⟨⟨Z', β', H1, setF g.F o.dst lv, g.a.put o.dst v⟩, ?_, rfl, rfl, rfl⟩
 have hsz := hc.near.size
 refine ⟨e1, e2.put e3 e4 o.dst, ⟨e8.os.trans hc.near.os, e8.tape.trans hc.near.tape, e8.output.trans hc.near.output, Nat.le_trans hsz e8.size, fun k hk hn => ?_⟩, Nat.le_trans hc.len e5, fun k hk => ?_, fun k h3 h4 => ?_, hc.shp.trans (opx_ev h1)⟩
 ·rw [e8.block k (by omega) fun hm => ?_]
  ·exact hc.near.block k hk hn
  ·rcases hc.touch hst hm with h | h
   ·omega
   ·exact hn h
 ·show β' k = β k
  rw [e6 k (Nat.lt_of_lt_of_le hk hc.len)]; exact hc.old k hk
 ·show wr.heap.size ≤ (β' k).b ∨ (β' k).b ∈ lvB β H tr
  by_cases hkk : k < g.H.length
  ·rw [e6 k hkk]; exact hc.new k h3 hkk
  ·rcases e7 k (by omega) h4 with h | h
   ·exact .inl (by omega)
   ·exact hc.touch hst h
theorem wpP2_sub {T' : Type} {C : T' → World → Prop} {Q' : Act → World → Prop} {ops : Array Oper} {g g1 : T'} (hs : ∀ w', C g w' → C g1 w') : ∀ (fs : List Bool) (os : List Oper) (a : Act),
  wpP2 P ops C (fun a' g' => ∀ w', C g' w' → Q' a' w') fs os a g1 → wpP2 P ops C (fun a' g' => ∀ w', C g' w' → Q' a' w') fs os a g
 | [], _, a, h => by
  simp only [wpP2] at h ⊢
  exact fun w' hw' => h w' (hs w' hw')
 | _ :: _, [], a, h => by
  simp only [wpP2] at h ⊢
  exact fun w' hw' => h w' (hs w' hw')
 | f :: fs, o :: os, a, h => by
  simp only [wpP2] at h ⊢
  split
  ·rename_i hf
   rw [if_pos hf] at h
   split
   ·rename_i hw
    rw [if_pos hw] at h
    exact fun w' hw' => h w' (hs w' hw')
   ·rename_i hw
    rw [if_neg hw] at h
    exact wpP2_sub hs fs os _ h
  ·rename_i hf
   rw [if_neg hf] at h
   exact wpP2_sub hs fs os a h
theorem p2_sound (hΓ : ∀ g S, Γ g = some S → Valid P G g S) {ops : Array Oper} {tr : List Nat} {Q : Act → World → Prop} {F' : List LV} {H' : List Blk}
  (hQ : ∀ g : Gh, g.F = F' → g.H = H' → ∀ w', Cls ds G w0 Z0 tr β H wr g w' → Q g.a w') : ∀ (fs : List Bool) (os : List Oper) (g : Gh), fs.length = os.length → (∃ w', Cls ds G w0 Z0 tr β H wr g w') →
   (p2x P G Γ ops tr H.length fs os g.F g.H).all (fun q => q = (F', H')) → wpP2 P ops (Cls ds G w0 Z0 tr β H wr) (fun a' g' => ∀ w', Cls ds G w0 Z0 tr β H wr g' w' → Q a' w') fs os g.a g
 | [], [], g, _, _, h => by
  simp only [p2x, T.all, Prod.mk.injEq] at h
  exact wpP2_end (hQ g h.1 h.2)
 | [], _ :: _, _, hl, _, _ => by simp at hl
 | _ :: _, [], _, hl, _, _ => by simp at hl
 | f :: fs, o :: os, g, hl, hex, h => by
  have hl' : fs.length = os.length := by simpa using hl
  simp only [p2x] at h
  simp only [wpP2]
  split at h
  ·rename_i hf
   rw [if_pos hf]
   have turn : ∀ (F1 : List LV), (∀ w', Cls ds G w0 Z0 tr β H wr g w' → RF ds g.β g.Z w' g.H.length F1 g.a) → ∀ w', Cls ds G w0 Z0 tr β H wr g w' → Cls ds G w0 Z0 tr β H wr ⟨g.Z, g.β, g.H, F1, g.a⟩ w' := fun F1 hF1 w' hc => ⟨hc.rw, hF1 w' hc, hc.near, hc.len, hc.old, hc.new, hc.shp⟩
   have goOk : ∀ (F1 : List LV), (∀ w', Cls ds G w0 Z0 tr β H wr g w' → RF ds g.β g.Z w' g.H.length F1 g.a) → (if okStore G F1 tr H.length o then (opx P G Γ F1 g.H o).bind fun q => p2x P G Γ ops tr H.length fs os (setF F1 o.dst q.1) q.2 else .no).all (fun q => q = (F', H')) →
     actAt P o g.a (Cls ds G w0 Z0 tr β H wr) g (wpP2 P ops (Cls ds G w0 Z0 tr β H wr) (fun a' g' => ∀ w', Cls ds G w0 Z0 tr β H wr g' w' → Q a' w') fs os) := fun F1 hF1 h => by
    split at h
    ·rename_i hst
     obtain ⟨⟨lv, H1⟩, h1, h2⟩ := T.bind_all h
     intro w' hc
     refine actUpon_mono (fun v w'' ⟨g', e1, e2, e3, e4⟩ => ⟨g', e1, ?_⟩) (cls_step (g := ⟨g.Z, g.β, g.H, F1, g.a⟩) hΓ hst h1 (turn F1 hF1 w' hc))
     have := p2_sound hΓ hQ fs os g' hl' ⟨w'', e1⟩ (by rw [e2, e3]; exact h2)
     rw [e4] at this
     exact this
    ·cases h
   have passOk : ∀ (F1 : List LV), (∀ w', Cls ds G w0 Z0 tr β H wr g w' → RF ds g.β g.Z w' g.H.length F1 g.a) → (p2x P G Γ ops tr H.length fs os (setF F1 o.dst (.v undef)) g.H).all (fun q => q = (F', H')) →
     wpP2 P ops (Cls ds G w0 Z0 tr β H wr) (fun a' g' => ∀ w', Cls ds G w0 Z0 tr β H wr g' w' → Q a' w') fs os (g.a.put o.dst undef) g := fun F1 hF1 h => by
    have ps : ∀ w', Cls ds G w0 Z0 tr β H wr g w' → Cls ds G w0 Z0 tr β H wr ⟨g.Z, g.β, g.H, setF F1 o.dst (.v undef), g.a.put o.dst undef⟩ w' := fun w' hc => ⟨hc.rw, (hF1 w' hc).pass o.dst, hc.near, hc.len, hc.old, hc.new, hc.shp⟩
    refine wpP2_sub (Q' := Q) (g1 := ⟨g.Z, g.β, g.H, setF F1 o.dst (.v undef), g.a.put o.dst undef⟩) ps fs os _ ?_
    exact p2_sound hΓ hQ fs os ⟨g.Z, g.β, g.H, setF F1 o.dst (.v undef), g.a.put o.dst undef⟩ hl' (hex.imp fun w' hc => ps w' hc) h
   obtain ⟨wx, hcx⟩ := hex
   have hF := hcx.rf
   split at h
   ·rename_i hg
    have hw : Region.wanted o (yielded ops g.a.tmps) = true := by simp [Region.wanted, hg]
    rw [if_pos hw]
    exact goOk g.F (fun w' hc => hc.rf) h
   ·rename_i j want hg
    split at h
    ·rename_i d hd
     split at h
     ·rename_i b hb
      obtain ⟨s1, s2⟩ := hF.slot hb (by simp)
      have hv := (hF.get d _ s1).1
      simp only [R] at hv
      rw [hv] at s2
      rw [wanted_of hg hd s2]
      split at h
      ·rename_i e; subst e; simp only [beq_self_eq_true, if_true]; exact goOk g.F (fun w' hc => hc.rf) h
      ·rename_i e; rw [if_neg (by simpa using e)]; exact passOk g.F (fun w' hc => hc.rf) h
     ·rename_i b hb
      obtain ⟨s1, s2⟩ := hF.slot hb (by simp)
      have hv := (hF.get d _ s1).1
      simp only [R] at hv
      have kn : ∀ c, b = c → ∀ w', Cls ds G w0 Z0 tr β H wr g w' → RF ds g.β g.Z w' g.H.length (g.F.set d (.bl c)) g.a := fun c e w' hc => hc.rf.know (by simp only [R]; rw [hv, e]) trivial
      rw [hv] at s2
      rw [wanted_of hg hd s2]
      split at h
      ·rename_i hwt
       subst hwt
       simp only [T.all] at h
       cases hgg : b with
       | true => simp only [beq_self_eq_true, if_true]; exact goOk _ (kn true hgg) (h.1 hgg)
       | false => rw [if_neg (by simp)]; exact passOk _ (kn false hgg) (h.2 hgg)
      ·rename_i hwt
       have hwt' : want = false := by simpa using hwt
       subst hwt'
       simp only [T.all] at h
       cases hgg : b with
       | true => rw [if_neg (by simp)]; exact passOk _ (kn true hgg) (h.1 hgg)
       | false => simp only [beq_self_eq_true, if_true]; exact goOk _ (kn false hgg) (h.2 hgg)
     ·rename_i vs hb
      obtain ⟨s1, s2⟩ := hF.slot hb (by simp)
      have hv := (hF.get d _ s1).1
      simp only [R] at hv
      rw [hv] at s2
      rw [wanted_none hg hd s2, if_neg (by simp)]
      exact passOk g.F (fun w' hc => hc.rf) h
     ·cases h
    ·cases h
  ·rename_i hf
   rw [if_neg hf]
   exact p2_sound hΓ hQ fs os g hl' hex h
/-! ### several orders -/
theorem T.swap {α γ : Type} {K : α → γ → Prop} {t : T α} {u : T γ} : t.all (fun x => u.all (fun y => K x y)) → u.all (fun y => t.all (fun x => K x y)) := by
 intro h
 obtain ⟨x, h1, h2⟩ := T.pick h
 refine T.all_mono (fun y hy => ?_) h1
 exact T.all_mono (fun z hz => by rw [hz]; exact hy) h2
theorem evalL_setF {F : List LV} {d : Option Tmp} {y : LV} {x : Operand} (h : ∀ t, d = some t → x ≠ .tmp t) : evalL G (setF F d y) x = evalL G F x := by
 cases d with
 | none => rfl
 | some t =>
  cases x with
  | tmp s =>
   have hne : s ≠ t := fun e => h t rfl (by rw [e])
   simp only [evalL, setF, List.getD, List.getElem?_set_ne (Ne.symm hne)]
  | _ => rfl
theorem looks {ops : Array Oper} {o : Oper} {d : Option Tmp} (h : ∀ t, d = some t → t ∉ o.looksAt ops) : ∀ x ∈ o.op.operands, ∀ t, d = some t → x ≠ .tmp t := fun x hx t ht e => h t ht (by
 subst e
 exact List.mem_append_left _ (List.mem_filterMap.2 ⟨.tmp t, by simpa using hx, rfl⟩))
theorem setF_comm {F : List LV} {d e : Option Tmp} {x y : LV} (h : ∀ t, d = some t → e ≠ some t) : setF (setF F d x) e y = setF (setF F e y) d x := by
 cases d with
 | none => rfl
 | some t =>
  cases e with
  | none => rfl
  | some s =>
   have : t ≠ s := fun e => h t rfl (by rw [e])
   simp only [setF]
   exact List.set_comm _ _ (by omega)
theorem mkx_setF {ops : Array Oper} {o : Oper} {d : Option Tmp} {y : LV} (h : ∀ t, d = some t → t ∉ o.looksAt ops) : mkx P G Γ (setF F d y) o = mkx P G Γ F o := by
 have hl := looks h
 unfold mkx
 split
 ·rename_i t len parts ho
  have em : (parts.toList.map fun q => (q.1, evalL G (setF F d y) q.2)) = parts.toList.map fun q => (q.1, evalL G F q.2) := List.map_congr_left fun q hq => by
   rw [evalL_setF (hl q.2 (by rw [ho]; simp only [Op.operands, List.mem_toArray, List.mem_map]; exact ⟨q, hq, rfl⟩))]
  rw [em]
 ·rename_i f args ty ho
  have e1 : evalL G (setF F d y) f = evalL G F f := evalL_setF (hl f (by rw [ho]; simp [Op.operands, Call.operands]))
  have e2 : (args.toList.map fun x => norm (evalL G (setF F d y) x)) = args.toList.map fun x => norm (evalL G F x) := List.map_congr_left fun x hx => by
   rw [evalL_setF (hl x (by rw [ho]; simp only [Op.operands, Call.operands, Array.mem_append]; exact .inr (by simpa using hx)))]
  rw [e1, e2]
 ·rfl
theorem al_setF {ops : Array Oper} {o : Oper} {d : Option Tmp} {y : LV} (ha : isAl o = true) (h : ∀ t, d = some t → t ∉ o.looksAt ops) : opx P G Γ (setF F d y) H o = opx P G Γ F H o := by
 have hl := looks h
 unfold isAl at ha
 split at ha
 ·rename_i t ho
  unfold opx
  simp only [ho]
 ·rename_i t x ho
  unfold opx
  simp only [ho]
  rw [evalL_setF (hl x (by rw [ho]; simp [Op.operands]))]
 ·rename_i t n c ho
  unfold opx
  simp only [ho]
  rw [evalL_setF (hl n (by rw [ho]; simp [Op.operands])), evalL_setF (hl c (by rw [ho]; simp [Op.operands]))]
 ·cases ha
theorem am_setF {ops : Array Oper} {o : Oper} {d : Option Tmp} {y : LV} (ha : isAm o = true) (h : ∀ t, d = some t → t ∉ o.looksAt ops) : opx P G Γ (setF F d y) H o = opx P G Γ F H o := by
 have hl := looks h
 unfold isAm at ha
 split at ha
 ·rename_i t ho
  unfold opx
  simp only [ho]
 ·rename_i t x ho
  unfold opx
  simp only [ho]
  rw [evalL_setF (hl x (by rw [ho]; simp [Op.operands]))]
 ·rename_i t x ho
  unfold opx
  simp only [ho]
  rw [evalL_setF (hl x (by rw [ho]; simp [Op.operands]))]
 ·cases ha
theorem ok_okStore {tr : List Nat} {n0 : Nat} {o : Oper} {F : List LV} (h : isAl o = true ∨ isMk o = true) : okStore G F tr n0 o = true := by
 have hw : wrt G F o = [] := by
  unfold wrt
  split
  ·rename_i ho
   rcases h with h | h
   ·simp [isAl, ho] at h
   ·simp [isMk, ho] at h
  ·rename_i ho
   rcases h with h | h
   ·simp [isAl, ho] at h
   ·simp [isMk, ho] at h
  ·rename_i ho
   rcases h with h | h
   ·simp [isAl, ho] at h
   ·simp [isMk, ho] at h
  ·rename_i ho
   rcases h with h | h
   ·simp [isAl, ho] at h
   ·simp [isMk, ho] at h
  ·rfl
 unfold okStore
 rw [hw]; rfl
theorem ok_okStoreM {tr : List Nat} {n0 : Nat} {o : Oper} {F : List LV} (h : isAm o = true ∨ isMk o = true) : okStore G F tr n0 o = true := by
 have hw : wrt G F o = [] := by
  unfold wrt
  split
  ·rename_i ho
   rcases h with h | h
   ·simp [isAm, ho] at h
   ·simp [isMk, ho] at h
  ·rename_i ho
   rcases h with h | h
   ·simp [isAm, ho] at h
   ·simp [isMk, ho] at h
  ·rename_i ho
   rcases h with h | h
   ·simp [isAm, ho] at h
   ·simp [isMk, ho] at h
  ·rename_i ho
   rcases h with h | h
   ·simp [isAm, ho] at h
   ·simp [isMk, ho] at h
  ·rfl
 unfold okStore
 rw [hw]; rfl
theorem p2f_swap {ops : Array Oper} {tr : List Nat} {n0 : Nat} {i j : Nat} {is : List Nat} {K : List LV × List Blk → Prop} (hc : commB ops i j = true) (h : (p2f P G Γ ops tr n0 (j :: i :: is) F H).all K) : (p2f P G Γ ops tr n0 (i :: j :: is) F H).all K := by
 unfold commB at hc
 split at hc
 ·rename_i x y hx hy
  simp only [Bool.and_eq_true, Bool.or_eq_true] at hc
  obtain ⟨⟨⟨g1, g2⟩, g3⟩, hap⟩ := hc
  obtain ⟨a1, a2, a3⟩ := Oper.apart_spec hap
  have sx : ∀ F : List LV, okStore G F tr n0 x = true := fun F => ok_okStoreM (by rcases g3 with (g3 | g3) | g3 <;> simp [g3.1])
  have sy : ∀ F : List LV, okStore G F tr n0 y = true := fun F => ok_okStoreM (by rcases g3 with (g3 | g3) | g3 <;> simp [g3.2])
  have notboth : ∀ o : Oper, isMk o = true → isAm o = true → False := fun o h1 h2 => by
   unfold isMk at h1
   split at h1
   ·rename_i ho; simp [isAm, ho] at h2
   ·rename_i ho; simp [isAm, ho] at h2
   ·cases h1
  simp only [p2f, hx, hy, g1, g2, sx, sy, Bool.and_self, if_true] at h ⊢
  rw [T.all_bind] at h ⊢
  rcases g3 with (⟨g3, g4⟩ | ⟨g3, g4⟩) | ⟨g3, g4⟩
  ·have nx : ¬ isMk x = true := fun e => notboth x e g3
   simp only [spx, if_pos g4, if_neg nx] at h ⊢
   rw [T.all_bind] at h
   have h2 := T.all_mono (fun z hz => by
    simp only [T.all] at hz
    rw [T.all_bind, am_setF g3 a3] at hz
    exact hz) h
   refine T.all_mono (fun q hq => ?_) (T.swap h2)
   rw [T.all_bind, T.all_bind, mkx_setF a1]
   refine T.all_mono (fun z hz => ?_) hq
   simp only [T.all]
   rw [setF_comm a2]
   exact hz
  ·have ny : ¬ isMk y = true := fun e => notboth y e g4
   simp only [spx, if_pos g3, if_neg ny] at h ⊢
   rw [T.all_bind]
   have h2 := T.all_mono (fun z hz => by
    rw [T.all_bind, T.all_bind, mkx_setF a3] at hz
    exact hz) h
   refine T.all_mono (fun q hq => ?_) (T.swap h2)
   simp only [T.all]
   rw [T.all_bind, am_setF g4 a1]
   refine T.all_mono (fun z hz => ?_) hq
   simp only [T.all] at hz
   rw [setF_comm a2]
   exact hz
  ·simp only [spx, if_pos g3, if_pos g4] at h ⊢
   rw [T.all_bind] at h ⊢
   have h2 := T.all_mono (fun z hz => by
    simp only [T.all] at hz
    rw [T.all_bind, T.all_bind, mkx_setF a3] at hz
    exact hz) h
   refine T.all_mono (fun q hq => ?_) (T.swap h2)
   simp only [T.all]
   rw [T.all_bind, T.all_bind, mkx_setF a1]
   refine T.all_mono (fun z hz => ?_) hq
   simp only [T.all] at hz ⊢
   rw [setF_comm a2]
   exact hz
 ·cases hc
theorem p2f_cons {ops : Array Oper} {tr : List Nat} {n0 : Nat} {j : Nat} {R R' : List Nat} {K : List LV × List Blk → Prop} (hh : ∀ (F : List LV) (H : List Blk), (p2f P G Γ ops tr n0 R F H).all K → (p2f P G Γ ops tr n0 R' F H).all K) (h : (p2f P G Γ ops tr n0 (j :: R) F H).all K) : (p2f P G Γ ops tr n0 (j :: R') F H).all K := by
 simp only [p2f] at h ⊢
 split at h
 ·split at h
  ·rename_i hg
   rw [if_pos hg]
   rw [T.all_bind] at h ⊢
   exact T.all_mono (fun q hq => hh _ _ hq) h
  ·cases h
 ·cases h
theorem p2f_front {ops : Array Oper} {tr : List Nat} {n0 : Nat} {i : Nat} {K : List LV × List Blk → Prop} : ∀ (R : List Nat) (F : List LV) (H : List Blk), i ∈ R → (befR i R).all (fun j => commB ops i j) = true → (p2f P G Γ ops tr n0 R F H).all K → (p2f P G Γ ops tr n0 (i :: R.erase i) F H).all K
 | [], _, _, hi, _, _ => by cases hi
 | j :: R, F, H, hi, hb, h => by
  by_cases hj : j = i
  ·subst hj
   simpa using h
  ·have hi' : i ∈ R := by
    rcases List.mem_cons.1 hi with e | e
    ·exact absurd e.symm hj
    ·exact e
   simp only [befR, if_neg hj, List.all_cons, Bool.and_eq_true] at hb
   rw [List.erase_cons_tail (by simpa using hj)]
   exact p2f_swap hb.1 (p2f_cons (fun F H h => p2f_front R F H hi' hb.2 h) h)
theorem litL_pos {t : TypeId} {len : Nat} {l : List (Nat × LV)} {K : LV → Prop} (h : (litL P t len l).all K) : ¬ len = 0 := by
 unfold litL at h
 rintro rfl
 split at h
 ·split at h
  ·split at h
   ·rename_i hc; have := hc.2.2.1; omega
   ·cases h
  ·cases h
 ·cases h
theorem litL_typed {t : TypeId} {len : Nat} {l : List (Nat × LV)} {K : LV → Prop} (h : (litL P t len l).all K) : typedSl P t = true := by
 unfold litL at h
 unfold typedSl
 split at h
 ·rename_i e hu
  split at h
  ·rename_i ty m z h1 h2 h3
   simp [h1]
  ·cases h
 ·cases h
theorem mkx_opx {o : Oper} {lv : LV} (_ : isMk o = true) (h : (mkx P G Γ F o).all (fun z => z = lv)) : (opx P G Γ F H o).all (fun q => q = (lv, H)) := by
 unfold mkx at h
 split at h
 ·rename_i t len parts ho
  split at h
  ·rename_i hno
   unfold opx
   simp only [ho]
   rw [if_neg (litL_pos h), if_pos (litL_typed h), if_pos hno, T.all_bind]
   exact T.all_mono (fun z hz => by simp only [T.all]; rw [hz]) h
  ·cases h
 ·rename_i f args ty ho
  unfold opx
  simp only [ho]
  split at h
  ·rename_i g cap hf
   split at h
   ·rename_i fn hfn
    split at h
    ·rename_i hb
     split at h
     ·rename_i S hS
      split at h
      ·rename_i hno
       simp only [callG, hfn, hb, if_true, hS, hno]
       rw [T.all_bind]
       exact T.all_mono (fun z hz => by simp only [T.all]; rw [hz]) h
      ·cases h
     ·cases h
    ·cases h
   ·cases h
  ·cases h
 ·cases h
theorem float_sound (hΓ : ∀ g S, Γ g = some S → Valid P G g S) {ops : Array Oper} {tr : List Nat} {D : World → Prop} {sp : Nat → Bool} {Q : Act → Gh → Prop} {F' : List LV} {H' : List Blk}
  (hQ : ∀ g : Gh, g.F = F' → g.H = H' → Q g.a g) : ∀ (n : Nat) (R : List Nat) (listed : Array Bool) (g : Gh), (∀ i ∈ R, sp i = true) → ordF ops n R listed = true →
   (p2f P G Γ ops tr H.length R g.F g.H).all (fun q => q = (F', H')) → wpAnyG P .any ops D (Cls ds G w0 Z0 tr β H wr) sp Q n listed g.a g
 | 0, R, listed, g, _, hB, h => by
  simp only [ordF, Bool.and_eq_true, List.isEmpty_iff] at hB
  obtain ⟨rfl, h2⟩ := hB
  simp only [p2f, T.all, Prod.mk.injEq] at h
  exact ⟨h2, hQ g h.1 h.2⟩
 | n + 1, R, listed, g, hs, hB, h => by
  simp only [ordF, Bool.and_eq_true, List.all_eq_true, Bool.not_eq_true', List.isEmpty_eq_false_iff] at hB
  obtain ⟨hne, hall⟩ := hB
  refine ⟨fun h0 => absurd h0 hne, fun i hi => ?_⟩
  obtain ⟨⟨hR, hbef⟩, hrest⟩ := hall i hi
  have hiR : i ∈ R := by simpa using hR
  have hf := p2f_front R g.F g.H hiR (by rw [List.all_eq_true]; exact hbef) h
  simp only [p2f] at hf
  split at hf
  ·rename_i o ho
   split at hf
   ·rename_i hgs
    simp only [Bool.and_eq_true, Option.isNone_iff_eq_none] at hgs
    obtain ⟨hgd, hst⟩ := hgs
    have hw : Region.wanted o (yielded ops g.a.tmps) = true := by simp [Region.wanted, hgd]
    unfold gOp
    simp only [ho, hw, if_true, hs i hiR]
    obtain ⟨⟨lv, H1⟩, h1, h2⟩ := T.bind_all hf
    have h1' : (opx P G Γ g.F g.H o).all (fun q => q = (lv, H1)) := by
     unfold spx at h1
     split at h1
     ·rename_i hm
      obtain ⟨y, k1, k2⟩ := T.bind_all h1
      simp only [T.all, Prod.mk.injEq] at k2
      obtain ⟨rfl, rfl⟩ := k2
      exact mkx_opx hm k1
     ·exact h1
    intro w' hc
    refine actUpon_mono (fun v w'' ⟨g', e1, e2, e3, e4⟩ => ⟨g', e1, ?_⟩) (cls_step hΓ hst h1' hc)
    rw [← e4]
    refine float_sound hΓ hQ n (R.erase i) _ g' (fun j hj => hs j (List.mem_of_mem_erase hj)) hrest ?_
    rw [e2, e3]
    exact h2
   ·cases hf
  ·cases hf
theorem wpAnyG_sub {T' : Type} {md : Region.Mode} {D : World → Prop} {sp : Nat → Bool} {C : T' → World → Prop} {Q' : Act → World → Prop} {ops : Array Oper} {g g1 : T'} (hs : ∀ w', C g w' → C g1 w') : ∀ (n : Nat) (listed : Array Bool) (a : Act),
  wpAnyG P md ops D C sp (fun a' g' => ∀ w', C g' w' → Q' a' w') n listed a g1 → wpAnyG P md ops D C sp (fun a' g' => ∀ w', C g' w' → Q' a' w') n listed a g
 | 0, _, _, h => ⟨h.1, fun w' hw' => h.2 w' (hs w' hw')⟩
 | n + 1, listed, a, h => ⟨fun h0 w' hw' => h.1 h0 w' (hs w' hw'), fun i hi => by
   have := h.2 i hi
   unfold gOp at this ⊢
   split
   ·rename_i ho; simp only [ho] at this; exact wpAnyG_sub hs n _ _ this
   ·rename_i o ho
    simp only [ho] at this
    split
    ·rename_i hw
     simp only [hw, if_true] at this
     split
     ·rename_i hsp
      simp only [hsp, if_true] at this
      exact fun w hw => this w (hs w hw)
     ·rename_i hsp
      simp only [hsp] at this
      exact calm_mono (fun a' hk => wpAnyG_sub hs n _ a' hk) this
    ·rename_i hw
     simp only [hw] at this
     exact wpAnyG_sub hs n _ _ this⟩
/-! ### new blocks in any order -/
mutual
theorem R.cong {β' : Nat → Loc} {n : Nat} : ∀ (x : LV) (y : Value), (∀ j, j ∈ owns x → β' j = β j) → okV n x → R β Z w x y → R β' Z w x y
 | .v _, _, _, _, h => h
 | .bl _, _, _, _, h => h
 | .ki _ _, _, _, _, h => h
 | .own k off, y, hj, _, h => by simp only [R] at *; rw [h, hj k (by simp [owns])]
 | .agg l, y, hj, hk, h => by
  simp only [R, owns, okV] at *
  obtain ⟨ys, h1, h2⟩ := h
  exact ⟨ys, h1, RL.cong l _ hj hk h2⟩
 | .tup l, y, hj, hk, h => by
  simp only [R, owns, okV] at *
  obtain ⟨ys, h1, h2⟩ := h
  exact ⟨ys, h1, RL.cong l _ hj hk h2⟩
 | .fn f l, y, hj, hk, h => by
  simp only [R, owns, okV] at *
  obtain ⟨ys, h1, h2⟩ := h
  exact ⟨ys, h1, RL.cong l _ hj hk h2⟩
 | .xq m f, y, _, hk, h => by
  simp only [R, okV] at *
  obtain ⟨b, off, h1, h2, h3⟩ := h
  refine ⟨b, off, h1, h2, fun j hj => ?_⟩
  obtain ⟨z, h4, h5⟩ := h3 j hj
  exact ⟨z, h4, R.mono (n := 0) (fun _ hk => absurd hk (by omega)) (fun _ h => h) (fun _ _ => rfl) _ _ (hk j) h5⟩
 | .xl e l, y, _, _, h => by simp only [R] at *; exact h
 | .os k es off n, y, hj, _, h => by simp only [R] at *; rw [hj k (by simp [owns])]; exact h
 | .op k es i j, y, hj, _, h => by simp only [R] at *; rw [hj k (by simp [owns])]; exact h
 | .om k, y, hj, _, h => by simp only [R] at *; rw [hj k (by simp [owns])]; exact h
 | .mp kd ks l, y, hj, hk, h => by
  simp only [R, owns, okV] at *
  obtain ⟨r, es, clock, h1, h2, h3, h4, h5⟩ := h
  exact ⟨r, es, clock, h1, h2, h3, h4, RL.cong l _ hj hk h5⟩
 | .oc k es off n c, y, hj, _, h => by simp only [R] at *; rw [hj k (by simp [owns])]; exact h
 | .yld k, y, hj, _, h => by simp only [R] at *; rw [h, hj k (by simp [owns])]
 | .junk, _, _, _, _ => by simp only [R]
theorem RL.cong {β' : Nat → Loc} {n : Nat} : ∀ (l : List LV) (ys : List Value), (∀ j, j ∈ ownsL l → β' j = β j) → okL n l → RL β Z w l ys → RL β' Z w l ys
 | [], _, _, _, h => by simpa only [RL] using h
 | x :: xs, ys, hj, hk, h => by
  simp only [RL, ownsL, List.mem_append, okL] at *
  obtain ⟨y, zs, h1, h2, h3⟩ := h
  exact ⟨y, zs, h1, R.cong x y (fun j h => hj j (.inl h)) hk.1 h2, RL.cong xs zs (fun j h => hj j (.inr h)) hk.2 h3⟩
end
mutual
theorem okV_owns {n : Nat} : ∀ (x : LV), okV n x → ∀ j, j ∈ owns x → j < n
 | .v _, _, j, h => by simp [owns] at h
 | .bl _, _, j, h => by simp [owns] at h
 | .ki _ _, _, j, h => by simp [owns] at h
 | .own k _, hk, j, h => by simp [owns] at h; subst h; exact hk
 | .agg l, hk, j, h => by simp only [owns, okV] at *; exact okL_owns l hk j h
 | .tup l, hk, j, h => by simp only [owns, okV] at *; exact okL_owns l hk j h
 | .fn _ l, hk, j, h => by simp only [owns, okV] at *; exact okL_owns l hk j h
 | .xq _ _, _, j, h => by simp [owns] at h
 | .xl _ _, _, j, h => by simp [owns] at h
 | .os k _ _ _, hk, j, h => by simp [owns] at h; subst h; exact hk
 | .op k _ _ _, hk, j, h => by simp [owns] at h; subst h; exact hk
 | .om k, hk, j, h => by simp [owns] at h; subst h; exact hk
 | .mp _ _ l, hk, j, h => by simp only [owns, okV] at *; exact okL_owns l hk j h
 | .oc k _ _ _ _, hk, j, h => by simp [owns] at h; subst h; exact hk
 | .yld k, hk, j, h => by simp [owns] at h; subst h; exact hk
 | .junk, _, j, h => by simp [owns] at h
theorem okL_owns {n : Nat} : ∀ (l : List LV), okL n l → ∀ j, j ∈ ownsL l → j < n
 | [], _, j, h => by simp [ownsL] at h
 | x :: xs, hk, j, h => by
  simp only [ownsL, List.mem_append, okL] at *
  rcases h with h | h
  ·exact okV_owns x hk.1 j h
  ·exact okL_owns xs hk.2 j h
end
mutual
theorem okV_lower {n m : Nat} : ∀ (x : LV), okV n x → (∀ j, j ∈ owns x → j < m) → okV m x
 | .v _, _, _ => trivial
 | .bl _, _, _ => trivial
 | .ki _ _, _, _ => trivial
 | .own k _, _, h => h k (by simp [owns])
 | .agg l, hk, h => by simp only [owns, okV] at *; exact okL_lower l hk h
 | .tup l, hk, h => by simp only [owns, okV] at *; exact okL_lower l hk h
 | .fn _ l, hk, h => by simp only [owns, okV] at *; exact okL_lower l hk h
 | .xq _ _, hk, _ => by simpa only [okV] using hk
 | .xl _ _, _, _ => trivial
 | .os k _ _ _, _, h => h k (by simp [owns])
 | .op k _ _ _, _, h => h k (by simp [owns])
 | .om k, _, h => h k (by simp [owns])
 | .mp _ _ l, hk, h => by simp only [owns, okV] at *; exact okL_lower l hk h
 | .oc k _ _ _ _, _, h => h k (by simp [owns])
 | .yld k, _, h => h k (by simp [owns])
 | .junk, _, _ => trivial
theorem okL_lower {n m : Nat} : ∀ (l : List LV), okL n l → (∀ j, j ∈ ownsL l → j < m) → okL m l
 | [], _, _ => trivial
 | x :: xs, hk, h => by
  simp only [ownsL, List.mem_append, okL] at *
  exact ⟨okV_lower x hk.1 (fun j hj => h j (.inl hj)), okL_lower xs hk.2 (fun j hj => h j (.inr hj))⟩
end
theorem okB_owns {n : Nat} {b : Blk} (h : okB n b) : ∀ j, j ∈ b.owns → j < n := fun j hj => by
 unfold Blk.owns at hj
 rcases List.mem_append.1 hj with hj | hj
 ·exact okL_owns _ h.1 j hj
 ·have h2 := h.2
  split at hj
  ·rename_i hk; rw [hk] at h2; exact okL_owns _ h2 j hj
  ·cases hj
theorem BlkR.cong {β' : Nat → Loc} {n k k' : Nat} {b : Blk} (hk : β' k' = β k) (hj : ∀ j, j ∈ b.owns → β' j = β j) (hok : okB n b) (h : BlkR β Z w k b) : BlkR β' Z w k' b := by
 have hc : ∀ j, j ∈ ownsL b.c → β' j = β j := fun j h => hj j (List.mem_append.2 (.inl h))
 unfold BlkR at *
 rw [hk]
 cases hbk : b.k with
 | cl =>
  simp only [hbk] at h ⊢
  obtain ⟨cs, h1, h2⟩ := h
  exact ⟨cs, h1, RL.cong _ _ hc hok.1 h2⟩
 | vec e l => simp only [hbk] at h ⊢; exact h
 | mp kd ks vs =>
  simp only [hbk] at h ⊢
  obtain ⟨es, clock, h1, h2, h3⟩ := h
  have ho := hok.2
  rw [hbk] at ho
  exact ⟨es, clock, h1, h2, RL.cong _ _ (fun j h => hj j (by unfold Blk.owns; rw [hbk]; exact List.mem_append.2 (.inr h))) ho h3⟩
 | lrec ps asg body st =>
  simp only [hbk] at h ⊢
  obtain ⟨r, h1, h2, h3, h4, h5, h6⟩ := h
  exact ⟨r, h1, h2, h3, h4, h5, RL.cong _ _ hc hok.1 h6⟩
 | st e l => simp only [hbk] at h ⊢; exact h
 | dead => trivial
def mvβ (β : Nat → Loc) (k m : Nat) : Nat → Loc := fun j => if j = k then β m else β j
theorem mvβ_at {k m : Nat} : mvβ β k m k = β m := by simp [mvβ]
theorem mvβ_ne {k m j : Nat} (h : j ≠ k) : mvβ β k m j = β j := by simp [mvβ, h]
theorem RW.move {k : Nat} {nb db : Blk} (hW : RW G w0 Z0 Z β (H ++ [nb]) w) (hk : H[k]? = some db) (hp : nb.p = false)
  (hB : ∀ (j : Nat) (b : Blk), H[j]? = some b → okB H.length b ∧ k ∉ b.owns) (hn : okB H.length nb ∧ k ∉ nb.owns) (hg : ∀ p, p ∈ Z0.gh → okV H.length p.1 ∧ k ∉ owns p.1) :
  RW G w0 Z0 Z (mvβ β k H.length) (H.set k nb) w := by
 have hkl : k < H.length := (List.getElem?_eq_some_iff.1 hk).1
 have at_ : ∀ (j : Nat) (b : Blk), (H.set k nb)[j]? = some b → (j = k ∧ b = nb) ∨ (j ≠ k ∧ H[j]? = some b) := fun j b h => by
  rw [List.getElem?_set] at h
  split at h
  ·rename_i e
   simp only [Option.some.injEq] at h
   exact .inl ⟨e.symm, h.symm⟩
  ·rename_i e; exact .inr ⟨fun x => e x.symm, h⟩
 have last : (H ++ [nb])[H.length]? = some nb := by simp
 have old : ∀ (j : Nat) (b : Blk), H[j]? = some b → (H ++ [nb])[j]? = some b := fun j b h => by rw [List.getElem?_append_left (List.getElem?_eq_some_iff.1 h).1]; exact h
 have lt : ∀ (j : Nat) (b : Blk), H[j]? = some b → j < H.length := fun j b h => (List.getElem?_eq_some_iff.1 h).1
 have lk : live (mvβ β k H.length) k nb = live β H.length nb := by unfold live; rw [mvβ_at]
 have lj : ∀ j b, j ≠ k → live (mvβ β k H.length) j b = live β j b := fun j b h => live_eq (mvβ_ne h)
 refine ⟨hW.below, hW.zlt, hW.znew, fun j b hj hl hq => ?_, fun j b hj hl hq => ?_, fun j b hj hl => ?_, fun i j bi bj hi hj li lj' pi e => ?_, fun j b hj => ?_, hW.glob, fun p hp => ?_, hW.mks⟩
 ·rcases at_ j b hj with ⟨rfl, rfl⟩ | ⟨h1, h2⟩
  ·rw [mvβ_at]; rw [lk] at hl; exact hW.zown _ _ last hl hq
  ·rw [mvβ_ne h1]; rw [lj j b h1] at hl; exact hW.zown j b (old j b h2) hl hq
 ·rcases at_ j b hj with ⟨rfl, rfl⟩ | ⟨h1, h2⟩
  ·rw [hp] at hq; cases hq
  ·rw [mvβ_ne h1]; rw [lj j b h1] at hl; exact hW.zpub j b (old j b h2) hl hq
 ·rcases at_ j b hj with ⟨rfl, rfl⟩ | ⟨h1, h2⟩
  ·rw [mvβ_at]; rw [lk] at hl; exact hW.low _ _ last hl
  ·rw [mvβ_ne h1]; rw [lj j b h1] at hl; exact hW.low j b (old j b h2) hl
 ·rcases at_ i bi hi with ⟨rfl, rfl⟩ | ⟨h1, h2⟩
  ·rcases at_ j bj hj with ⟨rfl, rfl⟩ | ⟨g1, g2⟩
   ·rfl
   ·rw [lk] at li; rw [lj j bj g1] at lj'; rw [mvβ_at, mvβ_ne g1] at e
    have := hW.inj _ j _ bj last (old j bj g2) li lj' pi e
    have := lt j bj g2; omega
  ·rcases at_ j bj hj with ⟨rfl, rfl⟩ | ⟨g1, g2⟩
   ·rw [lj i bi h1] at li; rw [lk] at lj'; rw [mvβ_ne h1, mvβ_at] at e
    have := hW.inj i _ bi _ (old i bi h2) last li lj' pi e
    have := lt i bi h2; omega
   ·rw [lj i bi h1] at li; rw [lj j bj g1] at lj'; rw [mvβ_ne h1, mvβ_ne g1] at e
    exact hW.inj i j bi bj (old i bi h2) (old j bj g2) li lj' pi e
 ·rw [List.length_set]
  rcases at_ j b hj with ⟨rfl, rfl⟩ | ⟨h1, h2⟩
  ·exact ⟨BlkR.cong mvβ_at (fun i hi => mvβ_ne (fun e => hn.2 (e ▸ hi))) hn.1 (hW.blk _ _ last).1, hn.1⟩
  ·obtain ⟨q1, q2⟩ := hB j b h2
   exact ⟨BlkR.cong (mvβ_ne h1) (fun i hi => mvβ_ne (fun e => q2 (e ▸ hi))) q1 (hW.blk j b (old j b h2)).1, q1⟩
 ·obtain ⟨q1, q2⟩ := hg p hp
  rw [List.length_set]
  exact ⟨R.cong _ _ (fun j hj => mvβ_ne (fun e => q2 (e ▸ hj))) q1 (hW.gh p hp).1, q1⟩
theorem ownsM : ∀ {l : List LV} {x : LV} {j : Nat}, x ∈ l → j ∈ owns x → j ∈ ownsL l
 | y :: ys, x, j, hx, hj => by
  simp only [ownsL, List.mem_append]
  rcases List.mem_cons.1 hx with rfl | h
  ·exact .inl hj
  ·exact .inr (ownsM h hj)
theorem ownsL_of : ∀ {l : List LV} {j : Nat}, j ∈ ownsL l → ∃ x, x ∈ l ∧ j ∈ owns x
 | x :: xs, j, h => by
  simp only [ownsL, List.mem_append] at h
  rcases h with h | h
  ·exact ⟨x, by simp, h⟩
  ·obtain ⟨y, h1, h2⟩ := ownsL_of h; exact ⟨y, by simp [h1], h2⟩
 | [], j, h => by simp [ownsL] at h
theorem evalL_owns {x : Operand} {j : Nat} (h : j ∈ owns (evalL G F x)) : j ∈ ownsL F := by
 cases x with
 | tmp t =>
  simp only [evalL] at h
  cases ht : F[t]? with
  | none => simp [List.getD, ht, owns] at h
  | some y => simp [List.getD, ht] at h; exact ownsM (List.mem_of_getElem? ht) h
 | const v => simp only [evalL] at h; split at h <;> simp [owns] at h
 | global g => simp only [evalL] at h; split at h <;> simp [owns] at h
 | func f => simp [evalL, owns, ownsL] at h
theorem ownsL_map_v : ∀ (l : List Value), ownsL (l.map .v) = []
 | [] => rfl
 | x :: xs => by simp [ownsL, owns, ownsL_map_v xs]
theorem cellsL_owns {x : LV} {cs : List LV} (h : cellsL x = some cs) : ∀ j, j ∈ ownsL cs → j ∈ owns x := fun j hj => by
 unfold cellsL at h
 split at h
 ·split at h
  ·simp only [Option.some.injEq] at h; subst h; rw [ownsL_map_v] at hj; cases hj
  ·cases h
 ·split at h
  ·simp only [Option.some.injEq] at h; subst h; simpa only [owns] using hj
  ·cases h
 ·cases h
 ·cases h
 ·simp only [Option.some.injEq] at h; subst h; simpa [ownsL] using hj
theorem setF_owns {d : Option Tmp} {x : LV} {j : Nat} (h : j ∈ ownsL (setF F d x)) : j ∈ ownsL F ∨ j ∈ owns x := by
 cases d with
 | none => exact .inl h
 | some t =>
  obtain ⟨y, h1, h2⟩ := ownsL_of h
  simp only [setF] at h1
  rcases List.mem_or_eq_of_mem_set h1 with e | e
  ·exact .inl (ownsM e h2)
  ·subst e; exact .inr h2
theorem alAt_opx {k : Nat} {o : Oper} {lv : LV} {H1 : List Blk} (h : (alAt P G F H k o).all (fun q => q = (lv, H1))) : (∃ cs t, lv = .own k 0 ∧ H1 = H.set k ⟨cs, t, .cl, false⟩ ∧ (opx P G Γ F H o).all (fun q => q = (.own H.length 0, H ++ [⟨cs, t, .cl, false⟩])) ∧ ∀ j, j ∈ ownsL cs → j ∈ ownsL F) ∨
  ∃ (m n : Nat) (e : TypeId) (ty : Ty) (l : List ty.D), lv = .os k m 0 n ∧ H1 = H.set k ⟨[], e, .vec ty l, false⟩ ∧ (opx P G Γ F H o).all (fun q => q = (.os H.length m 0 n, H ++ [⟨[], e, .vec ty l, false⟩])) := by
 unfold alAt at h
 split at h
 ·rename_i t ho
  split at h
  ·rename_i z hz
   split at h
   ·rename_i cs hcs
    simp only [T.all, Prod.mk.injEq] at h
    refine .inl ⟨cs, t, h.1.symm, h.2.symm, ?_, fun j hj => ?_⟩
    ·unfold opx; simp only [ho, hz, hcs, T.all]
    ·have := cellsL_owns hcs j hj; simp [owns] at this
   ·cases h
  ·cases h
 ·rename_i t x ho
  split at h
  ·rename_i cs hcs
   simp only [T.all, Prod.mk.injEq] at h
   refine .inl ⟨cs, t, h.1.symm, h.2.symm, ?_, fun j hj => evalL_owns (cellsL_owns hcs j hj)⟩
   unfold opx; simp only [ho, hcs, T.all]
  ·cases h
 ·rename_i t n c ho
  split at h
  ·rename_i e ty m by_ n' c' he hn hc
   split at h
   ·rename_i z hz
    split at h
    ·rename_i d hd
     split at h
     ·rename_i hsz
      simp only [T.all, Prod.mk.injEq] at h
      obtain ⟨h0, h1, h2⟩ := h
      refine .inr ⟨m, n'.toNat, e, ty, List.replicate n'.toNat d, h1.symm, h2.symm, ?_⟩
      unfold opx
      simp only [ho, makeL, he, hn, hc, hz, hd, hsz, if_true, T.all]
      exact ⟨h0, trivial⟩
     ·cases h
    ·cases h
   ·cases h
  ·cases h
 ·cases h
structure InvA (n0 : Nat) (done : Nat → Prop) (R : List Nat) (g : Gh) : Prop where
 f : ∀ j, j ∈ ownsL g.F → j < n0 ∨ ∃ i, done i ∧ j = n0 + i
 h : ∀ (k : Nat) (b : Blk), g.H[k]? = some b → ∀ j, j ∈ b.owns → j < n0 ∨ ∃ i, done i ∧ j = n0 + i
 dead : ∀ i, i ∈ R → ¬ done i ∧ ∃ b, g.H[n0 + i]? = some b
theorem cls_al0 (hΓ : ∀ g S, Γ g = some S → Valid P G g S) {tr : List Nat} {g : Gh} {o : Oper} {lv : LV} {H1 : List Blk} {w' : World} {done : Nat → Prop} {R' : List Nat} {i : Nat} (hgh : ∀ p, p ∈ Z0.gh → okV H.length p.1) (hI : InvA H.length done R' g) (hi : i ∈ R')
  (hst : okStore G g.F tr H.length o = true) {nb : Blk} {lv0 : LV} (hop : (opx P G Γ g.F g.H o).all (fun q => q = (lv0, g.H ++ [nb]))) (hpn : nb.p = false) (hcs : ∀ j, j ∈ nb.owns → j ∈ ownsL g.F) (hlow : ∀ n m, okB n nb → (∀ j, j ∈ nb.owns → j < m) → okB m nb)
  (hlv : ∀ β' Z' w'' v, R β' Z' w'' lv0 v → R (mvβ β' (H.length + i) g.H.length) Z' w'' lv v) (hlo : ∀ n, H.length + i < n → okV n lv) (hH1 : H1 = g.H.set (H.length + i) nb) (hc : Cls ds G w0 Z0 tr β H wr g w') :
  actUpon P (fun v w'' => ∃ g' : Gh, Cls ds G w0 Z0 tr β H wr g' w'' ∧ g'.F = setF g.F o.dst lv ∧ g'.H = H1 ∧ g'.a = g.a.put o.dst v) ((execOp g.a.eval o).run P w') := by
 subst hH1
 refine actUpon_mono (fun v w'' ⟨Z', β', e1, e2, e3, e4, e5, e6, e7, e8⟩ => ?_) (opx_sound hΓ hc.rw hc.rf hop)
 obtain ⟨hnd, db, hdb⟩ := hI.dead i hi
 have fresh : ∀ j, (j < H.length ∨ ∃ i', done i' ∧ j = H.length + i') → j ≠ H.length + i := fun j hj e => by
  rcases hj with hj | ⟨i', hd, e'⟩
  ·omega
  ·have : i' = i := by omega
   subst this; exact hnd hd
 have hkg : H.length + i < g.H.length := (List.getElem?_eq_some_iff.1 hdb).1
 have hsz := hc.near.size
 have hcl : ∀ j, j ∈ nb.owns → j < g.H.length := fun j hj => by
  obtain ⟨x, q1, q2⟩ := ownsL_of (hcs j hj)
  obtain ⟨t', q3⟩ := List.getElem?_of_mem q1
  exact okV_owns x (hc.rf.get t' x q3).2 j q2
 have okcs : okB g.H.length nb := hlow _ _ (e1.blk g.H.length nb (by simp)).2 hcl
 have hMv := e1.move (k := H.length + i) hdb hpn (fun j b hj => ⟨(hc.rw.blk j b hj).2, fun hm => fresh _ (hI.h j b hj _ hm) rfl⟩) ⟨okcs, fun hm => fresh _ (hI.f _ (hcs _ hm)) rfl⟩ (fun p hp => ⟨okV.mono hc.len _ (hgh p hp), fun hm => by have := okV_owns _ (hgh p hp) _ hm; omega⟩)
 have hF2 : RF ds (mvβ β' (H.length + i) g.H.length) Z' w'' (g.H.set (H.length + i) nb).length g.F g.a := by
  rw [List.length_set]
  refine ⟨hc.rf.size, fun t' x hx => ?_, e2.defers⟩
  have q := hc.rf.get t' x hx
  exact ⟨R.cong x _ (fun j hj => mvβ_ne (fresh j (hI.f j (ownsM (List.mem_of_getElem? hx) hj)))) q.2 (e2.get t' x hx).1, q.2⟩
 refine ⟨⟨Z', mvβ β' (H.length + i) g.H.length, g.H.set (H.length + i) nb, setF g.F o.dst lv, g.a.put o.dst v⟩, ?_, rfl, rfl, rfl⟩
 refine ⟨hMv, hF2.put (hlv _ _ _ _ e3) (hlo _ (by simp only [List.length_set]; exact hkg)) o.dst, ⟨e8.os.trans hc.near.os, e8.tape.trans hc.near.tape, e8.output.trans hc.near.output, Nat.le_trans hsz e8.size, fun k hk hn => ?_⟩, by simp only [List.length_set]; exact hc.len, fun k hk => ?_, fun k h3 h4 => ?_, fun k b hb => ?_⟩
 ·rw [e8.block k (by omega) fun hm => ?_]
  ·exact hc.near.block k hk hn
  ·rcases hc.touch hst hm with h | h
   ·omega
   ·exact hn h
 ·show mvβ β' (H.length + i) g.H.length k = β k
  rw [mvβ_ne (by omega), e6 k (Nat.lt_of_lt_of_le hk hc.len)]; exact hc.old k hk
 ·show wr.heap.size ≤ (mvβ β' (H.length + i) g.H.length k).b ∨ (mvβ β' (H.length + i) g.H.length k).b ∈ lvB β H tr
  simp only [List.length_set] at h4
  by_cases hkk : k = H.length + i
  ·subst hkk
   rw [mvβ_at]
   rcases e7 g.H.length (Nat.le_refl _) (by simp) with h | h
   ·exact .inl (by omega)
   ·exact hc.touch hst h
  ·rw [mvβ_ne hkk, e6 k h4]; exact hc.new k h3 h4
 ·have hkl : k < H.length := (List.getElem?_eq_some_iff.1 hb).1
  obtain ⟨b', q1, q2⟩ := hc.shp k b hb
  exact ⟨b', by simp only; rw [List.getElem?_set_ne (by omega)]; exact q1, q2⟩
theorem cls_al (hΓ : ∀ g S, Γ g = some S → Valid P G g S) {tr : List Nat} {g : Gh} {o : Oper} {lv : LV} {H1 : List Blk} {w' : World} {done : Nat → Prop} {R' : List Nat} {i : Nat} (hgh : ∀ p, p ∈ Z0.gh → okV H.length p.1) (hI : InvA H.length done R' g) (hi : i ∈ R')
  (hst : okStore G g.F tr H.length o = true) (h1 : (alAt P G g.F g.H (H.length + i) o).all (fun q => q = (lv, H1))) (hc : Cls ds G w0 Z0 tr β H wr g w') :
  actUpon P (fun v w'' => ∃ g' : Gh, Cls ds G w0 Z0 tr β H wr g' w'' ∧ g'.F = setF g.F o.dst lv ∧ g'.H = H1 ∧ g'.a = g.a.put o.dst v) ((execOp g.a.eval o).run P w') := by
 rcases alAt_opx (Γ := Γ) h1 with ⟨cs, t, rfl, hH1, hop, hcs⟩ | ⟨m, n, e, ty, l, rfl, hH1, hop⟩
 ·refine cls_al0 hΓ hgh hI hi hst hop rfl (fun j hj => ?_) (fun n m h1 h2 => ⟨okL_lower cs h1.1 (fun j hj => h2 j ?_), trivial⟩) (fun β' Z' w'' v hr => by simp only [R] at hr ⊢; rw [mvβ_at]; exact hr) (fun n hn => hn) hH1 hc
  ·unfold Blk.owns at hj
   simp only [List.append_nil] at hj
   exact hcs j hj
  ·unfold Blk.owns
   simp only [List.append_nil]
   exact hj
 ·refine cls_al0 hΓ hgh hI hi hst hop rfl (fun j hj => ?_) (fun n m h1 h2 => ⟨trivial, trivial⟩) (fun β' Z' w'' v hr => by simp only [R] at hr ⊢; rw [mvβ_at]; exact hr) (fun n hn => hn) hH1 hc
  unfold Blk.owns at hj
  simp [ownsL] at hj
theorem al_at_setF {ops : Array Oper} {o : Oper} {d : Option Tmp} {y : LV} {k : Nat} (ha : isAl o = true) (h : ∀ t, d = some t → t ∉ o.looksAt ops) : alAt P G (setF F d y) H k o = alAt P G F H k o := by
 have hl := looks h
 unfold isAl at ha
 split at ha
 ·rename_i t ho
  unfold alAt
  simp only [ho]
 ·rename_i t x ho
  unfold alAt
  simp only [ho]
  rw [evalL_setF (hl x (by rw [ho]; simp [Op.operands]))]
 ·rename_i t n c ho
  unfold alAt
  simp only [ho]
  rw [evalL_setF (hl n (by rw [ho]; simp [Op.operands])), evalL_setF (hl c (by rw [ho]; simp [Op.operands]))]
 ·cases ha
theorem alAt_set {o : Oper} {k : Nat} (ha : isAl o = true) : ∃ (p : Prop) (lv : LV) (nb : Blk), ∀ (H : List Blk) (K : LV × List Blk → Prop), (alAt P G F H k o).all K ↔ (p ∧ K (lv, H.set k nb)) := by
 unfold isAl at ha
 split at ha
 ·rename_i t ho
  unfold alAt
  simp only [ho]
  split
  ·split
   ·rename_i cs _
    exact ⟨True, .own k 0, ⟨cs, t, .cl, false⟩, fun H K => by simp only [T.all, true_and]⟩
   ·exact ⟨False, .junk, deadBk, fun H K => by simp [T.all]⟩
  ·exact ⟨False, .junk, deadBk, fun H K => by simp [T.all]⟩
 ·rename_i t x ho
  unfold alAt
  simp only [ho]
  split
  ·rename_i cs _
   exact ⟨True, .own k 0, ⟨cs, t, .cl, false⟩, fun H K => by simp only [T.all, true_and]⟩
  ·exact ⟨False, .junk, deadBk, fun H K => by simp [T.all]⟩
 ·rename_i t n c ho
  unfold alAt
  simp only [ho]
  split
  ·split
   ·split
    ·split
     ·exact ⟨_, _, _, fun H K => by simp only [T.all]; exact Iff.rfl⟩
     ·exact ⟨False, .junk, deadBk, fun H K => by simp [T.all]⟩
    ·exact ⟨False, .junk, deadBk, fun H K => by simp [T.all]⟩
   ·exact ⟨False, .junk, deadBk, fun H K => by simp [T.all]⟩
  ·exact ⟨False, .junk, deadBk, fun H K => by simp [T.all]⟩
 ·cases ha
theorem mv_not {o : Oper} (hm : isMv o = true) : isAl o = false ∧ isSt o = true ∧ ∀ G tr n0 (F : List LV), okStore G F tr n0 o = true := by
 unfold isMv at hm
 split at hm
 ·rename_i x ho
  simp [isAl, isSt, okStore, wrt, ho]
 ·rename_i x ho
  simp [isAl, isSt, okStore, wrt, ho]
 ·cases hm
theorem spa_setF {ops : Array Oper} {o : Oper} {d : Option Tmp} {y : LV} {n0 i : Nat} (ha : (isAl o || isMv o) = true) (h : ∀ t, d = some t → t ∉ o.looksAt ops) : spa P G Γ n0 i (setF F d y) H o = spa P G Γ n0 i F H o := by
 rcases Bool.or_eq_true_iff.1 ha with ha | ha
 ·unfold spa
  rw [if_pos ha, if_pos ha, al_at_setF ha h]
 ·obtain ⟨h1, h2, _⟩ := mv_not ha
  have hl := looks h
  unfold spa
  rw [h1, h2]
  unfold isMv at ha
  split at ha
  ·rename_i x ho
   unfold opx
   simp only [ho]
   rw [evalL_setF (hl x (by rw [ho]; simp [Op.operands]))]
   rfl
  ·rename_i x ho
   unfold opx
   simp only [ho]
   rw [evalL_setF (hl x (by rw [ho]; simp [Op.operands]))]
   rfl
  ·cases ha
def putAt (k : Nat) (nb : Option Blk) (H : List Blk) : List Blk :=
 match nb with
 | some b => H.set k b
 | none => H
theorem putAt_comm {i j : Nat} {a b : Option Blk} {H : List Blk} (h : i ≠ j) : putAt i a (putAt j b H) = putAt j b (putAt i a H) := by
 cases a <;> cases b <;> simp only [putAt]
 exact List.set_comm _ _ (Ne.symm h)
theorem spa_set {o : Oper} {n0 i : Nat} (ha : (isAl o || isMv o) = true) : ∃ (p : Prop) (lv : LV) (nb : Option Blk), ∀ (H : List Blk) (K : LV × List Blk → Prop), (spa P G Γ n0 i F H o).all K ↔ (p ∧ K (lv, putAt (n0 + i) nb H)) := by
 rcases Bool.or_eq_true_iff.1 ha with ha | ha
 ·obtain ⟨p, lv, nb, h⟩ := alAt_set (P := P) (G := G) (F := F) (k := n0 + i) ha
  refine ⟨p, lv, some nb, fun H K => ?_⟩
  unfold spa
  rw [if_pos ha]
  exact h H K
 ·obtain ⟨h1, h2, _⟩ := mv_not ha
  unfold isMv at ha
  split at ha
  ·rename_i x ho
   refine ⟨True, evalL G F x, none, fun H K => ?_⟩
   unfold spa opx
   rw [h1, h2]
   simp [ho, T.all, putAt]
  ·rename_i x ho
   refine ⟨True, evalL G F x, none, fun H K => ?_⟩
   unfold spa opx
   rw [h1, h2]
   simp [ho, T.all, putAt]
  ·cases ha
theorem almv_ok {o : Oper} {tr : List Nat} {n0 : Nat} (ha : (isAl o || isMv o) = true) (F : List LV) : okStore G F tr n0 o = true := by
 rcases Bool.or_eq_true_iff.1 ha with ha | ha
 ·exact ok_okStore (.inl ha)
 ·exact (mv_not ha).2.2 G tr n0 F
theorem p2a_swap {ops : Array Oper} {tr : List Nat} {n0 : Nat} {i j : Nat} {is : List Nat} {K : List LV × List Blk → Prop} (hc : commA ops i j = true) (h : (p2a P G Γ ops tr n0 (j :: i :: is) F H).all K) : (p2a P G Γ ops tr n0 (i :: j :: is) F H).all K := by
 unfold commA at hc
 split at hc
 ·rename_i x y hx hy
  simp only [Bool.and_eq_true, Bool.not_eq_true', beq_eq_false_iff_ne] at hc
  obtain ⟨⟨⟨⟨⟨hne, g1⟩, g2⟩, g3⟩, g4⟩, hap⟩ := hc
  obtain ⟨a1, a2, a3⟩ := Oper.apart_spec hap
  have sx : ∀ F : List LV, okStore G F tr n0 x = true := almv_ok g3
  have sy : ∀ F : List LV, okStore G F tr n0 y = true := almv_ok g4
  simp only [p2a, hx, hy, g1, g2, sx, sy, Bool.and_self, if_true] at h ⊢
  obtain ⟨px, lx, nx, ex⟩ := spa_set (P := P) (G := G) (Γ := Γ) (F := F) (n0 := n0) (i := i) g3
  obtain ⟨py, ly, ny, ey⟩ := spa_set (P := P) (G := G) (Γ := Γ) (F := F) (n0 := n0) (i := j) g4
  rw [T.all_bind, ey] at h
  obtain ⟨h1, h2⟩ := h
  rw [T.all_bind, spa_setF g3 a3, ex] at h2
  obtain ⟨h3, h4⟩ := h2
  rw [T.all_bind, ex]
  refine ⟨h3, ?_⟩
  rw [T.all_bind, spa_setF g4 a1, ey]
  refine ⟨h1, ?_⟩
  simp only at h4 ⊢
  rw [setF_comm a2, putAt_comm (show n0 + j ≠ n0 + i by omega)]
  exact h4
 ·cases hc
theorem p2a_cons {ops : Array Oper} {tr : List Nat} {n0 : Nat} {j : Nat} {R R' : List Nat} {K : List LV × List Blk → Prop} (hh : ∀ (F : List LV) (H : List Blk), (p2a P G Γ ops tr n0 R F H).all K → (p2a P G Γ ops tr n0 R' F H).all K) (h : (p2a P G Γ ops tr n0 (j :: R) F H).all K) : (p2a P G Γ ops tr n0 (j :: R') F H).all K := by
 simp only [p2a] at h ⊢
 split at h
 ·split at h
  ·rename_i hg
   rw [if_pos hg]
   rw [T.all_bind] at h ⊢
   exact T.all_mono (fun q hq => hh _ _ hq) h
  ·cases h
 ·cases h
theorem p2a_front {ops : Array Oper} {tr : List Nat} {n0 : Nat} {i : Nat} {K : List LV × List Blk → Prop} : ∀ (R : List Nat) (F : List LV) (H : List Blk), i ∈ R → (befR i R).all (fun j => commA ops i j) = true → (p2a P G Γ ops tr n0 R F H).all K → (p2a P G Γ ops tr n0 (i :: R.erase i) F H).all K
 | [], _, _, hi, _, _ => by cases hi
 | j :: R, F, H, hi, hb, h => by
  by_cases hj : j = i
  ·subst hj
   simpa using h
  ·have hi' : i ∈ R := by
    rcases List.mem_cons.1 hi with e | e
    ·exact absurd e.symm hj
    ·exact e
   simp only [befR, if_neg hj, List.all_cons, Bool.and_eq_true] at hb
   rw [List.erase_cons_tail (by simpa using hj)]
   exact p2a_swap hb.1 (p2a_cons (fun F H h => p2a_front R F H hi' hb.2 h) h)
theorem nodupN_erase {i : Nat} : ∀ {R : List Nat}, nodupN R = true → ∀ i' ∈ R.erase i, i' ≠ i
 | [], _, _, h => by simp at h
 | k :: R, hn, i', h => by
  simp only [nodupN, Bool.and_eq_true, Bool.not_eq_true'] at hn
  by_cases hk : k = i
  ·subst hk
   simp only [List.erase_cons_head] at h
   rintro rfl
   have : i' ∉ R := by simpa using hn.1
   exact this h
  ·rw [List.erase_cons_tail (by simpa using hk)] at h
   rcases List.mem_cons.1 h with rfl | h
   ·exact hk
   ·exact nodupN_erase hn.2 i' h
theorem nodupN_sub {i : Nat} : ∀ {R : List Nat}, nodupN R = true → nodupN (R.erase i) = true
 | [], _ => by simp [nodupN]
 | k :: R, hn => by
  simp only [nodupN, Bool.and_eq_true, Bool.not_eq_true'] at hn
  by_cases hk : k = i
  ·subst hk; simpa using hn.2
  ·rw [List.erase_cons_tail (by simpa using hk)]
   simp only [nodupN, Bool.and_eq_true, Bool.not_eq_true']
   refine ⟨?_, nodupN_sub hn.2⟩
   have : k ∉ R := by simpa using hn.1
   have : k ∉ R.erase i := fun h => this (List.mem_of_mem_erase h)
   simpa using this
theorem ownsL_setAt {l cs : List LV} {off : Nat} {j : Nat} (h : j ∈ ownsL (setAt l off cs)) : j ∈ ownsL l ∨ j ∈ ownsL cs := by
 obtain ⟨x, h1, h2⟩ := ownsL_of h
 unfold setAt at h1
 rcases List.mem_append.1 h1 with h1 | h1
 ·rcases List.mem_append.1 h1 with h1 | h1
  ·exact .inl (ownsM (List.mem_of_mem_take h1) h2)
  ·exact .inr (ownsM h1 h2)
 ·exact .inl (ownsM (List.mem_of_mem_drop h1) h2)
theorem storeL_owns {t : TypeId} {x y : LV} {H1 : List Blk} (h : (storeL P H t x y).all (fun q => q = H1)) : ∃ (k : Nat) (b nb : Blk), H[k]? = some b ∧ H1 = H.set k nb ∧ ∀ j, j ∈ nb.owns → j ∈ b.owns ∨ j ∈ owns y := by
 unfold storeL at h
 split at h
 ·rename_i n cs hn hcs
  split at h
  ·rename_i k off
   split at h
   ·rename_i b hb
    split at h
    ·rename_i hc
     simp only [T.all] at h
     refine ⟨k, b, _, hb, h.symm, fun j hj => ?_⟩
     have hcl : b.k = .cl := by
      have := hc.1
      unfold Blk.isCl at this
      split at this
      ·assumption
      ·cases this
     unfold Blk.owns at hj ⊢
     simp only [hcl, List.append_nil] at hj ⊢
     rcases ownsL_setAt hj with h | h
     ·exact .inl h
     ·exact .inr (cellsL_owns hcs j h)
    ·cases h
   ·cases h
  ·rename_i k es i j
   split at h
   ·rename_i bt e l hb
    split at h
    ·simp only [T.all] at h
     obtain ⟨_, h⟩ := h
     split at h
     ·simp only [T.all] at h
      refine ⟨k, _, _, hb, h.symm, fun j hj => ?_⟩
      unfold Blk.owns at hj
      simp [ownsL] at hj
     ·cases h
    ·cases h
   ·cases h
  ·cases h
 ·cases h
theorem norm_owns {x : LV} : owns (norm x) = owns x := by cases x <;> simp [norm, owns]
theorem ownsL_norm : ∀ (l : List LV), ownsL (l.map norm) = ownsL l
 | [] => rfl
 | x :: xs => by simp only [List.map_cons, ownsL, norm_owns, ownsL_norm xs]
theorem mkAgg_owns {l : List LV} {j : Nat} (h : j ∈ owns (mkAgg l)) : j ∈ ownsL l := by
 unfold mkAgg at h
 split at h
 ·simp [owns] at h
 ·simp only [owns, ownsL_norm] at h; exact h
theorem fillL_owns {place : Nat → Option (Nat × Nat)} : ∀ (parts : List (Nat × LV)) (cells cs : List LV), fillL place cells parts = some cs → ∀ j, j ∈ ownsL cs → j ∈ ownsL cells ∨ ∃ q, q ∈ parts ∧ j ∈ owns q.2
 | [], cells, cs, h, j, hj => by simp only [fillL, Option.some.injEq] at h; subst h; exact .inl hj
 | (i, x) :: rest, cells, cs, h, j, hj => by
  simp only [fillL] at h
  split at h
  ·rename_i off size c hp hc
   split at h
   ·rcases fillL_owns rest _ cs h j hj with h1 | ⟨q, q1, q2⟩
    ·rcases ownsL_setAt h1 with h2 | h2
     ·exact .inl h2
     ·exact .inr ⟨(i, x), by simp, cellsL_owns hc j h2⟩
    ·exact .inr ⟨q, by simp [q1], q2⟩
   ·cases h
  ·cases h
theorem buildL_owns {t : TypeId} {parts : List (Nat × LV)} {lv : LV} (h : (buildL P t parts).all (fun z => z = lv)) (j : Nat) (hj : j ∈ owns lv) : ∃ q, q ∈ parts ∧ j ∈ owns q.2 := by
 unfold buildL at h
 split at h
 ·split at h
  ·rename_i z pf _ _ cs hcs
   simp only [T.all] at h
   have hj' : j ∈ ownsL cs := by
    rw [← h] at hj
    split at hj
    ·exact hj
    ·exact mkAgg_owns hj
   rcases fillL_owns parts _ cs hcs j hj' with h1 | h1
   ·rw [ownsL_map_v] at h1; cases h1
   ·exact h1
  ·cases h
 ·cases h
theorem evalN_owns {x : Operand} {j : Nat} (h : j ∈ owns (evalN G F x)) : j ∈ ownsL F := by
 cases x with
 | const v => simp only [evalN, norm_owns] at h; exact evalL_owns h
 | tmp t => exact evalL_owns (G := G) (x := .tmp t) h
 | global g => exact evalL_owns (G := G) (x := .global g) h
 | func f => exact evalL_owns (G := G) (x := .func f) h
theorem inv_step {n0 : Nat} {done : Nat → Prop} {R : List Nat} {g g' : Gh} {o : Oper} {i : Nat} {lv : LV} {H1 : List Blk} (hI : InvA n0 done R g) (hnd : ∀ i' ∈ R.erase i, i' ≠ i) (hs : (spa P G Γ n0 i g.F g.H o).all (fun q => q = (lv, H1))) (eF : g'.F = setF g.F o.dst lv) (eH : g'.H = H1) : InvA n0 (fun i' => done i' ∨ i' = i) (R.erase i) g' := by
 have up : ∀ j, (j < n0 ∨ ∃ i', done i' ∧ j = n0 + i') → j < n0 ∨ ∃ i', (done i' ∨ i' = i) ∧ j = n0 + i' := fun j h => by
  rcases h with h | ⟨i', h1, h2⟩
  ·exact .inl h
  ·exact .inr ⟨i', .inl h1, h2⟩
 unfold spa at hs
 split at hs
 ·have al : ∀ nb : Blk, owns lv = [n0 + i] → H1 = g.H.set (n0 + i) nb → (∀ j, j ∈ nb.owns → j ∈ ownsL g.F) → InvA n0 (fun i' => done i' ∨ i' = i) (R.erase i) g' := fun nb ho hH1 hcs => by
   subst hH1
   refine ⟨fun j hj => ?_, fun k b hb j hj => ?_, fun i' hi' => ?_⟩
   ·rw [eF] at hj
    rcases setF_owns hj with h | h
    ·exact up j (hI.f j h)
    ·rw [ho] at h; simp at h; subst h; exact .inr ⟨i, .inr rfl, rfl⟩
   ·rw [eH, List.getElem?_set] at hb
    split at hb
    ·split at hb
     ·simp only [Option.some.injEq] at hb
      subst hb
      exact up j (hI.f j (hcs j hj))
     ·cases hb
    ·exact up j (hI.h k b hb j hj)
   ·obtain ⟨h1, b, h2⟩ := hI.dead i' (List.mem_of_mem_erase hi')
    refine ⟨fun h => h.elim h1 (hnd i' hi'), b, ?_⟩
    rw [eH, List.getElem?_set_ne (by have := hnd i' hi'; omega)]; exact h2
  rcases alAt_opx (Γ := Γ) hs with ⟨cs, t, rfl, hH1, _, hcs⟩ | ⟨m, n, e, ty, l, rfl, hH1, _⟩
  ·exact al _ rfl hH1 (fun j hj => by
    unfold Blk.owns at hj
    simp only [List.append_nil] at hj
    exact hcs j hj)
  ·exact al _ rfl hH1 (fun j hj => by
    unfold Blk.owns at hj
    simp [ownsL] at hj)
 ·split at hs
  ·rename_i hst
   have other : ∀ (x : LV), lv = x → H1 = g.H → (∀ j, j ∈ owns x → j ∈ ownsL g.F) → InvA n0 (fun i' => done i' ∨ i' = i) (R.erase i) g' := fun x e1 e2 e3 => by
    subst e1 e2
    refine ⟨fun j hj => ?_, fun k b hb j hj => ?_, fun i' hi' => ?_⟩
    ·rw [eF] at hj
     rcases setF_owns hj with h | h
     ·exact up j (hI.f j h)
     ·exact up j (hI.f j (e3 j h))
    ·rw [eH] at hb; exact up j (hI.h k b hb j hj)
    ·obtain ⟨h1, b, h2⟩ := hI.dead i' (List.mem_of_mem_erase hi')
     exact ⟨fun h => h.elim h1 (hnd i' hi'), b, by rw [eH]; exact h2⟩
   unfold isSt at hst
   split at hst
   ·rename_i t x y ho
    unfold opx at hs
    simp only [ho] at hs
    obtain ⟨H2, h1, h2⟩ := T.bind_all hs
    simp only [T.all, Prod.mk.injEq] at h2
    obtain ⟨rfl, rfl⟩ := h2
    obtain ⟨k, b, nb, q1, q2, q3⟩ := storeL_owns h1
    subst q2
    refine ⟨fun j hj => ?_, fun k' b' hb j hj => ?_, fun i' hi' => ?_⟩
    ·rw [eF] at hj
     rcases setF_owns hj with h | h
     ·exact up j (hI.f j h)
     ·simp [owns] at h
    ·rw [eH, List.getElem?_set] at hb
     split at hb
     ·split at hb
      ·simp only [Option.some.injEq] at hb
       subst hb
       rcases q3 j hj with h | h
       ·exact up j (hI.h k b q1 j h)
       ·exact up j (hI.f j (evalL_owns h))
      ·cases hb
     ·exact up j (hI.h k' b' hb j hj)
    ·obtain ⟨h1, b0, h2⟩ := hI.dead i' (List.mem_of_mem_erase hi')
     refine ⟨fun h => h.elim h1 (hnd i' hi'), ?_⟩
     rw [eH]
     have hlt := (List.getElem?_eq_some_iff.1 h2).1
     exact ⟨_, List.getElem?_eq_getElem (by rw [List.length_set]; exact hlt)⟩
   ·rename_i x ho
    unfold opx at hs
    simp only [ho, T.all, Prod.mk.injEq] at hs
    exact other _ hs.1.symm hs.2.symm (fun j hj => evalL_owns hj)
   ·rename_i x ho
    unfold opx at hs
    simp only [ho, T.all, Prod.mk.injEq] at hs
    exact other _ hs.1.symm hs.2.symm (fun j hj => evalL_owns hj)
   ·rename_i t parts ho
    unfold opx at hs
    simp only [ho] at hs
    obtain ⟨y, h1, h2⟩ := T.bind_all hs
    simp only [T.all, Prod.mk.injEq] at h2
    refine other _ h2.1.symm h2.2.symm (fun j hj => ?_)
    obtain ⟨q, q1, q2⟩ := buildL_owns h1 j hj
    obtain ⟨q0, _, rfl⟩ := List.mem_map.1 q1
    exact evalN_owns q2
   ·cases hst
  ·cases hs
theorem any_sound (hΓ : ∀ g S, Γ g = some S → Valid P G g S) {ops : Array Oper} {tr : List Nat} {D : World → Prop} {sp : Nat → Bool} {Q : Act → Gh → Prop} {F' : List LV} {H' : List Blk} (hgh : ∀ p, p ∈ Z0.gh → okV H.length p.1)
  (hQ : ∀ g : Gh, g.F = F' → g.H = H' → Q g.a g) : ∀ (n : Nat) (R : List Nat) (listed : Array Bool) (g : Gh) (done : Nat → Prop), nodupN R = true → InvA H.length done R g → (∀ i ∈ R, sp i = true) → ordA ops n R listed = true →
   (p2a P G Γ ops tr H.length R g.F g.H).all (fun q => q = (F', H')) → wpAnyG P .any ops D (Cls ds G w0 Z0 tr β H wr) sp Q n listed g.a g
 | 0, R, listed, g, _, _, _, _, hB, h => by
  simp only [ordA, Bool.and_eq_true, List.isEmpty_iff] at hB
  obtain ⟨rfl, h2⟩ := hB
  simp only [p2a, T.all, Prod.mk.injEq] at h
  exact ⟨h2, hQ g h.1 h.2⟩
 | n + 1, R, listed, g, done, hnd, hI, hs, hB, h => by
  simp only [ordA, Bool.and_eq_true, List.all_eq_true, Bool.not_eq_true', List.isEmpty_eq_false_iff] at hB
  obtain ⟨hne, hall⟩ := hB
  refine ⟨fun h0 => absurd h0 hne, fun i hi => ?_⟩
  obtain ⟨⟨hR, hbef⟩, hrest⟩ := hall i hi
  have hiR : i ∈ R := by simpa using hR
  have hf := p2a_front R g.F g.H hiR (by rw [List.all_eq_true]; exact hbef) h
  simp only [p2a] at hf
  split at hf
  ·rename_i o ho
   split at hf
   ·rename_i hgs
    simp only [Bool.and_eq_true, Option.isNone_iff_eq_none] at hgs
    obtain ⟨hgd, hst⟩ := hgs
    have hw : Region.wanted o (yielded ops g.a.tmps) = true := by simp [Region.wanted, hgd]
    unfold gOp
    simp only [ho, hw, if_true, hs i hiR]
    obtain ⟨⟨lv, H1⟩, h1, h2⟩ := T.bind_all hf
    have hne2 : ∀ i' ∈ R.erase i, i' ≠ i := nodupN_erase hnd
    intro w' hc
    have goal : actUpon P (fun v w'' => ∃ g' : Gh, Cls ds G w0 Z0 tr β H wr g' w'' ∧ g'.F = setF g.F o.dst lv ∧ g'.H = H1 ∧ g'.a = g.a.put o.dst v) ((execOp g.a.eval o).run P w') := by
     unfold spa at h1
     split at h1
     ·exact cls_al hΓ hgh hI hiR hst h1 hc
     ·split at h1
      ·exact cls_step hΓ hst h1 hc
      ·cases h1
    refine actUpon_mono (fun v w'' ⟨g', e1, e2, e3, e4⟩ => ⟨g', e1, ?_⟩) goal
    rw [← e4]
    refine any_sound hΓ hgh hQ n (R.erase i) _ g' (fun i' => done i' ∨ i' = i) (nodupN_sub hnd) (inv_step hI hne2 h1 e2 e3) (fun j hj => hs j (List.mem_of_mem_erase hj)) hrest ?_
    rw [e2, e3]
    exact h2
   ·cases hf
  ·cases hf
theorem RW.deads {βd : Nat → Loc} {m : Nat} (hW : RW G w0 Z0 Z β H w) (hd : ∀ k, k < H.length → βd k = β k) : RW G w0 Z0 Z βd (H ++ List.replicate m deadBk) w := by
 have old : ∀ (k : Nat) (b : Blk), (H ++ List.replicate m deadBk)[k]? = some b → (k < H.length ∧ H[k]? = some b) ∨ b = deadBk := fun k b hb => by
  by_cases h0 : k < H.length
  ·rw [List.getElem?_append_left h0] at hb; exact .inl ⟨h0, hb⟩
  ·rw [List.getElem?_append_right (by omega), List.getElem?_replicate] at hb
   split at hb
   ·simp only [Option.some.injEq] at hb; exact .inr hb.symm
   ·cases hb
 have nl : ∀ k, ¬ live βd k deadBk := fun k h => by simp [live, deadBk] at h
 refine ⟨hW.below, hW.zlt, hW.znew, fun k b hk hl hp => ?_, fun k b hk hl hp => ?_, fun k b hk hl => ?_, fun i j bi bj hi hj li lj pi e => ?_, fun k b hk => ?_, hW.glob, fun p hp => ⟨R.mono hd (fun _ h => h) (fun _ _ => rfl) _ _ (hW.gh p hp).2 (hW.gh p hp).1, okV.mono (by simp) _ (hW.gh p hp).2⟩, hW.mks⟩
 ·rcases old k b hk with ⟨h1, h2⟩ | rfl
  ·rw [hd k h1]; rw [live_eq (hd k h1)] at hl; exact hW.zown k b h2 hl hp
  ·exact absurd hl (nl k)
 ·rcases old k b hk with ⟨h1, h2⟩ | rfl
  ·rw [hd k h1]; rw [live_eq (hd k h1)] at hl; exact hW.zpub k b h2 hl hp
  ·exact absurd hl (nl k)
 ·rcases old k b hk with ⟨h1, h2⟩ | rfl
  ·rw [hd k h1]; rw [live_eq (hd k h1)] at hl; exact hW.low k b h2 hl
  ·exact absurd hl (nl k)
 ·rcases old i bi hi with ⟨h1, h2⟩ | rfl
  ·rcases old j bj hj with ⟨g1, g2⟩ | rfl
   ·rw [live_eq (hd i h1)] at li; rw [live_eq (hd j g1)] at lj; rw [hd i h1, hd j g1] at e
    exact hW.inj i j bi bj h2 g2 li lj pi e
   ·exact absurd lj (nl j)
  ·exact absurd li (nl i)
 ·rcases old k b hk with ⟨h1, h2⟩ | rfl
  ·obtain ⟨g1, g2⟩ := hW.blk k b h2
   exact ⟨g1.keep hd (fun _ h => h) (fun _ _ => rfl) (hd k h1) (fun _ => rfl) g2, g2.mono (by simp)⟩
  ·exact ⟨by simp [BlkR, deadBk], trivial, trivial⟩
/-! ### guards, and values that no own block is asked for -/
theorem pux_opx {o : Oper} {lv : LV} (h : (pux P G Γ F o).all (fun z => z = lv)) : (opx P G Γ F H o).all (fun q => q = (lv, H)) ∧ ∀ tr n0, okStore G F tr n0 o = true := by
 have bd : ∀ {t : T LV}, t.all (fun z => z = lv) → (t.bind fun y => (T.ok (y, H) : T (LV × List Blk))).all (fun q => q = (lv, H)) := fun h => by
  rw [T.all_bind]
  exact T.all_mono (fun z hz => by simp only [T.all]; rw [hz]) h
 have ok : ∀ {o : Oper}, wrt G F o = [] → ∀ tr n0, okStore G F tr n0 o = true := fun hw tr n0 => by unfold okStore; rw [hw]; rfl
 unfold pux at h
 split at h
 ·rename_i x ho
  refine ⟨?_, ok (by simp [wrt, ho])⟩
  unfold opx; simp only [ho]; simp only [T.all] at h ⊢; rw [h]
 ·rename_i x ho
  refine ⟨?_, ok (by simp [wrt, ho])⟩
  unfold opx; simp only [ho]; simp only [T.all] at h ⊢; rw [h]
 ·rename_i c x y ho
  refine ⟨?_, ok (by simp [wrt, ho])⟩
  unfold opx; simp only [ho]; exact bd h
 ·rename_i t x ho
  refine ⟨?_, ok (by simp [wrt, ho])⟩
  unfold opx; simp only [ho]
  split at h
  ·rename_i m f hx
   rw [hx]
   refine bd ?_
   unfold loadL at h ⊢
   exact h
  ·cases h
 ·rename_i s x i ho
  refine ⟨?_, ok (by simp [wrt, ho])⟩
  unfold opx; simp only [ho]; exact bd h
 ·rename_i t x i ho
  refine ⟨?_, ok (by simp [wrt, ho])⟩
  unfold opx; simp only [ho]; exact bd h
 ·rename_i t parts ho
  refine ⟨?_, ok (by simp [wrt, ho])⟩
  unfold opx; simp only [ho]; exact bd h
 ·rename_i ho
  exact ⟨mkx_opx (by simp [isMk, ho]) h, ok (by simp [wrt, ho])⟩
 ·rename_i ho
  exact ⟨mkx_opx (by simp [isMk, ho]) h, ok (by simp [wrt, ho])⟩
 ·rename_i ho
  refine ⟨?_, ok (by simp [wrt, ho])⟩
  unfold opx; simp only [ho]; exact bd h
 ·rename_i op _ _ _ _ ho
  refine ⟨?_, ok (by simp [wrt, ho])⟩
  cases op <;> first | (cases h; done) | (unfold opx; simp only [ho]; exact bd h)
 ·cases h
theorem genL_setF {ops : Array Oper} {o : Oper} {d : Option Tmp} {y : LV} (hs : ∀ cs b, o.op ≠ .select cs b) (h : ∀ t, d = some t → t ∉ o.looksAt ops) : genL P G (setF F d y) o = genL P G F o := by
 have hl := looks h
 have e : ∀ x ∈ o.op.operands, evalL G (setF F d y) x = evalL G F x := fun x hx => evalL_setF (hl x hx)
 unfold genL
 have e1 : o.op.operands.toList.all (fun x => isPl (evalL G (setF F d y) x)) = o.op.operands.toList.all (fun x => isPl (evalL G F x)) := by
  rw [Bool.eq_iff_iff, List.all_eq_true, List.all_eq_true]
  exact ⟨fun q x hx => by rw [← e x (by simpa using hx)]; exact q x hx, fun q x hx => by rw [e x (by simpa using hx)]; exact q x hx⟩
 have e3 : o.op.operands.toList.all (fun x => isKn (evalL G (setF F d y) x)) = o.op.operands.toList.all (fun x => isKn (evalL G F x)) := by
  rw [Bool.eq_iff_iff, List.all_eq_true, List.all_eq_true]
  exact ⟨fun q x hx => by rw [← e x (by simpa using hx)]; exact q x hx, fun q x hx => by rw [e x (by simpa using hx)]; exact q x hx⟩
 have e2 : genV P o (fun x => (pl (evalL G (setF F d y) x)).getD undef) = genV P o (fun x => (pl (evalL G F x)).getD undef) := by
  have c := execOp_congr (ρ := fun x => (pl (evalL G (setF F d y) x)).getD undef) (ρ' := fun x => (pl (evalL G F x)).getD undef) o hs (fun x hx => by simp only [e x hx])
  unfold genV
  rw [c]
  have a : eqArm P o.op (fun x => (pl (evalL G (setF F d y) x)).getD undef) = eqArm P o.op (fun x => (pl (evalL G F x)).getD undef) := by
   unfold eqArm
   split
   ·rename_i op t x z _ ho
    simp only [e x (by rw [ho]; simp [Op.operands]), e z (by rw [ho]; simp [Op.operands])]
   ·rfl
  rw [a]
 rw [e1, e2, e3]
theorem pux_setF {ops : Array Oper} {o : Oper} {d : Option Tmp} {y : LV} (h : ∀ t, d = some t → t ∉ o.looksAt ops) : pux P G Γ (setF F d y) o = pux P G Γ F o := by
 have hl := looks h
 have e : ∀ x ∈ o.op.operands, evalL G (setF F d y) x = evalL G F x := fun x hx => evalL_setF (hl x hx)
 unfold pux
 split
 ·rename_i x ho; rw [e x (by rw [ho]; simp [Op.operands])]
 ·rename_i x ho; rw [e x (by rw [ho]; simp [Op.operands])]
 ·rename_i c x z ho; rw [e c (by rw [ho]; simp [Op.operands]), e x (by rw [ho]; simp [Op.operands]), e z (by rw [ho]; simp [Op.operands])]
 ·rename_i t x ho; rw [e x (by rw [ho]; simp [Op.operands])]
 ·rename_i s x i ho; rw [e x (by rw [ho]; simp [Op.operands])]
 ·rename_i t x i ho; rw [e x (by rw [ho]; simp [Op.operands]), e i (by rw [ho]; simp [Op.operands])]
 ·rename_i t parts ho
  congr 1
  refine List.map_congr_left fun q hq => ?_
  have e' := e q.2 (by rw [ho]; simp only [Op.operands, List.mem_toArray, List.mem_map]; exact ⟨q, hq, rfl⟩)
  have : evalN G (setF F d y) q.2 = evalN G F q.2 := by
   generalize q.2 = x at e'
   cases x <;> first | rfl | exact e'
  rw [this]
 ·exact mkx_setF h
 ·exact mkx_setF h
 ·rename_i ho; exact genL_setF (fun cs b e => by rw [ho] at e; cases e) h
 ·rename_i op _ _ _ _ ho
  split
  ·rfl
  ·rfl
  ·rfl
  ·rfl
  ·exact genL_setF (fun cs b e => by rw [ho] at e; cases e) h
 ·rfl
theorem valG_setF {ops : Array Oper} {o : Oper} {d : Option Tmp} {y : LV} (h : ∀ t, d = some t → t ∉ o.looksAt ops) : valG P G Γ ops (setF F d y) o = valG P G Γ ops F o := by
 unfold valG
 rw [pux_setF h]
 split
 ·rfl
 ·rename_i j want hg
  split
  ·rename_i s hs
   have : (setF F d y).getD s .junk = F.getD s .junk := by
    cases d with
    | none => rfl
    | some t =>
     have hne : s ≠ t := fun e => h t rfl (by
      subst e
      unfold Oper.looksAt
      rw [hg]
      simp only [List.mem_append]
      right
      rw [hs]; simp)
     simp only [setF, List.getD, List.getElem?_set_ne (Ne.symm hne)]
   rw [this]
  ·rfl
theorem p2g_swap {ops : Array Oper} {i j : Nat} {is : List Nat} {K : List LV → Prop} (hc : commG ops i j = true) (h : (p2g P G Γ ops (j :: i :: is) F).all K) : (p2g P G Γ ops (i :: j :: is) F).all K := by
 unfold commG at hc
 split at hc
 ·rename_i x y hx hy
  obtain ⟨a1, a2, a3⟩ := Oper.apart_spec hc
  simp only [p2g, hx, hy] at h ⊢
  rw [T.all_bind] at h ⊢
  have h2 := T.all_mono (fun z hz => by
   rw [T.all_bind, valG_setF a3] at hz
   exact hz) h
  refine T.all_mono (fun q hq => ?_) (T.swap h2)
  rw [T.all_bind, valG_setF a1]
  refine T.all_mono (fun z hz => ?_) hq
  rw [setF_comm a2]
  exact hz
 ·cases hc
theorem p2g_cons {ops : Array Oper} {j : Nat} {R R' : List Nat} {K : List LV → Prop} (hh : ∀ (F : List LV), (p2g P G Γ ops R F).all K → (p2g P G Γ ops R' F).all K) (h : (p2g P G Γ ops (j :: R) F).all K) : (p2g P G Γ ops (j :: R') F).all K := by
 simp only [p2g] at h ⊢
 split at h
 ·rw [T.all_bind] at h ⊢
  exact T.all_mono (fun q hq => hh _ hq) h
 ·cases h
theorem p2g_front {ops : Array Oper} {i : Nat} {K : List LV → Prop} : ∀ (R : List Nat) (F : List LV), i ∈ R → (befR i R).all (fun j => commG ops i j) = true → (p2g P G Γ ops R F).all K → (p2g P G Γ ops (i :: R.erase i) F).all K
 | [], _, hi, _, _ => by cases hi
 | j :: R, F, hi, hb, h => by
  by_cases hj : j = i
  ·subst hj
   simpa using h
  ·have hi' : i ∈ R := by
    rcases List.mem_cons.1 hi with e | e
    ·exact absurd e.symm hj
    ·exact e
   simp only [befR, if_neg hj, List.all_cons, Bool.and_eq_true] at hb
   rw [List.erase_cons_tail (by simpa using hj)]
   exact p2g_swap hb.1 (p2g_cons (fun F h => p2g_front R F hi' hb.2 h) h)
theorem grd_sound (hΓ : ∀ g S, Γ g = some S → Valid P G g S) {ops : Array Oper} {tr : List Nat} {D : World → Prop} {sp : Nat → Bool} {Q : Act → World → Prop} {F' : List LV} {H' : List Blk}
  (hQ : ∀ g : Gh, g.F = F' → g.H = H' → ∀ w', Cls ds G w0 Z0 tr β H wr g w' → Q g.a w') : ∀ (n : Nat) (Rl : List Nat) (listed : Array Bool) (g : Gh), (∃ w', Cls ds G w0 Z0 tr β H wr g w') → g.H = H' → (∀ i ∈ Rl, sp i = true) → ordG ops n Rl listed = true →
   (p2g P G Γ ops Rl g.F).all (fun q => q = F') → wpAnyG P .any ops D (Cls ds G w0 Z0 tr β H wr) sp (fun a' g' => ∀ w', Cls ds G w0 Z0 tr β H wr g' w' → Q a' w') n listed g.a g
 | 0, Rl, listed, g, _, hH, _, hB, h => by
  simp only [ordG, Bool.and_eq_true, List.isEmpty_iff] at hB
  obtain ⟨rfl, h2⟩ := hB
  simp only [p2g, T.all] at h
  exact ⟨h2, hQ g h hH⟩
 | n + 1, Rl, listed, g, hex, hH, hs, hB, h => by
  simp only [ordG, Bool.and_eq_true, List.all_eq_true, Bool.not_eq_true', List.isEmpty_eq_false_iff] at hB
  obtain ⟨hne, hall⟩ := hB
  refine ⟨fun h0 => absurd h0 hne, fun i hi => ?_⟩
  obtain ⟨⟨hR, hbef⟩, hrest⟩ := hall i hi
  have hiR : i ∈ Rl := by simpa using hR
  have hf := p2g_front Rl g.F hiR (by rw [List.all_eq_true]; exact hbef) h
  simp only [p2g] at hf
  split at hf
  ·rename_i o ho
   have hsub : ∀ j ∈ Rl.erase i, sp j = true := fun j hj => hs j (List.mem_of_mem_erase hj)
   have goOk : ((pux P G Γ g.F o).bind (splitG ops o)).all (fun y => (p2g P G Γ ops (Rl.erase i) (setF g.F o.dst y)).all (fun q => q = F')) →
     actAt P o g.a (Cls ds G w0 Z0 tr β H wr) g (wpAnyG P .any ops D (Cls ds G w0 Z0 tr β H wr) sp (fun a' g' => ∀ w', Cls ds G w0 Z0 tr β H wr g' w' → Q a' w') n (listed.setIfInBounds i true)) := fun h => by
    rw [T.all_bind] at h
    obtain ⟨lv, h1, h2⟩ := T.pick h
    obtain ⟨hop, hst⟩ := pux_opx (H := g.H) h2
    intro w' hc
    refine actUpon_mono (fun v w'' ⟨g', e1, e2, e3, e4⟩ => ?_) (cls_step hΓ (hst tr H.length) hop hc)
    have fin : ∀ (y : LV), (∀ x, Cls ds G w0 Z0 tr β H wr g' x → Cls ds G w0 Z0 tr β H wr ⟨g'.Z, g'.β, g'.H, setF g.F o.dst y, g'.a⟩ x) → (p2g P G Γ ops (Rl.erase i) (setF g.F o.dst y)).all (fun q => q = F') → ∃ g'', Cls ds G w0 Z0 tr β H wr g'' w'' ∧ wpAnyG P .any ops D (Cls ds G w0 Z0 tr β H wr) sp (fun a' g' => ∀ w', Cls ds G w0 Z0 tr β H wr g' w' → Q a' w') n (listed.setIfInBounds i true) (g.a.put o.dst v) g'' := fun y hy hp => by
     refine ⟨⟨g'.Z, g'.β, g'.H, setF g.F o.dst y, g'.a⟩, hy w'' e1, ?_⟩
     rw [← e4]
     exact grd_sound hΓ hQ n (Rl.erase i) _ ⟨g'.Z, g'.β, g'.H, setF g.F o.dst y, g'.a⟩ ⟨w'', hy w'' e1⟩ (by rw [← hH]; exact e3) hsub hrest hp
    have plain : (p2g P G Γ ops (Rl.erase i) (setF g.F o.dst lv)).all (fun q => q = F') → ∃ g'', Cls ds G w0 Z0 tr β H wr g'' w'' ∧ wpAnyG P .any ops D (Cls ds G w0 Z0 tr β H wr) sp (fun a' g' => ∀ w', Cls ds G w0 Z0 tr β H wr g' w' → Q a' w') n (listed.setIfInBounds i true) (g.a.put o.dst v) g'' := fun hp =>
     fin lv (fun x hx => ⟨hx.rw, by rw [← e2]; exact hx.rf, hx.near, hx.len, hx.old, hx.new, hx.shp⟩) hp
    unfold splitG at h1
    split at h1
    ·rename_i hgd
     split at h1
     ·rename_i b _
      unfold isGd at hgd
      split at hgd
      ·rename_i d hd
       have known : ∀ c, b = c → ∀ x, Cls ds G w0 Z0 tr β H wr g' x → Cls ds G w0 Z0 tr β H wr ⟨g'.Z, g'.β, g'.H, setF g.F o.dst (.bl c), g'.a⟩ x := fun c e x hx => by
        refine ⟨hx.rw, ?_, hx.near, hx.len, hx.old, hx.new, hx.shp⟩
        have hrf := hx.rf
        rw [e2, hd] at hrf
        simp only [setF] at hrf
        rw [hd]
        simp only [setF]
        have hk : ∀ y, (g.F.set d (.v (.bool b))).set d y = g.F.set d y := fun y => by simp
        rw [← hk]
        by_cases hlt : d < g.F.length
        ·have hs1 : (g.F.set d (.v (.bool b)))[d]? = some (.v (.bool b)) := by simp [hlt]
         have hv := (hrf.get d _ hs1).1
         simp only [R] at hv
         exact hrf.know (by simp only [R]; rw [hv, e]) trivial
        ·have : ∀ y, (g.F.set d (.v (.bool b))).set d y = g.F.set d (.v (.bool b)) := fun y => List.set_eq_of_length_le (by rw [List.length_set]; exact Nat.le_of_not_lt hlt)
         rw [this]; exact hrf
       simp only [T.all] at h1
       cases hb : b with
       | true => exact fin _ (known true hb) (h1.1 hb)
       | false => exact fin _ (known false hb) (h1.2 hb)
      ·cases hgd
     ·exact plain h1
    ·exact plain h1
   have passOk : (p2g P G Γ ops (Rl.erase i) (setF g.F o.dst (.v undef))).all (fun q => q = F') → wpAnyG P .any ops D (Cls ds G w0 Z0 tr β H wr) sp (fun a' g' => ∀ w', Cls ds G w0 Z0 tr β H wr g' w' → Q a' w') n (listed.setIfInBounds i true) (g.a.put o.dst undef) g := fun h => by
    have ps : ∀ w', Cls ds G w0 Z0 tr β H wr g w' → Cls ds G w0 Z0 tr β H wr ⟨g.Z, g.β, g.H, setF g.F o.dst (.v undef), g.a.put o.dst undef⟩ w' := fun w' hc => ⟨hc.rw, hc.rf.pass o.dst, hc.near, hc.len, hc.old, hc.new, hc.shp⟩
    refine wpAnyG_sub (Q' := Q) (g1 := ⟨g.Z, g.β, g.H, setF g.F o.dst (.v undef), g.a.put o.dst undef⟩) ps n _ _ ?_
    exact grd_sound hΓ hQ n (Rl.erase i) _ ⟨g.Z, g.β, g.H, setF g.F o.dst (.v undef), g.a.put o.dst undef⟩ (hex.imp fun w' hc => ps w' hc) hH hsub hrest h
   obtain ⟨wx, hcx⟩ := hex
   have hF := hcx.rf
   rw [T.all_bind] at hf
   unfold gOp
   simp only [ho]
   unfold valG at hf
   split at hf
   ·rename_i hg
    have hw : Region.wanted o (yielded ops g.a.tmps) = true := by simp [Region.wanted, hg]
    rw [if_pos hw, if_pos (hs i hiR)]
    exact goOk hf
   ·rename_i j want hg
    split at hf
    ·rename_i d hd
     split at hf
     ·rename_i b hb
      obtain ⟨s1, s2⟩ := hF.slot hb (by simp)
      have hv := (hF.get d _ s1).1
      simp only [R] at hv
      rw [hv] at s2
      rw [wanted_of hg hd s2]
      split at hf
      ·rename_i e; subst e; simp only [beq_self_eq_true, if_true]; rw [if_pos (hs i hiR)]; exact goOk hf
      ·rename_i e; rw [if_neg (by simpa using e)]; exact passOk hf
     ·rename_i vs hb
      obtain ⟨s1, s2⟩ := hF.slot hb (by simp)
      have hv := (hF.get d _ s1).1
      simp only [R] at hv
      rw [hv] at s2
      rw [wanted_none hg hd s2, if_neg (by simp)]
      exact passOk hf
     ·cases hf
    ·cases hf
  ·cases hf
theorem splitF_sound {K : List LV → Prop} {dl : List Deferred} : ∀ (ds : List Nat) (F : List LV), RF dl β Z w n F a → (splitF ds F).all K → ∃ F1, K F1 ∧ RF dl β Z w n F1 a
 | [], F, hF, h => ⟨F, h, hF⟩
 | d :: ds, F, hF, h => by
  simp only [splitF] at h
  split at h
  ·rename_i g hx
   obtain ⟨s1, s2⟩ := hF.slot hx (by simp)
   have hv := (hF.get d _ s1).1
   simp only [R] at hv
   simp only [T.all] at h
   cases hg : g with
   | true => exact splitF_sound ds (F.set d (.bl true)) (hF.know (lv := .bl true) (by simp only [R]; rw [hv, hg]) trivial) (h.1 hg)
   | false => exact splitF_sound ds (F.set d (.bl false)) (hF.know (lv := .bl false) (by simp only [R]; rw [hv, hg]) trivial) (h.2 hg)
  ·exact splitF_sound ds F hF h
theorem draw_sound (hΓ : ∀ g S, Γ g = some S → Valid P G g S) {id : Nat} {ops : Array Oper} {Q : Exit → Act → World → Prop} {F' : List LV} {H' : List Blk} (hQ : ∀ Z' β' a' w', RW G w0 Z0 Z' β' H' w' → RF ds β' Z' w' H'.length F' a' → Q .normal a' w')
  (hW0 : RW G w0 Z0 Z β H w) (hF0 : RF ds β Z w H.length F a) (h : (drawx P G Γ ops F H).all (fun q => q = (F', H'))) (r : Option Nat) (m : Nat) : (Code.region id ops true).wpIn (fen r) m P Q a w := by
 unfold drawx at h
 simp only at h
 split at h
 ·rename_i hc
  simp only [Bool.and_eq_true] at hc
  obtain ⟨⟨hcalm, hmix⟩, htr0⟩ := hc
  generalize hfl : flagsGo _ [] ops.toList = flags at h hcalm
  generalize htrd : tracked H ops.toList F = tr at h htr0
  have htr : ∀ k ∈ tr, k < H.length := fun k hk => by simpa using List.all_eq_true.1 htr0 k hk
  obtain ⟨⟨F1, H1⟩, h1, h2⟩ := T.bind_all h
  have hk := p1x_keeps (P := P) (G := G) (Γ := Γ) (H := H) (tr := tr) (Hm := maskGo tr 0 H) (F0 := F) flags ops.toList F (fun _ h => h) ⟨rfl, fun _ _ => rfl⟩
  obtain ⟨⟨F2, H2⟩, g1, g2, g3⟩ := mergeT_sound hk h1
  have hH2 : H2 = H := (T.lv_all hk g1).2.2
  subst hH2
  have hbd : Below w.heap.size w { w with drawn := w.drawn + 1 } := ⟨rfl, rfl, rfl, Nat.le_refl _, fun _ _ => rfl⟩
  have hW := hW0.same hbd
  have hF : RF ds β Z { w with drawn := w.drawn + 1 } H2.length F a := hF0.mono (Nat.le_refl _) (fun _ _ => rfl) (fun _ h => h) (fun _ _ => rfl)
  have hflen : flags.length = ops.toList.length := by
   unfold calmB at hcalm
   simp only [Bool.and_eq_true, beq_iff_eq] at hcalm
   simpa using hcalm.1.1.2
  have hops : ops = ops.toList.toArray := by simp
  have hshp0 : Shp tr β H2 { w with drawn := w.drawn + 1 } := fun k b _ hb hcl => by
   obtain ⟨_, ⟨cs, f2, f3⟩, _⟩ := blk_cl hW hb hcl
   refine ⟨cs, f2, ?_⟩
   have := RL.length f3
   simpa using this
  rw [hops]
  refine wp_region_calm (P := P) (G := Gh) (D := fun w' => Near (lvB β H2 tr) { w with drawn := w.drawn + 1 } w' ∧ Below w0.heap.size w0 w' ∧ Shp tr β H2 w') (C := fun g w' => Cls ds G w0 Z0 tr β H2 { w with drawn := w.drawn + 1 } g w') flags ⟨Z, β, H2, F, a⟩ hmix (by rw [← hops]; exact hcalm) (fun g w' hc => ⟨hc.near, hc.rw.below, hc.shape⟩) (fun g w1 w2 hc hb => hc.keep hb)
   ⟨hW, hF, Near.refl _ _, Nat.le_refl _, fun _ _ => rfl, fun k k1 k2 => absurd k2 (Nat.not_lt.2 k1), EvL.refl _⟩ ?_
  rw [← hops]
  have hlm : (maskGo tr 0 H2).length = H2.length := maskGo_length tr H2 0
  have hDm : ∀ w', (Near (lvB β H2 tr) { w with drawn := w.drawn + 1 } w' ∧ Below w0.heap.size w0 w' ∧ Shp tr β H2 w') → RW G w0 Z0 Z β (maskGo tr 0 H2) w' ∧ ∀ b, (Z b ∨ ∃ k bk, (maskGo tr 0 H2)[k]? = some bk ∧ live β k bk ∧ tr.contains k = false ∧ b = (β k).b) → w'.heap[b]? = ({ w with drawn := w.drawn + 1 } : World).heap[b]? := fun w' ⟨d1, d2, d3⟩ => by
   refine ⟨hW.mask d1 d2 d3, fun b hb => ?_⟩
   rcases hb with hb | ⟨k, bk, hk1, hk2, hk3, rfl⟩
   ·exact d1.block b (hW.zlt b hb) (hW.lvB_not hb)
   ·have hkt : k ∉ tr := by simpa using hk3
    rw [maskGo_get] at hk1
    cases hH : H2[k]? with
    | none => simp [hH] at hk1
    | some b0 =>
     simp only [hH, Option.map_some, Option.some.injEq, Nat.zero_add] at hk1
     rw [if_neg (by simpa using hkt)] at hk1
     subst hk1
     exact d1.block _ (hW.lt hH hk2) (hW.lvB_other hH hk2 hkt)
  refine p1_sound (H := H2) (HH := H2) (F' := F2) hΓ hlm (hW.mask (Near.refl _ _) hW.below hshp0) hDm (fun a1 hF1 => ?_) flags ops.toList F a hflen hF g1
  have hF1' := g3 _ _ _ _ _ _ hF1
  refine wpP2_sub (Q' := fun a' w' => Q .normal a' w') (g1 := ⟨Z, β, H2, F1, a1⟩) (fun w' hc => ?_) flags ops.toList a1 ?_
  ·refine ⟨hc.rw, ?_, hc.near, hc.len, hc.old, hc.new, hc.shp⟩
   exact hF1'.mono (Nat.le_refl _) (fun _ _ => rfl) (fun _ h => h) (fun b hz => hc.near.block b (hW.zlt b hz) (hW.lvB_not hz))
  ·exact p2_sound (H := H2) (F' := F') (H' := H') hΓ (fun g e1 e2 w' hc => hQ g.Z g.β g.a w' (by rw [← e2]; exact hc.rw) (by rw [← e1, ← e2]; exact hc.rf)) flags ops.toList ⟨Z, β, H2, F1, a1⟩ hflen ⟨_, hW, hF1', Near.refl _ _, Nat.le_refl _, fun _ _ => rfl, fun k k1 k2 => absurd k2 (Nat.not_lt.2 k1), EvL.refl _⟩ h2
 ·split at h
  ·rename_i hc
   simp only [Bool.and_eq_true] at hc
   obtain ⟨⟨hcalm, hmix⟩, htr0⟩ := hc
   unfold floatx at hcalm
   simp only [Bool.and_eq_true] at hcalm
   obtain ⟨hcalm, hord⟩ := hcalm
   generalize hfl : flagsGo _ [] ops.toList = flags at h hcalm hord
   generalize htrd : tracked H ops.toList F = tr at h htr0
   have htr : ∀ k ∈ tr, k < H.length := fun k hk => by simpa using List.all_eq_true.1 htr0 k hk
   obtain ⟨⟨F1, H1⟩, h1, h2⟩ := T.bind_all h
   have hk := p1x_keeps (P := P) (G := G) (Γ := Γ) (H := H) (tr := tr) (Hm := maskGo tr 0 H) (F0 := F) flags ops.toList F (fun _ h => h) ⟨rfl, fun _ _ => rfl⟩
   obtain ⟨⟨F2, H2⟩, g1, g2, g3⟩ := mergeT_sound hk h1
   have hH2 : H2 = H := (T.lv_all hk g1).2.2
   subst hH2
   have hbd : Below w.heap.size w { w with drawn := w.drawn + 1 } := ⟨rfl, rfl, rfl, Nat.le_refl _, fun _ _ => rfl⟩
   have hW := hW0.same hbd
   have hF : RF ds β Z { w with drawn := w.drawn + 1 } H2.length F a := hF0.mono (Nat.le_refl _) (fun _ _ => rfl) (fun _ h => h) (fun _ _ => rfl)
   have hflen : flags.length = ops.toList.length := by
    unfold floatB at hcalm
    simp only [Bool.and_eq_true, beq_iff_eq] at hcalm
    simpa using hcalm.1.1.2
   have hops : ops = ops.toList.toArray := by simp
   have hshp0 : Shp tr β H2 { w with drawn := w.drawn + 1 } := fun k b _ hb hcl => by
    obtain ⟨_, ⟨cs, f2, f3⟩, _⟩ := blk_cl hW hb hcl
    refine ⟨cs, f2, ?_⟩
    have := RL.length f3
    simpa using this
   rw [hops]
   refine wp_region_float (P := P) (G := Gh) (D := fun w' => Near (lvB β H2 tr) { w with drawn := w.drawn + 1 } w' ∧ Below w0.heap.size w0 w' ∧ Shp tr β H2 w') (C := fun g w' => Cls ds G w0 Z0 tr β H2 { w with drawn := w.drawn + 1 } g w') flags ⟨Z, β, H2, F, a⟩ hmix (by rw [← hops]; exact hcalm) (fun g w' hc => ⟨hc.near, hc.rw.below, hc.shape⟩) (fun g w1 w2 hc hb => hc.keep hb)
    ⟨hW, hF, Near.refl _ _, Nat.le_refl _, fun _ _ => rfl, fun k k1 k2 => absurd k2 (Nat.not_lt.2 k1), EvL.refl _⟩ ?_
   rw [← hops]
   have hlm : (maskGo tr 0 H2).length = H2.length := maskGo_length tr H2 0
   have hDm : ∀ w', (Near (lvB β H2 tr) { w with drawn := w.drawn + 1 } w' ∧ Below w0.heap.size w0 w' ∧ Shp tr β H2 w') → RW G w0 Z0 Z β (maskGo tr 0 H2) w' ∧ ∀ b, (Z b ∨ ∃ k bk, (maskGo tr 0 H2)[k]? = some bk ∧ live β k bk ∧ tr.contains k = false ∧ b = (β k).b) → w'.heap[b]? = ({ w with drawn := w.drawn + 1 } : World).heap[b]? := fun w' ⟨d1, d2, d3⟩ => by
    refine ⟨hW.mask d1 d2 d3, fun b hb => ?_⟩
    rcases hb with hb | ⟨k, bk, hk1, hk2, hk3, rfl⟩
    ·exact d1.block b (hW.zlt b hb) (hW.lvB_not hb)
    ·have hkt : k ∉ tr := by simpa using hk3
     rw [maskGo_get] at hk1
     cases hH : H2[k]? with
     | none => simp [hH] at hk1
     | some b0 =>
      simp only [hH, Option.map_some, Option.some.injEq, Nat.zero_add] at hk1
      rw [if_neg (by simpa using hkt)] at hk1
      subst hk1
      exact d1.block _ (hW.lt hH hk2) (hW.lvB_other hH hk2 hkt)
   refine p1_sound (H := H2) (HH := H2) (F' := F2) hΓ hlm (hW.mask (Near.refl _ _) hW.below hshp0) hDm (fun a1 hF1 => ?_) flags ops.toList F a hflen hF g1
   have hF1' := g3 _ _ _ _ _ _ hF1
   refine wpAnyG_sub (Q' := fun a' w' => Q .normal a' w') (g1 := ⟨Z, β, H2, F1, a1⟩) (fun w' hc => ?_) _ _ a1 ?_
   ·refine ⟨hc.rw, ?_, hc.near, hc.len, hc.old, hc.new, hc.shp⟩
    exact hF1'.mono (Nat.le_refl _) (fun _ _ => rfl) (fun _ h => h) (fun b hz => hc.near.block b (hW.zlt b hz) (hW.lvB_not hz))
   ·exact float_sound (H := H2) (F' := F') (H' := H') hΓ (fun g e1 e2 w' hc => hQ g.Z g.β g.a w' (by rw [← e2]; exact hc.rw) (by rw [← e1, ← e2]; exact hc.rf)) _ (idxs true flags 0) _ ⟨Z, β, H2, F1, a1⟩ (fun i hi => by
     obtain ⟨_, h⟩ := idxs_mem true flags 0 i hi
     simp only [Nat.sub_zero] at h
     simp [List.getD, h]) hord h2
  ·split at h
   ·rename_i hc
    simp only [Bool.and_eq_true] at hc
    obtain ⟨⟨hcalm, hmix⟩, htr0⟩ := hc
    unfold alx at hcalm
    simp only [Bool.and_eq_true] at hcalm
    obtain ⟨⟨⟨hcalm, hnd⟩, hlt⟩, hord⟩ := hcalm
    generalize hfl : flagsGo _ [] ops.toList = flags at h hcalm hord hnd hlt
    generalize htrd : tracked H ops.toList F = tr at h htr0
    have htr : ∀ k ∈ tr, k < H.length := fun k hk => by simpa using List.all_eq_true.1 htr0 k hk
    obtain ⟨⟨F1, H1⟩, h1, h2⟩ := T.bind_all h
    have hk := p1x_keeps (P := P) (G := G) (Γ := Γ) (H := H) (tr := tr) (Hm := maskGo tr 0 H) (F0 := F) flags ops.toList F (fun _ h => h) ⟨rfl, fun _ _ => rfl⟩
    obtain ⟨⟨F2, H2⟩, g1, g2, g3⟩ := mergeT_sound hk h1
    have hH2 : H2 = H := (T.lv_all hk g1).2.2
    subst hH2
    have hbd : Below w.heap.size w { w with drawn := w.drawn + 1 } := ⟨rfl, rfl, rfl, Nat.le_refl _, fun _ _ => rfl⟩
    have hW := hW0.same hbd
    have hF : RF ds β Z { w with drawn := w.drawn + 1 } H2.length F a := hF0.mono (Nat.le_refl _) (fun _ _ => rfl) (fun _ h => h) (fun _ _ => rfl)
    have hflen : flags.length = ops.toList.length := by
     unfold floatB at hcalm
     simp only [Bool.and_eq_true, beq_iff_eq] at hcalm
     simpa using hcalm.1.1.2
    have hops : ops = ops.toList.toArray := by simp
    have hshp0 : Shp tr β H2 { w with drawn := w.drawn + 1 } := fun k b _ hb hcl => by
     obtain ⟨_, ⟨cs, f2, f3⟩, _⟩ := blk_cl hW hb hcl
     refine ⟨cs, f2, ?_⟩
     have := RL.length f3
     simpa using this
    rw [hops]
    refine wp_region_float (P := P) (G := Gh) (D := fun w' => Near (lvB β H2 tr) { w with drawn := w.drawn + 1 } w' ∧ Below w0.heap.size w0 w' ∧ Shp tr β H2 w') (C := fun g w' => Cls ds G w0 Z0 tr β H2 { w with drawn := w.drawn + 1 } g w') flags ⟨Z, β, H2, F, a⟩ hmix (by rw [← hops]; exact hcalm) (fun g w' hc => ⟨hc.near, hc.rw.below, hc.shape⟩) (fun g w1 w2 hc hb => hc.keep hb)
     ⟨hW, hF, Near.refl _ _, Nat.le_refl _, fun _ _ => rfl, fun k k1 k2 => absurd k2 (Nat.not_lt.2 k1), EvL.refl _⟩ ?_
    rw [← hops]
    have hlm : (maskGo tr 0 H2).length = H2.length := maskGo_length tr H2 0
    have hDm : ∀ w', (Near (lvB β H2 tr) { w with drawn := w.drawn + 1 } w' ∧ Below w0.heap.size w0 w' ∧ Shp tr β H2 w') → RW G w0 Z0 Z β (maskGo tr 0 H2) w' ∧ ∀ b, (Z b ∨ ∃ k bk, (maskGo tr 0 H2)[k]? = some bk ∧ live β k bk ∧ tr.contains k = false ∧ b = (β k).b) → w'.heap[b]? = ({ w with drawn := w.drawn + 1 } : World).heap[b]? := fun w' ⟨d1, d2, d3⟩ => by
     refine ⟨hW.mask d1 d2 d3, fun b hb => ?_⟩
     rcases hb with hb | ⟨k, bk, hk1, hk2, hk3, rfl⟩
     ·exact d1.block b (hW.zlt b hb) (hW.lvB_not hb)
     ·have hkt : k ∉ tr := by simpa using hk3
      rw [maskGo_get] at hk1
      cases hH : H2[k]? with
      | none => simp [hH] at hk1
      | some b0 =>
       simp only [hH, Option.map_some, Option.some.injEq, Nat.zero_add] at hk1
       rw [if_neg (by simpa using hkt)] at hk1
       subst hk1
       exact d1.block _ (hW.lt hH hk2) (hW.lvB_other hH hk2 hkt)
    refine p1_sound (H := H2) (HH := H2) (F' := F2) hΓ hlm (hW.mask (Near.refl _ _) hW.below hshp0) hDm (fun a1 hF1 => ?_) flags ops.toList F a hflen hF g1
    have hF1' := g3 _ _ _ _ _ _ hF1
    have d1 : ∀ k, k < H2.length → (fun k => if k < H2.length then β k else ⟨w.heap.size, 0, none⟩ : Nat → Loc) k = β k := fun k hk => by simp [hk]
    have d2 : ∀ k, H2.length ≤ k → ((fun k => if k < H2.length then β k else ⟨w.heap.size, 0, none⟩ : Nat → Loc) k).b = w.heap.size := fun k hk => by simp [Nat.not_lt.2 hk]
    generalize (fun k => if k < H2.length then β k else ⟨w.heap.size, 0, none⟩ : Nat → Loc) = βd at d1 d2
    refine wpAnyG_sub (Q' := fun a' w' => Q .normal a' w') (g1 := ⟨Z, βd, H2 ++ List.replicate ops.size deadBk, F1, a1⟩) (fun w' hc => ?_) _ _ a1 ?_
    ·refine ⟨hc.rw.deads d1, ?_, hc.near, by simp, fun k hk => d1 k hk, fun k k1 k2 => .inl (by rw [d2 k k1]; exact Nat.le_refl _), EvL.app _ _⟩
     exact hF1'.mono (by simp) d1 (fun _ h => h) (fun b hz => hc.near.block b (hW.zlt b hz) (hW.lvB_not hz))
    ·refine any_sound (H := H2) (F' := F') (H' := H') hΓ (fun p hp => (hW.gh p hp).2) (fun g e1 e2 w' hc => hQ g.Z g.β g.a w' (by rw [← e2]; exact hc.rw) (by rw [← e1, ← e2]; exact hc.rf)) _ (idxs true flags 0) _ ⟨Z, βd, H2 ++ List.replicate ops.size deadBk, F1, a1⟩ (fun _ => False) hnd ⟨fun j hj => ?_, fun k b hb j hj => ?_, fun i hi => ⟨fun h => h, ?_⟩⟩ (fun i hi => by
      obtain ⟨_, h⟩ := idxs_mem true flags 0 i hi
      simp only [Nat.sub_zero] at h
      simp [List.getD, h]) hord h2
     ·obtain ⟨x, q1, q2⟩ := ownsL_of hj
      obtain ⟨t', q3⟩ := List.getElem?_of_mem q1
      exact .inl (okV_owns x (hF1'.get t' x q3).2 j q2)
     ·by_cases h0 : k < H2.length
      ·simp only at hb
       rw [List.getElem?_append_left h0] at hb
       exact .inl (okB_owns (hW.blk k b hb).2 j hj)
      ·simp only at hb
       rw [List.getElem?_append_right (by omega), List.getElem?_replicate] at hb
       split at hb
       ·simp only [Option.some.injEq] at hb
        subst hb
        simp [Blk.owns, deadBk, ownsL] at hj
       ·cases hb
     ·have hlt' : i < ops.size := by simpa using List.all_eq_true.1 hlt i hi
      exact ⟨_, List.getElem?_eq_getElem (by simp; omega)⟩
   ·split at h
    ·rename_i hc
     simp only [Bool.and_eq_true] at hc
     obtain ⟨⟨hcalm, hmix⟩, htr0⟩ := hc
     unfold grdx at hcalm
     simp only [Bool.and_eq_true] at hcalm
     obtain ⟨hcalm, hord⟩ := hcalm
     generalize hfl : flagsGo _ [] ops.toList = flags at h hcalm hord
     generalize htrd : tracked H ops.toList F = tr at h htr0
     have htr : ∀ k ∈ tr, k < H.length := fun k hk => by simpa using List.all_eq_true.1 htr0 k hk
     obtain ⟨⟨F2, H2⟩, g1, h2⟩ := T.bind_all h
     have hk := p1x_keeps (P := P) (G := G) (Γ := Γ) (H := H) (tr := tr) (Hm := maskGo tr 0 H) (F0 := F) flags ops.toList F (fun _ h => h) ⟨rfl, fun _ _ => rfl⟩
     have hH2 : H2 = H := (T.lv_all hk g1).2.2
     subst hH2
     have hbd : Below w.heap.size w { w with drawn := w.drawn + 1 } := ⟨rfl, rfl, rfl, Nat.le_refl _, fun _ _ => rfl⟩
     have hW := hW0.same hbd
     have hF : RF ds β Z { w with drawn := w.drawn + 1 } H2.length F a := hF0.mono (Nat.le_refl _) (fun _ _ => rfl) (fun _ h => h) (fun _ _ => rfl)
     have hflen : flags.length = ops.toList.length := by
      unfold floatB at hcalm
      simp only [Bool.and_eq_true, beq_iff_eq] at hcalm
      simpa using hcalm.1.1.2
     have hops : ops = ops.toList.toArray := by simp
     have hshp0 : Shp tr β H2 { w with drawn := w.drawn + 1 } := fun k b _ hb hcl => by
      obtain ⟨_, ⟨cs, f2, f3⟩, _⟩ := blk_cl hW hb hcl
      refine ⟨cs, f2, ?_⟩
      have := RL.length f3
      simpa using this
     rw [hops]
     refine wp_region_float (P := P) (G := Gh) (D := fun w' => Near (lvB β H2 tr) { w with drawn := w.drawn + 1 } w' ∧ Below w0.heap.size w0 w' ∧ Shp tr β H2 w') (C := fun g w' => Cls ds G w0 Z0 tr β H2 { w with drawn := w.drawn + 1 } g w') flags ⟨Z, β, H2, F, a⟩ hmix (by rw [← hops]; exact hcalm) (fun g w' hc => ⟨hc.near, hc.rw.below, hc.shape⟩) (fun g w1 w2 hc hb => hc.keep hb)
      ⟨hW, hF, Near.refl _ _, Nat.le_refl _, fun _ _ => rfl, fun k k1 k2 => absurd k2 (Nat.not_lt.2 k1), EvL.refl _⟩ ?_
     rw [← hops]
     have hlm : (maskGo tr 0 H2).length = H2.length := maskGo_length tr H2 0
     have hDm : ∀ w', (Near (lvB β H2 tr) { w with drawn := w.drawn + 1 } w' ∧ Below w0.heap.size w0 w' ∧ Shp tr β H2 w') → RW G w0 Z0 Z β (maskGo tr 0 H2) w' ∧ ∀ b, (Z b ∨ ∃ k bk, (maskGo tr 0 H2)[k]? = some bk ∧ live β k bk ∧ tr.contains k = false ∧ b = (β k).b) → w'.heap[b]? = ({ w with drawn := w.drawn + 1 } : World).heap[b]? := fun w' ⟨d1, d2, d3⟩ => by
      refine ⟨hW.mask d1 d2 d3, fun b hb => ?_⟩
      rcases hb with hb | ⟨k, bk, hk1, hk2, hk3, rfl⟩
      ·exact d1.block b (hW.zlt b hb) (hW.lvB_not hb)
      ·have hkt : k ∉ tr := by simpa using hk3
       rw [maskGo_get] at hk1
       cases hH : H2[k]? with
       | none => simp [hH] at hk1
       | some b0 =>
        simp only [hH, Option.map_some, Option.some.injEq, Nat.zero_add] at hk1
        rw [if_neg (by simpa using hkt)] at hk1
        subst hk1
        exact d1.block _ (hW.lt hH hk2) (hW.lvB_other hH hk2 hkt)
     refine p1_sound (H := H2) (HH := H2) (F' := F2) hΓ hlm (hW.mask (Near.refl _ _) hW.below hshp0) hDm (fun a1 hF1 => ?_) flags ops.toList F a hflen hF g1
     have hF1' := hF1
     rw [T.all_bind] at h2
     obtain ⟨F0, h2, hF0'⟩ := splitF_sound _ F2 hF1' h2
     obtain ⟨F3, h3, h4⟩ := T.bind_all h2
     simp only [T.all, Prod.mk.injEq] at h4
     obtain ⟨rfl, rfl⟩ := h4
     refine wpAnyG_sub (Q' := fun a' w' => Q .normal a' w') (g1 := ⟨Z, β, H2, F0, a1⟩) (fun w' hc => ?_) _ _ a1 ?_
     ·refine ⟨hc.rw, ?_, hc.near, hc.len, hc.old, hc.new, hc.shp⟩
      exact hF0'.mono (Nat.le_refl _) (fun _ _ => rfl) (fun _ h => h) (fun b hz => hc.near.block b (hW.zlt b hz) (hW.lvB_not hz))
     ·exact grd_sound (H := H2) (H' := H2) (Q := fun a' w' => Q .normal a' w') hΓ (fun g e1 e2 w' hc => hQ g.Z g.β g.a w' (by rw [← e2]; exact hc.rw) (by rw [← e1, ← e2]; exact hc.rf)) _ (idxs true flags 0) _ ⟨Z, β, H2, F0, a1⟩ ⟨_, hW, hF0', Near.refl _ _, Nat.le_refl _, fun _ _ => rfl, fun k k1 k2 => absurd k2 (Nat.not_lt.2 k1), EvL.refl _⟩ rfl (fun i hi => by
       obtain ⟨_, h⟩ := idxs_mem true flags 0 i hi
       simp only [Nat.sub_zero] at h
       simp [List.getD, h]) hord h3
    ·cases h
theorem splitN_all {α : Type} {f : Nat → T α} {n : Int} {p : α → Prop} : ∀ (m j : Nat), (splitN f n m j).all p → (j : Int) ≤ n → n < (j : Int) + m → ∃ i : Nat, n = (i : Int) ∧ (f i).all p
 | 0, j, _, h1, h2 => by omega
 | 1, j, h, h1, h2 => ⟨j, by omega, h⟩
 | m + 2, j, h, h1, h2 => by
  simp only [splitN, T.all] at h
  by_cases e : n = (j : Int)
  ·exact ⟨j, e, h.1 (by simp [e])⟩
  ·exact splitN_all (m + 1) (j + 1) (h.2 (by simpa using e)) (by omega) (by omega)
theorem splitOf_slot {ops : List Oper} {s len : Nat} {k : IntKind} {n : Int} (h : splitOf P ops F = some (s, k, n, len)) : F.getD s .junk = .v (.int k n) := by
 unfold splitOf at h
 split at h
 ·obtain ⟨o, _, ho⟩ := List.exists_of_findSome?_eq_some h
  split at ho
  ·split at ho
   ·split at ho
    ·rename_i hx
     simp only [Option.some.injEq, Prod.mk.injEq] at ho
     obtain ⟨rfl, rfl, rfl, rfl⟩ := ho
     exact hx
    ·cases ho
   ·cases ho
  ·cases ho
 ·cases h
theorem drawy_sound (hΓ : ∀ g S, Γ g = some S → Valid P G g S) {id : Nat} {ops : Array Oper} {Q : Exit → Act → World → Prop} {F' : List LV} {H' : List Blk} (hQ : ∀ Z' β' a' w', RW G w0 Z0 Z' β' H' w' → RF ds β' Z' w' H'.length F' a' → Q .normal a' w')
  (hW0 : RW G w0 Z0 Z β H w) (hF0 : RF ds β Z w H.length F a) (h : (drawy P G Γ ops F H).all (fun q => q = (F', H'))) (r : Option Nat) (m : Nat) : (Code.region id ops true).wpIn (fen r) m P Q a w := by
 unfold drawy at h
 split at h
 ·rename_i s k n len hs
  simp only [T.all] at h
  obtain ⟨⟨h0, h1⟩, h2⟩ := h
  obtain ⟨i, hi, h3⟩ := splitN_all len 0 h2 (by omega) (by omega)
  have hx := splitOf_slot hs
  obtain ⟨s1, s2⟩ := hF0.slot hx (by simp)
  have hv := (hF0.get s _ s1).1
  simp only [R] at hv
  exact draw_sound hΓ hQ hW0 (hF0.know (lv := .ki k i) (by simp only [R]; rw [hv, hi]) trivial) h3 r m
 ·exact draw_sound hΓ hQ hW0 hF0 h r m
end Go.Sx
