/- The executor is right: drawn regions. -/
import Derived.Test.YtakkjfldfghfcaaSxE
namespace Go.Sx
open Go Go.RowKit Go.Proofs.Ytakkjfldfghfcaa

variable {P : Program} {G : Globs} {Γ : Specs} {β : Nat → Loc} {Z : Nat → Prop} {Z0 : Gz} {w w0 wr : World} {F : List LV} {H : List Blk} {a : Act} {n : Nat}

theorem T.lv_all {α : Type} {p : α → Prop} {x : α} : ∀ {t : T α}, t.lv p → t.all (fun z => z = x) → p x
  | .ok y, h, e => by rw [← show y = x from e]; exact h
  | .br b t e, h, hh => by
    cases b with
    | true => exact T.lv_all (t := t) h.1 (hh.1 rfl)
    | false => exact T.lv_all (t := e) h.2 (hh.2 rfl)
  | .req _ t, h, hh => T.lv_all (t := t) h hh.2
  | .no, _, hh => by cases hh

theorem loadL_live {t : TypeId} {x lv : LV} {y : Value} (hW : RW G w0 Z0 Z β H w) (h : (loadL P H t x).all (fun z => z = lv)) (hr : R β Z w x y) : ∀ k, k ∈ owns x → (∃ b, H[k]? = some b ∧ live β k b) ∧ ((∃ off, x = .own k off) ∨ ∃ es i j, x = .op k es i j) := by
  intro k hk
  have cl : ∀ b : Blk, b.isCl = true → live β k b := fun b hc => by
    unfold Blk.isCl at hc
    split at hc
    · rename_i hb; unfold live; rw [hb]; trivial
    · cases hc
  unfold loadL at h
  split at h
  · split at h
    · simp only [owns, List.mem_singleton] at hk
      subst hk
      split at h
      · rename_i hb
        split at h
        · rename_i hc; exact ⟨⟨_, hb, cl _ hc.1⟩, .inl ⟨_, rfl⟩⟩
        · cases h
      · cases h
    · simp [owns] at hk
    · simp only [owns, List.mem_singleton] at hk
      subst hk
      simp only [R] at hr
      split at h
      · rename_i hb; exact ⟨⟨_, hb, hr.1⟩, .inr ⟨_, _, _, rfl⟩⟩
      · cases h
    · cases h
  · split at h
    · simp only [owns, List.mem_singleton] at hk
      subst hk
      split at h
      · rename_i hb
        split at h
        · rename_i hc; exact ⟨⟨_, hb, cl _ hc⟩, .inl ⟨_, rfl⟩⟩
        · cases h
      · cases h
    · simp [owns] at hk
    · simp only [owns, List.mem_singleton] at hk
      subst hk
      simp only [R] at hr
      split at h
      · rename_i hb; exact ⟨⟨_, hb, hr.1⟩, .inr ⟨_, _, _, rfl⟩⟩
      · cases h
    · cases h
  · cases h
theorem lookL_live {t : TypeId} {x q lv : LV} (h : (lookL P H t x q).all (fun r => r = lv)) : ∀ k, x = .om k → ∃ b, H[k]? = some b ∧ live β k b := by
  intro k hk
  subst hk
  unfold lookL at h
  split at h
  · split at h
    · split at h
      · simp only at h
        split at h
        · rename_i hb; exact ⟨_, hb, trivial⟩
        · cases h
      · cases h
    · cases h
  · cases h
/-- An operation that only looks: one value, in every world that is alike where it looks. -/
theorem look_sound (hΓ : ∀ g S, Γ g = some S → Valid P G g S) {tr : List Nat} {D : World → Prop} {o : Oper} {lv : LV} (hW : RW G w0 Z0 Z β H wr) (hF : RF β Z wr H.length F a)
    (hD : ∀ w', D w' → RW G w0 Z0 Z β H w' ∧ ∀ b, (Z b ∨ ∃ k bk, H[k]? = some bk ∧ live β k bk ∧ tr.contains k = false ∧ b = (β k).b) → w'.heap[b]? = wr.heap[b]?)
    (h : (calmx P G Γ tr F H o).all (fun z => z = lv)) : ∃ v, (∀ w', D w' → calmAt P o a w' v) ∧ R β Z wr lv v ∧ okV H.length lv := by
  unfold calmx at h
  split at h
  · cases h
  · rename_i hsp
    simp only [Bool.or_eq_true, Bool.not_eq_true', not_or, Bool.not_eq_true, Bool.not_eq_false] at hsp
    obtain ⟨hsp, hap⟩ := hsp
    have ev := fun x => hF.eval hW.glob x
    have hFD : ∀ w', D w' → RF β Z w' H.length F a := fun w' hw' => hF.mono (Nat.le_refl _) (fun _ _ => rfl) (fun _ h => h) (fun b hz => (hD w' hw').2 b (.inl hz))
    split at h
    · rename_i hcall
      obtain ⟨h1, hpl⟩ := onlyPl_all h
      obtain ⟨⟨lv', H'⟩, h2, h3⟩ := T.bind_all h1
      have e3 : lv' = lv := h3
      subst e3
      obtain ⟨x, hx⟩ := Option.isSome_iff_exists.1 hpl
      have hm : memFree P o = true := by unfold isCall at hcall; unfold memFree; unfold isSp at hsp; split at hcall <;> simp_all
      have hH : H' = H := T.lv_all (p := fun q : LV × List Blk => q.2 = H) (x := (lv', H')) (opx_heap hm) h2
      subst hH
      refine ⟨x, fun w' hw' => ?_, R_pl hx, ?_⟩
      · have hs := opx_sound hΓ (hD w' hw').1 (hFD w' hw') h2
        have hrun : ∃ g vals, (execOp a.eval o).run P w' = .ok (.enter g vals) w' := by
          unfold isCall at hcall
          split at hcall
          · rename_i f args ty ho
            have h2' := h2
            unfold opx at h2'
            simp only [ho] at h2'
            split at h2'
            · rename_i g cap hf
              split at h2'
              · rename_i fn hfn
                split at h2'
                · rename_i hb
                  simp only [Bool.and_eq_true, Bool.not_eq_true'] at hb
                  have hfr := (ev f).1
                  rw [hf] at hfr
                  simp only [R] at hfr
                  obtain ⟨ys, hy, _⟩ := hfr
                  have hbn : ¬ fn.body = none := by intro hbb; simp [hbb] at hb
                  have hb3 : ¬ fn.name = "runtime.NumGoroutine" := by simpa using hb.2
                  exact ⟨g, args.map a.eval ++ ys, by unfold execOp; simp [ho, resolve, Deferred.ofValue, hy, invoke, callFunc, hfn, hb3, hbn]⟩
                · cases h2'
              · cases h2'
            · cases h2'
          · cases hcall
        obtain ⟨g, vals, hr⟩ := hrun
        unfold calmAt
        rw [hr] at hs ⊢
        simp only [actUpon] at hs
        refine ⟨rfl, hs.mono fun e w'' ⟨v, he, Z', β', _, _, hrv, _, _, _, _, hn⟩ => ?_⟩
        have hv := pl_R hx hrv
        subst hv
        refine ⟨he, hn.os, hn.tape, hn.output, hn.size, fun k hk => hn.block k hk ?_⟩
        unfold isCall at hcall
        split at hcall
        · rename_i ho; simp [touchB, wrt, ho, lvB]
        · cases hcall
      · cases lv' with
        | fn f l => cases l with
          | nil => trivial
          | cons _ _ => simp [pl] at hx
        | v _ => trivial
        | bl _ => trivial
        | _ => simp [pl] at hx
    · rename_i hnc
      obtain ⟨⟨lv', H'⟩, h2, h3⟩ := T.bind_all h
      have e3 : lv' = lv := h3
      subst e3
      clear h3
      have val : ∀ {v : Value}, (∀ w', D w' → (execOp a.eval o).run P w' = .ok (.value v) w') → R β Z wr lv' v → okV H.length lv' → ∃ v, (∀ w', D w' → calmAt P o a w' v) ∧ R β Z wr lv' v ∧ okV H.length lv' := fun {v} hrun hr hk =>
        ⟨v, fun w' hw' => by unfold calmAt; rw [hrun w' hw']; exact ⟨rfl, rfl⟩, hr, hk⟩
      have hsel : ∀ cs b, o.op ≠ .select cs b := fun cs b e => by unfold opx at h2; simp only [e] at h2; cases h2
      have same : ∀ {t : T LV}, (t.bind fun y => (T.ok (y, H) : T (LV × List Blk))).all (fun q => q = (lv', H')) → t.all (fun z => z = lv') := fun h => by
        obtain ⟨x, g1, g2⟩ := T.bind_all h
        simp only [T.all, Prod.mk.injEq] at g2
        obtain ⟨rfl, rfl⟩ := g2
        exact g1
      have gen : (genL P G F o).all (fun z => z = lv') → ∃ v, (∀ w', D w' → calmAt P o a w' v) ∧ R β Z wr lv' v ∧ okV H.length lv' := fun hg => by
        unfold genL at hg
        split at hg
        · rename_i hpl
          split at hg
          · rename_i y hy
            simp only [T.all] at hg
            have hcong : execOp a.eval o = execOp (fun x => (pl (evalL G F x)).getD undef) o := execOp_congr o hsel fun x hx => by
              have h1 := List.all_eq_true.1 hpl x (by simpa using hx)
              obtain ⟨z, hz⟩ := Option.isSome_iff_exists.1 h1
              rw [hz]; exact pl_R hz (ev x).1
            refine val (v := y) (fun w' _ => by rw [hcong]; exact genV_run hy w') ?_ ?_ <;> rw [← hg]
            · simp only [R]
            · trivial
          · cases hg
        · cases hg
      have h := h2
      unfold opx at h
      split at h
      · cases h
      · rename_i x ho
        simp only [T.all, Prod.mk.injEq] at h
        refine val (v := a.eval x) (fun w' _ => by simp [execOp, ho]) ?_ ?_ <;> rw [← h.1]
        · exact (ev x).1
        · exact (ev x).2
      · rename_i x ho
        simp only [T.all, Prod.mk.injEq] at h
        refine val (v := a.eval x) (fun w' _ => by simp [execOp, ho]) ?_ ?_ <;> rw [← h.1]
        · exact (ev x).1
        · exact (ev x).2
      · rename_i c x y ho
        obtain ⟨g, e1, e2, e3⟩ := pickL_sound (same h) (ev c).1 (ev x).1 (ev y).1 (ev x).2 (ev y).2
        exact val (v := if g then a.eval x else a.eval y) (fun w' _ => by simp [execOp, ho, e1, asBool]) e2 e3
      · rename_i ho; simp [isSp, ho] at hsp
      · rename_i ho; simp [isSp, ho] at hsp
      · rename_i t x ho
        obtain ⟨z, e1, e2, e3⟩ := loadL_sound hW (same h) (ev x).1 (ev x).2
        refine val (v := z) (fun w' hw' => ?_) e2 e3
        have hlv := loadL_live hW (same h) (ev x).1
        have := e1 w' (fun b hb => (hD w' hw').2 b (by
          rcases hb with hb | ⟨k, e4, e5⟩
          · exact .inl hb
          · obtain ⟨⟨bk, l1, l2⟩, l3⟩ := hlv k e4
            refine .inr ⟨k, bk, l1, l2, ?_, e5⟩
            unfold apartL at hap
            simp only [ho] at hap
            rcases l3 with ⟨off, l3⟩ | ⟨es, i, j, l3⟩
            · rw [l3] at hap; simpa using hap
            · rw [l3] at hap; simpa using hap))
        simp [execOp, ho, this]
      · rename_i ho; simp [isSp, ho] at hsp
      · rename_i s x i ho
        obtain ⟨z, e1, e2, e3⟩ := fieldL_sound (w := wr) (same h) (ev x).1 (ev x).2
        exact val (v := z) (fun w' _ => by simp [execOp, ho, e1]) e2 e3
      · rename_i t x i ho
        obtain ⟨z, e1, e2, e3⟩ := indexL_sound (w := wr) (same h) (ev x).1 (ev i).1 (ev x).2
        exact val (v := z) (fun w' _ => by simp [execOp, ho, e1]) e2 e3
      · rename_i t parts ho
        obtain ⟨z, e1, e2, e3⟩ := buildL_sound (β := β) (Z := Z) (w := wr) (n := H.length) (pv := parts.map fun q => (q.1, a.eval q.2)) (same h) (by simp [Function.comp_def]) (by
          simp only [Array.toList_map, List.map_map]
          refine RL.of_get (by simp) fun i x hx => ?_
          rw [List.getElem?_map] at hx ⊢
          cases hq : parts.toList[i]? with
          | none => simp [hq] at hx
          | some q => simp [hq] at hx; subst hx; exact ⟨a.eval q.2, by simp, (ev q.2).1⟩) (by
          simp only [List.map_map]
          refine okL.of_get fun i x hx => ?_
          rw [List.getElem?_map] at hx
          cases hq : parts.toList[i]? with
          | none => simp [hq] at hx
          | some q => simp [hq] at hx; subst hx; exact (ev q.2).2)
        exact val (v := z) (fun w' _ => by simp [execOp, ho, e1]) e2 e3
      · rename_i ho; simp [isSp, ho] at hsp
      · rename_i ho; simp [isSp, ho] at hsp
      · rename_i t x lo hi ho
        split at h
        · exact gen (same h)
        · have ro : ∀ q : Option Operand, RO β Z wr (q.map (evalL G F)) (q.map a.eval) := fun q => by
            cases q with
            | none => trivial
            | some q => exact (ev q).1
          obtain ⟨z, e1, e2, e3⟩ := sliceL_sound (w := wr) (same h) (ev x).1 (ro lo) (ro hi) (ev x).2
          exact val (v := z) (fun w' _ => by simp [execOp, ho, e1]) e2 e3
      · rename_i ho; simp [isSp, ho] at hsp
      · rename_i ho; simp [isSp, ho] at hsp
      · rename_i t x i ho
        obtain ⟨z, e1, e2, e3⟩ := lookL_sound hW (same h) (ev x).1 (ev i).1 (ev x).2
        refine val (v := z) (fun w' hw' => ?_) e2 e3
        have hlv := lookL_live (β := β) (same h)
        have := e1 w' (fun b hb => (hD w' hw').2 b (by
          rcases hb with hb | ⟨k, e4, e5⟩
          · exact .inl hb
          · obtain ⟨bk, l1, l2⟩ := hlv k e4
            refine .inr ⟨k, bk, l1, l2, ?_, e5⟩
            unfold apartL at hap
            simp only [ho, e4] at hap
            simpa using hap))
        simp [execOp, ho, this]
      · rename_i x i ho
        split at h
        · rename_i l hl
          split at h
          · rename_i y hy
            simp only [T.all, Prod.mk.injEq] at h
            obtain ⟨h1, _⟩ := h
            have hx := ev x
            rw [hl] at hx
            simp only [R, okV] at hx
            obtain ⟨⟨ys, e1, e2⟩, e3⟩ := hx
            obtain ⟨z, e4, e5⟩ := RL.get _ _ e2 hy
            have e6 : ys[i]? = some z := by simpa using e4
            refine val (v := z) (fun w' _ => by simp [execOp, ho, e1, Instr.extract, e6]) ?_ ?_ <;> rw [← h1]
            · exact e5
            · exact okL.get _ _ e3 hy
          · cases h
        · exact gen (same h)
      · rename_i f first cap ho
        split at h
        · rename_i he
          simp only [T.all, Prod.mk.injEq] at h
          obtain ⟨h1, _⟩ := h
          have hfirst : first = #[] := by
            have : first.toList = [] := by simpa using he
            simpa using this
          refine val (v := .func (.func f) #[] (cap.map a.eval)) (fun w' _ => by simp [execOp, ho, Instr.makeFunc, hfirst]) ?_ ?_ <;> rw [← h1]
          · simp only [R]
            refine ⟨_, rfl, ?_⟩
            simp only [Array.toList_map]
            refine RL.of_get (by simp) fun i x hx => ?_
            rw [List.getElem?_map] at hx ⊢
            cases hq : cap.toList[i]? with
            | none => simp [hq] at hx
            | some q => simp [hq] at hx; subst hx; exact ⟨a.eval q, by simp, (ev q).1⟩
          · simp only [okV]
            refine okL.of_get fun i x hx => ?_
            rw [List.getElem?_map] at hx
            cases hq : cap.toList[i]? with
            | none => simp [hq] at hx
            | some q => simp [hq] at hx; subst hx; exact (ev q).2
        · cases h
      · rename_i x ho
        have hx := ev x
        split at h
        · rename_i k off hl
          simp only [T.all, Prod.mk.injEq] at h
          rw [hl] at hx
          have hx1 := hx.1
          simp only [R] at hx1
          refine val (v := a.eval x) (fun w' _ => by simp [execOp, ho, hx1]) ?_ ?_ <;> rw [← h.1]
          · exact hx.1
          · exact hx.2
        · rename_i n f hl
          simp only [T.all, Prod.mk.injEq] at h
          rw [hl] at hx
          have hx1 := hx.1
          simp only [R] at hx1
          obtain ⟨b, off, e1, _⟩ := hx1
          refine val (v := a.eval x) (fun w' _ => by simp [execOp, ho, e1]) ?_ ?_ <;> rw [← h.1]
          · exact hx.1
          · exact hx.2
        · rename_i f l hl
          simp only [T.all, Prod.mk.injEq] at h
          rw [hl] at hx
          have hx1 := hx.1
          simp only [R] at hx1
          obtain ⟨ys, e1, _⟩ := hx1
          refine val (v := a.eval x) (fun w' _ => by simp [execOp, ho, e1]) ?_ ?_ <;> rw [← h.1]
          · exact hx.1
          · exact hx.2
        · exact gen (same h)
      · rename_i t x y t' ho
        split at h
        · rename_i k n k' m hx hy
          split at h
          · rename_i hk
            subst hk
            simp only [T.all, Prod.mk.injEq] at h
            obtain ⟨h0, h1, _⟩ := h
            have e1 := pl_R hx (ev x).1
            have e2 := pl_R hy (ev y).1
            refine val (v := .int k (k.wrap (n.tdiv m))) (fun w' _ => by simp [execOp, ho, e1, e2, eqGuard, binOp, Op.intDiv, h0]) ?_ ?_ <;> rw [← h1]
            · simp only [R]
            · trivial
          · cases h
        · cases h
      · rename_i t x y t' ho
        split at h
        · rename_i k n k' m hx hy
          split at h
          · rename_i hk
            subst hk
            simp only [T.all, Prod.mk.injEq] at h
            obtain ⟨h0, h1, _⟩ := h
            have e1 := pl_R hx (ev x).1
            have e2 := pl_R hy (ev y).1
            refine val (v := .int k (n.tmod m)) (fun w' _ => by simp [execOp, ho, e1, e2, eqGuard, binOp, Op.intDiv, h0]) ?_ ?_ <;> rw [← h1]
            · simp only [R]
            · trivial
          · cases h
        · cases h
      · rename_i ho; simp [isCall, ho] at hnc
      · rename_i ho; simp [isSp, ho] at hsp
      · rename_i args ty ho
        split at h
        · rename_i k es off n e hl hu
          simp only [T.all, Prod.mk.injEq] at h
          obtain ⟨h1, _⟩ := h
          cases hargs : args.toList with
          | nil => simp [hargs] at hl
          | cons x xs =>
            cases xs with
            | cons _ _ => simp [hargs] at hl
            | nil =>
              simp only [hargs, List.map_cons, List.map_nil, List.cons.injEq, and_true] at hl
              have hx := (ev x).1
              rw [hl] at hx
              simp only [R] at hx
              have e1 : ∃ ad cap, a.eval x = .slice ad n cap := by
                split at hx
                · obtain ⟨rfl, _, hx⟩ := hx; exact ⟨_, _, hx⟩
                · obtain ⟨_, ad, hx, _⟩ := hx; exact ⟨_, _, hx⟩
              obtain ⟨ad, cap, e1⟩ := e1
              have ha : args = #[x] := by rw [← Array.toArray_toList (xs := args), hargs]
              cases ht : ty[0]? with
              | none => simp [ht] at hu
              | some t =>
                simp only [ht, Option.bind_some] at hu
                refine val (v := .int .i64 n) (fun w' _ => by simp [execOp, ho, resolve, invoke, builtin, Builtin.len_, ha, ht, run_underlying hu, e1, goInt]) ?_ ?_ <;> rw [← h1]
                · simp only [R]
                · trivial
        · rename_i e' l e hl hu
          simp only [T.all, Prod.mk.injEq] at h
          obtain ⟨h1, _⟩ := h
          cases hargs : args.toList with
          | nil => simp [hargs] at hl
          | cons x xs =>
            cases xs with
            | cons _ _ => simp [hargs] at hl
            | nil =>
              simp only [hargs, List.map_cons, List.map_nil, List.cons.injEq, and_true] at hl
              have hx := (ev x).1
              rw [hl] at hx
              simp only [R] at hx
              obtain ⟨ad, cap, e1, _⟩ := hx
              have ha : args = #[x] := by rw [← Array.toArray_toList (xs := args), hargs]
              cases ht : ty[0]? with
              | none => simp [ht] at hu
              | some t =>
                simp only [ht, Option.bind_some] at hu
                refine val (v := .int .i64 (List.length l : Int)) (fun w' _ => by simp [execOp, ho, resolve, invoke, builtin, Builtin.len_, ha, ht, run_underlying hu, e1, goInt]) ?_ ?_ <;> rw [← h1]
                · simp only [R]
                · trivial
        · exact gen (same h)
      · exact gen (same h)

/-! ### masks -/
theorem maskGo_get (tr : List Nat) : ∀ (H : List Blk) (k i : Nat), (maskGo tr k H)[i]? = (H[i]?).map fun b => if tr.contains (k + i) then maskB b else b
  | [], k, i => by simp [maskGo]
  | b :: bs, k, 0 => by simp [maskGo]
  | b :: bs, k, i + 1 => by
    simp only [maskGo, List.getElem?_cons_succ]
    rw [maskGo_get tr bs (k + 1) i]
    have : k + 1 + i = k + (i + 1) := by omega
    rw [this]
theorem maskGo_length (tr : List Nat) : ∀ (H : List Blk) (k : Nat), (maskGo tr k H).length = H.length
  | [], _ => rfl
  | _ :: bs, k => by simp [maskGo, maskGo_length tr bs (k + 1)]
theorem RL_junk : ∀ (ys : List Value), RL β Z w (List.replicate ys.length .junk) ys
  | [] => by simp [RL]
  | y :: ys => by simp only [List.length_cons, List.replicate_succ, RL]; exact ⟨y, ys, rfl, by simp only [R], RL_junk ys⟩
theorem okL_junk (m : Nat) : ∀ (k : Nat), okL m (List.replicate k .junk)
  | 0 => trivial
  | k + 1 => ⟨trivial, okL_junk m k⟩

/-- What the blocks that are stored to look like, whatever has happened. -/
def Shp (tr : List Nat) (β : Nat → Loc) (H : List Blk) (w : World) : Prop := ∀ (k : Nat) (b : Blk), tr.contains k = true → H[k]? = some b → b.isCl = true → ∃ cs, w.heap[(β k).b]? = some (.cells cs b.t (0, 0)) ∧ cs.size = b.c.length
theorem isCl_k {b : Blk} (h : b.isCl = true) : b.k = .cl := by
  unfold Blk.isCl at h
  split at h
  · assumption
  · cases h
theorem maskB_cases (b : Blk) : (b.isCl = true ∧ maskB b = ⟨List.replicate b.c.length .junk, b.t, .cl, b.p⟩) ∨ (b.isCl = false ∧ maskB b = ⟨[], b.t, .dead, false⟩) := by
  unfold maskB Blk.isCl
  split
  · exact .inl ⟨rfl, rfl⟩
  · exact .inr ⟨rfl, rfl⟩
theorem maskB_live {b : Blk} {k : Nat} (h : live β k (maskB b)) : live β k b ∧ (maskB b).p = b.p := by
  rcases maskB_cases b with ⟨h1, h2⟩ | ⟨h1, h2⟩
  · rw [h2]; exact ⟨by unfold live; rw [isCl_k h1]; trivial, rfl⟩
  · rw [h2] at h; exact absurd h (fun h => h)
theorem RW.lvB_not {tr : List Nat} (hW : RW G w0 Z0 Z β H wr) {b : Nat} (hz : Z b) : b ∉ lvB β H tr := fun hm => by
  obtain ⟨k, bk, _, h2, h3, h4, rfl⟩ := mem_lvB.1 hm
  exact hW.zown k bk h2 h3 h4 hz
theorem RW.lvB_other {tr : List Nat} (hW : RW G w0 Z0 Z β H wr) {k : Nat} {b : Blk} (hb : H[k]? = some b) (hl : live β k b) (ht : k ∉ tr) : (β k).b ∉ lvB β H tr := fun hm => by
  obtain ⟨j, bj, h1, h2, h3, h4, h5⟩ := mem_lvB.1 hm
  have := hW.inj j k bj b h2 hb h3 hl h4 h5.symm
  subst this
  exact ht h1

theorem RW.mask {tr : List Nat} {w' : World} (hW : RW G w0 Z0 Z β H wr) (hn : Near (lvB β H tr) wr w') (hb0 : Below w0.heap.size w0 w') (hs : Shp tr β H w') : RW G w0 Z0 Z β (maskGo tr 0 H) w' := by
  have hw : ∀ b, Z b → w'.heap[b]? = wr.heap[b]? := fun b hz => hn.block b (hW.zlt b hz) (hW.lvB_not hz)
  have old : ∀ k b, (maskGo tr 0 H)[k]? = some b → ∃ b0, H[k]? = some b0 ∧ (live β k b → live β k b0 ∧ b.p = b0.p) ∧ ((tr.contains k = true ∧ b = maskB b0) ∨ (tr.contains k = false ∧ b = b0)) := fun k b hb => by
    rw [maskGo_get] at hb
    cases hH : H[k]? with
    | none => simp [hH] at hb
    | some b0 =>
      simp only [hH, Option.map_some, Option.some.injEq, Nat.zero_add] at hb
      refine ⟨b0, rfl, ?_⟩
      split at hb
      · rename_i ht
        subst hb
        exact ⟨maskB_live, .inl ⟨ht, rfl⟩⟩
      · rename_i ht
        subst hb
        exact ⟨fun h => ⟨h, rfl⟩, .inr ⟨by simpa using ht, rfl⟩⟩
  refine ⟨hb0, fun b hz => ?_, hW.znew, fun k b hk hl hp => ?_, fun k b hk hl hp => ?_, fun k b hk hl => ?_, fun i j bi bj hi hj li lj pi e => ?_, fun k b hb => ?_, hW.glob.mono (fun _ h => h) hw, fun p hp => ⟨R.mono (n := H.length) (fun _ _ => rfl) (fun _ h => h) hw _ _ (hW.gh p hp).2 (hW.gh p hp).1, by rw [maskGo_length]; exact (hW.gh p hp).2⟩⟩
  · have := hW.zlt b hz; have := hn.size; omega
  · obtain ⟨b0, h1, h2, _⟩ := old k b hk
    obtain ⟨h3, h4⟩ := h2 hl
    exact hW.zown k b0 h1 h3 (h4 ▸ hp)
  · obtain ⟨b0, h1, h2, _⟩ := old k b hk
    obtain ⟨h3, h4⟩ := h2 hl
    exact hW.zpub k b0 h1 h3 (h4 ▸ hp)
  · obtain ⟨b0, h1, h2, _⟩ := old k b hk
    exact hW.low k b0 h1 (h2 hl).1
  · obtain ⟨b0, h1, h2, _⟩ := old i bi hi
    obtain ⟨c0, g1, g2, _⟩ := old j bj hj
    exact hW.inj i j b0 c0 h1 g1 (h2 li).1 (g2 lj).1 ((h2 li).2 ▸ pi) e
  · obtain ⟨b0, h1, h2, h3⟩ := old k b hb
    obtain ⟨f1, f2⟩ := hW.blk k b0 h1
    rw [maskGo_length]
    rcases h3 with ⟨ht, rfl⟩ | ⟨ht, rfl⟩
    · rcases maskB_cases b0 with ⟨m1, m2⟩ | ⟨m1, m2⟩
      · rw [m2]
        obtain ⟨cs', g1, g2⟩ := hs k b0 ht h1 m1
        refine ⟨⟨cs', g1, ?_⟩, okL_junk _ _, trivial⟩
        have := RL_junk (β := β) (Z := Z) (w := w') cs'.toList
        simpa [g2] using this
      · rw [m2]
        exact ⟨trivial, trivial, trivial⟩
    · have hkt : k ∉ tr := by simpa using ht
      exact ⟨f1.keep (fun _ _ => rfl) (fun _ h => h) hw rfl (fun hl => hn.block _ (hW.lt h1 hl) (hW.lvB_other h1 hl hkt)) f2, f2⟩

/-- What an operation leaves of the blocks. -/
theorem opx_ev {o : Oper} {lv : LV} {H' : List Blk} (h : (opx P G Γ F H o).all (fun q => q = (lv, H'))) : EvL H H' := by
  by_cases hm : memFree P o = true
  · have hH : H' = H := T.lv_all (p := fun q : LV × List Blk => q.2 = H) (x := (lv, H')) (opx_heap hm) h
    rw [hH]; exact EvL.refl H
  · have bd : ∀ {t : T LV} {H1 : List Blk}, (t.bind fun y => (T.ok (y, H1) : T (LV × List Blk))).all (fun q => q = (lv, H')) → H' = H1 := fun h => by
      obtain ⟨x, h1, h2⟩ := T.bind_all h
      simp only [T.all, Prod.mk.injEq] at h2
      exact h2.2.symm
    unfold memFree at hm
    split at hm
    · rename_i t ho
      unfold opx at h
      simp only [ho] at h
      split at h
      · split at h
        · simp only [T.all, Prod.mk.injEq] at h
          rw [← h.2]; exact EvL.app _ _
        · cases h
      · cases h
    · rename_i t x ho
      unfold opx at h
      simp only [ho] at h
      split at h
      · simp only [T.all, Prod.mk.injEq] at h
        rw [← h.2]; exact EvL.app _ _
      · cases h
    · rename_i t x y ho
      unfold opx at h
      simp only [ho] at h
      obtain ⟨H1, h1, h2⟩ := T.bind_all h
      simp only [T.all, Prod.mk.injEq] at h2
      obtain ⟨_, rfl⟩ := h2
      exact storeL_ev h1
    · rename_i t n c ho
      unfold opx at h
      simp only [ho] at h
      exact makeL_ev h
    · rename_i t r ho
      unfold opx at h
      cases r with
      | none =>
        simp only [ho] at h
        split at h
        · simp only [T.all, Prod.mk.injEq] at h
          rw [← h.2]; exact EvL.app _ _
        · cases h
      | some r =>
        simp only [ho] at h
        rw [bd h]; exact EvL.refl H
    · rename_i t m i x ho
      unfold opx at h
      simp only [ho] at h
      obtain ⟨H1, h1, h2⟩ := T.bind_all h
      simp only [T.all, Prod.mk.injEq] at h2
      obtain ⟨_, rfl⟩ := h2
      exact insL_ev h1
    · rename_i args ty ho
      unfold opx at h
      simp only [ho] at h
      split at h
      · exact appendL_ev h
      · cases h
    · rename_i f args ty ho
      unfold opx at h
      simp only [ho] at h
      split at h
      · split at h
        · split at h
          · split at h
            · split at h
              · rw [bd h]; exact EvL.refl H
              · try rw [if_neg hm] at h
                split at h
                · rw [bd h]; exact EvL.pub _
                · cases h
            · cases h
          · cases h
        · cases h
      · cases h
    · simp at hm

/-! ### the first pass -/
theorem p1_sound (hΓ : ∀ g S, Γ g = some S → Valid P G g S) {ops : Array Oper} {tr : List Nat} {Hm : List Blk} {D : World → Prop} {K : Act → Prop} {F' : List LV} {HH : List Blk} (hlen : Hm.length = H.length)
    (hW : RW G w0 Z0 Z β Hm wr) (hD : ∀ w', D w' → RW G w0 Z0 Z β Hm w' ∧ ∀ b, (Z b ∨ ∃ k bk, Hm[k]? = some bk ∧ live β k bk ∧ tr.contains k = false ∧ b = (β k).b) → w'.heap[b]? = wr.heap[b]?)
    (hK : ∀ a1, RF β Z wr H.length F' a1 → K a1) : ∀ (fs : List Bool) (os : List Oper) (F : List LV) (a : Act), fs.length = os.length → RF β Z wr H.length F a →
      (p1x P G Γ ops tr HH Hm fs os F).all (fun q => q = (F', HH)) → wpP1 P ops D K fs os a
  | [], [], F, a, _, hF, h => by
    simp only [p1x, T.all, Prod.mk.injEq, and_true] at h
    subst h
    exact wpP1_end (hK a hF)
  | [], _ :: _, _, _, hl, _, _ => by simp at hl
  | _ :: _, [], _, _, hl, _, _ => by simp at hl
  | f :: fs, o :: os, F, a, hl, hF, h => by
    have hl' : fs.length = os.length := by simpa using hl
    simp only [p1x] at h
    simp only [wpP1]
    split at h
    · rename_i hf
      rw [if_pos hf]
      exact p1_sound hΓ hlen hW hD hK fs os F a hl' hF h
    · rename_i hf
      rw [if_neg hf]
      have goOk : ∀ (F : List LV), RF β Z wr H.length F a → ((calmx P G Γ tr F Hm o).bind fun y => p1x P G Γ ops tr HH Hm fs os (setF F o.dst y)).all (fun q => q = (F', HH)) → calm P o a D (wpP1 P ops D K fs os) := fun F hF h => by
        obtain ⟨lv, h1, h2⟩ := T.bind_all h
        obtain ⟨v, g1, g2, g3⟩ := look_sound hΓ hW (by rw [hlen]; exact hF) hD h1
        exact ⟨v, g1, p1_sound hΓ hlen hW hD hK fs os _ _ hl' (hF.put g2 (by rw [← hlen]; exact g3) o.dst) h2⟩
      have passOk : ∀ (F : List LV), RF β Z wr H.length F a → (p1x P G Γ ops tr HH Hm fs os (setF F o.dst (.v undef))).all (fun q => q = (F', HH)) → wpP1 P ops D K fs os (a.put o.dst undef) := fun F hF h =>
        p1_sound hΓ hlen hW hD hK fs os _ _ hl' (hF.pass o.dst) h
      split at h
      · rename_i hg
        have hw : Region.wanted o (yielded ops a.tmps) = true := by simp [Region.wanted, hg]
        rw [if_pos hw]
        exact goOk F hF h
      · rename_i j want hg
        split at h
        · rename_i d hd
          split at h
          · rename_i b hb
            obtain ⟨s1, s2⟩ := hF.slot hb (by simp)
            have hv := (hF.get d _ s1).1
            simp only [R] at hv
            rw [hv] at s2
            rw [wanted_of hg hd s2]
            split at h
            · rename_i e; subst e; simp only [beq_self_eq_true, if_true]; exact goOk F hF h
            · rename_i e; rw [if_neg (by simpa using e)]; exact passOk F hF h
          · rename_i g hb
            obtain ⟨s1, s2⟩ := hF.slot hb (by simp)
            have hv := (hF.get d _ s1).1
            simp only [R] at hv
            have kn : ∀ b, g = b → RF β Z wr H.length (F.set d (.bl b)) a := fun b e => hF.know (by simp only [R]; rw [hv, e]) trivial
            rw [hv] at s2
            rw [wanted_of hg hd s2]
            split at h
            · rename_i hwt
              subst hwt
              simp only [T.all] at h
              cases hgg : g with
              | true => simp only [beq_self_eq_true, if_true]; exact goOk _ (kn true hgg) (h.1 hgg)
              | false => rw [if_neg (by simp)]; exact passOk _ (kn false hgg) (h.2 hgg)
            · rename_i hwt
              have hwt' : want = false := by simpa using hwt
              subst hwt'
              simp only [T.all] at h
              cases hgg : g with
              | true => rw [if_neg (by simp)]; exact passOk _ (kn true hgg) (h.1 hgg)
              | false => simp only [beq_self_eq_true, if_true]; exact goOk _ (kn false hgg) (h.2 hgg)
          · rename_i vs hb
            obtain ⟨s1, s2⟩ := hF.slot hb (by simp)
            have hv := (hF.get d _ s1).1
            simp only [R] at hv
            rw [hv] at s2
            rw [wanted_none hg hd s2, if_neg (by simp)]
            exact passOk F hF h
          · cases h
        · cases h

theorem p1x_keeps {ops : Array Oper} {tr : List Nat} {Hm : List Blk} {F0 : List LV} : ∀ (fs : List Bool) (os : List Oper) (F : List LV), (∀ o ∈ os, o ∈ ops.toList) → F.length = F0.length ∧ (∀ i, i ∉ dsts ops.toList → F[i]? = F0[i]?) →
    (p1x P G Γ ops tr H Hm fs os F).lv (Keeps (dsts ops.toList) F0 H)
  | [], _, F, _, h => by simp only [p1x, T.lv, Keeps]; exact ⟨h.1, h.2, trivial⟩
  | _ :: _, [], F, _, h => by simp only [p1x, T.lv, Keeps]; exact ⟨h.1, h.2, trivial⟩
  | f :: fs, o :: os, F, hin, h => by
    have hin' : ∀ o ∈ os, o ∈ ops.toList := fun o ho => hin o (by simp [ho])
    have hdo : ∀ t, o.dst = some t → t ∈ dsts ops.toList := fun t ht => List.mem_filterMap.2 ⟨o, hin o (by simp), ht⟩
    have go : ∀ F : List LV, F.length = F0.length ∧ (∀ i, i ∉ dsts ops.toList → F[i]? = F0[i]?) → ((calmx P G Γ tr F Hm o).bind fun y => p1x P G Γ ops tr H Hm fs os (setF F o.dst y)).lv (Keeps (dsts ops.toList) F0 H) := fun F hF =>
      T.lv_bind (p := fun _ => True) (fun q _ => p1x_keeps fs os _ hin' (keeps_setF hF hdo _)) (T.lv_true (fun _ => trivial) _)
    have pass : ∀ F : List LV, F.length = F0.length ∧ (∀ i, i ∉ dsts ops.toList → F[i]? = F0[i]?) → (p1x P G Γ ops tr H Hm fs os (setF F o.dst (.v undef))).lv (Keeps (dsts ops.toList) F0 H) := fun F hF =>
      p1x_keeps fs os _ hin' (keeps_setF hF hdo _)
    simp only [p1x]
    split
    · exact p1x_keeps fs os F hin' h
    · split
      · exact go F h
      · rename_i j want hg
        split
        · rename_i d hd
          have hdd : d ∈ dsts ops.toList := by
            cases hj : ops[j]? with
            | none => simp [hj] at hd
            | some oj => simp [hj] at hd; exact List.mem_filterMap.2 ⟨oj, by simpa using Array.mem_of_getElem? hj, hd⟩
          split
          · split
            · exact go F h
            · exact pass F h
          · split
            · exact ⟨go _ (keeps_set h hdd _), pass _ (keeps_set h hdd _)⟩
            · exact ⟨pass _ (keeps_set h hdd _), go _ (keeps_set h hdd _)⟩
          · exact pass F h
          · trivial
        · trivial

/-! ### the second pass -/
structure Gh where
  Z : Nat → Prop
  β : Nat → Loc
  H : List Blk
  F : List LV
  a : Act

/-- The classes of worlds of a drawn region. -/
structure Cls (G : Globs) (w0 : World) (Z0 : Gz) (tr : List Nat) (β : Nat → Loc) (H : List Blk) (wr : World) (g : Gh) (w' : World) : Prop where
  rw : RW G w0 Z0 g.Z g.β g.H w'
  rf : RF g.β g.Z w' g.H.length g.F g.a
  near : Near (lvB β H tr) wr w'
  len : H.length ≤ g.H.length
  old : ∀ k, k < H.length → g.β k = β k
  new : ∀ k, H.length ≤ k → k < g.H.length → wr.heap.size ≤ (g.β k).b ∨ (g.β k).b ∈ lvB β H tr
  shp : EvL H g.H

theorem Cls.keep {tr : List Nat} {g : Gh} {w' w'' : World} (h : Cls G w0 Z0 tr β H wr g w') (hb : Below w'.heap.size w' w'') : Cls G w0 Z0 tr β H wr g w'' :=
  ⟨h.rw.same hb, h.rf.mono (Nat.le_refl _) (fun _ _ => rfl) (fun _ h => h) (fun b hz => below_block hb (h.rw.zlt b hz)), near_below h.near hb, h.len, h.old, h.new, h.shp⟩
theorem Cls.shape {tr : List Nat} {g : Gh} {w' : World} (h : Cls G w0 Z0 tr β H wr g w') : Shp tr β H w' := fun k b _ hb hcl => by
  obtain ⟨b', e1, e2⟩ := h.shp k b hb
  obtain ⟨c1, c2, c3⟩ := e2.cl hcl
  obtain ⟨_, ⟨cs, f2, f3⟩, _⟩ := blk_cl h.rw e1 c1
  have hk : k < H.length := (List.getElem?_eq_some_iff.1 hb).1
  rw [h.old k hk, c2] at f2
  refine ⟨cs, f2, ?_⟩
  have := RL.length f3
  simp at this
  omega
/-- What an operation of a drawn region writes. -/
theorem Cls.touch {tr : List Nat} {g : Gh} {o : Oper} {w' : World} (hc : Cls G w0 Z0 tr β H wr g w') (hst : okStore G g.F tr H.length o = true) {x : Nat} (hx : x ∈ lvB g.β g.H (wrt G g.F o)) : wr.heap.size ≤ x ∨ x ∈ lvB β H tr := by
  obtain ⟨k, b, h1, h2, h3, h4, rfl⟩ := mem_lvB.1 hx
  have hkg : k < g.H.length := (List.getElem?_eq_some_iff.1 h2).1
  by_cases hk : k < H.length
  · right
    unfold okStore at hst
    have := List.all_eq_true.1 hst k h1
    simp only [Bool.or_eq_true, decide_eq_true_eq] at this
    have hkt : k ∈ tr := by
      rcases this with h | h
      · simpa using h
      · omega
    obtain ⟨b0, hb0⟩ : ∃ b0, H[k]? = some b0 := ⟨_, List.getElem?_eq_getElem hk⟩
    obtain ⟨b', e1, e2⟩ := hc.shp k b0 hb0
    rw [h2] at e1
    simp only [Option.some.injEq] at e1
    subst e1
    refine mem_lvB.2 ⟨k, b0, hkt, hb0, ?_, e2.p h4, by rw [hc.old k hk]⟩
    have := e2.live g.β k h3
    rwa [live_eq (hc.old k hk)] at this
  · exact hc.new k (by omega) hkg

/-- One special operation: the class behind it. -/
theorem cls_step (hΓ : ∀ g S, Γ g = some S → Valid P G g S) {tr : List Nat} {g : Gh} {o : Oper} {lv : LV} {H1 : List Blk} {w' : World} (hst : okStore G g.F tr H.length o = true) (h1 : (opx P G Γ g.F g.H o).all (fun q => q = (lv, H1))) (hc : Cls G w0 Z0 tr β H wr g w') :
    actUpon P (fun v w'' => ∃ g' : Gh, Cls G w0 Z0 tr β H wr g' w'' ∧ g'.F = setF g.F o.dst lv ∧ g'.H = H1 ∧ g'.a = g.a.put o.dst v) ((execOp g.a.eval o).run P w') := by
  refine actUpon_mono (fun v w'' ⟨Z', β', e1, e2, e3, e4, e5, e6, e7, e8⟩ => ?_) (opx_sound hΓ hc.rw hc.rf h1)
  refine ⟨⟨Z', β', H1, setF g.F o.dst lv, g.a.put o.dst v⟩, ?_, rfl, rfl, rfl⟩
  have hsz := hc.near.size
  refine ⟨e1, e2.put e3 e4 o.dst, ⟨e8.os.trans hc.near.os, e8.tape.trans hc.near.tape, e8.output.trans hc.near.output, Nat.le_trans hsz e8.size, fun k hk hn => ?_⟩, Nat.le_trans hc.len e5, fun k hk => ?_, fun k h3 h4 => ?_, hc.shp.trans (opx_ev h1)⟩
  · rw [e8.block k (by omega) fun hm => ?_]
    · exact hc.near.block k hk hn
    · rcases hc.touch hst hm with h | h
      · omega
      · exact hn h
  · show β' k = β k
    rw [e6 k (Nat.lt_of_lt_of_le hk hc.len)]; exact hc.old k hk
  · show wr.heap.size ≤ (β' k).b ∨ (β' k).b ∈ lvB β H tr
    by_cases hkk : k < g.H.length
    · rw [e6 k hkk]; exact hc.new k h3 hkk
    · rcases e7 k (by omega) h4 with h | h
      · exact .inl (by omega)
      · exact hc.touch hst h

theorem p2_sound (hΓ : ∀ g S, Γ g = some S → Valid P G g S) {ops : Array Oper} {tr : List Nat} {Q : Act → Gh → Prop} {F' : List LV} {H' : List Blk}
    (hQ : ∀ g : Gh, g.F = F' → g.H = H' → Q g.a g) : ∀ (fs : List Bool) (os : List Oper) (g : Gh), fs.length = os.length →
      (p2x P G Γ tr H.length fs os g.F g.H).all (fun q => q = (F', H')) → wpP2 P ops (Cls G w0 Z0 tr β H wr) Q fs os g.a g
  | [], [], g, _, h => by
    simp only [p2x, T.all, Prod.mk.injEq] at h
    exact wpP2_end (hQ g h.1 h.2)
  | [], _ :: _, _, hl, _ => by simp at hl
  | _ :: _, [], _, hl, _ => by simp at hl
  | f :: fs, o :: os, g, hl, h => by
    have hl' : fs.length = os.length := by simpa using hl
    simp only [p2x] at h
    simp only [wpP2]
    split at h
    · rename_i hf
      rw [if_pos hf]
      split at h
      · rename_i hgs
        simp only [Bool.and_eq_true, Option.isNone_iff_eq_none] at hgs
        obtain ⟨hgd, hst⟩ := hgs
        have hw : Region.wanted o (yielded ops g.a.tmps) = true := by simp [Region.wanted, hgd]
        rw [if_pos hw]
        obtain ⟨⟨lv, H1⟩, h1, h2⟩ := T.bind_all h
        intro w' hc
        refine actUpon_mono (fun v w'' ⟨g', e1, e2, e3, e4⟩ => ⟨g', e1, ?_⟩) (cls_step hΓ hst h1 hc)
        rw [← e4]
        exact p2_sound hΓ hQ fs os g' hl' (by rw [e2, e3]; exact h2)
      · cases h
    · rename_i hf
      rw [if_neg hf]
      exact p2_sound hΓ hQ fs os g hl' h

/-! ### several orders -/
theorem T.swap {α γ : Type} {K : α → γ → Prop} {t : T α} {u : T γ} : t.all (fun x => u.all (fun y => K x y)) → u.all (fun y => t.all (fun x => K x y)) := by
  intro h
  obtain ⟨x, h1, h2⟩ := T.pick h
  refine T.all_mono (fun y hy => ?_) h1
  exact T.all_mono (fun z hz => by rw [hz]; exact hy) h2
theorem evalL_setF {F : List LV} {d : Option Tmp} {y : LV} {x : Operand} (h : ∀ t, d = some t → x ≠ .tmp t) : evalL G (setF F d y) x = evalL G F x := by
  cases d with
  | none => rfl
  | some t =>
    cases x with
    | tmp s =>
      have hne : s ≠ t := fun e => h t rfl (by rw [e])
      simp only [evalL, setF, List.getD, List.getElem?_set_ne (Ne.symm hne)]
    | _ => rfl
theorem looks {ops : Array Oper} {o : Oper} {d : Option Tmp} (h : ∀ t, d = some t → t ∉ o.looksAt ops) : ∀ x ∈ o.op.operands, ∀ t, d = some t → x ≠ .tmp t := fun x hx t ht e => h t ht (by
  subst e
  exact List.mem_append_left _ (List.mem_filterMap.2 ⟨.tmp t, by simpa using hx, rfl⟩))
theorem setF_comm {F : List LV} {d e : Option Tmp} {x y : LV} (h : ∀ t, d = some t → e ≠ some t) : setF (setF F d x) e y = setF (setF F e y) d x := by
  cases d with
  | none => rfl
  | some t =>
    cases e with
    | none => rfl
    | some s =>
      have : t ≠ s := fun e => h t rfl (by rw [e])
      simp only [setF]
      exact List.set_comm _ _ (by omega)
theorem mkx_setF {ops : Array Oper} {o : Oper} {d : Option Tmp} {y : LV} (h : ∀ t, d = some t → t ∉ o.looksAt ops) : mkx P G Γ (setF F d y) o = mkx P G Γ F o := by
  have hl := looks h
  unfold mkx
  split
  · rename_i t len parts ho
    congr 1
    refine List.map_congr_left fun q hq => ?_
    rw [evalL_setF (hl q.2 (by rw [ho]; simp only [Op.operands, List.mem_toArray, List.mem_map]; exact ⟨q, hq, rfl⟩))]
  · rename_i f args ty ho
    have e1 : evalL G (setF F d y) f = evalL G F f := evalL_setF (hl f (by rw [ho]; simp [Op.operands, Call.operands]))
    have e2 : (args.toList.map fun x => norm (evalL G (setF F d y) x)) = args.toList.map fun x => norm (evalL G F x) := List.map_congr_left fun x hx => by
      rw [evalL_setF (hl x (by rw [ho]; simp only [Op.operands, Call.operands, Array.mem_append]; exact .inr (by simpa using hx)))]
    rw [e1, e2]
  · rfl
theorem al_setF {ops : Array Oper} {o : Oper} {d : Option Tmp} {y : LV} (ha : isAl o = true) (h : ∀ t, d = some t → t ∉ o.looksAt ops) : opx P G Γ (setF F d y) H o = opx P G Γ F H o := by
  have hl := looks h
  unfold isAl at ha
  split at ha
  · rename_i t ho
    unfold opx
    simp only [ho]
  · rename_i t x ho
    unfold opx
    simp only [ho]
    rw [evalL_setF (hl x (by rw [ho]; simp [Op.operands]))]
  · cases ha
theorem ok_okStore {tr : List Nat} {n0 : Nat} {o : Oper} {F : List LV} (h : isAl o = true ∨ isMk o = true) : okStore G F tr n0 o = true := by
  have hw : wrt G F o = [] := by
    unfold wrt
    split
    · rename_i ho
      rcases h with h | h
      · simp [isAl, ho] at h
      · simp [isMk, ho] at h
    · rename_i ho
      rcases h with h | h
      · simp [isAl, ho] at h
      · simp [isMk, ho] at h
    · rename_i ho
      rcases h with h | h
      · simp [isAl, ho] at h
      · simp [isMk, ho] at h
    · rfl
  unfold okStore
  rw [hw]; rfl
/-- Two neighbours change places. -/
theorem p2f_swap {ops : Array Oper} {tr : List Nat} {n0 : Nat} {i j : Nat} {is : List Nat} {K : List LV × List Blk → Prop} (hc : commB ops i j = true) (h : (p2f P G Γ ops tr n0 (j :: i :: is) F H).all K) : (p2f P G Γ ops tr n0 (i :: j :: is) F H).all K := by
  unfold commB at hc
  split at hc
  · rename_i x y hx hy
    simp only [Bool.and_eq_true, Bool.or_eq_true] at hc
    obtain ⟨⟨⟨g1, g2⟩, g3⟩, hap⟩ := hc
    obtain ⟨a1, a2, a3⟩ := Oper.apart_spec hap
    have sx : ∀ F : List LV, okStore G F tr n0 x = true := fun F => ok_okStore (by rcases g3 with (g3 | g3) | g3 <;> simp [g3.1])
    have sy : ∀ F : List LV, okStore G F tr n0 y = true := fun F => ok_okStore (by rcases g3 with (g3 | g3) | g3 <;> simp [g3.2])
    have notboth : ∀ o : Oper, isMk o = true → isAl o = true → False := fun o h1 h2 => by
      unfold isMk at h1
      split at h1
      · rename_i ho; simp [isAl, ho] at h2
      · rename_i ho; simp [isAl, ho] at h2
      · cases h1
    simp only [p2f, hx, hy, g1, g2, sx, sy, Bool.and_self, if_true] at h ⊢
    rw [T.all_bind] at h ⊢
    rcases g3 with (⟨g3, g4⟩ | ⟨g3, g4⟩) | ⟨g3, g4⟩
    · have nx : ¬ isMk x = true := fun e => notboth x e g3
      simp only [spx, if_pos g4, if_neg nx] at h ⊢
      rw [T.all_bind] at h
      have h2 := T.all_mono (fun z hz => by
        simp only [T.all] at hz
        rw [T.all_bind, al_setF g3 a3] at hz
        exact hz) h
      refine T.all_mono (fun q hq => ?_) (T.swap h2)
      rw [T.all_bind, T.all_bind, mkx_setF a1]
      refine T.all_mono (fun z hz => ?_) hq
      simp only [T.all]
      rw [setF_comm a2]
      exact hz
    · have ny : ¬ isMk y = true := fun e => notboth y e g4
      simp only [spx, if_pos g3, if_neg ny] at h ⊢
      rw [T.all_bind]
      have h2 := T.all_mono (fun z hz => by
        rw [T.all_bind, T.all_bind, mkx_setF a3] at hz
        exact hz) h
      refine T.all_mono (fun q hq => ?_) (T.swap h2)
      simp only [T.all]
      rw [T.all_bind, al_setF g4 a1]
      refine T.all_mono (fun z hz => ?_) hq
      simp only [T.all] at hz
      rw [setF_comm a2]
      exact hz
    · simp only [spx, if_pos g3, if_pos g4] at h ⊢
      rw [T.all_bind] at h ⊢
      have h2 := T.all_mono (fun z hz => by
        simp only [T.all] at hz
        rw [T.all_bind, T.all_bind, mkx_setF a3] at hz
        exact hz) h
      refine T.all_mono (fun q hq => ?_) (T.swap h2)
      simp only [T.all]
      rw [T.all_bind, T.all_bind, mkx_setF a1]
      refine T.all_mono (fun z hz => ?_) hq
      simp only [T.all] at hz ⊢
      rw [setF_comm a2]
      exact hz
  · cases hc
theorem p2f_cons {ops : Array Oper} {tr : List Nat} {n0 : Nat} {j : Nat} {R R' : List Nat} {K : List LV × List Blk → Prop} (hh : ∀ (F : List LV) (H : List Blk), (p2f P G Γ ops tr n0 R F H).all K → (p2f P G Γ ops tr n0 R' F H).all K) (h : (p2f P G Γ ops tr n0 (j :: R) F H).all K) : (p2f P G Γ ops tr n0 (j :: R') F H).all K := by
  simp only [p2f] at h ⊢
  split at h
  · split at h
    · rename_i hg
      rw [if_pos hg]
      rw [T.all_bind] at h ⊢
      exact T.all_mono (fun q hq => hh _ _ hq) h
    · cases h
  · cases h
theorem p2f_front {ops : Array Oper} {tr : List Nat} {n0 : Nat} {i : Nat} {K : List LV × List Blk → Prop} : ∀ (R : List Nat) (F : List LV) (H : List Blk), i ∈ R → (befR i R).all (fun j => commB ops i j) = true → (p2f P G Γ ops tr n0 R F H).all K → (p2f P G Γ ops tr n0 (i :: R.erase i) F H).all K
  | [], _, _, hi, _, _ => by cases hi
  | j :: R, F, H, hi, hb, h => by
    by_cases hj : j = i
    · subst hj
      simpa using h
    · have hi' : i ∈ R := by
        rcases List.mem_cons.1 hi with e | e
        · exact absurd e.symm hj
        · exact e
      simp only [befR, if_neg hj, List.all_cons, Bool.and_eq_true] at hb
      rw [List.erase_cons_tail (by simpa using hj)]
      exact p2f_swap hb.1 (p2f_cons (fun F H h => p2f_front R F H hi' hb.2 h) h)
theorem mkx_opx {o : Oper} {lv : LV} (hm : isMk o = true) (h : (mkx P G Γ F o).all (fun z => z = lv)) : (opx P G Γ F H o).all (fun q => q = (lv, H)) := by
  unfold mkx at h
  split at h
  · rename_i t len parts ho
    unfold opx
    simp only [ho]
    rw [T.all_bind]
    exact T.all_mono (fun z hz => by simp only [T.all]; rw [hz]) h
  · rename_i f args ty ho
    unfold opx
    simp only [ho]
    split at h
    · rename_i g cap hf
      split at h
      · rename_i fn hfn
        split at h
        · rename_i hb
          split at h
          · rename_i S hS
            split at h
            · rename_i hno
              simp only [hf, hfn, hb, if_true, hS, hno]
              rw [T.all_bind]
              exact T.all_mono (fun z hz => by simp only [T.all]; rw [hz]) h
            · cases h
          · cases h
        · cases h
      · cases h
    · cases h
  · cases h
theorem float_sound (hΓ : ∀ g S, Γ g = some S → Valid P G g S) {ops : Array Oper} {tr : List Nat} {D : World → Prop} {sp : Nat → Bool} {Q : Act → Gh → Prop} {F' : List LV} {H' : List Blk}
    (hQ : ∀ g : Gh, g.F = F' → g.H = H' → Q g.a g) : ∀ (n : Nat) (R : List Nat) (listed : Array Bool) (g : Gh), (∀ i ∈ R, sp i = true) → ordF ops n R listed = true →
      (p2f P G Γ ops tr H.length R g.F g.H).all (fun q => q = (F', H')) → wpAnyG P .any ops D (Cls G w0 Z0 tr β H wr) sp Q n listed g.a g
  | 0, R, listed, g, _, hB, h => by
    simp only [ordF, Bool.and_eq_true, List.isEmpty_iff] at hB
    obtain ⟨rfl, h2⟩ := hB
    simp only [p2f, T.all, Prod.mk.injEq] at h
    exact ⟨h2, hQ g h.1 h.2⟩
  | n + 1, R, listed, g, hs, hB, h => by
    simp only [ordF, Bool.and_eq_true, List.all_eq_true, Bool.not_eq_true', List.isEmpty_eq_false_iff] at hB
    obtain ⟨hne, hall⟩ := hB
    refine ⟨fun h0 => absurd h0 hne, fun i hi => ?_⟩
    obtain ⟨⟨hR, hbef⟩, hrest⟩ := hall i hi
    have hiR : i ∈ R := by simpa using hR
    have hf := p2f_front R g.F g.H hiR (by rw [List.all_eq_true]; exact hbef) h
    simp only [p2f] at hf
    split at hf
    · rename_i o ho
      split at hf
      · rename_i hgs
        simp only [Bool.and_eq_true, Option.isNone_iff_eq_none] at hgs
        obtain ⟨hgd, hst⟩ := hgs
        have hw : Region.wanted o (yielded ops g.a.tmps) = true := by simp [Region.wanted, hgd]
        unfold gOp
        simp only [ho, hw, if_true, hs i hiR]
        obtain ⟨⟨lv, H1⟩, h1, h2⟩ := T.bind_all hf
        have h1' : (opx P G Γ g.F g.H o).all (fun q => q = (lv, H1)) := by
          unfold spx at h1
          split at h1
          · rename_i hm
            obtain ⟨y, k1, k2⟩ := T.bind_all h1
            simp only [T.all, Prod.mk.injEq] at k2
            obtain ⟨rfl, rfl⟩ := k2
            exact mkx_opx hm k1
          · exact h1
        intro w' hc
        refine actUpon_mono (fun v w'' ⟨g', e1, e2, e3, e4⟩ => ⟨g', e1, ?_⟩) (cls_step hΓ hst h1' hc)
        rw [← e4]
        refine float_sound hΓ hQ n (R.erase i) _ g' (fun j hj => hs j (List.mem_of_mem_erase hj)) hrest ?_
        rw [e2, e3]
        exact h2
      · cases hf
    · cases hf

theorem wpP2_sub {T' : Type} {C : T' → World → Prop} {Q' : Act → World → Prop} {ops : Array Oper} {g g1 : T'} (hs : ∀ w', C g w' → C g1 w') : ∀ (fs : List Bool) (os : List Oper) (a : Act),
    wpP2 P ops C (fun a' g' => ∀ w', C g' w' → Q' a' w') fs os a g1 → wpP2 P ops C (fun a' g' => ∀ w', C g' w' → Q' a' w') fs os a g
  | [], _, a, h => by
    simp only [wpP2] at h ⊢
    exact fun w' hw' => h w' (hs w' hw')
  | _ :: _, [], a, h => by
    simp only [wpP2] at h ⊢
    exact fun w' hw' => h w' (hs w' hw')
  | f :: fs, o :: os, a, h => by
    simp only [wpP2] at h ⊢
    split
    · rename_i hf
      rw [if_pos hf] at h
      split
      · rename_i hw
        rw [if_pos hw] at h
        exact fun w' hw' => h w' (hs w' hw')
      · rename_i hw
        rw [if_neg hw] at h
        exact wpP2_sub hs fs os _ h
    · rename_i hf
      rw [if_neg hf] at h
      exact wpP2_sub hs fs os a h

theorem wpAnyG_sub {T' : Type} {md : Region.Mode} {D : World → Prop} {sp : Nat → Bool} {C : T' → World → Prop} {Q' : Act → World → Prop} {ops : Array Oper} {g g1 : T'} (hs : ∀ w', C g w' → C g1 w') : ∀ (n : Nat) (listed : Array Bool) (a : Act),
    wpAnyG P md ops D C sp (fun a' g' => ∀ w', C g' w' → Q' a' w') n listed a g1 → wpAnyG P md ops D C sp (fun a' g' => ∀ w', C g' w' → Q' a' w') n listed a g
  | 0, _, _, h => ⟨h.1, fun w' hw' => h.2 w' (hs w' hw')⟩
  | n + 1, listed, a, h => ⟨fun h0 w' hw' => h.1 h0 w' (hs w' hw'), fun i hi => by
      have := h.2 i hi
      unfold gOp at this ⊢
      split
      · rename_i ho; simp only [ho] at this; exact wpAnyG_sub hs n _ _ this
      · rename_i o ho
        simp only [ho] at this
        split
        · rename_i hw
          simp only [hw, if_true] at this
          split
          · rename_i hsp
            simp only [hsp, if_true] at this
            exact fun w hw => this w (hs w hw)
          · rename_i hsp
            simp only [hsp] at this
            exact calm_mono (fun a' hk => wpAnyG_sub hs n _ a' hk) this
        · rename_i hw
          simp only [hw] at this
          exact wpAnyG_sub hs n _ _ this⟩

/-- A drawn region. -/
theorem draw_sound (hΓ : ∀ g S, Γ g = some S → Valid P G g S) {id : Nat} {ops : Array Oper} {Q : Exit → Act → World → Prop} {F' : List LV} {H' : List Blk} (hQ : ∀ Z' β' a' w', RW G w0 Z0 Z' β' H' w' → RF β' Z' w' H'.length F' a' → Q .normal a' w')
    (hW0 : RW G w0 Z0 Z β H w) (hF0 : RF β Z w H.length F a) (h : (drawx P G Γ ops F H).all (fun q => q = (F', H'))) : (Code.region id ops true).wp P Q a w := by
  unfold drawx at h
  simp only at h
  split at h
  · rename_i hc
    simp only [Bool.and_eq_true] at hc
    obtain ⟨⟨hcalm, hmix⟩, htr0⟩ := hc
    generalize hfl : flagsGo P [] ops.toList = flags at h hcalm
    generalize htrd : tracked ops.toList F = tr at h htr0
    have htr : ∀ k ∈ tr, k < H.length := fun k hk => by simpa using List.all_eq_true.1 htr0 k hk
    obtain ⟨⟨F1, H1⟩, h1, h2⟩ := T.bind_all h
    have hk := p1x_keeps (P := P) (G := G) (Γ := Γ) (H := H) (tr := tr) (Hm := maskGo tr 0 H) (F0 := F) flags ops.toList F (fun _ h => h) ⟨rfl, fun _ _ => rfl⟩
    obtain ⟨⟨F2, H2⟩, g1, g2, g3⟩ := mergeT_sound hk h1
    have hH2 : H2 = H := (T.lv_all hk g1).2.2
    subst hH2
    have hbd : Below w.heap.size w { w with drawn := w.drawn + 1 } := ⟨rfl, rfl, rfl, Nat.le_refl _, fun _ _ => rfl⟩
    have hW := hW0.same hbd
    have hF : RF β Z { w with drawn := w.drawn + 1 } H2.length F a := hF0.mono (Nat.le_refl _) (fun _ _ => rfl) (fun _ h => h) (fun _ _ => rfl)
    have hflen : flags.length = ops.toList.length := by
      unfold calmB at hcalm
      simp only [Bool.and_eq_true, beq_iff_eq] at hcalm
      simpa using hcalm.1.1.2
    have hops : ops = ops.toList.toArray := by simp
    have hshp0 : Shp tr β H2 { w with drawn := w.drawn + 1 } := fun k b _ hb hcl => by
      obtain ⟨_, ⟨cs, f2, f3⟩, _⟩ := blk_cl hW hb hcl
      refine ⟨cs, f2, ?_⟩
      have := RL.length f3
      simpa using this
    rw [hops]
    refine wp_region_calm (P := P) (G := Gh) (D := fun w' => Near (lvB β H2 tr) { w with drawn := w.drawn + 1 } w' ∧ Below w0.heap.size w0 w' ∧ Shp tr β H2 w') (C := fun g w' => Cls G w0 Z0 tr β H2 { w with drawn := w.drawn + 1 } g w') flags ⟨Z, β, H2, F, a⟩ hmix (by rw [← hops]; exact hcalm) (fun g w' hc => ⟨hc.near, hc.rw.below, hc.shape⟩) (fun g w1 w2 hc hb => hc.keep hb)
      ⟨hW, hF, Near.refl _ _, Nat.le_refl _, fun _ _ => rfl, fun k k1 k2 => absurd k2 (Nat.not_lt.2 k1), EvL.refl _⟩ ?_
    rw [← hops]
    have hlm : (maskGo tr 0 H2).length = H2.length := maskGo_length tr H2 0
    have hDm : ∀ w', (Near (lvB β H2 tr) { w with drawn := w.drawn + 1 } w' ∧ Below w0.heap.size w0 w' ∧ Shp tr β H2 w') → RW G w0 Z0 Z β (maskGo tr 0 H2) w' ∧ ∀ b, (Z b ∨ ∃ k bk, (maskGo tr 0 H2)[k]? = some bk ∧ live β k bk ∧ tr.contains k = false ∧ b = (β k).b) → w'.heap[b]? = ({ w with drawn := w.drawn + 1 } : World).heap[b]? := fun w' ⟨d1, d2, d3⟩ => by
      refine ⟨hW.mask d1 d2 d3, fun b hb => ?_⟩
      rcases hb with hb | ⟨k, bk, hk1, hk2, hk3, rfl⟩
      · exact d1.block b (hW.zlt b hb) (hW.lvB_not hb)
      · have hkt : k ∉ tr := by simpa using hk3
        rw [maskGo_get] at hk1
        cases hH : H2[k]? with
        | none => simp [hH] at hk1
        | some b0 =>
          simp only [hH, Option.map_some, Option.some.injEq, Nat.zero_add] at hk1
          rw [if_neg (by simpa using hkt)] at hk1
          subst hk1
          exact d1.block _ (hW.lt hH hk2) (hW.lvB_other hH hk2 hkt)
    refine p1_sound (H := H2) (HH := H2) (F' := F2) hΓ hlm (hW.mask (Near.refl _ _) hW.below hshp0) hDm (fun a1 hF1 => ?_) flags ops.toList F a hflen hF g1
    have hF1' := g3 _ _ _ _ _ hF1
    refine wpP2_sub (Q' := fun a' w' => Q .normal a' w') (g1 := ⟨Z, β, H2, F1, a1⟩) (fun w' hc => ?_) flags ops.toList a1 ?_
    · refine ⟨hc.rw, ?_, hc.near, hc.len, hc.old, hc.new, hc.shp⟩
      exact hF1'.mono (Nat.le_refl _) (fun _ _ => rfl) (fun _ h => h) (fun b hz => hc.near.block b (hW.zlt b hz) (hW.lvB_not hz))
    · exact p2_sound (H := H2) (F' := F') (H' := H') hΓ (fun g e1 e2 w' hc => hQ g.Z g.β g.a w' (by rw [← e2]; exact hc.rw) (by rw [← e1, ← e2]; exact hc.rf)) flags ops.toList ⟨Z, β, H2, F1, a1⟩ hflen h2
  · split at h
    · rename_i hc
      simp only [Bool.and_eq_true] at hc
      obtain ⟨⟨hcalm, hmix⟩, htr0⟩ := hc
      unfold floatx at hcalm
      simp only [Bool.and_eq_true] at hcalm
      obtain ⟨hcalm, hord⟩ := hcalm
      generalize hfl : flagsGo P [] ops.toList = flags at h hcalm hord
      generalize htrd : tracked ops.toList F = tr at h htr0
      have htr : ∀ k ∈ tr, k < H.length := fun k hk => by simpa using List.all_eq_true.1 htr0 k hk
      obtain ⟨⟨F1, H1⟩, h1, h2⟩ := T.bind_all h
      have hk := p1x_keeps (P := P) (G := G) (Γ := Γ) (H := H) (tr := tr) (Hm := maskGo tr 0 H) (F0 := F) flags ops.toList F (fun _ h => h) ⟨rfl, fun _ _ => rfl⟩
      obtain ⟨⟨F2, H2⟩, g1, g2, g3⟩ := mergeT_sound hk h1
      have hH2 : H2 = H := (T.lv_all hk g1).2.2
      subst hH2
      have hbd : Below w.heap.size w { w with drawn := w.drawn + 1 } := ⟨rfl, rfl, rfl, Nat.le_refl _, fun _ _ => rfl⟩
      have hW := hW0.same hbd
      have hF : RF β Z { w with drawn := w.drawn + 1 } H2.length F a := hF0.mono (Nat.le_refl _) (fun _ _ => rfl) (fun _ h => h) (fun _ _ => rfl)
      have hflen : flags.length = ops.toList.length := by
        unfold floatB at hcalm
        simp only [Bool.and_eq_true, beq_iff_eq] at hcalm
        simpa using hcalm.1.1.2
      have hops : ops = ops.toList.toArray := by simp
      have hshp0 : Shp tr β H2 { w with drawn := w.drawn + 1 } := fun k b _ hb hcl => by
        obtain ⟨_, ⟨cs, f2, f3⟩, _⟩ := blk_cl hW hb hcl
        refine ⟨cs, f2, ?_⟩
        have := RL.length f3
        simpa using this
      rw [hops]
      refine wp_region_float (P := P) (G := Gh) (D := fun w' => Near (lvB β H2 tr) { w with drawn := w.drawn + 1 } w' ∧ Below w0.heap.size w0 w' ∧ Shp tr β H2 w') (C := fun g w' => Cls G w0 Z0 tr β H2 { w with drawn := w.drawn + 1 } g w') flags ⟨Z, β, H2, F, a⟩ hmix (by rw [← hops]; exact hcalm) (fun g w' hc => ⟨hc.near, hc.rw.below, hc.shape⟩) (fun g w1 w2 hc hb => hc.keep hb)
        ⟨hW, hF, Near.refl _ _, Nat.le_refl _, fun _ _ => rfl, fun k k1 k2 => absurd k2 (Nat.not_lt.2 k1), EvL.refl _⟩ ?_
      rw [← hops]
      have hlm : (maskGo tr 0 H2).length = H2.length := maskGo_length tr H2 0
      have hDm : ∀ w', (Near (lvB β H2 tr) { w with drawn := w.drawn + 1 } w' ∧ Below w0.heap.size w0 w' ∧ Shp tr β H2 w') → RW G w0 Z0 Z β (maskGo tr 0 H2) w' ∧ ∀ b, (Z b ∨ ∃ k bk, (maskGo tr 0 H2)[k]? = some bk ∧ live β k bk ∧ tr.contains k = false ∧ b = (β k).b) → w'.heap[b]? = ({ w with drawn := w.drawn + 1 } : World).heap[b]? := fun w' ⟨d1, d2, d3⟩ => by
        refine ⟨hW.mask d1 d2 d3, fun b hb => ?_⟩
        rcases hb with hb | ⟨k, bk, hk1, hk2, hk3, rfl⟩
        · exact d1.block b (hW.zlt b hb) (hW.lvB_not hb)
        · have hkt : k ∉ tr := by simpa using hk3
          rw [maskGo_get] at hk1
          cases hH : H2[k]? with
          | none => simp [hH] at hk1
          | some b0 =>
            simp only [hH, Option.map_some, Option.some.injEq, Nat.zero_add] at hk1
            rw [if_neg (by simpa using hkt)] at hk1
            subst hk1
            exact d1.block _ (hW.lt hH hk2) (hW.lvB_other hH hk2 hkt)
      refine p1_sound (H := H2) (HH := H2) (F' := F2) hΓ hlm (hW.mask (Near.refl _ _) hW.below hshp0) hDm (fun a1 hF1 => ?_) flags ops.toList F a hflen hF g1
      have hF1' := g3 _ _ _ _ _ hF1
      refine wpAnyG_sub (Q' := fun a' w' => Q .normal a' w') (g1 := ⟨Z, β, H2, F1, a1⟩) (fun w' hc => ?_) _ _ a1 ?_
      · refine ⟨hc.rw, ?_, hc.near, hc.len, hc.old, hc.new, hc.shp⟩
        exact hF1'.mono (Nat.le_refl _) (fun _ _ => rfl) (fun _ h => h) (fun b hz => hc.near.block b (hW.zlt b hz) (hW.lvB_not hz))
      · exact float_sound (H := H2) (F' := F') (H' := H') hΓ (fun g e1 e2 w' hc => hQ g.Z g.β g.a w' (by rw [← e2]; exact hc.rw) (by rw [← e1, ← e2]; exact hc.rf)) _ (idxs true flags 0) _ ⟨Z, β, H2, F1, a1⟩ (fun i hi => by
          obtain ⟨_, h⟩ := idxs_mem true flags 0 i hi
          simp only [Nat.sub_zero] at h
          simp [List.getD, h]) hord h2
    · cases h
end Go.Sx
