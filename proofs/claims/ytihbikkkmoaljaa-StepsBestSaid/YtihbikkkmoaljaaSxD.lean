/- The executor is right: one operation. -/
import Derived.Test.YtihbikkkmoaljaaSxV
namespace Go.Sx
open Go Go.RowKit Go.Proofs.Ytihbikkkmoaljaa
variable {P : Program} {G : Globs} {Γ : Specs} {β : Nat → Loc} {Z : Nat → Prop} {Z0 : Gz} {w w0 : World} {F : List LV} {H : List Blk} {a : Act} {ds : List Deferred}
abbrev β0 : Nat → Loc := fun _ => ⟨0, 0, none⟩
def Valid (P : Program) (G : Globs) (f : FuncId) (S : List LV → T LV) : Prop :=
 ∀ (args : List LV) (vals : Array Value) (w : World) (Z : Nat → Prop) (lv : LV), (∀ b, Z b → b < w.heap.size) → GlOk G Z w → okL 0 args → RL β0 Z w args vals.toList → (S args).all (fun x => x = lv) →
  Calls P f vals w fun e w' => Below w.heap.size w w' ∧ ∃ v, e = .returned v ∧ okV 0 lv ∧ R β0 (fun b => Z b ∨ (w.heap.size ≤ b ∧ b < w'.heap.size)) w' lv v
mutual
theorem noOwn_ok {n : Nat} : ∀ (x : LV), noOwn x = true → okV n x → okV 0 x
 | .v _, _, _ => trivial
 | .bl _, _, _ => trivial
 | .ki _ _, _, _ => trivial
 | .own _ _, h, _ => by simp [noOwn] at h
 | .agg l, h, hk => by simp only [okV, noOwn] at *; exact noOwnL_ok l h hk
 | .tup l, h, hk => by simp only [okV, noOwn] at *; exact noOwnL_ok l h hk
 | .fn _ l, h, hk => by simp only [okV, noOwn] at *; exact noOwnL_ok l h hk
 | .xq _ _, _, hk => by simpa only [okV] using hk
 | .os .., h, _ => by simp [noOwn] at h
 | .op .., h, _ => by simp [noOwn] at h
 | .om _, h, _ => by simp [noOwn] at h
 | .mp _ _ l, h, hk => by simp only [okV, noOwn] at *; exact noOwnL_ok l h hk
 | .xl _ _, _, _ => trivial
 | .junk, _, _ => trivial
theorem noOwnL_ok {n : Nat} : ∀ (x : List LV), noOwnL x = true → okL n x → okL 0 x
 | [], _, _ => trivial
 | x :: xs, h, hk => by
  simp only [okL, noOwnL, Bool.and_eq_true] at *
  exact ⟨noOwn_ok x h.1 hk.1, noOwnL_ok xs h.2 hk.2⟩
end
theorem onlyPl_all {t : T LV} {lv : LV} (h : (onlyPl t).all (fun x => x = lv)) : t.all (fun x => x = lv) ∧ isPl lv = true := by
 induction t with
 | ok x =>
  simp only [onlyPl] at h
  split at h
  ·rename_i hp; simp only [T.all] at h ⊢; subst h; exact ⟨rfl, hp⟩
  ·cases h
 | br b t e iht ihe =>
  simp only [onlyPl, T.all] at h ⊢
  cases b with
  | true => obtain ⟨h1, h2⟩ := iht (h.1 rfl); exact ⟨⟨fun _ => h1, fun hb => by cases hb⟩, h2⟩
  | false => obtain ⟨h1, h2⟩ := ihe (h.2 rfl); exact ⟨⟨fun hb => (by cases hb), fun _ => h1⟩, h2⟩
 | req p t ih =>
  simp only [onlyPl, T.all] at h ⊢
  obtain ⟨h1, h2⟩ := ih h.2
  exact ⟨⟨h.1, h1⟩, h2⟩
 | no => cases h
/-! ### the single operations -/
noncomputable def touchB (G : Globs) (F : List LV) (β : Nat → Loc) (H : List Blk) (o : Oper) : List Nat := lvB β H (wrt G F o)
def Post (ds : List Deferred) (G : Globs) (w0 : World) (Z0 : Gz) (F : List LV) (a : Act) (β : Nat → Loc) (H : List Blk) (w : World) (o : Oper) (lv : LV) (H' : List Blk) (v : Value) (w' : World) : Prop :=
 ∃ Z' β', RW G w0 Z0 Z' β' H' w' ∧ RF ds β' Z' w' H'.length F a ∧ R β' Z' w' lv v ∧ okV H'.length lv ∧
  H.length ≤ H'.length ∧ (∀ k, k < H.length → β' k = β k) ∧ (∀ k, H.length ≤ k → k < H'.length → w.heap.size ≤ (β' k).b ∨ (β' k).b ∈ touchB G F β H o) ∧ Near (touchB G F β H o) w w'
theorem near_of_below {tr : List Nat} {w w' : World} (h : Below w.heap.size w w') : Near tr w w' := ⟨h.os, h.tape, h.output, h.size, fun k hk _ => h.block k hk⟩
theorem post_value {o : Oper} {lv : LV} {v : Value} (hW : RW G w0 Z0 Z β H w) (hF : RF ds β Z w H.length F a) (hrun : (execOp a.eval o).run P w = .ok (.value v) w) (hr : R β Z w lv v) (hk : okV H.length lv) :
  actUpon P (Post ds G w0 Z0 F a β H w o lv H) ((execOp a.eval o).run P w) := by
 rw [hrun]; exact ⟨Z, β, hW, hF, hr, hk, Nat.le_refl _, fun _ _ => rfl, fun k h1 h2 => by omega, Near.refl _ _⟩
theorem run_of_pure {α : Type} {s : Sem α} {x : α} (h : pureRun P s = some x) : ∀ w', s.run P w' = .ok x w' := fun w' => pureRun_run w' h
mutual
theorem eqV_run : ∀ (d : Nat) (t : TypeId) (x y : Value) (b : Bool), eqV P d t x y = some b → ∀ (e : Nat) (w : World), (Go.Op.equalIn (d + e) t x y).run P w = .ok b w
 | 0, _, _, _, _, h => by simp [eqV] at h
 | d + 1, t, x, y, b, h => fun e w => by
  rw [Nat.add_right_comm]
  simp only [eqV] at h
  split at h
  ·rename_i k0 k a k' c hu
   split at h
   ·rename_i hk
    subst hk
    simp only [Option.some.injEq] at h
    subst h
    exact run_equalIn_int w _ t k k0 a c hu
   ·cases h
  ·rename_i a c hu
   simp only [Option.some.injEq] at h
   subst h
   exact run_equalIn_bool w _ t a c hu
  ·rename_i a c hu
   simp only [Option.some.injEq] at h
   subst h
   rw [run_equalIn_string w _ t a c hu, beq_toListBytes]
  ·rename_i fs xs ys hu
   split at h
   ·cases h
   ·rename_i hs
    have hf : P.fieldsOf t = fs := by simp [Program.fieldsOf, hu]
    rw [run_equalIn_struct w _ t xs ys (by rw [hf]; exact hu) (by simpa using hs), hf]
    simp only [Option.map_eq_some_iff] at h
    obtain ⟨l, h1, h2⟩ := h
    rw [← h2]
    exact eqFs_run d xs ys fs.toList l h1 e w
  ·cases h
theorem eqFs_run : ∀ (d : Nat) (xs ys : Array Value) (fs : List Field) (l : List Bool), eqFs P d xs ys fs = some l → ∀ (e : Nat) (w : World), (Go.Op.eqFields (d + e) xs ys fs).run P w = .ok (andL l) w
 | d, xs, ys, [], l, h => fun e w => by
  have : l = [] := by cases d <;> simpa [eqFs] using h.symm
  subst this
  simp [Go.Op.eqFields, andL]
 | 0, xs, ys, f :: fs, l, h => by simp [eqFs] at h
 | d + 1, xs, ys, f :: fs, l, h => fun e w => by
  simp only [eqFs] at h
  split at h
  ·cases h
  ·rename_i hn
   split at h
   ·rename_i x y hx hy
    split at h
    ·rename_i p ps hp hps
     simp only [Option.some.injEq] at h
     subst h
     have e1 := run_of_pure hx w
     have e2 := run_of_pure hy w
     have e3 := eqV_run d f.type x y p hp (1 + e) w
     have e4 := eqFs_run d xs ys fs ps hps (1 + e) w
     rw [← Nat.add_assoc] at e3 e4
     simp only [Go.Op.eqFields, hn, ne_eq, not_false_eq_true, if_true, Sem.run_bind, e1, e2, e3, Result.andThen_ok, Sem.run_ite, Sem.run_pure, e4]
     cases p with
     | false => cases ps <;> simp [andL]
     | true => cases ps <;> simp [andL]
    ·cases h
   ·cases h
end
theorem eqArm_run {o : Oper} {e : Operand → Value} {y : Value} (h : eqArm P o.op e = some (some y)) (w : World) : (execOp e o).run P w = .ok (.value y) w := by
 unfold eqArm at h
 split at h
 ·rename_i op t x z t' ho
  split at h
  ·rename_i neg hneg
   split at h
   ·rename_i xs ys hx hy
    simp only [Option.some.injEq] at h
    split at h
    ·rename_i g1 b g2 g3
     have e1 := run_of_pure g2 w
     have e2 := eqV_run 100 t _ _ b g3 9900 w
     simp only [Option.some.injEq] at h
     unfold isEqOp at hneg
     split at hneg
     ·simp only [Option.some.injEq] at hneg
      subst hneg h
      simp [execOp, ho, hx, hy, e1, run_eql_struct, e2]
     ·simp only [Option.some.injEq] at hneg
      subst hneg h
      simp [execOp, ho, hx, hy, e1, run_neq_struct, e2]
     ·cases hneg
    ·cases h
   ·cases h
  ·cases h
 ·cases h
theorem genV_run {o : Oper} {e : Operand → Value} {y : Value} (h : genV P o e = some y) (w : World) : (execOp e o).run P w = .ok (.value y) w := by
 unfold genV at h
 split at h
 ·rename_i r hr
  subst h
  exact eqArm_run hr w
 ·split at h
  ·rename_i z hz
   simp only [Option.some.injEq] at h
   subst h
   exact pureRun_run w hz
  ·cases h
theorem kn_R (y : Value) : R β Z w (kn y) y := by cases y <;> simp only [kn, R]
theorem kn_ok {n : Nat} (y : Value) : okV n (kn y) := by cases y <;> trivial
theorem genL_sound {o : Oper} {lv : LV} (hsel : ∀ cs b, o.op ≠ .select cs b) (hW : RW G w0 Z0 Z β H w) (hF : RF ds β Z w H.length F a) (h : (genL P G F o).all (fun x => x = lv)) :
  actUpon P (Post ds G w0 Z0 F a β H w o lv H) ((execOp a.eval o).run P w) := by
 unfold genL at h
 split at h
 ·rename_i hpl
  split at h
  ·rename_i y hy
   simp only [T.all] at h
   have hcong : execOp a.eval o = execOp (fun x => (pl (evalL G F x)).getD undef) o := execOp_congr o hsel fun x hx => by
    have h1 := List.all_eq_true.1 hpl x (by simpa using hx)
    obtain ⟨z, hz⟩ := Option.isSome_iff_exists.1 h1
    rw [hz]; exact pl_R hz (hF.eval hW.glob x).1
   refine post_value hW hF (v := y) ?_ ?_ ?_
   ·rw [hcong]; exact genV_run hy w
   ·rw [← h]
    split
    ·exact kn_R y
    ·simp only [R]
   ·rw [← h]
    split
    ·exact kn_ok y
    ·trivial
  ·cases h
 ·cases h
theorem run_v {s : Sem Value} {v : Value} {w w' : World} (h : s.run P w = .ok v w') : (do pure (Next.value (← s)) : Sem Next).run P w = .ok (.value v) w' := by
 simp [h]
theorem pickL_sound {c x y lv : LV} {vc vx vy : Value} {n : Nat} (h : (pickL c x y).all (fun z => z = lv)) (hc : R β Z w c vc) (hx : R β Z w x vx) (hy : R β Z w y vy) (kx : okV n x) (ky : okV n y) :
  ∃ g, vc = .bool g ∧ R β Z w lv (if g then vx else vy) ∧ okV n lv := by
 unfold pickL at h
 split at h
 ·simp only [T.all] at h; subst h; exact ⟨true, hc, hx, kx⟩
 ·simp only [T.all] at h; subst h; exact ⟨false, hc, hy, ky⟩
 ·rename_i g
  simp only [R] at hc
  refine ⟨g, hc, ?_⟩
  have hx' := norm_R hx
  have hy' := norm_R hy
  split at h
  ·rename_i h1 h2
   split at h
   ·rename_i hk; simp only [T.all] at h; subst h hk; rw [h1] at hx'; rw [h2] at hy'; simp only [R] at hx' hy' ⊢; subst hx' hy'; exact ⟨by cases g <;> rfl, trivial⟩
   ·cases h
  ·rename_i h1 h2
   simp only [T.all] at h; subst h; rw [h1] at hx'; rw [h2] at hy'; simp only [R] at hx' hy' ⊢; subst hx' hy'; exact ⟨by cases g <;> rfl, trivial⟩
  ·simp only [T.all] at h
   cases g with
   | true => have := h.1 rfl; subst this; exact ⟨hx, kx⟩
   | false => have := h.2 rfl; subst this; exact ⟨hy, ky⟩
 ·cases h
theorem fldL_sound {t : TypeId} {l : List LV} {lv : LV} {ys : Array Value} {i n : Nat} (h : (fldL P t l i).all (fun z => z = lv)) (hr : RL β Z w l ys.toList) (hk : okL n l) :
  ∃ z, (∀ w', (Instr.field t (.agg ys) i).run P w' = .ok z w') ∧ R β Z w lv z ∧ okV n lv := by
 unfold fldL at h
 split at h
 ·rename_i fs hu
  split at h
  ·rename_i f hf
   split at h
   ·rename_i m ha hs
    split at h
    ·simp only [T.all] at h
     subst h
     refine ⟨.agg (ys.extract f.offset (f.offset + m)), fun w' => ?_, mkAgg_R ?_, mkAgg_ok (hk.take_drop _ _)⟩
     ·simp [Instr.field, run_underlying hu, hf, asAgg, part, run_isAgg ha, run_sizeOf hs]
     ·have := hr.take_drop f.offset m
      rw [Array.toList_extract, List.extract_eq_take_drop]
      simpa using this
    ·cases h
   ·rename_i ha
    split at h
    ·rename_i y hy
     simp only [T.all] at h
     subst h
     obtain ⟨z, e4, e5⟩ := RL.get _ _ hr hy
     have e6 : ys[f.offset]? = some z := by simpa using e4
     refine ⟨z, fun w' => ?_, e5, okL.get _ _ hk hy⟩
     simp [Instr.field, run_underlying hu, hf, asAgg, part, run_isAgg ha, e6]
    ·cases h
   ·cases h
  ·cases h
 ·cases h
theorem fieldL_sound {s : TypeId} {x lv : LV} {y : Value} {i n : Nat} (h : (fieldL P s x i).all (fun z => z = lv)) (hr : R β Z w x y) (hk : okV n x) :
  ∃ z, (∀ w', (Instr.fieldAt s y i).run P w' = .ok z w') ∧ R β Z w lv z ∧ okV n lv := by
 unfold fieldL at h
 split at h
 ·rename_i fs hu
  split at h
  ·rename_i f hf
   split at h
   ·rename_i m hsz
    have e1 := fun w => run_sizeOf hsz w
    split at h
    ·rename_i k off
     simp only [T.all] at h
     simp only [R] at hr
     refine ⟨.pointer (some ⟨(β k).b, off + f.offset, none⟩), fun w' => ?_, ?_, ?_⟩
     ·simp [Instr.fieldAt, run_underlying hu, hf, Instr.sureAddr, hr, fieldPlace, e1, addr_add]
     ·rw [← h]; simp only [R]
     ·rw [← h]; simpa only [okV] using hk
    ·rename_i k es i' j
     simp only [T.all] at h
     simp only [R] at hr
     obtain ⟨hcap, hr⟩ := hr
     refine ⟨.pointer (some ⟨(β k).b, (β k).o + i' * es + (j + f.offset), none⟩), fun w' => ?_, ?_, ?_⟩
     ·simp [Instr.fieldAt, run_underlying hu, hf, Instr.sureAddr, hr, fieldPlace, e1, addr_add, Nat.add_assoc]
     ·rw [← h]; simp only [R]; exact ⟨hcap, trivial⟩
     ·rw [← h]; simpa only [okV] using hk
    ·rename_i q g
     split at h
     ·rename_i hle
      simp only [T.all] at h
      simp only [R] at hr
      obtain ⟨b, off, h1, h2, h3⟩ := hr
      refine ⟨.pointer (some ⟨b, off + f.offset, none⟩), fun w' => ?_, ?_, ?_⟩
      ·simp [Instr.fieldAt, run_underlying hu, hf, Instr.sureAddr, h1, fieldPlace, e1, addr_add]
      ·rw [← h]
       simp only [R]
       refine ⟨b, off + f.offset, rfl, h2, fun j hj => ?_⟩
       have := h3 (f.offset + j) (by omega)
       rwa [← Nat.add_assoc] at this
      ·rw [← h]; simp only [okV] at hk ⊢; exact fun j => hk _
     ·cases h
    ·cases h
   ·cases h
  ·cases h
 ·cases h
theorem chain_sound {n : Int} {g : Nat → LV} {lv : LV} : ∀ (m j : Nat), (chain n g m j).all (fun z => z = lv) → ∃ i, j ≤ i ∧ i < j + m ∧ n = (i : Int) ∧ lv = g i
 | 0, j, h => by cases h
 | m + 1, j, h => by
  simp only [chain, T.all] at h
  by_cases hn : n = (j : Int)
  ·have := h.1 (by simpa using hn); exact ⟨j, Nat.le_refl _, by omega, hn, this.symm⟩
  ·obtain ⟨i, h1, h2, h3, h4⟩ := chain_sound m (j + 1) (h.2 (by simpa using hn))
   exact ⟨i, by omega, by omega, h3, h4⟩
theorem indexL_sound {t : TypeId} {x q lv : LV} {y z : Value} {c : Bool} {N : Nat} (h : (indexL P t x c q).all (fun r => r = lv)) (hr : R β Z w x y) (hq : R β Z w q z) (hk : okV N x) :
  ∃ v, (∀ w', (Instr.indexAt t y z).run P w' = .ok v w') ∧ R β Z w lv v ∧ okV N lv := by
 unfold indexL at h
 simp only [addN_eq] at h
 split at h
 ·rename_i kd n hpl
  have hz := pl_R hpl hq
  split at h
  ·rename_i len e hu
   split at h
   ·rename_i m hsz
    have e1 := fun w => run_sizeOf hsz w
    have fin : ∀ (b off i : Nat), i < len → n = (i : Int) → y = .pointer (some ⟨b, off, none⟩) → ∀ w', (Instr.indexAt t y z).run P w' = .ok (.pointer (some ⟨b, off + i * (m + 1), none⟩)) w' := fun b off i hi hn hy w' => by
     have h0 : (0 : Int) ≤ n := by omega
     have h1 : n < (len : Int) := by omega
     have h2 : n.toNat = i := by omega
     simp [Instr.indexAt, hz, asIntOf, run_underlying hu, hy, Instr.sureAddr, h0, h1, e1, addr_add, h2]
    have own : ∀ (k off i : Nat), i < len → n = (i : Int) → R β Z w (.own k off) y → okV N (.own k off) → lv = .own k (off + i * (m + 1)) → ∃ v, (∀ w', (Instr.indexAt t y z).run P w' = .ok v w') ∧ R β Z w lv v ∧ okV N lv := fun k off i hi hn hr hk hl => by
     simp only [R] at hr
     refine ⟨_, fin _ _ i hi hn hr, ?_, ?_⟩
     ·rw [hl]; simp only [R]
     ·rw [hl]; simpa only [okV] using hk
    have opp : ∀ (k es i' j i : Nat), i < len → n = (i : Int) → R β Z w (.op k es i' j) y → okV N (.op k es i' j) → lv = .op k es i' (j + i * (m + 1)) → ∃ v, (∀ w', (Instr.indexAt t y z).run P w' = .ok v w') ∧ R β Z w lv v ∧ okV N lv := fun k es i' j i hi hn hr hk hl => by
     simp only [R] at hr
     refine ⟨_, fin _ _ i hi hn hr.2, ?_, ?_⟩
     ·rw [hl]; simp only [R, Nat.add_assoc]; exact ⟨hr.1, trivial⟩
     ·rw [hl]; simpa only [okV] using hk
    have ext : ∀ (q : Nat) (g : Nat → LV) (i : Nat), i < len → len * (m + 1) ≤ q → n = (i : Int) → R β Z w (.xq q g) y → okV N (.xq q g) → lv = .xq (m + 1) (fun j => g (i * (m + 1) + j)) → ∃ v, (∀ w', (Instr.indexAt t y z).run P w' = .ok v w') ∧ R β Z w lv v ∧ okV N lv := fun q g i hi hle hn hr hk hl => by
     simp only [R] at hr
     obtain ⟨b, off, h1, h2, h3⟩ := hr
     refine ⟨_, fin _ _ i hi hn h1, ?_, ?_⟩
     ·rw [hl]
      simp only [R]
      refine ⟨b, _, rfl, h2, fun j hj => ?_⟩
      have hm : i * (m + 1) + (m + 1) ≤ len * (m + 1) := by
       have := Nat.mul_le_mul_right (m + 1) (show i + 1 ≤ len by omega)
       rwa [Nat.add_mul, Nat.one_mul] at this
      have := h3 (i * (m + 1) + j) (by omega)
      rwa [← Nat.add_assoc] at this
     ·rw [hl]; simp only [okV] at hk ⊢; exact fun j => hk _
    split at h
    ·rename_i k es i' j
     split at h
     ·split at h
      ·rename_i hb
       simp only [T.all] at h
       exact opp k es i' j n.toNat (by omega) (by omega) hr hk h.symm
      ·cases h
     ·obtain ⟨i, _, h2, h3, h4⟩ := chain_sound _ _ h
      exact opp k es i' j i (by omega) h3 hr hk h4
    ·rename_i k off
     split at h
     ·split at h
      ·rename_i hb
       simp only [T.all] at h
       exact own k off n.toNat (by omega) (by omega) hr hk h.symm
      ·cases h
     ·obtain ⟨i, _, h2, h3, h4⟩ := chain_sound _ _ h
      exact own k off i (by omega) h3 hr hk h4
    ·rename_i q g
     split at h
     ·rename_i hle
      split at h
      ·split at h
       ·rename_i hb
        simp only [T.all] at h
        exact ext q g n.toNat (by omega) hle (by omega) hr hk h.symm
       ·cases h
      ·simp only [T.all] at h
       obtain ⟨⟨b1, b2⟩, h⟩ := h
       exact ext q g n.toNat (by omega) hle (by omega) hr hk h.symm
     ·cases h
    ·cases h
   ·cases h
  ·rename_i e hu
   split at h
   ·rename_i m e' l hsz
    split at h
    ·rename_i hes
     simp only [T.all] at h
     obtain ⟨⟨h0, h1⟩, h2⟩ := h
     simp only [R] at hr
     obtain ⟨ad, cap, g1, gc, g2⟩ := hr
     obtain ⟨b, off, g3, g4, g5⟩ := g2 (by omega)
     have e1 := fun w => run_sizeOf hsz w
     have hlt : n.toNat < List.length l := by omega
     have hgx : l[n.toNat]? = some (gx l n) := by simp only [gx, List.getD, List.getElem?_eq_getElem hlt, Option.getD_some]
     have g6 := g5 n.toNat _ hgx
     refine ⟨.pointer (some ⟨b, off + n.toNat * (m + 1), none⟩), fun w' => ?_, ?_, ?_⟩
     ·simp [Instr.indexAt, hz, asIntOf, run_underlying hu, g1, g3, h0, h1, e1, addr_add]
     ·rw [← h2]
      simp only [R]
      refine ⟨b, _, rfl, g4, fun j hj => ?_⟩
      rw [hes] at g6
      have hjl : j < (encL e' (gx l n)).length := by rw [encL_length]; omega
      exact encL_R e' _ b _ g6 j _ (getD_lt hjl)
     ·rw [← h2]
      simp only [okV]
      exact fun j => getD_ok (encL_ok 0 e' _) j
    ·cases h
   ·rename_i m k es off len hsz
    split at h
    ·rename_i hes
     simp only [T.all] at h
     obtain ⟨⟨h0, h1⟩, h2⟩ := h
     have e1 := fun w => run_sizeOf hsz w
     simp only [R] at hr
     split at hr
     ·obtain ⟨rfl, _, _⟩ := hr
      exact absurd h1 (by simp; omega)
     ·rename_i c hcap
      obtain ⟨g1, ad, g2, g3⟩ := hr
      have g3 := g3 (by omega)
      refine ⟨.pointer (some ⟨(β k).b, (β k).o + (off + n.toNat) * es + 0, none⟩), fun w' => ?_, ?_, ?_⟩
      ·simp [Instr.indexAt, hz, asIntOf, run_underlying hu, g2, g3, h0, h1, e1, addr_add, hes, Nat.add_mul, Nat.add_assoc]
      ·rw [← h2]; simp only [R]; exact ⟨by rw [hcap]; simp, trivial⟩
      ·rw [← h2]; simpa only [okV] using hk
    ·cases h
   ·rename_i m k es off len cp hsz
    split at h
    ·rename_i hes
     have e1 := fun w => run_sizeOf hsz w
     have own : ∀ (i : Nat), i < len → n = (i : Int) → lv = .own k ((off + i) * (m + 1)) → ∃ v, (∀ w', (Instr.indexAt t y z).run P w' = .ok v w') ∧ R β Z w lv v ∧ okV N lv := fun i hi hn hl => by
      simp only [R] at hr
      obtain ⟨g1, ad, g2, g3⟩ := hr
      have g3 := g3 (by omega)
      have h0 : (0 : Int) ≤ n := by omega
      have h1 : n < (len : Int) := by omega
      have h2 : n.toNat = i := by omega
      refine ⟨.pointer (some ⟨(β k).b, (off + i) * (m + 1), none⟩), fun w' => ?_, ?_, ?_⟩
      ·simp [Instr.indexAt, hz, asIntOf, run_underlying hu, g2, g3, h0, h1, e1, addr_add, hes, Nat.add_mul, h2]
      ·rw [hl]; simp only [R]
      ·rw [hl]; simpa only [okV] using hk
     split at h
     ·split at h
      ·rename_i hb
       simp only [T.all] at h
       exact own n.toNat (by omega) (by omega) h.symm
      ·cases h
     ·obtain ⟨i, _, h2, h3, h4⟩ := chain_sound _ _ h
      exact own i (by omega) h3 h4
    ·cases h
   ·cases h
  ·cases h
 ·cases h
theorem fold_set (off : Nat) : ∀ (l : List Value) (s : Nat) (zs : Array Value) (i : Nat), off + s + l.length ≤ zs.size →
  ((l.zipIdx s).foldl (fun (cs : Array Value) p => cs.setIfInBounds (off + p.2) p.1) zs).size = zs.size ∧
  ((l.zipIdx s).foldl (fun (cs : Array Value) p => cs.setIfInBounds (off + p.2) p.1) zs)[i]? = if off + s ≤ i ∧ i < off + s + l.length then l[i - (off + s)]? else zs[i]?
 | [], s, zs, i, _ => by simp; intro h1 h2; omega
 | x :: xs, s, zs, i, h => by
  simp only [List.zipIdx_cons, List.foldl_cons]
  obtain ⟨h1, h2⟩ := fold_set off xs (s + 1) (zs.setIfInBounds (off + s) x) i (by simp at h ⊢; omega)
  refine ⟨by rw [h1]; simp, ?_⟩
  rw [h2]
  simp only [List.length_cons] at h ⊢
  by_cases hi : i = off + s
  ·subst hi
   rw [if_neg (by omega), if_pos (by omega), Array.getElem?_setIfInBounds, if_pos rfl, if_pos (by omega)]
   simp
  ·by_cases hr : off + (s + 1) ≤ i ∧ i < off + (s + 1) + xs.length
   ·rw [if_pos hr, if_pos (by omega)]
    have : i - (off + s) = (i - (off + (s + 1))) + 1 := by omega
    rw [this, List.getElem?_cons_succ]
   ·rw [if_neg hr, if_neg (by omega)]
    rw [Array.getElem?_setIfInBounds]
    rw [if_neg (by omega)]
theorem fold_setAt (off : Nat) (vs zs : Array Value) (h : off + vs.size ≤ zs.size) :
  (vs.zipIdx.foldl (fun (cs : Array Value) (p : Value × Nat) => cs.setIfInBounds (off + p.2) p.1) zs).toList = zs.toList.take off ++ vs.toList ++ zs.toList.drop (off + vs.toList.length) := by
 have e : vs.zipIdx.foldl (fun (cs : Array Value) (p : Value × Nat) => cs.setIfInBounds (off + p.2) p.1) zs = (vs.toList.zipIdx 0).foldl (fun (cs : Array Value) p => cs.setIfInBounds (off + p.2) p.1) zs := by
  rw [← Array.foldl_toList]; simp
 rw [e]
 apply List.ext_getElem?
 intro i
 have := (fold_set off vs.toList 0 zs i (by simpa using h)).2
 rw [Array.getElem?_toList, this]
 simp only [Nat.add_zero, Array.length_toList]
 by_cases h1 : i < off
 ·rw [if_neg (by omega), List.append_assoc, List.getElem?_append_left (by simp; omega), List.getElem?_take, if_pos h1]; simp
 ·by_cases h2 : i < off + vs.size
  ·rw [if_pos (by omega), List.append_assoc, List.getElem?_append_right (by simp; omega), List.getElem?_append_left (by simp; omega)]
   simp; congr 1; omega
  ·rw [if_neg (by omega), List.getElem?_append_right (by simp; omega), List.getElem?_drop]
   simp
   congr 1
   omega
theorem fillL_sound {place : Nat → Option (Nat × Nat)} {n : Nat} : ∀ (pl : List (Nat × LV)) (pv : List (Nat × Value)) (cells cs : List LV) (zs : Array Value), fillL place cells pl = some cs → pv.map (·.1) = pl.map (·.1) →
  RL β Z w (pl.map (·.2)) (pv.map (·.2)) → okL n (pl.map (·.2)) → RL β Z w cells zs.toList → okL n cells → ∃ zs', Instr.fill place zs pv = some zs' ∧ RL β Z w cs zs'.toList ∧ okL n cs
 | [], pv, cells, cs, zs, h, hp, hr, _, hc, hok => by
  simp only [fillL, Option.some.injEq] at h
  subst h
  have : pv = [] := by simpa using hp
  subst this
  exact ⟨zs, rfl, hc, hok⟩
 | (i, x) :: rest, pv, cells, cs, zs, h, hp, hr, hk, hc, hok => by
  cases pv with
  | nil => simp at hp
  | cons q qs =>
   obtain ⟨i', v⟩ := q
   simp only [List.map_cons, List.cons.injEq] at hp
   obtain ⟨rfl, hp'⟩ := hp
   simp only [List.map_cons, RL] at hr
   obtain ⟨y, ys, e1, e2, e3⟩ := hr
   simp only [List.cons.injEq] at e1
   obtain ⟨rfl, rfl⟩ := e1
   simp only [List.map_cons, okL] at hk
   simp only [fillL] at h
   split at h
   ·rename_i off size c hpl hcl
    split at h
    ·rename_i hle
     obtain ⟨c1, c2⟩ := cellsL_R hcl e2
     have c3 := cellsL_ok hcl hk.1
     have l1 := RL.length c1
     have l2 := RL.length hc
     have hsz : v.cells.size = size := by simp at l1; omega
     have hle2 : off + v.cells.size ≤ zs.size := by simp at l2; omega
     have hset := fold_setAt off v.cells zs hle2
     have hrl := RL.setAt hc c1 off
     rw [← hset] at hrl
     obtain ⟨zs', f1, f2, f3⟩ := fillL_sound rest qs _ cs _ h hp' e3 hk.2 hrl (okL.setAt hok c3 off)
     refine ⟨zs', ?_, f2, f3⟩
     simp only [Instr.fill, hpl]
     rw [if_neg (by simp [hsz]; omega)]
     exact f1
    ·cases h
   ·cases h
theorem buildL_sound {t : TypeId} {pl : List (Nat × LV)} {pv : Array (Nat × Value)} {lv : LV} {n : Nat} (h : (buildL P t pl).all (fun z => z = lv)) (hp : pv.toList.map (·.1) = pl.map (·.1)) (hr : RL β Z w (pl.map (·.2)) (pv.toList.map (·.2))) (hk : okL n (pl.map (·.2))) :
  ∃ v, (∀ w', (Instr.build t pv).run P w' = .ok v w') ∧ R β Z w lv v ∧ okV n lv := by
 unfold buildL at h
 split at h
 ·rename_i z pf hz hpf
  split at h
  ·rename_i cs hcs
   simp only [T.all] at h
   obtain ⟨zs', f1, f2, f3⟩ := fillL_sound (β := β) (Z := Z) (w := w) (n := n) pl pv.toList _ cs z.cells hcs hp hr hk (RL_v _) (okL_v _ _)
   refine ⟨.agg zs', fun w' => run_build w' t pv zs' ?_, ?_, ?_⟩
   ·unfold zeroT at hz
    unfold placeT at hpf
    unfold Program.built
    cases hi : P.info? t with
    | none => simp [hi] at hz
    | some it =>
     simp only [hi, Option.bind_some] at hz
     split at hpf
     ·rename_i fields hu
      cases hm : fields.toList.mapM (fun f => (P.info? f.type).map fun i => (f.offset, i.size)) with
      | none => simp [hm] at hpf
      | some ps =>
       simp only [hm, Option.map_some, Option.some.injEq] at hpf
       simp only [hu, hz, hm]
       rw [← hpf] at f1
       exact f1
     ·rename_i e hu
      cases hm : P.info? e with
      | none => simp [hm] at hpf
      | some ie =>
       simp only [hm, Option.map_some, Option.some.injEq] at hpf
       simp only [hu, hz, hm]
       rw [← hpf] at f1
       exact f1
     ·cases hpf
   ·rw [← h]
    split
    ·simp only [R]; exact ⟨zs', rfl, f2⟩
    ·exact mkAgg_R f2
   ·rw [← h]
    split
    ·exact f3
    ·exact mkAgg_ok f3
  ·cases h
 ·cases h
theorem evalN_R {x : Operand} {y : Value} {n : Nat} (h : R β Z w (evalL G F x) y ∧ okV n (evalL G F x)) : R β Z w (evalN G F x) y ∧ okV n (evalN G F x) := by
 cases x with
 | const v => exact ⟨norm_R h.1, norm_ok h.2⟩
 | tmp t => exact h
 | global g => exact h
 | func f => exact h
theorem decN_R (e : Ty) : ∀ (n : Nat) (cs : List LV) (l : List e.D) (ys : List Value), decN e n cs = some l → RL β Z w cs ys → List.length l = n ∧ ∀ (Z' : Nat → Prop) (w' : World) (b o : Nat), (∀ b, Z b → Z' b) → (∀ b, Z b → w'.heap[b]? = w.heap[b]?) → (∀ (j : Nat) v, ys[j]? = some v → w'.cell? ⟨b, o + j, none⟩ = some v) → ∀ (i : Nat) (d : e.D), l[i]? = some d → RD Z' w' e d b (o + i * e.n)
 | 0, cs, l, ys, h, hr => by
  simp only [decN, Option.some.injEq] at h
  subst h
  exact ⟨rfl, fun _ _ _ _ _ _ _ i d hd => by simp at hd⟩
 | n + 1, cs, l, ys, h, hr => by
  simp only [decN] at h
  split at h
  ·rename_i d r hd hr'
   simp only [Option.some.injEq] at h
   subst h
   have h1 : RL β Z w (cs.take e.n) (ys.take e.n) := by simpa using hr.take_drop 0 e.n
   have h2 : RL β Z w (cs.drop e.n) (ys.drop e.n) := by
    refine RL.of_get (by simp [RL.length hr]) fun i z hz => ?_
    rw [List.getElem?_drop] at hz ⊢
    exact RL.get _ _ hr hz
   obtain ⟨k1, k2⟩ := decN_R e n _ r _ hr' h2
   refine ⟨by simp [k1], fun Z' w' b o hZ hw hc i d' hd' => ?_⟩
   cases i with
   | zero =>
    simp at hd'
    subst hd'
    rw [Nat.zero_mul, Nat.add_zero]
    refine decL_R hZ hw e _ d _ hd h1 b o (fun j v hv => ?_)
    rw [List.getElem?_take] at hv
    split at hv
    ·exact hc j v hv
    ·cases hv
   | succ i =>
    simp at hd'
    have := k2 Z' w' b (o + e.n) hZ hw (fun j v hv => by
     rw [List.getElem?_drop] at hv
     have := hc (e.n + j) v hv
     rwa [← Nat.add_assoc] at this) i d' hd'
    rw [show o + (i + 1) * e.n = o + e.n + i * e.n by rw [Nat.add_mul, Nat.one_mul]; omega]
    exact this
  ·cases h
theorem litL_sound {t : TypeId} {len : Nat} {pl : List (Nat × LV)} {pv : Array (Nat × Value)} {lv : LV} {n : Nat} (h : (litL P t len pl).all (fun z => z = lv)) (hp : pv.toList.map (·.1) = pl.map (·.1)) (hr : RL β Z w (pl.map (·.2)) (pv.toList.map (·.2))) (hk : okL n (pl.map (·.2))) :
  ∃ elem cells, (∀ w', (Instr.buildSlice t len pv).run P w' = .ok (.slice (some ⟨w'.heap.size, 0, none⟩) len len) (w'.alloc (.cells cells elem))) ∧
   (∀ (β' : Nat → Loc) (Z' : Nat → Prop) (w' : World) (b : Nat), (∀ b, Z b → Z' b) → (∀ b, Z b → w'.heap[b]? = w.heap[b]?) → (∀ (j : Nat) v, cells.toList[j]? = some v → w'.cell? ⟨b, 0 + j, none⟩ = some v) → Z' b → R β' Z' w' lv (.slice (some ⟨b, 0, none⟩) len len)) ∧ okV n lv := by
 unfold litL at h
 split at h
 ·rename_i e hu
  split at h
  ·rename_i ty m z hty hsz hz
   split at h
   ·rename_i hcond
    obtain ⟨c1, c2, c3, c4⟩ := hcond
    split at h
    ·rename_i cs hcs
     split at h
     ·rename_i l hl
      simp only [T.all] at h
      have hz0 : RL β Z w ((List.range (len * m)).map (fun i => LV.v (z.cells[i % z.cells.size]!))) ((Array.range (len * m)).map (fun i => z.cells[i % z.cells.size]!)).toList := by
       have := RL_v (β := β) (Z := Z) (w := w) ((List.range (len * m)).map (fun i => z.cells[i % z.cells.size]!))
       simpa [List.map_map, Function.comp_def] using this
      have hok0 : okL n ((List.range (len * m)).map (fun i => LV.v (z.cells[i % z.cells.size]!))) := by
       have := okL_v n ((List.range (len * m)).map (fun i => z.cells[i % z.cells.size]!))
       simpa [List.map_map, Function.comp_def] using this
      obtain ⟨zs', f1, f2, f3⟩ := fillL_sound (β := β) (Z := Z) (w := w) (n := n) pl pv.toList _ cs _ hcs hp hr hk hz0 hok0
      obtain ⟨k1, k2⟩ := decN_R ty len cs l _ hl f2
      refine ⟨e, zs', fun w' => ?_, fun β' Z' w' b hZ hw hc hzb => ?_, by rw [← h]; trivial⟩
      ·have e1 := fun w => run_sizeOf hsz w
       have e2 := fun w => run_zero hz w
       have n1 : ¬ (len * m > 2 ^ 24) := by omega
       have n2 : ¬ (len * m = 0) := by omega
       simp only [Instr.buildSlice, Sem.run_bind, run_underlying hu, Result.andThen_ok, e1, if_neg n1, if_neg n2, e2, Sem.run_pure, f1, newRow]
       rfl
      ·rw [← h]
       simp only [R]
       refine ⟨_, len, by rw [k1], by omega, fun _ => ⟨b, 0, rfl, hzb, fun i d hd => ?_⟩⟩
       exact k2 Z' w' b 0 hZ hw hc i d hd
     ·cases h
    ·cases h
   ·cases h
  ·cases h
 ·cases h
theorem litC_sound {t : TypeId} {len : Nat} {pl : List (Nat × LV)} {pv : Array (Nat × Value)} {lv : LV} {H' : List Blk} (hW : RW G w0 Z0 Z β H w) (h : (litC P H t len pl).all (fun q => q = (lv, H'))) (hp : pv.toList.map (·.1) = pl.map (·.1)) (hr : RL β Z w (pl.map (·.2)) (pv.toList.map (·.2))) (hk : okL H.length (pl.map (·.2))) :
  ∃ w' v, (Instr.buildSlice t len pv).run P w = .ok v w' ∧ Below w.heap.size w w' ∧ ∃ β', (∀ k, k < H.length → β' k = β k) ∧ RW G w0 Z0 Z β' H' w' ∧ R β' Z w' lv v ∧ okV H'.length lv ∧ H'.length = H.length + 1 ∧ (β' H.length).b = w.heap.size := by
 unfold litC at h
 split at h
 ·rename_i e hu
  split at h
  ·rename_i m z hsz hz
   split at h
   ·rename_i hc
    obtain ⟨hzs, hm0, hm1⟩ := hc
    split at h
    ·rename_i cs hcs
     simp only [T.all, Prod.mk.injEq] at h
     obtain ⟨rfl, rfl⟩ := h
     have hz0 : RL β Z w ((List.range (len * m)).map (fun i => LV.v (z.cells[i % z.cells.size]!))) ((Array.range (len * m)).map (fun i => z.cells[i % z.cells.size]!)).toList := by
      have := RL_v (β := β) (Z := Z) (w := w) ((List.range (len * m)).map (fun i => z.cells[i % z.cells.size]!))
      simpa [List.map_map, Function.comp_def] using this
     have hok0 : okL H.length ((List.range (len * m)).map (fun i => LV.v (z.cells[i % z.cells.size]!))) := by
      have := okL_v H.length ((List.range (len * m)).map (fun i => z.cells[i % z.cells.size]!))
      simpa [List.map_map, Function.comp_def] using this
     obtain ⟨zs', f1, f2, f3⟩ := fillL_sound (β := β) (Z := Z) (w := w) (n := H.length) pl pv.toList _ cs _ hcs hp hr hk hz0 hok0
     obtain ⟨β', b1, b2, b3, b4⟩ := hW.alloc (t := e) f2 f3
     have hbw : Below w.heap.size w (w.alloc (.cells zs' e)) := (Below.refl _ _).alloc (Nat.le_refl _) _
     refine ⟨w.alloc (.cells zs' e), .slice (some ⟨w.heap.size, 0, none⟩) len len, ?_, hbw, β', b1, b3, ?_, by simp [okV], by simp, b2⟩
     ·have e1 := fun w => run_sizeOf hsz w
      have e2 := fun w => run_zero hz w
      have n1 : ¬ (len * m > 2 ^ 24) := by omega
      have n2 : ¬ (len * m = 0) := by omega
      simp only [Instr.buildSlice, Sem.run_bind, run_underlying hu, Result.andThen_ok, e1, if_neg n1, if_neg n2, e2, Sem.run_pure, f1, newRow]
      rfl
     ·simp only [R, b2]
      exact ⟨by omega, ⟨w.heap.size, 0, none⟩, by simp, fun _ => by simp⟩
    ·cases h
   ·cases h
  ·cases h
 ·cases h
theorem callG_fn {o : Oper} {g : FuncId} {l : List LV} {lv : LV} {H' : List Blk} (h : (callG P Γ H o g l).all (fun q => q = (lv, H'))) : ∃ fn S, P.funcs[g]? = some fn ∧ ¬ fn.body = none ∧ ¬ fn.name = "runtime.NumGoroutine" ∧ Γ g = some S ∧
  (if noOwnL l then (S l).bind fun y => (T.ok (y, H) : T (LV × List Blk))
      else if plainTy P 8 o.type then ((gseq (guardX H 6) l).bind fun _ => onlyPl (S (l.map (toX H 6)))).bind fun y => .ok (y, H)
      else if closedB H (reach H 64 (ownsL l) []) l then ((gseq (guardX H 6) l).bind fun _ => S (l.map (toX H 6))).bind fun y => .ok (y, pubGo (reach H 64 (ownsL l) []) 0 H) else .no).all (fun q => q = (lv, H')) := by
 unfold callG at h
 split at h
 ·rename_i fn hfn
  split at h
  ·rename_i hb
   simp only [Bool.and_eq_true, Bool.not_eq_true'] at hb
   split at h
   ·rename_i S hS
    exact ⟨fn, S, hfn, by intro hbb; simp [hbb] at hb, by simpa using hb.2, hS, h⟩
   ·cases h
  ·cases h
 ·cases h
theorem call_core {o : Oper} {lv : LV} (hΓ : ∀ g S, Γ g = some S → Valid P G g S) (hW : RW G w0 Z0 Z β H w) (hF : RF ds β Z w H.length F a) {g : FuncId} {vals : Array Value} (hrun : (execOp a.eval o).run P w = .ok (.enter g vals) w)
  {H' : List Blk} {l : List LV} (hargs : RL β Z w l vals.toList) (hoka : okL H.length l) (h : (callG P Γ H o g l).all (fun q => q = (lv, H'))) :
  actUpon P (Post ds G w0 Z0 F a β H w o lv H') ((execOp a.eval o).run P w) := by
 obtain ⟨fn, S, _, _, _, hS, h⟩ := callG_fn h
 rw [hrun]
 simp only [actUpon]
 have hval := hΓ g S hS
 have hH := fun k b hb => (hW.blk k b hb).2
 split at h
 ·rename_i hno
  obtain ⟨y, h1, h2⟩ := T.bind_all h
  simp only [T.all, Prod.mk.injEq] at h2
  obtain ⟨rfl, rfl⟩ := h2
  have hok0 := noOwnL_ok _ hno hoka
  have hr0 : RL β0 Z w l (vals).toList := RL.mono (n := 0) (fun _ hk => absurd hk (by omega)) (fun _ h => h) (fun _ _ => rfl) _ _ hok0 hargs
  refine (hval _ _ w Z y hW.zlt hW.glob hok0 hr0 h1).mono fun e w' ⟨hbw, v, he, hk, hr⟩ => ⟨v, he, ?_⟩
  refine ⟨_, β, hW.call hbw, hF.mono (Nat.le_refl _) (fun _ _ => rfl) (fun _ h => .inl h) (fun b hz => below_block hbw (hW.zlt b hz)), ?_, okV.mono (Nat.zero_le _) _ hk, Nat.le_refl _, fun _ _ => rfl, fun k h1 h2 => by omega, near_of_below hbw⟩
  exact R.mono (n := 0) (fun _ hk => absurd hk (by omega)) (fun _ h => h) (fun _ _ => rfl) _ _ hk hr
 ·have hok0 : okL 0 (l.map (toX H 6)) := okL_map hoka (fun x hx => toX_ok H hH 6 x hx)
  split at h
  ·obtain ⟨y, h1, h2⟩ := T.bind_all h
   simp only [T.all, Prod.mk.injEq] at h2
   obtain ⟨rfl, rfl⟩ := h2
   obtain ⟨_, hg, h1⟩ := T.bind_all h1
   have hG := T.all_mono (K' := fun _ => True) (fun _ _ => trivial) hg
   obtain ⟨h1, h2⟩ := onlyPl_all h1
   have hr0 : RL β0 (ZP Z β H fun _ => True) w (l.map (toX H 6)) (vals).toList :=
    RL.mono (n := 0) (fun _ hk => absurd hk (by omega)) (fun _ h => h) (fun _ _ => rfl) _ _ hok0 (RL_map (S := fun _ => True) hargs hoka (fun _ _ => trivial) (fun x y hm hs hx hr => toX_R hW (fun _ _ _ _ _ _ => trivial) 6 x y (gseq_all hG x hm) hs hx hr))
   have hzo : ∀ b, ZP Z β H (fun _ => True) b → b < w.heap.size := fun b hz => by
    rcases hz with hz | ⟨k, bk, _, h2, h3, rfl⟩
    ·exact hW.zlt b hz
    ·exact hW.lt h2 h3
   refine (hval _ _ w _ y hzo (hW.glob.mono (fun _ h => .inl h) (fun _ _ => rfl)) hok0 hr0 h1).mono fun e w' ⟨hbw, v, he, hk, hr⟩ => ⟨v, he, ?_⟩
   refine ⟨Z, β, hW.same hbw, hF.mono (Nat.le_refl _) (fun _ _ => rfl) (fun _ h => h) (fun b hz => below_block hbw (hW.zlt b hz)), ?_, okV.mono (Nat.zero_le _) _ hk, Nat.le_refl _, fun _ _ => rfl, fun k h1 h2 => by omega, near_of_below hbw⟩
   obtain ⟨x, hx⟩ := Option.isSome_iff_exists.1 h2
   rw [pl_R hx hr]
   exact R_pl hx
  ·split at h
   ·rename_i hcl
    obtain ⟨y, h1, h2⟩ := T.bind_all h
    simp only [T.all, Prod.mk.injEq] at h2
    obtain ⟨rfl, rfl⟩ := h2
    obtain ⟨_, hg, h1⟩ := T.bind_all h1
    have hG := T.all_mono (K' := fun _ => True) (fun _ _ => trivial) hg
    obtain ⟨c1, c2⟩ := closedB_spec hcl
    have hP := hW.pub (reach H 64 (ownsL l) [])
    have hr0 : RL β0 (ZP Z β H fun k => k ∈ reach H 64 (ownsL l) []) w (l.map (toX H 6)) (vals).toList :=
     RL.mono (n := 0) (fun _ hk => absurd hk (by omega)) (fun _ h => h) (fun _ _ => rfl) _ _ hok0 (RL_map (S := fun k => k ∈ reach H 64 (ownsL l) []) hargs hoka c1 (fun x y hm hs hx hr => toX_R hW c2 6 x y (gseq_all hG x hm) hs hx hr))
    refine (hval _ _ w _ y hP.zlt hP.glob hok0 hr0 h1).mono fun e w' ⟨hbw, v, he, hk, hr⟩ => ⟨v, he, ?_⟩
    refine ⟨_, β, hP.call hbw, ?_, ?_, okV.mono (Nat.zero_le _) _ hk, by rw [pubGo_length]; exact Nat.le_refl _, fun _ _ => rfl, fun k h1 h2 => by rw [pubGo_length] at h2; omega, near_of_below hbw⟩
    ·rw [pubGo_length]
     exact hF.mono (Nat.le_refl _) (fun _ _ => rfl) (fun _ h => .inl (.inl h)) (fun b hz => below_block hbw (hW.zlt b hz))
    ·exact R.mono (n := 0) (fun _ hk => absurd hk (by omega)) (fun _ h => h) (fun _ _ => rfl) _ _ hk hr
   ·cases h
theorem value_run {f : Operand} {args : Array Operand} {ty : Array TypeId} {o : Oper} (ho : o.op = .call { callee := .value f, args, argTypes := ty }) {g : FuncId} {ys : Array Value} (hy : a.eval f = .func (.func g) #[] ys) {fn : Func} (hfn : P.funcs[g]? = some fn) (hb : ¬ fn.body = none) (hb3 : ¬ fn.name = "runtime.NumGoroutine") (w : World) :
  (execOp a.eval o).run P w = .ok (.enter g (args.map a.eval ++ ys)) w := by
 unfold execOp
 simp only [ho]
 simp [resolve, Deferred.ofValue, hy, invoke, callFunc, hfn, hb3, hb]
theorem invoke_run {r : Operand} {name : String} {args : Array Operand} {ty : Array TypeId} {o : Oper} (ho : o.op = .call { callee := .invoke r name, args, argTypes := ty }) {t : TypeId} {v rv : Value} {g : FuncId} (hy : a.eval r = .iface t v) (hm : pureRun P (method (P.types.size + Made.depth) t v name) = some (g, rv)) {fn : Func} (hfn : P.funcs[g]? = some fn) (hb : ¬ fn.body = none) (hb3 : ¬ fn.name = "runtime.NumGoroutine") (w : World) :
  (execOp a.eval o).run P w = .ok (.enter g (#[rv] ++ args.map a.eval)) w := by
 unfold execOp
 simp only [ho]
 have hr := pureRun_run w hm
 have h0 : (#[Value.iface t v] ++ args.map a.eval)[0]? = some (.iface t v) := by rw [Array.getElem?_append_left (by simp)]; rfl
 have hx : (args.map a.eval).extract 0 args.size = args.map a.eval := by
  have e : args.size = (args.map a.eval).size := by simp
  rw [e]
  exact Array.extract_size
 simp [resolve, hy, invoke, callMethod, hr, callFunc, hfn, hb3, hb, h0, hx]
theorem metOf_R {x : LV} {name : String} {g : FuncId} {rv z : Value} (h : metOf P x name = some (g, rv)) (hr : R β Z w x z) : ∃ t v, z = .iface t v ∧ pureRun P (method (P.types.size + Made.depth) t v name) = some (g, rv) := by
 unfold metOf at h
 split at h
 ·rename_i t v hp
  exact ⟨t, v, pl_R hp hr, h⟩
 ·cases h
theorem call_sound {f : Operand} {args : Array Operand} {ty : Array TypeId} {o : Oper} {lv : LV} (ho : o.op = .call { callee := .value f, args, argTypes := ty }) (hΓ : ∀ g S, Γ g = some S → Valid P G g S)
  (hW : RW G w0 Z0 Z β H w) (hF : RF ds β Z w H.length F a) {g : FuncId} {cap : List LV} (hf : evalL G F f = .fn g cap)
  {H' : List Blk} (h : (callG P Γ H o g (args.toList.map (fun x => norm (evalL G F x)) ++ cap)).all (fun q => q = (lv, H'))) :
  actUpon P (Post ds G w0 Z0 F a β H w o lv H') ((execOp a.eval o).run P w) := by
 have hfr := hF.eval hW.glob f
 rw [hf] at hfr
 simp only [R, okV] at hfr
 obtain ⟨⟨ys, hy, hyr⟩, hcap⟩ := hfr
 have hargs : RL β Z w (args.toList.map (fun x => norm (evalL G F x)) ++ cap) (args.map a.eval ++ ys).toList := by
  refine RL.of_get (by simp [RL.length hyr]) fun i x hx => ?_
  rw [Array.toList_append, Array.toList_map]
  by_cases hi : i < args.toList.length
  ·rw [List.getElem?_append_left (by simpa using hi)] at hx ⊢
   rw [List.getElem?_map] at hx ⊢
   cases hq : args.toList[i]? with
   | none => simp [hq] at hx
   | some q => simp [hq] at hx; subst hx; exact ⟨a.eval q, by simp, norm_R (hF.eval hW.glob q).1⟩
  ·rw [List.getElem?_append_right (by simpa using hi)] at hx ⊢
   obtain ⟨y, h1, h2⟩ := RL.get _ _ hyr hx
   exact ⟨y, by simpa using h1, h2⟩
 have hoka : okL H.length (args.toList.map (fun x => norm (evalL G F x)) ++ cap) := by
  refine okL.append (okL.of_get fun i x hx => ?_) hcap
  rw [List.getElem?_map] at hx
  cases hq : args.toList[i]? with
  | none => simp [hq] at hx
  | some q => simp [hq] at hx; subst hx; exact norm_ok (hF.eval hW.glob q).2
 obtain ⟨fn, S, h1, h2, h3, _⟩ := callG_fn h
 exact call_core hΓ hW hF (value_run ho hy h1 h2 h3 w) hargs hoka h
theorem invk_sound {r : Operand} {name : String} {args : Array Operand} {ty : Array TypeId} {o : Oper} {lv : LV} (ho : o.op = .call { callee := .invoke r name, args, argTypes := ty }) (hΓ : ∀ g S, Γ g = some S → Valid P G g S)
  (hW : RW G w0 Z0 Z β H w) (hF : RF ds β Z w H.length F a) {g : FuncId} {rv : Value} (hf : metOf P (evalL G F r) name = some (g, rv))
  {H' : List Blk} (h : (callG P Γ H o g (.v rv :: args.toList.map (fun x => norm (evalL G F x)))).all (fun q => q = (lv, H'))) :
  actUpon P (Post ds G w0 Z0 F a β H w o lv H') ((execOp a.eval o).run P w) := by
 obtain ⟨t, v, hy, hm⟩ := metOf_R hf (hF.eval hW.glob r).1
 have hargs : RL β Z w (.v rv :: args.toList.map (fun x => norm (evalL G F x))) (#[rv] ++ args.map a.eval).toList := by
  rw [Array.toList_append, Array.toList_map]
  simp only [List.cons_append, List.nil_append, RL]
  refine ⟨rv, _, rfl, by simp only [R], RL.of_get (by simp) fun i x hx => ?_⟩
  rw [List.getElem?_map] at hx ⊢
  cases hq : args.toList[i]? with
  | none => simp [hq] at hx
  | some q => simp [hq] at hx; subst hx; exact ⟨a.eval q, by simp, norm_R (hF.eval hW.glob q).1⟩
 have hoka : okL H.length (.v rv :: args.toList.map (fun x => norm (evalL G F x))) := by
  refine ⟨trivial, okL.of_get fun i x hx => ?_⟩
  rw [List.getElem?_map] at hx
  cases hq : args.toList[i]? with
  | none => simp [hq] at hx
  | some q => simp [hq] at hx; subst hx; exact norm_ok (hF.eval hW.glob q).2
 obtain ⟨fn, S, h1, h2, h3, _⟩ := callG_fn h
 exact call_core hΓ hW hF (invoke_run ho hy hm h1 h2 h3 w) hargs hoka h
structure KSound (P : Program) (G : Globs) (K : Hand) : Prop where
 k : ∀ (w0 : World) (Z0 : Gz) (Z : Nat → Prop) (β : Nat → Loc) (H : List Blk) (w : World) (g : FuncId) (args : List LV) (vals : Array Value) (lv : LV) (H' : List Blk), RW G w0 Z0 Z β H w → RL β Z w args vals.toList → okL H.length args → (K.k g args H).all (fun q => q = (lv, H')) →
  Calls P g vals w fun e w' => ∃ v, e = .returned v ∧ ∃ Z' β', RW G w0 Z0 Z' β' H' w' ∧ R β' Z' w' lv v ∧ okV H'.length lv
 y : ∀ (w0 : World) (Z0 : Gz) (Z : Nat → Prop) (β : Nat → Loc) (H : List Blk) (w : World) (k : Nat) (args : List LV) (vals : Array Value) (lv : LV) (H' : List Blk), RW G w0 Z0 Z β H w → RL β Z w args vals.toList → okL H.length args → (K.y k args H).all (fun q => q = (lv, H')) →
  ∃ r : Loop, w.heap[(β k).b]? = some (.loop r) ∧ vals.size = r.params.size ∧ RoundIn Fence.wide 0 P (β k).b r.fn ((r.params.zip vals).foldl (fun t (p, v) => t.setIfInBounds p v) r.tmps) r.assign r.body w
   fun e w' => ∃ v, e = .returned v ∧ ∃ Z' β', RW G w0 Z0 Z' β' H' w' ∧ R β' Z' w' lv v ∧ okV H'.length lv
theorem noK_sound : KSound P G noK := ⟨fun _ _ _ _ _ _ _ _ _ _ _ _ _ _ h => (by cases h), fun _ _ _ _ _ _ _ _ _ _ _ _ _ _ h => (by cases h)⟩
theorem opx_sound (hΓ : ∀ g S, Γ g = some S → Valid P G g S) (hW : RW G w0 Z0 Z β H w) (hF : RF ds β Z w H.length F a) {o : Oper} {lv : LV} {H' : List Blk}
  (h : (opx P G Γ F H o).all (fun q => q = (lv, H'))) : actUpon P (Post ds G w0 Z0 F a β H w o lv H') ((execOp a.eval o).run P w) := by
 have hsel : ∀ cs b, o.op ≠ .select cs b := fun cs b e => by unfold opx at h; simp only [e] at h; cases h
 have ev := fun x => hF.eval hW.glob x
 have same : ∀ {t : T LV}, (t.bind fun y => (T.ok (y, H) : T (LV × List Blk))).all (fun q => q = (lv, H')) → t.all (fun z => z = lv) ∧ H' = H := fun h => by
  obtain ⟨x, h1, h2⟩ := T.bind_all h
  simp only [T.all, Prod.mk.injEq] at h2
  obtain ⟨rfl, rfl⟩ := h2
  exact ⟨h1, rfl⟩
 have gen : (genL P G F o).all (fun z => z = lv) → H' = H → actUpon P (Post ds G w0 Z0 F a β H w o lv H') ((execOp a.eval o).run P w) := fun hg e => by
  subst e; exact genL_sound hsel hW hF hg
 have val : ∀ {v : Value}, H' = H → (execOp a.eval o).run P w = .ok (.value v) w → R β Z w lv v → okV H.length lv → actUpon P (Post ds G w0 Z0 F a β H w o lv H') ((execOp a.eval o).run P w) := fun e hrun hr hk => by
  subst e; exact post_value hW hF hrun hr hk
 unfold opx at h
 split at h
 ·cases h
 ·rename_i x ho
  simp only [T.all, Prod.mk.injEq] at h
  refine val h.2.symm (v := a.eval x) (by simp [execOp, ho]) ?_ ?_ <;> rw [← h.1]
  ·exact (ev x).1
  ·exact (ev x).2
 ·rename_i x ho
  simp only [T.all, Prod.mk.injEq] at h
  refine val h.2.symm (v := a.eval x) (by simp [execOp, ho]) ?_ ?_ <;> rw [← h.1]
  ·exact (ev x).1
  ·exact (ev x).2
 ·rename_i c x y ho
  obtain ⟨h1, h2⟩ := same h
  obtain ⟨g, e1, e2, e3⟩ := pickL_sound h1 (ev c).1 (ev x).1 (ev y).1 (ev x).2 (ev y).2
  exact val h2 (v := if g then a.eval x else a.eval y) (by simp [execOp, ho, e1, asBool]) e2 e3
 ·rename_i t ho
  split at h
  ·rename_i z hz
   split at h
   ·rename_i cs hcs
    simp only [T.all, Prod.mk.injEq] at h
    obtain ⟨h1, h2⟩ := h
    obtain ⟨c1, _⟩ := cellsL_R (β := β) (Z := Z) (w := w) hcs (show R β Z w (.v z) z by simp only [R])
    obtain ⟨β', b1, b2, b3, b4⟩ := hW.alloc (t := t) c1 (cellsL_ok hcs trivial)
    have hrun : (execOp a.eval o).run P w = .ok (.value (.pointer (some ⟨w.heap.size, 0, none⟩))) (w.alloc (.cells z.cells t)) := by
     have e := fun w => run_zero hz w
     simp [execOp, ho, Instr.alloc, e, newVar, newRow]
    rw [hrun, ← h1, ← h2]
    refine ⟨Z, β', b3, hF.mono (by simp) b1 (fun _ h => h) b4, ?_, ?_, by simp, b1, fun k k1 k2 => ?_, near_of_below ((Below.refl _ _).alloc (Nat.le_refl _) _)⟩
    ·simp only [R, b2]
    ·simp [okV]
    ·have : k = H.length := by simp at k2; omega
     rw [this, b2]; exact .inl (Nat.le_refl _)
   ·cases h
  ·cases h
 ·rename_i t x ho
  split at h
  ·rename_i cs hcs
   simp only [T.all, Prod.mk.injEq] at h
   obtain ⟨h1, h2⟩ := h
   obtain ⟨c1, _⟩ := cellsL_R hcs (ev x).1
   obtain ⟨β', b1, b2, b3, b4⟩ := hW.alloc (t := t) c1 (cellsL_ok hcs (ev x).2)
   have hrun : (execOp a.eval o).run P w = .ok (.value (.pointer (some ⟨w.heap.size, 0, none⟩))) (w.alloc (.cells (a.eval x).cells t)) := by
    simp [execOp, ho, Instr.box, newVar, newRow]
   rw [hrun, ← h1, ← h2]
   refine ⟨Z, β', b3, hF.mono (by simp) b1 (fun _ h => h) b4, ?_, ?_, by simp, b1, fun k k1 k2 => ?_, near_of_below ((Below.refl _ _).alloc (Nat.le_refl _) _)⟩
   ·simp only [R, b2]
   ·simp [okV]
   ·have : k = H.length := by simp at k2; omega
    rw [this, b2]; exact .inl (Nat.le_refl _)
  ·cases h
 ·rename_i t x ho
  obtain ⟨h1, h2⟩ := same h
  obtain ⟨z, e1, e2, e3⟩ := loadL_sound hW h1 (ev x).1 (ev x).2
  have e1 := e1 w (fun _ _ => rfl)
  exact val h2 (v := z) (by simp [execOp, ho, e1]) e2 e3
 ·rename_i t x y ho
  obtain ⟨H1, h1, h2⟩ := T.bind_all h
  simp only [T.all, Prod.mk.injEq] at h2
  obtain ⟨h2, h3⟩ := h2
  subst h3
  obtain ⟨w', e1, e2, e3, e4, e6⟩ := storeL_sound hW h1 (ev x).1 (ev y).1 (ev y).2
  have hrun : (execOp a.eval o).run P w = .ok .skip w' := by simp [execOp, ho, e1]
  rw [hrun, ← h2]
  refine ⟨Z, β, e2, ?_, ?_, trivial, by omega, fun _ _ => rfl, fun k k1 k2 => by omega, by simp only [touchB, wrt, ho]; exact e6⟩
  ·rw [e3]; exact hF.mono (Nat.le_refl _) (fun _ _ => rfl) (fun _ h => h) e4
  ·simp only [R]
 ·rename_i s x i ho
  obtain ⟨h1, h2⟩ := same h
  obtain ⟨z, e1, e2, e3⟩ := fieldL_sound (w := w) h1 (ev x).1 (ev x).2
  exact val h2 (v := z) (by simp [execOp, ho, e1]) e2 e3
 ·rename_i t x i ho
  obtain ⟨h1, h2⟩ := same h
  obtain ⟨z, e1, e2, e3⟩ := indexL_sound (w := w) h1 (ev x).1 (ev i).1 (ev x).2
  exact val h2 (v := z) (by simp [execOp, ho, e1]) e2 e3
 ·rename_i t parts ho
  obtain ⟨h1, h2⟩ := same h
  obtain ⟨z, e1, e2, e3⟩ := buildL_sound (β := β) (Z := Z) (w := w) (n := H.length) (pv := parts.map fun q => (q.1, a.eval q.2)) h1 (by simp [Function.comp_def]) (by
   simp only [Array.toList_map, List.map_map]
   refine RL.of_get (by simp) fun i x hx => ?_
   rw [List.getElem?_map] at hx ⊢
   cases hq : parts.toList[i]? with
   | none => simp [hq] at hx
   | some q => simp [hq] at hx; subst hx; exact ⟨a.eval q.2, by simp, (evalN_R (ev q.2)).1⟩) (by
   simp only [List.map_map]
   refine okL.of_get fun i x hx => ?_
   rw [List.getElem?_map] at hx
   cases hq : parts.toList[i]? with
   | none => simp [hq] at hx
   | some q => simp [hq] at hx; subst hx; exact (evalN_R (ev q.2)).2)
  exact val h2 (v := z) (by simp [execOp, ho, e1]) e2 e3
 ·rename_i t len parts ho
  split at h
  ·rename_i h0
   subst h0
   split at h
   ·rename_i hpe
    have hpa : parts = #[] := by
     have := List.isEmpty_iff.1 hpe
     rw [← Array.toArray_toList (xs := parts), this]
    obtain ⟨w', v, e1, e2, β', e3, e4, e5, e6, e7, e8⟩ := emptyL_sound hW h
    have hrun : (execOp a.eval o).run P w = .ok (.value v) w' := by simp [execOp, ho, hpa, e1]
    rw [hrun]
    refine ⟨Z, β', e4, hF.mono (by omega) e3 (fun _ h => h) (fun b hz => below_block e2 (hW.zlt b hz)), e5, e6, by omega, e3, fun k k1 k2 => ?_, near_of_below e2⟩
    have : k = H.length := by omega
    rw [this, e8]; exact .inl (Nat.le_refl _)
   ·cases h
  split at h
  rotate_left
  ·obtain ⟨w', v, e1, e2, β', e3, e4, e5, e6, e7, e8⟩ := litC_sound (pv := parts.map fun q => (q.1, a.eval q.2)) hW h (by simp [Function.comp_def]) (by
    simp only [Array.toList_map, List.map_map]
    refine RL.of_get (by simp) fun i x hx => ?_
    rw [List.getElem?_map] at hx ⊢
    cases hq : parts.toList[i]? with
    | none => simp [hq] at hx
    | some q => simp [hq] at hx; subst hx; exact ⟨a.eval q.2, by simp, (ev q.2).1⟩) (by
    simp only [List.map_map]
    refine okL.of_get fun i x hx => ?_
    rw [List.getElem?_map] at hx
    cases hq : parts.toList[i]? with
    | none => simp [hq] at hx
    | some q => simp [hq] at hx; subst hx; exact (ev q.2).2)
   have hrun : (execOp a.eval o).run P w = .ok (.value v) w' := by simp [execOp, ho, e1]
   rw [hrun]
   refine ⟨Z, β', e4, hF.mono (by omega) e3 (fun _ h => h) (fun b hz => below_block e2 (hW.zlt b hz)), e5, e6, by omega, e3, fun k k1 k2 => ?_, near_of_below e2⟩
   have : k = H.length := by omega
   rw [this, e8]; exact .inl (Nat.le_refl _)
  split at h
  rotate_left
  ·unfold litO at h
   split at h
   ·rename_i hcl
    have hargs : RL β Z w ((parts.toList.map fun q => (q.1, evalL G F q.2)).map (·.2)) ((parts.map fun q => (q.1, a.eval q.2)).toList.map (·.2)) := by
     simp only [Array.toList_map, List.map_map]
     refine RL.of_get (by simp) fun i x hx => ?_
     rw [List.getElem?_map] at hx ⊢
     cases hq : parts.toList[i]? with
     | none => simp [hq] at hx
     | some q => simp [hq] at hx; subst hx; exact ⟨a.eval q.2, by simp, (ev q.2).1⟩
    have hoka : okL H.length ((parts.toList.map fun q => (q.1, evalL G F q.2)).map (·.2)) := by
     simp only [List.map_map]
     refine okL.of_get fun i x hx => ?_
     rw [List.getElem?_map] at hx
     cases hq : parts.toList[i]? with
     | none => simp [hq] at hx
     | some q => simp [hq] at hx; subst hx; exact (ev q.2).2
    generalize hvs : (parts.toList.map fun q => (q.1, evalL G F q.2)) = vs at h hcl hargs hoka
    obtain ⟨y, h1, h2⟩ := T.bind_all h
    simp only [T.all, Prod.mk.injEq] at h2
    obtain ⟨rfl, rfl⟩ := h2
    obtain ⟨_, hg, h1⟩ := T.bind_all h1
    have hG := T.all_mono (K' := fun _ => True) (fun _ _ => trivial) hg
    obtain ⟨c1, c2⟩ := closedB_spec hcl
    have hP := hW.pub (reach H 64 (ownsL (vs.map (·.2))) [])
    have hH := fun k b hb => (hW.blk k b hb).2
    have hr0 : RL β (ZP Z β H fun k => k ∈ reach H 64 (ownsL (vs.map (·.2))) []) w ((vs.map (·.2)).map (toX H 6)) ((parts.map fun q => (q.1, a.eval q.2)).toList.map (·.2)) :=
     RL_map (S := fun k => k ∈ reach H 64 (ownsL (vs.map (·.2))) []) hargs hoka c1 (fun x y hm hs hx hr => toX_R hW c2 6 x y (gseq_all hG x hm) hs hx hr)
    have hok0 : okL 0 ((vs.map (·.2)).map (toX H 6)) := by
     refine okL.of_get fun i x hx => ?_
     rw [List.getElem?_map] at hx
     cases hq : (vs.map (·.2))[i]? with
     | none => simp [hq] at hx
     | some q => simp [hq] at hx; subst hx; exact toX_ok H hH 6 _ (okL.get i q hoka hq)
    have emap : (vs.map fun q => (q.1, toX H 6 q.2)).map (·.2) = (vs.map (·.2)).map (toX H 6) := by simp [Function.comp_def]
    obtain ⟨elem, cells, e1, e2, e3⟩ := litL_sound (β := β) (Z := ZP Z β H fun k => k ∈ reach H 64 (ownsL (vs.map (·.2))) []) (w := w) (n := 0) (pv := parts.map fun q => (q.1, a.eval q.2)) h1 (by rw [← hvs]; simp [Function.comp_def]) (by rw [emap]; exact hr0) (by rw [emap]; exact hok0)
    have hrun : (execOp a.eval o).run P w = .ok (.value (.slice (some ⟨w.heap.size, 0, none⟩) len len)) (w.alloc (.cells cells elem)) := by
     simp [execOp, ho, e1]
    have hbw : Below w.heap.size w (w.alloc (.cells cells elem)) := (Below.refl _ _).alloc (Nat.le_refl _) _
    rw [hrun]
    refine ⟨_, β, hP.call hbw, ?_, ?_, okV.mono (Nat.zero_le _) _ e3, by rw [pubGo_length]; exact Nat.le_refl _, fun _ _ => rfl, fun k h1 h2 => by rw [pubGo_length] at h2; omega, near_of_below hbw⟩
    ·rw [pubGo_length]
     exact hF.mono (Nat.le_refl _) (fun _ _ => rfl) (fun _ h => .inl (.inl h)) (fun b hz => below_block hbw (hW.zlt b hz))
    ·exact e2 β _ _ w.heap.size (fun _ h => .inl h) (fun b hz => below_block hbw (hP.zlt b hz)) (fun j v hv => by
      show World.cell? _ _ = _
      unfold World.cell?
      have : (w.alloc (.cells cells elem)).heap[w.heap.size]? = some (.cells cells elem (0, 0)) := by
       show (w.heap.push _)[w.heap.size]? = _
       simp
      simp only [this]
      simpa using hv) (.inr ⟨Nat.le_refl _, by simp⟩)
   ·cases h
  ·obtain ⟨h1, h2⟩ := same h
   subst h2
   have hp := litL_sound (β := β) (Z := Z) (w := w) (n := H'.length) (pv := parts.map fun q => (q.1, a.eval q.2)) h1 (by simp [Function.comp_def]) (by
    simp only [Array.toList_map, List.map_map]
    refine RL.of_get (by simp) fun i x hx => ?_
    rw [List.getElem?_map] at hx ⊢
    cases hq : parts.toList[i]? with
    | none => simp [hq] at hx
    | some q => simp [hq] at hx; subst hx; exact ⟨a.eval q.2, by simp, (ev q.2).1⟩) (by
    simp only [List.map_map]
    refine okL.of_get fun i x hx => ?_
    rw [List.getElem?_map] at hx
    cases hq : parts.toList[i]? with
    | none => simp [hq] at hx
    | some q => simp [hq] at hx; subst hx; exact (ev q.2).2)
   obtain ⟨elem, cells, e1, e2, e3⟩ := hp
   have hrun : (execOp a.eval o).run P w = .ok (.value (.slice (some ⟨w.heap.size, 0, none⟩) len len)) (w.alloc (.cells cells elem)) := by
    simp [execOp, ho, e1]
   have hbw : Below w.heap.size w (w.alloc (.cells cells elem)) := (Below.refl _ _).alloc (Nat.le_refl _) _
   rw [hrun]
   refine ⟨_, β, hW.call hbw, hF.mono (Nat.le_refl _) (fun _ _ => rfl) (fun _ h => .inl h) (fun b hz => below_block hbw (hW.zlt b hz)), ?_, e3, Nat.le_refl _, fun _ _ => rfl, fun k h1 h2 => by omega, near_of_below hbw⟩
   exact e2 β _ _ w.heap.size (fun _ h => .inl h) (fun b hz => below_block hbw (hW.zlt b hz)) (fun j v hv => by
    show World.cell? _ _ = _
    unfold World.cell?
    have : (w.alloc (.cells cells elem)).heap[w.heap.size]? = some (.cells cells elem (0, 0)) := by
     show (w.heap.push _)[w.heap.size]? = _
     simp
    simp only [this]
    simpa using hv) (.inr ⟨Nat.le_refl _, by simp⟩)
 ·rename_i t n c ho
  obtain ⟨w', v, e1, e2, β', e3, e4, e5, e6, e7, e8⟩ := makeL_sound hW h (ev n).1 (ev c).1
  have hrun : (execOp a.eval o).run P w = .ok (.value v) w' := by simp [execOp, ho, e1]
  rw [hrun]
  refine ⟨Z, β', e4, hF.mono (by omega) e3 (fun _ h => h) (fun b hz => below_block e2 (hW.zlt b hz)), e5, e6, by omega, e3, fun k k1 k2 => ?_, near_of_below e2⟩
  have : k = H.length := by omega
  rw [this, e8]; exact .inl (Nat.le_refl _)
 ·rename_i t x lo hi ho
  split at h
  ·obtain ⟨h1, h2⟩ := same h; exact gen h1 h2
  ·obtain ⟨h1, h2⟩ := same h
   have ro : ∀ q : Option Operand, RO β Z w (q.map (evalL G F)) (q.map a.eval) := fun q => by
    cases q with
    | none => trivial
    | some q => exact (ev q).1
   obtain ⟨z, e1, e2, e3⟩ := sliceL_sound (w := w) h1 (ev x).1 (ro lo) (ro hi) (ev x).2
   exact val h2 (v := z) (by simp [execOp, ho, e1]) e2 e3
 ·rename_i t ho
  split at h
  ·rename_i e he
   simp only [T.all, Prod.mk.injEq] at h
   obtain ⟨h1, h2⟩ := h
   obtain ⟨β', b1, b2, b3, b4⟩ := hW.newSet (e := e) (t := t)
   have hrun : (execOp a.eval o).run P w = .ok (.value (.map (some w.heap.size))) (w.alloc (.map #[] 0)) := by simp [execOp, ho, Instr.makeMap]
   rw [hrun, ← h1, ← h2]
   refine ⟨Z, β', b3, hF.mono (by simp) b1 (fun _ h => h) (fun b hz => below_block b4 (hW.zlt b hz)), ?_, ?_, by simp, b1, fun k k1 k2 => ?_, near_of_below b4⟩
   ·simp only [R, b2]
   ·simp [okV]
   ·have : k = H.length := by simp at k2; omega
    rw [this, b2]; exact .inl (Nat.le_refl _)
  split at h
  ·rename_i kd hkd
   simp only [T.all, Prod.mk.injEq] at h
   obtain ⟨h1, h2⟩ := h
   obtain ⟨β', b1, b2, b3, b4⟩ := hW.newMap (kd := kd) (t := t)
   have hrun : (execOp a.eval o).run P w = .ok (.value (.map (some w.heap.size))) (w.alloc (.map #[] 0)) := by simp [execOp, ho, Instr.makeMap]
   rw [hrun, ← h1, ← h2]
   refine ⟨Z, β', b3, hF.mono (by simp) b1 (fun _ h => h) (fun b hz => below_block b4 (hW.zlt b hz)), ?_, ?_, by simp, b1, fun k k1 k2 => ?_, near_of_below b4⟩
   ·simp only [R, b2]
   ·simp [okV]
   ·have : k = H.length := by simp at k2; omega
    rw [this, b2]; exact .inl (Nat.le_refl _)
  ·cases h
 ·rename_i t m i x ho
  obtain ⟨H1, h1, h2⟩ := T.bind_all h
  simp only [T.all, Prod.mk.injEq] at h2
  obtain ⟨h2, h3⟩ := h2
  subst h3
  obtain ⟨w', e1, e2, e3, e4, e6⟩ := insL_sound hW h1 (ev m).1 (ev i).1 (ev x).1 (ev x).2
  have hrun : (execOp a.eval o).run P w = .ok .skip w' := by simp [execOp, ho, e1]
  rw [hrun, ← h2]
  refine ⟨Z, β, e2, ?_, ?_, trivial, by omega, fun _ _ => rfl, fun k k1 k2 => by omega, by simp only [touchB, wrt, ho]; exact e6⟩
  ·rw [e3]; exact hF.mono (Nat.le_refl _) (fun _ _ => rfl) (fun _ h => h) e4
  ·simp only [R]
 ·rename_i t m i x ho
  obtain ⟨H1, h1, h2⟩ := T.bind_all h
  simp only [T.all, Prod.mk.injEq] at h2
  obtain ⟨h2, h3⟩ := h2
  subst h3
  obtain ⟨w', e1, e2, e3, e4, e6⟩ := insL_sound hW h1 (ev m).1 (ev i).1 (ev x).1 (ev x).2
  have hrun : (execOp a.eval o).run P w = .ok .skip w' := by simp [execOp, ho, e1]
  rw [hrun, ← h2]
  refine ⟨Z, β, e2, ?_, ?_, trivial, by omega, fun _ _ => rfl, fun k k1 k2 => by omega, by simp only [touchB, wrt, ho]; exact e6⟩
  ·rw [e3]; exact hF.mono (Nat.le_refl _) (fun _ _ => rfl) (fun _ h => h) e4
  ·simp only [R]
 ·rename_i t x i ho
  obtain ⟨h1, h2⟩ := same h
  obtain ⟨z, e1, e2, e3⟩ := lookL_sound hW h1 (ev x).1 (ev i).1 (ev x).2
  have e1 := e1 w (fun _ _ => rfl)
  exact val h2 (v := z) (by simp [execOp, ho, e1]) e2 e3
 ·rename_i x i ho
  split at h
  ·rename_i l hl
   split at h
   ·rename_i y hy
    simp only [T.all, Prod.mk.injEq] at h
    obtain ⟨h1, h2⟩ := h
    have hx := ev x
    rw [hl] at hx
    simp only [R, okV] at hx
    obtain ⟨⟨ys, e1, e2⟩, e3⟩ := hx
    obtain ⟨z, e4, e5⟩ := RL.get _ _ e2 hy
    have e6 : ys[i]? = some z := by simpa using e4
    refine val h2.symm (v := z) (by simp [execOp, ho, e1, Instr.extract, e6]) ?_ ?_ <;> rw [← h1]
    ·exact e5
    ·exact okL.get _ _ e3 hy
   ·cases h
  ·obtain ⟨h1, h2⟩ := same h; exact gen h1 h2
 ·rename_i t x i ho
  split at h
  ·rename_i l hl
   obtain ⟨h1, h2⟩ := same h
   have hx := ev x
   rw [hl] at hx
   simp only [R, okV] at hx
   obtain ⟨⟨ys, e1, e2⟩, e3⟩ := hx
   obtain ⟨z, f1, f2, f3⟩ := fldL_sound h1 e2 e3
   exact val h2 (v := z) (by simp [execOp, ho, e1, f1]) f2 f3
  ·obtain ⟨h1, h2⟩ := same h; exact gen h1 h2
 ·rename_i f first cap ho
  split at h
  ·rename_i he
   simp only [T.all, Prod.mk.injEq] at h
   obtain ⟨h1, h2⟩ := h
   have hfirst : first = #[] := by
    have : first.toList = [] := by simpa using he
    simpa using this
   refine val h2.symm (v := .func (.func f) #[] (cap.map a.eval)) (by simp [execOp, ho, Instr.makeFunc, hfirst]) ?_ ?_ <;> rw [← h1]
   ·simp only [R]
    refine ⟨_, rfl, ?_⟩
    simp only [Array.toList_map]
    refine RL.of_get (by simp) fun i x hx => ?_
    rw [List.getElem?_map] at hx ⊢
    cases hq : cap.toList[i]? with
    | none => simp [hq] at hx
    | some q => simp [hq] at hx; subst hx; exact ⟨a.eval q, by simp, (ev q).1⟩
   ·simp only [okV]
    refine okL.of_get fun i x hx => ?_
    rw [List.getElem?_map] at hx
    cases hq : cap.toList[i]? with
    | none => simp [hq] at hx
    | some q => simp [hq] at hx; subst hx; exact (ev q).2
  ·cases h
 ·rename_i x ho
  have hx := ev x
  split at h
  ·rename_i k off hl
   simp only [T.all, Prod.mk.injEq] at h
   rw [hl] at hx
   have hx1 := hx.1
   simp only [R] at hx1
   refine val h.2.symm (v := a.eval x) (by simp [execOp, ho, hx1]) ?_ ?_ <;> rw [← h.1]
   ·exact hx.1
   ·exact hx.2
  ·rename_i n f hl
   simp only [T.all, Prod.mk.injEq] at h
   rw [hl] at hx
   have hx1 := hx.1
   simp only [R] at hx1
   obtain ⟨b, off, e1, _⟩ := hx1
   refine val h.2.symm (v := a.eval x) (by simp [execOp, ho, e1]) ?_ ?_ <;> rw [← h.1]
   ·exact hx.1
   ·exact hx.2
  ·rename_i f l hl
   simp only [T.all, Prod.mk.injEq] at h
   rw [hl] at hx
   have hx1 := hx.1
   simp only [R] at hx1
   obtain ⟨ys, e1, _⟩ := hx1
   refine val h.2.symm (v := a.eval x) (by simp [execOp, ho, e1]) ?_ ?_ <;> rw [← h.1]
   ·exact hx.1
   ·exact hx.2
  ·obtain ⟨h1, h2⟩ := same h; exact gen h1 h2
 ·rename_i t x y t' ho
  split at h
  ·rename_i k n k' m hx hy
   split at h
   ·rename_i hk
    subst hk
    simp only [T.all, Prod.mk.injEq] at h
    obtain ⟨h0, h1, h2⟩ := h
    have e1 := pl_R hx (ev x).1
    have e2 := pl_R hy (ev y).1
    refine val h2.symm (v := .int k (k.wrap (n.tdiv m))) (by simp [execOp, ho, e1, e2, eqGuard, binOp, Op.intDiv, h0]) ?_ ?_ <;> rw [← h1]
    ·simp only [R]
    ·trivial
   ·cases h
  ·cases h
 ·rename_i t x y t' ho
  split at h
  ·rename_i k n k' m hx hy
   split at h
   ·rename_i hk
    subst hk
    simp only [T.all, Prod.mk.injEq] at h
    obtain ⟨h0, h1, h2⟩ := h
    have e1 := pl_R hx (ev x).1
    have e2 := pl_R hy (ev y).1
    refine val h2.symm (v := .int k (n.tmod m)) (by simp [execOp, ho, e1, e2, eqGuard, binOp, Op.intDiv, h0]) ?_ ?_ <;> rw [← h1]
    ·simp only [R]
    ·trivial
   ·cases h
  ·cases h
 ·rename_i t x y t' ho
  split at h
  ·obtain ⟨h1, h2⟩ := same h; exact gen h1 h2
  ·split at h
   ·rename_i k n k' m hx hy
    simp only [T.all, Prod.mk.injEq] at h
    obtain ⟨h0, h1, h2⟩ := h
    have e1 := pl_R hx (ev x).1
    have e2 := pl_R hy (ev y).1
    refine val h2.symm (v := .int k (k.wrap (n * 2 ^ (min m.toNat k.bits)))) (by simp [execOp, ho, e1, e2, eqGuard, binOp, Op.shift, Int.not_lt.2 h0]) ?_ ?_ <;> rw [← h1]
    ·simp only [R]
    ·trivial
   ·cases h
 ·rename_i t x y t' ho
  split at h
  ·obtain ⟨h1, h2⟩ := same h; exact gen h1 h2
  ·split at h
   ·rename_i k n k' m hx hy
    simp only [T.all, Prod.mk.injEq] at h
    obtain ⟨h0, h1, h2⟩ := h
    have e1 := pl_R hx (ev x).1
    have e2 := pl_R hy (ev y).1
    refine val h2.symm (v := .int k (n.fdiv (2 ^ (min m.toNat k.bits)))) (by simp [execOp, ho, e1, e2, eqGuard, binOp, Op.shift, Int.not_lt.2 h0]) ?_ ?_ <;> rw [← h1]
    ·simp only [R]
    ·trivial
   ·cases h
 ·rename_i t x i ho
  split at h
  ·rename_i s kd n hu hx hi
   simp only [T.all, Prod.mk.injEq] at h
   obtain ⟨⟨h0, hlt⟩, h1, h2⟩ := h
   have e1 := pl_R hx (ev x).1
   have e2 := pl_R hi (ev i).1
   have hb : n.toNat < s.size := by omega
   have hg : s[n.toNat]? = some s[n.toNat] := by simp [hb]
   refine val h2.symm (v := .int .u8 (byI s n)) (by simp [execOp, ho, e1, e2, Instr.index, asIntOf, run_underlying hu, h0, byI, hg]) ?_ ?_ <;> rw [← h1]
   ·simp only [R]
   ·trivial
  ·cases h
 ·rename_i f args ty ho
  split at h
  ·rename_i g cap hf
   exact call_sound ho hΓ hW hF hf h
  ·cases h
 ·rename_i r name args ty ho
  split at h
  ·rename_i g rv hf
   exact invk_sound ho hΓ hW hF hf h
  ·cases h
 ·rename_i args ty ho
  split at h
  ·rename_i x y t tx hl ht
   cases hargs : args.toList with
   | nil => simp [hargs] at hl
   | cons u us =>
    cases us with
    | nil => simp [hargs] at hl
    | cons u' us =>
     cases us with
     | cons _ _ => simp [hargs] at hl
     | nil =>
      simp only [hargs, List.map_cons, List.map_nil, List.cons.injEq, and_true] at hl
      obtain ⟨rfl, rfl⟩ := hl
      have ha : args = #[u, u'] := by rw [← Array.toArray_toList (xs := args), hargs]
      have hty : ty = #[t, tx] := by rw [← Array.toArray_toList (xs := ty), ht]
      obtain ⟨w', v, e1, e2, e3, β', e4, e5, e6, e7, e8, e9⟩ := appendL_sound (ty' := o.type) hW h (ev u).1 (ev u').1
      have hrun : (execOp a.eval o).run P w = .ok (.value v) w' := by
       simp [execOp, ho, resolve, invoke, builtin, ha, hty, e1]
      rw [hrun]
      have htb : touchB G F β H o = lvB β H (owns (evalL G F u)) := by simp [touchB, wrt, ho, ha]
      refine ⟨Z, β', e5, hF.mono (by omega) e4 (fun _ h => h) e3, e6, e7, by omega, e4, fun k k1 k2 => ?_, by rw [htb]; exact e2⟩
      have : k = H.length := by omega
      rw [this, htb]; exact e9
  ·cases h
 ·rename_i args ty ho
  split at h
  ·rename_i k es off n e hl hu
   simp only [T.all, Prod.mk.injEq] at h
   obtain ⟨h1, h2⟩ := h
   cases hargs : args.toList with
   | nil => simp [hargs] at hl
   | cons x xs =>
    cases xs with
    | cons _ _ => simp [hargs] at hl
    | nil =>
     simp only [hargs, List.map_cons, List.map_nil, List.cons.injEq, and_true] at hl
     have hx := (ev x).1
     rw [hl] at hx
     simp only [R] at hx
     have e1 : ∃ ad cap, a.eval x = .slice ad n cap := by
      split at hx
      ·obtain ⟨rfl, _, hx⟩ := hx; exact ⟨_, _, hx⟩
      ·obtain ⟨_, ad, hx, _⟩ := hx; exact ⟨_, _, hx⟩
     obtain ⟨ad, cap, e1⟩ := e1
     have ha : args = #[x] := by rw [← Array.toArray_toList (xs := args), hargs]
     cases ht : ty[0]? with
     | none => simp [ht] at hu
     | some t =>
      simp only [ht, Option.bind_some] at hu
      refine val h2.symm (v := .int .i64 n) (by simp [execOp, ho, resolve, invoke, builtin, Builtin.len_, ha, ht, run_underlying hu, e1, goInt]) ?_ ?_ <;> rw [← h1]
      ·simp only [R]
      ·trivial
  ·rename_i e' l e hl hu
   simp only [T.all, Prod.mk.injEq] at h
   obtain ⟨h1, h2⟩ := h
   cases hargs : args.toList with
   | nil => simp [hargs] at hl
   | cons x xs =>
    cases xs with
    | cons _ _ => simp [hargs] at hl
    | nil =>
     simp only [hargs, List.map_cons, List.map_nil, List.cons.injEq, and_true] at hl
     have hx := (ev x).1
     rw [hl] at hx
     simp only [R] at hx
     obtain ⟨ad, cap, e1, _⟩ := hx
     have ha : args = #[x] := by rw [← Array.toArray_toList (xs := args), hargs]
     cases ht : ty[0]? with
     | none => simp [ht] at hu
     | some t =>
      simp only [ht, Option.bind_some] at hu
      refine val h2.symm (v := .int .i64 (List.length l : Int)) (by simp [execOp, ho, resolve, invoke, builtin, Builtin.len_, ha, ht, run_underlying hu, e1, goInt]) ?_ ?_ <;> rw [← h1]
      ·simp only [R]
      ·trivial
  ·rename_i k' es' off' n' c' e hl hu
   simp only [T.all, Prod.mk.injEq] at h
   obtain ⟨h1, h2⟩ := h
   cases hargs : args.toList with
   | nil => simp [hargs] at hl
   | cons x xs =>
    cases xs with
    | cons _ _ => simp [hargs] at hl
    | nil =>
     simp only [hargs, List.map_cons, List.map_nil, List.cons.injEq, and_true] at hl
     have hx := (ev x).1
     rw [hl] at hx
     simp only [R] at hx
     obtain ⟨_, ad, e1, _⟩ := hx
     have ha : args = #[x] := by rw [← Array.toArray_toList (xs := args), hargs]
     cases ht : ty[0]? with
     | none => simp [ht] at hu
     | some t =>
      simp only [ht, Option.bind_some] at hu
      refine val h2.symm (v := .int .i64 n') (by simp [execOp, ho, resolve, invoke, builtin, Builtin.len_, ha, ht, run_underlying hu, e1, goInt]) ?_ ?_ <;> rw [← h1]
      ·simp only [R]
      ·trivial
  ·obtain ⟨h1, h2⟩ := same h; exact gen h1 h2
 ·obtain ⟨h1, h2⟩ := same h; exact gen h1 h2
structure Ev (b b' : Blk) : Prop where
 cl : b.isCl = true → b'.isCl = true ∧ b'.t = b.t ∧ b'.c.length = b.c.length
 live : ∀ (β : Nat → Loc) (k : Nat), live β k b' → live β k b
 p : b'.p = false → b.p = false
theorem Ev.refl (b : Blk) : Ev b b := ⟨fun h => ⟨h, rfl, rfl⟩, fun _ _ h => h, fun h => h⟩
theorem Ev.trans {a b c : Blk} (h : Ev a b) (g : Ev b c) : Ev a c := ⟨fun hc => by
 obtain ⟨h1, h2, h3⟩ := h.cl hc
 obtain ⟨g1, g2, g3⟩ := g.cl h1
 exact ⟨g1, g2.trans h2, g3.trans h3⟩, fun β k hl => h.live β k (g.live β k hl), fun hp => h.p (g.p hp)⟩
def EvL (H H' : List Blk) : Prop := ∀ (k : Nat) (b : Blk), H[k]? = some b → ∃ b' : Blk, H'[k]? = some b' ∧ Ev b b'
theorem EvL.refl (H : List Blk) : EvL H H := fun _ b hb => ⟨b, hb, Ev.refl b⟩
theorem EvL.app (H E : List Blk) : EvL H (H ++ E) := fun k b hb => ⟨b, by rw [List.getElem?_append_left (List.getElem?_eq_some_iff.1 hb).1]; exact hb, Ev.refl b⟩
theorem EvL.trans {A B C : List Blk} (h : EvL A B) (g : EvL B C) : EvL A C := fun k b hb => by
 obtain ⟨b1, h1, h2⟩ := h k b hb
 obtain ⟨b2, g1, g2⟩ := g k b1 h1
 exact ⟨b2, g1, h2.trans g2⟩
theorem EvL.set {k0 : Nat} {b0 nb : Blk} (hb0 : H[k0]? = some b0) (he : Ev b0 nb) : EvL H (H.set k0 nb) := fun k b hb => by
 have hk := (List.getElem?_eq_some_iff.1 hb).1
 rw [List.getElem?_set]
 by_cases hkk : k0 = k
 ·subst hkk
  rw [hb] at hb0
  simp only [Option.some.injEq] at hb0
  subst hb0
  simp only [if_true, hk]
  exact ⟨nb, rfl, he⟩
 ·rw [if_neg hkk]; exact ⟨b, hb, Ev.refl b⟩
theorem EvL.pub (ks : List Nat) : EvL H (pubGo ks 0 H) := fun k b hb => by
 rw [pubGo_get, hb]
 simp only [Option.map_some, Nat.zero_add]
 split
 ·exact ⟨_, rfl, fun h => ⟨h, rfl, rfl⟩, fun _ _ h => h, fun h => by cases h⟩
 ·exact ⟨_, rfl, Ev.refl b⟩
theorem storeL_ev {t : TypeId} {x y : LV} {H' : List Blk} (h : (storeL P H t x y).all (fun q => q = H')) : EvL H H' := by
 unfold storeL at h
 split at h
 ·split at h
  ·split at h
   ·rename_i hb
    split at h
    ·rename_i hle
     simp only [T.all] at h
     subst h
     refine EvL.set hb ⟨fun hc => ⟨hc, rfl, ?_⟩, fun _ _ h => h, fun h => h⟩
     simp only [setAt, List.length_append, List.length_take, List.length_drop]
     omega
    ·cases h
   ·cases h
  ·split at h
   ·rename_i hb
    split at h
    ·simp only [T.all] at h
     obtain ⟨_, h⟩ := h
     split at h
     ·simp only [T.all] at h
      subst h
      exact EvL.set hb ⟨fun hc => by simp [Blk.isCl] at hc, fun _ _ h => h, fun h => h⟩
     ·cases h
    ·cases h
   ·cases h
  ·cases h
 ·cases h
theorem insM_ev {t : TypeId} {x i y : LV} {H' : List Blk} (h : (insM P H t x i y).all (fun q => q = H')) : EvL H H' := by
 unfold insM at h
 split at h
 ·split at h
  ·split at h
   ·rename_i hb
    split at h
    ·simp only [T.all] at h
     subst h
     exact EvL.set hb ⟨fun hc => by simp [Blk.isCl] at hc, fun _ _ _ => trivial, fun h => h⟩
    ·cases h
   ·cases h
  ·cases h
 ·cases h
theorem insL_ev {t : TypeId} {x i y : LV} {H' : List Blk} (h : (insL P H t x i y).all (fun q => q = H')) : EvL H H' := by
 unfold insL at h
 split at h
 ·split at h
  ·rename_i hb
   split at h
   ·split at h
    ·simp only [T.all] at h
     obtain ⟨_, h⟩ := h
     subst h
     exact EvL.set hb ⟨fun hc => by simp [Blk.isCl] at hc, fun _ _ _ => trivial, fun h => h⟩
    ·cases h
   ·cases h
  ·exact insM_ev h
 ·exact insM_ev h
theorem makeL_ev {t : TypeId} {n c lv : LV} {H' : List Blk} (h : (makeL P H t n c).all (fun q => q = (lv, H'))) : EvL H H' := by
 unfold makeL at h
 split at h
 ·split at h
  ·split at h
   ·split at h
    ·simp only [T.all, Prod.mk.injEq] at h
     rw [← h.2.2]; exact EvL.app _ _
    ·cases h
   ·cases h
  ·cases h
 ·cases h
theorem appendL_ev {t tx : TypeId} {x y lv : LV} {H' : List Blk} (h : (appendL P H t tx x y).all (fun q => q = (lv, H'))) : EvL H H' := by
 unfold appendL at h
 split at h
 ·split at h
  ·split at h
   ·obtain ⟨q, _, h⟩ := T.bind_all h
    ·split at h
     ·simp only [T.all, Prod.mk.injEq] at h
      rw [← h.2.2]; exact EvL.app _ _
     ·split at h
      ·rename_i hb
       split at h
       ·split at h
        ·simp only [T.all, Prod.mk.injEq] at h
         rw [← h.2.2]
         refine (EvL.set hb ?_).trans (EvL.app _ _)
         exact ⟨fun hc => by simp [Blk.isCl] at hc, fun _ _ h => by simp [live] at h, fun _ => rfl⟩
        ·cases h
       ·cases h
      ·cases h
     ·cases h
   ·cases h
  ·cases h
 ·cases h
end Go.Sx
