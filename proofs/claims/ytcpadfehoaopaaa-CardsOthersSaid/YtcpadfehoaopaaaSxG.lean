/- The executor is right: code and functions. -/
import Derived.Test.YtcpadfehoaopaaaSxF
namespace Go.Sx
open Go Go.RowKit Go.Proofs.Ytcpadfehoaopaaa

variable {P : Program} {G : Globs} {Γ : Specs} {K : Hand} {A : Gz → Prop} {L : Loops} {β : Nat → Loc} {Z : Nat → Prop} {Z0 : Gz} {w w0 : World} {F : List LV} {H : List Blk} {a : Act} {n : Nat}

def exOf : Ex → Exit
  | .normal => .normal
  | .exit n => .exit n
  | .ret => .ret

/-- What is asked of a way of carrying code out. -/
def SoundA (P : Program) (G : Globs) (A : Gz → Prop) (c : Code) (t : List LV → List Blk → T (Ex × List LV × List Blk)) : Prop :=
  ∀ (w0 : World) (Z0 : Gz) (Z : Nat → Prop) (β : Nat → Loc) (F : List LV) (H : List Blk) (a : Act) (w : World) (Q : Exit → Act → World → Prop) (x : Ex) (F' : List LV) (H' : List Blk),
    A Z0 → RW G w0 Z0 Z β H w → RF β Z w H.length F a → (t F H).all (fun q => q = (x, F', H')) → (∀ Z' β' a' w', RW G w0 Z0 Z' β' H' w' → RF β' Z' w' H'.length F' a' → Q (exOf x) a' w') → c.wp P Q a w

/-- In a function that is not walked into. -/
abbrev Sound (P : Program) (G : Globs) := SoundA P G (fun z => z.gh = [])
def loopsIn : Code → List Code
  | .seq a b => loopsIn a ++ loopsIn b
  | .cond _ a b => loopsIn a ++ loopsIn b
  | .block _ b => loopsIn b
  | .loop b => [b]
  | _ => []

theorem code_soundA (hΓ : ∀ g S, Γ g = some S → Valid P G g S) (hK : KSound P G K) : ∀ (c : Code), (∀ b ∈ loopsIn c, SoundA P G A (.loop b) (L (firstR b))) → SoundA P G A c (codex P G Γ K L c)
  | .skip, _ => fun w0 Z0 Z β F H a w Q x F' H' hA hW hF h hQ => by
    simp only [codex, T.all, Prod.mk.injEq] at h
    obtain ⟨rfl, rfl, rfl⟩ := h
    exact wp_skip (hQ Z β a w hW hF)
  | .ret, _ => fun w0 Z0 Z β F H a w Q x F' H' hA hW hF h hQ => by
    simp only [codex, T.all, Prod.mk.injEq] at h
    obtain ⟨rfl, rfl, rfl⟩ := h
    exact wp_ret (hQ Z β a w hW hF)
  | .exit m, _ => fun w0 Z0 Z β F H a w Q x F' H' hA hW hF h hQ => by
    simp only [codex, T.all, Prod.mk.injEq] at h
    obtain ⟨rfl, rfl, rfl⟩ := h
    exact wp_exit (hQ Z β a w hW hF)
  | .region id ops d, _ => fun w0 Z0 Z β F H a w Q x F' H' hA hW hF h hQ => by
    simp only [codex] at h
    obtain ⟨⟨F1, H1⟩, h1, h2⟩ := T.bind_all h
    simp only [T.all, Prod.mk.injEq] at h2
    obtain ⟨rfl, rfl, rfl⟩ := h2
    cases d with
    | true => exact draw_sound hΓ hQ hW hF h1
    | false => exact reg_sound hΓ hK hQ hW hF h1
  | .seq c1 c2, hl => fun w0 Z0 Z β F H a w Q x F' H' hA hW hF h hQ => by
    simp only [codex] at h
    obtain ⟨⟨y, F1, H1⟩, h1, h2⟩ := T.bind_all h
    refine wp_seq (code_soundA hΓ hK c1 (fun b hb => hl b (by simp [loopsIn, hb])) w0 Z0 Z β F H a w _ y F1 H1 hA hW hF h1 fun Z' β' a' w' e1 e2 => ?_)
    cases y with
    | normal => exact code_soundA hΓ hK c2 (fun b hb => hl b (by simp [loopsIn, hb])) w0 Z0 Z' β' F1 H1 a' w' Q x F' H' hA e1 e2 h2 hQ
    | exit m =>
      simp only [T.all, Prod.mk.injEq] at h2
      obtain ⟨rfl, rfl, rfl⟩ := h2
      exact hQ Z' β' a' w' e1 e2
    | ret =>
      simp only [T.all, Prod.mk.injEq] at h2
      obtain ⟨rfl, rfl, rfl⟩ := h2
      exact hQ Z' β' a' w' e1 e2
  | .cond c c1 c2, hl => fun w0 Z0 Z β F H a w Q x F' H' hA hW hF h hQ => by
    have s1 := code_soundA hΓ hK c1 (fun b hb => hl b (by simp [loopsIn, hb]))
    have s2 := code_soundA hΓ hK c2 (fun b hb => hl b (by simp [loopsIn, hb]))
    simp only [codex] at h
    split at h
    · rename_i d
      split at h
      · rename_i hb
        obtain ⟨q1, q2⟩ := hF.slot hb (by simp)
        have hv := (hF.get d _ q1).1
        simp only [R] at hv
        exact wp_cond (t := true) (by simp only [Act.eval]; exact hv) (s1 w0 Z0 Z β F H a w Q x F' H' hA hW hF h hQ)
      · rename_i hb
        obtain ⟨q1, q2⟩ := hF.slot hb (by simp)
        have hv := (hF.get d _ q1).1
        simp only [R] at hv
        exact wp_cond (t := false) (by simp only [Act.eval]; exact hv) (s2 w0 Z0 Z β F H a w Q x F' H' hA hW hF h hQ)
      · rename_i g hb
        obtain ⟨q1, q2⟩ := hF.slot hb (by simp)
        have hv := (hF.get d _ q1).1
        simp only [R] at hv
        have kn : ∀ b, g = b → RF β Z w H.length (F.set d (.bl b)) a := fun b e => hF.know (by simp only [R]; rw [hv, e]) trivial
        simp only [T.all] at h
        refine wp_cond_split (t := g) (by simp only [Act.eval]; exact hv) (fun hg => s1 w0 Z0 Z β _ H a w Q x F' H' hA hW (kn true hg) (h.1 hg) hQ) (fun hg => s2 w0 Z0 Z β _ H a w Q x F' H' hA hW (kn false hg) (h.2 hg) hQ)
      · cases h
    · exact wp_cond (t := true) rfl (s1 w0 Z0 Z β F H a w Q x F' H' hA hW hF h hQ)
    · exact wp_cond (t := false) rfl (s2 w0 Z0 Z β F H a w Q x F' H' hA hW hF h hQ)
    · cases h
  | .block id c, hl => fun w0 Z0 Z β F H a w Q x F' H' hA hW hF h hQ => by
    simp only [codex] at h
    obtain ⟨⟨y, F1, H1⟩, h1, h2⟩ := T.bind_all h
    refine wp_block (code_soundA hΓ hK c (fun b hb => hl b (by simpa [loopsIn] using hb)) w0 Z0 Z β F H a w _ y F1 H1 hA hW hF h1 fun Z' β' a' w' e1 e2 => ?_)
    cases y with
    | normal =>
      simp only [T.all, Prod.mk.injEq] at h2
      obtain ⟨rfl, rfl, rfl⟩ := h2
      exact hQ Z' β' a' w' e1 e2
    | exit m =>
      simp only at h2
      simp only [exOf, Exit.inBlock]
      split at h2
      · rename_i hm
        simp only [T.all, Prod.mk.injEq] at h2
        obtain ⟨rfl, rfl, rfl⟩ := h2
        rw [if_pos hm]; exact hQ Z' β' a' w' e1 e2
      · rename_i hm
        simp only [T.all, Prod.mk.injEq] at h2
        obtain ⟨rfl, rfl, rfl⟩ := h2
        rw [if_neg hm]; exact hQ Z' β' a' w' e1 e2
    | ret =>
      simp only [T.all, Prod.mk.injEq] at h2
      obtain ⟨rfl, rfl, rfl⟩ := h2
      exact hQ Z' β' a' w' e1 e2
  | .loop b, hl => hl b (by simp [loopsIn])
  | .rangeFunc .., _ => fun w0 Z0 Z β F H a w Q x F' H' hA hW hF h hQ => by simp only [codex, T.all] at h
  | .scope .., _ => fun w0 Z0 Z β F H a w Q x F' H' hA hW hF h hQ => by simp only [codex, T.all] at h
  | .label .., _ => fun w0 Z0 Z β F H a w Q x F' H' hA hW hF h hQ => by simp only [codex, T.all] at h
  | .goto .., _ => fun w0 Z0 Z β F H a w Q x F' H' hA hW hF h hQ => by simp only [codex, T.all] at h
  | .refuse .., _ => fun w0 Z0 Z β F H a w Q x F' H' hA hW hF h hQ => by simp only [codex, T.all] at h


theorem code_sound (hΓ : ∀ g S, Γ g = some S → Valid P G g S) (hK : KSound P G K) (c : Code) (hl : ∀ b ∈ loopsIn c, Sound P G (.loop b) (L (firstR b))) : Sound P G c (codex P G Γ K L c) := code_soundA hΓ hK c hl

def resF (a : Act) : ResultVar → Sem Value
  | .tmp t => pure (a.tmps.getD t undef)
  | .cell ad t => do loadVar t (← asAddr (a.tmps.getD ad undef))
theorem resF_eq (fn : Func) (a : Act) : results fn a.tmps = (do let vs ← fn.results.mapM (resF a); pure (if h : vs.size = 1 then vs[0] else .tuple vs)) := by
  unfold results
  congr 1
theorem mapM_step {f : ResultVar → Sem Value} {r : ResultVar} {rs : List ResultVar} {z : Value} {vs : List Value} (h1 : (f r).run P w = .ok z w) (h2 : (rs.mapM f).run P w = .ok vs w) : ((r :: rs).mapM f).run P w = .ok (z :: vs) w := by
  rw [List.mapM_cons]
  simp only [Sem.run_bind, h1, h2, Result.andThen_ok, Sem.run_pure]
theorem resx_sound {fn : Func} : ∀ (rs : List ResultVar) (l : List LV), RW G w0 Z0 Z β H w → RF β Z w H.length F a → (resx P fn F H rs).all (fun q => q = l) →
    ∃ vs : List Value, (rs.mapM (resF a)).run P w = .ok vs w ∧ RL β Z w l vs ∧ okL H.length l
  | [], l, hW, hF, h => by
    simp only [resx, T.all] at h
    subst h
    exact ⟨[], by simp, by simp [RL], trivial⟩
  | .tmp t :: rs, l, hW, hF, h => by
    simp only [resx] at h
    obtain ⟨l1, h1, h2⟩ := T.bind_all h
    simp only [T.all] at h2
    obtain ⟨vs, e1, e2, e3⟩ := resx_sound rs l1 hW hF h1
    have ev := hF.eval hW.glob (.tmp t)
    simp only [evalL, Act.eval] at ev
    refine ⟨a.tmps.getD t undef :: vs, ?_, ?_, ?_⟩
    · exact mapM_step rfl e1
    · rw [← h2]; simp only [RL]; exact ⟨_, _, rfl, norm_R ev.1, e2⟩
    · rw [← h2]; exact ⟨norm_ok ev.2, e3⟩
  | .cell ad t :: rs, l, hW, hF, h => by
    simp only [resx] at h
    obtain ⟨y, h1, h2⟩ := T.bind_all h
    obtain ⟨l1, h3, h4⟩ := T.bind_all h2
    simp only [T.all] at h4
    obtain ⟨vs, e1, e2, e3⟩ := resx_sound rs l1 hW hF h3
    have ev := hF.eval hW.glob (.tmp ad)
    simp only [evalL, Act.eval] at ev
    obtain ⟨z, f1, f2, f3⟩ := loadL_sound hW h1 ev.1 ev.2
    have f1 := f1 w (fun _ _ => rfl)
    have f4 : (do loadVar t (← asAddr (a.tmps.getD ad undef)) : Sem Value).run P w = .ok z w := by
      have hp : ∃ q, a.tmps.getD ad undef = .pointer (some q) := by
        have hr := ev.1
        generalize hx : F.getD ad .junk = x at h1 hr
        cases x with
        | own k off => simp only [R] at hr; exact ⟨_, hr⟩
        | xq n f => simp only [R] at hr; obtain ⟨b, off, e, _⟩ := hr; exact ⟨_, e⟩
        | op k es i j => simp only [R] at hr; exact ⟨_, hr.2⟩
        | _ => unfold loadL at h1; split at h1 <;> simp only [T.all] at h1
      obtain ⟨q, hq⟩ := hp
      rw [hq] at f1 ⊢
      simpa [Instr.loadAt, Instr.sureAddr, asAddr] using f1
    refine ⟨z :: vs, ?_, ?_, ?_⟩
    · exact mapM_step f4 e1
    · rw [← h4]; simp only [RL]; exact ⟨_, _, rfl, f2, e2⟩
    · rw [← h4]; exact ⟨f3, e3⟩

theorem one_R {l : List LV} {vs : List Value} (h : RL β Z w l vs) : R β Z w (one l) (if hs : vs.toArray.size = 1 then vs.toArray[0] else .tuple vs.toArray) := by
  unfold one
  have hl := RL.length h
  split
  · rename_i x
    simp only [RL] at h
    obtain ⟨y, zs, e1, e2, e3⟩ := h
    subst e1 e3
    simpa using e2
  · rename_i hne
    have : ¬ vs.toArray.size = 1 := by
      intro h1
      simp at h1
      rw [h1] at hl
      cases l with
      | nil => simp at hl
      | cons x xs => cases xs with
        | nil => exact hne x rfl
        | cons _ _ => simp at hl
    rw [dif_neg this]
    exact mkTup_R (by simpa using h)
theorem one_ok {l : List LV} (h : okL n l) : okV n (one l) := by
  unfold one
  split
  · exact h.1
  · exact mkTup_ok h

theorem frame_args {args : List LV} {vals : Array Value} (hr : RL β Z w args vals.toList) (hok : okL H.length args) (m : Nat) : RF β Z w H.length (args ++ List.replicate (m - args.length) (.v undef)) { tmps := vals ++ Array.replicate (m - vals.size) undef, defers := [] } := by
  have hlen : vals.size = args.length := by have := RL.length hr; simpa using this
  refine ⟨by simp [hlen], fun t x hx => ?_, rfl⟩
  by_cases ht : t < args.length
  · rw [List.getElem?_append_left ht] at hx
    obtain ⟨y, e1, e2⟩ := RL.get _ _ hr hx
    have e3 : (vals ++ Array.replicate (m - vals.size) undef).getD t undef = y := by
      have hts : t < vals.size := by omega
      have : vals[t]? = some y := by simpa using e1
      rw [Array.getD_eq_getD_getElem?, Array.getElem?_append_left hts, this]; rfl
    exact ⟨by rw [e3]; exact e2, okL.get _ _ hok hx⟩
  · rw [List.getElem?_append_right (by omega)] at hx
    have hx' : x = .v undef := by
      rw [List.getElem?_replicate] at hx
      split at hx
      · simpa using hx.symm
      · cases hx
    have e3 : (vals ++ Array.replicate (m - vals.size) undef).getD t undef = undef := by
      rw [Array.getD_eq_getD_getElem?, Array.getElem?_append_right (by omega), Array.getElem?_replicate]
      split <;> rfl
    rw [hx', e3]
    exact ⟨by simp only [R], trivial⟩
theorem noLoops_sound {b : Code} : SoundA P G A (.loop b) (noLoops (firstR b)) := fun _ _ _ _ _ _ _ _ _ _ _ _ _ _ _ h => by cases h
/-- Calls walked into. -/
theorem inl_sound (hΓ : ∀ g S, Γ g = some S → Valid P G g S) : ∀ (d : Nat), KSound P G (inl P G Γ d)
  | 0 => noK_sound
  | d + 1 => fun w0 Z0 Z β H w g args vals lv H' hW hr hok h => by
    simp only [inl] at h
    split at h
    · rename_i fn hfn
      split at h
      · rename_i c hc
        obtain ⟨⟨x, F1, H1⟩, h1, h2⟩ := T.bind_all h
        refine calls_of_wp hfn hc ?_
        refine code_soundA (A := fun _ => True) (L := noLoops) hΓ (inl_sound hΓ d) c (fun b _ => noLoops_sound) w0 Z0 Z β _ H _ w _ x F1 H1 trivial hW (frame_args hr hok fn.ntmps) h1 fun Z' β' a' w' e1 e2 => ?_
        have fin : ∀ (h2 : ((resx P fn F1 H1 fn.results.toList).bind fun l => (T.ok (one l, H1) : T (LV × List Blk))).all (fun q => q = (lv, H'))), ∃ v, (results fn a'.tmps).run P w' = .ok v w' ∧ (∃ v', Ending.returned v = .returned v' ∧ ∃ Z'' β'', RW G w0 Z0 Z'' β'' H' w' ∧ R β'' Z'' w' lv v' ∧ okV H'.length lv) := fun h2 => by
          obtain ⟨l, g1, g2⟩ := T.bind_all h2
          simp only [T.all, Prod.mk.injEq] at g2
          obtain ⟨g2, g3⟩ := g2
          subst g3
          obtain ⟨vs, g3, g4, g5⟩ := resx_sound fn.results.toList l e1 e2 g1
          refine ⟨if hs : vs.toArray.size = 1 then vs.toArray[0] else .tuple vs.toArray, ?_, _, rfl, Z', β', e1, ?_, ?_⟩
          · rw [resF_eq, Array.mapM_eq_mapM_toList]
            simp only [Sem.run_bind, Sem.run_map, g3, Result.andThen_ok, Sem.run_pure]
          · rw [← g2]; exact one_R g4
          · rw [← g2]; exact one_ok g5
        cases x with
        | normal => exact ⟨e2.defers, fin h2⟩
        | ret => exact ⟨e2.defers, fin h2⟩
        | exit m => cases h2
      · cases h
    · cases h

/-- A WHOLE FUNCTION. -/
theorem valid_of {f : FuncId} {fn : Func} {c : Code} {S : List LV → T LV} (hfn : P.funcs[f]? = some fn) (hc : fn.body = some c) (hΓ : ∀ g S, Γ g = some S → Valid P G g S) (hK : KSound P G K)
    (hL : ∀ b ∈ loopsIn c, Sound P G (.loop b) (L (firstR b))) (hS : ∀ args lv, (S args).all (fun x => x = lv) → (funx P G Γ K L fn args).all (fun x => x = lv)) : Valid P G f S := by
  intro args vals w Z lv hz hg hok hr h
  have h := hS args lv h
  unfold funx at h
  simp only [hc] at h
  obtain ⟨⟨x, F', H'⟩, h1, h2⟩ := T.bind_all h
  have hlen : vals.size = args.length := by have := RL.length hr; simpa using this
  refine calls_of_wp hfn hc ?_
  have hW : RW G w ⟨Z, []⟩ Z β0 [] w := ⟨Below.refl _ _, hz, fun b h => .inl h, fun k b hk => by simp at hk, fun k b hk => by simp at hk, fun k b hk => by simp at hk, fun i j bi bj hi => by simp at hi, fun k b hb => by simp at hb, hg, fun p hp => by cases hp⟩
  have hF : RF β0 Z w ([] : List Blk).length (args ++ List.replicate (fn.ntmps - args.length) (.v undef)) { tmps := vals ++ Array.replicate (fn.ntmps - vals.size) undef, defers := [] } := by
    refine ⟨by simp [hlen], fun t x hx => ?_, rfl⟩
    by_cases ht : t < args.length
    · rw [List.getElem?_append_left ht] at hx
      obtain ⟨y, e1, e2⟩ := RL.get _ _ hr hx
      have e3 : (vals ++ Array.replicate (fn.ntmps - vals.size) undef).getD t undef = y := by
        have hts : t < vals.size := by omega
        have : vals[t]? = some y := by simpa using e1
        rw [Array.getD_eq_getD_getElem?, Array.getElem?_append_left hts, this]; rfl
      exact ⟨by rw [e3]; exact e2, okL.get _ _ hok hx⟩
    · rw [List.getElem?_append_right (by omega)] at hx
      have hx' : x = .v undef ∧ t - args.length < fn.ntmps - args.length := by
        rw [List.getElem?_replicate] at hx
        split at hx
        · rename_i hlt; exact ⟨by simpa using hx.symm, hlt⟩
        · cases hx
      have e3 : (vals ++ Array.replicate (fn.ntmps - vals.size) undef).getD t undef = undef := by
        rw [Array.getD_eq_getD_getElem?, Array.getElem?_append_right (by omega), Array.getElem?_replicate]
        split <;> rfl
      rw [hx'.1, e3]
      exact ⟨by simp only [R], trivial⟩
  refine code_sound (L := L) hΓ hK c hL w ⟨Z, []⟩ Z β0 _ [] _ w _ x F' H' rfl hW hF h1 fun Z' β' a' w' e1 e2 => ?_
  have fin : ∀ (h2 : ((resx P fn F' H' fn.results.toList).bind fun l => if noOwn (one l) then (T.ok (one l) : T LV) else (guardX H' 8 (one l)).bind fun _ => .ok (toX H' 8 (one l))).all (fun x => x = lv)), ∃ v, (results fn a'.tmps).run P w' = .ok v w' ∧ (Below w.heap.size w w' ∧ ∃ v', Ending.returned v = .returned v' ∧ okV 0 lv ∧ R β0 (fun b => Z b ∨ (w.heap.size ≤ b ∧ b < w'.heap.size)) w' lv v') := fun h2 => by
    obtain ⟨l, g1, g2⟩ := T.bind_all h2
    split at g2
    · rename_i hno
      simp only [T.all] at g2
      obtain ⟨vs, g3, g4, g5⟩ := resx_sound fn.results.toList l e1 e2 g1
      have hok0 : okV 0 lv := by rw [← g2]; exact noOwn_ok _ hno (one_ok g5)
      refine ⟨if hs : vs.toArray.size = 1 then vs.toArray[0] else .tuple vs.toArray, ?_, e1.below, _, rfl, hok0, ?_⟩
      · rw [resF_eq, Array.mapM_eq_mapM_toList]
        simp only [Sem.run_bind, Sem.run_map, g3, Result.andThen_ok, Sem.run_pure]
      · have := one_R g4
        rw [g2] at this
        exact R.mono (n := 0) (fun _ hk => absurd hk (by omega)) (fun b hb => by
          rcases e1.znew b hb with h | h
          · exact .inl h
          · exact .inr ⟨h, e1.zlt b hb⟩) (fun _ _ => rfl) _ _ hok0 this
    · obtain ⟨_, hg, g2⟩ := T.bind_all g2
      have hG := T.all_mono (K' := fun _ => True) (fun _ _ => trivial) hg
      simp only [T.all] at g2
      obtain ⟨vs, g3, g4, g5⟩ := resx_sound fn.results.toList l e1 e2 g1
      have hok0 : okV 0 lv := by rw [← g2]; exact toX_ok H' (fun k b hb => (e1.blk k b hb).2) 8 _ (one_ok g5)
      refine ⟨if hs : vs.toArray.size = 1 then vs.toArray[0] else .tuple vs.toArray, ?_, e1.below, _, rfl, hok0, ?_⟩
      · rw [resF_eq, Array.mapM_eq_mapM_toList]
        simp only [Sem.run_bind, Sem.run_map, g3, Result.andThen_ok, Sem.run_pure]
      · have := toX_R (S := fun _ => True) e1 (fun _ _ _ _ _ _ => trivial) 8 _ _ hG (fun _ _ => trivial) (one_ok g5) (one_R g4)
        rw [g2] at this
        exact R.mono (n := 0) (fun _ hk => absurd hk (by omega)) (fun b hb => by
          rcases hb with hb | ⟨k, bk, _, h2, h3, rfl⟩
          · rcases e1.znew b hb with h | h
            · exact .inl h
            · exact .inr ⟨h, e1.zlt b hb⟩
          · exact .inr ⟨e1.low k bk h2 h3, e1.lt h2 h3⟩) (fun _ _ => rfl) _ _ hok0 this
  cases x with
  | normal => exact ⟨e2.defers, fin h2⟩
  | ret => exact ⟨e2.defers, fin h2⟩
  | exit m => cases h2
end Go.Sx
