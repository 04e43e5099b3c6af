/- References: what they compute, by the executor. -/
import Derived.Test.YtakkjfldfghfcaaAi
namespace Go.Proofs.Ytakkjfldfghfcaa
open Go.Sx
structure L_cm where
  phases : Int
  out : Int
  bit : Int
  i : Int
  c_Kind : Int
  c_Phases : Int
  c_Max : Int
  c_Need : Int
  c_Delay : Int
def A_cm (s : L_cm) : List LV := [.v (.int .i64 s.phases), .own 0 0, .v (.int .i64 s.out), .v (.int .i64 s.bit), .v (.int .i64 s.i)]
def B_cm (s : L_cm) : List Blk := [⟨[.v (.int .i64 s.c_Kind), .v (.int .i64 s.c_Phases), .v (.int .i64 s.c_Max), .v (.int .i64 s.c_Need), .v (.int .i64 s.c_Delay)], 23, .cl, false⟩]
noncomputable def body_cm : Code := ((loopsIn (Try.f24.body.getD .skip))[0]?).getD .skip
def f_cm (s : L_cm) : Rd L_cm :=
  if (decide (s.i < 3)) then
    if (((IntKind.i64.wrap (s.c_Phases.tdiv s.bit)).tmod 2) == 1) then
      if ((((IntKind.i64.wrap (s.phases.tdiv s.bit)).tmod 2) == 1) && ((s.out == 0) || (s.c_Kind != 2))) then
        .next { s with out := (IntKind.i64.wrap (s.out + s.bit)), bit := (IntKind.i64.wrap (2 * s.bit)), i := (IntKind.i64.wrap (s.i + 1)) }
      else
        .next { s with bit := (IntKind.i64.wrap (2 * s.bit)), i := (IntKind.i64.wrap (s.i + 1)) }
    else
      .next { s with bit := (IntKind.i64.wrap (2 * s.bit)), i := (IntKind.i64.wrap (s.i + 1)) }
  else
    .stop (.exit 0) s
def P_cm (s : L_cm) := ((), s.phases, s.c_Kind, s.c_Phases, s.c_Max, s.c_Need, s.c_Delay)
theorem cm_ex : ∀ s x s', f_cm s = .stop x s' → x = .exit 0 := by
  intro s x s' h
  unfold f_cm at h
  repeat' split at h
  all_goals first | (cases h; done) | (cases h; rfl) | (cases h; simp)
def E_cm (s : L_cm) : Prop := s.i = 0 ∧ s.bit = 1 ∧ s.out = 0
def I_cm (s : L_cm) : Prop := (s.i = 0 ∧ s.bit = 1 ∧ s.out = 0) ∨ (s.i = 1 ∧ s.bit = 2 ∧ s.out = rst (s.c_Kind != 2) s.c_Phases s.phases 1 0) ∨ (s.i = 2 ∧ s.bit = 4 ∧ s.out = rst (s.c_Kind != 2) s.c_Phases s.phases 2 (rst (s.c_Kind != 2) s.c_Phases s.phases 1 0)) ∨ (s.i = 3 ∧ s.bit = 8 ∧ s.out = rst (s.c_Kind != 2) s.c_Phases s.phases 4 (rst (s.c_Kind != 2) s.c_Phases s.phases 2 (rst (s.c_Kind != 2) s.c_Phases s.phases 1 0)))
def mu_cm (s : L_cm) : Nat := (3 - s.i).toNat
def Q_cm (x : Ex) (s s' : L_cm) : Prop := s'.out = rst (s'.c_Kind != 2) s'.c_Phases s'.phases 4 (rst (s'.c_Kind != 2) s'.c_Phases s'.phases 2 (rst (s'.c_Kind != 2) s'.c_Phases s'.phases 1 0))
theorem cm_E : ∀ s, E_cm s → I_cm s := by
  intro s h
  exact .inl h
theorem cm_da (s : L_cm) (hI : I_cm s) : allR (fun s' => I_cm s' ∧ mu_cm s' < mu_cm s) (fun x s' => Q_cm x s s') (f_cm s) := by
  unfold f_cm
  obtain ⟨phases, out, bit, i, k, ph, mx, nd, dl⟩ := s
  simp only [I_cm, mu_cm, Q_cm] at hI ⊢
  have d1 : IntKind.i64.wrap (2 * 1) = 2 ∧ IntKind.i64.wrap (2 * 2) = 4 ∧ IntKind.i64.wrap (2 * 4) = 8 ∧ IntKind.i64.wrap (0 + 1) = 1 ∧ IntKind.i64.wrap (1 + 1) = 2 ∧ IntKind.i64.wrap (2 + 1) = 3 := by decide
  obtain ⟨w1, w2, w3, w4, w5, w6⟩ := d1
  rcases hI with ⟨rfl, rfl, rfl⟩ | ⟨rfl, rfl, h⟩ | ⟨rfl, rfl, h⟩ | ⟨rfl, rfl, h⟩
  · refine allR_ite (fun c1 => allR_ite (fun c2 => allR_ite (fun c3 => ?_) (fun c3 => ?_)) (fun c2 => ?_)) (fun c1 => by simp at c1)
    all_goals (refine ⟨.inr (.inl ⟨w4, w1, ?_⟩), by simp only [w4]; decide⟩; simp only [rst, c2, if_true])
    · rw [if_pos c3]
    · rw [if_neg (by simp only [c3]; simp)]
    · simp
  · refine allR_ite (fun c1 => allR_ite (fun c2 => allR_ite (fun c3 => ?_) (fun c3 => ?_)) (fun c2 => ?_)) (fun c1 => by simp at c1)
    all_goals (refine ⟨.inr (.inr (.inl ⟨w5, w2, ?_⟩)), by simp only [w5]; decide⟩; rw [← h]; simp only [rst, c2, if_true])
    · rw [if_pos c3]
    · rw [if_neg (by simp only [c3]; simp)]
    · simp
  · refine allR_ite (fun c1 => allR_ite (fun c2 => allR_ite (fun c3 => ?_) (fun c3 => ?_)) (fun c2 => ?_)) (fun c1 => by simp at c1)
    all_goals (refine ⟨.inr (.inr (.inr ⟨w6, w3, ?_⟩)), by simp only [w6]; decide⟩; rw [← h]; simp only [rst, c2, if_true])
    · rw [if_pos c3]
    · rw [if_neg (by simp only [c3]; simp)]
    · simp
  · exact allR_ite (fun c1 => by simp at c1) (fun c1 => h)
theorem cm_d : ∀ s s', I_cm s → f_cm s = .next s' → I_cm s' ∧ mu_cm s' < mu_cm s := fun s s' hI h => allR_next (cm_da s hI) h
def sel_cm : List LV → List Blk → T L_cm
  | [.v (.int .i64 phases), .own 0 0, .v (.int .i64 out), .v (.int .i64 bit), .v (.int .i64 i)], [⟨[.v (.int .i64 c_Kind), .v (.int .i64 c_Phases), .v (.int .i64 c_Max), .v (.int .i64 c_Need), .v (.int .i64 c_Delay)], 23, .cl, false⟩] => .req (E_cm ⟨phases, out, bit, i, c_Kind, c_Phases, c_Max, c_Need, c_Delay⟩) (.ok ⟨phases, out, bit, i, c_Kind, c_Phases, c_Max, c_Need, c_Delay⟩)
  | _, _ => .no
theorem sel_cm_ok : ∀ vals blks s, (sel_cm vals blks).all (fun x => x = s) → E_cm s ∧ vals = A_cm s ∧ blks = B_cm s := by
  intro vals blks s h
  unfold sel_cm at h
  split at h
  · obtain ⟨h1, rfl⟩ := h
    exact ⟨h1, rfl, rfl⟩
  · cases h
def run_cm (s : L_cm) : L_cm := { (runW f_cm (mu_cm s + 1) s).2 with phases := s.phases, c_Kind := s.c_Kind, c_Phases := s.c_Phases, c_Max := s.c_Max, c_Need := s.c_Need, c_Delay := s.c_Delay }
theorem run_cm_eq (s : L_cm) : (runW f_cm (mu_cm s + 1) s).2 = run_cm s := by
  have hk := runW_keep (f := f_cm) P_cm (fun s s' hf => by
    unfold f_cm at hf
    repeat' split at hf
    all_goals cases hf
    all_goals rfl) (fun s x s' hf => by
    unfold f_cm at hf
    repeat' split at hf
    all_goals cases hf
    all_goals rfl) (mu_cm s + 1) s
  unfold run_cm
  generalize (runW f_cm (mu_cm s + 1) s).2 = r at *
  cases r
  simp only [P_cm, Prod.mk.injEq, true_and] at hk
  simp only [L_cm.mk.injEq, hk, and_self]
def exn_cm (s : L_cm) : Ex := (runW f_cm (mu_cm s + 1) s).1
def out_cm (s : L_cm) : T (Ex × List LV × List Blk) := .ok (.exit 0, frameOf 40 [1, 2, 5, 6, 7] (A_cm (run_cm s)), B_cm (run_cm s))
theorem nfl_cm (s : L_cm) : backT [1, 2, 5, 6, 7] [] (codex Try.prog noGlobs (specsOf []) noK noLoops body_cm (frameOf 40 [1, 2, 5, 6, 7] (A_cm s)) (B_cm s)) = .br (decide (s.i < 3)) (.req (s.bit ≠ 0) (.req ((2 : Int) ≠ 0) (.br (((IntKind.i64.wrap (s.c_Phases.tdiv s.bit)).tmod 2) == 1) (.req (s.bit ≠ 0) (.req ((2 : Int) ≠ 0) (.br ((((IntKind.i64.wrap (s.phases.tdiv s.bit)).tmod 2) == 1) && ((s.out == 0) || (s.c_Kind != 2))) (.ok (⟨.normal, 40, [.v (.int .i64 s.phases), .own 0 0, .v (.int .i64 (IntKind.i64.wrap (s.out + s.bit))), .v (.int .i64 (IntKind.i64.wrap (2 * s.bit))), .v (.int .i64 (IntKind.i64.wrap (s.i + 1)))], [⟨[.v (.int .i64 s.c_Kind), .v (.int .i64 s.c_Phases), .v (.int .i64 s.c_Max), .v (.int .i64 s.c_Need), .v (.int .i64 s.c_Delay)], 23, .cl, false⟩], true⟩)) (.ok (⟨.normal, 40, [.v (.int .i64 s.phases), .own 0 0, .v (.int .i64 s.out), .v (.int .i64 (IntKind.i64.wrap (2 * s.bit))), .v (.int .i64 (IntKind.i64.wrap (s.i + 1)))], [⟨[.v (.int .i64 s.c_Kind), .v (.int .i64 s.c_Phases), .v (.int .i64 s.c_Max), .v (.int .i64 s.c_Need), .v (.int .i64 s.c_Delay)], 23, .cl, false⟩], true⟩))))) (.ok (⟨.normal, 40, [.v (.int .i64 s.phases), .own 0 0, .v (.int .i64 s.out), .v (.int .i64 (IntKind.i64.wrap (2 * s.bit))), .v (.int .i64 (IntKind.i64.wrap (s.i + 1)))], [⟨[.v (.int .i64 s.c_Kind), .v (.int .i64 s.c_Phases), .v (.int .i64 s.c_Max), .v (.int .i64 s.c_Need), .v (.int .i64 s.c_Delay)], 23, .cl, false⟩], true⟩))))) (.ok (⟨.exit 0, 40, [.v (.int .i64 s.phases), .own 0 0, .v (.int .i64 s.out), .v (.int .i64 s.bit), .v (.int .i64 s.i)], [⟨[.v (.int .i64 s.c_Kind), .v (.int .i64 s.c_Phases), .v (.int .i64 s.c_Max), .v (.int .i64 s.c_Need), .v (.int .i64 s.c_Delay)], 23, .cl, false⟩], true⟩)) := by kernel_rfl
theorem stp_cm (s : L_cm) (hI : I_cm s) : AllT (fun v => v = rdV 40 A_cm B_cm (f_cm s)) (backT [1, 2, 5, 6, 7] [] (codex Try.prog noGlobs (specsOf []) noK noLoops body_cm (frameOf 40 [1, 2, 5, 6, 7] (A_cm s)) (B_cm s))) := by
  constructor
  rw [nfl_cm]
  unfold f_cm
  exact
    stp_br (fun c1 =>
      ⟨by (simp only [I_cm] at hI; omega),
        ⟨by (simp only [I_cm] at hI; omega),
          stp_br (fun c2 =>
            ⟨by (simp only [I_cm] at hI; omega),
              ⟨by (simp only [I_cm] at hI; omega),
                stp_br (fun c3 =>
                  rfl) (fun c3 =>
                  rfl)⟩⟩) (fun c2 =>
            rfl)⟩⟩) (fun c1 =>
      rfl)
theorem cm_end (s : L_cm) (hE : E_cm s) : ∃ s', I_cm s' ∧ f_cm s' = .stop (exn_cm s) (run_cm s) := by rw [← run_cm_eq]; exact runW_stop cm_d (mu_cm s + 1) s (cm_E s hE) (Nat.lt_succ_self _)
theorem cm_same : ∀ s x s', f_cm s = .stop x s' → s = s' := by
  intro s x s' h
  unfold f_cm at h
  repeat' split at h
  all_goals first | (cases h; done) | (cases h; rfl)
theorem cm_inv (s : L_cm) (hE : E_cm s) : I_cm (run_cm s) ∧ f_cm (run_cm s) = .stop (exn_cm s) (run_cm s) := by
  obtain ⟨s', hI, hf⟩ := cm_end s hE
  have hs := cm_same _ _ _ hf
  subst hs
  exact ⟨hI, hf⟩
theorem snd_cm : Sound Try.prog noGlobs (.loop body_cm) (loopT 40 [1, 2, 5, 6, 7] [] sel_cm out_cm) :=
  loop_view 40 [1, 2, 5, 6, 7] [] A_cm B_cm I_cm E_cm mu_cm f_cm sel_cm out_cm (code_sound (Γ := specsOf []) (K := noK) (L := noLoops) (specs_ok (l := []) trivial) noK_sound body_cm (fun b hb => by rw [show loopsIn body_cm = [] by kernel_rfl] at hb; cases hb))
    sel_cm_ok cm_E cm_d (fun s x s' hf => by have := cm_ex s x s' hf; intro h0; subst h0; simp at this) stp_cm (fun s hE => by
      obtain ⟨s', _, h2⟩ := cm_end s hE
      have h3 : exn_cm s = .exit 0 := cm_ex _ _ _ h2
      unfold out_cm
      rw [run_cm_eq]
      simp only [T.all, ← h3]
      rfl)
theorem cm_fin (s : L_cm) (hE : E_cm s) : ∃ s', I_cm s' ∧ Q_cm (exn_cm s) s' (run_cm s) := by
  obtain ⟨s', hI, hf⟩ := cm_end s hE
  exact ⟨s', hI, allR_stop (cm_da s' hI) hf⟩
def S0_rcommon : List LV → T LV
  | [.v (.agg ⟨[.int .i64 k, .int .i64 ph, .int .i64 mx, .int .i64 nd, .int .i64 dl]⟩), .v (.int .i64 p2)] => .req (1 ≤ ph ∧ ph ≤ 7 ∧ 1 ≤ p2 ∧ p2 ≤ 7) (.ok (.v (.int .i64 (cmn k ph p2))))
  | _ => .no
noncomputable def S_rcommon : List LV → T LV := upS Try.prog Try.f24.params.toList S0_rcommon
theorem nf_rcommon (k ph mx nd dl p2 : Int) : funu Try.prog noGlobs (specsOf []) noK (fun i => if i = 4 then loopT 40 [1, 2, 5, 6, 7] [] sel_cm out_cm else noLoops i) Try.f24 [.v (.agg #[.int .i64 k, .int .i64 ph, .int .i64 mx, .int .i64 nd, .int .i64 dl]), .v (.int .i64 p2)] = .req (E_cm (⟨p2, (0 : Int), (1 : Int), (0 : Int), k, ph, mx, nd, dl⟩ : L_cm)) (.ok (.v (.int .i64 (((run_cm (⟨p2, (0 : Int), (1 : Int), (0 : Int), k, ph, mx, nd, dl⟩ : L_cm)).out))))) := by kernel_rfl
theorem v_rcommon : Valid Try.prog noGlobs 24 S_rcommon := valid_ofu Try.func24 rfl (specs_ok (l := []) trivial) noK_sound (L := (fun i => if i = 4 then loopT 40 [1, 2, 5, 6, 7] [] sel_cm out_cm else noLoops i)) (fun b hb => by
  rw [show loopsIn _ = [body_cm] by kernel_rfl] at hb
  simp only [List.mem_cons, List.not_mem_nil, or_false] at hb
  subst hb
  exact snd_cm) (fun args lv h => by
  unfold S0_rcommon at h
  split at h
  · simp only [canL, canX]
    rw [nf_rcommon]
    rename_i k ph mx nd dl p2
    obtain ⟨⟨h1, h2, h3, h4⟩, rfl⟩ := h
    have hE : E_cm ⟨p2, (0 : Int), (1 : Int), (0 : Int), k, ph, mx, nd, dl⟩ := ⟨rfl, rfl, rfl⟩
    obtain ⟨s', _, hq⟩ := cm_fin _ hE
    refine ⟨hE, congrArg (fun z => LV.v (.int .i64 z)) ?_⟩
    rw [← rst3 ⟨h1, h2⟩ ⟨h3, h4⟩]
    exact hq
  · cases h)
structure L_sm where
  r : Bool
  i : Int
  l : List Int
  a_Ticks : Int
  a_Got : Int
  m : List Int
  b_Ticks : Int
  b_Got : Int
def A_sm (s : L_sm) : List LV := [.own 0 0, .own 1 0, .v (.bool s.r), .v (.int .i64 s.i)]
def B_sm (s : L_sm) : List Blk := [⟨[.xl (.int .i64) s.l, .v (.int .i64 s.a_Ticks), .v (.int .i64 s.a_Got)], 26, .cl, false⟩, ⟨[.xl (.int .i64) s.m, .v (.int .i64 s.b_Ticks), .v (.int .i64 s.b_Got)], 26, .cl, false⟩]
noncomputable def body_sm : Code := ((loopsIn (Try.f15.body.getD .skip))[0]?).getD .skip
def f_sm (s : L_sm) : Rd L_sm :=
  if (decide (s.i < ((List.length s.l : Int)))) then
    if (((gi s.l s.i)) != ((gi s.m s.i))) then
      .stop (.ret) { s with r := false }
    else
      .next { s with i := (IntKind.i64.wrap (s.i + 1)) }
  else
    .stop (.exit 0) s
def P_sm (s : L_sm) := ((), s.l, s.a_Ticks, s.a_Got, s.m, s.b_Ticks, s.b_Got)
theorem sm_ex : ∀ s x s', f_sm s = .stop x s' → x = .ret ∨ x = .exit 0 := by
  intro s x s' h
  unfold f_sm at h
  repeat' split at h
  all_goals first | (cases h; done) | (cases h; rfl) | (cases h; simp)
def G_sm (s : L_sm) (j : Int) : Bool := gi s.l j == gi s.m j
def E_sm (s : L_sm) : Prop := s.i = 0 ∧ 0 ≤ (s.l.length : Int) ∧ (s.l.length : Int) ≤ 1000 ∧ s.m.length = s.l.length
def I_sm (s : L_sm) : Prop := 0 ≤ s.i ∧ s.i ≤ (s.l.length : Int) ∧ (s.l.length : Int) ≤ 1000 ∧ (s.m.length = s.l.length) ∧ ∀ j : Nat, (j : Int) < s.i → G_sm s j = true
def mu_sm (s : L_sm) : Nat := ((s.l.length : Int) - s.i).toNat
def Q_sm (x : Ex) (s s' : L_sm) : Prop := (x = .exit 0 ∧ ∀ j : Nat, (j : Int) < (s'.l.length : Int) → G_sm s' j = true) ∨ (x = .ret ∧ s'.r = false ∧ ∃ j : Nat, (j : Int) < (s'.l.length : Int) ∧ G_sm s' j = false)
theorem sm_E : ∀ s, E_sm s → I_sm s := by
  intro s h
  obtain ⟨h0, h1, h2, h3⟩ := h
  exact ⟨by omega, by omega, h2, h3, fun j hj => by omega⟩
theorem sm_da (s : L_sm) (hI : I_sm s) : allR (fun s' => I_sm s' ∧ mu_sm s' < mu_sm s) (fun x s' => Q_sm x s s') (f_sm s) := by
  unfold f_sm
  obtain ⟨h0, h1, h2, h3, h4⟩ := hI
  refine allR_ite (fun c1 => allR_ite (fun c2 => ?_) (fun c2 => ?_)) (fun c1 => ?_)
  · have c1 : s.i < (s.l.length : Int) := by simpa using c1
    refine .inr ⟨rfl, rfl, s.i.toNat, by simp only; omega, ?_⟩
    rw [Int.toNat_of_nonneg h0]
    have hg : G_sm s s.i = false := by unfold G_sm; simpa [bne] using c2
    exact hg
  · have c1 : s.i < (s.l.length : Int) := by simpa using c1
    have hg : G_sm s s.i = true := by unfold G_sm; simpa [bne] using c2
    rw [wrapS (x := s.i + 1) (by omega) (by omega)]
    refine ⟨⟨by simp only; omega, by simp only; omega, h2, h3, fun j hj => ?_⟩, by simp only [mu_sm]; omega⟩
    by_cases hji : (j : Int) < s.i
    · exact h4 j hji
    · have : (j : Int) = s.i := by simp only at hj; omega
      rw [this]; exact hg
  · have c1 : (s.l.length : Int) ≤ s.i := by simpa using c1
    exact .inl ⟨rfl, fun j hj => h4 j (by omega)⟩
theorem sm_d : ∀ s s', I_sm s → f_sm s = .next s' → I_sm s' ∧ mu_sm s' < mu_sm s := fun s s' hI h => allR_next (sm_da s hI) h
def sel_sm : List LV → List Blk → T L_sm
  | [.own 0 0, .own 1 0, .v (.bool r), .v (.int .i64 i)], [⟨[.xl (.int .i64) l, .v (.int .i64 a_Ticks), .v (.int .i64 a_Got)], 26, .cl, false⟩, ⟨[.xl (.int .i64) m, .v (.int .i64 b_Ticks), .v (.int .i64 b_Got)], 26, .cl, false⟩] => .req (E_sm ⟨r, i, l, a_Ticks, a_Got, m, b_Ticks, b_Got⟩) (.ok ⟨r, i, l, a_Ticks, a_Got, m, b_Ticks, b_Got⟩)
  | _, _ => .no
theorem sel_sm_ok : ∀ vals blks s, (sel_sm vals blks).all (fun x => x = s) → E_sm s ∧ vals = A_sm s ∧ blks = B_sm s := by
  intro vals blks s h
  unfold sel_sm at h
  split at h
  · obtain ⟨h1, rfl⟩ := h
    exact ⟨h1, rfl, rfl⟩
  · cases h
def run_sm (s : L_sm) : L_sm := { (runW f_sm (mu_sm s + 1) s).2 with l := s.l, a_Ticks := s.a_Ticks, a_Got := s.a_Got, m := s.m, b_Ticks := s.b_Ticks, b_Got := s.b_Got }
theorem run_sm_eq (s : L_sm) : (runW f_sm (mu_sm s + 1) s).2 = run_sm s := by
  have hk := runW_keep (f := f_sm) P_sm (fun s s' hf => by
    unfold f_sm at hf
    repeat' split at hf
    all_goals cases hf
    all_goals rfl) (fun s x s' hf => by
    unfold f_sm at hf
    repeat' split at hf
    all_goals cases hf
    all_goals rfl) (mu_sm s + 1) s
  unfold run_sm
  generalize (runW f_sm (mu_sm s + 1) s).2 = r at *
  cases r
  simp only [P_sm, Prod.mk.injEq, true_and] at hk
  simp only [L_sm.mk.injEq, hk, and_self]
def exn_sm (s : L_sm) : Ex := (runW f_sm (mu_sm s + 1) s).1
def out_sm (s : L_sm) : T (Ex × List LV × List Blk) := .br (isEx (exn_sm s) (.ret)) (.ok (.ret, frameOf 45 [2, 3, 4, 5] (A_sm (run_sm s)), B_sm (run_sm s))) (.ok (.exit 0, frameOf 45 [2, 3, 4, 5] (A_sm (run_sm s)), B_sm (run_sm s)))
theorem nfl_sm (s : L_sm) : backT [2, 3, 4, 5] [] (codex Try.prog noGlobs (specsOf []) noK noLoops body_sm (frameOf 45 [2, 3, 4, 5] (A_sm s)) (B_sm s)) = .br (decide (s.i < ((List.length s.l : Int)))) (.req (0 ≤ s.i ∧ s.i < (List.length s.l : Int)) (.req (0 ≤ s.i ∧ s.i < (List.length s.m : Int)) (.br (((gi s.l s.i)) != ((gi s.m s.i))) (.ok (⟨.ret, 45, [.own 0 0, .own 1 0, .v (.bool false), .v (.int .i64 s.i)], [⟨[.xl (.int .i64) s.l, .v (.int .i64 s.a_Ticks), .v (.int .i64 s.a_Got)], 26, .cl, false⟩, ⟨[.xl (.int .i64) s.m, .v (.int .i64 s.b_Ticks), .v (.int .i64 s.b_Got)], 26, .cl, false⟩], true⟩)) (.ok (⟨.normal, 45, [.own 0 0, .own 1 0, .v (.bool s.r), .v (.int .i64 (IntKind.i64.wrap (s.i + 1)))], [⟨[.xl (.int .i64) s.l, .v (.int .i64 s.a_Ticks), .v (.int .i64 s.a_Got)], 26, .cl, false⟩, ⟨[.xl (.int .i64) s.m, .v (.int .i64 s.b_Ticks), .v (.int .i64 s.b_Got)], 26, .cl, false⟩], true⟩))))) (.ok (⟨.exit 0, 45, [.own 0 0, .own 1 0, .v (.bool s.r), .v (.int .i64 s.i)], [⟨[.xl (.int .i64) s.l, .v (.int .i64 s.a_Ticks), .v (.int .i64 s.a_Got)], 26, .cl, false⟩, ⟨[.xl (.int .i64) s.m, .v (.int .i64 s.b_Ticks), .v (.int .i64 s.b_Got)], 26, .cl, false⟩], true⟩)) := by kernel_rfl
theorem stp_sm (s : L_sm) (hI : I_sm s) : AllT (fun v => v = rdV 45 A_sm B_sm (f_sm s)) (backT [2, 3, 4, 5] [] (codex Try.prog noGlobs (specsOf []) noK noLoops body_sm (frameOf 45 [2, 3, 4, 5] (A_sm s)) (B_sm s))) := by
  constructor
  rw [nfl_sm]
  unfold f_sm
  exact
    stp_br (fun c1 =>
      ⟨by (obtain ⟨h0, h1, h2, h3, h4⟩ := hI; simp at c1; omega),
        ⟨by (obtain ⟨h0, h1, h2, h3, h4⟩ := hI; simp at c1; omega),
          stp_br (fun c2 =>
            rfl) (fun c2 =>
            rfl)⟩⟩) (fun c1 =>
      rfl)
theorem sm_end (s : L_sm) (hE : E_sm s) : ∃ s', I_sm s' ∧ f_sm s' = .stop (exn_sm s) (run_sm s) := by rw [← run_sm_eq]; exact runW_stop sm_d (mu_sm s + 1) s (sm_E s hE) (Nat.lt_succ_self _)
theorem snd_sm : Sound Try.prog noGlobs (.loop body_sm) (loopT 45 [2, 3, 4, 5] [] sel_sm out_sm) :=
  loop_view 45 [2, 3, 4, 5] [] A_sm B_sm I_sm E_sm mu_sm f_sm sel_sm out_sm (code_sound (Γ := specsOf []) (K := noK) (L := noLoops) (specs_ok (l := []) trivial) noK_sound body_sm (fun b hb => by rw [show loopsIn body_sm = [] by kernel_rfl] at hb; cases hb))
    sel_sm_ok sm_E sm_d (fun s x s' hf => by have := sm_ex s x s' hf; intro h0; subst h0; simp at this) stp_sm (fun s hE => by
      obtain ⟨s', _, h2⟩ := sm_end s hE
      have h3 := sm_ex _ _ _ h2
      have h4 : (runW f_sm (mu_sm s + 1) s).1 = exn_sm s := rfl
      rw [h4, run_sm_eq]
      unfold out_sm
      generalize exn_sm s = e at h3
      rcases h3 with h3 | h3 <;> subst h3 <;> simp [T.all, isEx])
theorem sm_fin (s : L_sm) (hE : E_sm s) : ∃ s', I_sm s' ∧ Q_sm (exn_sm s) s' (run_sm s) := by
  obtain ⟨s', hI, hf⟩ := sm_end s hE
  exact ⟨s', hI, allR_stop (sm_da s' hI) hf⟩
def S0_same : List LV → T LV
  | [.agg [.xl (.int .i64) pil, .v (.int .i64 tk), .v (.int .i64 got)], .agg [.xl (.int .i64) pil2, .v (.int .i64 tk2), .v (.int .i64 got2)]] => .req ((List.length pil : Int) ≤ 1000) (.ok (.v (.bool (decide (pil = pil2 ∧ tk = tk2 ∧ got = got2)))))
  | _ => .no
noncomputable def S_same : List LV → T LV := upS Try.prog Try.f15.params.toList S0_same
theorem nf_same (pil : List Int) (tk got : Int) (pil2 : List Int) (tk2 got2 : Int) : funu Try.prog noGlobs (specsOf []) noK (fun i => if i = 4 then loopT 45 [2, 3, 4, 5] [] sel_sm out_sm else noLoops i) Try.f15 [.agg [.xl (.int .i64) pil, .v (.int .i64 tk), .v (.int .i64 got)], .agg [.xl (.int .i64) pil2, .v (.int .i64 tk2), .v (.int .i64 got2)]] = .br ((((List.length pil : Int)) != ((List.length pil2 : Int))) || ((tk != tk2) || (got != got2))) (.ok (.v (.bool false))) (.req (E_sm (⟨false, (0 : Int), pil, tk, got, pil2, tk2, got2⟩ : L_sm)) (.br (isEx (exn_sm (⟨false, (0 : Int), pil, tk, got, pil2, tk2, got2⟩ : L_sm)) (.ret)) (.ok (.v (.bool (((run_sm (⟨false, (0 : Int), pil, tk, got, pil2, tk2, got2⟩ : L_sm)).r))))) (.ok (.v (.bool true))))) := by kernel_rfl
theorem v_same : Valid Try.prog noGlobs 15 S_same := valid_ofu Try.func15 rfl (specs_ok (l := []) trivial) noK_sound (L := (fun i => if i = 4 then loopT 45 [2, 3, 4, 5] [] sel_sm out_sm else noLoops i)) (fun b hb => by
  rw [show loopsIn _ = [body_sm] by kernel_rfl] at hb
  simp only [List.mem_cons, List.not_mem_nil, or_false] at hb
  subst hb
  exact snd_sm) (fun args lv h => by
  unfold S0_same at h
  split at h
  · simp only [canL, canX]
    rw [nf_same]
    rename_i pil tk got pil2 tk2 got2
    obtain ⟨hn, rfl⟩ := h
    refine ⟨fun c1 => congrArg (fun z => LV.v (.bool z)) ?_, fun c1 => ?_⟩
    · rw [eq_comm, decide_eq_false_iff_not]
      rintro ⟨rfl, rfl, rfl⟩
      simp at c1
    simp at c1
    obtain ⟨c1, rfl, rfl⟩ := c1
    have hl : pil.length = pil2.length := by omega
    have hE : E_sm ⟨false, (0 : Int), pil, tk, got, pil2, tk, got⟩ := ⟨rfl, by simp only; omega, hn, hl.symm⟩
    obtain ⟨s', _, hq⟩ := sm_fin _ hE
    rcases hq with ⟨h1, h2⟩ | ⟨h1, h2, j, h3, h4⟩
    · rw [h1]
      refine ⟨hE, fun h => (by cases h), fun _ => congrArg (fun z => LV.v (.bool z)) ?_⟩
      rw [eq_comm, decide_eq_true_eq]
      refine ⟨List.ext_getElem hl fun j hj hj' => ?_, rfl, rfl⟩
      have := h2 j (by show (j : Int) < (pil.length : Int); omega)
      unfold G_sm at this
      rw [show (run_sm _).l = pil from rfl, show (run_sm _).m = pil2 from rfl, gi_eq (by simpa using hj), gi_eq (by simpa using hj')] at this
      simpa using this
    · rw [h1, h2]
      refine ⟨hE, fun _ => congrArg (fun z => LV.v (.bool z)) ?_, fun h => by cases h⟩
      rw [eq_comm, decide_eq_false_iff_not]
      rintro ⟨rfl, _, _⟩
      unfold G_sm at h4
      rw [show (run_sm _).l = pil from rfl, show (run_sm _).m = pil from rfl] at h4
      simp at h4
  · cases h)
def S0_rdrw : List LV → T LV
  | [.v (.agg ⟨[.int .i64 k, .int .i64 ph, .int .i64 mx, .int .i64 nd, .int .i64 dl]⟩), .agg [.xl (.int .i64) pil, .v (.int .i64 tk), .v (.int .i64 got)], .v (.int .i64 p2), .v (.int .i64 al)] => .req ((List.length pil : Int) ≤ 1000) (.br (drB k ph mx nd dl pil tk got p2 al) (.ok (.tup [.v (.int .i64 (dA k ph mx nd dl pil tk got p2 al)), .v (.int .i64 (dO k ph mx nd dl pil tk got p2 al)), .agg [.xl (.int .i64) (dP pil al), .v (.int .i64 (tk + 1)), .v (.int .i64 (dG k ph mx nd dl pil tk got p2 al))], .v (.int .i64 0)])) (.ok (.tup [.v (.int .i64 0), .v (.int .i64 0), .agg [.xl (.int .i64) ([] : List Int), .v (.int .i64 0), .v (.int .i64 0)], .v (.int .i64 1)])))
  | _ => .no
noncomputable def S_rdrw : List LV → T LV := upS Try.prog Try.f12.params.toList S0_rdrw
theorem nf_rdrw (k ph mx nd dl : Int) (pil : List Int) (tk got p2 al : Int) : funu Try.prog noGlobs (specsOf [(16, S_count), (22, S_rvalid), (23, S_rstate), (24, S_rcommon), (25, S_current)]) noK noLoops Try.f12 [.v (.agg #[.int .i64 k, .int .i64 ph, .int .i64 mx, .int .i64 nd, .int .i64 dl]), .agg [.xl (.int .i64) pil, .v (.int .i64 tk), .v (.int .i64 got)], .v (.int .i64 p2), .v (.int .i64 al)] = .br (!(carB k ph mx nd dl)) (.ok (.tup [.v (.int .i64 0), .v (.int .i64 0), .agg [.xl (.int .i64) ([] : List Int), .v (.int .i64 0), .v (.int .i64 0)], .v (.int .i64 1)])) (.req ((List.length pil : Int) ≤ 1000) (.br ((!(mindB pil tk got)) || ((decide (p2 < 1)) || ((decide (p2 > 7)) || ((decide (al < 0)) || ((decide (al > 80)) || (tk == 1000000)))))) (.ok (.tup [.v (.int .i64 0), .v (.int .i64 0), .agg [.xl (.int .i64) ([] : List Int), .v (.int .i64 0), .v (.int .i64 0)], .v (.int .i64 1)])) (.req (1 ≤ ph ∧ ph ≤ 7 ∧ 1 ≤ p2 ∧ p2 ≤ 7) (.br ((decide ((cmn k ph p2) > 0)) && (decide (got < nd))) (.req (carB k ph mx nd dl = true ∧ mindB pil tk got = true ∧ 0 ≤ al) (.br ((min mx (wish k dl tk mx pil al)) == 0) (.req ((List.length pil : Int) * 8 ≤ 2 ^ 47 ∧ (List.length pil : Int) < 2 ^ 62) (.req (0 + (List.length pil) = List.length pil ∧ ((List.length pil + List.length ([al]) : Nat) : Int) * 8 ≤ 2 ^ 47 ∧ ((List.length pil + List.length ([al]) : Nat) : Int) < 2 ^ 62) (.br (decide ((((List.length pil + List.length ([al]) : Nat) : Int)) > 21)) (.req (0 ≤ (1 : Int) ∧ (1 : Int) ≤ (((List.length pil + List.length ([al]) : Nat) : Int)) ∧ (((List.length pil + List.length ([al]) : Nat) : Int)) ≤ ((List.length pil + List.length ([al]) : Nat) : Int)) (.req (0 ≤ (0 : Int) ∧ (0 : Int) ≤ 7) (.req ((0 + (1 : Int).toNat) + ((((List.length pil + List.length ([al]) : Nat) : Int)).toNat - (1 : Int).toNat) ≤ List.length (pil ++ ([al]))) (.ok (.tup [.v (.int .i64 (min mx (wish k dl tk mx pil al))), .v (.int .i64 0), .agg [.xl (.int .i64) (((pil ++ ([al])).drop (0 + (1 : Int).toNat)).take ((((List.length pil + List.length ([al]) : Nat) : Int)).toNat - (1 : Int).toNat)), .v (.int .i64 (IntKind.i64.wrap (tk + 1))), .v (.int .i64 (IntKind.i64.wrap (got + (IntKind.i64.wrap ((IntKind.i64.wrap (2300 * (min mx (wish k dl tk mx pil al)))) * (cnt (0 : Int)))))))], .v (.int .i64 0)]))))) (.req (0 ≤ (0 : Int) ∧ (0 : Int) ≤ 7) (.req (0 + (List.length pil + List.length ([al])) ≤ List.length (pil ++ ([al]))) (.ok (.tup [.v (.int .i64 (min mx (wish k dl tk mx pil al))), .v (.int .i64 0), .agg [.xl (.int .i64) (((pil ++ ([al])).drop 0).take (List.length pil + List.length ([al]))), .v (.int .i64 (IntKind.i64.wrap (tk + 1))), .v (.int .i64 (IntKind.i64.wrap (got + (IntKind.i64.wrap ((IntKind.i64.wrap (2300 * (min mx (wish k dl tk mx pil al)))) * (cnt (0 : Int)))))))], .v (.int .i64 0)]))))))) (.req ((List.length pil : Int) * 8 ≤ 2 ^ 47 ∧ (List.length pil : Int) < 2 ^ 62) (.req (0 + (List.length pil) = List.length pil ∧ ((List.length pil + List.length ([al]) : Nat) : Int) * 8 ≤ 2 ^ 47 ∧ ((List.length pil + List.length ([al]) : Nat) : Int) < 2 ^ 62) (.br (decide ((((List.length pil + List.length ([al]) : Nat) : Int)) > 21)) (.req (0 ≤ (1 : Int) ∧ (1 : Int) ≤ (((List.length pil + List.length ([al]) : Nat) : Int)) ∧ (((List.length pil + List.length ([al]) : Nat) : Int)) ≤ ((List.length pil + List.length ([al]) : Nat) : Int)) (.req (0 ≤ (cmn k ph p2) ∧ (cmn k ph p2) ≤ 7) (.req ((0 + (1 : Int).toNat) + ((((List.length pil + List.length ([al]) : Nat) : Int)).toNat - (1 : Int).toNat) ≤ List.length (pil ++ ([al]))) (.ok (.tup [.v (.int .i64 (min mx (wish k dl tk mx pil al))), .v (.int .i64 (cmn k ph p2)), .agg [.xl (.int .i64) (((pil ++ ([al])).drop (0 + (1 : Int).toNat)).take ((((List.length pil + List.length ([al]) : Nat) : Int)).toNat - (1 : Int).toNat)), .v (.int .i64 (IntKind.i64.wrap (tk + 1))), .v (.int .i64 (IntKind.i64.wrap (got + (IntKind.i64.wrap ((IntKind.i64.wrap (2300 * (min mx (wish k dl tk mx pil al)))) * (cnt (cmn k ph p2)))))))], .v (.int .i64 0)]))))) (.req (0 ≤ (cmn k ph p2) ∧ (cmn k ph p2) ≤ 7) (.req (0 + (List.length pil + List.length ([al])) ≤ List.length (pil ++ ([al]))) (.ok (.tup [.v (.int .i64 (min mx (wish k dl tk mx pil al))), .v (.int .i64 (cmn k ph p2)), .agg [.xl (.int .i64) (((pil ++ ([al])).drop 0).take (List.length pil + List.length ([al]))), .v (.int .i64 (IntKind.i64.wrap (tk + 1))), .v (.int .i64 (IntKind.i64.wrap (got + (IntKind.i64.wrap ((IntKind.i64.wrap (2300 * (min mx (wish k dl tk mx pil al)))) * (cnt (cmn k ph p2)))))))], .v (.int .i64 0)]))))))))) (.br ((0 : Int) == 0) (.req ((List.length pil : Int) * 8 ≤ 2 ^ 47 ∧ (List.length pil : Int) < 2 ^ 62) (.req (0 + (List.length pil) = List.length pil ∧ ((List.length pil + List.length ([al]) : Nat) : Int) * 8 ≤ 2 ^ 47 ∧ ((List.length pil + List.length ([al]) : Nat) : Int) < 2 ^ 62) (.br (decide ((((List.length pil + List.length ([al]) : Nat) : Int)) > 21)) (.req (0 ≤ (1 : Int) ∧ (1 : Int) ≤ (((List.length pil + List.length ([al]) : Nat) : Int)) ∧ (((List.length pil + List.length ([al]) : Nat) : Int)) ≤ ((List.length pil + List.length ([al]) : Nat) : Int)) (.req (0 ≤ (0 : Int) ∧ (0 : Int) ≤ 7) (.req ((0 + (1 : Int).toNat) + ((((List.length pil + List.length ([al]) : Nat) : Int)).toNat - (1 : Int).toNat) ≤ List.length (pil ++ ([al]))) (.ok (.tup [.v (.int .i64 0), .v (.int .i64 0), .agg [.xl (.int .i64) (((pil ++ ([al])).drop (0 + (1 : Int).toNat)).take ((((List.length pil + List.length ([al]) : Nat) : Int)).toNat - (1 : Int).toNat)), .v (.int .i64 (IntKind.i64.wrap (tk + 1))), .v (.int .i64 (IntKind.i64.wrap (got + (IntKind.i64.wrap ((IntKind.i64.wrap (2300 * 0)) * (cnt (0 : Int)))))))], .v (.int .i64 0)]))))) (.req (0 ≤ (0 : Int) ∧ (0 : Int) ≤ 7) (.req (0 + (List.length pil + List.length ([al])) ≤ List.length (pil ++ ([al]))) (.ok (.tup [.v (.int .i64 0), .v (.int .i64 0), .agg [.xl (.int .i64) (((pil ++ ([al])).drop 0).take (List.length pil + List.length ([al]))), .v (.int .i64 (IntKind.i64.wrap (tk + 1))), .v (.int .i64 (IntKind.i64.wrap (got + (IntKind.i64.wrap ((IntKind.i64.wrap (2300 * 0)) * (cnt (0 : Int)))))))], .v (.int .i64 0)]))))))) (.req ((List.length pil : Int) * 8 ≤ 2 ^ 47 ∧ (List.length pil : Int) < 2 ^ 62) (.req (0 + (List.length pil) = List.length pil ∧ ((List.length pil + List.length ([al]) : Nat) : Int) * 8 ≤ 2 ^ 47 ∧ ((List.length pil + List.length ([al]) : Nat) : Int) < 2 ^ 62) (.br (decide ((((List.length pil + List.length ([al]) : Nat) : Int)) > 21)) (.req (0 ≤ (1 : Int) ∧ (1 : Int) ≤ (((List.length pil + List.length ([al]) : Nat) : Int)) ∧ (((List.length pil + List.length ([al]) : Nat) : Int)) ≤ ((List.length pil + List.length ([al]) : Nat) : Int)) (.req (0 ≤ (cmn k ph p2) ∧ (cmn k ph p2) ≤ 7) (.req ((0 + (1 : Int).toNat) + ((((List.length pil + List.length ([al]) : Nat) : Int)).toNat - (1 : Int).toNat) ≤ List.length (pil ++ ([al]))) (.ok (.tup [.v (.int .i64 0), .v (.int .i64 (cmn k ph p2)), .agg [.xl (.int .i64) (((pil ++ ([al])).drop (0 + (1 : Int).toNat)).take ((((List.length pil + List.length ([al]) : Nat) : Int)).toNat - (1 : Int).toNat)), .v (.int .i64 (IntKind.i64.wrap (tk + 1))), .v (.int .i64 (IntKind.i64.wrap (got + (IntKind.i64.wrap ((IntKind.i64.wrap (2300 * 0)) * (cnt (cmn k ph p2)))))))], .v (.int .i64 0)]))))) (.req (0 ≤ (cmn k ph p2) ∧ (cmn k ph p2) ≤ 7) (.req (0 + (List.length pil + List.length ([al])) ≤ List.length (pil ++ ([al]))) (.ok (.tup [.v (.int .i64 0), .v (.int .i64 (cmn k ph p2)), .agg [.xl (.int .i64) (((pil ++ ([al])).drop 0).take (List.length pil + List.length ([al]))), .v (.int .i64 (IntKind.i64.wrap (tk + 1))), .v (.int .i64 (IntKind.i64.wrap (got + (IntKind.i64.wrap ((IntKind.i64.wrap (2300 * 0)) * (cnt (cmn k ph p2)))))))], .v (.int .i64 0)])))))))))))) := by kernel_rfl
set_option maxHeartbeats 2000000 in
theorem v_rdrw : Valid Try.prog noGlobs 12 S_rdrw := valid_ofu Try.func12 rfl (specs_ok (l := [(16, S_count), (22, S_rvalid), (23, S_rstate), (24, S_rcommon), (25, S_current)]) ⟨v_count, v_rvalid, v_rstate, v_rcommon, v_current, trivial⟩) noK_sound (no_loops (by kernel_rfl)) (fun args lv h => by
  unfold S0_rdrw at h
  split at h
  · simp only [canL, canX]
    rw [nf_rdrw]
    rename_i k ph mx nd dl pil tk got p2 al
    obtain ⟨hn, h⟩ := h
    refine ⟨fun c1 => h.2 (by simp at c1; simp [drB, c1]), fun c1 => ⟨hn, fun c2 => h.2 ?_, fun c2 => ?_⟩⟩
    · simp at c1 c2
      rw [Bool.eq_false_iff]
      intro hB
      obtain ⟨hc, hm, h1, h2, h3, h4, h5⟩ := drB_iff.1 hB
      simp [hm] at c2
      omega
    simp at c1 c2
    have hB : drB k ph mx nd dl pil tk got p2 al = true := drB_iff.2 ⟨c1, c2.1, by omega, by omega, by omega, by omega, by omega⟩
    have h := h.1 hB
    obtain ⟨hc, hm, h1, h2, h3, h4, h5⟩ := drB_iff.1 hB
    clear c1 c2 hB
    simp only [T.all] at h
    subst h
    obtain ⟨b1, b2, b3, b4⟩ := dA_bound (pil := pil) (tk := tk) (got := got) (nd := nd) hc hm ⟨h1, h2⟩ ⟨h3, h4⟩
    have hc' := carB_iff.1 hc
    have hm' := mindB_iff.1 hm
    have hs := cmn_small (k := k) (ph := ph) (p2 := p2) ⟨by omega, by omega⟩ ⟨h1, h2⟩
    have hz : (cmn k ph p2 = 0 ∨ nd ≤ got) → dA k ph mx nd dl pil tk got p2 al = 0 := fun h => by unfold dA; rw [if_pos h]
    have hn : ¬ (cmn k ph p2 = 0 ∨ nd ≤ got) → dA k ph mx nd dl pil tk got p2 al = min mx (wish k dl tk mx pil al) := fun h => by unfold dA; rw [if_neg h]
    have ho1 : dA k ph mx nd dl pil tk got p2 al = 0 → dO k ph mx nd dl pil tk got p2 al = 0 := fun h => by unfold dO; rw [if_pos h]
    have ho2 : dA k ph mx nd dl pil tk got p2 al ≠ 0 → dO k ph mx nd dl pil tk got p2 al = cmn k ph p2 := fun h => by unfold dO; rw [if_neg h]
    have ht : IntKind.i64.wrap (tk + 1) = tk + 1 := wrapS (by omega) (by omega)
    unfold dG
    have fin : ∀ (a o : Int) (p : List Int), a = dA k ph mx nd dl pil tk got p2 al → o = dO k ph mx nd dl pil tk got p2 al → p = dP pil al → LV.tup [.v (.int .i64 a), .v (.int .i64 o), .agg [.xl (.int .i64) p, .v (.int .i64 (tk + 1)), .v (.int .i64 (IntKind.i64.wrap (got + IntKind.i64.wrap (IntKind.i64.wrap (2300 * a) * cnt o))))], .v (.int .i64 0)] = LV.tup [.v (.int .i64 (dA k ph mx nd dl pil tk got p2 al)), .v (.int .i64 (dO k ph mx nd dl pil tk got p2 al)), .agg [.xl (.int .i64) (dP pil al), .v (.int .i64 (tk + 1)), .v (.int .i64 (got + 2300 * dA k ph mx nd dl pil tk got p2 al * cnt (dO k ph mx nd dl pil tk got p2 al)))], .v (.int .i64 0)] := fun a o p e1 e2 e3 => by
      subst e1 e2 e3
      rw [gotW ⟨by omega, by omega⟩ ⟨by omega, by omega⟩]
    have hp1 : List.length pil = 21 → ((pil ++ [al]).drop 1).take (List.length pil + 1 - 1) = dP pil al := fun e => by
      unfold dP
      rw [e]
      exact List.take_of_length_le (by simp; omega)
    have hp2 : List.length pil ≤ 20 → (pil ++ [al]).take (List.length pil + 1) = dP pil al := fun e => by
      unfold dP
      rw [show List.length pil - 20 = 0 by omega]
      exact List.take_of_length_le (by simp)
    have hq1 : (1 : Int).toNat = 1 := rfl
    simp only [ht, List.length_cons, List.length_nil, List.length_append, Nat.zero_add, hq1, List.drop_zero, Int.toNat_natCast, true_and]
    generalize dP pil al = qP at *
    generalize dA k ph mx nd dl pil tk got p2 al = qA at *
    generalize dO k ph mx nd dl pil tk got p2 al = qO at *
    generalize wish k dl tk mx pil al = qw at *
    generalize cmn k ph p2 = qc at *
    refine ⟨⟨by omega, by omega, h1, h2⟩, ?_⟩
    refine ⟨fun c1 => ?_, fun c1 => ?_⟩
    · refine ⟨?_, ?_⟩
      · (try simp only [decide_eq_true_eq, gt_iff_lt] at *); first | exact ⟨hc, hm, h3⟩ | (clear fin hp1 hp2; omega)
      · refine ⟨fun c2 => ?_, fun c2 => ?_⟩
        · refine ⟨?_, ?_⟩
          · (try simp only [decide_eq_true_eq, gt_iff_lt] at *); first | exact ⟨hc, hm, h3⟩ | (clear fin hp1 hp2; omega)
          · refine ⟨?_, ?_⟩
            · (try simp only [decide_eq_true_eq, gt_iff_lt] at *); first | exact ⟨hc, hm, h3⟩ | (clear fin hp1 hp2; omega)
            · refine ⟨fun c3 => ?_, fun c3 => ?_⟩
              · refine ⟨?_, ?_⟩
                · (try simp only [decide_eq_true_eq, gt_iff_lt] at *); first | exact ⟨hc, hm, h3⟩ | (clear fin hp1 hp2; omega)
                · refine ⟨?_, ?_⟩
                  · (try simp only [decide_eq_true_eq, gt_iff_lt] at *); first | exact ⟨hc, hm, h3⟩ | (clear fin hp1 hp2; omega)
                  · refine ⟨?_, ?_⟩
                    · (try simp only [decide_eq_true_eq, gt_iff_lt] at *); first | exact ⟨hc, hm, h3⟩ | (clear fin hp1 hp2; omega)
                    · simp only [Bool.and_eq_true, Bool.and_eq_false_iff, beq_iff_eq, beq_eq_false_iff_ne, ne_eq, decide_eq_true_eq, decide_eq_false_iff_not, gt_iff_lt, Int.not_lt, Int.not_le] at *
                      refine fin _ _ _ ?_ ?_ (hp1 (by omega)) <;> (clear fin hp1 hp2; omega)
              · refine ⟨?_, ?_⟩
                · (try simp only [decide_eq_true_eq, gt_iff_lt] at *); first | exact ⟨hc, hm, h3⟩ | (clear fin hp1 hp2; omega)
                · refine ⟨?_, ?_⟩
                  · (try simp only [decide_eq_true_eq, gt_iff_lt] at *); first | exact ⟨hc, hm, h3⟩ | (clear fin hp1 hp2; omega)
                  · simp only [Bool.and_eq_true, Bool.and_eq_false_iff, beq_iff_eq, beq_eq_false_iff_ne, ne_eq, decide_eq_true_eq, decide_eq_false_iff_not, gt_iff_lt, Int.not_lt, Int.not_le] at *
                    refine fin _ _ _ ?_ ?_ (hp2 (by omega)) <;> (clear fin hp1 hp2; omega)
        · refine ⟨?_, ?_⟩
          · (try simp only [decide_eq_true_eq, gt_iff_lt] at *); first | exact ⟨hc, hm, h3⟩ | (clear fin hp1 hp2; omega)
          · refine ⟨?_, ?_⟩
            · (try simp only [decide_eq_true_eq, gt_iff_lt] at *); first | exact ⟨hc, hm, h3⟩ | (clear fin hp1 hp2; omega)
            · refine ⟨fun c3 => ?_, fun c3 => ?_⟩
              · refine ⟨?_, ?_⟩
                · (try simp only [decide_eq_true_eq, gt_iff_lt] at *); first | exact ⟨hc, hm, h3⟩ | (clear fin hp1 hp2; omega)
                · refine ⟨?_, ?_⟩
                  · (try simp only [decide_eq_true_eq, gt_iff_lt] at *); first | exact ⟨hc, hm, h3⟩ | (clear fin hp1 hp2; omega)
                  · refine ⟨?_, ?_⟩
                    · (try simp only [decide_eq_true_eq, gt_iff_lt] at *); first | exact ⟨hc, hm, h3⟩ | (clear fin hp1 hp2; omega)
                    · simp only [Bool.and_eq_true, Bool.and_eq_false_iff, beq_iff_eq, beq_eq_false_iff_ne, ne_eq, decide_eq_true_eq, decide_eq_false_iff_not, gt_iff_lt, Int.not_lt, Int.not_le] at *
                      refine fin _ _ _ ?_ ?_ (hp1 (by omega)) <;> (clear fin hp1 hp2; omega)
              · refine ⟨?_, ?_⟩
                · (try simp only [decide_eq_true_eq, gt_iff_lt] at *); first | exact ⟨hc, hm, h3⟩ | (clear fin hp1 hp2; omega)
                · refine ⟨?_, ?_⟩
                  · (try simp only [decide_eq_true_eq, gt_iff_lt] at *); first | exact ⟨hc, hm, h3⟩ | (clear fin hp1 hp2; omega)
                  · simp only [Bool.and_eq_true, Bool.and_eq_false_iff, beq_iff_eq, beq_eq_false_iff_ne, ne_eq, decide_eq_true_eq, decide_eq_false_iff_not, gt_iff_lt, Int.not_lt, Int.not_le] at *
                    refine fin _ _ _ ?_ ?_ (hp2 (by omega)) <;> (clear fin hp1 hp2; omega)
    · refine ⟨fun c2 => ?_, fun c2 => ?_⟩
      · refine ⟨?_, ?_⟩
        · (try simp only [decide_eq_true_eq, gt_iff_lt] at *); first | exact ⟨hc, hm, h3⟩ | (clear fin hp1 hp2; omega)
        · refine ⟨?_, ?_⟩
          · (try simp only [decide_eq_true_eq, gt_iff_lt] at *); first | exact ⟨hc, hm, h3⟩ | (clear fin hp1 hp2; omega)
          · refine ⟨fun c3 => ?_, fun c3 => ?_⟩
            · refine ⟨?_, ?_⟩
              · (try simp only [decide_eq_true_eq, gt_iff_lt] at *); first | exact ⟨hc, hm, h3⟩ | (clear fin hp1 hp2; omega)
              · refine ⟨?_, ?_⟩
                · (try simp only [decide_eq_true_eq, gt_iff_lt] at *); first | exact ⟨hc, hm, h3⟩ | (clear fin hp1 hp2; omega)
                · refine ⟨?_, ?_⟩
                  · (try simp only [decide_eq_true_eq, gt_iff_lt] at *); first | exact ⟨hc, hm, h3⟩ | (clear fin hp1 hp2; omega)
                  · simp only [Bool.and_eq_true, Bool.and_eq_false_iff, beq_iff_eq, beq_eq_false_iff_ne, ne_eq, decide_eq_true_eq, decide_eq_false_iff_not, gt_iff_lt, Int.not_lt, Int.not_le] at *
                    refine fin _ _ _ ?_ ?_ (hp1 (by omega)) <;> (clear fin hp1 hp2; omega)
            · refine ⟨?_, ?_⟩
              · (try simp only [decide_eq_true_eq, gt_iff_lt] at *); first | exact ⟨hc, hm, h3⟩ | (clear fin hp1 hp2; omega)
              · refine ⟨?_, ?_⟩
                · (try simp only [decide_eq_true_eq, gt_iff_lt] at *); first | exact ⟨hc, hm, h3⟩ | (clear fin hp1 hp2; omega)
                · simp only [Bool.and_eq_true, Bool.and_eq_false_iff, beq_iff_eq, beq_eq_false_iff_ne, ne_eq, decide_eq_true_eq, decide_eq_false_iff_not, gt_iff_lt, Int.not_lt, Int.not_le] at *
                  refine fin _ _ _ ?_ ?_ (hp2 (by omega)) <;> (clear fin hp1 hp2; omega)
      · refine ⟨?_, ?_⟩
        · exact absurd c2 (by decide)
        · refine ⟨?_, ?_⟩
          · exact absurd c2 (by decide)
          · refine ⟨fun c3 => ?_, fun c3 => ?_⟩
            · refine ⟨?_, ?_⟩
              · exact absurd c2 (by decide)
              · refine ⟨?_, ?_⟩
                · exact absurd c2 (by decide)
                · refine ⟨?_, ?_⟩
                  · exact absurd c2 (by decide)
                  · exact absurd c2 (by decide)
            · refine ⟨?_, ?_⟩
              · exact absurd c2 (by decide)
              · refine ⟨?_, ?_⟩
                · exact absurd c2 (by decide)
                · exact absurd c2 (by decide)
  · cases h)
end Go.Proofs.Ytakkjfldfghfcaa
