/- Lists of package cards: what is computed, by the executor. -/
import Derived.Test.YtcpadfehoaopaaaBf
namespace Go.Proofs.Ytcpadfehoaopaaa
open Go.Sx
structure L_lpmp1 where
  l : List (Int × (Int × (Int × Int)))
  n : Int
  i : Int
  out : List (Int × (Int × (Int × Int)))
def A_lpmp1 (s : L_lpmp1) : List LV := [.fn 45 [], .os 0 4 0 (List.length s.out), .xl tC s.l, .v (.int .i64 s.n), .v (.int .i64 s.i)]
def B_lpmp1 (s : L_lpmp1) : List Blk := [⟨[], 57, .vec tC s.out, false⟩]
noncomputable def body_lpmp1 : Code := ((loopsIn (Try.f44.body.getD .skip))[0]?).getD .skip
def f_lpmp1 (s : L_lpmp1) : Rd L_lpmp1 :=
  if (decide (s.i < s.n)) then
    .next { s with i := (IntKind.i64.wrap (s.i + 1)), out := (s.out ++ ([(gC s.l s.i)])) }
  else
    .stop (.exit 0) s
def P_lpmp1 (s : L_lpmp1) := ((), s.l, s.n)
theorem lpmp1_ex : ∀ s x s', f_lpmp1 s = .stop x s' → x = .exit 0 := by
  intro s x s' h
  unfold f_lpmp1 at h
  repeat' split at h
  all_goals first | (cases h; done) | (cases h; rfl) | (cases h; simp)
def E_lpmp1 (s : L_lpmp1) : Prop := s.n = s.l.length ∧ s.n ≤ 1000 ∧ s.i = 0 ∧ s.out = []
def I_lpmp1 (s : L_lpmp1) : Prop := s.n = s.l.length ∧ s.n ≤ 1000 ∧ 0 ≤ s.i ∧ s.i ≤ s.n ∧ s.out = s.l.take s.i.toNat
def mu_lpmp1 (s : L_lpmp1) : Nat := (s.n - s.i).toNat
def Q_lpmp1 (x : Ex) (s s' : L_lpmp1) : Prop := x = .exit 0 ∧ s'.out = s'.l
theorem lpmp1_E : ∀ s, E_lpmp1 s → I_lpmp1 s := by
  intro s h
  obtain ⟨h1, h2, h3, h4⟩ := h
  exact ⟨h1, h2, by omega, by omega, by rw [h3, h4]; rfl⟩
theorem lpmp1_da (s : L_lpmp1) (hI : I_lpmp1 s) : allR (fun s' => I_lpmp1 s' ∧ mu_lpmp1 s' < mu_lpmp1 s) (fun x s' => Q_lpmp1 x s s') (f_lpmp1 s) := by
  unfold f_lpmp1
  obtain ⟨h1, h2, h3, h4, h5⟩ := hI
  refine allR_ite (fun c1 => ?_) (fun c1 => ?_)
  · have c1 : s.i < s.n := by simpa using c1
    rw [wrapS (x := s.i + 1) (by omega) (by omega)]
    refine ⟨⟨h1, h2, by simp only; omega, by simp only; omega, ?_⟩, by simp only [mu_lpmp1]; omega⟩
    simp only
    rw [(gC_step h3 (by omega)).2, h5]
  · have c1 : s.n ≤ s.i := by simpa using c1
    exact ⟨rfl, by rw [h5, List.take_of_length_le (by omega)]⟩
theorem lpmp1_d : ∀ s s', I_lpmp1 s → f_lpmp1 s = .next s' → I_lpmp1 s' ∧ mu_lpmp1 s' < mu_lpmp1 s := fun s s' hI h => allR_next (lpmp1_da s hI) h
def sel_lpmp1 : List LV → List Blk → T L_lpmp1
  | [.fn 45 [], .os 0 4 0 w1_, .xl (.pair (.int .i64) (.pair (.int .i64) (.pair (.int .i64) (.int .i64)))) l, .v (.int .i64 n), .v (.int .i64 i)], [⟨[], 57, .vec (.pair (.int .i64) (.pair (.int .i64) (.pair (.int .i64) (.int .i64)))) out, false⟩] => .req (E_lpmp1 ⟨l, n, i, out⟩ ∧ w1_ = List.length out) (.ok ⟨l, n, i, out⟩)
  | _, _ => .no
theorem sel_lpmp1_ok : ∀ vals blks s, (sel_lpmp1 vals blks).all (fun x => x = s) → E_lpmp1 s ∧ vals = A_lpmp1 s ∧ blks = B_lpmp1 s := by
  intro vals blks s h
  unfold sel_lpmp1 at h
  split at h
  · obtain ⟨⟨h1, rfl⟩, rfl⟩ := h
    exact ⟨h1, rfl, rfl⟩
  · cases h
def run_lpmp1 (s : L_lpmp1) : L_lpmp1 := { (runW f_lpmp1 (mu_lpmp1 s + 1) s).2 with l := s.l, n := s.n }
theorem run_lpmp1_eq (s : L_lpmp1) : (runW f_lpmp1 (mu_lpmp1 s + 1) s).2 = run_lpmp1 s := by
  have hk := runW_keep (f := f_lpmp1) P_lpmp1 (fun s s' hf => by
    unfold f_lpmp1 at hf
    repeat' split at hf
    all_goals cases hf
    all_goals rfl) (fun s x s' hf => by
    unfold f_lpmp1 at hf
    repeat' split at hf
    all_goals cases hf
    all_goals rfl) (mu_lpmp1 s + 1) s
  unfold run_lpmp1
  generalize (runW f_lpmp1 (mu_lpmp1 s + 1) s).2 = r at *
  cases r
  simp only [P_lpmp1, Prod.mk.injEq, true_and] at hk
  simp only [L_lpmp1.mk.injEq, hk, and_self]
def exn_lpmp1 (s : L_lpmp1) : Ex := (runW f_lpmp1 (mu_lpmp1 s + 1) s).1
def out_lpmp1 (s : L_lpmp1) : T (Ex × List LV × List Blk) := .ok (.exit 0, frameOf 25 [1, 5, 11, 12, 13] (A_lpmp1 (run_lpmp1 s)), B_lpmp1 (run_lpmp1 s))
theorem nfl_lpmp1 (s : L_lpmp1) : backT [1, 5, 11, 12, 13] [] (codex Try.prog noGlobs (specsOf [(45, S_cOf1)]) noK noLoops body_lpmp1 (frameOf 25 [1, 5, 11, 12, 13] (A_lpmp1 s)) (B_lpmp1 s)) = .br (decide (s.i < s.n)) (.req (0 ≤ s.i ∧ s.i < (List.length s.l : Int)) (.req (0 + (List.length s.out) = List.length s.out ∧ ((List.length s.out + List.length ([(gC s.l s.i)]) : Nat) : Int) * 32 ≤ 2 ^ 47 ∧ ((List.length s.out + List.length ([(gC s.l s.i)]) : Nat) : Int) < 2 ^ 62) (.req (0 = 0 ∧ (List.length s.out + List.length ([(gC s.l s.i)])) = List.length (s.out ++ ([(gC s.l s.i)]))) (.ok (⟨.normal, 25, [.fn 45 [], .os 0 4 0 (List.length (s.out ++ ([(gC s.l s.i)]))), .xl tC s.l, .v (.int .i64 s.n), .v (.int .i64 (IntKind.i64.wrap (s.i + 1)))], [⟨[], 57, .vec tC (s.out ++ ([(gC s.l s.i)])), false⟩], true⟩))))) (.req (0 = 0 ∧ (List.length s.out) = List.length s.out) (.ok (⟨.exit 0, 25, [.fn 45 [], .os 0 4 0 (List.length s.out), .xl tC s.l, .v (.int .i64 s.n), .v (.int .i64 s.i)], [⟨[], 57, .vec tC s.out, false⟩], true⟩))) := by kernel_rfl
theorem stp_lpmp1 (s : L_lpmp1) (hI : I_lpmp1 s) : AllT (fun v => v = rdV 25 A_lpmp1 B_lpmp1 (f_lpmp1 s)) (backT [1, 5, 11, 12, 13] [] (codex Try.prog noGlobs (specsOf [(45, S_cOf1)]) noK noLoops body_lpmp1 (frameOf 25 [1, 5, 11, 12, 13] (A_lpmp1 s)) (B_lpmp1 s))) := by
  constructor
  rw [nfl_lpmp1]
  unfold f_lpmp1
  exact
    stp_br (fun c1 =>
      ⟨by (obtain ⟨h1, h2, h3, h4, h5⟩ := hI; have hl : s.out.length = s.i.toNat := (by rw [h5, List.length_take]; omega); (try simp only [decide_eq_true_eq, decide_eq_false_iff_not] at c1); first | omega | (simp only [List.length_append, List.length_cons, List.length_nil]; omega) | exact ⟨rfl, by simp⟩),
        ⟨by (obtain ⟨h1, h2, h3, h4, h5⟩ := hI; have hl : s.out.length = s.i.toNat := (by rw [h5, List.length_take]; omega); (try simp only [decide_eq_true_eq, decide_eq_false_iff_not] at c1); first | omega | (simp only [List.length_append, List.length_cons, List.length_nil]; omega) | exact ⟨rfl, by simp⟩),
          ⟨by (obtain ⟨h1, h2, h3, h4, h5⟩ := hI; have hl : s.out.length = s.i.toNat := (by rw [h5, List.length_take]; omega); (try simp only [decide_eq_true_eq, decide_eq_false_iff_not] at c1); first | omega | (simp only [List.length_append, List.length_cons, List.length_nil]; omega) | exact ⟨rfl, by simp⟩),
            rfl⟩⟩⟩) (fun c1 =>
      ⟨by (obtain ⟨h1, h2, h3, h4, h5⟩ := hI; have hl : s.out.length = s.i.toNat := (by rw [h5, List.length_take]; omega); (try simp only [decide_eq_true_eq, decide_eq_false_iff_not] at c1); first | omega | (simp only [List.length_append, List.length_cons, List.length_nil]; omega) | exact ⟨rfl, by simp⟩),
        rfl⟩)
theorem lpmp1_end (s : L_lpmp1) (hE : E_lpmp1 s) : ∃ s', I_lpmp1 s' ∧ f_lpmp1 s' = .stop (exn_lpmp1 s) (run_lpmp1 s) := by rw [← run_lpmp1_eq]; exact runW_stop lpmp1_d (mu_lpmp1 s + 1) s (lpmp1_E s hE) (Nat.lt_succ_self _)
theorem lpmp1_same : ∀ s x s', f_lpmp1 s = .stop x s' → s = s' := by
  intro s x s' h
  unfold f_lpmp1 at h
  repeat' split at h
  all_goals first | (cases h; done) | (cases h; rfl)
theorem lpmp1_inv (s : L_lpmp1) (hE : E_lpmp1 s) : I_lpmp1 (run_lpmp1 s) ∧ f_lpmp1 (run_lpmp1 s) = .stop (exn_lpmp1 s) (run_lpmp1 s) := by
  obtain ⟨s', hI, hf⟩ := lpmp1_end s hE
  have hs := lpmp1_same _ _ _ hf
  subst hs
  exact ⟨hI, hf⟩
theorem snd_lpmp1 : Sound Try.prog noGlobs (.loop body_lpmp1) (loopT 25 [1, 5, 11, 12, 13] [] sel_lpmp1 out_lpmp1) :=
  loop_view 25 [1, 5, 11, 12, 13] [] A_lpmp1 B_lpmp1 I_lpmp1 E_lpmp1 mu_lpmp1 f_lpmp1 sel_lpmp1 out_lpmp1 (code_sound (Γ := specsOf [(45, S_cOf1)]) (K := noK) (L := noLoops) (specs_ok (l := [(45, S_cOf1)]) ⟨v_cOf1, trivial⟩) noK_sound body_lpmp1 (fun b hb => by rw [show loopsIn body_lpmp1 = [] by kernel_rfl] at hb; cases hb))
    sel_lpmp1_ok lpmp1_E lpmp1_d (fun s x s' hf => by have := lpmp1_ex s x s' hf; intro h0; subst h0; simp at this) stp_lpmp1 (fun s hE => by
      obtain ⟨s', _, h2⟩ := lpmp1_end s hE
      have h3 : exn_lpmp1 s = .exit 0 := lpmp1_ex _ _ _ h2
      unfold out_lpmp1
      rw [run_lpmp1_eq]
      simp only [T.all, ← h3]
      rfl)
theorem lpmp1_fin (s : L_lpmp1) (hE : E_lpmp1 s) : ∃ s', I_lpmp1 s' ∧ Q_lpmp1 (exn_lpmp1 s) s' (run_lpmp1 s) := by
  obtain ⟨s', hI, hf⟩ := lpmp1_end s hE
  exact ⟨s', hI, allR_stop (lpmp1_da s' hI) hf⟩
def S0_mp1 : List LV → T LV
  | [.xl (.pair (.int .i64) (.pair (.int .i64) (.pair (.int .i64) (.int .i64)))) l, .fn 45 []] => .req ((List.length l : Int) ≤ 1000) (.ok (.xl tC l))
  | _ => .no
noncomputable def S_mp1 : List LV → T LV := upS Try.prog Try.f44.params.toList S0_mp1
theorem nf_mp1 (l : List (Int × (Int × (Int × Int)))) : funu Try.prog noGlobs (specsOf [(45, S_cOf1)]) noK (fun i => if i = 3 then loopT 25 [1, 5, 11, 12, 13] [] sel_lpmp1 out_lpmp1 else noLoops i) Try.f44 [.xl tC l, .fn 45 []] = .req (0 ≤ (0 : Int) ∧ (0 : Int) ≤ (List.length l : Int) ∧ 32 * (List.length l : Int) ≤ 2 ^ 48 ∧ (List.length l : Int) < 2 ^ 63) (.req (0 = 0 ∧ (0 : Int).toNat = List.length (List.replicate (0 : Int).toNat ((0 : Int), ((0 : Int), ((0 : Int), (0 : Int)))))) (.req (E_lpmp1 (⟨l, (List.length l : Int), (0 : Int), (List.replicate (0 : Int).toNat ((0 : Int), ((0 : Int), ((0 : Int), (0 : Int)))))⟩ : L_lpmp1) ∧ (List.length (List.replicate (0 : Int).toNat ((0 : Int), ((0 : Int), ((0 : Int), (0 : Int)))))) = List.length (List.replicate (0 : Int).toNat ((0 : Int), ((0 : Int), ((0 : Int), (0 : Int)))))) (.req (0 + (List.length (run_lpmp1 (⟨l, (List.length l : Int), (0 : Int), (List.replicate (0 : Int).toNat ((0 : Int), ((0 : Int), ((0 : Int), (0 : Int)))))⟩ : L_lpmp1)).out) ≤ List.length (run_lpmp1 (⟨l, (List.length l : Int), (0 : Int), (List.replicate (0 : Int).toNat ((0 : Int), ((0 : Int), ((0 : Int), (0 : Int)))))⟩ : L_lpmp1)).out) (.ok (.xl tC (((run_lpmp1 (⟨l, (List.length l : Int), (0 : Int), (List.replicate (0 : Int).toNat ((0 : Int), ((0 : Int), ((0 : Int), (0 : Int)))))⟩ : L_lpmp1)).out.drop 0).take (List.length (run_lpmp1 (⟨l, (List.length l : Int), (0 : Int), (List.replicate (0 : Int).toNat ((0 : Int), ((0 : Int), ((0 : Int), (0 : Int)))))⟩ : L_lpmp1)).out))))))) := by kernel_rfl
theorem v_mp1 : Valid Try.prog noGlobs 44 S_mp1 := valid_ofu Try.func44 rfl (specs_ok (l := [(45, S_cOf1)]) ⟨v_cOf1, trivial⟩) noK_sound (L := (fun i => if i = 3 then loopT 25 [1, 5, 11, 12, 13] [] sel_lpmp1 out_lpmp1 else noLoops i)) (fun b hb => by
  rw [show loopsIn _ = [body_lpmp1] by kernel_rfl] at hb
  simp only [List.mem_cons, List.not_mem_nil, or_false] at hb
  subst hb
  exact snd_lpmp1) (fun args lv h => by
  unfold S0_mp1 at h
  split at h
  · simp only [canL, canX]
    rw [nf_mp1]
    rename_i l
    obtain ⟨hn, rfl⟩ := h
    have hE : E_lpmp1 ⟨l, (List.length l : Int), (0 : Int), []⟩ := ⟨rfl, hn, rfl, rfl⟩
    obtain ⟨s', _, h1, h2⟩ := lpmp1_fin _ hE
    have h2 : (run_lpmp1 ⟨l, (List.length l : Int), (0 : Int), []⟩).out = l := h2
    refine ⟨⟨by omega, by omega, by omega, by omega⟩, ⟨rfl, rfl⟩, ⟨hE, rfl⟩, ?_⟩
    refine ⟨by rw [show List.replicate (Int.toNat 0) _ = _ from rfl]; omega, ?_⟩
    show LV.xl _ _ = _
    rw [show List.replicate (Int.toNat 0) _ = ([] : List _) from rfl, h2]
    simp
  · cases h)
structure L_lpmp2 where
  l : List (Int × Int)
  n : Int
  i : Int
  out : List (Int × Int)
def A_lpmp2 (s : L_lpmp2) : List LV := [.fn 47 [], .os 0 2 0 (List.length s.out), .xl tV s.l, .v (.int .i64 s.n), .v (.int .i64 s.i)]
def B_lpmp2 (s : L_lpmp2) : List Blk := [⟨[], 59, .vec tV s.out, false⟩]
noncomputable def body_lpmp2 : Code := ((loopsIn (Try.f46.body.getD .skip))[0]?).getD .skip
def f_lpmp2 (s : L_lpmp2) : Rd L_lpmp2 :=
  if (decide (s.i < s.n)) then
    .next { s with i := (IntKind.i64.wrap (s.i + 1)), out := (s.out ++ ([(gV s.l s.i)])) }
  else
    .stop (.exit 0) s
def P_lpmp2 (s : L_lpmp2) := ((), s.l, s.n)
theorem lpmp2_ex : ∀ s x s', f_lpmp2 s = .stop x s' → x = .exit 0 := by
  intro s x s' h
  unfold f_lpmp2 at h
  repeat' split at h
  all_goals first | (cases h; done) | (cases h; rfl) | (cases h; simp)
def E_lpmp2 (s : L_lpmp2) : Prop := s.n = s.l.length ∧ s.n ≤ 1000 ∧ s.i = 0 ∧ s.out = []
def I_lpmp2 (s : L_lpmp2) : Prop := s.n = s.l.length ∧ s.n ≤ 1000 ∧ 0 ≤ s.i ∧ s.i ≤ s.n ∧ s.out = s.l.take s.i.toNat
def mu_lpmp2 (s : L_lpmp2) : Nat := (s.n - s.i).toNat
def Q_lpmp2 (x : Ex) (s s' : L_lpmp2) : Prop := x = .exit 0 ∧ s'.out = s'.l
theorem lpmp2_E : ∀ s, E_lpmp2 s → I_lpmp2 s := by
  intro s h
  obtain ⟨h1, h2, h3, h4⟩ := h
  exact ⟨h1, h2, by omega, by omega, by rw [h3, h4]; rfl⟩
theorem lpmp2_da (s : L_lpmp2) (hI : I_lpmp2 s) : allR (fun s' => I_lpmp2 s' ∧ mu_lpmp2 s' < mu_lpmp2 s) (fun x s' => Q_lpmp2 x s s') (f_lpmp2 s) := by
  unfold f_lpmp2
  obtain ⟨h1, h2, h3, h4, h5⟩ := hI
  refine allR_ite (fun c1 => ?_) (fun c1 => ?_)
  · have c1 : s.i < s.n := by simpa using c1
    rw [wrapS (x := s.i + 1) (by omega) (by omega)]
    refine ⟨⟨h1, h2, by simp only; omega, by simp only; omega, ?_⟩, by simp only [mu_lpmp2]; omega⟩
    simp only
    rw [(gV_step h3 (by omega)).2, h5]
  · have c1 : s.n ≤ s.i := by simpa using c1
    exact ⟨rfl, by rw [h5, List.take_of_length_le (by omega)]⟩
theorem lpmp2_d : ∀ s s', I_lpmp2 s → f_lpmp2 s = .next s' → I_lpmp2 s' ∧ mu_lpmp2 s' < mu_lpmp2 s := fun s s' hI h => allR_next (lpmp2_da s hI) h
def sel_lpmp2 : List LV → List Blk → T L_lpmp2
  | [.fn 47 [], .os 0 2 0 w1_, .xl (.pair (.int .i64) (.int .i64)) l, .v (.int .i64 n), .v (.int .i64 i)], [⟨[], 59, .vec (.pair (.int .i64) (.int .i64)) out, false⟩] => .req (E_lpmp2 ⟨l, n, i, out⟩ ∧ w1_ = List.length out) (.ok ⟨l, n, i, out⟩)
  | _, _ => .no
theorem sel_lpmp2_ok : ∀ vals blks s, (sel_lpmp2 vals blks).all (fun x => x = s) → E_lpmp2 s ∧ vals = A_lpmp2 s ∧ blks = B_lpmp2 s := by
  intro vals blks s h
  unfold sel_lpmp2 at h
  split at h
  · obtain ⟨⟨h1, rfl⟩, rfl⟩ := h
    exact ⟨h1, rfl, rfl⟩
  · cases h
def run_lpmp2 (s : L_lpmp2) : L_lpmp2 := { (runW f_lpmp2 (mu_lpmp2 s + 1) s).2 with l := s.l, n := s.n }
theorem run_lpmp2_eq (s : L_lpmp2) : (runW f_lpmp2 (mu_lpmp2 s + 1) s).2 = run_lpmp2 s := by
  have hk := runW_keep (f := f_lpmp2) P_lpmp2 (fun s s' hf => by
    unfold f_lpmp2 at hf
    repeat' split at hf
    all_goals cases hf
    all_goals rfl) (fun s x s' hf => by
    unfold f_lpmp2 at hf
    repeat' split at hf
    all_goals cases hf
    all_goals rfl) (mu_lpmp2 s + 1) s
  unfold run_lpmp2
  generalize (runW f_lpmp2 (mu_lpmp2 s + 1) s).2 = r at *
  cases r
  simp only [P_lpmp2, Prod.mk.injEq, true_and] at hk
  simp only [L_lpmp2.mk.injEq, hk, and_self]
def exn_lpmp2 (s : L_lpmp2) : Ex := (runW f_lpmp2 (mu_lpmp2 s + 1) s).1
def out_lpmp2 (s : L_lpmp2) : T (Ex × List LV × List Blk) := .ok (.exit 0, frameOf 25 [1, 5, 11, 12, 13] (A_lpmp2 (run_lpmp2 s)), B_lpmp2 (run_lpmp2 s))
theorem nfl_lpmp2 (s : L_lpmp2) : backT [1, 5, 11, 12, 13] [] (codex Try.prog noGlobs (specsOf [(47, S_vOf1)]) noK noLoops body_lpmp2 (frameOf 25 [1, 5, 11, 12, 13] (A_lpmp2 s)) (B_lpmp2 s)) = .br (decide (s.i < s.n)) (.req (0 ≤ s.i ∧ s.i < (List.length s.l : Int)) (.req (0 + (List.length s.out) = List.length s.out ∧ ((List.length s.out + List.length ([(gV s.l s.i)]) : Nat) : Int) * 16 ≤ 2 ^ 47 ∧ ((List.length s.out + List.length ([(gV s.l s.i)]) : Nat) : Int) < 2 ^ 62) (.req (0 = 0 ∧ (List.length s.out + List.length ([(gV s.l s.i)])) = List.length (s.out ++ ([(gV s.l s.i)]))) (.ok (⟨.normal, 25, [.fn 47 [], .os 0 2 0 (List.length (s.out ++ ([(gV s.l s.i)]))), .xl tV s.l, .v (.int .i64 s.n), .v (.int .i64 (IntKind.i64.wrap (s.i + 1)))], [⟨[], 59, .vec tV (s.out ++ ([(gV s.l s.i)])), false⟩], true⟩))))) (.req (0 = 0 ∧ (List.length s.out) = List.length s.out) (.ok (⟨.exit 0, 25, [.fn 47 [], .os 0 2 0 (List.length s.out), .xl tV s.l, .v (.int .i64 s.n), .v (.int .i64 s.i)], [⟨[], 59, .vec tV s.out, false⟩], true⟩))) := by kernel_rfl
theorem stp_lpmp2 (s : L_lpmp2) (hI : I_lpmp2 s) : AllT (fun v => v = rdV 25 A_lpmp2 B_lpmp2 (f_lpmp2 s)) (backT [1, 5, 11, 12, 13] [] (codex Try.prog noGlobs (specsOf [(47, S_vOf1)]) noK noLoops body_lpmp2 (frameOf 25 [1, 5, 11, 12, 13] (A_lpmp2 s)) (B_lpmp2 s))) := by
  constructor
  rw [nfl_lpmp2]
  unfold f_lpmp2
  exact
    stp_br (fun c1 =>
      ⟨by (obtain ⟨h1, h2, h3, h4, h5⟩ := hI; have hl : s.out.length = s.i.toNat := (by rw [h5, List.length_take]; omega); (try simp only [decide_eq_true_eq, decide_eq_false_iff_not] at c1); first | omega | (simp only [List.length_append, List.length_cons, List.length_nil]; omega) | exact ⟨rfl, by simp⟩),
        ⟨by (obtain ⟨h1, h2, h3, h4, h5⟩ := hI; have hl : s.out.length = s.i.toNat := (by rw [h5, List.length_take]; omega); (try simp only [decide_eq_true_eq, decide_eq_false_iff_not] at c1); first | omega | (simp only [List.length_append, List.length_cons, List.length_nil]; omega) | exact ⟨rfl, by simp⟩),
          ⟨by (obtain ⟨h1, h2, h3, h4, h5⟩ := hI; have hl : s.out.length = s.i.toNat := (by rw [h5, List.length_take]; omega); (try simp only [decide_eq_true_eq, decide_eq_false_iff_not] at c1); first | omega | (simp only [List.length_append, List.length_cons, List.length_nil]; omega) | exact ⟨rfl, by simp⟩),
            rfl⟩⟩⟩) (fun c1 =>
      ⟨by (obtain ⟨h1, h2, h3, h4, h5⟩ := hI; have hl : s.out.length = s.i.toNat := (by rw [h5, List.length_take]; omega); (try simp only [decide_eq_true_eq, decide_eq_false_iff_not] at c1); first | omega | (simp only [List.length_append, List.length_cons, List.length_nil]; omega) | exact ⟨rfl, by simp⟩),
        rfl⟩)
theorem lpmp2_end (s : L_lpmp2) (hE : E_lpmp2 s) : ∃ s', I_lpmp2 s' ∧ f_lpmp2 s' = .stop (exn_lpmp2 s) (run_lpmp2 s) := by rw [← run_lpmp2_eq]; exact runW_stop lpmp2_d (mu_lpmp2 s + 1) s (lpmp2_E s hE) (Nat.lt_succ_self _)
theorem lpmp2_same : ∀ s x s', f_lpmp2 s = .stop x s' → s = s' := by
  intro s x s' h
  unfold f_lpmp2 at h
  repeat' split at h
  all_goals first | (cases h; done) | (cases h; rfl)
theorem lpmp2_inv (s : L_lpmp2) (hE : E_lpmp2 s) : I_lpmp2 (run_lpmp2 s) ∧ f_lpmp2 (run_lpmp2 s) = .stop (exn_lpmp2 s) (run_lpmp2 s) := by
  obtain ⟨s', hI, hf⟩ := lpmp2_end s hE
  have hs := lpmp2_same _ _ _ hf
  subst hs
  exact ⟨hI, hf⟩
theorem snd_lpmp2 : Sound Try.prog noGlobs (.loop body_lpmp2) (loopT 25 [1, 5, 11, 12, 13] [] sel_lpmp2 out_lpmp2) :=
  loop_view 25 [1, 5, 11, 12, 13] [] A_lpmp2 B_lpmp2 I_lpmp2 E_lpmp2 mu_lpmp2 f_lpmp2 sel_lpmp2 out_lpmp2 (code_sound (Γ := specsOf [(47, S_vOf1)]) (K := noK) (L := noLoops) (specs_ok (l := [(47, S_vOf1)]) ⟨v_vOf1, trivial⟩) noK_sound body_lpmp2 (fun b hb => by rw [show loopsIn body_lpmp2 = [] by kernel_rfl] at hb; cases hb))
    sel_lpmp2_ok lpmp2_E lpmp2_d (fun s x s' hf => by have := lpmp2_ex s x s' hf; intro h0; subst h0; simp at this) stp_lpmp2 (fun s hE => by
      obtain ⟨s', _, h2⟩ := lpmp2_end s hE
      have h3 : exn_lpmp2 s = .exit 0 := lpmp2_ex _ _ _ h2
      unfold out_lpmp2
      rw [run_lpmp2_eq]
      simp only [T.all, ← h3]
      rfl)
theorem lpmp2_fin (s : L_lpmp2) (hE : E_lpmp2 s) : ∃ s', I_lpmp2 s' ∧ Q_lpmp2 (exn_lpmp2 s) s' (run_lpmp2 s) := by
  obtain ⟨s', hI, hf⟩ := lpmp2_end s hE
  exact ⟨s', hI, allR_stop (lpmp2_da s' hI) hf⟩
def S0_mp2 : List LV → T LV
  | [.xl (.pair (.int .i64) (.int .i64)) l, .fn 47 []] => .req ((List.length l : Int) ≤ 1000) (.ok (.xl tV l))
  | _ => .no
noncomputable def S_mp2 : List LV → T LV := upS Try.prog Try.f46.params.toList S0_mp2
theorem nf_mp2 (l : List (Int × Int)) : funu Try.prog noGlobs (specsOf [(47, S_vOf1)]) noK (fun i => if i = 3 then loopT 25 [1, 5, 11, 12, 13] [] sel_lpmp2 out_lpmp2 else noLoops i) Try.f46 [.xl tV l, .fn 47 []] = .req (0 ≤ (0 : Int) ∧ (0 : Int) ≤ (List.length l : Int) ∧ 16 * (List.length l : Int) ≤ 2 ^ 48 ∧ (List.length l : Int) < 2 ^ 63) (.req (0 = 0 ∧ (0 : Int).toNat = List.length (List.replicate (0 : Int).toNat ((0 : Int), (0 : Int)))) (.req (E_lpmp2 (⟨l, (List.length l : Int), (0 : Int), (List.replicate (0 : Int).toNat ((0 : Int), (0 : Int)))⟩ : L_lpmp2) ∧ (List.length (List.replicate (0 : Int).toNat ((0 : Int), (0 : Int)))) = List.length (List.replicate (0 : Int).toNat ((0 : Int), (0 : Int)))) (.req (0 + (List.length (run_lpmp2 (⟨l, (List.length l : Int), (0 : Int), (List.replicate (0 : Int).toNat ((0 : Int), (0 : Int)))⟩ : L_lpmp2)).out) ≤ List.length (run_lpmp2 (⟨l, (List.length l : Int), (0 : Int), (List.replicate (0 : Int).toNat ((0 : Int), (0 : Int)))⟩ : L_lpmp2)).out) (.ok (.xl tV (((run_lpmp2 (⟨l, (List.length l : Int), (0 : Int), (List.replicate (0 : Int).toNat ((0 : Int), (0 : Int)))⟩ : L_lpmp2)).out.drop 0).take (List.length (run_lpmp2 (⟨l, (List.length l : Int), (0 : Int), (List.replicate (0 : Int).toNat ((0 : Int), (0 : Int)))⟩ : L_lpmp2)).out))))))) := by kernel_rfl
theorem v_mp2 : Valid Try.prog noGlobs 46 S_mp2 := valid_ofu Try.func46 rfl (specs_ok (l := [(47, S_vOf1)]) ⟨v_vOf1, trivial⟩) noK_sound (L := (fun i => if i = 3 then loopT 25 [1, 5, 11, 12, 13] [] sel_lpmp2 out_lpmp2 else noLoops i)) (fun b hb => by
  rw [show loopsIn _ = [body_lpmp2] by kernel_rfl] at hb
  simp only [List.mem_cons, List.not_mem_nil, or_false] at hb
  subst hb
  exact snd_lpmp2) (fun args lv h => by
  unfold S0_mp2 at h
  split at h
  · simp only [canL, canX]
    rw [nf_mp2]
    rename_i l
    obtain ⟨hn, rfl⟩ := h
    have hE : E_lpmp2 ⟨l, (List.length l : Int), (0 : Int), []⟩ := ⟨rfl, hn, rfl, rfl⟩
    obtain ⟨s', _, h1, h2⟩ := lpmp2_fin _ hE
    have h2 : (run_lpmp2 ⟨l, (List.length l : Int), (0 : Int), []⟩).out = l := h2
    refine ⟨⟨by omega, by omega, by omega, by omega⟩, ⟨rfl, rfl⟩, ⟨hE, rfl⟩, ?_⟩
    refine ⟨by rw [show List.replicate (Int.toNat 0) _ = _ from rfl]; omega, ?_⟩
    show LV.xl _ _ = _
    rw [show List.replicate (Int.toNat 0) _ = ([] : List _) from rfl, h2]
    simp
  · cases h)
structure L_lpmp3 where
  l : List (Int × Int)
  n : Int
  i : Int
  out : List (Int × Int)
def A_lpmp3 (s : L_lpmp3) : List LV := [.fn 42 [], .os 0 2 0 (List.length s.out), .xl tV s.l, .v (.int .i64 s.n), .v (.int .i64 s.i)]
def B_lpmp3 (s : L_lpmp3) : List Blk := [⟨[], 43, .vec tV s.out, false⟩]
noncomputable def body_lpmp3 : Code := ((loopsIn (Try.f41.body.getD .skip))[0]?).getD .skip
def f_lpmp3 (s : L_lpmp3) : Rd L_lpmp3 :=
  if (decide (s.i < s.n)) then
    .next { s with i := (IntKind.i64.wrap (s.i + 1)), out := (s.out ++ ([(gV s.l s.i)])) }
  else
    .stop (.exit 0) s
def P_lpmp3 (s : L_lpmp3) := ((), s.l, s.n)
theorem lpmp3_ex : ∀ s x s', f_lpmp3 s = .stop x s' → x = .exit 0 := by
  intro s x s' h
  unfold f_lpmp3 at h
  repeat' split at h
  all_goals first | (cases h; done) | (cases h; rfl) | (cases h; simp)
def E_lpmp3 (s : L_lpmp3) : Prop := s.n = s.l.length ∧ s.n ≤ 1000 ∧ s.i = 0 ∧ s.out = []
def I_lpmp3 (s : L_lpmp3) : Prop := s.n = s.l.length ∧ s.n ≤ 1000 ∧ 0 ≤ s.i ∧ s.i ≤ s.n ∧ s.out = s.l.take s.i.toNat
def mu_lpmp3 (s : L_lpmp3) : Nat := (s.n - s.i).toNat
def Q_lpmp3 (x : Ex) (s s' : L_lpmp3) : Prop := x = .exit 0 ∧ s'.out = s'.l
theorem lpmp3_E : ∀ s, E_lpmp3 s → I_lpmp3 s := by
  intro s h
  obtain ⟨h1, h2, h3, h4⟩ := h
  exact ⟨h1, h2, by omega, by omega, by rw [h3, h4]; rfl⟩
theorem lpmp3_da (s : L_lpmp3) (hI : I_lpmp3 s) : allR (fun s' => I_lpmp3 s' ∧ mu_lpmp3 s' < mu_lpmp3 s) (fun x s' => Q_lpmp3 x s s') (f_lpmp3 s) := by
  unfold f_lpmp3
  obtain ⟨h1, h2, h3, h4, h5⟩ := hI
  refine allR_ite (fun c1 => ?_) (fun c1 => ?_)
  · have c1 : s.i < s.n := by simpa using c1
    rw [wrapS (x := s.i + 1) (by omega) (by omega)]
    refine ⟨⟨h1, h2, by simp only; omega, by simp only; omega, ?_⟩, by simp only [mu_lpmp3]; omega⟩
    simp only
    rw [(gV_step h3 (by omega)).2, h5]
  · have c1 : s.n ≤ s.i := by simpa using c1
    exact ⟨rfl, by rw [h5, List.take_of_length_le (by omega)]⟩
theorem lpmp3_d : ∀ s s', I_lpmp3 s → f_lpmp3 s = .next s' → I_lpmp3 s' ∧ mu_lpmp3 s' < mu_lpmp3 s := fun s s' hI h => allR_next (lpmp3_da s hI) h
def sel_lpmp3 : List LV → List Blk → T L_lpmp3
  | [.fn 42 [], .os 0 2 0 w1_, .xl (.pair (.int .i64) (.int .i64)) l, .v (.int .i64 n), .v (.int .i64 i)], [⟨[], 43, .vec (.pair (.int .i64) (.int .i64)) out, false⟩] => .req (E_lpmp3 ⟨l, n, i, out⟩ ∧ w1_ = List.length out) (.ok ⟨l, n, i, out⟩)
  | _, _ => .no
theorem sel_lpmp3_ok : ∀ vals blks s, (sel_lpmp3 vals blks).all (fun x => x = s) → E_lpmp3 s ∧ vals = A_lpmp3 s ∧ blks = B_lpmp3 s := by
  intro vals blks s h
  unfold sel_lpmp3 at h
  split at h
  · obtain ⟨⟨h1, rfl⟩, rfl⟩ := h
    exact ⟨h1, rfl, rfl⟩
  · cases h
def run_lpmp3 (s : L_lpmp3) : L_lpmp3 := { (runW f_lpmp3 (mu_lpmp3 s + 1) s).2 with l := s.l, n := s.n }
theorem run_lpmp3_eq (s : L_lpmp3) : (runW f_lpmp3 (mu_lpmp3 s + 1) s).2 = run_lpmp3 s := by
  have hk := runW_keep (f := f_lpmp3) P_lpmp3 (fun s s' hf => by
    unfold f_lpmp3 at hf
    repeat' split at hf
    all_goals cases hf
    all_goals rfl) (fun s x s' hf => by
    unfold f_lpmp3 at hf
    repeat' split at hf
    all_goals cases hf
    all_goals rfl) (mu_lpmp3 s + 1) s
  unfold run_lpmp3
  generalize (runW f_lpmp3 (mu_lpmp3 s + 1) s).2 = r at *
  cases r
  simp only [P_lpmp3, Prod.mk.injEq, true_and] at hk
  simp only [L_lpmp3.mk.injEq, hk, and_self]
def exn_lpmp3 (s : L_lpmp3) : Ex := (runW f_lpmp3 (mu_lpmp3 s + 1) s).1
def out_lpmp3 (s : L_lpmp3) : T (Ex × List LV × List Blk) := .ok (.exit 0, frameOf 25 [1, 5, 11, 12, 13] (A_lpmp3 (run_lpmp3 s)), B_lpmp3 (run_lpmp3 s))
theorem nfl_lpmp3 (s : L_lpmp3) : backT [1, 5, 11, 12, 13] [] (codex Try.prog noGlobs (specsOf [(42, S_jn2)]) noK noLoops body_lpmp3 (frameOf 25 [1, 5, 11, 12, 13] (A_lpmp3 s)) (B_lpmp3 s)) = .br (decide (s.i < s.n)) (.req (0 ≤ s.i ∧ s.i < (List.length s.l : Int)) (.req (0 + (List.length s.out) = List.length s.out ∧ ((List.length s.out + List.length ([(gV s.l s.i)]) : Nat) : Int) * 16 ≤ 2 ^ 47 ∧ ((List.length s.out + List.length ([(gV s.l s.i)]) : Nat) : Int) < 2 ^ 62) (.req (0 = 0 ∧ (List.length s.out + List.length ([(gV s.l s.i)])) = List.length (s.out ++ ([(gV s.l s.i)]))) (.ok (⟨.normal, 25, [.fn 42 [], .os 0 2 0 (List.length (s.out ++ ([(gV s.l s.i)]))), .xl tV s.l, .v (.int .i64 s.n), .v (.int .i64 (IntKind.i64.wrap (s.i + 1)))], [⟨[], 43, .vec tV (s.out ++ ([(gV s.l s.i)])), false⟩], true⟩))))) (.req (0 = 0 ∧ (List.length s.out) = List.length s.out) (.ok (⟨.exit 0, 25, [.fn 42 [], .os 0 2 0 (List.length s.out), .xl tV s.l, .v (.int .i64 s.n), .v (.int .i64 s.i)], [⟨[], 43, .vec tV s.out, false⟩], true⟩))) := by kernel_rfl
theorem stp_lpmp3 (s : L_lpmp3) (hI : I_lpmp3 s) : AllT (fun v => v = rdV 25 A_lpmp3 B_lpmp3 (f_lpmp3 s)) (backT [1, 5, 11, 12, 13] [] (codex Try.prog noGlobs (specsOf [(42, S_jn2)]) noK noLoops body_lpmp3 (frameOf 25 [1, 5, 11, 12, 13] (A_lpmp3 s)) (B_lpmp3 s))) := by
  constructor
  rw [nfl_lpmp3]
  unfold f_lpmp3
  exact
    stp_br (fun c1 =>
      ⟨by (obtain ⟨h1, h2, h3, h4, h5⟩ := hI; have hl : s.out.length = s.i.toNat := (by rw [h5, List.length_take]; omega); (try simp only [decide_eq_true_eq, decide_eq_false_iff_not] at c1); first | omega | (simp only [List.length_append, List.length_cons, List.length_nil]; omega) | exact ⟨rfl, by simp⟩),
        ⟨by (obtain ⟨h1, h2, h3, h4, h5⟩ := hI; have hl : s.out.length = s.i.toNat := (by rw [h5, List.length_take]; omega); (try simp only [decide_eq_true_eq, decide_eq_false_iff_not] at c1); first | omega | (simp only [List.length_append, List.length_cons, List.length_nil]; omega) | exact ⟨rfl, by simp⟩),
          ⟨by (obtain ⟨h1, h2, h3, h4, h5⟩ := hI; have hl : s.out.length = s.i.toNat := (by rw [h5, List.length_take]; omega); (try simp only [decide_eq_true_eq, decide_eq_false_iff_not] at c1); first | omega | (simp only [List.length_append, List.length_cons, List.length_nil]; omega) | exact ⟨rfl, by simp⟩),
            rfl⟩⟩⟩) (fun c1 =>
      ⟨by (obtain ⟨h1, h2, h3, h4, h5⟩ := hI; have hl : s.out.length = s.i.toNat := (by rw [h5, List.length_take]; omega); (try simp only [decide_eq_true_eq, decide_eq_false_iff_not] at c1); first | omega | (simp only [List.length_append, List.length_cons, List.length_nil]; omega) | exact ⟨rfl, by simp⟩),
        rfl⟩)
theorem lpmp3_end (s : L_lpmp3) (hE : E_lpmp3 s) : ∃ s', I_lpmp3 s' ∧ f_lpmp3 s' = .stop (exn_lpmp3 s) (run_lpmp3 s) := by rw [← run_lpmp3_eq]; exact runW_stop lpmp3_d (mu_lpmp3 s + 1) s (lpmp3_E s hE) (Nat.lt_succ_self _)
theorem lpmp3_same : ∀ s x s', f_lpmp3 s = .stop x s' → s = s' := by
  intro s x s' h
  unfold f_lpmp3 at h
  repeat' split at h
  all_goals first | (cases h; done) | (cases h; rfl)
theorem lpmp3_inv (s : L_lpmp3) (hE : E_lpmp3 s) : I_lpmp3 (run_lpmp3 s) ∧ f_lpmp3 (run_lpmp3 s) = .stop (exn_lpmp3 s) (run_lpmp3 s) := by
  obtain ⟨s', hI, hf⟩ := lpmp3_end s hE
  have hs := lpmp3_same _ _ _ hf
  subst hs
  exact ⟨hI, hf⟩
theorem snd_lpmp3 : Sound Try.prog noGlobs (.loop body_lpmp3) (loopT 25 [1, 5, 11, 12, 13] [] sel_lpmp3 out_lpmp3) :=
  loop_view 25 [1, 5, 11, 12, 13] [] A_lpmp3 B_lpmp3 I_lpmp3 E_lpmp3 mu_lpmp3 f_lpmp3 sel_lpmp3 out_lpmp3 (code_sound (Γ := specsOf [(42, S_jn2)]) (K := noK) (L := noLoops) (specs_ok (l := [(42, S_jn2)]) ⟨v_jn2, trivial⟩) noK_sound body_lpmp3 (fun b hb => by rw [show loopsIn body_lpmp3 = [] by kernel_rfl] at hb; cases hb))
    sel_lpmp3_ok lpmp3_E lpmp3_d (fun s x s' hf => by have := lpmp3_ex s x s' hf; intro h0; subst h0; simp at this) stp_lpmp3 (fun s hE => by
      obtain ⟨s', _, h2⟩ := lpmp3_end s hE
      have h3 : exn_lpmp3 s = .exit 0 := lpmp3_ex _ _ _ h2
      unfold out_lpmp3
      rw [run_lpmp3_eq]
      simp only [T.all, ← h3]
      rfl)
theorem lpmp3_fin (s : L_lpmp3) (hE : E_lpmp3 s) : ∃ s', I_lpmp3 s' ∧ Q_lpmp3 (exn_lpmp3 s) s' (run_lpmp3 s) := by
  obtain ⟨s', hI, hf⟩ := lpmp3_end s hE
  exact ⟨s', hI, allR_stop (lpmp3_da s' hI) hf⟩
def S0_mp3 : List LV → T LV
  | [.xl (.pair (.int .i64) (.int .i64)) l, .fn 42 []] => .req ((List.length l : Int) ≤ 1000) (.ok (.xl tV l))
  | _ => .no
noncomputable def S_mp3 : List LV → T LV := upS Try.prog Try.f41.params.toList S0_mp3
theorem nf_mp3 (l : List (Int × Int)) : funu Try.prog noGlobs (specsOf [(42, S_jn2)]) noK (fun i => if i = 3 then loopT 25 [1, 5, 11, 12, 13] [] sel_lpmp3 out_lpmp3 else noLoops i) Try.f41 [.xl tV l, .fn 42 []] = .req (0 ≤ (0 : Int) ∧ (0 : Int) ≤ (List.length l : Int) ∧ 16 * (List.length l : Int) ≤ 2 ^ 48 ∧ (List.length l : Int) < 2 ^ 63) (.req (0 = 0 ∧ (0 : Int).toNat = List.length (List.replicate (0 : Int).toNat ((0 : Int), (0 : Int)))) (.req (E_lpmp3 (⟨l, (List.length l : Int), (0 : Int), (List.replicate (0 : Int).toNat ((0 : Int), (0 : Int)))⟩ : L_lpmp3) ∧ (List.length (List.replicate (0 : Int).toNat ((0 : Int), (0 : Int)))) = List.length (List.replicate (0 : Int).toNat ((0 : Int), (0 : Int)))) (.req (0 + (List.length (run_lpmp3 (⟨l, (List.length l : Int), (0 : Int), (List.replicate (0 : Int).toNat ((0 : Int), (0 : Int)))⟩ : L_lpmp3)).out) ≤ List.length (run_lpmp3 (⟨l, (List.length l : Int), (0 : Int), (List.replicate (0 : Int).toNat ((0 : Int), (0 : Int)))⟩ : L_lpmp3)).out) (.ok (.xl tV (((run_lpmp3 (⟨l, (List.length l : Int), (0 : Int), (List.replicate (0 : Int).toNat ((0 : Int), (0 : Int)))⟩ : L_lpmp3)).out.drop 0).take (List.length (run_lpmp3 (⟨l, (List.length l : Int), (0 : Int), (List.replicate (0 : Int).toNat ((0 : Int), (0 : Int)))⟩ : L_lpmp3)).out))))))) := by kernel_rfl
theorem v_mp3 : Valid Try.prog noGlobs 41 S_mp3 := valid_ofu Try.func41 rfl (specs_ok (l := [(42, S_jn2)]) ⟨v_jn2, trivial⟩) noK_sound (L := (fun i => if i = 3 then loopT 25 [1, 5, 11, 12, 13] [] sel_lpmp3 out_lpmp3 else noLoops i)) (fun b hb => by
  rw [show loopsIn _ = [body_lpmp3] by kernel_rfl] at hb
  simp only [List.mem_cons, List.not_mem_nil, or_false] at hb
  subst hb
  exact snd_lpmp3) (fun args lv h => by
  unfold S0_mp3 at h
  split at h
  · simp only [canL, canX]
    rw [nf_mp3]
    rename_i l
    obtain ⟨hn, rfl⟩ := h
    have hE : E_lpmp3 ⟨l, (List.length l : Int), (0 : Int), []⟩ := ⟨rfl, hn, rfl, rfl⟩
    obtain ⟨s', _, h1, h2⟩ := lpmp3_fin _ hE
    have h2 : (run_lpmp3 ⟨l, (List.length l : Int), (0 : Int), []⟩).out = l := h2
    refine ⟨⟨by omega, by omega, by omega, by omega⟩, ⟨rfl, rfl⟩, ⟨hE, rfl⟩, ?_⟩
    refine ⟨by rw [show List.replicate (Int.toNat 0) _ = _ from rfl]; omega, ?_⟩
    show LV.xl _ _ = _
    rw [show List.replicate (Int.toNat 0) _ = ([] : List _) from rfl, h2]
    simp
  · cases h)
def S0_csOf : List LV → T LV
  | [.xl (.pair (.int .i64) (.pair (.int .i64) (.pair (.int .i64) (.int .i64)))) l] => .req ((List.length l : Int) ≤ 1000) (.ok (.xl tC l))
  | _ => .no
noncomputable def S_csOf : List LV → T LV := upS Try.prog Try.f26.params.toList S0_csOf
theorem nf_csOf (l : List (Int × (Int × (Int × Int)))) : funu Try.prog noGlobs (specsOf [(44, S_mp1), (45, S_cOf1)]) noK noLoops Try.f26 [.xl tC l] = .req ((List.length l : Int) ≤ 1000) (.ok (.xl tC l)) := by kernel_rfl
theorem v_csOf : Valid Try.prog noGlobs 26 S_csOf := valid_ofu Try.func26 rfl (specs_ok (l := [(44, S_mp1), (45, S_cOf1)]) ⟨v_mp1, v_cOf1, trivial⟩) noK_sound (no_loops (by kernel_rfl)) (fun args lv h => by
  unfold S0_csOf at h
  split at h
  · simp only [canL, canX]
    rw [nf_csOf]
    exact h
  · cases h)
def S0_vsOf : List LV → T LV
  | [.xl (.pair (.int .i64) (.int .i64)) l] => .req ((List.length l : Int) ≤ 1000) (.ok (.xl tV l))
  | _ => .no
noncomputable def S_vsOf : List LV → T LV := upS Try.prog Try.f27.params.toList S0_vsOf
theorem nf_vsOf (l : List (Int × Int)) : funu Try.prog noGlobs (specsOf [(46, S_mp2), (47, S_vOf1)]) noK noLoops Try.f27 [.xl tV l] = .req ((List.length l : Int) ≤ 1000) (.ok (.xl tV l)) := by kernel_rfl
theorem v_vsOf : Valid Try.prog noGlobs 27 S_vsOf := valid_ofu Try.func27 rfl (specs_ok (l := [(46, S_mp2), (47, S_vOf1)]) ⟨v_mp2, v_vOf1, trivial⟩) noK_sound (no_loops (by kernel_rfl)) (fun args lv h => by
  unfold S0_vsOf at h
  split at h
  · simp only [canL, canX]
    rw [nf_vsOf]
    exact h
  · cases h)
structure L_lpvlc where
  r : Bool
  before : Int
  l : List (Int × (Int × (Int × Int)))
  n : Int
  i : Int
def A_lpvlc (s : L_lpvlc) : List LV := [.v (.bool s.r), .v (.int .i64 s.before), .xl tC s.l, .v (.int .i64 s.n), .v (.int .i64 s.i)]
def B_lpvlc (s : L_lpvlc) : List Blk := []
noncomputable def body_lpvlc : Code := ((loopsIn (Try.f28.body.getD .skip))[0]?).getD .skip
def f_lpvlc (s : L_lpvlc) : Rd L_lpvlc :=
  if (decide (s.i < s.n)) then
    if ((decide ((gC s.l s.i).1 ≤ s.before)) || ((!(inB (gC s.l s.i).1 1 1000000)) || (!(cvB (gC s.l s.i).2.1 (gC s.l s.i).2.2.1 (gC s.l s.i).2.2.2)))) then
      .stop (.ret) { s with r := false }
    else
      .next { s with before := (gC s.l s.i).1, i := (IntKind.i64.wrap (s.i + 1)) }
  else
    .stop (.exit 0) s
def P_lpvlc (s : L_lpvlc) := ((), s.l, s.n)
theorem lpvlc_ex : ∀ s x s', f_lpvlc s = .stop x s' → x = .ret ∨ x = .exit 0 := by
  intro s x s' h
  unfold f_lpvlc at h
  repeat' split at h
  all_goals first | (cases h; done) | (cases h; rfl) | (cases h; simp)
def E_lpvlc (s : L_lpvlc) : Prop := s.n = s.l.length ∧ s.n ≤ 64 ∧ s.i = 0 ∧ s.before = 0
def I_lpvlc (s : L_lpvlc) : Prop := s.n = s.l.length ∧ s.n ≤ 64 ∧ 0 ≤ s.i ∧ s.i ≤ s.n ∧ ckC 0 s.l = ckC s.before (s.l.drop s.i.toNat)
def mu_lpvlc (s : L_lpvlc) : Nat := (s.n - s.i).toNat
def Q_lpvlc (x : Ex) (s s' : L_lpvlc) : Prop := (x = .exit 0 ∧ ckC 0 s'.l = true) ∨ (x = .ret ∧ s'.r = false ∧ ckC 0 s'.l = false)
theorem lpvlc_E : ∀ s, E_lpvlc s → I_lpvlc s := by
  intro s h
  obtain ⟨h1, h2, h3, h4⟩ := h
  exact ⟨h1, h2, by omega, by omega, by rw [h3, h4]; rfl⟩
theorem lpvlc_da (s : L_lpvlc) (hI : I_lpvlc s) : allR (fun s' => I_lpvlc s' ∧ mu_lpvlc s' < mu_lpvlc s) (fun x s' => Q_lpvlc x s s') (f_lpvlc s) := by
  unfold f_lpvlc
  obtain ⟨h1, h2, h3, h4, h5⟩ := hI
  refine allR_ite (fun c1 => ?_) (fun c1 => ?_)
  · have c1 : s.i < s.n := by simpa using c1
    have hs := (gC_step h3 (show s.i < s.l.length by omega)).1
    rw [hs] at h5
    simp only [ckC] at h5
    refine allR_ite (fun c2 => .inr ⟨rfl, rfl, ?_⟩) (fun c2 => ?_)
    · simp only
      rw [h5, Bool.eq_false_iff]
      intro hx
      simp at hx c2
      rcases c2 with c | c | c
      · omega
      · rw [c] at hx; simp at hx
      · rw [c] at hx; simp at hx
    · rw [wrapS (x := s.i + 1) (by omega) (by omega)]
      refine ⟨⟨h1, h2, by simp only; omega, by simp only; omega, ?_⟩, by simp only [mu_lpvlc]; omega⟩
      simp only
      rw [h5]
      simp only [Bool.or_eq_false_iff, Bool.not_eq_false', decide_eq_false_iff_not, Int.not_le] at c2
      simp [c2]
  · have c1 : s.n ≤ s.i := by simpa using c1
    refine .inl ⟨rfl, ?_⟩
    rw [h5, List.drop_eq_nil_of_le (by omega)]
    rfl
theorem lpvlc_d : ∀ s s', I_lpvlc s → f_lpvlc s = .next s' → I_lpvlc s' ∧ mu_lpvlc s' < mu_lpvlc s := fun s s' hI h => allR_next (lpvlc_da s hI) h
def sel_lpvlc : List LV → List Blk → T L_lpvlc
  | [.v (.bool r), .v (.int .i64 before), .xl (.pair (.int .i64) (.pair (.int .i64) (.pair (.int .i64) (.int .i64)))) l, .v (.int .i64 n), .v (.int .i64 i)], [] => .req (E_lpvlc ⟨r, before, l, n, i⟩) (.ok ⟨r, before, l, n, i⟩)
  | _, _ => .no
theorem sel_lpvlc_ok : ∀ vals blks s, (sel_lpvlc vals blks).all (fun x => x = s) → E_lpvlc s ∧ vals = A_lpvlc s ∧ blks = B_lpvlc s := by
  intro vals blks s h
  unfold sel_lpvlc at h
  split at h
  · obtain ⟨h1, rfl⟩ := h
    exact ⟨h1, rfl, rfl⟩
  · cases h
def run_lpvlc (s : L_lpvlc) : L_lpvlc := { (runW f_lpvlc (mu_lpvlc s + 1) s).2 with l := s.l, n := s.n }
theorem run_lpvlc_eq (s : L_lpvlc) : (runW f_lpvlc (mu_lpvlc s + 1) s).2 = run_lpvlc s := by
  have hk := runW_keep (f := f_lpvlc) P_lpvlc (fun s s' hf => by
    unfold f_lpvlc at hf
    repeat' split at hf
    all_goals cases hf
    all_goals rfl) (fun s x s' hf => by
    unfold f_lpvlc at hf
    repeat' split at hf
    all_goals cases hf
    all_goals rfl) (mu_lpvlc s + 1) s
  unfold run_lpvlc
  generalize (runW f_lpvlc (mu_lpvlc s + 1) s).2 = r at *
  cases r
  simp only [P_lpvlc, Prod.mk.injEq, true_and] at hk
  simp only [L_lpvlc.mk.injEq, hk, and_self]
def exn_lpvlc (s : L_lpvlc) : Ex := (runW f_lpvlc (mu_lpvlc s + 1) s).1
def out_lpvlc (s : L_lpvlc) : T (Ex × List LV × List Blk) := .br (isEx (exn_lpvlc s) (.ret)) (.ok (.ret, frameOf 37 [2, 3, 9, 10, 11] (A_lpvlc (run_lpvlc s)), B_lpvlc (run_lpvlc s))) (.ok (.exit 0, frameOf 37 [2, 3, 9, 10, 11] (A_lpvlc (run_lpvlc s)), B_lpvlc (run_lpvlc s)))
theorem nfl_lpvlc (s : L_lpvlc) : backT [2, 3, 9, 10, 11] [] (codex Try.prog noGlobs (specsOf [(30, S_isNu), (65, S_cNum), (66, S_cVal), (67, S_vNum), (68, S_vVal)]) noK noLoops body_lpvlc (frameOf 37 [2, 3, 9, 10, 11] (A_lpvlc s)) (B_lpvlc s)) = .br (decide (s.i < s.n)) (.req (0 ≤ s.i ∧ s.i < (List.length s.l : Int)) (.br ((decide ((gC s.l s.i).1 ≤ s.before)) || ((!(inB (gC s.l s.i).1 1 1000000)) || (!(cvB (gC s.l s.i).2.1 (gC s.l s.i).2.2.1 (gC s.l s.i).2.2.2)))) (.ok (⟨.ret, 37, [.v (.bool false), .v (.int .i64 s.before), .xl tC s.l, .v (.int .i64 s.n), .v (.int .i64 s.i)], [], true⟩)) (.ok (⟨.normal, 37, [.v (.bool s.r), .v (.int .i64 (gC s.l s.i).1), .xl tC s.l, .v (.int .i64 s.n), .v (.int .i64 (IntKind.i64.wrap (s.i + 1)))], [], true⟩)))) (.ok (⟨.exit 0, 37, [.v (.bool s.r), .v (.int .i64 s.before), .xl tC s.l, .v (.int .i64 s.n), .v (.int .i64 s.i)], [], true⟩)) := by kernel_rfl
theorem stp_lpvlc (s : L_lpvlc) (hI : I_lpvlc s) : AllT (fun v => v = rdV 37 A_lpvlc B_lpvlc (f_lpvlc s)) (backT [2, 3, 9, 10, 11] [] (codex Try.prog noGlobs (specsOf [(30, S_isNu), (65, S_cNum), (66, S_cVal), (67, S_vNum), (68, S_vVal)]) noK noLoops body_lpvlc (frameOf 37 [2, 3, 9, 10, 11] (A_lpvlc s)) (B_lpvlc s))) := by
  constructor
  rw [nfl_lpvlc]
  unfold f_lpvlc
  exact
    stp_br (fun c1 =>
      ⟨by (obtain ⟨h1, h2, h3, h4, h5⟩ := hI; simp at c1; omega),
        stp_br (fun c2 =>
          rfl) (fun c2 =>
          rfl)⟩) (fun c1 =>
      rfl)
theorem lpvlc_end (s : L_lpvlc) (hE : E_lpvlc s) : ∃ s', I_lpvlc s' ∧ f_lpvlc s' = .stop (exn_lpvlc s) (run_lpvlc s) := by rw [← run_lpvlc_eq]; exact runW_stop lpvlc_d (mu_lpvlc s + 1) s (lpvlc_E s hE) (Nat.lt_succ_self _)
theorem snd_lpvlc : Sound Try.prog noGlobs (.loop body_lpvlc) (loopT 37 [2, 3, 9, 10, 11] [] sel_lpvlc out_lpvlc) :=
  loop_view 37 [2, 3, 9, 10, 11] [] A_lpvlc B_lpvlc I_lpvlc E_lpvlc mu_lpvlc f_lpvlc sel_lpvlc out_lpvlc (code_sound (Γ := specsOf [(30, S_isNu), (65, S_cNum), (66, S_cVal), (67, S_vNum), (68, S_vVal)]) (K := noK) (L := noLoops) (specs_ok (l := [(30, S_isNu), (65, S_cNum), (66, S_cVal), (67, S_vNum), (68, S_vVal)]) ⟨v_isNu, v_cNum, v_cVal, v_vNum, v_vVal, trivial⟩) noK_sound body_lpvlc (fun b hb => by rw [show loopsIn body_lpvlc = [] by kernel_rfl] at hb; cases hb))
    sel_lpvlc_ok lpvlc_E lpvlc_d (fun s x s' hf => by have := lpvlc_ex s x s' hf; intro h0; subst h0; simp at this) stp_lpvlc (fun s hE => by
      obtain ⟨s', _, h2⟩ := lpvlc_end s hE
      have h3 := lpvlc_ex _ _ _ h2
      have h4 : (runW f_lpvlc (mu_lpvlc s + 1) s).1 = exn_lpvlc s := rfl
      rw [h4, run_lpvlc_eq]
      unfold out_lpvlc
      generalize exn_lpvlc s = e at h3
      rcases h3 with h3 | h3 <;> subst h3 <;> simp [T.all, isEx])
theorem lpvlc_fin (s : L_lpvlc) (hE : E_lpvlc s) : ∃ s', I_lpvlc s' ∧ Q_lpvlc (exn_lpvlc s) s' (run_lpvlc s) := by
  obtain ⟨s', hI, hf⟩ := lpvlc_end s hE
  exact ⟨s', hI, allR_stop (lpvlc_da s' hI) hf⟩
def S0_vlc : List LV → T LV
  | [.xl (.pair (.int .i64) (.pair (.int .i64) (.pair (.int .i64) (.int .i64)))) l] => .ok (.v (.bool (vlC l)))
  | _ => .no
noncomputable def S_vlc : List LV → T LV := upS Try.prog Try.f28.params.toList S0_vlc
theorem nf_vlc (l : List (Int × (Int × (Int × Int)))) : funu Try.prog noGlobs (specsOf [(30, S_isNu), (65, S_cNum), (66, S_cVal), (67, S_vNum), (68, S_vVal)]) noK (fun i => if i = 5 then loopT 37 [2, 3, 9, 10, 11] [] sel_lpvlc out_lpvlc else noLoops i) Try.f28 [.xl tC l] = .br (decide ((List.length l : Int) > 64)) (.ok (.v (.bool false))) (.req (E_lpvlc (⟨false, (0 : Int), l, (List.length l : Int), (0 : Int)⟩ : L_lpvlc)) (.br (isEx (exn_lpvlc (⟨false, (0 : Int), l, (List.length l : Int), (0 : Int)⟩ : L_lpvlc)) (.ret)) (.ok (.v (.bool (run_lpvlc (⟨false, (0 : Int), l, (List.length l : Int), (0 : Int)⟩ : L_lpvlc)).r))) (.ok (.v (.bool true))))) := by kernel_rfl
theorem v_vlc : Valid Try.prog noGlobs 28 S_vlc := valid_ofu Try.func28 rfl (specs_ok (l := [(30, S_isNu), (65, S_cNum), (66, S_cVal), (67, S_vNum), (68, S_vVal)]) ⟨v_isNu, v_cNum, v_cVal, v_vNum, v_vVal, trivial⟩) noK_sound (L := (fun i => if i = 5 then loopT 37 [2, 3, 9, 10, 11] [] sel_lpvlc out_lpvlc else noLoops i)) (fun b hb => by
  rw [show loopsIn _ = [body_lpvlc] by kernel_rfl] at hb
  simp only [List.mem_cons, List.not_mem_nil, or_false] at hb
  subst hb
  exact snd_lpvlc) (fun args lv h => by
  unfold S0_vlc at h
  split at h
  · simp only [canL, canX]
    rw [nf_vlc]
    rename_i l
    obtain rfl := h
    refine ⟨fun c1 => congrArg (fun z => LV.v (.bool z)) ?_, fun c1 => ?_⟩
    · simp at c1
      simp [vlC]
      omega
    · simp at c1
      have hE : E_lpvlc ⟨false, (0 : Int), l, (List.length l : Int), (0 : Int)⟩ := ⟨rfl, by simp only; omega, rfl, rfl⟩
      have hv : vlC l = ckC 0 l := by simp [vlC]; omega
      rw [hv]
      obtain ⟨s', _, hq⟩ := lpvlc_fin _ hE
      refine ⟨hE, ?_⟩
      rcases hq with ⟨h1, h2⟩ | ⟨h1, h2, h3⟩
      · rw [h1, show ckC 0 l = true from h2]; exact ⟨fun h => (by cases h), fun _ => rfl⟩
      · rw [h1, h2, show ckC 0 l = false from h3]; exact ⟨fun _ => rfl, fun h => by cases h⟩
  · cases h)
structure L_lpvlv where
  r : Bool
  before : Int
  l : List (Int × Int)
  n : Int
  i : Int
def A_lpvlv (s : L_lpvlv) : List LV := [.v (.bool s.r), .v (.int .i64 s.before), .xl tV s.l, .v (.int .i64 s.n), .v (.int .i64 s.i)]
def B_lpvlv (s : L_lpvlv) : List Blk := []
noncomputable def body_lpvlv : Code := ((loopsIn (Try.f29.body.getD .skip))[0]?).getD .skip
def f_lpvlv (s : L_lpvlv) : Rd L_lpvlv :=
  if (decide (s.i < s.n)) then
    if ((decide ((gV s.l s.i).1 ≤ s.before)) || ((!(inB (gV s.l s.i).1 1 1000000)) || (!(inB (gV s.l s.i).2 0 1000000)))) then
      .stop (.ret) { s with r := false }
    else
      .next { s with before := (gV s.l s.i).1, i := (IntKind.i64.wrap (s.i + 1)) }
  else
    .stop (.exit 0) s
def P_lpvlv (s : L_lpvlv) := ((), s.l, s.n)
theorem lpvlv_ex : ∀ s x s', f_lpvlv s = .stop x s' → x = .ret ∨ x = .exit 0 := by
  intro s x s' h
  unfold f_lpvlv at h
  repeat' split at h
  all_goals first | (cases h; done) | (cases h; rfl) | (cases h; simp)
def E_lpvlv (s : L_lpvlv) : Prop := s.n = s.l.length ∧ s.n ≤ 64 ∧ s.i = 0 ∧ s.before = 0
def I_lpvlv (s : L_lpvlv) : Prop := s.n = s.l.length ∧ s.n ≤ 64 ∧ 0 ≤ s.i ∧ s.i ≤ s.n ∧ ckV 0 s.l = ckV s.before (s.l.drop s.i.toNat)
def mu_lpvlv (s : L_lpvlv) : Nat := (s.n - s.i).toNat
def Q_lpvlv (x : Ex) (s s' : L_lpvlv) : Prop := (x = .exit 0 ∧ ckV 0 s'.l = true) ∨ (x = .ret ∧ s'.r = false ∧ ckV 0 s'.l = false)
theorem lpvlv_E : ∀ s, E_lpvlv s → I_lpvlv s := by
  intro s h
  obtain ⟨h1, h2, h3, h4⟩ := h
  exact ⟨h1, h2, by omega, by omega, by rw [h3, h4]; rfl⟩
theorem lpvlv_da (s : L_lpvlv) (hI : I_lpvlv s) : allR (fun s' => I_lpvlv s' ∧ mu_lpvlv s' < mu_lpvlv s) (fun x s' => Q_lpvlv x s s') (f_lpvlv s) := by
  unfold f_lpvlv
  obtain ⟨h1, h2, h3, h4, h5⟩ := hI
  refine allR_ite (fun c1 => ?_) (fun c1 => ?_)
  · have c1 : s.i < s.n := by simpa using c1
    have hs := (gV_step h3 (show s.i < s.l.length by omega)).1
    rw [hs] at h5
    simp only [ckV] at h5
    refine allR_ite (fun c2 => .inr ⟨rfl, rfl, ?_⟩) (fun c2 => ?_)
    · simp only
      rw [h5, Bool.eq_false_iff]
      intro hx
      simp at hx c2
      rcases c2 with c | c | c
      · omega
      · rw [c] at hx; simp at hx
      · rw [c] at hx; simp at hx
    · rw [wrapS (x := s.i + 1) (by omega) (by omega)]
      refine ⟨⟨h1, h2, by simp only; omega, by simp only; omega, ?_⟩, by simp only [mu_lpvlv]; omega⟩
      simp only
      rw [h5]
      simp only [Bool.or_eq_false_iff, Bool.not_eq_false', decide_eq_false_iff_not, Int.not_le] at c2
      simp [c2]
  · have c1 : s.n ≤ s.i := by simpa using c1
    refine .inl ⟨rfl, ?_⟩
    rw [h5, List.drop_eq_nil_of_le (by omega)]
    rfl
theorem lpvlv_d : ∀ s s', I_lpvlv s → f_lpvlv s = .next s' → I_lpvlv s' ∧ mu_lpvlv s' < mu_lpvlv s := fun s s' hI h => allR_next (lpvlv_da s hI) h
def sel_lpvlv : List LV → List Blk → T L_lpvlv
  | [.v (.bool r), .v (.int .i64 before), .xl (.pair (.int .i64) (.int .i64)) l, .v (.int .i64 n), .v (.int .i64 i)], [] => .req (E_lpvlv ⟨r, before, l, n, i⟩) (.ok ⟨r, before, l, n, i⟩)
  | _, _ => .no
theorem sel_lpvlv_ok : ∀ vals blks s, (sel_lpvlv vals blks).all (fun x => x = s) → E_lpvlv s ∧ vals = A_lpvlv s ∧ blks = B_lpvlv s := by
  intro vals blks s h
  unfold sel_lpvlv at h
  split at h
  · obtain ⟨h1, rfl⟩ := h
    exact ⟨h1, rfl, rfl⟩
  · cases h
def run_lpvlv (s : L_lpvlv) : L_lpvlv := { (runW f_lpvlv (mu_lpvlv s + 1) s).2 with l := s.l, n := s.n }
theorem run_lpvlv_eq (s : L_lpvlv) : (runW f_lpvlv (mu_lpvlv s + 1) s).2 = run_lpvlv s := by
  have hk := runW_keep (f := f_lpvlv) P_lpvlv (fun s s' hf => by
    unfold f_lpvlv at hf
    repeat' split at hf
    all_goals cases hf
    all_goals rfl) (fun s x s' hf => by
    unfold f_lpvlv at hf
    repeat' split at hf
    all_goals cases hf
    all_goals rfl) (mu_lpvlv s + 1) s
  unfold run_lpvlv
  generalize (runW f_lpvlv (mu_lpvlv s + 1) s).2 = r at *
  cases r
  simp only [P_lpvlv, Prod.mk.injEq, true_and] at hk
  simp only [L_lpvlv.mk.injEq, hk, and_self]
def exn_lpvlv (s : L_lpvlv) : Ex := (runW f_lpvlv (mu_lpvlv s + 1) s).1
def out_lpvlv (s : L_lpvlv) : T (Ex × List LV × List Blk) := .br (isEx (exn_lpvlv s) (.ret)) (.ok (.ret, frameOf 37 [2, 3, 9, 10, 11] (A_lpvlv (run_lpvlv s)), B_lpvlv (run_lpvlv s))) (.ok (.exit 0, frameOf 37 [2, 3, 9, 10, 11] (A_lpvlv (run_lpvlv s)), B_lpvlv (run_lpvlv s)))
theorem nfl_lpvlv (s : L_lpvlv) : backT [2, 3, 9, 10, 11] [] (codex Try.prog noGlobs (specsOf [(30, S_isNu), (65, S_cNum), (66, S_cVal), (67, S_vNum), (68, S_vVal)]) noK noLoops body_lpvlv (frameOf 37 [2, 3, 9, 10, 11] (A_lpvlv s)) (B_lpvlv s)) = .br (decide (s.i < s.n)) (.req (0 ≤ s.i ∧ s.i < (List.length s.l : Int)) (.br ((decide ((gV s.l s.i).1 ≤ s.before)) || ((!(inB (gV s.l s.i).1 1 1000000)) || (!(inB (gV s.l s.i).2 0 1000000)))) (.ok (⟨.ret, 37, [.v (.bool false), .v (.int .i64 s.before), .xl tV s.l, .v (.int .i64 s.n), .v (.int .i64 s.i)], [], true⟩)) (.ok (⟨.normal, 37, [.v (.bool s.r), .v (.int .i64 (gV s.l s.i).1), .xl tV s.l, .v (.int .i64 s.n), .v (.int .i64 (IntKind.i64.wrap (s.i + 1)))], [], true⟩)))) (.ok (⟨.exit 0, 37, [.v (.bool s.r), .v (.int .i64 s.before), .xl tV s.l, .v (.int .i64 s.n), .v (.int .i64 s.i)], [], true⟩)) := by kernel_rfl
theorem stp_lpvlv (s : L_lpvlv) (hI : I_lpvlv s) : AllT (fun v => v = rdV 37 A_lpvlv B_lpvlv (f_lpvlv s)) (backT [2, 3, 9, 10, 11] [] (codex Try.prog noGlobs (specsOf [(30, S_isNu), (65, S_cNum), (66, S_cVal), (67, S_vNum), (68, S_vVal)]) noK noLoops body_lpvlv (frameOf 37 [2, 3, 9, 10, 11] (A_lpvlv s)) (B_lpvlv s))) := by
  constructor
  rw [nfl_lpvlv]
  unfold f_lpvlv
  exact
    stp_br (fun c1 =>
      ⟨by (obtain ⟨h1, h2, h3, h4, h5⟩ := hI; simp at c1; omega),
        stp_br (fun c2 =>
          rfl) (fun c2 =>
          rfl)⟩) (fun c1 =>
      rfl)
theorem lpvlv_end (s : L_lpvlv) (hE : E_lpvlv s) : ∃ s', I_lpvlv s' ∧ f_lpvlv s' = .stop (exn_lpvlv s) (run_lpvlv s) := by rw [← run_lpvlv_eq]; exact runW_stop lpvlv_d (mu_lpvlv s + 1) s (lpvlv_E s hE) (Nat.lt_succ_self _)
theorem snd_lpvlv : Sound Try.prog noGlobs (.loop body_lpvlv) (loopT 37 [2, 3, 9, 10, 11] [] sel_lpvlv out_lpvlv) :=
  loop_view 37 [2, 3, 9, 10, 11] [] A_lpvlv B_lpvlv I_lpvlv E_lpvlv mu_lpvlv f_lpvlv sel_lpvlv out_lpvlv (code_sound (Γ := specsOf [(30, S_isNu), (65, S_cNum), (66, S_cVal), (67, S_vNum), (68, S_vVal)]) (K := noK) (L := noLoops) (specs_ok (l := [(30, S_isNu), (65, S_cNum), (66, S_cVal), (67, S_vNum), (68, S_vVal)]) ⟨v_isNu, v_cNum, v_cVal, v_vNum, v_vVal, trivial⟩) noK_sound body_lpvlv (fun b hb => by rw [show loopsIn body_lpvlv = [] by kernel_rfl] at hb; cases hb))
    sel_lpvlv_ok lpvlv_E lpvlv_d (fun s x s' hf => by have := lpvlv_ex s x s' hf; intro h0; subst h0; simp at this) stp_lpvlv (fun s hE => by
      obtain ⟨s', _, h2⟩ := lpvlv_end s hE
      have h3 := lpvlv_ex _ _ _ h2
      have h4 : (runW f_lpvlv (mu_lpvlv s + 1) s).1 = exn_lpvlv s := rfl
      rw [h4, run_lpvlv_eq]
      unfold out_lpvlv
      generalize exn_lpvlv s = e at h3
      rcases h3 with h3 | h3 <;> subst h3 <;> simp [T.all, isEx])
theorem lpvlv_fin (s : L_lpvlv) (hE : E_lpvlv s) : ∃ s', I_lpvlv s' ∧ Q_lpvlv (exn_lpvlv s) s' (run_lpvlv s) := by
  obtain ⟨s', hI, hf⟩ := lpvlv_end s hE
  exact ⟨s', hI, allR_stop (lpvlv_da s' hI) hf⟩
def S0_vlv : List LV → T LV
  | [.xl (.pair (.int .i64) (.int .i64)) l] => .ok (.v (.bool (vlV l)))
  | _ => .no
noncomputable def S_vlv : List LV → T LV := upS Try.prog Try.f29.params.toList S0_vlv
theorem nf_vlv (l : List (Int × Int)) : funu Try.prog noGlobs (specsOf [(30, S_isNu), (65, S_cNum), (66, S_cVal), (67, S_vNum), (68, S_vVal)]) noK (fun i => if i = 5 then loopT 37 [2, 3, 9, 10, 11] [] sel_lpvlv out_lpvlv else noLoops i) Try.f29 [.xl tV l] = .br (decide ((List.length l : Int) > 64)) (.ok (.v (.bool false))) (.req (E_lpvlv (⟨false, (0 : Int), l, (List.length l : Int), (0 : Int)⟩ : L_lpvlv)) (.br (isEx (exn_lpvlv (⟨false, (0 : Int), l, (List.length l : Int), (0 : Int)⟩ : L_lpvlv)) (.ret)) (.ok (.v (.bool (run_lpvlv (⟨false, (0 : Int), l, (List.length l : Int), (0 : Int)⟩ : L_lpvlv)).r))) (.ok (.v (.bool true))))) := by kernel_rfl
theorem v_vlv : Valid Try.prog noGlobs 29 S_vlv := valid_ofu Try.func29 rfl (specs_ok (l := [(30, S_isNu), (65, S_cNum), (66, S_cVal), (67, S_vNum), (68, S_vVal)]) ⟨v_isNu, v_cNum, v_cVal, v_vNum, v_vVal, trivial⟩) noK_sound (L := (fun i => if i = 5 then loopT 37 [2, 3, 9, 10, 11] [] sel_lpvlv out_lpvlv else noLoops i)) (fun b hb => by
  rw [show loopsIn _ = [body_lpvlv] by kernel_rfl] at hb
  simp only [List.mem_cons, List.not_mem_nil, or_false] at hb
  subst hb
  exact snd_lpvlv) (fun args lv h => by
  unfold S0_vlv at h
  split at h
  · simp only [canL, canX]
    rw [nf_vlv]
    rename_i l
    obtain rfl := h
    refine ⟨fun c1 => congrArg (fun z => LV.v (.bool z)) ?_, fun c1 => ?_⟩
    · simp at c1
      simp [vlV]
      omega
    · simp at c1
      have hE : E_lpvlv ⟨false, (0 : Int), l, (List.length l : Int), (0 : Int)⟩ := ⟨rfl, by simp only; omega, rfl, rfl⟩
      have hv : vlV l = ckV 0 l := by simp [vlV]; omega
      rw [hv]
      obtain ⟨s', _, hq⟩ := lpvlv_fin _ hE
      refine ⟨hE, ?_⟩
      rcases hq with ⟨h1, h2⟩ | ⟨h1, h2, h3⟩
      · rw [h1, show ckV 0 l = true from h2]; exact ⟨fun h => (by cases h), fun _ => rfl⟩
      · rw [h1, h2, show ckV 0 l = false from h3]; exact ⟨fun _ => rfl, fun h => by cases h⟩
  · cases h)
end Go.Proofs.Ytcpadfehoaopaaa
