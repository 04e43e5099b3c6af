/- References: what they compute, by the executor. -/
import Derived.Test.YtcpadfehoaopaaaBk
namespace Go.Proofs.Ytcpadfehoaopaaa
open Go.Sx
structure L_rfi where
  l : List (Int × (Int × (Int × Int)))
  number : Int
  r : Int
  i : Int
def A_rfi (s : L_rfi) : List LV := [.xl tC s.l, .v (.int .i64 s.number), .v (.int .i64 s.r), .v (.int .i64 s.i)]
def B_rfi (s : L_rfi) : List Blk := []
noncomputable def body_rfi : Code := ((loopsIn (Try.f37.body.getD .skip))[0]?).getD .skip
def f_rfi (s : L_rfi) : Rd L_rfi :=
  if (decide (s.i < (List.length s.l : Int))) then
    if ((gC s.l s.i).1 == s.number) then
      .stop (.ret) { s with r := s.i }
    else
      .next { s with i := (IntKind.i64.wrap (s.i + 1)) }
  else
    .stop (.exit 0) s
def P_rfi (s : L_rfi) := ((), s.l, s.number)
theorem rfi_ex : ∀ s x s', f_rfi s = .stop x s' → x = .ret ∨ x = .exit 0 := by
  intro s x s' h
  unfold f_rfi at h
  repeat' split at h
  all_goals first | (cases h; done) | (cases h; rfl) | (cases h; simp)
def E_rfi (s : L_rfi) : Prop := s.i = 0 ∧ (s.l.length : Int) ≤ 1000
def I_rfi (s : L_rfi) : Prop := 0 ≤ s.i ∧ s.i ≤ s.l.length ∧ (s.l.length : Int) ≤ 1000 ∧ ∀ (j : Nat) (hj : j < s.l.length), (j : Int) < s.i → s.l[j].1 ≠ s.number
def mu_rfi (s : L_rfi) : Nat := ((s.l.length : Int) - s.i).toNat
def Q_rfi (x : Ex) (s s' : L_rfi) : Prop := (x = .exit 0 ∧ ∀ (j : Nat) (hj : j < s'.l.length), s'.l[j].1 ≠ s'.number) ∨ (x = .ret ∧ ∃ (k : Nat) (hk : k < s'.l.length), s'.r = k ∧ s'.l[k].1 = s'.number ∧ ∀ (j : Nat) (hj : j < s'.l.length), j < k → s'.l[j].1 ≠ s'.number)
theorem rfi_E : ∀ s, E_rfi s → I_rfi s := by
  intro s h
  obtain ⟨h1, h2⟩ := h
  exact ⟨by omega, by omega, h2, fun j hj h => by omega⟩
theorem rfi_da (s : L_rfi) (hI : I_rfi s) : allR (fun s' => I_rfi s' ∧ mu_rfi s' < mu_rfi s) (fun x s' => Q_rfi x s s') (f_rfi s) := by
  unfold f_rfi
  obtain ⟨h1, h2, h3, h4⟩ := hI
  refine allR_ite (fun c1 => ?_) (fun c1 => ?_)
  · have c1 : s.i < s.l.length := by simpa using c1
    have hl : s.i.toNat < s.l.length := by omega
    rw [gC_eq hl]
    refine allR_ite (fun c2 => ?_) (fun c2 => ?_)
    · have c2 : s.l[s.i.toNat].1 = s.number := by simpa using c2
      exact .inr ⟨rfl, s.i.toNat, hl, by simp only; omega, c2, fun j hj h => h4 j hj (by omega)⟩
    · have c2 : s.l[s.i.toNat].1 ≠ s.number := by simpa using c2
      rw [wrapS (x := s.i + 1) (by omega) (by omega)]
      refine ⟨⟨by simp only; omega, by simp only; omega, h3, fun j hj h => ?_⟩, by simp only [mu_rfi]; omega⟩
      simp only at h hj ⊢
      by_cases hji : j = s.i.toNat
      · subst hji; exact c2
      · exact h4 j hj (by omega)
  · have c1 : (s.l.length : Int) ≤ s.i := by simpa using c1
    exact .inl ⟨rfl, fun j hj => h4 j hj (by omega)⟩
theorem rfi_d : ∀ s s', I_rfi s → f_rfi s = .next s' → I_rfi s' ∧ mu_rfi s' < mu_rfi s := fun s s' hI h => allR_next (rfi_da s hI) h
def sel_rfi : List LV → List Blk → T L_rfi
  | [.xl (.pair (.int .i64) (.pair (.int .i64) (.pair (.int .i64) (.int .i64)))) l, .v (.int .i64 number), .v (.int .i64 r), .v (.int .i64 i)], [] => .req (E_rfi ⟨l, number, r, i⟩) (.ok ⟨l, number, r, i⟩)
  | _, _ => .no
theorem sel_rfi_ok : ∀ vals blks s, (sel_rfi vals blks).all (fun x => x = s) → E_rfi s ∧ vals = A_rfi s ∧ blks = B_rfi s := by
  intro vals blks s h
  unfold sel_rfi at h
  split at h
  · obtain ⟨h1, rfl⟩ := h
    exact ⟨h1, rfl, rfl⟩
  · cases h
def run_rfi (s : L_rfi) : L_rfi := { (runW f_rfi (mu_rfi s + 1) s).2 with l := s.l, number := s.number }
theorem run_rfi_eq (s : L_rfi) : (runW f_rfi (mu_rfi s + 1) s).2 = run_rfi s := by
  have hk := runW_keep (f := f_rfi) P_rfi (fun s s' hf => by
    unfold f_rfi at hf
    repeat' split at hf
    all_goals cases hf
    all_goals rfl) (fun s x s' hf => by
    unfold f_rfi at hf
    repeat' split at hf
    all_goals cases hf
    all_goals rfl) (mu_rfi s + 1) s
  unfold run_rfi
  generalize (runW f_rfi (mu_rfi s + 1) s).2 = r at *
  cases r
  simp only [P_rfi, Prod.mk.injEq, true_and] at hk
  simp only [L_rfi.mk.injEq, hk, and_self]
def exn_rfi (s : L_rfi) : Ex := (runW f_rfi (mu_rfi s + 1) s).1
def out_rfi (s : L_rfi) : T (Ex × List LV × List Blk) := .br (isEx (exn_rfi s) (.ret)) (.ok (.ret, frameOf 20 [0, 1, 4, 5] (A_rfi (run_rfi s)), B_rfi (run_rfi s))) (.ok (.exit 0, frameOf 20 [0, 1, 4, 5] (A_rfi (run_rfi s)), B_rfi (run_rfi s)))
theorem nfl_rfi (s : L_rfi) : backT [0, 1, 4, 5] [] (codex Try.prog noGlobs (specsOf []) noK noLoops body_rfi (frameOf 20 [0, 1, 4, 5] (A_rfi s)) (B_rfi s)) = .br (decide (s.i < (List.length s.l : Int))) (.req (0 ≤ s.i ∧ s.i < (List.length s.l : Int)) (.br ((gC s.l s.i).1 == s.number) (.ok (⟨.ret, 20, [.xl tC s.l, .v (.int .i64 s.number), .v (.int .i64 s.i), .v (.int .i64 s.i)], [], true⟩)) (.ok (⟨.normal, 20, [.xl tC s.l, .v (.int .i64 s.number), .v (.int .i64 s.r), .v (.int .i64 (IntKind.i64.wrap (s.i + 1)))], [], true⟩)))) (.ok (⟨.exit 0, 20, [.xl tC s.l, .v (.int .i64 s.number), .v (.int .i64 s.r), .v (.int .i64 s.i)], [], true⟩)) := by kernel_rfl
theorem stp_rfi (s : L_rfi) (hI : I_rfi s) : AllT (fun v => v = rdV 20 A_rfi B_rfi (f_rfi s)) (backT [0, 1, 4, 5] [] (codex Try.prog noGlobs (specsOf []) noK noLoops body_rfi (frameOf 20 [0, 1, 4, 5] (A_rfi s)) (B_rfi s))) := by
  constructor
  rw [nfl_rfi]
  unfold f_rfi
  exact
    stp_br (fun c1 =>
      ⟨by (obtain ⟨h1, h2, h3, h4⟩ := hI; simp at c1; omega),
        stp_br (fun c2 =>
          rfl) (fun c2 =>
          rfl)⟩) (fun c1 =>
      rfl)
theorem rfi_end (s : L_rfi) (hE : E_rfi s) : ∃ s', I_rfi s' ∧ f_rfi s' = .stop (exn_rfi s) (run_rfi s) := by rw [← run_rfi_eq]; exact runW_stop rfi_d (mu_rfi s + 1) s (rfi_E s hE) (Nat.lt_succ_self _)
theorem snd_rfi : Sound Try.prog noGlobs (.loop body_rfi) (loopT 20 [0, 1, 4, 5] [] sel_rfi out_rfi) :=
  loop_view 20 [0, 1, 4, 5] [] A_rfi B_rfi I_rfi E_rfi mu_rfi f_rfi sel_rfi out_rfi (code_sound (Γ := specsOf []) (K := noK) (L := noLoops) (specs_ok (l := []) trivial) noK_sound body_rfi (fun b hb => by rw [show loopsIn body_rfi = [] by kernel_rfl] at hb; cases hb))
    sel_rfi_ok rfi_E rfi_d (fun s x s' hf => by have := rfi_ex s x s' hf; intro h0; subst h0; simp at this) stp_rfi (fun s hE => by
      obtain ⟨s', _, h2⟩ := rfi_end s hE
      have h3 := rfi_ex _ _ _ h2
      have h4 : (runW f_rfi (mu_rfi s + 1) s).1 = exn_rfi s := rfl
      rw [h4, run_rfi_eq]
      unfold out_rfi
      generalize exn_rfi s = e at h3
      rcases h3 with h3 | h3 <;> subst h3 <;> simp [T.all, isEx])
theorem rfi_fin (s : L_rfi) (hE : E_rfi s) : ∃ s', I_rfi s' ∧ Q_rfi (exn_rfi s) s' (run_rfi s) := by
  obtain ⟨s', hI, hf⟩ := rfi_end s hE
  exact ⟨s', hI, allR_stop (rfi_da s' hI) hf⟩
def S0_rfind : List LV → T LV
  | [.xl (.pair (.int .i64) (.pair (.int .i64) (.pair (.int .i64) (.int .i64)))) l, .v (.int .i64 n)] => .req ((List.length l : Int) ≤ 1000) (.ok (.v (.int .i64 (fiI l n))))
  | _ => .no
noncomputable def S_rfind : List LV → T LV := upS Try.prog Try.f37.params.toList S0_rfind
theorem nf_rfind (l : List (Int × (Int × (Int × Int)))) (n : Int) : funu Try.prog noGlobs (specsOf []) noK (fun i => if i = 2 then loopT 20 [0, 1, 4, 5] [] sel_rfi out_rfi else noLoops i) Try.f37 [.xl tC l, .v (.int .i64 n)] = .req (E_rfi (⟨l, n, (0 : Int), (0 : Int)⟩ : L_rfi)) (.br (isEx (exn_rfi (⟨l, n, (0 : Int), (0 : Int)⟩ : L_rfi)) (.ret)) (.ok (.v (.int .i64 (run_rfi (⟨l, n, (0 : Int), (0 : Int)⟩ : L_rfi)).r))) (.ok (.v (.int .i64 (-1))))) := by kernel_rfl
theorem v_rfind : Valid Try.prog noGlobs 37 S_rfind := valid_ofu Try.func37 rfl (specs_ok (l := []) trivial) noK_sound (L := (fun i => if i = 2 then loopT 20 [0, 1, 4, 5] [] sel_rfi out_rfi else noLoops i)) (fun b hb => by
  rw [show loopsIn _ = [body_rfi] by kernel_rfl] at hb
  simp only [List.mem_cons, List.not_mem_nil, or_false] at hb
  subst hb
  exact snd_rfi) (fun args lv h => by
  unfold S0_rfind at h
  split at h
  · simp only [canL, canX]
    rw [nf_rfind]
    rename_i l n
    obtain ⟨hn, rfl⟩ := h
    have hE : E_rfi ⟨l, n, (0 : Int), (0 : Int)⟩ := ⟨rfl, hn⟩
    obtain ⟨s', _, hq⟩ := rfi_fin _ hE
    refine ⟨hE, ?_⟩
    rcases hq with ⟨h1, h2⟩ | ⟨h1, k, hk, h2, h3, h4⟩
    · rw [h1]
      exact ⟨fun h => (by cases h), fun _ => congrArg (fun z => LV.v (.int .i64 z)) (first_no h2).2.symm⟩
    · rw [h1, h2]
      exact ⟨fun _ => congrArg (fun z => LV.v (.int .i64 z)) (first_at (l := l) (n := n) hk h3 h4).2.1.symm, fun h => by cases h⟩
  · cases h)
structure L_rrv where
  l : List (Int × Int)
  number : Int
  epoch : Int
  r : Bool
  i : Int
def A_rrv (s : L_rrv) : List LV := [.xl tV s.l, .v (.int .i64 s.number), .v (.int .i64 s.epoch), .v (.bool s.r), .v (.int .i64 s.i)]
def B_rrv (s : L_rrv) : List Blk := []
noncomputable def body_rrv : Code := ((loopsIn (Try.f38.body.getD .skip))[0]?).getD .skip
def f_rrv (s : L_rrv) : Rd L_rrv :=
  if (decide (s.i < (List.length s.l : Int))) then
    if ((gV s.l s.i).1 == s.number) then
      if (decide ((gV s.l s.i).2 ≤ s.epoch)) then
        .stop (.ret) { s with r := true }
      else
        .next { s with i := (IntKind.i64.wrap (s.i + 1)) }
    else
      .next { s with i := (IntKind.i64.wrap (s.i + 1)) }
  else
    .stop (.exit 0) s
def P_rrv (s : L_rrv) := ((), s.l, s.number, s.epoch)
theorem rrv_ex : ∀ s x s', f_rrv s = .stop x s' → x = .ret ∨ x = .exit 0 := by
  intro s x s' h
  unfold f_rrv at h
  repeat' split at h
  all_goals first | (cases h; done) | (cases h; rfl) | (cases h; simp)
def E_rrv (s : L_rrv) : Prop := s.i = 0 ∧ (s.l.length : Int) ≤ 1000
def I_rrv (s : L_rrv) : Prop := 0 ≤ s.i ∧ s.i ≤ s.l.length ∧ (s.l.length : Int) ≤ 1000 ∧ rvA s.l s.number s.epoch = rvA (s.l.drop s.i.toNat) s.number s.epoch
def mu_rrv (s : L_rrv) : Nat := ((s.l.length : Int) - s.i).toNat
def Q_rrv (x : Ex) (s s' : L_rrv) : Prop := (x = .exit 0 ∧ rvA s'.l s'.number s'.epoch = false) ∨ (x = .ret ∧ s'.r = true ∧ rvA s'.l s'.number s'.epoch = true)
theorem rrv_E : ∀ s, E_rrv s → I_rrv s := by
  intro s h
  obtain ⟨h1, h2⟩ := h
  exact ⟨by omega, by omega, h2, by rw [h1]; rfl⟩
theorem rrv_da (s : L_rrv) (hI : I_rrv s) : allR (fun s' => I_rrv s' ∧ mu_rrv s' < mu_rrv s) (fun x s' => Q_rrv x s s') (f_rrv s) := by
  unfold f_rrv
  obtain ⟨h1, h2, h3, h4⟩ := hI
  refine allR_ite (fun c1 => ?_) (fun c1 => ?_)
  · refine allR_ite (fun c2 => ?_) (fun c2 => ?_)
    · refine allR_ite (fun c3 => ?_) (fun c3 => ?_)
      · have c1 : s.i < s.l.length := by simpa using c1
        have hs := (gV_step h1 c1).1
        rw [hs] at h4
        unfold rvA at h4
        simp only [List.any_cons] at h4
        refine .inr ⟨rfl, rfl, ?_⟩
        simp only
        unfold rvA
        rw [h4]
        simp [c2, c3]
      · have c1 : s.i < s.l.length := by simpa using c1
        have hs := (gV_step h1 c1).1
        rw [hs] at h4
        unfold rvA at h4
        simp only [List.any_cons] at h4
        rw [wrapS (x := s.i + 1) (by omega) (by omega)]
        refine ⟨⟨by simp only; omega, by simp only; omega, h3, ?_⟩, by simp only [mu_rrv]; omega⟩
        simp only
        unfold rvA
        rw [h4]
        simp [c2, c3]
    · have c1 : s.i < s.l.length := by simpa using c1
      have hs := (gV_step h1 c1).1
      rw [hs] at h4
      unfold rvA at h4
      simp only [List.any_cons] at h4
      rw [wrapS (x := s.i + 1) (by omega) (by omega)]
      refine ⟨⟨by simp only; omega, by simp only; omega, h3, ?_⟩, by simp only [mu_rrv]; omega⟩
      simp only
      unfold rvA
      rw [h4]
      simp [c2]
  · have c1 : (s.l.length : Int) ≤ s.i := by simpa using c1
    refine .inl ⟨rfl, ?_⟩
    rw [h4, List.drop_eq_nil_of_le (by omega)]
    rfl
theorem rrv_d : ∀ s s', I_rrv s → f_rrv s = .next s' → I_rrv s' ∧ mu_rrv s' < mu_rrv s := fun s s' hI h => allR_next (rrv_da s hI) h
def sel_rrv : List LV → List Blk → T L_rrv
  | [.xl (.pair (.int .i64) (.int .i64)) l, .v (.int .i64 number), .v (.int .i64 epoch), .v (.bool r), .v (.int .i64 i)], [] => .req (E_rrv ⟨l, number, epoch, r, i⟩) (.ok ⟨l, number, epoch, r, i⟩)
  | _, _ => .no
theorem sel_rrv_ok : ∀ vals blks s, (sel_rrv vals blks).all (fun x => x = s) → E_rrv s ∧ vals = A_rrv s ∧ blks = B_rrv s := by
  intro vals blks s h
  unfold sel_rrv at h
  split at h
  · obtain ⟨h1, rfl⟩ := h
    exact ⟨h1, rfl, rfl⟩
  · cases h
def run_rrv (s : L_rrv) : L_rrv := { (runW f_rrv (mu_rrv s + 1) s).2 with l := s.l, number := s.number, epoch := s.epoch }
theorem run_rrv_eq (s : L_rrv) : (runW f_rrv (mu_rrv s + 1) s).2 = run_rrv s := by
  have hk := runW_keep (f := f_rrv) P_rrv (fun s s' hf => by
    unfold f_rrv at hf
    repeat' split at hf
    all_goals cases hf
    all_goals rfl) (fun s x s' hf => by
    unfold f_rrv at hf
    repeat' split at hf
    all_goals cases hf
    all_goals rfl) (mu_rrv s + 1) s
  unfold run_rrv
  generalize (runW f_rrv (mu_rrv s + 1) s).2 = r at *
  cases r
  simp only [P_rrv, Prod.mk.injEq, true_and] at hk
  simp only [L_rrv.mk.injEq, hk, and_self]
def exn_rrv (s : L_rrv) : Ex := (runW f_rrv (mu_rrv s + 1) s).1
def out_rrv (s : L_rrv) : T (Ex × List LV × List Blk) := .br (isEx (exn_rrv s) (.ret)) (.ok (.ret, frameOf 30 [0, 1, 2, 6, 7] (A_rrv (run_rrv s)), B_rrv (run_rrv s))) (.ok (.exit 0, frameOf 30 [0, 1, 2, 6, 7] (A_rrv (run_rrv s)), B_rrv (run_rrv s)))
theorem nfl_rrv (s : L_rrv) : backT [0, 1, 2, 6, 7] [] (codex Try.prog noGlobs (specsOf []) noK noLoops body_rrv (frameOf 30 [0, 1, 2, 6, 7] (A_rrv s)) (B_rrv s)) = .br (decide (s.i < (List.length s.l : Int))) (.req (0 ≤ s.i ∧ s.i < (List.length s.l : Int)) (.br ((gV s.l s.i).1 == s.number) (.req (0 ≤ s.i ∧ s.i < (List.length s.l : Int)) (.br (decide ((gV s.l s.i).2 ≤ s.epoch)) (.ok (⟨.ret, 30, [.xl tV s.l, .v (.int .i64 s.number), .v (.int .i64 s.epoch), .v (.bool true), .v (.int .i64 s.i)], [], true⟩)) (.ok (⟨.normal, 30, [.xl tV s.l, .v (.int .i64 s.number), .v (.int .i64 s.epoch), .v (.bool s.r), .v (.int .i64 (IntKind.i64.wrap (s.i + 1)))], [], true⟩)))) (.ok (⟨.normal, 30, [.xl tV s.l, .v (.int .i64 s.number), .v (.int .i64 s.epoch), .v (.bool s.r), .v (.int .i64 (IntKind.i64.wrap (s.i + 1)))], [], true⟩)))) (.ok (⟨.exit 0, 30, [.xl tV s.l, .v (.int .i64 s.number), .v (.int .i64 s.epoch), .v (.bool s.r), .v (.int .i64 s.i)], [], true⟩)) := by kernel_rfl
theorem stp_rrv (s : L_rrv) (hI : I_rrv s) : AllT (fun v => v = rdV 30 A_rrv B_rrv (f_rrv s)) (backT [0, 1, 2, 6, 7] [] (codex Try.prog noGlobs (specsOf []) noK noLoops body_rrv (frameOf 30 [0, 1, 2, 6, 7] (A_rrv s)) (B_rrv s))) := by
  constructor
  rw [nfl_rrv]
  unfold f_rrv
  exact
    stp_br (fun c1 =>
      ⟨by (obtain ⟨h1, h2, h3, h4⟩ := hI; simp at c1; omega),
        stp_br (fun c2 =>
          ⟨by (obtain ⟨h1, h2, h3, h4⟩ := hI; simp at c1; omega),
            stp_br (fun c3 =>
              rfl) (fun c3 =>
              rfl)⟩) (fun c2 =>
          rfl)⟩) (fun c1 =>
      rfl)
theorem rrv_end (s : L_rrv) (hE : E_rrv s) : ∃ s', I_rrv s' ∧ f_rrv s' = .stop (exn_rrv s) (run_rrv s) := by rw [← run_rrv_eq]; exact runW_stop rrv_d (mu_rrv s + 1) s (rrv_E s hE) (Nat.lt_succ_self _)
theorem snd_rrv : Sound Try.prog noGlobs (.loop body_rrv) (loopT 30 [0, 1, 2, 6, 7] [] sel_rrv out_rrv) :=
  loop_view 30 [0, 1, 2, 6, 7] [] A_rrv B_rrv I_rrv E_rrv mu_rrv f_rrv sel_rrv out_rrv (code_sound (Γ := specsOf []) (K := noK) (L := noLoops) (specs_ok (l := []) trivial) noK_sound body_rrv (fun b hb => by rw [show loopsIn body_rrv = [] by kernel_rfl] at hb; cases hb))
    sel_rrv_ok rrv_E rrv_d (fun s x s' hf => by have := rrv_ex s x s' hf; intro h0; subst h0; simp at this) stp_rrv (fun s hE => by
      obtain ⟨s', _, h2⟩ := rrv_end s hE
      have h3 := rrv_ex _ _ _ h2
      have h4 : (runW f_rrv (mu_rrv s + 1) s).1 = exn_rrv s := rfl
      rw [h4, run_rrv_eq]
      unfold out_rrv
      generalize exn_rrv s = e at h3
      rcases h3 with h3 | h3 <;> subst h3 <;> simp [T.all, isEx])
theorem rrv_fin (s : L_rrv) (hE : E_rrv s) : ∃ s', I_rrv s' ∧ Q_rrv (exn_rrv s) s' (run_rrv s) := by
  obtain ⟨s', hI, hf⟩ := rrv_end s hE
  exact ⟨s', hI, allR_stop (rrv_da s' hI) hf⟩
def S0_rrevk : List LV → T LV
  | [.xl (.pair (.int .i64) (.int .i64)) l, .v (.int .i64 n), .v (.int .i64 e)] => .req ((List.length l : Int) ≤ 1000) (.ok (.v (.bool (rvA l n e))))
  | _ => .no
noncomputable def S_rrevk : List LV → T LV := upS Try.prog Try.f38.params.toList S0_rrevk
theorem nf_rrevk (l : List (Int × Int)) (n e : Int) : funu Try.prog noGlobs (specsOf []) noK (fun i => if i = 2 then loopT 30 [0, 1, 2, 6, 7] [] sel_rrv out_rrv else noLoops i) Try.f38 [.xl tV l, .v (.int .i64 n), .v (.int .i64 e)] = .req (E_rrv (⟨l, n, e, false, (0 : Int)⟩ : L_rrv)) (.br (isEx (exn_rrv (⟨l, n, e, false, (0 : Int)⟩ : L_rrv)) (.ret)) (.ok (.v (.bool (run_rrv (⟨l, n, e, false, (0 : Int)⟩ : L_rrv)).r))) (.ok (.v (.bool false)))) := by kernel_rfl
theorem v_rrevk : Valid Try.prog noGlobs 38 S_rrevk := valid_ofu Try.func38 rfl (specs_ok (l := []) trivial) noK_sound (L := (fun i => if i = 2 then loopT 30 [0, 1, 2, 6, 7] [] sel_rrv out_rrv else noLoops i)) (fun b hb => by
  rw [show loopsIn _ = [body_rrv] by kernel_rfl] at hb
  simp only [List.mem_cons, List.not_mem_nil, or_false] at hb
  subst hb
  exact snd_rrv) (fun args lv h => by
  unfold S0_rrevk at h
  split at h
  · simp only [canL, canX]
    rw [nf_rrevk]
    rename_i l n e
    obtain ⟨hn, rfl⟩ := h
    have hE : E_rrv ⟨l, n, e, false, (0 : Int)⟩ := ⟨rfl, hn⟩
    obtain ⟨s', _, hq⟩ := rrv_fin _ hE
    refine ⟨hE, ?_⟩
    rcases hq with ⟨h1, h2⟩ | ⟨h1, h2, h3⟩
    · rw [h1, show rvA l n e = false from h2]
      exact ⟨fun h => (by cases h), fun _ => rfl⟩
    · rw [h1, h2, show rvA l n e = true from h3]
      exact ⟨fun _ => rfl, fun h => by cases h⟩
  · cases h)
structure L_lprsame where
  a : List (Int × Int)
  b : List (Int × Int)
  r : Bool
  i : Int
def A_lprsame (s : L_lprsame) : List LV := [.xl tV s.a, .xl tV s.b, .v (.bool s.r), .v (.int .i64 s.i)]
def B_lprsame (s : L_lprsame) : List Blk := []
noncomputable def body_lprsame : Code := ((loopsIn (Try.f18.body.getD .skip))[0]?).getD .skip
def f_lprsame (s : L_lprsame) : Rd L_lprsame :=
  if (decide (s.i < (List.length s.a : Int))) then
    if (!(((gV s.a s.i).1 == (gV s.b s.i).1) && ((gV s.a s.i).2 == (gV s.b s.i).2))) then
      .stop (.ret) { s with r := false }
    else
      .next { s with i := (IntKind.i64.wrap (s.i + 1)) }
  else
    .stop (.exit 0) s
def P_lprsame (s : L_lprsame) := ((), s.a, s.b)
theorem lprsame_ex : ∀ s x s', f_lprsame s = .stop x s' → x = .ret ∨ x = .exit 0 := by
  intro s x s' h
  unfold f_lprsame at h
  repeat' split at h
  all_goals first | (cases h; done) | (cases h; rfl) | (cases h; simp)
def G_lprsame (s : L_lprsame) (j : Int) : Bool := ((gV s.a j).1 == (gV s.b j).1) && ((gV s.a j).2 == (gV s.b j).2)
def E_lprsame (s : L_lprsame) : Prop := s.i = 0 ∧ 0 ≤ (s.a.length : Int) ∧ (s.a.length : Int) ≤ 1000 ∧ s.b.length = s.a.length
def I_lprsame (s : L_lprsame) : Prop := 0 ≤ s.i ∧ s.i ≤ (s.a.length : Int) ∧ (s.a.length : Int) ≤ 1000 ∧ (s.b.length = s.a.length) ∧ ∀ j : Nat, (j : Int) < s.i → G_lprsame s j = true
def mu_lprsame (s : L_lprsame) : Nat := ((s.a.length : Int) - s.i).toNat
def Q_lprsame (x : Ex) (s s' : L_lprsame) : Prop := (x = .exit 0 ∧ ∀ j : Nat, (j : Int) < (s'.a.length : Int) → G_lprsame s' j = true) ∨ (x = .ret ∧ s'.r = false ∧ ∃ j : Nat, (j : Int) < (s'.a.length : Int) ∧ G_lprsame s' j = false)
theorem lprsame_E : ∀ s, E_lprsame s → I_lprsame s := by
  intro s h
  obtain ⟨h0, h1, h2, h3⟩ := h
  exact ⟨by omega, by omega, h2, h3, fun j hj => by omega⟩
theorem lprsame_da (s : L_lprsame) (hI : I_lprsame s) : allR (fun s' => I_lprsame s' ∧ mu_lprsame s' < mu_lprsame s) (fun x s' => Q_lprsame x s s') (f_lprsame s) := by
  unfold f_lprsame
  obtain ⟨h0, h1, h2, h3, h4⟩ := hI
  refine allR_ite (fun c1 => allR_ite (fun c2 => ?_) (fun c2 => ?_)) (fun c1 => ?_)
  · have c1 : s.i < (s.a.length : Int) := by simpa using c1
    refine .inr ⟨rfl, rfl, s.i.toNat, by simp only; omega, ?_⟩
    rw [Int.toNat_of_nonneg h0]
    have hg : G_lprsame s s.i = false := by unfold G_lprsame; simpa only [Bool.not_eq_true', Bool.not_eq_false'] using c2
    exact hg
  · have c1 : s.i < (s.a.length : Int) := by simpa using c1
    have hg : G_lprsame s s.i = true := by unfold G_lprsame; simpa only [Bool.not_eq_true', Bool.not_eq_false'] using c2
    rw [wrapS (x := s.i + 1) (by omega) (by omega)]
    refine ⟨⟨by simp only; omega, by simp only; omega, h2, h3, fun j hj => ?_⟩, by simp only [mu_lprsame]; omega⟩
    by_cases hji : (j : Int) < s.i
    · exact h4 j hji
    · have : (j : Int) = s.i := by simp only at hj; omega
      rw [this]; exact hg
  · have c1 : (s.a.length : Int) ≤ s.i := by simpa using c1
    exact .inl ⟨rfl, fun j hj => h4 j (by omega)⟩
theorem lprsame_d : ∀ s s', I_lprsame s → f_lprsame s = .next s' → I_lprsame s' ∧ mu_lprsame s' < mu_lprsame s := fun s s' hI h => allR_next (lprsame_da s hI) h
def sel_lprsame : List LV → List Blk → T L_lprsame
  | [.xl (.pair (.int .i64) (.int .i64)) a, .xl (.pair (.int .i64) (.int .i64)) b, .v (.bool r), .v (.int .i64 i)], [] => .req (E_lprsame ⟨a, b, r, i⟩) (.ok ⟨a, b, r, i⟩)
  | _, _ => .no
theorem sel_lprsame_ok : ∀ vals blks s, (sel_lprsame vals blks).all (fun x => x = s) → E_lprsame s ∧ vals = A_lprsame s ∧ blks = B_lprsame s := by
  intro vals blks s h
  unfold sel_lprsame at h
  split at h
  · obtain ⟨h1, rfl⟩ := h
    exact ⟨h1, rfl, rfl⟩
  · cases h
def run_lprsame (s : L_lprsame) : L_lprsame := { (runW f_lprsame (mu_lprsame s + 1) s).2 with a := s.a, b := s.b }
theorem run_lprsame_eq (s : L_lprsame) : (runW f_lprsame (mu_lprsame s + 1) s).2 = run_lprsame s := by
  have hk := runW_keep (f := f_lprsame) P_lprsame (fun s s' hf => by
    unfold f_lprsame at hf
    repeat' split at hf
    all_goals cases hf
    all_goals rfl) (fun s x s' hf => by
    unfold f_lprsame at hf
    repeat' split at hf
    all_goals cases hf
    all_goals rfl) (mu_lprsame s + 1) s
  unfold run_lprsame
  generalize (runW f_lprsame (mu_lprsame s + 1) s).2 = r at *
  cases r
  simp only [P_lprsame, Prod.mk.injEq, true_and] at hk
  simp only [L_lprsame.mk.injEq, hk, and_self]
def exn_lprsame (s : L_lprsame) : Ex := (runW f_lprsame (mu_lprsame s + 1) s).1
def out_lprsame (s : L_lprsame) : T (Ex × List LV × List Blk) := .br (isEx (exn_lprsame s) (.ret)) (.ok (.ret, frameOf 26 [0, 1, 4, 5] (A_lprsame (run_lprsame s)), B_lprsame (run_lprsame s))) (.ok (.exit 0, frameOf 26 [0, 1, 4, 5] (A_lprsame (run_lprsame s)), B_lprsame (run_lprsame s)))
theorem nfl_lprsame (s : L_lprsame) : backT [0, 1, 4, 5] [] (codex Try.prog noGlobs (specsOf []) noK noLoops body_lprsame (frameOf 26 [0, 1, 4, 5] (A_lprsame s)) (B_lprsame s)) = .br (decide (s.i < (List.length s.a : Int))) (.req (0 ≤ s.i ∧ s.i < (List.length s.a : Int)) (.req (0 ≤ s.i ∧ s.i < (List.length s.b : Int)) (.br (!(((gV s.a s.i).1 == (gV s.b s.i).1) && ((gV s.a s.i).2 == (gV s.b s.i).2))) (.ok (⟨.ret, 26, [.xl tV s.a, .xl tV s.b, .v (.bool false), .v (.int .i64 s.i)], [], true⟩)) (.ok (⟨.normal, 26, [.xl tV s.a, .xl tV s.b, .v (.bool s.r), .v (.int .i64 (IntKind.i64.wrap (s.i + 1)))], [], true⟩))))) (.ok (⟨.exit 0, 26, [.xl tV s.a, .xl tV s.b, .v (.bool s.r), .v (.int .i64 s.i)], [], true⟩)) := by kernel_rfl
theorem stp_lprsame (s : L_lprsame) (hI : I_lprsame s) : AllT (fun v => v = rdV 26 A_lprsame B_lprsame (f_lprsame s)) (backT [0, 1, 4, 5] [] (codex Try.prog noGlobs (specsOf []) noK noLoops body_lprsame (frameOf 26 [0, 1, 4, 5] (A_lprsame s)) (B_lprsame s))) := by
  constructor
  rw [nfl_lprsame]
  unfold f_lprsame
  exact
    stp_br (fun c1 =>
      ⟨by (obtain ⟨h0, h1, h2, h3, h4⟩ := hI; simp at c1; omega),
        ⟨by (obtain ⟨h0, h1, h2, h3, h4⟩ := hI; simp at c1; omega),
          stp_br (fun c2 =>
            rfl) (fun c2 =>
            rfl)⟩⟩) (fun c1 =>
      rfl)
theorem lprsame_end (s : L_lprsame) (hE : E_lprsame s) : ∃ s', I_lprsame s' ∧ f_lprsame s' = .stop (exn_lprsame s) (run_lprsame s) := by rw [← run_lprsame_eq]; exact runW_stop lprsame_d (mu_lprsame s + 1) s (lprsame_E s hE) (Nat.lt_succ_self _)
theorem snd_lprsame : Sound Try.prog noGlobs (.loop body_lprsame) (loopT 26 [0, 1, 4, 5] [] sel_lprsame out_lprsame) :=
  loop_view 26 [0, 1, 4, 5] [] A_lprsame B_lprsame I_lprsame E_lprsame mu_lprsame f_lprsame sel_lprsame out_lprsame (code_sound (Γ := specsOf []) (K := noK) (L := noLoops) (specs_ok (l := []) trivial) noK_sound body_lprsame (fun b hb => by rw [show loopsIn body_lprsame = [] by kernel_rfl] at hb; cases hb))
    sel_lprsame_ok lprsame_E lprsame_d (fun s x s' hf => by have := lprsame_ex s x s' hf; intro h0; subst h0; simp at this) stp_lprsame (fun s hE => by
      obtain ⟨s', _, h2⟩ := lprsame_end s hE
      have h3 := lprsame_ex _ _ _ h2
      have h4 : (runW f_lprsame (mu_lprsame s + 1) s).1 = exn_lprsame s := rfl
      rw [h4, run_lprsame_eq]
      unfold out_lprsame
      generalize exn_lprsame s = e at h3
      rcases h3 with h3 | h3 <;> subst h3 <;> simp [T.all, isEx])
theorem lprsame_fin (s : L_lprsame) (hE : E_lprsame s) : ∃ s', I_lprsame s' ∧ Q_lprsame (exn_lprsame s) s' (run_lprsame s) := by
  obtain ⟨s', hI, hf⟩ := lprsame_end s hE
  exact ⟨s', hI, allR_stop (lprsame_da s' hI) hf⟩
def S0_rsame : List LV → T LV
  | [.xl (.pair (.int .i64) (.int .i64)) a, .xl (.pair (.int .i64) (.int .i64)) b] => .req ((List.length a : Int) ≤ 1000) (.ok (.v (.bool (decide (a = b)))))
  | _ => .no
noncomputable def S_rsame : List LV → T LV := upS Try.prog Try.f18.params.toList S0_rsame
theorem nf_rsame (a b : List (Int × Int)) : funu Try.prog noGlobs (specsOf []) noK (fun i => if i = 4 then loopT 26 [0, 1, 4, 5] [] sel_lprsame out_lprsame else noLoops i) Try.f18 [.xl tV a, .xl tV b] = .br ((List.length a : Int) != (List.length b : Int)) (.ok (.v (.bool false))) (.req (E_lprsame (⟨a, b, false, (0 : Int)⟩ : L_lprsame)) (.br (isEx (exn_lprsame (⟨a, b, false, (0 : Int)⟩ : L_lprsame)) (.ret)) (.ok (.v (.bool (run_lprsame (⟨a, b, false, (0 : Int)⟩ : L_lprsame)).r))) (.ok (.v (.bool true))))) := by kernel_rfl
theorem v_rsame : Valid Try.prog noGlobs 18 S_rsame := valid_ofu Try.func18 rfl (specs_ok (l := []) trivial) noK_sound (L := (fun i => if i = 4 then loopT 26 [0, 1, 4, 5] [] sel_lprsame out_lprsame else noLoops i)) (fun b hb => by
  rw [show loopsIn _ = [body_lprsame] by kernel_rfl] at hb
  simp only [List.mem_cons, List.not_mem_nil, or_false] at hb
  subst hb
  exact snd_lprsame) (fun args lv h => by
  unfold S0_rsame at h
  split at h
  · simp only [canL, canX]
    rw [nf_rsame]
    rename_i a b
    obtain ⟨hn, rfl⟩ := h
    refine ⟨fun c1 => congrArg (fun z => LV.v (.bool z)) ?_, fun c1 => ?_⟩
    · rw [eq_comm, decide_eq_false_iff_not]
      rintro rfl
      simp at c1
    have hl : a.length = b.length := by simp at c1; omega
    have hE : E_lprsame ⟨a, b, false, (0 : Int)⟩ := ⟨rfl, by simp only; omega, hn, hl.symm⟩
    obtain ⟨s', _, hq⟩ := lprsame_fin _ hE
    refine ⟨hE, ?_⟩
    rcases hq with ⟨h1, h2⟩ | ⟨h1, h2, j, h3, h4⟩
    · rw [h1]
      refine ⟨fun h => (by cases h), fun _ => congrArg (fun z => LV.v (.bool z)) ?_⟩
      rw [eq_comm, decide_eq_true_eq]
      refine List.ext_getElem hl fun j hj hj' => ?_
      have := h2 j (by show (j : Int) < (a.length : Int); omega)
      unfold G_lprsame at this
      rw [show (run_lprsame _).a = a from rfl, show (run_lprsame _).b = b from rfl, gV_eq (by simpa using hj), gV_eq (by simpa using hj')] at this
      simp only [Int.toNat_natCast] at this
      first | (simpa using this) | (simp at this; exact Prod.ext this.1 this.2)
    · rw [h1, h2]
      refine ⟨fun _ => congrArg (fun z => LV.v (.bool z)) ?_, fun h => by cases h⟩
      rw [eq_comm, decide_eq_false_iff_not]
      rintro rfl
      unfold G_lprsame at h4
      rw [show (run_lprsame _).a = a from rfl, show (run_lprsame _).b = a from rfl] at h4
      simp at h4
  · cases h)
structure L_lprints where
  a : List Int
  b : List Int
  r : Bool
  i : Int
def A_lprints (s : L_lprints) : List LV := [.xl (.int .i64) s.a, .xl (.int .i64) s.b, .v (.bool s.r), .v (.int .i64 s.i)]
def B_lprints (s : L_lprints) : List Blk := []
noncomputable def body_lprints : Code := ((loopsIn (Try.f19.body.getD .skip))[0]?).getD .skip
def f_lprints (s : L_lprints) : Rd L_lprints :=
  if (decide (s.i < (List.length s.a : Int))) then
    if ((gi s.a s.i) != (gi s.b s.i)) then
      .stop (.ret) { s with r := false }
    else
      .next { s with i := (IntKind.i64.wrap (s.i + 1)) }
  else
    .stop (.exit 0) s
def P_lprints (s : L_lprints) := ((), s.a, s.b)
theorem lprints_ex : ∀ s x s', f_lprints s = .stop x s' → x = .ret ∨ x = .exit 0 := by
  intro s x s' h
  unfold f_lprints at h
  repeat' split at h
  all_goals first | (cases h; done) | (cases h; rfl) | (cases h; simp)
def G_lprints (s : L_lprints) (j : Int) : Bool := gi s.a j == gi s.b j
def E_lprints (s : L_lprints) : Prop := s.i = 0 ∧ 0 ≤ (s.a.length : Int) ∧ (s.a.length : Int) ≤ 1000 ∧ s.b.length = s.a.length
def I_lprints (s : L_lprints) : Prop := 0 ≤ s.i ∧ s.i ≤ (s.a.length : Int) ∧ (s.a.length : Int) ≤ 1000 ∧ (s.b.length = s.a.length) ∧ ∀ j : Nat, (j : Int) < s.i → G_lprints s j = true
def mu_lprints (s : L_lprints) : Nat := ((s.a.length : Int) - s.i).toNat
def Q_lprints (x : Ex) (s s' : L_lprints) : Prop := (x = .exit 0 ∧ ∀ j : Nat, (j : Int) < (s'.a.length : Int) → G_lprints s' j = true) ∨ (x = .ret ∧ s'.r = false ∧ ∃ j : Nat, (j : Int) < (s'.a.length : Int) ∧ G_lprints s' j = false)
theorem lprints_E : ∀ s, E_lprints s → I_lprints s := by
  intro s h
  obtain ⟨h0, h1, h2, h3⟩ := h
  exact ⟨by omega, by omega, h2, h3, fun j hj => by omega⟩
theorem lprints_da (s : L_lprints) (hI : I_lprints s) : allR (fun s' => I_lprints s' ∧ mu_lprints s' < mu_lprints s) (fun x s' => Q_lprints x s s') (f_lprints s) := by
  unfold f_lprints
  obtain ⟨h0, h1, h2, h3, h4⟩ := hI
  refine allR_ite (fun c1 => allR_ite (fun c2 => ?_) (fun c2 => ?_)) (fun c1 => ?_)
  · have c1 : s.i < (s.a.length : Int) := by simpa using c1
    refine .inr ⟨rfl, rfl, s.i.toNat, by simp only; omega, ?_⟩
    rw [Int.toNat_of_nonneg h0]
    have hg : G_lprints s s.i = false := by unfold G_lprints; simpa [bne] using c2
    exact hg
  · have c1 : s.i < (s.a.length : Int) := by simpa using c1
    have hg : G_lprints s s.i = true := by unfold G_lprints; simpa [bne] using c2
    rw [wrapS (x := s.i + 1) (by omega) (by omega)]
    refine ⟨⟨by simp only; omega, by simp only; omega, h2, h3, fun j hj => ?_⟩, by simp only [mu_lprints]; omega⟩
    by_cases hji : (j : Int) < s.i
    · exact h4 j hji
    · have : (j : Int) = s.i := by simp only at hj; omega
      rw [this]; exact hg
  · have c1 : (s.a.length : Int) ≤ s.i := by simpa using c1
    exact .inl ⟨rfl, fun j hj => h4 j (by omega)⟩
theorem lprints_d : ∀ s s', I_lprints s → f_lprints s = .next s' → I_lprints s' ∧ mu_lprints s' < mu_lprints s := fun s s' hI h => allR_next (lprints_da s hI) h
def sel_lprints : List LV → List Blk → T L_lprints
  | [.xl (.int .i64) a, .xl (.int .i64) b, .v (.bool r), .v (.int .i64 i)], [] => .req (E_lprints ⟨a, b, r, i⟩) (.ok ⟨a, b, r, i⟩)
  | _, _ => .no
theorem sel_lprints_ok : ∀ vals blks s, (sel_lprints vals blks).all (fun x => x = s) → E_lprints s ∧ vals = A_lprints s ∧ blks = B_lprints s := by
  intro vals blks s h
  unfold sel_lprints at h
  split at h
  · obtain ⟨h1, rfl⟩ := h
    exact ⟨h1, rfl, rfl⟩
  · cases h
def run_lprints (s : L_lprints) : L_lprints := { (runW f_lprints (mu_lprints s + 1) s).2 with a := s.a, b := s.b }
theorem run_lprints_eq (s : L_lprints) : (runW f_lprints (mu_lprints s + 1) s).2 = run_lprints s := by
  have hk := runW_keep (f := f_lprints) P_lprints (fun s s' hf => by
    unfold f_lprints at hf
    repeat' split at hf
    all_goals cases hf
    all_goals rfl) (fun s x s' hf => by
    unfold f_lprints at hf
    repeat' split at hf
    all_goals cases hf
    all_goals rfl) (mu_lprints s + 1) s
  unfold run_lprints
  generalize (runW f_lprints (mu_lprints s + 1) s).2 = r at *
  cases r
  simp only [P_lprints, Prod.mk.injEq, true_and] at hk
  simp only [L_lprints.mk.injEq, hk, and_self]
def exn_lprints (s : L_lprints) : Ex := (runW f_lprints (mu_lprints s + 1) s).1
def out_lprints (s : L_lprints) : T (Ex × List LV × List Blk) := .br (isEx (exn_lprints s) (.ret)) (.ok (.ret, frameOf 26 [0, 1, 4, 5] (A_lprints (run_lprints s)), B_lprints (run_lprints s))) (.ok (.exit 0, frameOf 26 [0, 1, 4, 5] (A_lprints (run_lprints s)), B_lprints (run_lprints s)))
theorem nfl_lprints (s : L_lprints) : backT [0, 1, 4, 5] [] (codex Try.prog noGlobs (specsOf []) noK noLoops body_lprints (frameOf 26 [0, 1, 4, 5] (A_lprints s)) (B_lprints s)) = .br (decide (s.i < (List.length s.a : Int))) (.req (0 ≤ s.i ∧ s.i < (List.length s.a : Int)) (.req (0 ≤ s.i ∧ s.i < (List.length s.b : Int)) (.br ((gi s.a s.i) != (gi s.b s.i)) (.ok (⟨.ret, 26, [.xl (.int .i64) s.a, .xl (.int .i64) s.b, .v (.bool false), .v (.int .i64 s.i)], [], true⟩)) (.ok (⟨.normal, 26, [.xl (.int .i64) s.a, .xl (.int .i64) s.b, .v (.bool s.r), .v (.int .i64 (IntKind.i64.wrap (s.i + 1)))], [], true⟩))))) (.ok (⟨.exit 0, 26, [.xl (.int .i64) s.a, .xl (.int .i64) s.b, .v (.bool s.r), .v (.int .i64 s.i)], [], true⟩)) := by kernel_rfl
theorem stp_lprints (s : L_lprints) (hI : I_lprints s) : AllT (fun v => v = rdV 26 A_lprints B_lprints (f_lprints s)) (backT [0, 1, 4, 5] [] (codex Try.prog noGlobs (specsOf []) noK noLoops body_lprints (frameOf 26 [0, 1, 4, 5] (A_lprints s)) (B_lprints s))) := by
  constructor
  rw [nfl_lprints]
  unfold f_lprints
  exact
    stp_br (fun c1 =>
      ⟨by (obtain ⟨h0, h1, h2, h3, h4⟩ := hI; simp at c1; omega),
        ⟨by (obtain ⟨h0, h1, h2, h3, h4⟩ := hI; simp at c1; omega),
          stp_br (fun c2 =>
            rfl) (fun c2 =>
            rfl)⟩⟩) (fun c1 =>
      rfl)
theorem lprints_end (s : L_lprints) (hE : E_lprints s) : ∃ s', I_lprints s' ∧ f_lprints s' = .stop (exn_lprints s) (run_lprints s) := by rw [← run_lprints_eq]; exact runW_stop lprints_d (mu_lprints s + 1) s (lprints_E s hE) (Nat.lt_succ_self _)
theorem snd_lprints : Sound Try.prog noGlobs (.loop body_lprints) (loopT 26 [0, 1, 4, 5] [] sel_lprints out_lprints) :=
  loop_view 26 [0, 1, 4, 5] [] A_lprints B_lprints I_lprints E_lprints mu_lprints f_lprints sel_lprints out_lprints (code_sound (Γ := specsOf []) (K := noK) (L := noLoops) (specs_ok (l := []) trivial) noK_sound body_lprints (fun b hb => by rw [show loopsIn body_lprints = [] by kernel_rfl] at hb; cases hb))
    sel_lprints_ok lprints_E lprints_d (fun s x s' hf => by have := lprints_ex s x s' hf; intro h0; subst h0; simp at this) stp_lprints (fun s hE => by
      obtain ⟨s', _, h2⟩ := lprints_end s hE
      have h3 := lprints_ex _ _ _ h2
      have h4 : (runW f_lprints (mu_lprints s + 1) s).1 = exn_lprints s := rfl
      rw [h4, run_lprints_eq]
      unfold out_lprints
      generalize exn_lprints s = e at h3
      rcases h3 with h3 | h3 <;> subst h3 <;> simp [T.all, isEx])
theorem lprints_fin (s : L_lprints) (hE : E_lprints s) : ∃ s', I_lprints s' ∧ Q_lprints (exn_lprints s) s' (run_lprints s) := by
  obtain ⟨s', hI, hf⟩ := lprints_end s hE
  exact ⟨s', hI, allR_stop (lprints_da s' hI) hf⟩
def S0_rints : List LV → T LV
  | [.xl (.int .i64) a, .xl (.int .i64) b] => .req ((List.length a : Int) ≤ 1000) (.ok (.v (.bool (decide (a = b)))))
  | _ => .no
noncomputable def S_rints : List LV → T LV := upS Try.prog Try.f19.params.toList S0_rints
theorem nf_rints (a b : List Int) : funu Try.prog noGlobs (specsOf []) noK (fun i => if i = 4 then loopT 26 [0, 1, 4, 5] [] sel_lprints out_lprints else noLoops i) Try.f19 [.xl (.int .i64) a, .xl (.int .i64) b] = .br ((List.length a : Int) != (List.length b : Int)) (.ok (.v (.bool false))) (.req (E_lprints (⟨a, b, false, (0 : Int)⟩ : L_lprints)) (.br (isEx (exn_lprints (⟨a, b, false, (0 : Int)⟩ : L_lprints)) (.ret)) (.ok (.v (.bool (run_lprints (⟨a, b, false, (0 : Int)⟩ : L_lprints)).r))) (.ok (.v (.bool true))))) := by kernel_rfl
theorem v_rints : Valid Try.prog noGlobs 19 S_rints := valid_ofu Try.func19 rfl (specs_ok (l := []) trivial) noK_sound (L := (fun i => if i = 4 then loopT 26 [0, 1, 4, 5] [] sel_lprints out_lprints else noLoops i)) (fun b hb => by
  rw [show loopsIn _ = [body_lprints] by kernel_rfl] at hb
  simp only [List.mem_cons, List.not_mem_nil, or_false] at hb
  subst hb
  exact snd_lprints) (fun args lv h => by
  unfold S0_rints at h
  split at h
  · simp only [canL, canX]
    rw [nf_rints]
    rename_i a b
    obtain ⟨hn, rfl⟩ := h
    refine ⟨fun c1 => congrArg (fun z => LV.v (.bool z)) ?_, fun c1 => ?_⟩
    · rw [eq_comm, decide_eq_false_iff_not]
      rintro rfl
      simp at c1
    have hl : a.length = b.length := by simp at c1; omega
    have hE : E_lprints ⟨a, b, false, (0 : Int)⟩ := ⟨rfl, by simp only; omega, hn, hl.symm⟩
    obtain ⟨s', _, hq⟩ := lprints_fin _ hE
    refine ⟨hE, ?_⟩
    rcases hq with ⟨h1, h2⟩ | ⟨h1, h2, j, h3, h4⟩
    · rw [h1]
      refine ⟨fun h => (by cases h), fun _ => congrArg (fun z => LV.v (.bool z)) ?_⟩
      rw [eq_comm, decide_eq_true_eq]
      refine List.ext_getElem hl fun j hj hj' => ?_
      have := h2 j (by show (j : Int) < (a.length : Int); omega)
      unfold G_lprints at this
      rw [show (run_lprints _).a = a from rfl, show (run_lprints _).b = b from rfl, gi_eq (by simpa using hj), gi_eq (by simpa using hj')] at this
      simp only [Int.toNat_natCast] at this
      first | (simpa using this) | (simp at this; exact Prod.ext this.1 this.2)
    · rw [h1, h2]
      refine ⟨fun _ => congrArg (fun z => LV.v (.bool z)) ?_, fun h => by cases h⟩
      rw [eq_comm, decide_eq_false_iff_not]
      rintro rfl
      unfold G_lprints at h4
      rw [show (run_lprints _).a = a from rfl, show (run_lprints _).b = a from rfl] at h4
      simp at h4
  · cases h)
end Go.Proofs.Ytcpadfehoaopaaa
