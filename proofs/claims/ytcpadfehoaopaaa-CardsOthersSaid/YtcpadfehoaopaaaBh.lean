/- Looking in lists of package cards: what is computed, by the executor. -/
import Derived.Test.YtcpadfehoaopaaaBg
namespace Go.Proofs.Ytcpadfehoaopaaa
open Go.Sx
structure L_lpfdc where
  list : List (Int × (Int × (Int × Int)))
  number : Int
  r : Bool
  low : Int
  high : Int
  b0_Number : Int
  b0_Contract : Int
  b0_First : Int
  b0_Last : Int
def A_lpfdc (s : L_lpfdc) : List LV := [.xl tC s.list, .v (.int .i64 s.number), .own 0 0, .v (.bool s.r), .v (.int .i64 s.low), .v (.int .i64 s.high)]
def B_lpfdc (s : L_lpfdc) : List Blk := [⟨[.v (.int .i64 s.b0_Number), .v (.int .i64 s.b0_Contract), .v (.int .i64 s.b0_First), .v (.int .i64 s.b0_Last)], 57, .cl, false⟩]
noncomputable def body_lpfdc : Code := ((loopsIn (Try.f32.body.getD .skip))[0]?).getD .skip
def f_lpfdc (s : L_lpfdc) : Rd L_lpfdc :=
  if (decide (s.low < s.high)) then
    if (decide ((gC s.list (IntKind.i64.wrap (s.low + (IntKind.i64.wrap ((IntKind.i64.wrap (s.high - s.low)).tdiv 2))))).1 < s.number)) then
      .next { s with low := (IntKind.i64.wrap ((IntKind.i64.wrap (s.low + (IntKind.i64.wrap ((IntKind.i64.wrap (s.high - s.low)).tdiv 2)))) + 1)) }
    else
      .next { s with high := (IntKind.i64.wrap (s.low + (IntKind.i64.wrap ((IntKind.i64.wrap (s.high - s.low)).tdiv 2)))) }
  else
    .stop (.exit 0) s
def P_lpfdc (s : L_lpfdc) := ((), s.list, s.number, s.r, s.b0_Number, s.b0_Contract, s.b0_First, s.b0_Last)
theorem lpfdc_ex : ∀ s x s', f_lpfdc s = .stop x s' → x = .exit 0 := by
  intro s x s' h
  unfold f_lpfdc at h
  repeat' split at h
  all_goals first | (cases h; done) | (cases h; rfl) | (cases h; simp)
def E_lpfdc (s : L_lpfdc) : Prop := s.low = 0 ∧ s.high = s.list.length ∧ ckC 0 s.list = true ∧ (s.list.length : Int) ≤ 1000
def I_lpfdc (s : L_lpfdc) : Prop := 0 ≤ s.low ∧ s.low ≤ s.high ∧ s.high ≤ s.list.length ∧ (∀ (j : Nat) (hj : j < s.list.length), (j : Int) < s.low → s.list[j].1 < s.number) ∧ (∀ (j : Nat) (hj : j < s.list.length), s.high ≤ (j : Int) → s.number ≤ s.list[j].1) ∧ ckC 0 s.list = true ∧ (s.list.length : Int) ≤ 1000
def mu_lpfdc (s : L_lpfdc) : Nat := (s.high - s.low).toNat
def Q_lpfdc (x : Ex) (s s' : L_lpfdc) : Prop := x = .exit 0 ∧ 0 ≤ s'.low ∧ s'.low ≤ s'.list.length ∧ (∀ (j : Nat) (hj : j < s'.list.length), (j : Int) < s'.low → s'.list[j].1 < s'.number) ∧ (∀ (j : Nat) (hj : j < s'.list.length), s'.low ≤ (j : Int) → s'.number ≤ s'.list[j].1)
theorem lpfdc_E : ∀ s, E_lpfdc s → I_lpfdc s := by
  intro s h
  obtain ⟨h1, h2, h3, h4⟩ := h
  exact ⟨by omega, by omega, by omega, fun j hj h => by omega, fun j hj h => by omega, h3, h4⟩
theorem lpfdc_da (s : L_lpfdc) (hI : I_lpfdc s) : allR (fun s' => I_lpfdc s' ∧ mu_lpfdc s' < mu_lpfdc s) (fun x s' => Q_lpfdc x s s') (f_lpfdc s) := by
  unfold f_lpfdc
  obtain ⟨h1, h2, h3, h4, h5, h6, h7⟩ := hI
  refine allR_ite (fun c1 => ?_) (fun c1 => ?_)
  · have c1 : s.low < s.high := by simpa using c1
    have em : IntKind.i64.wrap (s.low + IntKind.i64.wrap ((IntKind.i64.wrap (s.high - s.low)).tdiv 2)) = s.low + (s.high - s.low) / 2 := by
      rw [wrapS (x := s.high - s.low) (by omega) (by omega), Int.tdiv_eq_ediv_of_nonneg (by omega), wrapS (x := (s.high - s.low) / 2) (by omega) (by omega), wrapS (by omega) (by omega)]
    rw [em, wrapS (x := s.low + (s.high - s.low) / 2 + 1) (by omega) (by omega)]
    have hm1 : s.low ≤ s.low + (s.high - s.low) / 2 := by omega
    have hm2 : s.low + (s.high - s.low) / 2 < s.high := by omega
    generalize s.low + (s.high - s.low) / 2 = m at hm1 hm2 ⊢
    have hml : m.toNat < s.list.length := by omega
    rw [gC_eq hml]
    refine allR_ite (fun c2 => ?_) (fun c2 => ?_)
    · have c2 : s.list[m.toNat].1 < s.number := by simpa using c2
      refine ⟨⟨by simp only; omega, by simp only; omega, h3, fun j hj h => ?_, h5, h6, h7⟩, by simp only [mu_lpfdc]; omega⟩
      simp only at h hj ⊢
      by_cases hjm : j = m.toNat
      · subst hjm; exact c2
      · have := ckC_lt h6 j m.toNat hj hml (by omega); omega
    · have c2 : s.number ≤ s.list[m.toNat].1 := by simpa using c2
      refine ⟨⟨h1, by simp only; omega, by simp only; omega, h4, fun j hj h => ?_, h6, h7⟩, by simp only [mu_lpfdc]; omega⟩
      simp only at h hj ⊢
      by_cases hjm : j = m.toNat
      · subst hjm; exact c2
      · have := ckC_lt h6 m.toNat j hml hj (by omega); omega
  · have c1 : s.high ≤ s.low := by simpa using c1
    exact ⟨rfl, h1, by omega, h4, fun j hj h => h5 j hj (by omega)⟩
theorem lpfdc_d : ∀ s s', I_lpfdc s → f_lpfdc s = .next s' → I_lpfdc s' ∧ mu_lpfdc s' < mu_lpfdc s := fun s s' hI h => allR_next (lpfdc_da s hI) h
def sel_lpfdc : List LV → List Blk → T L_lpfdc
  | [.xl (.pair (.int .i64) (.pair (.int .i64) (.pair (.int .i64) (.int .i64)))) list, .v (.int .i64 number), .own 0 0, .v (.bool r), .v (.int .i64 low), .v (.int .i64 high)], [⟨[.v (.int .i64 b0_Number), .v (.int .i64 b0_Contract), .v (.int .i64 b0_First), .v (.int .i64 b0_Last)], 57, .cl, false⟩] => .req (E_lpfdc ⟨list, number, r, low, high, b0_Number, b0_Contract, b0_First, b0_Last⟩) (.ok ⟨list, number, r, low, high, b0_Number, b0_Contract, b0_First, b0_Last⟩)
  | _, _ => .no
theorem sel_lpfdc_ok : ∀ vals blks s, (sel_lpfdc vals blks).all (fun x => x = s) → E_lpfdc s ∧ vals = A_lpfdc s ∧ blks = B_lpfdc s := by
  intro vals blks s h
  unfold sel_lpfdc at h
  split at h
  · obtain ⟨h1, rfl⟩ := h
    exact ⟨h1, rfl, rfl⟩
  · cases h
def run_lpfdc (s : L_lpfdc) : L_lpfdc := { (runW f_lpfdc (mu_lpfdc s + 1) s).2 with list := s.list, number := s.number, r := s.r, b0_Number := s.b0_Number, b0_Contract := s.b0_Contract, b0_First := s.b0_First, b0_Last := s.b0_Last }
theorem run_lpfdc_eq (s : L_lpfdc) : (runW f_lpfdc (mu_lpfdc s + 1) s).2 = run_lpfdc s := by
  have hk := runW_keep (f := f_lpfdc) P_lpfdc (fun s s' hf => by
    unfold f_lpfdc at hf
    repeat' split at hf
    all_goals cases hf
    all_goals rfl) (fun s x s' hf => by
    unfold f_lpfdc at hf
    repeat' split at hf
    all_goals cases hf
    all_goals rfl) (mu_lpfdc s + 1) s
  unfold run_lpfdc
  generalize (runW f_lpfdc (mu_lpfdc s + 1) s).2 = r at *
  cases r
  simp only [P_lpfdc, Prod.mk.injEq, true_and] at hk
  simp only [L_lpfdc.mk.injEq, hk, and_self]
def exn_lpfdc (s : L_lpfdc) : Ex := (runW f_lpfdc (mu_lpfdc s + 1) s).1
def out_lpfdc (s : L_lpfdc) : T (Ex × List LV × List Blk) := .ok (.exit 0, frameOf 51 [0, 1, 4, 5, 6, 7] (A_lpfdc (run_lpfdc s)), B_lpfdc (run_lpfdc s))
theorem nfl_lpfdc (s : L_lpfdc) : backT [0, 1, 4, 5, 6, 7] [] (codex Try.prog noGlobs (specsOf [(65, S_cNum), (67, S_vNum)]) noK noLoops body_lpfdc (frameOf 51 [0, 1, 4, 5, 6, 7] (A_lpfdc s)) (B_lpfdc s)) = .br (decide (s.low < s.high)) (.req ((2 : Int) ≠ 0) (.req (0 ≤ (IntKind.i64.wrap (s.low + (IntKind.i64.wrap ((IntKind.i64.wrap (s.high - s.low)).tdiv 2)))) ∧ (IntKind.i64.wrap (s.low + (IntKind.i64.wrap ((IntKind.i64.wrap (s.high - s.low)).tdiv 2)))) < (List.length s.list : Int)) (.br (decide ((gC s.list (IntKind.i64.wrap (s.low + (IntKind.i64.wrap ((IntKind.i64.wrap (s.high - s.low)).tdiv 2))))).1 < s.number)) (.ok (⟨.normal, 51, [.xl tC s.list, .v (.int .i64 s.number), .own 0 0, .v (.bool s.r), .v (.int .i64 (IntKind.i64.wrap ((IntKind.i64.wrap (s.low + (IntKind.i64.wrap ((IntKind.i64.wrap (s.high - s.low)).tdiv 2)))) + 1))), .v (.int .i64 s.high)], [⟨[.v (.int .i64 s.b0_Number), .v (.int .i64 s.b0_Contract), .v (.int .i64 s.b0_First), .v (.int .i64 s.b0_Last)], 57, .cl, false⟩], true⟩)) (.ok (⟨.normal, 51, [.xl tC s.list, .v (.int .i64 s.number), .own 0 0, .v (.bool s.r), .v (.int .i64 s.low), .v (.int .i64 (IntKind.i64.wrap (s.low + (IntKind.i64.wrap ((IntKind.i64.wrap (s.high - s.low)).tdiv 2)))))], [⟨[.v (.int .i64 s.b0_Number), .v (.int .i64 s.b0_Contract), .v (.int .i64 s.b0_First), .v (.int .i64 s.b0_Last)], 57, .cl, false⟩], true⟩))))) (.ok (⟨.exit 0, 51, [.xl tC s.list, .v (.int .i64 s.number), .own 0 0, .v (.bool s.r), .v (.int .i64 s.low), .v (.int .i64 s.high)], [⟨[.v (.int .i64 s.b0_Number), .v (.int .i64 s.b0_Contract), .v (.int .i64 s.b0_First), .v (.int .i64 s.b0_Last)], 57, .cl, false⟩], true⟩)) := by kernel_rfl
theorem stp_lpfdc (s : L_lpfdc) (hI : I_lpfdc s) : AllT (fun v => v = rdV 51 A_lpfdc B_lpfdc (f_lpfdc s)) (backT [0, 1, 4, 5, 6, 7] [] (codex Try.prog noGlobs (specsOf [(65, S_cNum), (67, S_vNum)]) noK noLoops body_lpfdc (frameOf 51 [0, 1, 4, 5, 6, 7] (A_lpfdc s)) (B_lpfdc s))) := by
  constructor
  rw [nfl_lpfdc]
  unfold f_lpfdc
  exact
    stp_br (fun c1 =>
      ⟨by (obtain ⟨h1, h2, h3, h4, h5, h6, h7⟩ := hI; (try simp only [decide_eq_true_eq] at c1); first | decide | (rw [wrapS (x := s.high - s.low) (by omega) (by omega), Int.tdiv_eq_ediv_of_nonneg (by omega), wrapS (x := (s.high - s.low) / 2) (by omega) (by omega), wrapS (by omega) (by omega)]; omega)),
        ⟨by (obtain ⟨h1, h2, h3, h4, h5, h6, h7⟩ := hI; (try simp only [decide_eq_true_eq] at c1); first | decide | (rw [wrapS (x := s.high - s.low) (by omega) (by omega), Int.tdiv_eq_ediv_of_nonneg (by omega), wrapS (x := (s.high - s.low) / 2) (by omega) (by omega), wrapS (by omega) (by omega)]; omega)),
          stp_br (fun c2 =>
            rfl) (fun c2 =>
            rfl)⟩⟩) (fun c1 =>
      rfl)
theorem lpfdc_end (s : L_lpfdc) (hE : E_lpfdc s) : ∃ s', I_lpfdc s' ∧ f_lpfdc s' = .stop (exn_lpfdc s) (run_lpfdc s) := by rw [← run_lpfdc_eq]; exact runW_stop lpfdc_d (mu_lpfdc s + 1) s (lpfdc_E s hE) (Nat.lt_succ_self _)
theorem lpfdc_same : ∀ s x s', f_lpfdc s = .stop x s' → s = s' := by
  intro s x s' h
  unfold f_lpfdc at h
  repeat' split at h
  all_goals first | (cases h; done) | (cases h; rfl)
theorem lpfdc_inv (s : L_lpfdc) (hE : E_lpfdc s) : I_lpfdc (run_lpfdc s) ∧ f_lpfdc (run_lpfdc s) = .stop (exn_lpfdc s) (run_lpfdc s) := by
  obtain ⟨s', hI, hf⟩ := lpfdc_end s hE
  have hs := lpfdc_same _ _ _ hf
  subst hs
  exact ⟨hI, hf⟩
theorem snd_lpfdc : Sound Try.prog noGlobs (.loop body_lpfdc) (loopT 51 [0, 1, 4, 5, 6, 7] [] sel_lpfdc out_lpfdc) :=
  loop_view 51 [0, 1, 4, 5, 6, 7] [] A_lpfdc B_lpfdc I_lpfdc E_lpfdc mu_lpfdc f_lpfdc sel_lpfdc out_lpfdc (code_sound (Γ := specsOf [(65, S_cNum), (67, S_vNum)]) (K := noK) (L := noLoops) (specs_ok (l := [(65, S_cNum), (67, S_vNum)]) ⟨v_cNum, v_vNum, trivial⟩) noK_sound body_lpfdc (fun b hb => by rw [show loopsIn body_lpfdc = [] by kernel_rfl] at hb; cases hb))
    sel_lpfdc_ok lpfdc_E lpfdc_d (fun s x s' hf => by have := lpfdc_ex s x s' hf; intro h0; subst h0; simp at this) stp_lpfdc (fun s hE => by
      obtain ⟨s', _, h2⟩ := lpfdc_end s hE
      have h3 : exn_lpfdc s = .exit 0 := lpfdc_ex _ _ _ h2
      unfold out_lpfdc
      rw [run_lpfdc_eq]
      simp only [T.all, ← h3]
      rfl)
theorem lpfdc_fin (s : L_lpfdc) (hE : E_lpfdc s) : ∃ s', I_lpfdc s' ∧ Q_lpfdc (exn_lpfdc s) s' (run_lpfdc s) := by
  obtain ⟨s', hI, hf⟩ := lpfdc_end s hE
  exact ⟨s', hI, allR_stop (lpfdc_da s' hI) hf⟩
def S0_fdc : List LV → T LV
  | [.xl (.pair (.int .i64) (.pair (.int .i64) (.pair (.int .i64) (.int .i64)))) l, .v (.int .i64 n)] => .req (ckC 0 l = true ∧ (List.length l : Int) ≤ 1000) (.ok (.v (.tuple #[.agg #[.int .i64 (fnC l n).1, .int .i64 (fnC l n).2.1, .int .i64 (fnC l n).2.2.1, .int .i64 (fnC l n).2.2.2], .bool (hsC l n)])))
  | _ => .no
noncomputable def S_fdc : List LV → T LV := upS Try.prog Try.f32.params.toList S0_fdc
theorem nf_fdc (l : List (Int × (Int × (Int × Int)))) (n : Int) : funu Try.prog noGlobs (specsOf [(65, S_cNum), (67, S_vNum)]) noK (fun i => if i = 2 then loopT 51 [0, 1, 4, 5, 6, 7] [] sel_lpfdc out_lpfdc else noLoops i) Try.f32 [.xl tC l, .v (.int .i64 n)] = .req (E_lpfdc (⟨l, n, false, (0 : Int), (List.length l : Int), (0 : Int), (0 : Int), (0 : Int), (0 : Int)⟩ : L_lpfdc)) (.br (decide ((run_lpfdc (⟨l, n, false, (0 : Int), (List.length l : Int), (0 : Int), (0 : Int), (0 : Int), (0 : Int)⟩ : L_lpfdc)).low < (List.length l : Int))) (.req (0 ≤ (run_lpfdc (⟨l, n, false, (0 : Int), (List.length l : Int), (0 : Int), (0 : Int), (0 : Int), (0 : Int)⟩ : L_lpfdc)).low ∧ (run_lpfdc (⟨l, n, false, (0 : Int), (List.length l : Int), (0 : Int), (0 : Int), (0 : Int), (0 : Int)⟩ : L_lpfdc)).low < (List.length l : Int)) (.br ((gC l (run_lpfdc (⟨l, n, false, (0 : Int), (List.length l : Int), (0 : Int), (0 : Int), (0 : Int), (0 : Int)⟩ : L_lpfdc)).low).1 == n) (.req (0 ≤ (run_lpfdc (⟨l, n, false, (0 : Int), (List.length l : Int), (0 : Int), (0 : Int), (0 : Int), (0 : Int)⟩ : L_lpfdc)).low ∧ (run_lpfdc (⟨l, n, false, (0 : Int), (List.length l : Int), (0 : Int), (0 : Int), (0 : Int), (0 : Int)⟩ : L_lpfdc)).low < (List.length l : Int)) (.ok (.v (.tuple #[.agg #[.int .i64 (gC l (run_lpfdc (⟨l, n, false, (0 : Int), (List.length l : Int), (0 : Int), (0 : Int), (0 : Int), (0 : Int)⟩ : L_lpfdc)).low).1, .int .i64 (gC l (run_lpfdc (⟨l, n, false, (0 : Int), (List.length l : Int), (0 : Int), (0 : Int), (0 : Int), (0 : Int)⟩ : L_lpfdc)).low).2.1, .int .i64 (gC l (run_lpfdc (⟨l, n, false, (0 : Int), (List.length l : Int), (0 : Int), (0 : Int), (0 : Int), (0 : Int)⟩ : L_lpfdc)).low).2.2.1, .int .i64 (gC l (run_lpfdc (⟨l, n, false, (0 : Int), (List.length l : Int), (0 : Int), (0 : Int), (0 : Int), (0 : Int)⟩ : L_lpfdc)).low).2.2.2], .bool true])))) (.ok (.v (.tuple #[.agg #[.int .i64 0, .int .i64 0, .int .i64 0, .int .i64 0], .bool false]))))) (.ok (.v (.tuple #[.agg #[.int .i64 0, .int .i64 0, .int .i64 0, .int .i64 0], .bool false])))) := by kernel_rfl
theorem v_fdc : Valid Try.prog noGlobs 32 S_fdc := valid_ofu Try.func32 rfl (specs_ok (l := [(65, S_cNum), (67, S_vNum)]) ⟨v_cNum, v_vNum, trivial⟩) noK_sound (L := (fun i => if i = 2 then loopT 51 [0, 1, 4, 5, 6, 7] [] sel_lpfdc out_lpfdc else noLoops i)) (fun b hb => by
  rw [show loopsIn _ = [body_lpfdc] by kernel_rfl] at hb
  simp only [List.mem_cons, List.not_mem_nil, or_false] at hb
  subst hb
  exact snd_lpfdc) (fun args lv h => by
  unfold S0_fdc at h
  split at h
  · simp only [canL, canX]
    rw [nf_fdc]
    rename_i l n
    obtain ⟨⟨hc, hn⟩, rfl⟩ := h
    have hE : E_lpfdc ⟨l, n, false, (0 : Int), (List.length l : Int), (0 : Int), (0 : Int), (0 : Int), (0 : Int)⟩ := ⟨rfl, rfl, hc, hn⟩
    obtain ⟨s', _, h1, h2, h3, h4, h5⟩ := lpfdc_fin _ hE
    refine ⟨hE, ?_⟩
    generalize (run_lpfdc ⟨l, n, false, (0 : Int), (List.length l : Int), (0 : Int), (0 : Int), (0 : Int), (0 : Int)⟩).low = k at *
    have h3 : k ≤ (l.length : Int) := h3
    have h4 : ∀ (j : Nat) (hj : j < l.length), (j : Int) < k → l[j].1 < n := h4
    have h5 : ∀ (j : Nat) (hj : j < l.length), k ≤ (j : Int) → n ≤ l[j].1 := h5
    have no : (∀ hk : k.toNat < l.length, l[k.toNat].1 ≠ n) → l.find? (fun x => x.1 == n) = none := fun h => find_no (f := fun x => x.1) (k := k.toNat) (by omega) h (fun j hj h => h4 j hj (by omega)) (fun j hj h => h5 j hj (by omega)) (ckC_lt hc)
    refine ⟨fun c1 => ?_, fun c1 => ?_⟩
    · have c1 : k < (l.length : Int) := by simpa using c1
      have hk : k.toNat < l.length := by omega
      refine ⟨⟨h2, c1⟩, fun c2 => ⟨⟨h2, c1⟩, ?_⟩, fun c2 => ?_⟩
      · have c2 : l[k.toNat].1 = n := by rw [gC_eq hk] at c2; simpa using c2
        have hf := find_at (f := fun x => x.1) hk c2 (fun j hj h => h4 j hj (by omega))
        unfold fnC hsC
        rw [gC_eq hk, hf]
        rfl
      · have c2 : l[k.toNat].1 ≠ n := by rw [gC_eq hk] at c2; simpa using c2
        unfold fnC hsC
        rw [no (fun _ => c2)]
        rfl
    · have c1 : (l.length : Int) ≤ k := by simpa using c1
      unfold fnC hsC
      rw [no (fun h => by omega)]
      rfl
  · cases h)
structure L_lpfdv where
  list : List (Int × Int)
  number : Int
  r : Bool
  low : Int
  high : Int
  b0_Number : Int
  b0_Epoch : Int
def A_lpfdv (s : L_lpfdv) : List LV := [.xl tV s.list, .v (.int .i64 s.number), .own 0 0, .v (.bool s.r), .v (.int .i64 s.low), .v (.int .i64 s.high)]
def B_lpfdv (s : L_lpfdv) : List Blk := [⟨[.v (.int .i64 s.b0_Number), .v (.int .i64 s.b0_Epoch)], 59, .cl, false⟩]
noncomputable def body_lpfdv : Code := ((loopsIn (Try.f48.body.getD .skip))[0]?).getD .skip
def f_lpfdv (s : L_lpfdv) : Rd L_lpfdv :=
  if (decide (s.low < s.high)) then
    if (decide ((gV s.list (IntKind.i64.wrap (s.low + (IntKind.i64.wrap ((IntKind.i64.wrap (s.high - s.low)).tdiv 2))))).1 < s.number)) then
      .next { s with low := (IntKind.i64.wrap ((IntKind.i64.wrap (s.low + (IntKind.i64.wrap ((IntKind.i64.wrap (s.high - s.low)).tdiv 2)))) + 1)) }
    else
      .next { s with high := (IntKind.i64.wrap (s.low + (IntKind.i64.wrap ((IntKind.i64.wrap (s.high - s.low)).tdiv 2)))) }
  else
    .stop (.exit 0) s
def P_lpfdv (s : L_lpfdv) := ((), s.list, s.number, s.r, s.b0_Number, s.b0_Epoch)
theorem lpfdv_ex : ∀ s x s', f_lpfdv s = .stop x s' → x = .exit 0 := by
  intro s x s' h
  unfold f_lpfdv at h
  repeat' split at h
  all_goals first | (cases h; done) | (cases h; rfl) | (cases h; simp)
def E_lpfdv (s : L_lpfdv) : Prop := s.low = 0 ∧ s.high = s.list.length ∧ ckV 0 s.list = true ∧ (s.list.length : Int) ≤ 1000
def I_lpfdv (s : L_lpfdv) : Prop := 0 ≤ s.low ∧ s.low ≤ s.high ∧ s.high ≤ s.list.length ∧ (∀ (j : Nat) (hj : j < s.list.length), (j : Int) < s.low → s.list[j].1 < s.number) ∧ (∀ (j : Nat) (hj : j < s.list.length), s.high ≤ (j : Int) → s.number ≤ s.list[j].1) ∧ ckV 0 s.list = true ∧ (s.list.length : Int) ≤ 1000
def mu_lpfdv (s : L_lpfdv) : Nat := (s.high - s.low).toNat
def Q_lpfdv (x : Ex) (s s' : L_lpfdv) : Prop := x = .exit 0 ∧ 0 ≤ s'.low ∧ s'.low ≤ s'.list.length ∧ (∀ (j : Nat) (hj : j < s'.list.length), (j : Int) < s'.low → s'.list[j].1 < s'.number) ∧ (∀ (j : Nat) (hj : j < s'.list.length), s'.low ≤ (j : Int) → s'.number ≤ s'.list[j].1)
theorem lpfdv_E : ∀ s, E_lpfdv s → I_lpfdv s := by
  intro s h
  obtain ⟨h1, h2, h3, h4⟩ := h
  exact ⟨by omega, by omega, by omega, fun j hj h => by omega, fun j hj h => by omega, h3, h4⟩
theorem lpfdv_da (s : L_lpfdv) (hI : I_lpfdv s) : allR (fun s' => I_lpfdv s' ∧ mu_lpfdv s' < mu_lpfdv s) (fun x s' => Q_lpfdv x s s') (f_lpfdv s) := by
  unfold f_lpfdv
  obtain ⟨h1, h2, h3, h4, h5, h6, h7⟩ := hI
  refine allR_ite (fun c1 => ?_) (fun c1 => ?_)
  · have c1 : s.low < s.high := by simpa using c1
    have em : IntKind.i64.wrap (s.low + IntKind.i64.wrap ((IntKind.i64.wrap (s.high - s.low)).tdiv 2)) = s.low + (s.high - s.low) / 2 := by
      rw [wrapS (x := s.high - s.low) (by omega) (by omega), Int.tdiv_eq_ediv_of_nonneg (by omega), wrapS (x := (s.high - s.low) / 2) (by omega) (by omega), wrapS (by omega) (by omega)]
    rw [em, wrapS (x := s.low + (s.high - s.low) / 2 + 1) (by omega) (by omega)]
    have hm1 : s.low ≤ s.low + (s.high - s.low) / 2 := by omega
    have hm2 : s.low + (s.high - s.low) / 2 < s.high := by omega
    generalize s.low + (s.high - s.low) / 2 = m at hm1 hm2 ⊢
    have hml : m.toNat < s.list.length := by omega
    rw [gV_eq hml]
    refine allR_ite (fun c2 => ?_) (fun c2 => ?_)
    · have c2 : s.list[m.toNat].1 < s.number := by simpa using c2
      refine ⟨⟨by simp only; omega, by simp only; omega, h3, fun j hj h => ?_, h5, h6, h7⟩, by simp only [mu_lpfdv]; omega⟩
      simp only at h hj ⊢
      by_cases hjm : j = m.toNat
      · subst hjm; exact c2
      · have := ckV_lt h6 j m.toNat hj hml (by omega); omega
    · have c2 : s.number ≤ s.list[m.toNat].1 := by simpa using c2
      refine ⟨⟨h1, by simp only; omega, by simp only; omega, h4, fun j hj h => ?_, h6, h7⟩, by simp only [mu_lpfdv]; omega⟩
      simp only at h hj ⊢
      by_cases hjm : j = m.toNat
      · subst hjm; exact c2
      · have := ckV_lt h6 m.toNat j hml hj (by omega); omega
  · have c1 : s.high ≤ s.low := by simpa using c1
    exact ⟨rfl, h1, by omega, h4, fun j hj h => h5 j hj (by omega)⟩
theorem lpfdv_d : ∀ s s', I_lpfdv s → f_lpfdv s = .next s' → I_lpfdv s' ∧ mu_lpfdv s' < mu_lpfdv s := fun s s' hI h => allR_next (lpfdv_da s hI) h
def sel_lpfdv : List LV → List Blk → T L_lpfdv
  | [.xl (.pair (.int .i64) (.int .i64)) list, .v (.int .i64 number), .own 0 0, .v (.bool r), .v (.int .i64 low), .v (.int .i64 high)], [⟨[.v (.int .i64 b0_Number), .v (.int .i64 b0_Epoch)], 59, .cl, false⟩] => .req (E_lpfdv ⟨list, number, r, low, high, b0_Number, b0_Epoch⟩) (.ok ⟨list, number, r, low, high, b0_Number, b0_Epoch⟩)
  | _, _ => .no
theorem sel_lpfdv_ok : ∀ vals blks s, (sel_lpfdv vals blks).all (fun x => x = s) → E_lpfdv s ∧ vals = A_lpfdv s ∧ blks = B_lpfdv s := by
  intro vals blks s h
  unfold sel_lpfdv at h
  split at h
  · obtain ⟨h1, rfl⟩ := h
    exact ⟨h1, rfl, rfl⟩
  · cases h
def run_lpfdv (s : L_lpfdv) : L_lpfdv := { (runW f_lpfdv (mu_lpfdv s + 1) s).2 with list := s.list, number := s.number, r := s.r, b0_Number := s.b0_Number, b0_Epoch := s.b0_Epoch }
theorem run_lpfdv_eq (s : L_lpfdv) : (runW f_lpfdv (mu_lpfdv s + 1) s).2 = run_lpfdv s := by
  have hk := runW_keep (f := f_lpfdv) P_lpfdv (fun s s' hf => by
    unfold f_lpfdv at hf
    repeat' split at hf
    all_goals cases hf
    all_goals rfl) (fun s x s' hf => by
    unfold f_lpfdv at hf
    repeat' split at hf
    all_goals cases hf
    all_goals rfl) (mu_lpfdv s + 1) s
  unfold run_lpfdv
  generalize (runW f_lpfdv (mu_lpfdv s + 1) s).2 = r at *
  cases r
  simp only [P_lpfdv, Prod.mk.injEq, true_and] at hk
  simp only [L_lpfdv.mk.injEq, hk, and_self]
def exn_lpfdv (s : L_lpfdv) : Ex := (runW f_lpfdv (mu_lpfdv s + 1) s).1
def out_lpfdv (s : L_lpfdv) : T (Ex × List LV × List Blk) := .ok (.exit 0, frameOf 51 [0, 1, 4, 5, 6, 7] (A_lpfdv (run_lpfdv s)), B_lpfdv (run_lpfdv s))
theorem nfl_lpfdv (s : L_lpfdv) : backT [0, 1, 4, 5, 6, 7] [] (codex Try.prog noGlobs (specsOf [(65, S_cNum), (67, S_vNum)]) noK noLoops body_lpfdv (frameOf 51 [0, 1, 4, 5, 6, 7] (A_lpfdv s)) (B_lpfdv s)) = .br (decide (s.low < s.high)) (.req ((2 : Int) ≠ 0) (.req (0 ≤ (IntKind.i64.wrap (s.low + (IntKind.i64.wrap ((IntKind.i64.wrap (s.high - s.low)).tdiv 2)))) ∧ (IntKind.i64.wrap (s.low + (IntKind.i64.wrap ((IntKind.i64.wrap (s.high - s.low)).tdiv 2)))) < (List.length s.list : Int)) (.br (decide ((gV s.list (IntKind.i64.wrap (s.low + (IntKind.i64.wrap ((IntKind.i64.wrap (s.high - s.low)).tdiv 2))))).1 < s.number)) (.ok (⟨.normal, 51, [.xl tV s.list, .v (.int .i64 s.number), .own 0 0, .v (.bool s.r), .v (.int .i64 (IntKind.i64.wrap ((IntKind.i64.wrap (s.low + (IntKind.i64.wrap ((IntKind.i64.wrap (s.high - s.low)).tdiv 2)))) + 1))), .v (.int .i64 s.high)], [⟨[.v (.int .i64 s.b0_Number), .v (.int .i64 s.b0_Epoch)], 59, .cl, false⟩], true⟩)) (.ok (⟨.normal, 51, [.xl tV s.list, .v (.int .i64 s.number), .own 0 0, .v (.bool s.r), .v (.int .i64 s.low), .v (.int .i64 (IntKind.i64.wrap (s.low + (IntKind.i64.wrap ((IntKind.i64.wrap (s.high - s.low)).tdiv 2)))))], [⟨[.v (.int .i64 s.b0_Number), .v (.int .i64 s.b0_Epoch)], 59, .cl, false⟩], true⟩))))) (.ok (⟨.exit 0, 51, [.xl tV s.list, .v (.int .i64 s.number), .own 0 0, .v (.bool s.r), .v (.int .i64 s.low), .v (.int .i64 s.high)], [⟨[.v (.int .i64 s.b0_Number), .v (.int .i64 s.b0_Epoch)], 59, .cl, false⟩], true⟩)) := by kernel_rfl
theorem stp_lpfdv (s : L_lpfdv) (hI : I_lpfdv s) : AllT (fun v => v = rdV 51 A_lpfdv B_lpfdv (f_lpfdv s)) (backT [0, 1, 4, 5, 6, 7] [] (codex Try.prog noGlobs (specsOf [(65, S_cNum), (67, S_vNum)]) noK noLoops body_lpfdv (frameOf 51 [0, 1, 4, 5, 6, 7] (A_lpfdv s)) (B_lpfdv s))) := by
  constructor
  rw [nfl_lpfdv]
  unfold f_lpfdv
  exact
    stp_br (fun c1 =>
      ⟨by (obtain ⟨h1, h2, h3, h4, h5, h6, h7⟩ := hI; (try simp only [decide_eq_true_eq] at c1); first | decide | (rw [wrapS (x := s.high - s.low) (by omega) (by omega), Int.tdiv_eq_ediv_of_nonneg (by omega), wrapS (x := (s.high - s.low) / 2) (by omega) (by omega), wrapS (by omega) (by omega)]; omega)),
        ⟨by (obtain ⟨h1, h2, h3, h4, h5, h6, h7⟩ := hI; (try simp only [decide_eq_true_eq] at c1); first | decide | (rw [wrapS (x := s.high - s.low) (by omega) (by omega), Int.tdiv_eq_ediv_of_nonneg (by omega), wrapS (x := (s.high - s.low) / 2) (by omega) (by omega), wrapS (by omega) (by omega)]; omega)),
          stp_br (fun c2 =>
            rfl) (fun c2 =>
            rfl)⟩⟩) (fun c1 =>
      rfl)
theorem lpfdv_end (s : L_lpfdv) (hE : E_lpfdv s) : ∃ s', I_lpfdv s' ∧ f_lpfdv s' = .stop (exn_lpfdv s) (run_lpfdv s) := by rw [← run_lpfdv_eq]; exact runW_stop lpfdv_d (mu_lpfdv s + 1) s (lpfdv_E s hE) (Nat.lt_succ_self _)
theorem lpfdv_same : ∀ s x s', f_lpfdv s = .stop x s' → s = s' := by
  intro s x s' h
  unfold f_lpfdv at h
  repeat' split at h
  all_goals first | (cases h; done) | (cases h; rfl)
theorem lpfdv_inv (s : L_lpfdv) (hE : E_lpfdv s) : I_lpfdv (run_lpfdv s) ∧ f_lpfdv (run_lpfdv s) = .stop (exn_lpfdv s) (run_lpfdv s) := by
  obtain ⟨s', hI, hf⟩ := lpfdv_end s hE
  have hs := lpfdv_same _ _ _ hf
  subst hs
  exact ⟨hI, hf⟩
theorem snd_lpfdv : Sound Try.prog noGlobs (.loop body_lpfdv) (loopT 51 [0, 1, 4, 5, 6, 7] [] sel_lpfdv out_lpfdv) :=
  loop_view 51 [0, 1, 4, 5, 6, 7] [] A_lpfdv B_lpfdv I_lpfdv E_lpfdv mu_lpfdv f_lpfdv sel_lpfdv out_lpfdv (code_sound (Γ := specsOf [(65, S_cNum), (67, S_vNum)]) (K := noK) (L := noLoops) (specs_ok (l := [(65, S_cNum), (67, S_vNum)]) ⟨v_cNum, v_vNum, trivial⟩) noK_sound body_lpfdv (fun b hb => by rw [show loopsIn body_lpfdv = [] by kernel_rfl] at hb; cases hb))
    sel_lpfdv_ok lpfdv_E lpfdv_d (fun s x s' hf => by have := lpfdv_ex s x s' hf; intro h0; subst h0; simp at this) stp_lpfdv (fun s hE => by
      obtain ⟨s', _, h2⟩ := lpfdv_end s hE
      have h3 : exn_lpfdv s = .exit 0 := lpfdv_ex _ _ _ h2
      unfold out_lpfdv
      rw [run_lpfdv_eq]
      simp only [T.all, ← h3]
      rfl)
theorem lpfdv_fin (s : L_lpfdv) (hE : E_lpfdv s) : ∃ s', I_lpfdv s' ∧ Q_lpfdv (exn_lpfdv s) s' (run_lpfdv s) := by
  obtain ⟨s', hI, hf⟩ := lpfdv_end s hE
  exact ⟨s', hI, allR_stop (lpfdv_da s' hI) hf⟩
def S0_fdv : List LV → T LV
  | [.xl (.pair (.int .i64) (.int .i64)) l, .v (.int .i64 n)] => .req (ckV 0 l = true ∧ (List.length l : Int) ≤ 1000) (.ok (.v (.tuple #[.agg #[.int .i64 (fnV l n).1, .int .i64 (fnV l n).2], .bool (hsV l n)])))
  | _ => .no
noncomputable def S_fdv : List LV → T LV := upS Try.prog Try.f48.params.toList S0_fdv
theorem nf_fdv (l : List (Int × Int)) (n : Int) : funu Try.prog noGlobs (specsOf [(65, S_cNum), (67, S_vNum)]) noK (fun i => if i = 2 then loopT 51 [0, 1, 4, 5, 6, 7] [] sel_lpfdv out_lpfdv else noLoops i) Try.f48 [.xl tV l, .v (.int .i64 n)] = .req (E_lpfdv (⟨l, n, false, (0 : Int), (List.length l : Int), (0 : Int), (0 : Int)⟩ : L_lpfdv)) (.br (decide ((run_lpfdv (⟨l, n, false, (0 : Int), (List.length l : Int), (0 : Int), (0 : Int)⟩ : L_lpfdv)).low < (List.length l : Int))) (.req (0 ≤ (run_lpfdv (⟨l, n, false, (0 : Int), (List.length l : Int), (0 : Int), (0 : Int)⟩ : L_lpfdv)).low ∧ (run_lpfdv (⟨l, n, false, (0 : Int), (List.length l : Int), (0 : Int), (0 : Int)⟩ : L_lpfdv)).low < (List.length l : Int)) (.br ((gV l (run_lpfdv (⟨l, n, false, (0 : Int), (List.length l : Int), (0 : Int), (0 : Int)⟩ : L_lpfdv)).low).1 == n) (.req (0 ≤ (run_lpfdv (⟨l, n, false, (0 : Int), (List.length l : Int), (0 : Int), (0 : Int)⟩ : L_lpfdv)).low ∧ (run_lpfdv (⟨l, n, false, (0 : Int), (List.length l : Int), (0 : Int), (0 : Int)⟩ : L_lpfdv)).low < (List.length l : Int)) (.ok (.v (.tuple #[.agg #[.int .i64 (gV l (run_lpfdv (⟨l, n, false, (0 : Int), (List.length l : Int), (0 : Int), (0 : Int)⟩ : L_lpfdv)).low).1, .int .i64 (gV l (run_lpfdv (⟨l, n, false, (0 : Int), (List.length l : Int), (0 : Int), (0 : Int)⟩ : L_lpfdv)).low).2], .bool true])))) (.ok (.v (.tuple #[.agg #[.int .i64 0, .int .i64 0], .bool false]))))) (.ok (.v (.tuple #[.agg #[.int .i64 0, .int .i64 0], .bool false])))) := by kernel_rfl
theorem v_fdv : Valid Try.prog noGlobs 48 S_fdv := valid_ofu Try.func48 rfl (specs_ok (l := [(65, S_cNum), (67, S_vNum)]) ⟨v_cNum, v_vNum, trivial⟩) noK_sound (L := (fun i => if i = 2 then loopT 51 [0, 1, 4, 5, 6, 7] [] sel_lpfdv out_lpfdv else noLoops i)) (fun b hb => by
  rw [show loopsIn _ = [body_lpfdv] by kernel_rfl] at hb
  simp only [List.mem_cons, List.not_mem_nil, or_false] at hb
  subst hb
  exact snd_lpfdv) (fun args lv h => by
  unfold S0_fdv at h
  split at h
  · simp only [canL, canX]
    rw [nf_fdv]
    rename_i l n
    obtain ⟨⟨hc, hn⟩, rfl⟩ := h
    have hE : E_lpfdv ⟨l, n, false, (0 : Int), (List.length l : Int), (0 : Int), (0 : Int)⟩ := ⟨rfl, rfl, hc, hn⟩
    obtain ⟨s', _, h1, h2, h3, h4, h5⟩ := lpfdv_fin _ hE
    refine ⟨hE, ?_⟩
    generalize (run_lpfdv ⟨l, n, false, (0 : Int), (List.length l : Int), (0 : Int), (0 : Int)⟩).low = k at *
    have h3 : k ≤ (l.length : Int) := h3
    have h4 : ∀ (j : Nat) (hj : j < l.length), (j : Int) < k → l[j].1 < n := h4
    have h5 : ∀ (j : Nat) (hj : j < l.length), k ≤ (j : Int) → n ≤ l[j].1 := h5
    have no : (∀ hk : k.toNat < l.length, l[k.toNat].1 ≠ n) → l.find? (fun x => x.1 == n) = none := fun h => find_no (f := fun x => x.1) (k := k.toNat) (by omega) h (fun j hj h => h4 j hj (by omega)) (fun j hj h => h5 j hj (by omega)) (ckV_lt hc)
    refine ⟨fun c1 => ?_, fun c1 => ?_⟩
    · have c1 : k < (l.length : Int) := by simpa using c1
      have hk : k.toNat < l.length := by omega
      refine ⟨⟨h2, c1⟩, fun c2 => ⟨⟨h2, c1⟩, ?_⟩, fun c2 => ?_⟩
      · have c2 : l[k.toNat].1 = n := by rw [gV_eq hk] at c2; simpa using c2
        have hf := find_at (f := fun x => x.1) hk c2 (fun j hj h => h4 j hj (by omega))
        unfold fnV hsV
        rw [gV_eq hk, hf]
        rfl
      · have c2 : l[k.toNat].1 ≠ n := by rw [gV_eq hk] at c2; simpa using c2
        unfold fnV hsV
        rw [no (fun _ => c2)]
        rfl
    · have c1 : (l.length : Int) ≤ k := by simpa using c1
      unfold fnV hsV
      rw [no (fun h => by omega)]
      rfl
  · cases h)
def S0_rvk : List LV → T LV
  | [.xl (.pair (.int .i64) (.int .i64)) l, .v (.int .i64 n), .v (.int .i64 e)] => .req (ckV 0 l = true ∧ (List.length l : Int) ≤ 1000) (.ok (.v (.bool (rvB l n e))))
  | _ => .no
noncomputable def S_rvk : List LV → T LV := upS Try.prog Try.f34.params.toList S0_rvk
theorem nf_rvk (l : List (Int × Int)) (n e : Int) : funu Try.prog noGlobs (specsOf [(48, S_fdv)]) noK noLoops Try.f34 [.xl tV l, .v (.int .i64 n), .v (.int .i64 e)] = .req (ckV 0 l = true ∧ (List.length l : Int) ≤ 1000) (.ok (.v (.bool ((hsV l n) && (decide ((fnV l n).2 ≤ e)))))) := by kernel_rfl
theorem v_rvk : Valid Try.prog noGlobs 34 S_rvk := valid_ofu Try.func34 rfl (specs_ok (l := [(48, S_fdv)]) ⟨v_fdv, trivial⟩) noK_sound (no_loops (by kernel_rfl)) (fun args lv h => by
  unfold S0_rvk at h
  split at h
  · simp only [canL, canX]
    rw [nf_rvk]
    obtain ⟨h1, rfl⟩ := h
    exact ⟨h1, rfl⟩
  · cases h)
end Go.Proofs.Ytcpadfehoaopaaa
