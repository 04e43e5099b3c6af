/- References: what they compute, by the executor. -/
import Derived.Test.YtcpadfehoaopaaaBm
namespace Go.Proofs.Ytcpadfehoaopaaa
open Go.Sx
structure L_rpu where
  l : List (Int × Int)
  done : Bool
  i : Int
  v_Number : Int
  v_Epoch : Int
  out : List (Int × Int)
def A_rpu (s : L_rpu) : List LV := [.xl tV s.l, .own 0 0, .os 1 2 0 (List.length s.out), .v (.bool s.done), .v (.int .i64 s.i)]
def B_rpu (s : L_rpu) : List Blk := [⟨[.v (.int .i64 s.v_Number), .v (.int .i64 s.v_Epoch)], 43, .cl, false⟩, ⟨[], 43, .vec tV s.out, false⟩]
noncomputable def body_rpu : Code := ((loopsIn (Try.f43.body.getD .skip))[0]?).getD .skip
def f_rpu (s : L_rpu) : Rd L_rpu :=
  if (decide (s.i < (List.length s.l : Int))) then
    if ((gV s.l s.i).1 == s.v_Number) then
      .next { s with done := true, i := (IntKind.i64.wrap (s.i + 1)), out := (s.out ++ ([(s.v_Number, (if (gV s.l s.i).2 < s.v_Epoch then (gV s.l s.i).2 else s.v_Epoch))])) }
    else
      if (!s.done) then
        if (decide ((gV s.l s.i).1 > s.v_Number)) then
          .next { s with done := true, i := (IntKind.i64.wrap (s.i + 1)), out := ((s.out ++ ([(s.v_Number, s.v_Epoch)])) ++ ([(gV s.l s.i)])) }
        else
          .next { s with i := (IntKind.i64.wrap (s.i + 1)), out := (s.out ++ ([(gV s.l s.i)])) }
      else
        .next { s with i := (IntKind.i64.wrap (s.i + 1)), out := (s.out ++ ([(gV s.l s.i)])) }
  else
    .stop (.exit 0) s
def P_rpu (s : L_rpu) := ((), s.l, s.v_Number, s.v_Epoch)
theorem rpu_ex : ∀ s x s', f_rpu s = .stop x s' → x = .exit 0 := by
  intro s x s' h
  unfold f_rpu at h
  repeat' split at h
  all_goals first | (cases h; done) | (cases h; rfl) | (cases h; simp)
def E_rpu (s : L_rpu) : Prop := s.i = 0 ∧ s.out = [] ∧ s.done = false ∧ (s.l.length : Int) ≤ 1000
def I_rpu (s : L_rpu) : Prop := 0 ≤ s.i ∧ s.i ≤ s.l.length ∧ (s.l.length : Int) ≤ 1000 ∧ (s.out.length : Int) ≤ 2 * s.i ∧ putF s.l (s.v_Number, s.v_Epoch) = s.out ++ putG s.done (s.l.drop s.i.toNat) (s.v_Number, s.v_Epoch)
def mu_rpu (s : L_rpu) : Nat := ((s.l.length : Int) - s.i).toNat
def Q_rpu (x : Ex) (s s' : L_rpu) : Prop := x = .exit 0 ∧ (s'.out.length : Int) ≤ 2000 ∧ putF s'.l (s'.v_Number, s'.v_Epoch) = s'.out ++ (if s'.done = true then [] else [(s'.v_Number, s'.v_Epoch)])
theorem rpu_E : ∀ s, E_rpu s → I_rpu s := by
  intro s h
  obtain ⟨h1, h2, h3, h4⟩ := h
  exact ⟨by omega, by omega, h4, by rw [h2]; simp; omega, by rw [h1, h2, h3]; rfl⟩
theorem rpu_da (s : L_rpu) (hI : I_rpu s) : allR (fun s' => I_rpu s' ∧ mu_rpu s' < mu_rpu s) (fun x s' => Q_rpu x s s') (f_rpu s) := by
  unfold f_rpu
  obtain ⟨h1, h2, h3, h4, h5⟩ := hI
  refine allR_ite (fun c1 => ?_) (fun c1 => ?_)
  · refine allR_ite (fun c2 => ?_) (fun c2 => ?_)
    · have c1 : s.i < s.l.length := by simpa using c1
      have hs := (gV_step h1 c1).1
      rw [hs] at h5
      simp only [putG] at h5
      rw [wrapS (x := s.i + 1) (by omega) (by omega)]
      refine ⟨⟨by simp only; omega, by simp only; omega, h3, by simp only [List.length_append, List.length_cons, List.length_nil]; omega, ?_⟩, by simp only [mu_rpu]; omega⟩
      simp only
      rw [h5]
      simp only [beq_iff_eq, beq_eq_false_iff_ne, Bool.not_eq_true', Bool.not_eq_false', decide_eq_true_eq, decide_eq_false_iff_not, gt_iff_lt, ne_eq] at *
      simp [c2]
    · refine allR_ite (fun c3 => ?_) (fun c3 => ?_)
      · refine allR_ite (fun c4 => ?_) (fun c4 => ?_)
        · have c1 : s.i < s.l.length := by simpa using c1
          have hs := (gV_step h1 c1).1
          rw [hs] at h5
          simp only [putG] at h5
          rw [wrapS (x := s.i + 1) (by omega) (by omega)]
          refine ⟨⟨by simp only; omega, by simp only; omega, h3, by simp only [List.length_append, List.length_cons, List.length_nil]; omega, ?_⟩, by simp only [mu_rpu]; omega⟩
          simp only
          rw [h5]
          simp only [beq_iff_eq, beq_eq_false_iff_ne, Bool.not_eq_true', Bool.not_eq_false', decide_eq_true_eq, decide_eq_false_iff_not, gt_iff_lt, ne_eq] at *
          simp [c2, c3, c4]
        · have c1 : s.i < s.l.length := by simpa using c1
          have hs := (gV_step h1 c1).1
          rw [hs] at h5
          simp only [putG] at h5
          rw [wrapS (x := s.i + 1) (by omega) (by omega)]
          refine ⟨⟨by simp only; omega, by simp only; omega, h3, by simp only [List.length_append, List.length_cons, List.length_nil]; omega, ?_⟩, by simp only [mu_rpu]; omega⟩
          simp only
          rw [h5]
          simp only [beq_iff_eq, beq_eq_false_iff_ne, Bool.not_eq_true', Bool.not_eq_false', decide_eq_true_eq, decide_eq_false_iff_not, gt_iff_lt, ne_eq] at *
          simp [c2, c3, c4]
      · have c1 : s.i < s.l.length := by simpa using c1
        have hs := (gV_step h1 c1).1
        rw [hs] at h5
        simp only [putG] at h5
        rw [wrapS (x := s.i + 1) (by omega) (by omega)]
        refine ⟨⟨by simp only; omega, by simp only; omega, h3, by simp only [List.length_append, List.length_cons, List.length_nil]; omega, ?_⟩, by simp only [mu_rpu]; omega⟩
        simp only
        rw [h5]
        simp only [beq_iff_eq, beq_eq_false_iff_ne, Bool.not_eq_true', Bool.not_eq_false', decide_eq_true_eq, decide_eq_false_iff_not, gt_iff_lt, ne_eq] at *
        simp [c2, c3]
  · have c1 : (s.l.length : Int) ≤ s.i := by simpa using c1
    refine ⟨rfl, by omega, ?_⟩
    rw [h5, List.drop_eq_nil_of_le (by omega)]
    rfl
theorem rpu_d : ∀ s s', I_rpu s → f_rpu s = .next s' → I_rpu s' ∧ mu_rpu s' < mu_rpu s := fun s s' hI h => allR_next (rpu_da s hI) h
def sel_rpu : List LV → List Blk → T L_rpu
  | [.xl (.pair (.int .i64) (.int .i64)) l, .own 0 0, .os 1 2 0 w2_, .v (.bool done), .v (.int .i64 i)], [⟨[.v (.int .i64 v_Number), .v (.int .i64 v_Epoch)], 43, .cl, false⟩, ⟨[], 43, .vec (.pair (.int .i64) (.int .i64)) out, false⟩] => .req (E_rpu ⟨l, done, i, v_Number, v_Epoch, out⟩ ∧ w2_ = List.length out) (.ok ⟨l, done, i, v_Number, v_Epoch, out⟩)
  | _, _ => .no
theorem sel_rpu_ok : ∀ vals blks s, (sel_rpu vals blks).all (fun x => x = s) → E_rpu s ∧ vals = A_rpu s ∧ blks = B_rpu s := by
  intro vals blks s h
  unfold sel_rpu at h
  split at h
  · obtain ⟨⟨h1, rfl⟩, rfl⟩ := h
    exact ⟨h1, rfl, rfl⟩
  · cases h
def run_rpu (s : L_rpu) : L_rpu := { (runW f_rpu (mu_rpu s + 1) s).2 with l := s.l, v_Number := s.v_Number, v_Epoch := s.v_Epoch }
theorem run_rpu_eq (s : L_rpu) : (runW f_rpu (mu_rpu s + 1) s).2 = run_rpu s := by
  have hk := runW_keep (f := f_rpu) P_rpu (fun s s' hf => by
    unfold f_rpu at hf
    repeat' split at hf
    all_goals cases hf
    all_goals rfl) (fun s x s' hf => by
    unfold f_rpu at hf
    repeat' split at hf
    all_goals cases hf
    all_goals rfl) (mu_rpu s + 1) s
  unfold run_rpu
  generalize (runW f_rpu (mu_rpu s + 1) s).2 = r at *
  cases r
  simp only [P_rpu, Prod.mk.injEq, true_and] at hk
  simp only [L_rpu.mk.injEq, hk, and_self]
def exn_rpu (s : L_rpu) : Ex := (runW f_rpu (mu_rpu s + 1) s).1
def out_rpu (s : L_rpu) : T (Ex × List LV × List Blk) := .ok (.exit 0, frameOf 66 [0, 3, 5, 6, 7] (A_rpu (run_rpu s)), B_rpu (run_rpu s))
theorem nfl_rpu (s : L_rpu) : backT [0, 3, 5, 6, 7] [.nl 5 43 tV] (codex Try.prog noGlobs (specsOf []) noK noLoops body_rpu (frameOf 66 [0, 3, 5, 6, 7] (A_rpu s)) (B_rpu s)) = .br (decide (s.i < (List.length s.l : Int))) (.req (0 ≤ s.i ∧ s.i < (List.length s.l : Int)) (.br ((gV s.l s.i).1 == s.v_Number) (.req (0 ≤ s.i ∧ s.i < (List.length s.l : Int)) (.req (0 + (List.length s.out) = List.length s.out ∧ ((List.length s.out + List.length ([(s.v_Number, (if (gV s.l s.i).2 < s.v_Epoch then (gV s.l s.i).2 else s.v_Epoch))]) : Nat) : Int) * 16 ≤ 2 ^ 47 ∧ ((List.length s.out + List.length ([(s.v_Number, (if (gV s.l s.i).2 < s.v_Epoch then (gV s.l s.i).2 else s.v_Epoch))]) : Nat) : Int) < 2 ^ 62) (.req (0 = 0 ∧ (List.length s.out + List.length ([(s.v_Number, (if (gV s.l s.i).2 < s.v_Epoch then (gV s.l s.i).2 else s.v_Epoch))])) = List.length (s.out ++ ([(s.v_Number, (if (gV s.l s.i).2 < s.v_Epoch then (gV s.l s.i).2 else s.v_Epoch))]))) (.ok (⟨.normal, 66, [.xl tV s.l, .own 0 0, .os 1 2 0 (List.length (s.out ++ ([(s.v_Number, (if (gV s.l s.i).2 < s.v_Epoch then (gV s.l s.i).2 else s.v_Epoch))]))), .v (.bool true), .v (.int .i64 (IntKind.i64.wrap (s.i + 1)))], [⟨[.v (.int .i64 s.v_Number), .v (.int .i64 s.v_Epoch)], 43, .cl, false⟩, ⟨[], 43, .vec tV (s.out ++ ([(s.v_Number, (if (gV s.l s.i).2 < s.v_Epoch then (gV s.l s.i).2 else s.v_Epoch))])), false⟩], true⟩))))) (.br (!s.done) (.req (0 ≤ s.i ∧ s.i < (List.length s.l : Int)) (.br (decide ((gV s.l s.i).1 > s.v_Number)) (.req (0 + (List.length s.out) = List.length s.out ∧ ((List.length s.out + List.length ([(s.v_Number, s.v_Epoch)]) : Nat) : Int) * 16 ≤ 2 ^ 47 ∧ ((List.length s.out + List.length ([(s.v_Number, s.v_Epoch)]) : Nat) : Int) < 2 ^ 62) (.req (0 ≤ s.i ∧ s.i < (List.length s.l : Int)) (.req (0 + (List.length s.out + List.length ([(s.v_Number, s.v_Epoch)])) = List.length (s.out ++ ([(s.v_Number, s.v_Epoch)])) ∧ ((List.length s.out + List.length ([(s.v_Number, s.v_Epoch)]) + List.length ([(gV s.l s.i)]) : Nat) : Int) * 16 ≤ 2 ^ 47 ∧ ((List.length s.out + List.length ([(s.v_Number, s.v_Epoch)]) + List.length ([(gV s.l s.i)]) : Nat) : Int) < 2 ^ 62) (.req (0 = 0 ∧ (List.length s.out + List.length ([(s.v_Number, s.v_Epoch)]) + List.length ([(gV s.l s.i)])) = List.length ((s.out ++ ([(s.v_Number, s.v_Epoch)])) ++ ([(gV s.l s.i)]))) (.ok (⟨.normal, 66, [.xl tV s.l, .own 0 0, .os 1 2 0 (List.length ((s.out ++ ([(s.v_Number, s.v_Epoch)])) ++ ([(gV s.l s.i)]))), .v (.bool true), .v (.int .i64 (IntKind.i64.wrap (s.i + 1)))], [⟨[.v (.int .i64 s.v_Number), .v (.int .i64 s.v_Epoch)], 43, .cl, false⟩, ⟨[], 43, .vec tV ((s.out ++ ([(s.v_Number, s.v_Epoch)])) ++ ([(gV s.l s.i)])), false⟩], true⟩)))))) (.req (0 ≤ s.i ∧ s.i < (List.length s.l : Int)) (.req (0 + (List.length s.out) = List.length s.out ∧ ((List.length s.out + List.length ([(gV s.l s.i)]) : Nat) : Int) * 16 ≤ 2 ^ 47 ∧ ((List.length s.out + List.length ([(gV s.l s.i)]) : Nat) : Int) < 2 ^ 62) (.req (0 = 0 ∧ (List.length s.out + List.length ([(gV s.l s.i)])) = List.length (s.out ++ ([(gV s.l s.i)]))) (.ok (⟨.normal, 66, [.xl tV s.l, .own 0 0, .os 1 2 0 (List.length (s.out ++ ([(gV s.l s.i)]))), .v (.bool s.done), .v (.int .i64 (IntKind.i64.wrap (s.i + 1)))], [⟨[.v (.int .i64 s.v_Number), .v (.int .i64 s.v_Epoch)], 43, .cl, false⟩, ⟨[], 43, .vec tV (s.out ++ ([(gV s.l s.i)])), false⟩], true⟩))))))) (.req (0 ≤ s.i ∧ s.i < (List.length s.l : Int)) (.req (0 + (List.length s.out) = List.length s.out ∧ ((List.length s.out + List.length ([(gV s.l s.i)]) : Nat) : Int) * 16 ≤ 2 ^ 47 ∧ ((List.length s.out + List.length ([(gV s.l s.i)]) : Nat) : Int) < 2 ^ 62) (.req (0 = 0 ∧ (List.length s.out + List.length ([(gV s.l s.i)])) = List.length (s.out ++ ([(gV s.l s.i)]))) (.ok (⟨.normal, 66, [.xl tV s.l, .own 0 0, .os 1 2 0 (List.length (s.out ++ ([(gV s.l s.i)]))), .v (.bool s.done), .v (.int .i64 (IntKind.i64.wrap (s.i + 1)))], [⟨[.v (.int .i64 s.v_Number), .v (.int .i64 s.v_Epoch)], 43, .cl, false⟩, ⟨[], 43, .vec tV (s.out ++ ([(gV s.l s.i)])), false⟩], true⟩)))))))) (.req (0 = 0 ∧ (List.length s.out) = List.length s.out) (.ok (⟨.exit 0, 66, [.xl tV s.l, .own 0 0, .os 1 2 0 (List.length s.out), .v (.bool s.done), .v (.int .i64 s.i)], [⟨[.v (.int .i64 s.v_Number), .v (.int .i64 s.v_Epoch)], 43, .cl, false⟩, ⟨[], 43, .vec tV s.out, false⟩], true⟩))) := by kernel_rfl
theorem stp_rpu (s : L_rpu) (hI : I_rpu s) : AllT (fun v => v = rdV 66 A_rpu B_rpu (f_rpu s)) (backT [0, 3, 5, 6, 7] [.nl 5 43 tV] (codex Try.prog noGlobs (specsOf []) noK noLoops body_rpu (frameOf 66 [0, 3, 5, 6, 7] (A_rpu s)) (B_rpu s))) := by
  constructor
  rw [nfl_rpu]
  unfold f_rpu
  exact
    stp_br (fun c1 =>
      ⟨by (obtain ⟨h1, h2, h3, h4, h5⟩ := hI; (try simp only [decide_eq_true_eq] at c1); first | omega | (simp only [List.length_append, List.length_cons, List.length_nil]; omega) | exact ⟨rfl, by simp⟩ | (refine ⟨by simp, ?_, ?_⟩ <;> simp only [List.length_append, List.length_cons, List.length_nil] <;> omega) | (refine ⟨rfl, ?_⟩; simp only [List.length_append, List.length_cons, List.length_nil])),
        stp_br (fun c2 =>
          ⟨by (obtain ⟨h1, h2, h3, h4, h5⟩ := hI; (try simp only [decide_eq_true_eq] at c1); first | omega | (simp only [List.length_append, List.length_cons, List.length_nil]; omega) | exact ⟨rfl, by simp⟩ | (refine ⟨by simp, ?_, ?_⟩ <;> simp only [List.length_append, List.length_cons, List.length_nil] <;> omega) | (refine ⟨rfl, ?_⟩; simp only [List.length_append, List.length_cons, List.length_nil])),
            ⟨by (obtain ⟨h1, h2, h3, h4, h5⟩ := hI; (try simp only [decide_eq_true_eq] at c1); first | omega | (simp only [List.length_append, List.length_cons, List.length_nil]; omega) | exact ⟨rfl, by simp⟩ | (refine ⟨by simp, ?_, ?_⟩ <;> simp only [List.length_append, List.length_cons, List.length_nil] <;> omega) | (refine ⟨rfl, ?_⟩; simp only [List.length_append, List.length_cons, List.length_nil])),
              ⟨by (obtain ⟨h1, h2, h3, h4, h5⟩ := hI; (try simp only [decide_eq_true_eq] at c1); first | omega | (simp only [List.length_append, List.length_cons, List.length_nil]; omega) | exact ⟨rfl, by simp⟩ | (refine ⟨by simp, ?_, ?_⟩ <;> simp only [List.length_append, List.length_cons, List.length_nil] <;> omega) | (refine ⟨rfl, ?_⟩; simp only [List.length_append, List.length_cons, List.length_nil])),
                rfl⟩⟩⟩) (fun c2 =>
          stp_br (fun c3 =>
            ⟨by (obtain ⟨h1, h2, h3, h4, h5⟩ := hI; (try simp only [decide_eq_true_eq] at c1); first | omega | (simp only [List.length_append, List.length_cons, List.length_nil]; omega) | exact ⟨rfl, by simp⟩ | (refine ⟨by simp, ?_, ?_⟩ <;> simp only [List.length_append, List.length_cons, List.length_nil] <;> omega) | (refine ⟨rfl, ?_⟩; simp only [List.length_append, List.length_cons, List.length_nil])),
              stp_br (fun c4 =>
                ⟨by (obtain ⟨h1, h2, h3, h4, h5⟩ := hI; (try simp only [decide_eq_true_eq] at c1); first | omega | (simp only [List.length_append, List.length_cons, List.length_nil]; omega) | exact ⟨rfl, by simp⟩ | (refine ⟨by simp, ?_, ?_⟩ <;> simp only [List.length_append, List.length_cons, List.length_nil] <;> omega) | (refine ⟨rfl, ?_⟩; simp only [List.length_append, List.length_cons, List.length_nil])),
                  ⟨by (obtain ⟨h1, h2, h3, h4, h5⟩ := hI; (try simp only [decide_eq_true_eq] at c1); first | omega | (simp only [List.length_append, List.length_cons, List.length_nil]; omega) | exact ⟨rfl, by simp⟩ | (refine ⟨by simp, ?_, ?_⟩ <;> simp only [List.length_append, List.length_cons, List.length_nil] <;> omega) | (refine ⟨rfl, ?_⟩; simp only [List.length_append, List.length_cons, List.length_nil])),
                    ⟨by (obtain ⟨h1, h2, h3, h4, h5⟩ := hI; (try simp only [decide_eq_true_eq] at c1); first | omega | (simp only [List.length_append, List.length_cons, List.length_nil]; omega) | exact ⟨rfl, by simp⟩ | (refine ⟨by simp, ?_, ?_⟩ <;> simp only [List.length_append, List.length_cons, List.length_nil] <;> omega) | (refine ⟨rfl, ?_⟩; simp only [List.length_append, List.length_cons, List.length_nil])),
                      ⟨by (obtain ⟨h1, h2, h3, h4, h5⟩ := hI; (try simp only [decide_eq_true_eq] at c1); first | omega | (simp only [List.length_append, List.length_cons, List.length_nil]; omega) | exact ⟨rfl, by simp⟩ | (refine ⟨by simp, ?_, ?_⟩ <;> simp only [List.length_append, List.length_cons, List.length_nil] <;> omega) | (refine ⟨rfl, ?_⟩; simp only [List.length_append, List.length_cons, List.length_nil])),
                        rfl⟩⟩⟩⟩) (fun c4 =>
                ⟨by (obtain ⟨h1, h2, h3, h4, h5⟩ := hI; (try simp only [decide_eq_true_eq] at c1); first | omega | (simp only [List.length_append, List.length_cons, List.length_nil]; omega) | exact ⟨rfl, by simp⟩ | (refine ⟨by simp, ?_, ?_⟩ <;> simp only [List.length_append, List.length_cons, List.length_nil] <;> omega) | (refine ⟨rfl, ?_⟩; simp only [List.length_append, List.length_cons, List.length_nil])),
                  ⟨by (obtain ⟨h1, h2, h3, h4, h5⟩ := hI; (try simp only [decide_eq_true_eq] at c1); first | omega | (simp only [List.length_append, List.length_cons, List.length_nil]; omega) | exact ⟨rfl, by simp⟩ | (refine ⟨by simp, ?_, ?_⟩ <;> simp only [List.length_append, List.length_cons, List.length_nil] <;> omega) | (refine ⟨rfl, ?_⟩; simp only [List.length_append, List.length_cons, List.length_nil])),
                    ⟨by (obtain ⟨h1, h2, h3, h4, h5⟩ := hI; (try simp only [decide_eq_true_eq] at c1); first | omega | (simp only [List.length_append, List.length_cons, List.length_nil]; omega) | exact ⟨rfl, by simp⟩ | (refine ⟨by simp, ?_, ?_⟩ <;> simp only [List.length_append, List.length_cons, List.length_nil] <;> omega) | (refine ⟨rfl, ?_⟩; simp only [List.length_append, List.length_cons, List.length_nil])),
                      rfl⟩⟩⟩)⟩) (fun c3 =>
            ⟨by (obtain ⟨h1, h2, h3, h4, h5⟩ := hI; (try simp only [decide_eq_true_eq] at c1); first | omega | (simp only [List.length_append, List.length_cons, List.length_nil]; omega) | exact ⟨rfl, by simp⟩ | (refine ⟨by simp, ?_, ?_⟩ <;> simp only [List.length_append, List.length_cons, List.length_nil] <;> omega) | (refine ⟨rfl, ?_⟩; simp only [List.length_append, List.length_cons, List.length_nil])),
              ⟨by (obtain ⟨h1, h2, h3, h4, h5⟩ := hI; (try simp only [decide_eq_true_eq] at c1); first | omega | (simp only [List.length_append, List.length_cons, List.length_nil]; omega) | exact ⟨rfl, by simp⟩ | (refine ⟨by simp, ?_, ?_⟩ <;> simp only [List.length_append, List.length_cons, List.length_nil] <;> omega) | (refine ⟨rfl, ?_⟩; simp only [List.length_append, List.length_cons, List.length_nil])),
                ⟨by (obtain ⟨h1, h2, h3, h4, h5⟩ := hI; (try simp only [decide_eq_true_eq] at c1); first | omega | (simp only [List.length_append, List.length_cons, List.length_nil]; omega) | exact ⟨rfl, by simp⟩ | (refine ⟨by simp, ?_, ?_⟩ <;> simp only [List.length_append, List.length_cons, List.length_nil] <;> omega) | (refine ⟨rfl, ?_⟩; simp only [List.length_append, List.length_cons, List.length_nil])),
                  rfl⟩⟩⟩))⟩) (fun c1 =>
      ⟨by (obtain ⟨h1, h2, h3, h4, h5⟩ := hI; (try simp only [decide_eq_true_eq] at c1); first | omega | (simp only [List.length_append, List.length_cons, List.length_nil]; omega) | exact ⟨rfl, by simp⟩ | (refine ⟨by simp, ?_, ?_⟩ <;> simp only [List.length_append, List.length_cons, List.length_nil] <;> omega) | (refine ⟨rfl, ?_⟩; simp only [List.length_append, List.length_cons, List.length_nil])),
        rfl⟩)
theorem rpu_end (s : L_rpu) (hE : E_rpu s) : ∃ s', I_rpu s' ∧ f_rpu s' = .stop (exn_rpu s) (run_rpu s) := by rw [← run_rpu_eq]; exact runW_stop rpu_d (mu_rpu s + 1) s (rpu_E s hE) (Nat.lt_succ_self _)
theorem rpu_same : ∀ s x s', f_rpu s = .stop x s' → s = s' := by
  intro s x s' h
  unfold f_rpu at h
  repeat' split at h
  all_goals first | (cases h; done) | (cases h; rfl)
theorem rpu_inv (s : L_rpu) (hE : E_rpu s) : I_rpu (run_rpu s) ∧ f_rpu (run_rpu s) = .stop (exn_rpu s) (run_rpu s) := by
  obtain ⟨s', hI, hf⟩ := rpu_end s hE
  have hs := rpu_same _ _ _ hf
  subst hs
  exact ⟨hI, hf⟩
theorem snd_rpu : Sound Try.prog noGlobs (.loop body_rpu) (loopT 66 [0, 3, 5, 6, 7] [.nl 5 43 tV] sel_rpu out_rpu) :=
  loop_view 66 [0, 3, 5, 6, 7] [.nl 5 43 tV] A_rpu B_rpu I_rpu E_rpu mu_rpu f_rpu sel_rpu out_rpu (code_sound (Γ := specsOf []) (K := noK) (L := noLoops) (specs_ok (l := []) trivial) noK_sound body_rpu (fun b hb => by rw [show loopsIn body_rpu = [] by kernel_rfl] at hb; cases hb))
    sel_rpu_ok rpu_E rpu_d (fun s x s' hf => by have := rpu_ex s x s' hf; intro h0; subst h0; simp at this) stp_rpu (fun s hE => by
      obtain ⟨s', _, h2⟩ := rpu_end s hE
      have h3 : exn_rpu s = .exit 0 := rpu_ex _ _ _ h2
      unfold out_rpu
      rw [run_rpu_eq]
      simp only [T.all, ← h3]
      rfl)
theorem rpu_fin (s : L_rpu) (hE : E_rpu s) : ∃ s', I_rpu s' ∧ Q_rpu (exn_rpu s) s' (run_rpu s) := by
  obtain ⟨s', hI, hf⟩ := rpu_end s hE
  exact ⟨s', hI, allR_stop (rpu_da s' hI) hf⟩
def S0_rput : List LV → T LV
  | [.xl (.pair (.int .i64) (.int .i64)) l, .v (.agg ⟨[.int .i64 nu, .int .i64 ep]⟩)] => .req ((List.length l : Int) ≤ 1000) (.ok (.xl tV (putF l (nu, ep))))
  | _ => .no
noncomputable def S_rput : List LV → T LV := upS Try.prog Try.f43.params.toList S0_rput
theorem nf_rput (l : List (Int × Int)) (nu ep : Int) : funu Try.prog noGlobs (specsOf []) noK (fun i => if i = 4 then loopT 66 [0, 3, 5, 6, 7] [.nl 5 43 tV] sel_rpu out_rpu else noLoops i) Try.f43 [.xl tV l, .v (.agg #[.int .i64 nu, .int .i64 ep])] = .req (0 = 0 ∧ 0 = List.length ([] : List (Int × Int))) (.req (E_rpu (⟨l, false, (0 : Int), nu, ep, ([] : List (Int × Int))⟩ : L_rpu) ∧ (List.length ([] : List (Int × Int))) = List.length ([] : List (Int × Int))) (.br (!(run_rpu (⟨l, false, (0 : Int), nu, ep, ([] : List (Int × Int))⟩ : L_rpu)).done) (.req (0 + (List.length (run_rpu (⟨l, false, (0 : Int), nu, ep, ([] : List (Int × Int))⟩ : L_rpu)).out) = List.length (run_rpu (⟨l, false, (0 : Int), nu, ep, ([] : List (Int × Int))⟩ : L_rpu)).out ∧ ((List.length (run_rpu (⟨l, false, (0 : Int), nu, ep, ([] : List (Int × Int))⟩ : L_rpu)).out + List.length ([(nu, ep)]) : Nat) : Int) * 16 ≤ 2 ^ 47 ∧ ((List.length (run_rpu (⟨l, false, (0 : Int), nu, ep, ([] : List (Int × Int))⟩ : L_rpu)).out + List.length ([(nu, ep)]) : Nat) : Int) < 2 ^ 62) (.req (0 + (List.length (run_rpu (⟨l, false, (0 : Int), nu, ep, ([] : List (Int × Int))⟩ : L_rpu)).out + List.length ([(nu, ep)])) ≤ List.length ((run_rpu (⟨l, false, (0 : Int), nu, ep, ([] : List (Int × Int))⟩ : L_rpu)).out ++ ([(nu, ep)]))) (.ok (.xl tV ((((run_rpu (⟨l, false, (0 : Int), nu, ep, ([] : List (Int × Int))⟩ : L_rpu)).out ++ ([(nu, ep)])).drop 0).take (List.length (run_rpu (⟨l, false, (0 : Int), nu, ep, ([] : List (Int × Int))⟩ : L_rpu)).out + List.length ([(nu, ep)]))))))) (.req (0 + (List.length (run_rpu (⟨l, false, (0 : Int), nu, ep, ([] : List (Int × Int))⟩ : L_rpu)).out) ≤ List.length (run_rpu (⟨l, false, (0 : Int), nu, ep, ([] : List (Int × Int))⟩ : L_rpu)).out) (.ok (.xl tV (((run_rpu (⟨l, false, (0 : Int), nu, ep, ([] : List (Int × Int))⟩ : L_rpu)).out.drop 0).take (List.length (run_rpu (⟨l, false, (0 : Int), nu, ep, ([] : List (Int × Int))⟩ : L_rpu)).out))))))) := by kernel_rfl
theorem v_rput : Valid Try.prog noGlobs 43 S_rput := valid_ofu Try.func43 rfl (specs_ok (l := []) trivial) noK_sound (L := (fun i => if i = 4 then loopT 66 [0, 3, 5, 6, 7] [.nl 5 43 tV] sel_rpu out_rpu else noLoops i)) (fun b hb => by
  rw [show loopsIn _ = [body_rpu] by kernel_rfl] at hb
  simp only [List.mem_cons, List.not_mem_nil, or_false] at hb
  subst hb
  exact snd_rpu) (fun args lv h => by
  unfold S0_rput at h
  split at h
  · simp only [canL, canX]
    rw [nf_rput]
    rename_i l nu ep
    obtain ⟨hn, rfl⟩ := h
    have hE : E_rpu ⟨l, false, (0 : Int), nu, ep, []⟩ := ⟨rfl, rfl, rfl, hn⟩
    obtain ⟨s', _, q1, q2, q3⟩ := rpu_fin _ hE
    have q3 : putF l (nu, ep) = (run_rpu ⟨l, false, (0 : Int), nu, ep, []⟩).out ++ (if (run_rpu ⟨l, false, (0 : Int), nu, ep, []⟩).done = true then [] else [(nu, ep)]) := q3
    rw [q3]
    generalize (run_rpu ⟨l, false, (0 : Int), nu, ep, []⟩).out = r at *
    generalize (run_rpu ⟨l, false, (0 : Int), nu, ep, []⟩).done = d at *
    refine ⟨⟨rfl, rfl⟩, ⟨hE, rfl⟩, fun c1 => ?_, fun c1 => ?_⟩
    · have c1 : d = false := by simpa using c1
      subst c1
      refine ⟨⟨by omega, by simp only [List.length_cons, List.length_nil]; omega, by simp only [List.length_cons, List.length_nil]; omega⟩, by simp, ?_⟩
      show LV.xl _ _ = _
      rw [List.drop_zero, List.take_of_length_le (by simp)]
      rfl
    · have c1 : d = true := by simpa using c1
      subst c1
      refine ⟨by simp, ?_⟩
      show LV.xl _ _ = _
      rw [List.drop_zero, List.take_length]
      simp
  · cases h)
structure L_rj where
  b : List (Int × Int)
  out : List (Int × Int)
  i : Int
def A_rj (s : L_rj) : List LV := [.xl tV s.b, .xl tV s.out, .v (.int .i64 s.i)]
def B_rj (s : L_rj) : List Blk := []
noncomputable def body_rj : Code := ((loopsIn (Try.f15.body.getD .skip))[0]?).getD .skip
def f_rj (s : L_rj) : Rd L_rj :=
  if (decide (s.i < (List.length s.b : Int))) then
    .next { s with out := (putF s.out ((gV s.b s.i).1, (gV s.b s.i).2)), i := (IntKind.i64.wrap (s.i + 1)) }
  else
    .stop (.exit 0) s
def P_rj (s : L_rj) := ((), s.b)
theorem rj_ex : ∀ s x s', f_rj s = .stop x s' → x = .exit 0 := by
  intro s x s' h
  unfold f_rj at h
  repeat' split at h
  all_goals first | (cases h; done) | (cases h; rfl) | (cases h; simp)
def E_rj (s : L_rj) : Prop := s.i = 0 ∧ (s.out.length : Int) ≤ 64 ∧ (s.b.length : Int) ≤ 64
def I_rj (s : L_rj) : Prop := 0 ≤ s.i ∧ s.i ≤ s.b.length ∧ (s.b.length : Int) ≤ 64 ∧ (s.out.length : Int) ≤ 64 + s.i
def mu_rj (s : L_rj) : Nat := ((s.b.length : Int) - s.i).toNat
def Q_rj (x : Ex) (s s' : L_rj) : Prop := x = .exit 0 ∧ (s'.out.length : Int) ≤ 128
theorem rj_E : ∀ s, E_rj s → I_rj s := by
  intro s h
  obtain ⟨h1, h2, h3⟩ := h
  exact ⟨by omega, by omega, h3, by omega⟩
theorem rj_da (s : L_rj) (hI : I_rj s) : allR (fun s' => I_rj s' ∧ mu_rj s' < mu_rj s) (fun x s' => Q_rj x s s') (f_rj s) := by
  unfold f_rj
  obtain ⟨h1, h2, h3, h4⟩ := hI
  refine allR_ite (fun c1 => ?_) (fun c1 => ?_)
  · have c1 : s.i < s.b.length := by simpa using c1
    rw [wrapS (x := s.i + 1) (by omega) (by omega)]
    have := putG_len false s.out (gV s.b s.i)
    refine ⟨⟨by simp only; omega, by simp only; omega, h3, ?_⟩, by simp only [mu_rj]; omega⟩
    simp only
    show ((putG false s.out (gV s.b s.i)).length : Int) ≤ _
    omega
  · exact ⟨rfl, by omega⟩
theorem rj_d : ∀ s s', I_rj s → f_rj s = .next s' → I_rj s' ∧ mu_rj s' < mu_rj s := fun s s' hI h => allR_next (rj_da s hI) h
def sel_rj : List LV → List Blk → T L_rj
  | [.xl (.pair (.int .i64) (.int .i64)) b, .xl (.pair (.int .i64) (.int .i64)) out, .v (.int .i64 i)], [] => .req (E_rj ⟨b, out, i⟩) (.ok ⟨b, out, i⟩)
  | _, _ => .no
theorem sel_rj_ok : ∀ vals blks s, (sel_rj vals blks).all (fun x => x = s) → E_rj s ∧ vals = A_rj s ∧ blks = B_rj s := by
  intro vals blks s h
  unfold sel_rj at h
  split at h
  · obtain ⟨h1, rfl⟩ := h
    exact ⟨h1, rfl, rfl⟩
  · cases h
def run_rj (s : L_rj) : L_rj := { (runW f_rj (mu_rj s + 1) s).2 with b := s.b }
theorem run_rj_eq (s : L_rj) : (runW f_rj (mu_rj s + 1) s).2 = run_rj s := by
  have hk := runW_keep (f := f_rj) P_rj (fun s s' hf => by
    unfold f_rj at hf
    repeat' split at hf
    all_goals cases hf
    all_goals rfl) (fun s x s' hf => by
    unfold f_rj at hf
    repeat' split at hf
    all_goals cases hf
    all_goals rfl) (mu_rj s + 1) s
  unfold run_rj
  generalize (runW f_rj (mu_rj s + 1) s).2 = r at *
  cases r
  simp only [P_rj, Prod.mk.injEq, true_and] at hk
  simp only [L_rj.mk.injEq, hk, and_self]
def exn_rj (s : L_rj) : Ex := (runW f_rj (mu_rj s + 1) s).1
def out_rj (s : L_rj) : T (Ex × List LV × List Blk) := .ok (.exit 0, frameOf 35 [1, 6, 7] (A_rj (run_rj s)), B_rj (run_rj s))
theorem nfl_rj (s : L_rj) : backT [1, 6, 7] [.pb 6 tV] (codex Try.prog noGlobs (specsOf [(24, S_rvo), (43, S_rput)]) noK noLoops body_rj (frameOf 35 [1, 6, 7] (A_rj s)) (B_rj s)) = .br (decide (s.i < (List.length s.b : Int))) (.req (0 ≤ s.i ∧ s.i < (List.length s.b : Int)) (.req ((List.length s.out : Int) ≤ 1000) (.ok (⟨.normal, 35, [.xl tV s.b, .xl tV (putF s.out ((gV s.b s.i).1, (gV s.b s.i).2)), .v (.int .i64 (IntKind.i64.wrap (s.i + 1)))], [], true⟩)))) (.ok (⟨.exit 0, 35, [.xl tV s.b, .xl tV s.out, .v (.int .i64 s.i)], [], true⟩)) := by kernel_rfl
theorem stp_rj (s : L_rj) (hI : I_rj s) : AllT (fun v => v = rdV 35 A_rj B_rj (f_rj s)) (backT [1, 6, 7] [.pb 6 tV] (codex Try.prog noGlobs (specsOf [(24, S_rvo), (43, S_rput)]) noK noLoops body_rj (frameOf 35 [1, 6, 7] (A_rj s)) (B_rj s))) := by
  constructor
  rw [nfl_rj]
  unfold f_rj
  exact
    stp_br (fun c1 =>
      ⟨by (obtain ⟨h1, h2, h3, h4⟩ := hI; (try simp only [decide_eq_true_eq] at c1); omega),
        ⟨by (obtain ⟨h1, h2, h3, h4⟩ := hI; (try simp only [decide_eq_true_eq] at c1); omega),
          rfl⟩⟩) (fun c1 =>
      rfl)
theorem rj_end (s : L_rj) (hE : E_rj s) : ∃ s', I_rj s' ∧ f_rj s' = .stop (exn_rj s) (run_rj s) := by rw [← run_rj_eq]; exact runW_stop rj_d (mu_rj s + 1) s (rj_E s hE) (Nat.lt_succ_self _)
theorem rj_same : ∀ s x s', f_rj s = .stop x s' → s = s' := by
  intro s x s' h
  unfold f_rj at h
  repeat' split at h
  all_goals first | (cases h; done) | (cases h; rfl)
theorem rj_inv (s : L_rj) (hE : E_rj s) : I_rj (run_rj s) ∧ f_rj (run_rj s) = .stop (exn_rj s) (run_rj s) := by
  obtain ⟨s', hI, hf⟩ := rj_end s hE
  have hs := rj_same _ _ _ hf
  subst hs
  exact ⟨hI, hf⟩
theorem snd_rj : Sound Try.prog noGlobs (.loop body_rj) (loopT 35 [1, 6, 7] [.pb 6 tV] sel_rj out_rj) :=
  loop_view 35 [1, 6, 7] [.pb 6 tV] A_rj B_rj I_rj E_rj mu_rj f_rj sel_rj out_rj (code_sound (Γ := specsOf [(24, S_rvo), (43, S_rput)]) (K := noK) (L := noLoops) (specs_ok (l := [(24, S_rvo), (43, S_rput)]) ⟨v_rvo, v_rput, trivial⟩) noK_sound body_rj (fun b hb => by rw [show loopsIn body_rj = [] by kernel_rfl] at hb; cases hb))
    sel_rj_ok rj_E rj_d (fun s x s' hf => by have := rj_ex s x s' hf; intro h0; subst h0; simp at this) stp_rj (fun s hE => by
      obtain ⟨s', _, h2⟩ := rj_end s hE
      have h3 : exn_rj s = .exit 0 := rj_ex _ _ _ h2
      unfold out_rj
      rw [run_rj_eq]
      simp only [T.all, ← h3]
      rfl)
theorem rj_fin (s : L_rj) (hE : E_rj s) : ∃ s', I_rj s' ∧ Q_rj (exn_rj s) s' (run_rj s) := by
  obtain ⟨s', hI, hf⟩ := rj_end s hE
  exact ⟨s', hI, allR_stop (rj_da s' hI) hf⟩
theorem rj_run : ∀ (k : Nat) (s : L_rj), 0 ≤ s.i → s.i ≤ s.b.length → (s.b.length : Int) ≤ 64 → mu_rj s < k → (runW f_rj k s).2.out = rjF s.out (s.b.drop s.i.toNat)
  | 0, s, _, _, _, h => by omega
  | k + 1, s, h1, h2, h3, h => by
    simp only [runW]
    by_cases c : s.i < s.b.length
    · have hf : f_rj s = .next { s with out := putF s.out (gV s.b s.i), i := s.i + 1 } := by
        unfold f_rj
        rw [if_pos (by simpa using c), wrapS (x := s.i + 1) (by omega) (by omega)]
      rw [hf]
      simp only
      rw [rj_run k { s with out := putF s.out (gV s.b s.i), i := s.i + 1 } (by simp only; omega) (by simp only; omega) h3 (by simp only [mu_rj] at *; omega), (gV_step h1 c).1]
      rfl
    · have hf : f_rj s = .stop (.exit 0) s := by
        unfold f_rj
        rw [if_neg (by simpa using c)]
      rw [hf]
      simp only
      rw [List.drop_eq_nil_of_le (by omega)]
      rfl
def S0_rjoin : List LV → T LV
  | [.xl (.pair (.int .i64) (.int .i64)) a, .xl (.pair (.int .i64) (.int .i64)) b] => .req ((List.length a : Int) ≤ 1000 ∧ (List.length b : Int) ≤ 1000) (.ok (.tup [.xl tV (rjL a b), .v (.int .i64 (rjE a b))]))
  | _ => .no
noncomputable def S_rjoin : List LV → T LV := upS Try.prog Try.f15.params.toList S0_rjoin
theorem nf_rjoin (a b : List (Int × Int)) : funu Try.prog noGlobs (specsOf [(24, S_rvo), (43, S_rput)]) noK (fun i => if i = 5 then loopT 35 [1, 6, 7] [.pb 6 tV] sel_rj out_rj else noLoops i) Try.f15 [.xl tV a, .xl tV b] = .req ((List.length a : Int) ≤ 1000) (.br (!(vlV a)) (.ok (.tup [.xl tV ([] : List (Int × Int)), .v (.int .i64 1)])) (.req ((List.length b : Int) ≤ 1000) (.br (!(vlV b)) (.ok (.tup [.xl tV ([] : List (Int × Int)), .v (.int .i64 1)])) (.req (0 + 0 = List.length ([] : List (Int × Int)) ∧ ((0 + List.length a : Nat) : Int) * 16 ≤ 2 ^ 47 ∧ ((0 + List.length a : Nat) : Int) < 2 ^ 62) (.req (0 + (0 + List.length a) ≤ List.length (([] : List (Int × Int)) ++ a)) (.req (E_rj (⟨b, (((([] : List (Int × Int)) ++ a).drop 0).take (0 + List.length a)), (0 : Int)⟩ : L_rj)) (.br (decide ((List.length (run_rj (⟨b, (((([] : List (Int × Int)) ++ a).drop 0).take (0 + List.length a)), (0 : Int)⟩ : L_rj)).out : Int) > 64)) (.ok (.tup [.xl tV ([] : List (Int × Int)), .v (.int .i64 2)])) (.ok (.tup [.xl tV (run_rj (⟨b, (((([] : List (Int × Int)) ++ a).drop 0).take (0 + List.length a)), (0 : Int)⟩ : L_rj)).out, .v (.int .i64 0)]))))))))) := by kernel_rfl
theorem v_rjoin : Valid Try.prog noGlobs 15 S_rjoin := valid_ofu Try.func15 rfl (specs_ok (l := [(24, S_rvo), (43, S_rput)]) ⟨v_rvo, v_rput, trivial⟩) noK_sound (L := (fun i => if i = 5 then loopT 35 [1, 6, 7] [.pb 6 tV] sel_rj out_rj else noLoops i)) (fun b hb => by
  rw [show loopsIn _ = [body_rj] by kernel_rfl] at hb
  simp only [List.mem_cons, List.not_mem_nil, or_false] at hb
  subst hb
  exact snd_rj) (fun args lv h => by
  unfold S0_rjoin at h
  split at h
  · simp only [canL, canX]
    rw [nf_rjoin]
    rename_i a b
    obtain ⟨⟨ha, hb⟩, h⟩ := h
    have h := rj_of (K := fun x y => LV.tup [.xl tV x, .v (.int .i64 y)] = lv) h
    refine ⟨ha, fun c1 => h.2 (by simp at c1; simp [c1]), fun c1 => ⟨hb, fun c2 => h.2 (by simp at c2; simp [c2]), fun c2 => ?_⟩⟩
    have c1 : vlV a = true := by simpa using c1
    have c2 : vlV b = true := by simpa using c2
    have h := h.1 (by simp [c1, c2])
    have l1 : (a.length : Int) ≤ 64 := by simp [vlV] at c1; omega
    have l2 : (b.length : Int) ≤ 64 := by simp [vlV] at c2; omega
    have ea : (([] ++ a : List Vd).drop 0).take (0 + List.length a) = a := by simp
    rw [ea]
    have hE : E_rj ⟨b, a, (0 : Int)⟩ := ⟨rfl, l1, l2⟩
    have hr := rj_run (mu_rj ⟨b, a, (0 : Int)⟩ + 1) ⟨b, a, (0 : Int)⟩ (Int.le_refl _) (by simp only; omega) l2 (Nat.lt_succ_self _)
    rw [run_rj_eq] at hr
    have hr : (run_rj ⟨b, a, (0 : Int)⟩).out = rjF a b := hr
    rw [hr]
    exact ⟨⟨rfl, by omega, by omega⟩, by simp, hE, h⟩
  · cases h)
end Go.Proofs.Ytcpadfehoaopaaa
