/- Late: what it computes, by the executor. -/
import Derived.Test.YtcpadfehoaopaaaBi
namespace Go.Proofs.Ytcpadfehoaopaaa
open Go.Sx
structure L_lt where
  epoch : Int
  old : List (Int × Int)
  voids : List (Int × Int)
  l : List (Int × (Int × (Int × Int)))
  n : Int
  i : Int
  out : List Int
def A_lt (s : L_lt) : List LV := [.v (.int .i64 s.epoch), .xl tV s.old, .xl tV s.voids, .os 0 1 0 (List.length s.out), .xl tC s.l, .v (.int .i64 s.n), .v (.int .i64 s.i)]
def B_lt (s : L_lt) : List Blk := [⟨[], 3, .vec (.int .i64) s.out, false⟩]
noncomputable def body_lt : Code := ((loopsIn (Try.f16.body.getD .skip))[0]?).getD .skip
def f_lt (s : L_lt) : Rd L_lt :=
  if (decide (s.i < s.n)) then
    if (inB s.epoch (gC s.l s.i).2.2.1 (gC s.l s.i).2.2.2) then
      if (!(rvB s.old (gC s.l s.i).1 s.epoch)) then
        if (rvB s.voids (gC s.l s.i).1 s.epoch) then
          .next { s with i := (IntKind.i64.wrap (s.i + 1)), out := (s.out ++ ([(gC s.l s.i).1])) }
        else
          .next { s with i := (IntKind.i64.wrap (s.i + 1)) }
      else
        .next { s with i := (IntKind.i64.wrap (s.i + 1)) }
    else
      .next { s with i := (IntKind.i64.wrap (s.i + 1)) }
  else
    .stop (.exit 0) s
def P_lt (s : L_lt) := ((), s.epoch, s.old, s.voids, s.l, s.n)
theorem lt_ex : ∀ s x s', f_lt s = .stop x s' → x = .exit 0 := by
  intro s x s' h
  unfold f_lt at h
  repeat' split at h
  all_goals first | (cases h; done) | (cases h; rfl) | (cases h; simp)
def E_lt (s : L_lt) : Prop := s.i = 0 ∧ s.out = [] ∧ ckV 0 s.old = true ∧ ckV 0 s.voids = true ∧ (s.old.length : Int) ≤ 1000 ∧ (s.voids.length : Int) ≤ 1000 ∧ s.n = s.l.length ∧ s.n ≤ 1000
def I_lt (s : L_lt) : Prop := (0 ≤ s.i ∧ s.i ≤ s.n) ∧ s.out = ltL (s.l.take s.i.toNat) s.old s.voids s.epoch ∧ ckV 0 s.old = true ∧ ckV 0 s.voids = true ∧ (s.old.length : Int) ≤ 1000 ∧ (s.voids.length : Int) ≤ 1000 ∧ s.n = s.l.length ∧ s.n ≤ 1000
def mu_lt (s : L_lt) : Nat := (s.n - s.i).toNat
def Q_lt (x : Ex) (s s' : L_lt) : Prop := x = .exit 0 ∧ s'.out = ltL s'.l s'.old s'.voids s'.epoch
theorem lt_E : ∀ s, E_lt s → I_lt s := by
  intro s h
  obtain ⟨h0, h1, h2, h3, h4, h5, h6, h7⟩ := h
  exact ⟨⟨by omega, by omega⟩, by rw [h0, h1]; rfl, h2, h3, h4, h5, h6, h7⟩
theorem lt_da (s : L_lt) (hI : I_lt s) : allR (fun s' => I_lt s' ∧ mu_lt s' < mu_lt s) (fun x s' => Q_lt x s s') (f_lt s) := by
  unfold f_lt
  obtain ⟨⟨hi0, hi1⟩, ho, r1, r2, r3, r4, r5, r6⟩ := hI
  refine allR_ite (fun c1 => ?_) (fun c1 => ?_)
  · refine allR_ite (fun c2 => ?_) (fun c2 => ?_)
    · refine allR_ite (fun c3 => ?_) (fun c3 => ?_)
      · refine allR_ite (fun c4 => ?_) (fun c4 => ?_)
        · have c1 : s.i < s.n := by simpa using c1
          have hs := (gC_step hi0 (show s.i < s.l.length by omega)).2
          rw [wrapS (x := s.i + 1) (by omega) (by omega)]
          refine ⟨⟨⟨by simp only; omega, by simp only; omega⟩, ?_, r1, r2, r3, r4, r5, r6⟩, by simp only [mu_lt]; omega⟩
          simp only
          rw [hs, ho]
          unfold ltL
          rw [List.filter_append, List.map_append]
          simp only [List.filter_cons, List.filter_nil]
          (try simp only [Bool.not_eq_true', Bool.not_eq_false'] at *)
          simp [c2, c3, c4]
        · have c1 : s.i < s.n := by simpa using c1
          have hs := (gC_step hi0 (show s.i < s.l.length by omega)).2
          rw [wrapS (x := s.i + 1) (by omega) (by omega)]
          refine ⟨⟨⟨by simp only; omega, by simp only; omega⟩, ?_, r1, r2, r3, r4, r5, r6⟩, by simp only [mu_lt]; omega⟩
          simp only
          rw [hs, ho]
          unfold ltL
          rw [List.filter_append, List.map_append]
          simp only [List.filter_cons, List.filter_nil]
          (try simp only [Bool.not_eq_true', Bool.not_eq_false'] at *)
          simp [c2, c3, c4]
      · have c1 : s.i < s.n := by simpa using c1
        have hs := (gC_step hi0 (show s.i < s.l.length by omega)).2
        rw [wrapS (x := s.i + 1) (by omega) (by omega)]
        refine ⟨⟨⟨by simp only; omega, by simp only; omega⟩, ?_, r1, r2, r3, r4, r5, r6⟩, by simp only [mu_lt]; omega⟩
        simp only
        rw [hs, ho]
        unfold ltL
        rw [List.filter_append, List.map_append]
        simp only [List.filter_cons, List.filter_nil]
        (try simp only [Bool.not_eq_true', Bool.not_eq_false'] at *)
        simp [c2, c3]
    · have c1 : s.i < s.n := by simpa using c1
      have hs := (gC_step hi0 (show s.i < s.l.length by omega)).2
      rw [wrapS (x := s.i + 1) (by omega) (by omega)]
      refine ⟨⟨⟨by simp only; omega, by simp only; omega⟩, ?_, r1, r2, r3, r4, r5, r6⟩, by simp only [mu_lt]; omega⟩
      simp only
      rw [hs, ho]
      unfold ltL
      rw [List.filter_append, List.map_append]
      simp only [List.filter_cons, List.filter_nil]
      (try simp only [Bool.not_eq_true', Bool.not_eq_false'] at *)
      simp [c2]
  · have c1 : s.n ≤ s.i := by simpa using c1
    exact ⟨rfl, by rw [ho, List.take_of_length_le (by omega)]⟩
theorem lt_d : ∀ s s', I_lt s → f_lt s = .next s' → I_lt s' ∧ mu_lt s' < mu_lt s := fun s s' hI h => allR_next (lt_da s hI) h
def sel_lt : List LV → List Blk → T L_lt
  | [.v (.int .i64 epoch), .xl (.pair (.int .i64) (.int .i64)) old, .xl (.pair (.int .i64) (.int .i64)) voids, .os 0 1 0 w3_, .xl (.pair (.int .i64) (.pair (.int .i64) (.pair (.int .i64) (.int .i64)))) l, .v (.int .i64 n), .v (.int .i64 i)], [⟨[], 3, .vec (.int .i64) out, false⟩] => .req (E_lt ⟨epoch, old, voids, l, n, i, out⟩ ∧ w3_ = List.length out) (.ok ⟨epoch, old, voids, l, n, i, out⟩)
  | _, _ => .no
theorem sel_lt_ok : ∀ vals blks s, (sel_lt vals blks).all (fun x => x = s) → E_lt s ∧ vals = A_lt s ∧ blks = B_lt s := by
  intro vals blks s h
  unfold sel_lt at h
  split at h
  · obtain ⟨⟨h1, rfl⟩, rfl⟩ := h
    exact ⟨h1, rfl, rfl⟩
  · cases h
def run_lt (s : L_lt) : L_lt := { (runW f_lt (mu_lt s + 1) s).2 with epoch := s.epoch, old := s.old, voids := s.voids, l := s.l, n := s.n }
theorem run_lt_eq (s : L_lt) : (runW f_lt (mu_lt s + 1) s).2 = run_lt s := by
  have hk := runW_keep (f := f_lt) P_lt (fun s s' hf => by
    unfold f_lt at hf
    repeat' split at hf
    all_goals cases hf
    all_goals rfl) (fun s x s' hf => by
    unfold f_lt at hf
    repeat' split at hf
    all_goals cases hf
    all_goals rfl) (mu_lt s + 1) s
  unfold run_lt
  generalize (runW f_lt (mu_lt s + 1) s).2 = r at *
  cases r
  simp only [P_lt, Prod.mk.injEq, true_and] at hk
  simp only [L_lt.mk.injEq, hk, and_self]
def exn_lt (s : L_lt) : Ex := (runW f_lt (mu_lt s + 1) s).1
def out_lt (s : L_lt) : T (Ex × List LV × List Blk) := .ok (.exit 0, frameOf 71 [3, 11, 12, 13, 40, 41, 42] (A_lt (run_lt s)), B_lt (run_lt s))
theorem nfl_lt (s : L_lt) : backT [3, 11, 12, 13, 40, 41, 42] [.nl 13 3 (.int .i64)] (codex Try.prog noGlobs (specsOf [(26, S_csOf), (27, S_vsOf), (28, S_vlc), (29, S_vlv), (31, S_isEp), (33, S_cIn), (34, S_rvk)]) noK noLoops body_lt (frameOf 71 [3, 11, 12, 13, 40, 41, 42] (A_lt s)) (B_lt s)) = .br (decide (s.i < s.n)) (.req (0 ≤ s.i ∧ s.i < (List.length s.l : Int)) (.br (inB s.epoch (gC s.l s.i).2.2.1 (gC s.l s.i).2.2.2) (.req (ckV 0 s.old = true ∧ (List.length s.old : Int) ≤ 1000) (.br (!(rvB s.old (gC s.l s.i).1 s.epoch)) (.req (ckV 0 s.voids = true ∧ (List.length s.voids : Int) ≤ 1000) (.br (rvB s.voids (gC s.l s.i).1 s.epoch) (.req (0 + (List.length s.out) = List.length s.out ∧ ((List.length s.out + List.length ([(gC s.l s.i).1]) : Nat) : Int) * 8 ≤ 2 ^ 47 ∧ ((List.length s.out + List.length ([(gC s.l s.i).1]) : Nat) : Int) < 2 ^ 62) (.req (0 = 0 ∧ (List.length s.out + List.length ([(gC s.l s.i).1])) = List.length (s.out ++ ([(gC s.l s.i).1]))) (.ok (⟨.normal, 71, [.v (.int .i64 s.epoch), .xl tV s.old, .xl tV s.voids, .os 0 1 0 (List.length (s.out ++ ([(gC s.l s.i).1]))), .xl tC s.l, .v (.int .i64 s.n), .v (.int .i64 (IntKind.i64.wrap (s.i + 1)))], [⟨[], 3, .vec (.int .i64) (s.out ++ ([(gC s.l s.i).1])), false⟩], true⟩)))) (.req (0 = 0 ∧ (List.length s.out) = List.length s.out) (.ok (⟨.normal, 71, [.v (.int .i64 s.epoch), .xl tV s.old, .xl tV s.voids, .os 0 1 0 (List.length s.out), .xl tC s.l, .v (.int .i64 s.n), .v (.int .i64 (IntKind.i64.wrap (s.i + 1)))], [⟨[], 3, .vec (.int .i64) s.out, false⟩], true⟩))))) (.req (0 = 0 ∧ (List.length s.out) = List.length s.out) (.ok (⟨.normal, 71, [.v (.int .i64 s.epoch), .xl tV s.old, .xl tV s.voids, .os 0 1 0 (List.length s.out), .xl tC s.l, .v (.int .i64 s.n), .v (.int .i64 (IntKind.i64.wrap (s.i + 1)))], [⟨[], 3, .vec (.int .i64) s.out, false⟩], true⟩))))) (.req (0 = 0 ∧ (List.length s.out) = List.length s.out) (.ok (⟨.normal, 71, [.v (.int .i64 s.epoch), .xl tV s.old, .xl tV s.voids, .os 0 1 0 (List.length s.out), .xl tC s.l, .v (.int .i64 s.n), .v (.int .i64 (IntKind.i64.wrap (s.i + 1)))], [⟨[], 3, .vec (.int .i64) s.out, false⟩], true⟩))))) (.req (0 = 0 ∧ (List.length s.out) = List.length s.out) (.ok (⟨.exit 0, 71, [.v (.int .i64 s.epoch), .xl tV s.old, .xl tV s.voids, .os 0 1 0 (List.length s.out), .xl tC s.l, .v (.int .i64 s.n), .v (.int .i64 s.i)], [⟨[], 3, .vec (.int .i64) s.out, false⟩], true⟩))) := by kernel_rfl
theorem stp_lt (s : L_lt) (hI : I_lt s) : AllT (fun v => v = rdV 71 A_lt B_lt (f_lt s)) (backT [3, 11, 12, 13, 40, 41, 42] [.nl 13 3 (.int .i64)] (codex Try.prog noGlobs (specsOf [(26, S_csOf), (27, S_vsOf), (28, S_vlc), (29, S_vlv), (31, S_isEp), (33, S_cIn), (34, S_rvk)]) noK noLoops body_lt (frameOf 71 [3, 11, 12, 13, 40, 41, 42] (A_lt s)) (B_lt s))) := by
  constructor
  rw [nfl_lt]
  unfold f_lt
  exact
    stp_br (fun c1 =>
      ⟨by (obtain ⟨⟨hi0, hi1⟩, ho, r1, r2, r3, r4, r5, r6⟩ := hI; have hol : s.out.length ≤ s.i.toNat := (by rw [ho]; unfold ltL; rw [List.length_map]; exact Nat.le_trans (List.length_filter_le _ _) (by rw [List.length_take]; omega)); (try simp only [decide_eq_true_eq] at c1); first | exact ⟨r1, r3⟩ | exact ⟨r2, r4⟩ | omega | (refine ⟨by omega, ?_, ?_⟩ <;> simp only [List.length_cons, List.length_nil] <;> omega) | exact ⟨rfl, by simp⟩),
        stp_br (fun c2 =>
          ⟨by (obtain ⟨⟨hi0, hi1⟩, ho, r1, r2, r3, r4, r5, r6⟩ := hI; have hol : s.out.length ≤ s.i.toNat := (by rw [ho]; unfold ltL; rw [List.length_map]; exact Nat.le_trans (List.length_filter_le _ _) (by rw [List.length_take]; omega)); (try simp only [decide_eq_true_eq] at c1); first | exact ⟨r1, r3⟩ | exact ⟨r2, r4⟩ | omega | (refine ⟨by omega, ?_, ?_⟩ <;> simp only [List.length_cons, List.length_nil] <;> omega) | exact ⟨rfl, by simp⟩),
            stp_br (fun c3 =>
              ⟨by (obtain ⟨⟨hi0, hi1⟩, ho, r1, r2, r3, r4, r5, r6⟩ := hI; have hol : s.out.length ≤ s.i.toNat := (by rw [ho]; unfold ltL; rw [List.length_map]; exact Nat.le_trans (List.length_filter_le _ _) (by rw [List.length_take]; omega)); (try simp only [decide_eq_true_eq] at c1); first | exact ⟨r1, r3⟩ | exact ⟨r2, r4⟩ | omega | (refine ⟨by omega, ?_, ?_⟩ <;> simp only [List.length_cons, List.length_nil] <;> omega) | exact ⟨rfl, by simp⟩),
                stp_br (fun c4 =>
                  ⟨by (obtain ⟨⟨hi0, hi1⟩, ho, r1, r2, r3, r4, r5, r6⟩ := hI; have hol : s.out.length ≤ s.i.toNat := (by rw [ho]; unfold ltL; rw [List.length_map]; exact Nat.le_trans (List.length_filter_le _ _) (by rw [List.length_take]; omega)); (try simp only [decide_eq_true_eq] at c1); first | exact ⟨r1, r3⟩ | exact ⟨r2, r4⟩ | omega | (refine ⟨by omega, ?_, ?_⟩ <;> simp only [List.length_cons, List.length_nil] <;> omega) | exact ⟨rfl, by simp⟩),
                    ⟨by (obtain ⟨⟨hi0, hi1⟩, ho, r1, r2, r3, r4, r5, r6⟩ := hI; have hol : s.out.length ≤ s.i.toNat := (by rw [ho]; unfold ltL; rw [List.length_map]; exact Nat.le_trans (List.length_filter_le _ _) (by rw [List.length_take]; omega)); (try simp only [decide_eq_true_eq] at c1); first | exact ⟨r1, r3⟩ | exact ⟨r2, r4⟩ | omega | (refine ⟨by omega, ?_, ?_⟩ <;> simp only [List.length_cons, List.length_nil] <;> omega) | exact ⟨rfl, by simp⟩),
                      rfl⟩⟩) (fun c4 =>
                  ⟨by (obtain ⟨⟨hi0, hi1⟩, ho, r1, r2, r3, r4, r5, r6⟩ := hI; have hol : s.out.length ≤ s.i.toNat := (by rw [ho]; unfold ltL; rw [List.length_map]; exact Nat.le_trans (List.length_filter_le _ _) (by rw [List.length_take]; omega)); (try simp only [decide_eq_true_eq] at c1); first | exact ⟨r1, r3⟩ | exact ⟨r2, r4⟩ | omega | (refine ⟨by omega, ?_, ?_⟩ <;> simp only [List.length_cons, List.length_nil] <;> omega) | exact ⟨rfl, by simp⟩),
                    rfl⟩)⟩) (fun c3 =>
              ⟨by (obtain ⟨⟨hi0, hi1⟩, ho, r1, r2, r3, r4, r5, r6⟩ := hI; have hol : s.out.length ≤ s.i.toNat := (by rw [ho]; unfold ltL; rw [List.length_map]; exact Nat.le_trans (List.length_filter_le _ _) (by rw [List.length_take]; omega)); (try simp only [decide_eq_true_eq] at c1); first | exact ⟨r1, r3⟩ | exact ⟨r2, r4⟩ | omega | (refine ⟨by omega, ?_, ?_⟩ <;> simp only [List.length_cons, List.length_nil] <;> omega) | exact ⟨rfl, by simp⟩),
                rfl⟩)⟩) (fun c2 =>
          ⟨by (obtain ⟨⟨hi0, hi1⟩, ho, r1, r2, r3, r4, r5, r6⟩ := hI; have hol : s.out.length ≤ s.i.toNat := (by rw [ho]; unfold ltL; rw [List.length_map]; exact Nat.le_trans (List.length_filter_le _ _) (by rw [List.length_take]; omega)); (try simp only [decide_eq_true_eq] at c1); first | exact ⟨r1, r3⟩ | exact ⟨r2, r4⟩ | omega | (refine ⟨by omega, ?_, ?_⟩ <;> simp only [List.length_cons, List.length_nil] <;> omega) | exact ⟨rfl, by simp⟩),
            rfl⟩)⟩) (fun c1 =>
      ⟨by (obtain ⟨⟨hi0, hi1⟩, ho, r1, r2, r3, r4, r5, r6⟩ := hI; have hol : s.out.length ≤ s.i.toNat := (by rw [ho]; unfold ltL; rw [List.length_map]; exact Nat.le_trans (List.length_filter_le _ _) (by rw [List.length_take]; omega)); (try simp only [decide_eq_true_eq] at c1); first | exact ⟨r1, r3⟩ | exact ⟨r2, r4⟩ | omega | (refine ⟨by omega, ?_, ?_⟩ <;> simp only [List.length_cons, List.length_nil] <;> omega) | exact ⟨rfl, by simp⟩),
        rfl⟩)
theorem lt_end (s : L_lt) (hE : E_lt s) : ∃ s', I_lt s' ∧ f_lt s' = .stop (exn_lt s) (run_lt s) := by rw [← run_lt_eq]; exact runW_stop lt_d (mu_lt s + 1) s (lt_E s hE) (Nat.lt_succ_self _)
theorem lt_same : ∀ s x s', f_lt s = .stop x s' → s = s' := by
  intro s x s' h
  unfold f_lt at h
  repeat' split at h
  all_goals first | (cases h; done) | (cases h; rfl)
theorem lt_inv (s : L_lt) (hE : E_lt s) : I_lt (run_lt s) ∧ f_lt (run_lt s) = .stop (exn_lt s) (run_lt s) := by
  obtain ⟨s', hI, hf⟩ := lt_end s hE
  have hs := lt_same _ _ _ hf
  subst hs
  exact ⟨hI, hf⟩
theorem snd_lt : Sound Try.prog noGlobs (.loop body_lt) (loopT 71 [3, 11, 12, 13, 40, 41, 42] [.nl 13 3 (.int .i64)] sel_lt out_lt) :=
  loop_view 71 [3, 11, 12, 13, 40, 41, 42] [.nl 13 3 (.int .i64)] A_lt B_lt I_lt E_lt mu_lt f_lt sel_lt out_lt (code_sound (Γ := specsOf [(26, S_csOf), (27, S_vsOf), (28, S_vlc), (29, S_vlv), (31, S_isEp), (33, S_cIn), (34, S_rvk)]) (K := noK) (L := noLoops) (specs_ok (l := [(26, S_csOf), (27, S_vsOf), (28, S_vlc), (29, S_vlv), (31, S_isEp), (33, S_cIn), (34, S_rvk)]) ⟨v_csOf, v_vsOf, v_vlc, v_vlv, v_isEp, v_cIn, v_rvk, trivial⟩) noK_sound body_lt (fun b hb => by rw [show loopsIn body_lt = [] by kernel_rfl] at hb; cases hb))
    sel_lt_ok lt_E lt_d (fun s x s' hf => by have := lt_ex s x s' hf; intro h0; subst h0; simp at this) stp_lt (fun s hE => by
      obtain ⟨s', _, h2⟩ := lt_end s hE
      have h3 : exn_lt s = .exit 0 := lt_ex _ _ _ h2
      unfold out_lt
      rw [run_lt_eq]
      simp only [T.all, ← h3]
      rfl)
theorem lt_fin (s : L_lt) (hE : E_lt s) : ∃ s', I_lt s' ∧ Q_lt (exn_lt s) s' (run_lt s) := by
  obtain ⟨s', hI, hf⟩ := lt_end s hE
  exact ⟨s', hI, allR_stop (lt_da s' hI) hf⟩
def S0_late : List LV → T LV
  | [.xl (.pair (.int .i64) (.pair (.int .i64) (.pair (.int .i64) (.int .i64)))) l, .xl (.pair (.int .i64) (.int .i64)) o, .xl (.pair (.int .i64) (.int .i64)) v, .v (.int .i64 e)] => .req ((List.length l : Int) ≤ 1000 ∧ (List.length o : Int) ≤ 1000 ∧ (List.length v : Int) ≤ 1000) (.ok (.tup [.xl (.int .i64) (ltM l o v e), .v (.int .i64 (ltE l o v e))]))
  | _ => .no
noncomputable def S_late : List LV → T LV := upS Try.prog Try.f16.params.toList S0_late
theorem nf_late (l : List (Int × (Int × (Int × Int)))) (o v : List (Int × Int)) (e : Int) : funu Try.prog noGlobs (specsOf [(26, S_csOf), (27, S_vsOf), (28, S_vlc), (29, S_vlv), (31, S_isEp), (33, S_cIn), (34, S_rvk)]) noK (fun i => if i = 6 then loopT 71 [3, 11, 12, 13, 40, 41, 42] [.nl 13 3 (.int .i64)] sel_lt out_lt else noLoops i) Try.f16 [.xl tC l, .xl tV o, .xl tV v, .v (.int .i64 e)] = .req ((List.length l : Int) ≤ 1000) (.req ((List.length o : Int) ≤ 1000) (.req ((List.length v : Int) ≤ 1000) (.br ((!(vlC l)) || ((!(vlV o)) || ((!(vlV v)) || (!(inB e 0 1000000))))) (.ok (.tup [.xl (.int .i64) ([] : List Int), .v (.int .i64 1)])) (.req (0 = 0 ∧ 0 = List.length ([] : List Int)) (.req (E_lt (⟨e, o, v, l, (List.length l : Int), (0 : Int), ([] : List Int)⟩ : L_lt) ∧ (List.length ([] : List Int)) = List.length ([] : List Int)) (.req (0 + (List.length (run_lt (⟨e, o, v, l, (List.length l : Int), (0 : Int), ([] : List Int)⟩ : L_lt)).out) ≤ List.length (run_lt (⟨e, o, v, l, (List.length l : Int), (0 : Int), ([] : List Int)⟩ : L_lt)).out) (.ok (.tup [.xl (.int .i64) (((run_lt (⟨e, o, v, l, (List.length l : Int), (0 : Int), ([] : List Int)⟩ : L_lt)).out.drop 0).take (List.length (run_lt (⟨e, o, v, l, (List.length l : Int), (0 : Int), ([] : List Int)⟩ : L_lt)).out)), .v (.int .i64 0)])))))))) := by kernel_rfl
theorem v_late : Valid Try.prog noGlobs 16 S_late := valid_ofu Try.func16 rfl (specs_ok (l := [(26, S_csOf), (27, S_vsOf), (28, S_vlc), (29, S_vlv), (31, S_isEp), (33, S_cIn), (34, S_rvk)]) ⟨v_csOf, v_vsOf, v_vlc, v_vlv, v_isEp, v_cIn, v_rvk, trivial⟩) noK_sound (L := (fun i => if i = 6 then loopT 71 [3, 11, 12, 13, 40, 41, 42] [.nl 13 3 (.int .i64)] sel_lt out_lt else noLoops i)) (fun b hb => by
  rw [show loopsIn _ = [body_lt] by kernel_rfl] at hb
  simp only [List.mem_cons, List.not_mem_nil, or_false] at hb
  subst hb
  exact snd_lt) (fun args lv h => by
  unfold S0_late at h
  split at h
  · simp only [canL, canX]
    rw [nf_late]
    rename_i l o v e
    obtain ⟨⟨h1, h2, h3⟩, h⟩ := h
    have h := lt_of (K := fun x y => LV.tup [.xl (.int .i64) x, .v (.int .i64 y)] = lv) h
    have e0 : ((!(vlC l)) || ((!(vlV o)) || ((!(vlV v)) || (!(inB e 0 1000000))))) = !(vlC l && (vlV o && (vlV v && inB e 0 1000000))) := by simp
    rw [e0]
    refine ⟨h1, h2, h3, fun c1 => h.2 (by simpa only [Bool.not_eq_true'] using c1), fun c1 => ?_⟩
    have c1 : (vlC l && (vlV o && (vlV v && inB e 0 1000000))) = true := by simpa only [Bool.not_eq_false'] using c1
    have h := h.1 c1
    simp only [Bool.and_eq_true] at c1
    have vv : ∀ {x : List Vd}, vlV x = true → ckV 0 x = true := fun h => by simp [vlV] at h; exact h.2
    have hE : E_lt ⟨e, o, v, l, (List.length l : Int), (0 : Int), []⟩ := ⟨rfl, rfl, vv c1.2.1, vv c1.2.2.1, h2, h3, rfl, h1⟩
    obtain ⟨s', _, q1, q2⟩ := lt_fin _ hE
    have q2 : (run_lt ⟨e, o, v, l, (List.length l : Int), (0 : Int), []⟩).out = ltL l o v e := q2
    refine ⟨⟨rfl, rfl⟩, ⟨hE, rfl⟩, by simp, ?_⟩
    rw [q2, List.drop_zero, List.take_length]
    exact h
  · cases h)
end Go.Proofs.Ytcpadfehoaopaaa
