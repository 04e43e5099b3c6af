/- References and examples: what they compute, by the executor. -/
import Derived.Test.YtcpadfehoaopaaaBn
namespace Go.Proofs.Ytcpadfehoaopaaa
open Go.Sx
theorem vlC_ck {l : List Crd} (h : vlC l = true) : ckC 0 l = true := by simp [vlC] at h; exact h.2
theorem vlV_ck {l : List Vd} (h : vlV l = true) : ckV 0 l = true := by simp [vlV] at h; exact h.2
def S0_racc : List LV → T LV
  | [.xl (.pair (.int .i64) (.pair (.int .i64) (.pair (.int .i64) (.int .i64)))) l, .xl (.pair (.int .i64) (.int .i64)) v, .v (.int .i64 n), .v (.int .i64 e)] => .req ((List.length l : Int) ≤ 1000 ∧ (List.length v : Int) ≤ 1000) (.ok (.v (.tuple #[.int .i64 (acK l v n e), .int .i64 (acE l v n e)])))
  | _ => .no
noncomputable def S_racc : List LV → T LV := upS Try.prog Try.f13.params.toList S0_racc
theorem nf_racc (l : List (Int × (Int × (Int × Int)))) (v : List (Int × Int)) (n e : Int) : funu Try.prog noGlobs (specsOf [(21, S_rvl), (24, S_rvo), (35, S_rNu), (36, S_rEp), (37, S_rfind), (38, S_rrevk)]) noK noLoops Try.f13 [.xl tC l, .xl tV v, .v (.int .i64 n), .v (.int .i64 e)] = .req ((List.length l : Int) ≤ 1000) (.br (!(vlC l)) (.ok (.v (.tuple #[.int .i64 0, .int .i64 1]))) (.req ((List.length v : Int) ≤ 1000) (.br ((!(vlV v)) || ((!(inB n 1 1000000)) || (!(inB e 0 1000000)))) (.ok (.v (.tuple #[.int .i64 0, .int .i64 1]))) (.req ((List.length l : Int) ≤ 1000) (.br (decide ((fiI l n) < 0)) (.ok (.v (.tuple #[.int .i64 0, .int .i64 4]))) (.req (0 ≤ (fiI l n) ∧ (fiI l n) < (List.length l : Int)) (.br (decide (e < (gC l (fiI l n)).2.2.1)) (.ok (.v (.tuple #[.int .i64 0, .int .i64 15]))) (.req (0 ≤ (fiI l n) ∧ (fiI l n) < (List.length l : Int)) (.br (decide (e > (gC l (fiI l n)).2.2.2)) (.ok (.v (.tuple #[.int .i64 0, .int .i64 15]))) (.req ((List.length v : Int) ≤ 1000) (.br (rvA v n e) (.ok (.v (.tuple #[.int .i64 0, .int .i64 12]))) (.req (0 ≤ (fiI l n) ∧ (fiI l n) < (List.length l : Int)) (.ok (.v (.tuple #[.int .i64 (gC l (fiI l n)).2.1, .int .i64 0]))))))))))))))) := by kernel_rfl
theorem v_racc : Valid Try.prog noGlobs 13 S_racc := valid_ofu Try.func13 rfl (specs_ok (l := [(21, S_rvl), (24, S_rvo), (35, S_rNu), (36, S_rEp), (37, S_rfind), (38, S_rrevk)]) ⟨v_rvl, v_rvo, v_rNu, v_rEp, v_rfind, v_rrevk, trivial⟩) noK_sound (no_loops (by kernel_rfl)) (fun args lv h => by
  unfold S0_racc at h
  split at h
  · simp only [canL, canX]
    rw [nf_racc]
    rename_i l v n e
    obtain ⟨⟨ha, hb⟩, rfl⟩ := h
    have fin : ∀ k q : Int, k = acK l v n e → q = acE l v n e → LV.v (.tuple #[.int .i64 k, .int .i64 q]) = LV.v (.tuple #[.int .i64 (acK l v n e), .int .i64 (acE l v n e)]) := fun k q h1 h2 => by rw [h1, h2]
    have bad : (vlC l = false ∨ vlV v = false ∨ inB n 1 1000000 = false ∨ inB e 0 1000000 = false) → LV.v (.tuple #[.int .i64 0, .int .i64 1]) = LV.v (.tuple #[.int .i64 (acK l v n e), .int .i64 (acE l v n e)]) := fun c => by
      have : acE l v n e = 1 := by unfold acE; rw [if_pos c]
      exact fin _ _ (by simp [acK, this]) this.symm
    refine ⟨ha, fun c1 => bad (.inl (by simpa using c1)), fun c1 => ⟨hb, fun c2 => bad (.inr (by simpa using c2)), fun c2 => ⟨ha, ?_⟩⟩⟩
    have c1 : vlC l = true := by simpa using c1
    simp only [Bool.or_eq_false_iff, Bool.not_eq_false'] at c2
    have n1 : ¬ (vlC l = false ∨ vlV v = false ∨ inB n 1 1000000 = false ∨ inB e 0 1000000 = false) := by simp [c1, c2]
    rw [rvA_eq (vlV_ck c2.1)]
    cases hh : hsC l n with
    | false =>
      have hf : fiI l n = -1 := by simp [fiI, hh]
      rw [hf]
      refine ⟨fun _ => ?_, fun c => by simp at c⟩
      have : acE l v n e = 4 := by unfold acE; rw [if_neg n1, if_pos hh]
      exact fin _ _ (by simp [acK, this]) this.symm
    | true =>
      obtain ⟨f1, f2, f3⟩ := fiI_at hh
      rw [f3]
      refine ⟨fun c => by simp at c; omega, fun _ => ⟨⟨f1, f2⟩, fun c3 => ?_, fun c3 => ⟨⟨f1, f2⟩, fun c4 => ?_, fun c4 => ⟨hb, fun c5 => ?_, fun c5 => ⟨⟨f1, f2⟩, ?_⟩⟩⟩⟩⟩
      all_goals simp only [decide_eq_true_eq, decide_eq_false_iff_not] at c3
      · have : acE l v n e = 15 := by unfold acE; rw [if_neg n1, if_neg (by simp [hh]), if_pos (by simp [inB]; omega)]
        exact fin _ _ (by simp [acK, this]) this.symm
      all_goals simp only [decide_eq_true_eq, decide_eq_false_iff_not] at c4
      · have : acE l v n e = 15 := by unfold acE; rw [if_neg n1, if_neg (by simp [hh]), if_pos (by simp [inB]; omega)]
        exact fin _ _ (by simp [acK, this]) this.symm
      · have : acE l v n e = 12 := by unfold acE; rw [if_neg n1, if_neg (by simp [hh]), if_neg (by simp [inB]; omega), if_pos c5]
        exact fin _ _ (by simp [acK, this]) this.symm
      · have : acE l v n e = 0 := by unfold acE; rw [if_neg n1, if_neg (by simp [hh]), if_neg (by simp [inB]; omega), if_neg (by simp [c5])]
        exact fin _ _ (by simp [acK, this]) this.symm
  · cases h)
structure L_rlt where
  l : List (Int × (Int × (Int × Int)))
  known : List (Int × Int)
  void : List (Int × Int)
  epoch : Int
  i : Int
  out : List Int
def A_rlt (s : L_rlt) : List LV := [.xl tC s.l, .xl tV s.known, .xl tV s.void, .v (.int .i64 s.epoch), .os 0 1 0 (List.length s.out), .v (.int .i64 s.i)]
def B_rlt (s : L_rlt) : List Blk := [⟨[], 3, .vec (.int .i64) s.out, false⟩]
noncomputable def body_rlt : Code := ((loopsIn (Try.f17.body.getD .skip))[0]?).getD .skip
def f_rlt (s : L_rlt) : Rd L_rlt :=
  if (decide (s.i < (List.length s.l : Int))) then
    if (decide (s.epoch ≥ (gC s.l s.i).2.2.1)) then
      if (decide (s.epoch ≤ (gC s.l s.i).2.2.2)) then
        if (!(rvA s.known (gC s.l s.i).1 s.epoch)) then
          if (rvA s.void (gC s.l s.i).1 s.epoch) then
            .next { s with i := (IntKind.i64.wrap (s.i + 1)), out := (s.out ++ ([(gC s.l s.i).1])) }
          else
            .next { s with i := (IntKind.i64.wrap (s.i + 1)) }
        else
          .next { s with i := (IntKind.i64.wrap (s.i + 1)) }
      else
        .next { s with i := (IntKind.i64.wrap (s.i + 1)) }
    else
      .next { s with i := (IntKind.i64.wrap (s.i + 1)) }
  else
    .stop (.exit 0) s
def P_rlt (s : L_rlt) := ((), s.l, s.known, s.void, s.epoch)
theorem rlt_ex : ∀ s x s', f_rlt s = .stop x s' → x = .exit 0 := by
  intro s x s' h
  unfold f_rlt at h
  repeat' split at h
  all_goals first | (cases h; done) | (cases h; rfl) | (cases h; simp)
def E_rlt (s : L_rlt) : Prop := s.i = 0 ∧ s.out = [] ∧ ckV 0 s.known = true ∧ ckV 0 s.void = true ∧ (s.known.length : Int) ≤ 1000 ∧ (s.void.length : Int) ≤ 1000 ∧ (s.l.length : Int) ≤ 1000
def I_rlt (s : L_rlt) : Prop := (0 ≤ s.i ∧ s.i ≤ s.l.length) ∧ s.out = ltL (s.l.take s.i.toNat) s.known s.void s.epoch ∧ ckV 0 s.known = true ∧ ckV 0 s.void = true ∧ (s.known.length : Int) ≤ 1000 ∧ (s.void.length : Int) ≤ 1000 ∧ (s.l.length : Int) ≤ 1000
def mu_rlt (s : L_rlt) : Nat := ((s.l.length : Int) - s.i).toNat
def Q_rlt (x : Ex) (s s' : L_rlt) : Prop := x = .exit 0 ∧ s'.out = ltL s'.l s'.known s'.void s'.epoch
theorem rlt_E : ∀ s, E_rlt s → I_rlt s := by
  intro s h
  obtain ⟨h0, h1, h2, h3, h4, h5, h6⟩ := h
  exact ⟨⟨by omega, by omega⟩, by rw [h0, h1]; rfl, h2, h3, h4, h5, h6⟩
theorem rlt_da (s : L_rlt) (hI : I_rlt s) : allR (fun s' => I_rlt s' ∧ mu_rlt s' < mu_rlt s) (fun x s' => Q_rlt x s s') (f_rlt s) := by
  unfold f_rlt
  obtain ⟨⟨hi0, hi1⟩, ho, r1, r2, r3, r4, r5⟩ := hI
  rw [rvA_eq r1, rvA_eq r2]
  refine allR_ite (fun c1 => ?_) (fun c1 => ?_)
  · refine allR_ite (fun c2 => ?_) (fun c2 => ?_)
    · refine allR_ite (fun c3 => ?_) (fun c3 => ?_)
      · refine allR_ite (fun c4 => ?_) (fun c4 => ?_)
        · refine allR_ite (fun c5 => ?_) (fun c5 => ?_)
          · have c1 : s.i < s.l.length := by simpa using c1
            have hs := (gC_step hi0 c1).2
            rw [wrapS (x := s.i + 1) (by omega) (by omega)]
            refine ⟨⟨⟨by simp only; omega, by simp only; omega⟩, ?_, r1, r2, r3, r4, r5⟩, by simp only [mu_rlt]; omega⟩
            simp only
            rw [hs, ho]
            unfold ltL
            rw [List.filter_append, List.map_append]
            simp only [List.filter_cons, List.filter_nil]
            unfold inB
            (try simp only [Bool.not_eq_true', Bool.not_eq_false'] at *)
            simp only [c2, c3, c4, c5]
            simp
          · have c1 : s.i < s.l.length := by simpa using c1
            have hs := (gC_step hi0 c1).2
            rw [wrapS (x := s.i + 1) (by omega) (by omega)]
            refine ⟨⟨⟨by simp only; omega, by simp only; omega⟩, ?_, r1, r2, r3, r4, r5⟩, by simp only [mu_rlt]; omega⟩
            simp only
            rw [hs, ho]
            unfold ltL
            rw [List.filter_append, List.map_append]
            simp only [List.filter_cons, List.filter_nil]
            unfold inB
            (try simp only [Bool.not_eq_true', Bool.not_eq_false'] at *)
            simp only [c2, c3, c4, c5]
            simp
        · have c1 : s.i < s.l.length := by simpa using c1
          have hs := (gC_step hi0 c1).2
          rw [wrapS (x := s.i + 1) (by omega) (by omega)]
          refine ⟨⟨⟨by simp only; omega, by simp only; omega⟩, ?_, r1, r2, r3, r4, r5⟩, by simp only [mu_rlt]; omega⟩
          simp only
          rw [hs, ho]
          unfold ltL
          rw [List.filter_append, List.map_append]
          simp only [List.filter_cons, List.filter_nil]
          unfold inB
          (try simp only [Bool.not_eq_true', Bool.not_eq_false'] at *)
          simp only [c2, c3, c4]
          simp
      · have c1 : s.i < s.l.length := by simpa using c1
        have hs := (gC_step hi0 c1).2
        rw [wrapS (x := s.i + 1) (by omega) (by omega)]
        refine ⟨⟨⟨by simp only; omega, by simp only; omega⟩, ?_, r1, r2, r3, r4, r5⟩, by simp only [mu_rlt]; omega⟩
        simp only
        rw [hs, ho]
        unfold ltL
        rw [List.filter_append, List.map_append]
        simp only [List.filter_cons, List.filter_nil]
        unfold inB
        (try simp only [Bool.not_eq_true', Bool.not_eq_false'] at *)
        simp only [c2, c3]
        simp
    · have c1 : s.i < s.l.length := by simpa using c1
      have hs := (gC_step hi0 c1).2
      rw [wrapS (x := s.i + 1) (by omega) (by omega)]
      refine ⟨⟨⟨by simp only; omega, by simp only; omega⟩, ?_, r1, r2, r3, r4, r5⟩, by simp only [mu_rlt]; omega⟩
      simp only
      rw [hs, ho]
      unfold ltL
      rw [List.filter_append, List.map_append]
      simp only [List.filter_cons, List.filter_nil]
      unfold inB
      (try simp only [Bool.not_eq_true', Bool.not_eq_false'] at *)
      simp only [c2]
      simp
  · have c1 : (s.l.length : Int) ≤ s.i := by simpa using c1
    exact ⟨rfl, by rw [ho, List.take_of_length_le (by omega)]⟩
theorem rlt_d : ∀ s s', I_rlt s → f_rlt s = .next s' → I_rlt s' ∧ mu_rlt s' < mu_rlt s := fun s s' hI h => allR_next (rlt_da s hI) h
def sel_rlt : List LV → List Blk → T L_rlt
  | [.xl (.pair (.int .i64) (.pair (.int .i64) (.pair (.int .i64) (.int .i64)))) l, .xl (.pair (.int .i64) (.int .i64)) known, .xl (.pair (.int .i64) (.int .i64)) void, .v (.int .i64 epoch), .os 0 1 0 w4_, .v (.int .i64 i)], [⟨[], 3, .vec (.int .i64) out, false⟩] => .req (E_rlt ⟨l, known, void, epoch, i, out⟩ ∧ w4_ = List.length out) (.ok ⟨l, known, void, epoch, i, out⟩)
  | _, _ => .no
theorem sel_rlt_ok : ∀ vals blks s, (sel_rlt vals blks).all (fun x => x = s) → E_rlt s ∧ vals = A_rlt s ∧ blks = B_rlt s := by
  intro vals blks s h
  unfold sel_rlt at h
  split at h
  · obtain ⟨⟨h1, rfl⟩, rfl⟩ := h
    exact ⟨h1, rfl, rfl⟩
  · cases h
def run_rlt (s : L_rlt) : L_rlt := { (runW f_rlt (mu_rlt s + 1) s).2 with l := s.l, known := s.known, void := s.void, epoch := s.epoch }
theorem run_rlt_eq (s : L_rlt) : (runW f_rlt (mu_rlt s + 1) s).2 = run_rlt s := by
  have hk := runW_keep (f := f_rlt) P_rlt (fun s s' hf => by
    unfold f_rlt at hf
    repeat' split at hf
    all_goals cases hf
    all_goals rfl) (fun s x s' hf => by
    unfold f_rlt at hf
    repeat' split at hf
    all_goals cases hf
    all_goals rfl) (mu_rlt s + 1) s
  unfold run_rlt
  generalize (runW f_rlt (mu_rlt s + 1) s).2 = r at *
  cases r
  simp only [P_rlt, Prod.mk.injEq, true_and] at hk
  simp only [L_rlt.mk.injEq, hk, and_self]
def exn_rlt (s : L_rlt) : Ex := (runW f_rlt (mu_rlt s + 1) s).1
def out_rlt (s : L_rlt) : T (Ex × List LV × List Blk) := .ok (.exit 0, frameOf 72 [0, 1, 2, 3, 10, 11] (A_rlt (run_rlt s)), B_rlt (run_rlt s))
theorem nfl_rlt (s : L_rlt) : backT [0, 1, 2, 3, 10, 11] [.nl 10 3 (.int .i64)] (codex Try.prog noGlobs (specsOf [(21, S_rvl), (24, S_rvo), (36, S_rEp), (38, S_rrevk)]) noK noLoops body_rlt (frameOf 72 [0, 1, 2, 3, 10, 11] (A_rlt s)) (B_rlt s)) = .br (decide (s.i < (List.length s.l : Int))) (.req (0 ≤ s.i ∧ s.i < (List.length s.l : Int)) (.br (decide (s.epoch ≥ (gC s.l s.i).2.2.1)) (.br (decide (s.epoch ≤ (gC s.l s.i).2.2.2)) (.req ((List.length s.known : Int) ≤ 1000) (.br (!(rvA s.known (gC s.l s.i).1 s.epoch)) (.req ((List.length s.void : Int) ≤ 1000) (.br (rvA s.void (gC s.l s.i).1 s.epoch) (.req (0 + (List.length s.out) = List.length s.out ∧ ((List.length s.out + List.length ([(gC s.l s.i).1]) : Nat) : Int) * 8 ≤ 2 ^ 47 ∧ ((List.length s.out + List.length ([(gC s.l s.i).1]) : Nat) : Int) < 2 ^ 62) (.req (0 = 0 ∧ (List.length s.out + List.length ([(gC s.l s.i).1])) = List.length (s.out ++ ([(gC s.l s.i).1]))) (.ok (⟨.normal, 72, [.xl tC s.l, .xl tV s.known, .xl tV s.void, .v (.int .i64 s.epoch), .os 0 1 0 (List.length (s.out ++ ([(gC s.l s.i).1]))), .v (.int .i64 (IntKind.i64.wrap (s.i + 1)))], [⟨[], 3, .vec (.int .i64) (s.out ++ ([(gC s.l s.i).1])), false⟩], true⟩)))) (.req (0 = 0 ∧ (List.length s.out) = List.length s.out) (.ok (⟨.normal, 72, [.xl tC s.l, .xl tV s.known, .xl tV s.void, .v (.int .i64 s.epoch), .os 0 1 0 (List.length s.out), .v (.int .i64 (IntKind.i64.wrap (s.i + 1)))], [⟨[], 3, .vec (.int .i64) s.out, false⟩], true⟩))))) (.req (0 = 0 ∧ (List.length s.out) = List.length s.out) (.ok (⟨.normal, 72, [.xl tC s.l, .xl tV s.known, .xl tV s.void, .v (.int .i64 s.epoch), .os 0 1 0 (List.length s.out), .v (.int .i64 (IntKind.i64.wrap (s.i + 1)))], [⟨[], 3, .vec (.int .i64) s.out, false⟩], true⟩))))) (.req (0 = 0 ∧ (List.length s.out) = List.length s.out) (.ok (⟨.normal, 72, [.xl tC s.l, .xl tV s.known, .xl tV s.void, .v (.int .i64 s.epoch), .os 0 1 0 (List.length s.out), .v (.int .i64 (IntKind.i64.wrap (s.i + 1)))], [⟨[], 3, .vec (.int .i64) s.out, false⟩], true⟩)))) (.req (0 = 0 ∧ (List.length s.out) = List.length s.out) (.ok (⟨.normal, 72, [.xl tC s.l, .xl tV s.known, .xl tV s.void, .v (.int .i64 s.epoch), .os 0 1 0 (List.length s.out), .v (.int .i64 (IntKind.i64.wrap (s.i + 1)))], [⟨[], 3, .vec (.int .i64) s.out, false⟩], true⟩))))) (.req (0 = 0 ∧ (List.length s.out) = List.length s.out) (.ok (⟨.exit 0, 72, [.xl tC s.l, .xl tV s.known, .xl tV s.void, .v (.int .i64 s.epoch), .os 0 1 0 (List.length s.out), .v (.int .i64 s.i)], [⟨[], 3, .vec (.int .i64) s.out, false⟩], true⟩))) := by kernel_rfl
theorem stp_rlt (s : L_rlt) (hI : I_rlt s) : AllT (fun v => v = rdV 72 A_rlt B_rlt (f_rlt s)) (backT [0, 1, 2, 3, 10, 11] [.nl 10 3 (.int .i64)] (codex Try.prog noGlobs (specsOf [(21, S_rvl), (24, S_rvo), (36, S_rEp), (38, S_rrevk)]) noK noLoops body_rlt (frameOf 72 [0, 1, 2, 3, 10, 11] (A_rlt s)) (B_rlt s))) := by
  constructor
  rw [nfl_rlt]
  unfold f_rlt
  exact
    stp_br (fun c1 =>
      ⟨by (obtain ⟨⟨hi0, hi1⟩, ho, r1, r2, r3, r4, r5⟩ := hI; have hol : s.out.length ≤ s.i.toNat := (by rw [ho]; unfold ltL; rw [List.length_map]; exact Nat.le_trans (List.length_filter_le _ _) (by rw [List.length_take]; omega)); (try simp only [decide_eq_true_eq] at c1); first | omega | (refine ⟨by omega, ?_, ?_⟩ <;> simp only [List.length_cons, List.length_nil] <;> omega) | exact ⟨rfl, by simp⟩),
        stp_br (fun c2 =>
          stp_br (fun c3 =>
            ⟨by (obtain ⟨⟨hi0, hi1⟩, ho, r1, r2, r3, r4, r5⟩ := hI; have hol : s.out.length ≤ s.i.toNat := (by rw [ho]; unfold ltL; rw [List.length_map]; exact Nat.le_trans (List.length_filter_le _ _) (by rw [List.length_take]; omega)); (try simp only [decide_eq_true_eq] at c1); first | omega | (refine ⟨by omega, ?_, ?_⟩ <;> simp only [List.length_cons, List.length_nil] <;> omega) | exact ⟨rfl, by simp⟩),
              stp_br (fun c4 =>
                ⟨by (obtain ⟨⟨hi0, hi1⟩, ho, r1, r2, r3, r4, r5⟩ := hI; have hol : s.out.length ≤ s.i.toNat := (by rw [ho]; unfold ltL; rw [List.length_map]; exact Nat.le_trans (List.length_filter_le _ _) (by rw [List.length_take]; omega)); (try simp only [decide_eq_true_eq] at c1); first | omega | (refine ⟨by omega, ?_, ?_⟩ <;> simp only [List.length_cons, List.length_nil] <;> omega) | exact ⟨rfl, by simp⟩),
                  stp_br (fun c5 =>
                    ⟨by (obtain ⟨⟨hi0, hi1⟩, ho, r1, r2, r3, r4, r5⟩ := hI; have hol : s.out.length ≤ s.i.toNat := (by rw [ho]; unfold ltL; rw [List.length_map]; exact Nat.le_trans (List.length_filter_le _ _) (by rw [List.length_take]; omega)); (try simp only [decide_eq_true_eq] at c1); first | omega | (refine ⟨by omega, ?_, ?_⟩ <;> simp only [List.length_cons, List.length_nil] <;> omega) | exact ⟨rfl, by simp⟩),
                      ⟨by (obtain ⟨⟨hi0, hi1⟩, ho, r1, r2, r3, r4, r5⟩ := hI; have hol : s.out.length ≤ s.i.toNat := (by rw [ho]; unfold ltL; rw [List.length_map]; exact Nat.le_trans (List.length_filter_le _ _) (by rw [List.length_take]; omega)); (try simp only [decide_eq_true_eq] at c1); first | omega | (refine ⟨by omega, ?_, ?_⟩ <;> simp only [List.length_cons, List.length_nil] <;> omega) | exact ⟨rfl, by simp⟩),
                        rfl⟩⟩) (fun c5 =>
                    ⟨by (obtain ⟨⟨hi0, hi1⟩, ho, r1, r2, r3, r4, r5⟩ := hI; have hol : s.out.length ≤ s.i.toNat := (by rw [ho]; unfold ltL; rw [List.length_map]; exact Nat.le_trans (List.length_filter_le _ _) (by rw [List.length_take]; omega)); (try simp only [decide_eq_true_eq] at c1); first | omega | (refine ⟨by omega, ?_, ?_⟩ <;> simp only [List.length_cons, List.length_nil] <;> omega) | exact ⟨rfl, by simp⟩),
                      rfl⟩)⟩) (fun c4 =>
                ⟨by (obtain ⟨⟨hi0, hi1⟩, ho, r1, r2, r3, r4, r5⟩ := hI; have hol : s.out.length ≤ s.i.toNat := (by rw [ho]; unfold ltL; rw [List.length_map]; exact Nat.le_trans (List.length_filter_le _ _) (by rw [List.length_take]; omega)); (try simp only [decide_eq_true_eq] at c1); first | omega | (refine ⟨by omega, ?_, ?_⟩ <;> simp only [List.length_cons, List.length_nil] <;> omega) | exact ⟨rfl, by simp⟩),
                  rfl⟩)⟩) (fun c3 =>
            ⟨by (obtain ⟨⟨hi0, hi1⟩, ho, r1, r2, r3, r4, r5⟩ := hI; have hol : s.out.length ≤ s.i.toNat := (by rw [ho]; unfold ltL; rw [List.length_map]; exact Nat.le_trans (List.length_filter_le _ _) (by rw [List.length_take]; omega)); (try simp only [decide_eq_true_eq] at c1); first | omega | (refine ⟨by omega, ?_, ?_⟩ <;> simp only [List.length_cons, List.length_nil] <;> omega) | exact ⟨rfl, by simp⟩),
              rfl⟩)) (fun c2 =>
          ⟨by (obtain ⟨⟨hi0, hi1⟩, ho, r1, r2, r3, r4, r5⟩ := hI; have hol : s.out.length ≤ s.i.toNat := (by rw [ho]; unfold ltL; rw [List.length_map]; exact Nat.le_trans (List.length_filter_le _ _) (by rw [List.length_take]; omega)); (try simp only [decide_eq_true_eq] at c1); first | omega | (refine ⟨by omega, ?_, ?_⟩ <;> simp only [List.length_cons, List.length_nil] <;> omega) | exact ⟨rfl, by simp⟩),
            rfl⟩)⟩) (fun c1 =>
      ⟨by (obtain ⟨⟨hi0, hi1⟩, ho, r1, r2, r3, r4, r5⟩ := hI; have hol : s.out.length ≤ s.i.toNat := (by rw [ho]; unfold ltL; rw [List.length_map]; exact Nat.le_trans (List.length_filter_le _ _) (by rw [List.length_take]; omega)); (try simp only [decide_eq_true_eq] at c1); first | omega | (refine ⟨by omega, ?_, ?_⟩ <;> simp only [List.length_cons, List.length_nil] <;> omega) | exact ⟨rfl, by simp⟩),
        rfl⟩)
theorem rlt_end (s : L_rlt) (hE : E_rlt s) : ∃ s', I_rlt s' ∧ f_rlt s' = .stop (exn_rlt s) (run_rlt s) := by rw [← run_rlt_eq]; exact runW_stop rlt_d (mu_rlt s + 1) s (rlt_E s hE) (Nat.lt_succ_self _)
theorem rlt_same : ∀ s x s', f_rlt s = .stop x s' → s = s' := by
  intro s x s' h
  unfold f_rlt at h
  repeat' split at h
  all_goals first | (cases h; done) | (cases h; rfl)
theorem rlt_inv (s : L_rlt) (hE : E_rlt s) : I_rlt (run_rlt s) ∧ f_rlt (run_rlt s) = .stop (exn_rlt s) (run_rlt s) := by
  obtain ⟨s', hI, hf⟩ := rlt_end s hE
  have hs := rlt_same _ _ _ hf
  subst hs
  exact ⟨hI, hf⟩
theorem snd_rlt : Sound Try.prog noGlobs (.loop body_rlt) (loopT 72 [0, 1, 2, 3, 10, 11] [.nl 10 3 (.int .i64)] sel_rlt out_rlt) :=
  loop_view 72 [0, 1, 2, 3, 10, 11] [.nl 10 3 (.int .i64)] A_rlt B_rlt I_rlt E_rlt mu_rlt f_rlt sel_rlt out_rlt (code_sound (Γ := specsOf [(21, S_rvl), (24, S_rvo), (36, S_rEp), (38, S_rrevk)]) (K := noK) (L := noLoops) (specs_ok (l := [(21, S_rvl), (24, S_rvo), (36, S_rEp), (38, S_rrevk)]) ⟨v_rvl, v_rvo, v_rEp, v_rrevk, trivial⟩) noK_sound body_rlt (fun b hb => by rw [show loopsIn body_rlt = [] by kernel_rfl] at hb; cases hb))
    sel_rlt_ok rlt_E rlt_d (fun s x s' hf => by have := rlt_ex s x s' hf; intro h0; subst h0; simp at this) stp_rlt (fun s hE => by
      obtain ⟨s', _, h2⟩ := rlt_end s hE
      have h3 : exn_rlt s = .exit 0 := rlt_ex _ _ _ h2
      unfold out_rlt
      rw [run_rlt_eq]
      simp only [T.all, ← h3]
      rfl)
theorem rlt_fin (s : L_rlt) (hE : E_rlt s) : ∃ s', I_rlt s' ∧ Q_rlt (exn_rlt s) s' (run_rlt s) := by
  obtain ⟨s', hI, hf⟩ := rlt_end s hE
  exact ⟨s', hI, allR_stop (rlt_da s' hI) hf⟩
def S0_rlate : List LV → T LV
  | [.xl (.pair (.int .i64) (.pair (.int .i64) (.pair (.int .i64) (.int .i64)))) l, .xl (.pair (.int .i64) (.int .i64)) o, .xl (.pair (.int .i64) (.int .i64)) v, .v (.int .i64 e)] => .req ((List.length l : Int) ≤ 1000 ∧ (List.length o : Int) ≤ 1000 ∧ (List.length v : Int) ≤ 1000) (.ok (.tup [.xl (.int .i64) (ltM l o v e), .v (.int .i64 (ltE l o v e))]))
  | _ => .no
noncomputable def S_rlate : List LV → T LV := upS Try.prog Try.f17.params.toList S0_rlate
theorem nf_rlate (l : List (Int × (Int × (Int × Int)))) (o v : List (Int × Int)) (e : Int) : funu Try.prog noGlobs (specsOf [(21, S_rvl), (24, S_rvo), (36, S_rEp), (38, S_rrevk)]) noK (fun i => if i = 5 then loopT 72 [0, 1, 2, 3, 10, 11] [.nl 10 3 (.int .i64)] sel_rlt out_rlt else noLoops i) Try.f17 [.xl tC l, .xl tV o, .xl tV v, .v (.int .i64 e)] = .req ((List.length l : Int) ≤ 1000) (.br (!(vlC l)) (.ok (.tup [.xl (.int .i64) ([] : List Int), .v (.int .i64 1)])) (.req ((List.length o : Int) ≤ 1000) (.br (!(vlV o)) (.ok (.tup [.xl (.int .i64) ([] : List Int), .v (.int .i64 1)])) (.req ((List.length v : Int) ≤ 1000) (.br ((!(vlV v)) || (!(inB e 0 1000000))) (.ok (.tup [.xl (.int .i64) ([] : List Int), .v (.int .i64 1)])) (.req (0 = 0 ∧ 0 = List.length ([] : List Int)) (.req (E_rlt (⟨l, o, v, e, (0 : Int), ([] : List Int)⟩ : L_rlt) ∧ (List.length ([] : List Int)) = List.length ([] : List Int)) (.req (0 + (List.length (run_rlt (⟨l, o, v, e, (0 : Int), ([] : List Int)⟩ : L_rlt)).out) ≤ List.length (run_rlt (⟨l, o, v, e, (0 : Int), ([] : List Int)⟩ : L_rlt)).out) (.ok (.tup [.xl (.int .i64) (((run_rlt (⟨l, o, v, e, (0 : Int), ([] : List Int)⟩ : L_rlt)).out.drop 0).take (List.length (run_rlt (⟨l, o, v, e, (0 : Int), ([] : List Int)⟩ : L_rlt)).out)), .v (.int .i64 0)])))))))))) := by kernel_rfl
theorem v_rlate : Valid Try.prog noGlobs 17 S_rlate := valid_ofu Try.func17 rfl (specs_ok (l := [(21, S_rvl), (24, S_rvo), (36, S_rEp), (38, S_rrevk)]) ⟨v_rvl, v_rvo, v_rEp, v_rrevk, trivial⟩) noK_sound (L := (fun i => if i = 5 then loopT 72 [0, 1, 2, 3, 10, 11] [.nl 10 3 (.int .i64)] sel_rlt out_rlt else noLoops i)) (fun b hb => by
  rw [show loopsIn _ = [body_rlt] by kernel_rfl] at hb
  simp only [List.mem_cons, List.not_mem_nil, or_false] at hb
  subst hb
  exact snd_rlt) (fun args lv h => by
  unfold S0_rlate at h
  split at h
  · simp only [canL, canX]
    rw [nf_rlate]
    rename_i l o v e
    obtain ⟨⟨h1, h2, h3⟩, h⟩ := h
    have h := lt_of (K := fun x y => LV.tup [.xl (.int .i64) x, .v (.int .i64 y)] = lv) h
    have hE : (vlC l && (vlV o && (vlV v && inB e 0 1000000))) = true → E_rlt ⟨l, o, v, e, (0 : Int), []⟩ := fun c1 => by
      simp only [Bool.and_eq_true] at c1
      exact ⟨rfl, rfl, vlV_ck c1.2.1, vlV_ck c1.2.2.1, h2, h3, h1⟩
    have q2 : (vlC l && (vlV o && (vlV v && inB e 0 1000000))) = true → (run_rlt ⟨l, o, v, e, (0 : Int), []⟩).out = ltL l o v e := fun c1 => (rlt_fin _ (hE c1)).choose_spec.2.2
    refine ⟨h1, fun c1 => h.2 (by simp at c1; simp [c1]), fun c1 => ⟨h2, fun c2 => h.2 (by simp at c2; simp [c2]), fun c2 => ⟨h3, fun c3 => h.2 ?_, fun c3 => ?_⟩⟩⟩
    · simp at c3
      rcases c3 with c | c <;> simp [c]
    have cc : (vlC l && (vlV o && (vlV v && inB e 0 1000000))) = true := by
      simp at c1 c2 c3
      simp [c1, c2, c3]
    refine ⟨⟨rfl, rfl⟩, ⟨hE cc, rfl⟩, by simp, ?_⟩
    rw [q2 cc, List.drop_zero, List.take_length]
    exact h.1 cc
  · cases h)
def S0_gives : List LV → T LV
  | [.xl (.pair (.int .i64) (.pair (.int .i64) (.pair (.int .i64) (.int .i64)))) l, .xl (.pair (.int .i64) (.int .i64)) v, .v (.int .i64 n), .v (.int .i64 e), .v (.int .i64 co), .v (.int .i64 wa)] => .req ((List.length l : Int) ≤ 1000 ∧ (List.length v : Int) ≤ 1000) (.ok (.v (.bool ((acK l v n e == co) && (acE l v n e == wa)))))
  | _ => .no
noncomputable def S_gives : List LV → T LV := upS Try.prog Try.f25.params.toList S0_gives
theorem nf_gives (l : List (Int × (Int × (Int × Int)))) (v : List (Int × Int)) (n e co wa : Int) : funu Try.prog noGlobs (specsOf [(12, S_acc)]) noK noLoops Try.f25 [.xl tC l, .xl tV v, .v (.int .i64 n), .v (.int .i64 e), .v (.int .i64 co), .v (.int .i64 wa)] = .req ((List.length l : Int) ≤ 1000 ∧ (List.length v : Int) ≤ 1000) (.ok (.v (.bool (((acK l v n e) == co) && ((acE l v n e) == wa))))) := by kernel_rfl
theorem v_gives : Valid Try.prog noGlobs 25 S_gives := valid_ofu Try.func25 rfl (specs_ok (l := [(12, S_acc)]) ⟨v_acc, trivial⟩) noK_sound (no_loops (by kernel_rfl)) (fun args lv h => by
  unfold S0_gives at h
  split at h
  · simp only [canL, canX]
    rw [nf_gives]
    exact h
  · cases h)
def S0_accs : List LV → T LV
  | [.xl (.pair (.int .i64) (.pair (.int .i64) (.pair (.int .i64) (.int .i64)))) l, .xl (.pair (.int .i64) (.int .i64)) v, .v (.int .i64 n), .v (.int .i64 e)] => .req ((List.length l : Int) ≤ 1000 ∧ (List.length v : Int) ≤ 1000) (.ok (.v (.bool (acE l v n e == 0))))
  | _ => .no
noncomputable def S_accs : List LV → T LV := upS Try.prog Try.f23.params.toList S0_accs
theorem nf_accs (l : List (Int × (Int × (Int × Int)))) (v : List (Int × Int)) (n e : Int) : funu Try.prog noGlobs (specsOf [(12, S_acc)]) noK noLoops Try.f23 [.xl tC l, .xl tV v, .v (.int .i64 n), .v (.int .i64 e)] = .req ((List.length l : Int) ≤ 1000 ∧ (List.length v : Int) ≤ 1000) (.ok (.v (.bool ((acE l v n e) == 0)))) := by kernel_rfl
theorem v_accs : Valid Try.prog noGlobs 23 S_accs := valid_ofu Try.func23 rfl (specs_ok (l := [(12, S_acc)]) ⟨v_acc, trivial⟩) noK_sound (no_loops (by kernel_rfl)) (fun args lv h => by
  unfold S0_accs at h
  split at h
  · simp only [canL, canX]
    rw [nf_accs]
    exact h
  · cases h)
def S0_head : List LV → T LV
  | [] => .ok (.v (.bool true))
  | _ => .no
noncomputable def S_head : List LV → T LV := upS Try.prog Try.f10.params.toList S0_head
theorem nf_head : (funu Try.prog noGlobs (specsOf [(14, S_join), (16, S_late), (18, S_rsame), (19, S_rints), (20, S_cvalid), (25, S_gives)]) noK noLoops Try.f10 []).red = .req ((List.length ([((5 : Int), ((1 : Int), ((10 : Int), (20 : Int)))), ((7 : Int), ((2 : Int), ((0 : Int), (99 : Int))))]) : Int) ≤ 1000 ∧ (List.length ([((7 : Int), (30 : Int))]) : Int) ≤ 1000) (.req ((List.length ([((5 : Int), ((1 : Int), ((10 : Int), (20 : Int)))), ((7 : Int), ((2 : Int), ((0 : Int), (99 : Int))))]) : Int) ≤ 1000 ∧ (List.length ([((7 : Int), (30 : Int))]) : Int) ≤ 1000) (.req ((List.length ([((5 : Int), ((1 : Int), ((10 : Int), (20 : Int)))), ((7 : Int), ((2 : Int), ((0 : Int), (99 : Int))))]) : Int) ≤ 1000 ∧ (List.length ([((7 : Int), (30 : Int))]) : Int) ≤ 1000) (.req ((List.length ([((5 : Int), ((1 : Int), ((10 : Int), (20 : Int)))), ((7 : Int), ((2 : Int), ((0 : Int), (99 : Int))))]) : Int) ≤ 1000 ∧ (List.length ([((7 : Int), (30 : Int))]) : Int) ≤ 1000) (.req ((List.length ([((5 : Int), ((1 : Int), ((10 : Int), (20 : Int)))), ((7 : Int), ((2 : Int), ((0 : Int), (99 : Int))))]) : Int) ≤ 1000 ∧ (List.length ([((7 : Int), (30 : Int))]) : Int) ≤ 1000) (.req ((List.length ([((5 : Int), ((1 : Int), ((10 : Int), (20 : Int)))), ((7 : Int), ((2 : Int), ((0 : Int), (99 : Int))))]) : Int) ≤ 1000 ∧ (List.length ([((7 : Int), (30 : Int))]) : Int) ≤ 1000) (.req ((List.length ([((5 : Int), ((1 : Int), ((10 : Int), (20 : Int)))), ((7 : Int), ((2 : Int), ((0 : Int), (99 : Int))))]) : Int) ≤ 1000 ∧ (List.length ([((7 : Int), (30 : Int))]) : Int) ≤ 1000) (.req ((List.length ([((5 : Int), ((1 : Int), ((10 : Int), (20 : Int)))), ((7 : Int), ((2 : Int), ((0 : Int), (99 : Int))))]) : Int) ≤ 1000 ∧ (List.length ([((7 : Int), (30 : Int))]) : Int) ≤ 1000) (.req ((List.length ([((7 : Int), (30 : Int))]) : Int) ≤ 1000 ∧ (List.length ([((5 : Int), (15 : Int)), ((7 : Int), (40 : Int))]) : Int) ≤ 1000) (.req ((List.length ([((5 : Int), ((1 : Int), ((10 : Int), (20 : Int)))), ((7 : Int), ((2 : Int), ((0 : Int), (99 : Int))))]) : Int) ≤ 1000 ∧ (List.length ([] : List (Int × Int)) : Int) ≤ 1000 ∧ (List.length ([((7 : Int), (30 : Int))]) : Int) ≤ 1000) (.req ((List.length (joL ([((7 : Int), (30 : Int))]) ([((5 : Int), (15 : Int)), ((7 : Int), (40 : Int))])) : Int) ≤ 1000) (.req ((List.length (ltM ([((5 : Int), ((1 : Int), ((10 : Int), (20 : Int)))), ((7 : Int), ((2 : Int), ((0 : Int), (99 : Int))))]) ([] : List (Int × Int)) ([((7 : Int), (30 : Int))]) (35 : Int)) : Int) ≤ 1000) (.req ((List.length ([((5 : Int), ((1 : Int), ((10 : Int), (20 : Int)))), ((7 : Int), ((2 : Int), ((0 : Int), (99 : Int))))]) : Int) ≤ 1000) (.req (0 ≤ (1 : Int) ∧ 1 < (List.length ([((5 : Int), ((1 : Int), ((10 : Int), (20 : Int)))), ((7 : Int), ((2 : Int), ((0 : Int), (99 : Int))))]) : Int)) (.req (0 ≤ (0 : Int) ∧ 0 < (List.length ([((5 : Int), ((1 : Int), ((10 : Int), (20 : Int)))), ((7 : Int), ((2 : Int), ((0 : Int), (99 : Int))))]) : Int)) (.req ((List.length ([(gC ([((5 : Int), ((1 : Int), ((10 : Int), (20 : Int)))), ((7 : Int), ((2 : Int), ((0 : Int), (99 : Int))))]) (1 : Int)), (gC ([((5 : Int), ((1 : Int), ((10 : Int), (20 : Int)))), ((7 : Int), ((2 : Int), ((0 : Int), (99 : Int))))]) (0 : Int))]) : Int) ≤ 1000) (.ok (.v (.bool true)))))))))))))))))) := by kernel_rfl
theorem v_head : Valid Try.prog noGlobs 10 S_head := valid_ofu Try.func10 rfl (specs_ok (l := [(14, S_join), (16, S_late), (18, S_rsame), (19, S_rints), (20, S_cvalid), (25, S_gives)]) ⟨v_join, v_late, v_rsame, v_rints, v_cvalid, v_gives, trivial⟩) noK_sound (no_loops (by kernel_rfl)) (fun args lv h => by
  unfold S0_head at h
  split at h
  · simp only [canL]
    refine T.all_red ?_
    rw [nf_head]
    exact ⟨by decide, by decide, by decide, by decide, by decide, by decide, by decide, by decide, by decide, by decide, by decide, by decide, by decide, by decide, by decide, by decide, h⟩
  · cases h)
end Go.Proofs.Ytcpadfehoaopaaa
