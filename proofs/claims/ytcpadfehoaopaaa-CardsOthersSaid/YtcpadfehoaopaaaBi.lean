/- Merging lists of package cards: what is computed, by the executor. -/
import Derived.Test.YtcpadfehoaopaaaBh
namespace Go.Proofs.Ytcpadfehoaopaaa
open Go.Sx
structure L_mg where
  a : List (Int × Int)
  b : List (Int × Int)
  out : List (Int × Int)
def A_mg (s : L_mg) : List LV := [.xl tV s.a, .xl tV s.b, .fn 40 [], .os 0 2 0 (List.length s.out)]
def B_mg (s : L_mg) : List Blk := [⟨[], 59, .vec tV s.out, false⟩]
noncomputable def body_mg : Code := ((loopsIn (Try.f39.body.getD .skip))[0]?).getD .skip
def f_mg (s : L_mg) : Rd L_mg :=
  if ((decide ((List.length s.a : Int) > 0)) && (decide ((List.length s.b : Int) > 0))) then
    if (decide ((gV s.a (0 : Int)).1 < (gV s.b (0 : Int)).1)) then
      .next { s with a := ((s.a.drop (1 : Int).toNat).take ((List.length s.a : Int).toNat - (1 : Int).toNat)), out := (s.out ++ ([(gV s.a (0 : Int))])) }
    else
      if (decide ((gV s.a (0 : Int)).1 > (gV s.b (0 : Int)).1)) then
        .next { s with b := ((s.b.drop (1 : Int).toNat).take ((List.length s.b : Int).toNat - (1 : Int).toNat)), out := (s.out ++ ([(gV s.b (0 : Int))])) }
      else
        if (decide ((gV s.b (0 : Int)).2 < (gV s.a (0 : Int)).2)) then
          .next { s with a := ((s.a.drop (1 : Int).toNat).take ((List.length s.a : Int).toNat - (1 : Int).toNat)), b := ((s.b.drop (1 : Int).toNat).take ((List.length s.b : Int).toNat - (1 : Int).toNat)), out := (s.out ++ ([(gV s.b (0 : Int))])) }
        else
          .next { s with a := ((s.a.drop (1 : Int).toNat).take ((List.length s.a : Int).toNat - (1 : Int).toNat)), b := ((s.b.drop (1 : Int).toNat).take ((List.length s.b : Int).toNat - (1 : Int).toNat)), out := (s.out ++ ([(gV s.a (0 : Int))])) }
  else
    .stop (.exit 0) s
def P_mg (s : L_mg) := (())
theorem mg_ex : ∀ s x s', f_mg s = .stop x s' → x = .exit 0 := by
  intro s x s' h
  unfold f_mg at h
  repeat' split at h
  all_goals first | (cases h; done) | (cases h; rfl) | (cases h; simp)
theorem tl_eq (l : List Vd) : (l.drop (1 : Int).toNat).take ((List.length l : Int).toNat - (1 : Int).toNat) = l.drop 1 := List.take_of_length_le (by simp)
theorem mg_keep (s : L_mg) : allR (fun s' => s'.out ++ mrg s'.a s'.b = s.out ++ mrg s.a s.b ∧ s'.out.length + s'.a.length + s'.b.length ≤ s.out.length + s.a.length + s.b.length ∧ s'.a.length + s'.b.length < s.a.length + s.b.length) (fun x s' => x = .exit 0 ∧ s' = s ∧ (s.a = [] ∨ s.b = [])) (f_mg s) := by
  obtain ⟨a, b, out⟩ := s
  unfold f_mg
  simp only [tl_eq]
  refine allR_ite (fun c1 => ?_) (fun c1 => ?_)
  · simp at c1
    obtain ⟨c1, c2⟩ := c1
    cases a with
    | nil => simp at c1
    | cons x a =>
      cases b with
      | nil => simp at c2
      | cons y b =>
        have e1 : gV (x :: a) 0 = x := rfl
        have e2 : gV (y :: b) 0 = y := rfl
        rw [e1, e2, mrg_cons]
        simp only [List.drop_succ_cons, List.drop_zero]
        refine allR_ite (fun k1 => ?_) (fun k1 => allR_ite (fun k2 => ?_) (fun k2 => allR_ite (fun k3 => ?_) (fun k3 => ?_)))
        all_goals simp only [decide_eq_true_eq, decide_eq_false_iff_not] at *
        · rw [if_pos k1]; refine ⟨by simp, by simp; omega, by simp⟩
        · rw [if_neg k1, if_pos k2]; refine ⟨by simp, by simp; omega, by simp⟩
        · rw [if_neg k1, if_neg k2, if_pos k3]; refine ⟨by simp, by simp; omega, by simp; omega⟩
        · rw [if_neg k1, if_neg k2, if_neg k3]; refine ⟨by simp, by simp; omega, by simp; omega⟩
  · refine ⟨rfl, rfl, ?_⟩
    simp only [Bool.and_eq_false_iff, decide_eq_false_iff_not] at c1
    rcases c1 with c | c
    · left; exact List.length_eq_zero_iff.1 (by omega)
    · right; exact List.length_eq_zero_iff.1 (by omega)
theorem mg_sum (s : L_mg) : ∀ k, (runW f_mg k s).2.out ++ mrg (runW f_mg k s).2.a (runW f_mg k s).2.b = s.out ++ mrg s.a s.b := fun k =>
  runW_keep (f := f_mg) (fun s => s.out ++ mrg s.a s.b) (fun s s' hf => (allR_next (mg_keep s) hf).1) (fun s x s' hf => by rw [(allR_stop (mg_keep s) hf).2.1]) k s
def E_mg (s : L_mg) : Prop := s.out = [] ∧ s.a.length ≤ 1000 ∧ s.b.length ≤ 1000
def I_mg (s : L_mg) : Prop := s.out.length + s.a.length + s.b.length ≤ 2000
def mu_mg (s : L_mg) : Nat := s.a.length + s.b.length
def Q_mg (x : Ex) (s s' : L_mg) : Prop := x = .exit 0 ∧ s'.out.length + s'.a.length + s'.b.length ≤ 2000 ∧ (s'.a = [] ∨ s'.b = [])
theorem mg_E : ∀ s, E_mg s → I_mg s := by
  intro s h
  obtain ⟨h1, h2, h3⟩ := h
  unfold I_mg
  rw [h1]
  simp only [List.length_nil]
  omega
theorem mg_da (s : L_mg) (hI : I_mg s) : allR (fun s' => I_mg s' ∧ mu_mg s' < mu_mg s) (fun x s' => Q_mg x s s') (f_mg s) := by
  unfold f_mg
  have hk := mg_keep s
  unfold f_mg at hk
  have hI : s.out.length + s.a.length + s.b.length ≤ 2000 := hI
  revert hk
  have key : ∀ r : Rd L_mg, allR (fun s' => s'.out ++ mrg s'.a s'.b = s.out ++ mrg s.a s.b ∧ s'.out.length + s'.a.length + s'.b.length ≤ s.out.length + s.a.length + s.b.length ∧ s'.a.length + s'.b.length < s.a.length + s.b.length) (fun x s' => x = .exit 0 ∧ s' = s ∧ (s.a = [] ∨ s.b = [])) r → allR (fun s' => I_mg s' ∧ mu_mg s' < mu_mg s) (fun x s' => Q_mg x s s') r := fun r h => by
    cases r with
    | next s' => exact ⟨show _ ≤ _ by have := h.2.1; omega, h.2.2⟩
    | stop x s' => obtain ⟨h1, rfl, h3⟩ := h; exact ⟨h1, hI, h3⟩
  exact key _
theorem mg_d : ∀ s s', I_mg s → f_mg s = .next s' → I_mg s' ∧ mu_mg s' < mu_mg s := fun s s' hI h => allR_next (mg_da s hI) h
def sel_mg : List LV → List Blk → T L_mg
  | [.xl (.pair (.int .i64) (.int .i64)) a, .xl (.pair (.int .i64) (.int .i64)) b, .fn 40 [], .os 0 2 0 w3_], [⟨[], 59, .vec (.pair (.int .i64) (.int .i64)) out, false⟩] => .req (E_mg ⟨a, b, out⟩ ∧ w3_ = List.length out) (.ok ⟨a, b, out⟩)
  | _, _ => .no
theorem sel_mg_ok : ∀ vals blks s, (sel_mg vals blks).all (fun x => x = s) → E_mg s ∧ vals = A_mg s ∧ blks = B_mg s := by
  intro vals blks s h
  unfold sel_mg at h
  split at h
  · obtain ⟨⟨h1, rfl⟩, rfl⟩ := h
    exact ⟨h1, rfl, rfl⟩
  · cases h
def run_mg (s : L_mg) : L_mg := (runW f_mg (mu_mg s + 1) s).2
theorem run_mg_eq (s : L_mg) : (runW f_mg (mu_mg s + 1) s).2 = run_mg s := by
  rfl
def exn_mg (s : L_mg) : Ex := (runW f_mg (mu_mg s + 1) s).1
def out_mg (s : L_mg) : T (Ex × List LV × List Blk) := .ok (.exit 0, frameOf 68 [0, 1, 2, 7] (A_mg (run_mg s)), B_mg (run_mg s))
theorem nfl_mg (s : L_mg) : backT [0, 1, 2, 7] [.nl 7 59 tV] (codex Try.prog noGlobs (specsOf [(40, S_jn1), (65, S_cNum), (67, S_vNum)]) noK noLoops body_mg (frameOf 68 [0, 1, 2, 7] (A_mg s)) (B_mg s)) = .br ((decide ((List.length s.a : Int) > 0)) && (decide ((List.length s.b : Int) > 0))) (.req (0 ≤ (0 : Int) ∧ 0 < (List.length s.a : Int)) (.req (0 ≤ (0 : Int) ∧ 0 < (List.length s.b : Int)) (.br (decide ((gV s.a (0 : Int)).1 < (gV s.b (0 : Int)).1)) (.req (0 ≤ (1 : Int) ∧ (1 : Int) ≤ (List.length s.a : Int) ∧ (List.length s.a : Int) ≤ (List.length s.a : Int)) (.req (0 + (List.length s.out) = List.length s.out ∧ ((List.length s.out + List.length ([(gV s.a (0 : Int))]) : Nat) : Int) * 16 ≤ 2 ^ 47 ∧ ((List.length s.out + List.length ([(gV s.a (0 : Int))]) : Nat) : Int) < 2 ^ 62) (.req (0 = 0 ∧ (List.length s.out + List.length ([(gV s.a (0 : Int))])) = List.length (s.out ++ ([(gV s.a (0 : Int))]))) (.ok (⟨.normal, 68, [.xl tV ((s.a.drop (1 : Int).toNat).take ((List.length s.a : Int).toNat - (1 : Int).toNat)), .xl tV s.b, .fn 40 [], .os 0 2 0 (List.length (s.out ++ ([(gV s.a (0 : Int))])))], [⟨[], 59, .vec tV (s.out ++ ([(gV s.a (0 : Int))])), false⟩], true⟩))))) (.br (decide ((gV s.a (0 : Int)).1 > (gV s.b (0 : Int)).1)) (.req (0 ≤ (1 : Int) ∧ (1 : Int) ≤ (List.length s.b : Int) ∧ (List.length s.b : Int) ≤ (List.length s.b : Int)) (.req (0 + (List.length s.out) = List.length s.out ∧ ((List.length s.out + List.length ([(gV s.b (0 : Int))]) : Nat) : Int) * 16 ≤ 2 ^ 47 ∧ ((List.length s.out + List.length ([(gV s.b (0 : Int))]) : Nat) : Int) < 2 ^ 62) (.req (0 = 0 ∧ (List.length s.out + List.length ([(gV s.b (0 : Int))])) = List.length (s.out ++ ([(gV s.b (0 : Int))]))) (.ok (⟨.normal, 68, [.xl tV s.a, .xl tV ((s.b.drop (1 : Int).toNat).take ((List.length s.b : Int).toNat - (1 : Int).toNat)), .fn 40 [], .os 0 2 0 (List.length (s.out ++ ([(gV s.b (0 : Int))])))], [⟨[], 59, .vec tV (s.out ++ ([(gV s.b (0 : Int))])), false⟩], true⟩))))) (.br (decide ((gV s.b (0 : Int)).2 < (gV s.a (0 : Int)).2)) (.req (0 ≤ (1 : Int) ∧ (1 : Int) ≤ (List.length s.a : Int) ∧ (List.length s.a : Int) ≤ (List.length s.a : Int)) (.req (0 ≤ (1 : Int) ∧ (1 : Int) ≤ (List.length s.b : Int) ∧ (List.length s.b : Int) ≤ (List.length s.b : Int)) (.req (0 + (List.length s.out) = List.length s.out ∧ ((List.length s.out + List.length ([(gV s.b (0 : Int))]) : Nat) : Int) * 16 ≤ 2 ^ 47 ∧ ((List.length s.out + List.length ([(gV s.b (0 : Int))]) : Nat) : Int) < 2 ^ 62) (.req (0 = 0 ∧ (List.length s.out + List.length ([(gV s.b (0 : Int))])) = List.length (s.out ++ ([(gV s.b (0 : Int))]))) (.ok (⟨.normal, 68, [.xl tV ((s.a.drop (1 : Int).toNat).take ((List.length s.a : Int).toNat - (1 : Int).toNat)), .xl tV ((s.b.drop (1 : Int).toNat).take ((List.length s.b : Int).toNat - (1 : Int).toNat)), .fn 40 [], .os 0 2 0 (List.length (s.out ++ ([(gV s.b (0 : Int))])))], [⟨[], 59, .vec tV (s.out ++ ([(gV s.b (0 : Int))])), false⟩], true⟩)))))) (.req (0 ≤ (1 : Int) ∧ (1 : Int) ≤ (List.length s.a : Int) ∧ (List.length s.a : Int) ≤ (List.length s.a : Int)) (.req (0 ≤ (1 : Int) ∧ (1 : Int) ≤ (List.length s.b : Int) ∧ (List.length s.b : Int) ≤ (List.length s.b : Int)) (.req (0 + (List.length s.out) = List.length s.out ∧ ((List.length s.out + List.length ([(gV s.a (0 : Int))]) : Nat) : Int) * 16 ≤ 2 ^ 47 ∧ ((List.length s.out + List.length ([(gV s.a (0 : Int))]) : Nat) : Int) < 2 ^ 62) (.req (0 = 0 ∧ (List.length s.out + List.length ([(gV s.a (0 : Int))])) = List.length (s.out ++ ([(gV s.a (0 : Int))]))) (.ok (⟨.normal, 68, [.xl tV ((s.a.drop (1 : Int).toNat).take ((List.length s.a : Int).toNat - (1 : Int).toNat)), .xl tV ((s.b.drop (1 : Int).toNat).take ((List.length s.b : Int).toNat - (1 : Int).toNat)), .fn 40 [], .os 0 2 0 (List.length (s.out ++ ([(gV s.a (0 : Int))])))], [⟨[], 59, .vec tV (s.out ++ ([(gV s.a (0 : Int))])), false⟩], true⟩))))))))))) (.req (0 = 0 ∧ (List.length s.out) = List.length s.out) (.ok (⟨.exit 0, 68, [.xl tV s.a, .xl tV s.b, .fn 40 [], .os 0 2 0 (List.length s.out)], [⟨[], 59, .vec tV s.out, false⟩], true⟩))) := by kernel_rfl
theorem stp_mg (s : L_mg) (hI : I_mg s) : AllT (fun v => v = rdV 68 A_mg B_mg (f_mg s)) (backT [0, 1, 2, 7] [.nl 7 59 tV] (codex Try.prog noGlobs (specsOf [(40, S_jn1), (65, S_cNum), (67, S_vNum)]) noK noLoops body_mg (frameOf 68 [0, 1, 2, 7] (A_mg s)) (B_mg s))) := by
  constructor
  rw [nfl_mg]
  unfold f_mg
  exact
    stp_br (fun c1 =>
      ⟨by (have hI : s.out.length + s.a.length + s.b.length ≤ 2000 := hI; (try simp only [Bool.and_eq_true, decide_eq_true_eq] at c1); first | omega | (refine ⟨by omega, ?_, ?_⟩ <;> simp only [List.length_cons, List.length_nil] <;> omega) | exact ⟨rfl, by simp⟩),
        ⟨by (have hI : s.out.length + s.a.length + s.b.length ≤ 2000 := hI; (try simp only [Bool.and_eq_true, decide_eq_true_eq] at c1); first | omega | (refine ⟨by omega, ?_, ?_⟩ <;> simp only [List.length_cons, List.length_nil] <;> omega) | exact ⟨rfl, by simp⟩),
          stp_br (fun c2 =>
            ⟨by (have hI : s.out.length + s.a.length + s.b.length ≤ 2000 := hI; (try simp only [Bool.and_eq_true, decide_eq_true_eq] at c1); first | omega | (refine ⟨by omega, ?_, ?_⟩ <;> simp only [List.length_cons, List.length_nil] <;> omega) | exact ⟨rfl, by simp⟩),
              ⟨by (have hI : s.out.length + s.a.length + s.b.length ≤ 2000 := hI; (try simp only [Bool.and_eq_true, decide_eq_true_eq] at c1); first | omega | (refine ⟨by omega, ?_, ?_⟩ <;> simp only [List.length_cons, List.length_nil] <;> omega) | exact ⟨rfl, by simp⟩),
                ⟨by (have hI : s.out.length + s.a.length + s.b.length ≤ 2000 := hI; (try simp only [Bool.and_eq_true, decide_eq_true_eq] at c1); first | omega | (refine ⟨by omega, ?_, ?_⟩ <;> simp only [List.length_cons, List.length_nil] <;> omega) | exact ⟨rfl, by simp⟩),
                  rfl⟩⟩⟩) (fun c2 =>
            stp_br (fun c3 =>
              ⟨by (have hI : s.out.length + s.a.length + s.b.length ≤ 2000 := hI; (try simp only [Bool.and_eq_true, decide_eq_true_eq] at c1); first | omega | (refine ⟨by omega, ?_, ?_⟩ <;> simp only [List.length_cons, List.length_nil] <;> omega) | exact ⟨rfl, by simp⟩),
                ⟨by (have hI : s.out.length + s.a.length + s.b.length ≤ 2000 := hI; (try simp only [Bool.and_eq_true, decide_eq_true_eq] at c1); first | omega | (refine ⟨by omega, ?_, ?_⟩ <;> simp only [List.length_cons, List.length_nil] <;> omega) | exact ⟨rfl, by simp⟩),
                  ⟨by (have hI : s.out.length + s.a.length + s.b.length ≤ 2000 := hI; (try simp only [Bool.and_eq_true, decide_eq_true_eq] at c1); first | omega | (refine ⟨by omega, ?_, ?_⟩ <;> simp only [List.length_cons, List.length_nil] <;> omega) | exact ⟨rfl, by simp⟩),
                    rfl⟩⟩⟩) (fun c3 =>
              stp_br (fun c4 =>
                ⟨by (have hI : s.out.length + s.a.length + s.b.length ≤ 2000 := hI; (try simp only [Bool.and_eq_true, decide_eq_true_eq] at c1); first | omega | (refine ⟨by omega, ?_, ?_⟩ <;> simp only [List.length_cons, List.length_nil] <;> omega) | exact ⟨rfl, by simp⟩),
                  ⟨by (have hI : s.out.length + s.a.length + s.b.length ≤ 2000 := hI; (try simp only [Bool.and_eq_true, decide_eq_true_eq] at c1); first | omega | (refine ⟨by omega, ?_, ?_⟩ <;> simp only [List.length_cons, List.length_nil] <;> omega) | exact ⟨rfl, by simp⟩),
                    ⟨by (have hI : s.out.length + s.a.length + s.b.length ≤ 2000 := hI; (try simp only [Bool.and_eq_true, decide_eq_true_eq] at c1); first | omega | (refine ⟨by omega, ?_, ?_⟩ <;> simp only [List.length_cons, List.length_nil] <;> omega) | exact ⟨rfl, by simp⟩),
                      ⟨by (have hI : s.out.length + s.a.length + s.b.length ≤ 2000 := hI; (try simp only [Bool.and_eq_true, decide_eq_true_eq] at c1); first | omega | (refine ⟨by omega, ?_, ?_⟩ <;> simp only [List.length_cons, List.length_nil] <;> omega) | exact ⟨rfl, by simp⟩),
                        rfl⟩⟩⟩⟩) (fun c4 =>
                ⟨by (have hI : s.out.length + s.a.length + s.b.length ≤ 2000 := hI; (try simp only [Bool.and_eq_true, decide_eq_true_eq] at c1); first | omega | (refine ⟨by omega, ?_, ?_⟩ <;> simp only [List.length_cons, List.length_nil] <;> omega) | exact ⟨rfl, by simp⟩),
                  ⟨by (have hI : s.out.length + s.a.length + s.b.length ≤ 2000 := hI; (try simp only [Bool.and_eq_true, decide_eq_true_eq] at c1); first | omega | (refine ⟨by omega, ?_, ?_⟩ <;> simp only [List.length_cons, List.length_nil] <;> omega) | exact ⟨rfl, by simp⟩),
                    ⟨by (have hI : s.out.length + s.a.length + s.b.length ≤ 2000 := hI; (try simp only [Bool.and_eq_true, decide_eq_true_eq] at c1); first | omega | (refine ⟨by omega, ?_, ?_⟩ <;> simp only [List.length_cons, List.length_nil] <;> omega) | exact ⟨rfl, by simp⟩),
                      ⟨by (have hI : s.out.length + s.a.length + s.b.length ≤ 2000 := hI; (try simp only [Bool.and_eq_true, decide_eq_true_eq] at c1); first | omega | (refine ⟨by omega, ?_, ?_⟩ <;> simp only [List.length_cons, List.length_nil] <;> omega) | exact ⟨rfl, by simp⟩),
                        rfl⟩⟩⟩⟩)))⟩⟩) (fun c1 =>
      ⟨by (have hI : s.out.length + s.a.length + s.b.length ≤ 2000 := hI; (try simp only [Bool.and_eq_true, decide_eq_true_eq] at c1); first | omega | (refine ⟨by omega, ?_, ?_⟩ <;> simp only [List.length_cons, List.length_nil] <;> omega) | exact ⟨rfl, by simp⟩),
        rfl⟩)
theorem mg_end (s : L_mg) (hE : E_mg s) : ∃ s', I_mg s' ∧ f_mg s' = .stop (exn_mg s) (run_mg s) := by rw [← run_mg_eq]; exact runW_stop mg_d (mu_mg s + 1) s (mg_E s hE) (Nat.lt_succ_self _)
theorem mg_same : ∀ s x s', f_mg s = .stop x s' → s = s' := by
  intro s x s' h
  unfold f_mg at h
  repeat' split at h
  all_goals first | (cases h; done) | (cases h; rfl)
theorem mg_inv (s : L_mg) (hE : E_mg s) : I_mg (run_mg s) ∧ f_mg (run_mg s) = .stop (exn_mg s) (run_mg s) := by
  obtain ⟨s', hI, hf⟩ := mg_end s hE
  have hs := mg_same _ _ _ hf
  subst hs
  exact ⟨hI, hf⟩
theorem snd_mg : Sound Try.prog noGlobs (.loop body_mg) (loopT 68 [0, 1, 2, 7] [.nl 7 59 tV] sel_mg out_mg) :=
  loop_view 68 [0, 1, 2, 7] [.nl 7 59 tV] A_mg B_mg I_mg E_mg mu_mg f_mg sel_mg out_mg (code_sound (Γ := specsOf [(40, S_jn1), (65, S_cNum), (67, S_vNum)]) (K := noK) (L := noLoops) (specs_ok (l := [(40, S_jn1), (65, S_cNum), (67, S_vNum)]) ⟨v_jn1, v_cNum, v_vNum, trivial⟩) noK_sound body_mg (fun b hb => by rw [show loopsIn body_mg = [] by kernel_rfl] at hb; cases hb))
    sel_mg_ok mg_E mg_d (fun s x s' hf => by have := mg_ex s x s' hf; intro h0; subst h0; simp at this) stp_mg (fun s hE => by
      obtain ⟨s', _, h2⟩ := mg_end s hE
      have h3 : exn_mg s = .exit 0 := mg_ex _ _ _ h2
      unfold out_mg
      rw [run_mg_eq]
      simp only [T.all, ← h3]
      rfl)
theorem mg_fin (s : L_mg) (hE : E_mg s) : ∃ s', I_mg s' ∧ Q_mg (exn_mg s) s' (run_mg s) := by
  obtain ⟨s', hI, hf⟩ := mg_end s hE
  exact ⟨s', hI, allR_stop (mg_da s' hI) hf⟩
def S0_mrge : List LV → T LV
  | [.xl (.pair (.int .i64) (.int .i64)) a, .xl (.pair (.int .i64) (.int .i64)) b, .fn 40 []] => .req ((List.length a : Int) ≤ 1000 ∧ (List.length b : Int) ≤ 1000) (.ok (.xl tV (mrg a b)))
  | _ => .no
noncomputable def S_mrge : List LV → T LV := upS Try.prog Try.f39.params.toList S0_mrge
theorem nf_mrge (a b : List (Int × Int)) : funu Try.prog noGlobs (specsOf [(40, S_jn1), (65, S_cNum), (67, S_vNum)]) noK (fun i => if i = 2 then loopT 68 [0, 1, 2, 7] [.nl 7 59 tV] sel_mg out_mg else noLoops i) Try.f39 [.xl tV a, .xl tV b, .fn 40 []] = .req (0 = 0 ∧ 0 = List.length ([] : List (Int × Int))) (.req (E_mg (⟨a, b, ([] : List (Int × Int))⟩ : L_mg) ∧ (List.length ([] : List (Int × Int))) = List.length ([] : List (Int × Int))) (.req (0 + (List.length (run_mg (⟨a, b, ([] : List (Int × Int))⟩ : L_mg)).out) = List.length (run_mg (⟨a, b, ([] : List (Int × Int))⟩ : L_mg)).out ∧ ((List.length (run_mg (⟨a, b, ([] : List (Int × Int))⟩ : L_mg)).out + List.length (run_mg (⟨a, b, ([] : List (Int × Int))⟩ : L_mg)).a : Nat) : Int) * 16 ≤ 2 ^ 47 ∧ ((List.length (run_mg (⟨a, b, ([] : List (Int × Int))⟩ : L_mg)).out + List.length (run_mg (⟨a, b, ([] : List (Int × Int))⟩ : L_mg)).a : Nat) : Int) < 2 ^ 62) (.req (0 + (List.length (run_mg (⟨a, b, ([] : List (Int × Int))⟩ : L_mg)).out + List.length (run_mg (⟨a, b, ([] : List (Int × Int))⟩ : L_mg)).a) = List.length ((run_mg (⟨a, b, ([] : List (Int × Int))⟩ : L_mg)).out ++ (run_mg (⟨a, b, ([] : List (Int × Int))⟩ : L_mg)).a) ∧ ((List.length (run_mg (⟨a, b, ([] : List (Int × Int))⟩ : L_mg)).out + List.length (run_mg (⟨a, b, ([] : List (Int × Int))⟩ : L_mg)).a + List.length (run_mg (⟨a, b, ([] : List (Int × Int))⟩ : L_mg)).b : Nat) : Int) * 16 ≤ 2 ^ 47 ∧ ((List.length (run_mg (⟨a, b, ([] : List (Int × Int))⟩ : L_mg)).out + List.length (run_mg (⟨a, b, ([] : List (Int × Int))⟩ : L_mg)).a + List.length (run_mg (⟨a, b, ([] : List (Int × Int))⟩ : L_mg)).b : Nat) : Int) < 2 ^ 62) (.req (0 + (List.length (run_mg (⟨a, b, ([] : List (Int × Int))⟩ : L_mg)).out + List.length (run_mg (⟨a, b, ([] : List (Int × Int))⟩ : L_mg)).a + List.length (run_mg (⟨a, b, ([] : List (Int × Int))⟩ : L_mg)).b) ≤ List.length (((run_mg (⟨a, b, ([] : List (Int × Int))⟩ : L_mg)).out ++ (run_mg (⟨a, b, ([] : List (Int × Int))⟩ : L_mg)).a) ++ (run_mg (⟨a, b, ([] : List (Int × Int))⟩ : L_mg)).b)) (.ok (.xl tV (((((run_mg (⟨a, b, ([] : List (Int × Int))⟩ : L_mg)).out ++ (run_mg (⟨a, b, ([] : List (Int × Int))⟩ : L_mg)).a) ++ (run_mg (⟨a, b, ([] : List (Int × Int))⟩ : L_mg)).b).drop 0).take (List.length (run_mg (⟨a, b, ([] : List (Int × Int))⟩ : L_mg)).out + List.length (run_mg (⟨a, b, ([] : List (Int × Int))⟩ : L_mg)).a + List.length (run_mg (⟨a, b, ([] : List (Int × Int))⟩ : L_mg)).b)))))))) := by kernel_rfl
theorem v_mrge : Valid Try.prog noGlobs 39 S_mrge := valid_ofu Try.func39 rfl (specs_ok (l := [(40, S_jn1), (65, S_cNum), (67, S_vNum)]) ⟨v_jn1, v_cNum, v_vNum, trivial⟩) noK_sound (L := (fun i => if i = 2 then loopT 68 [0, 1, 2, 7] [.nl 7 59 tV] sel_mg out_mg else noLoops i)) (fun b hb => by
  rw [show loopsIn _ = [body_mg] by kernel_rfl] at hb
  simp only [List.mem_cons, List.not_mem_nil, or_false] at hb
  subst hb
  exact snd_mg) (fun args lv h => by
  unfold S0_mrge at h
  split at h
  · simp only [canL, canX]
    rw [nf_mrge]
    rename_i a b
    obtain ⟨⟨ha, hb⟩, rfl⟩ := h
    have hE : E_mg ⟨a, b, []⟩ := ⟨rfl, by simp only; omega, by simp only; omega⟩
    obtain ⟨s', _, h1, h2, h3⟩ := mg_fin _ hE
    have hs := mg_sum ⟨a, b, []⟩ (mu_mg ⟨a, b, []⟩ + 1)
    rw [run_mg_eq] at hs
    have hs : (run_mg ⟨a, b, []⟩).out ++ mrg (run_mg ⟨a, b, []⟩).a (run_mg ⟨a, b, []⟩).b = mrg a b := hs
    generalize run_mg ⟨a, b, []⟩ = r at *
    have e : r.out ++ r.a ++ r.b = mrg a b := by
      rw [← hs]
      rcases h3 with h | h
      · rw [h, mrg_nil]; simp
      · rw [h, mrg_nil']; simp
    refine ⟨⟨rfl, rfl⟩, ⟨hE, rfl⟩, ⟨by omega, by omega, by omega⟩, ⟨by simp, by omega, by omega⟩, by simp only [List.length_append]; omega, ?_⟩
    show LV.xl _ _ = _
    rw [← e, List.drop_zero, List.take_of_length_le (by simp only [List.length_append]; omega)]
  · cases h)
def S0_join : List LV → T LV
  | [.xl (.pair (.int .i64) (.int .i64)) a, .xl (.pair (.int .i64) (.int .i64)) b] => .req ((List.length a : Int) ≤ 1000 ∧ (List.length b : Int) ≤ 1000) (.ok (.tup [.xl tV (joL a b), .v (.int .i64 (joE a b))]))
  | _ => .no
noncomputable def S_join : List LV → T LV := upS Try.prog Try.f14.params.toList S0_join
theorem nf_join (a b : List (Int × Int)) : funu Try.prog noGlobs (specsOf [(27, S_vsOf), (29, S_vlv), (39, S_mrge), (40, S_jn1), (41, S_mp3), (42, S_jn2)]) noK noLoops Try.f14 [.xl tV a, .xl tV b] = .req ((List.length a : Int) ≤ 1000) (.req ((List.length b : Int) ≤ 1000) (.br ((!(vlV a)) || (!(vlV b))) (.ok (.tup [.xl tV ([] : List (Int × Int)), .v (.int .i64 1)])) (.req ((List.length a : Int) ≤ 1000 ∧ (List.length b : Int) ≤ 1000) (.br (decide ((List.length (mrg a b) : Int) > 64)) (.ok (.tup [.xl tV ([] : List (Int × Int)), .v (.int .i64 2)])) (.req ((List.length (mrg a b) : Int) ≤ 1000) (.ok (.tup [.xl tV (mrg a b), .v (.int .i64 0)]))))))) := by kernel_rfl
theorem v_join : Valid Try.prog noGlobs 14 S_join := valid_ofu Try.func14 rfl (specs_ok (l := [(27, S_vsOf), (29, S_vlv), (39, S_mrge), (40, S_jn1), (41, S_mp3), (42, S_jn2)]) ⟨v_vsOf, v_vlv, v_mrge, v_jn1, v_mp3, v_jn2, trivial⟩) noK_sound (no_loops (by kernel_rfl)) (fun args lv h => by
  unfold S0_join at h
  split at h
  · simp only [canL, canX]
    rw [nf_join]
    rename_i a b
    obtain ⟨⟨ha, hb⟩, h⟩ := h
    have h := jo_of (K := fun x y => LV.tup [.xl tV x, .v (.int .i64 y)] = lv) h
    have e : ((!(vlV a)) || (!(vlV b))) = !(vlV a && vlV b) := by simp
    rw [e]
    refine ⟨ha, hb, fun c1 => h.2 (by simpa only [Bool.not_eq_true'] using c1), fun c1 => ⟨⟨ha, hb⟩, fun c2 => (h.1 (by simpa only [Bool.not_eq_false'] using c1)).1 c2, fun c2 => ⟨?_, (h.1 (by simpa only [Bool.not_eq_false'] using c1)).2 c2⟩⟩⟩
    have c2 : ¬ (64 < (List.length (mrg a b) : Int)) := by simpa using c2
    omega
  · cases h)
def S0_acc : List LV → T LV
  | [.xl (.pair (.int .i64) (.pair (.int .i64) (.pair (.int .i64) (.int .i64)))) l, .xl (.pair (.int .i64) (.int .i64)) v, .v (.int .i64 n), .v (.int .i64 e)] => .req ((List.length l : Int) ≤ 1000 ∧ (List.length v : Int) ≤ 1000) (.ok (.v (.tuple #[.int .i64 (acK l v n e), .int .i64 (acE l v n e)])))
  | _ => .no
noncomputable def S_acc : List LV → T LV := upS Try.prog Try.f12.params.toList S0_acc
theorem nf_acc (l : List (Int × (Int × (Int × Int)))) (v : List (Int × Int)) (n e : Int) : funu Try.prog noGlobs (specsOf [(26, S_csOf), (27, S_vsOf), (28, S_vlc), (29, S_vlv), (30, S_isNu), (31, S_isEp), (32, S_fdc), (33, S_cIn), (34, S_rvk)]) noK noLoops Try.f12 [.xl tC l, .xl tV v, .v (.int .i64 n), .v (.int .i64 e)] = .req ((List.length l : Int) ≤ 1000) (.req ((List.length v : Int) ≤ 1000) (.br ((!(vlC l)) || ((!(vlV v)) || ((!(inB n 1 1000000)) || (!(inB e 0 1000000))))) (.ok (.v (.tuple #[.int .i64 0, .int .i64 1]))) (.req (ckC 0 l = true ∧ (List.length l : Int) ≤ 1000) (.br (!(hsC l n)) (.ok (.v (.tuple #[.int .i64 0, .int .i64 4]))) (.br (!(inB e (fnC l n).2.2.1 (fnC l n).2.2.2)) (.ok (.v (.tuple #[.int .i64 0, .int .i64 15]))) (.req (ckV 0 v = true ∧ (List.length v : Int) ≤ 1000) (.br (rvB v n e) (.ok (.v (.tuple #[.int .i64 0, .int .i64 12]))) (.ok (.v (.tuple #[.int .i64 (fnC l n).2.1, .int .i64 0])))))))))) := by kernel_rfl
theorem v_acc : Valid Try.prog noGlobs 12 S_acc := valid_ofu Try.func12 rfl (specs_ok (l := [(26, S_csOf), (27, S_vsOf), (28, S_vlc), (29, S_vlv), (30, S_isNu), (31, S_isEp), (32, S_fdc), (33, S_cIn), (34, S_rvk)]) ⟨v_csOf, v_vsOf, v_vlc, v_vlv, v_isNu, v_isEp, v_fdc, v_cIn, v_rvk, trivial⟩) noK_sound (no_loops (by kernel_rfl)) (fun args lv h => by
  unfold S0_acc at h
  split at h
  · simp only [canL, canX]
    rw [nf_acc]
    rename_i l v n e
    obtain ⟨⟨ha, hb⟩, rfl⟩ := h
    have fin : ∀ k q : Int, k = acK l v n e → q = acE l v n e → LV.v (.tuple #[.int .i64 k, .int .i64 q]) = LV.v (.tuple #[.int .i64 (acK l v n e), .int .i64 (acE l v n e)]) := fun k q h1 h2 => by rw [h1, h2]
    have vc : vlC l = true → ckC 0 l = true := fun h => by simp [vlC] at h; exact h.2
    have vv : vlV v = true → ckV 0 v = true := fun h => by simp [vlV] at h; exact h.2
    refine ⟨ha, hb, fun c1 => ?_, fun c1 => ?_⟩
    · have : acE l v n e = 1 := by unfold acE; rw [if_pos (by simpa using c1)]
      exact fin _ _ (by simp [acK, this]) this.symm
    simp only [Bool.or_eq_false_iff, Bool.not_eq_false'] at c1
    have n1 : ¬ (vlC l = false ∨ vlV v = false ∨ inB n 1 1000000 = false ∨ inB e 0 1000000 = false) := by simp [c1]
    refine ⟨⟨vc c1.1, ha⟩, fun c2 => ?_, fun c2 => ⟨fun c3 => ?_, fun c3 => ⟨⟨vv c1.2.1, hb⟩, fun c4 => ?_, fun c4 => ?_⟩⟩⟩
    all_goals simp only [Bool.not_eq_true', Bool.not_eq_false'] at *
    · have : acE l v n e = 4 := by unfold acE; rw [if_neg n1, if_pos c2]
      exact fin _ _ (by simp [acK, this]) this.symm
    · have : acE l v n e = 15 := by unfold acE; rw [if_neg n1, if_neg (by simp [c2]), if_pos c3]
      exact fin _ _ (by simp [acK, this]) this.symm
    · have : acE l v n e = 12 := by unfold acE; rw [if_neg n1, if_neg (by simp [c2]), if_neg (by simp [c3]), if_pos c4]
      exact fin _ _ (by simp [acK, this]) this.symm
    · have : acE l v n e = 0 := by unfold acE; rw [if_neg n1, if_neg (by simp [c2]), if_neg (by simp [c3]), if_neg (by simp [c4])]
      exact fin _ _ (by simp [acK, this]) this.symm
  · cases h)
def S0_cvalid : List LV → T LV
  | [.xl (.pair (.int .i64) (.pair (.int .i64) (.pair (.int .i64) (.int .i64)))) l] => .req ((List.length l : Int) ≤ 1000) (.ok (.v (.bool (vlC l))))
  | _ => .no
noncomputable def S_cvalid : List LV → T LV := upS Try.prog Try.f20.params.toList S0_cvalid
theorem nf_cvalid (l : List (Int × (Int × (Int × Int)))) : funu Try.prog noGlobs (specsOf [(26, S_csOf), (28, S_vlc)]) noK noLoops Try.f20 [.xl tC l] = .req ((List.length l : Int) ≤ 1000) (.ok (.v (.bool (vlC l)))) := by kernel_rfl
theorem v_cvalid : Valid Try.prog noGlobs 20 S_cvalid := valid_ofu Try.func20 rfl (specs_ok (l := [(26, S_csOf), (28, S_vlc)]) ⟨v_csOf, v_vlc, trivial⟩) noK_sound (no_loops (by kernel_rfl)) (fun args lv h => by
  unfold S0_cvalid at h
  split at h
  · simp only [canL, canX]
    rw [nf_cvalid]
    exact h
  · cases h)
end Go.Proofs.Ytcpadfehoaopaaa
