/- RampRest: what it computes. -/
import Derived.Test.YtgghdejgfihkcaaDoorRq
namespace Go.Proofs.YtgghdejgfihkcaaDoor
open Go.Sx
structure L_rest where
  wants : List Int
  up_ : Bool
  off : Int
  on : Int
  n : Int
  i : Int
  c_Name : ByteArray
  c_At : Int
  c_Phases : Int
  c_Min : Int
  c_Max : Int
  c_Step : Int
  c_Fallback : Int
  c_Owner : Int
  r_Amps : Int
  r_Since : Int
def A_rest (s : L_rest) : List LV := [.xl (.int .i64) s.wants, .own 0 0, .own 1 0, .v (.bool s.up_), .v (.int .i64 s.off), .v (.int .i64 s.on), .v (.int .i64 s.n), .v (.int .i64 s.i)]
def B_rest (s : L_rest) : List Blk := [⟨[.v (.string s.c_Name), .v (.int .i64 s.c_At), .v (.int .i64 s.c_Phases), .v (.int .i64 s.c_Min), .v (.int .i64 s.c_Max), .v (.int .i64 s.c_Step), .v (.int .i64 s.c_Fallback), .v (.int .i64 s.c_Owner)], 23⟩, ⟨[.v (.int .i64 s.r_Amps), .v (.int .i64 s.r_Since)], 25⟩]
noncomputable def body_rest : Code := ((loopsIn (Tryd.f5.body.getD .skip))[0]?).getD .skip
def f_rest (s : L_rest) : Rd L_rest :=
  if decide (s.i < ((List.length s.wants : Int))) then
    if (nE s.c_Phases s.c_Min s.c_Max s.c_Step s.c_Fallback s.r_Amps s.r_Since ((gx (e := .int .i64) s.wants s.i))) != 0 then
      .next { s with i := (IntKind.i64.wrap (s.i + 1)) }
    else
      if (decide (s.r_Amps > 0)) && ((nA s.c_Phases s.c_Min s.c_Max s.c_Step s.c_Fallback s.r_Amps s.r_Since ((gx (e := .int .i64) s.wants s.i))) == 0) then
        if (s.r_Amps == 0) && (decide ((nA s.c_Phases s.c_Min s.c_Max s.c_Step s.c_Fallback s.r_Amps s.r_Since ((gx (e := .int .i64) s.wants s.i))) > 0)) then
          .next { s with up_ := s.up_ && (decide ((IntKind.i64.wrap ((IntKind.i64.wrap (s.n + 1)) - (IntKind.i64.wrap (s.n + 1)))) ≥ 6)), off := (IntKind.i64.wrap (s.n + 1)), on := (IntKind.i64.wrap (s.on + 1)), n := (IntKind.i64.wrap (s.n + 1)), i := (IntKind.i64.wrap (s.i + 1)), r_Amps := (nA s.c_Phases s.c_Min s.c_Max s.c_Step s.c_Fallback s.r_Amps s.r_Since ((gx (e := .int .i64) s.wants s.i))), r_Since := (nS s.c_Phases s.c_Min s.c_Max s.c_Step s.c_Fallback s.r_Amps s.r_Since ((gx (e := .int .i64) s.wants s.i))) }
        else
          .next { s with off := (IntKind.i64.wrap (s.n + 1)), n := (IntKind.i64.wrap (s.n + 1)), i := (IntKind.i64.wrap (s.i + 1)), r_Amps := (nA s.c_Phases s.c_Min s.c_Max s.c_Step s.c_Fallback s.r_Amps s.r_Since ((gx (e := .int .i64) s.wants s.i))), r_Since := (nS s.c_Phases s.c_Min s.c_Max s.c_Step s.c_Fallback s.r_Amps s.r_Since ((gx (e := .int .i64) s.wants s.i))) }
      else
        if (s.r_Amps == 0) && (decide ((nA s.c_Phases s.c_Min s.c_Max s.c_Step s.c_Fallback s.r_Amps s.r_Since ((gx (e := .int .i64) s.wants s.i))) > 0)) then
          .next { s with up_ := s.up_ && (decide ((IntKind.i64.wrap ((IntKind.i64.wrap (s.n + 1)) - s.off)) ≥ 6)), on := (IntKind.i64.wrap (s.on + 1)), n := (IntKind.i64.wrap (s.n + 1)), i := (IntKind.i64.wrap (s.i + 1)), r_Amps := (nA s.c_Phases s.c_Min s.c_Max s.c_Step s.c_Fallback s.r_Amps s.r_Since ((gx (e := .int .i64) s.wants s.i))), r_Since := (nS s.c_Phases s.c_Min s.c_Max s.c_Step s.c_Fallback s.r_Amps s.r_Since ((gx (e := .int .i64) s.wants s.i))) }
        else
          .next { s with n := (IntKind.i64.wrap (s.n + 1)), i := (IntKind.i64.wrap (s.i + 1)), r_Amps := (nA s.c_Phases s.c_Min s.c_Max s.c_Step s.c_Fallback s.r_Amps s.r_Since ((gx (e := .int .i64) s.wants s.i))), r_Since := (nS s.c_Phases s.c_Min s.c_Max s.c_Step s.c_Fallback s.r_Amps s.r_Since ((gx (e := .int .i64) s.wants s.i))) }
  else
    .stop (.exit 0) s
def P_rest (s : L_rest) := ((), s.wants, s.c_Name, s.c_At, s.c_Phases, s.c_Min, s.c_Max, s.c_Step, s.c_Fallback, s.c_Owner)
theorem rest_ex : ∀ s x s', f_rest s = .stop x s' → x = .exit 0 := by
  intro s x s' h
  unfold f_rest at h
  repeat' split at h
  all_goals first | (cases h; done) | (cases h; rfl) | (cases h; simp)
def R_rest (s : L_rest) : Prop := raB s.c_Phases s.c_Min s.c_Max s.c_Step s.c_Fallback s.r_Amps s.r_Since = true ∧ (s.wants.length : Int) ≤ 200
def E_rest (s : L_rest) : Prop := R_rest s ∧ s.up_ = true ∧ s.off = -100 ∧ s.on = 0 ∧ s.n = 0 ∧ s.i = 0
def J_rest (s : L_rest) : Prop := 0 ≤ s.i ∧ s.i ≤ (s.wants.length : Int) ∧ 0 ≤ s.n ∧ s.n ≤ s.i ∧ s.off ≤ s.n ∧ (s.off = -100 ∨ 0 ≤ s.off) ∧ 0 ≤ s.on ∧ s.on ≤ s.n ∧ (s.r_Amps = 0 → s.off = -100 ∨ s.r_Since ≤ s.n - s.off) ∧ (s.r_Amps = 0 → s.on = 0 ∨ 7 * (s.on - 1) + 2 ≤ s.off) ∧ (s.r_Amps ≠ 0 → s.on = 0 ∨ 7 * (s.on - 1) + 1 ≤ s.n)
def I_rest (s : L_rest) : Prop := R_rest s ∧ s.up_ = true ∧ J_rest s
def mu_rest (s : L_rest) : Nat := ((s.wants.length : Int) - s.i).toNat
theorem rest_E : ∀ s, E_rest s → I_rest s := by
  intro s h
  obtain ⟨h1, h2, h3, h4, h5, h6⟩ := h
  refine ⟨h1, h2, ?_⟩
  unfold J_rest
  rw [h3, h4, h5, h6]
  omega
theorem rest_d : ∀ s s', I_rest s → f_rest s = .next s' → I_rest s' ∧ mu_rest s' < mu_rest s := by
  intro s s' hI h
  obtain ⟨⟨hr, hlen⟩, hu, hJ⟩ := hI
  have hp := ra_pos hr
  unfold J_rest at hJ
  unfold f_rest at h
  generalize hw : gx (e := .int .i64) s.wants s.i = want at h
  split at h
  · rename_i hi
    have hi : s.i < (s.wants.length : Int) := by simpa using hi
    rw [wrapS (x := s.i + 1) (by omega) (by omega)] at h
    split at h
    · cases h
      refine ⟨⟨⟨hr, hlen⟩, hu, ?_⟩, by simp only [mu_rest]; omega⟩
      unfold J_rest
      simp only
      omega
    · rename_i he
      have hk : okB s.c_Phases s.c_Min s.c_Max s.c_Step s.c_Fallback s.r_Amps s.r_Since want = true := okB_nE (by simpa using he)
      have hr' := ra_next hk
      obtain ⟨n1, n2, n3, n4, n5, n6⟩ := next_facts hk
      rw [wrapS (x := s.n + 1) (by omega) (by omega), wrapS (x := s.on + 1) (by omega) (by omega), wrapS (x := s.n + 1 - s.off) (by omega) (by omega)] at h
      split at h
      · rename_i c1
        simp only [Bool.and_eq_true, decide_eq_true_eq, beq_iff_eq] at c1
        split at h
        · rename_i c2
          simp only [Bool.and_eq_true, decide_eq_true_eq, beq_iff_eq] at c2
          omega
        · cases h
          refine ⟨⟨⟨hr', hlen⟩, hu, ?_⟩, by simp only [mu_rest]; omega⟩
          unfold J_rest
          simp only
          omega
      · rename_i c1
        simp only [Bool.and_eq_true, decide_eq_true_eq, beq_iff_eq] at c1
        split at h
        · rename_i c2
          simp only [Bool.and_eq_true, decide_eq_true_eq, beq_iff_eq] at c2
          cases h
          refine ⟨⟨⟨hr', hlen⟩, ?_, ?_⟩, by simp only [mu_rest]; omega⟩
          · simp only [hu, Bool.true_and, decide_eq_true_eq]
            omega
          · unfold J_rest
            simp only
            omega
        · rename_i c2
          simp only [Bool.and_eq_true, decide_eq_true_eq, beq_iff_eq] at c2
          cases h
          refine ⟨⟨⟨hr', hlen⟩, hu, ?_⟩, by simp only [mu_rest]; omega⟩
          unfold J_rest
          simp only
          omega
  · cases h
def sel_rest : List LV → List Blk → T L_rest
  | [.xl (.int .i64) wants, .own 0 0, .own 1 0, .v (.bool up_), .v (.int .i64 off), .v (.int .i64 on), .v (.int .i64 n), .v (.int .i64 i)], [⟨[.v (.string c_Name), .v (.int .i64 c_At), .v (.int .i64 c_Phases), .v (.int .i64 c_Min), .v (.int .i64 c_Max), .v (.int .i64 c_Step), .v (.int .i64 c_Fallback), .v (.int .i64 c_Owner)], 23⟩, ⟨[.v (.int .i64 r_Amps), .v (.int .i64 r_Since)], 25⟩] => .req (E_rest ⟨wants, up_, off, on, n, i, c_Name, c_At, c_Phases, c_Min, c_Max, c_Step, c_Fallback, c_Owner, r_Amps, r_Since⟩) (.ok ⟨wants, up_, off, on, n, i, c_Name, c_At, c_Phases, c_Min, c_Max, c_Step, c_Fallback, c_Owner, r_Amps, r_Since⟩)
  | _, _ => .no
theorem sel_rest_ok : ∀ vals blks s, (sel_rest vals blks).all (fun x => x = s) → E_rest s ∧ vals = A_rest s ∧ blks = B_rest s := by
  intro vals blks s h
  unfold sel_rest at h
  split at h
  · obtain ⟨h1, rfl⟩ := h
    exact ⟨h1, rfl, rfl⟩
  · cases h
def run_rest (s : L_rest) : L_rest := { (runW f_rest (mu_rest s + 1) s).2 with wants := s.wants, c_Name := s.c_Name, c_At := s.c_At, c_Phases := s.c_Phases, c_Min := s.c_Min, c_Max := s.c_Max, c_Step := s.c_Step, c_Fallback := s.c_Fallback, c_Owner := s.c_Owner }
theorem run_rest_eq (s : L_rest) : (runW f_rest (mu_rest s + 1) s).2 = run_rest s := by
  have hk := runW_keep (f := f_rest) P_rest (fun s s' hf => by
    unfold f_rest at hf
    repeat' split at hf
    all_goals cases hf
    all_goals rfl) (fun s x s' hf => by
    unfold f_rest at hf
    repeat' split at hf
    all_goals cases hf
    all_goals rfl) (mu_rest s + 1) s
  unfold run_rest
  generalize (runW f_rest (mu_rest s + 1) s).2 = r at *
  cases r
  simp only [P_rest, Prod.mk.injEq, true_and] at hk
  simp only [L_rest.mk.injEq, hk, and_self]
def exn_rest (s : L_rest) : Ex := (runW f_rest (mu_rest s + 1) s).1
def out_rest (s : L_rest) : T (Ex × List LV × List Blk) := .ok (.exit 0, frameOf 82 [2, 3, 4, 7, 9, 10, 11, 12] (A_rest (run_rest s)), B_rest (run_rest s))
theorem nfl_rest (s : L_rest) : (codex Tryd.prog glR (specsOf [(9, S_head), (10, S_next), (13, S_rrv)]) noLoops body_rest (frameOf 82 [2, 3, 4, 7, 9, 10, 11, 12] (A_rest s)) (B_rest s)).bind (fun q => .ok (viewQ [2, 3, 4, 7, 9, 10, 11, 12] 2 q)) = .br (decide (s.i < ((List.length s.wants : Int)))) (.req (0 ≤ s.i ∧ s.i < (List.length s.wants : Int)) (.br ((nE s.c_Phases s.c_Min s.c_Max s.c_Step s.c_Fallback s.r_Amps s.r_Since ((gx (e := .int .i64) s.wants s.i))) != 0) (.ok (⟨.normal, 82, [.xl (.int .i64) s.wants, .own 0 0, .own 1 0, .v (.bool s.up_), .v (.int .i64 s.off), .v (.int .i64 s.on), .v (.int .i64 s.n), .v (.int .i64 (IntKind.i64.wrap (s.i + 1)))], [⟨[.v (.string s.c_Name), .v (.int .i64 s.c_At), .v (.int .i64 s.c_Phases), .v (.int .i64 s.c_Min), .v (.int .i64 s.c_Max), .v (.int .i64 s.c_Step), .v (.int .i64 s.c_Fallback), .v (.int .i64 s.c_Owner)], 23⟩, ⟨[.v (.int .i64 s.r_Amps), .v (.int .i64 s.r_Since)], 25⟩], true⟩)) (.br ((decide (s.r_Amps > 0)) && ((nA s.c_Phases s.c_Min s.c_Max s.c_Step s.c_Fallback s.r_Amps s.r_Since ((gx (e := .int .i64) s.wants s.i))) == 0)) (.br ((s.r_Amps == 0) && (decide ((nA s.c_Phases s.c_Min s.c_Max s.c_Step s.c_Fallback s.r_Amps s.r_Since ((gx (e := .int .i64) s.wants s.i))) > 0))) (.ok (⟨.normal, 82, [.xl (.int .i64) s.wants, .own 0 0, .own 1 0, .v (.bool (s.up_ && (decide ((IntKind.i64.wrap ((IntKind.i64.wrap (s.n + 1)) - (IntKind.i64.wrap (s.n + 1)))) ≥ 6)))), .v (.int .i64 (IntKind.i64.wrap (s.n + 1))), .v (.int .i64 (IntKind.i64.wrap (s.on + 1))), .v (.int .i64 (IntKind.i64.wrap (s.n + 1))), .v (.int .i64 (IntKind.i64.wrap (s.i + 1)))], [⟨[.v (.string s.c_Name), .v (.int .i64 s.c_At), .v (.int .i64 s.c_Phases), .v (.int .i64 s.c_Min), .v (.int .i64 s.c_Max), .v (.int .i64 s.c_Step), .v (.int .i64 s.c_Fallback), .v (.int .i64 s.c_Owner)], 23⟩, ⟨[.v (.int .i64 (nA s.c_Phases s.c_Min s.c_Max s.c_Step s.c_Fallback s.r_Amps s.r_Since ((gx (e := .int .i64) s.wants s.i)))), .v (.int .i64 (nS s.c_Phases s.c_Min s.c_Max s.c_Step s.c_Fallback s.r_Amps s.r_Since ((gx (e := .int .i64) s.wants s.i))))], 25⟩], true⟩)) (.ok (⟨.normal, 82, [.xl (.int .i64) s.wants, .own 0 0, .own 1 0, .v (.bool s.up_), .v (.int .i64 (IntKind.i64.wrap (s.n + 1))), .v (.int .i64 s.on), .v (.int .i64 (IntKind.i64.wrap (s.n + 1))), .v (.int .i64 (IntKind.i64.wrap (s.i + 1)))], [⟨[.v (.string s.c_Name), .v (.int .i64 s.c_At), .v (.int .i64 s.c_Phases), .v (.int .i64 s.c_Min), .v (.int .i64 s.c_Max), .v (.int .i64 s.c_Step), .v (.int .i64 s.c_Fallback), .v (.int .i64 s.c_Owner)], 23⟩, ⟨[.v (.int .i64 (nA s.c_Phases s.c_Min s.c_Max s.c_Step s.c_Fallback s.r_Amps s.r_Since ((gx (e := .int .i64) s.wants s.i)))), .v (.int .i64 (nS s.c_Phases s.c_Min s.c_Max s.c_Step s.c_Fallback s.r_Amps s.r_Since ((gx (e := .int .i64) s.wants s.i))))], 25⟩], true⟩))) (.br ((s.r_Amps == 0) && (decide ((nA s.c_Phases s.c_Min s.c_Max s.c_Step s.c_Fallback s.r_Amps s.r_Since ((gx (e := .int .i64) s.wants s.i))) > 0))) (.ok (⟨.normal, 82, [.xl (.int .i64) s.wants, .own 0 0, .own 1 0, .v (.bool (s.up_ && (decide ((IntKind.i64.wrap ((IntKind.i64.wrap (s.n + 1)) - s.off)) ≥ 6)))), .v (.int .i64 s.off), .v (.int .i64 (IntKind.i64.wrap (s.on + 1))), .v (.int .i64 (IntKind.i64.wrap (s.n + 1))), .v (.int .i64 (IntKind.i64.wrap (s.i + 1)))], [⟨[.v (.string s.c_Name), .v (.int .i64 s.c_At), .v (.int .i64 s.c_Phases), .v (.int .i64 s.c_Min), .v (.int .i64 s.c_Max), .v (.int .i64 s.c_Step), .v (.int .i64 s.c_Fallback), .v (.int .i64 s.c_Owner)], 23⟩, ⟨[.v (.int .i64 (nA s.c_Phases s.c_Min s.c_Max s.c_Step s.c_Fallback s.r_Amps s.r_Since ((gx (e := .int .i64) s.wants s.i)))), .v (.int .i64 (nS s.c_Phases s.c_Min s.c_Max s.c_Step s.c_Fallback s.r_Amps s.r_Since ((gx (e := .int .i64) s.wants s.i))))], 25⟩], true⟩)) (.ok (⟨.normal, 82, [.xl (.int .i64) s.wants, .own 0 0, .own 1 0, .v (.bool s.up_), .v (.int .i64 s.off), .v (.int .i64 s.on), .v (.int .i64 (IntKind.i64.wrap (s.n + 1))), .v (.int .i64 (IntKind.i64.wrap (s.i + 1)))], [⟨[.v (.string s.c_Name), .v (.int .i64 s.c_At), .v (.int .i64 s.c_Phases), .v (.int .i64 s.c_Min), .v (.int .i64 s.c_Max), .v (.int .i64 s.c_Step), .v (.int .i64 s.c_Fallback), .v (.int .i64 s.c_Owner)], 23⟩, ⟨[.v (.int .i64 (nA s.c_Phases s.c_Min s.c_Max s.c_Step s.c_Fallback s.r_Amps s.r_Since ((gx (e := .int .i64) s.wants s.i)))), .v (.int .i64 (nS s.c_Phases s.c_Min s.c_Max s.c_Step s.c_Fallback s.r_Amps s.r_Since ((gx (e := .int .i64) s.wants s.i))))], 25⟩], true⟩)))))) (.ok (⟨.exit 0, 82, [.xl (.int .i64) s.wants, .own 0 0, .own 1 0, .v (.bool s.up_), .v (.int .i64 s.off), .v (.int .i64 s.on), .v (.int .i64 s.n), .v (.int .i64 s.i)], [⟨[.v (.string s.c_Name), .v (.int .i64 s.c_At), .v (.int .i64 s.c_Phases), .v (.int .i64 s.c_Min), .v (.int .i64 s.c_Max), .v (.int .i64 s.c_Step), .v (.int .i64 s.c_Fallback), .v (.int .i64 s.c_Owner)], 23⟩, ⟨[.v (.int .i64 s.r_Amps), .v (.int .i64 s.r_Since)], 25⟩], true⟩)) := by kernel_rfl
theorem stp_rest (s : L_rest) (hI : I_rest s) : AllT (fun v => v = rdV 82 A_rest B_rest (f_rest s)) ((codex Tryd.prog glR (specsOf [(9, S_head), (10, S_next), (13, S_rrv)]) noLoops body_rest (frameOf 82 [2, 3, 4, 7, 9, 10, 11, 12] (A_rest s)) (B_rest s)).bind (fun q => .ok (viewQ [2, 3, 4, 7, 9, 10, 11, 12] 2 q))) := by
  constructor
  rw [nfl_rest]
  unfold f_rest
  exact
    stp_br (fun c1 =>
      ⟨by (have hJ := hI.2.2; unfold J_rest at hJ; simp at c1; omega),
        stp_br (fun c2 =>
          rfl) (fun c2 =>
          stp_br (fun c3 =>
            stp_br (fun c4 =>
              rfl) (fun c4 =>
              rfl)) (fun c3 =>
            stp_br (fun c5 =>
              rfl) (fun c5 =>
              rfl)))⟩) (fun c1 =>
      rfl)
theorem rest_end (s : L_rest) (hE : E_rest s) : ∃ s', I_rest s' ∧ f_rest s' = .stop (exn_rest s) (run_rest s) := by rw [← run_rest_eq]; exact runW_stop rest_d (mu_rest s + 1) s (rest_E s hE) (Nat.lt_succ_self _)
theorem snd_rest : Sound Tryd.prog glR (.loop body_rest) (loopT 82 2 [2, 3, 4, 7, 9, 10, 11, 12] sel_rest out_rest) :=
  loop_view 82 2 [2, 3, 4, 7, 9, 10, 11, 12] A_rest B_rest I_rest E_rest mu_rest f_rest sel_rest out_rest (code_sound (Γ := specsOf [(9, S_head), (10, S_next), (13, S_rrv)]) (L := noLoops) (specs_ok (l := [(9, S_head), (10, S_next), (13, S_rrv)]) ⟨v_head, v_next, v_rrv, trivial⟩) body_rest (fun b hb => by rw [show loopsIn body_rest = [] by kernel_rfl] at hb; cases hb))
    sel_rest_ok rest_E (fun s _ => ⟨rfl, rfl⟩) rest_d (fun s x s' hf => by have := rest_ex s x s' hf; intro h0; subst h0; simp at this) stp_rest (fun s hE => by
      obtain ⟨s', _, h2⟩ := rest_end s hE
      have h3 : exn_rest s = .exit 0 := rest_ex _ _ _ h2
      unfold out_rest
      rw [run_rest_eq]
      simp only [T.all, ← h3]
      rfl)
theorem rest_fin (s : L_rest) (hE : E_rest s) : (run_rest s).up_ = true ∧ True ∧ (run_rest s).on ≤ IntKind.i64.wrap (IntKind.i64.wrap ((run_rest s).n.tdiv 7) + 1) := by
  obtain ⟨s', hI, hf⟩ := rest_end s hE
  have hs : s' = run_rest s := by
    unfold f_rest at hf
    repeat' split at hf
    all_goals first | (cases hf; done) | exact (Rd.stop.inj hf).2
  rw [← hs]
  obtain ⟨⟨_, hl⟩, hu, hJ⟩ := hI
  unfold J_rest at hJ
  refine ⟨hu, trivial, ?_⟩
  rw [Int.tdiv_eq_ediv_of_nonneg (by omega), wrapS (x := s'.n / 7) (by omega) (by omega), wrapS (by omega) (by omega)]
  omega
def S_restl : List LV → T LV
  | [.v (.agg ⟨[.string nm, .int .i64 at_, .int .i64 ph, .int .i64 mn, .int .i64 mx, .int .i64 st, .int .i64 fb, .int .i64 ow]⟩), .v (.agg ⟨[.int .i64 a, .int .i64 si]⟩), .xl (.int .i64) wants] => .ok (.v (.bool true))
  | _ => .no
theorem nf_restl (nm : ByteArray) (at_ ph mn mx st fb ow a si : Int) (wants : List Int) : funx Tryd.prog glR (specsOf [(9, S_head), (10, S_next), (13, S_rrv)]) (fun i => if i = 9 then loopT 82 2 [2, 3, 4, 7, 9, 10, 11, 12] sel_rest out_rest else noLoops i) Tryd.f5 [.v (.agg #[.string nm, .int .i64 at_, .int .i64 ph, .int .i64 mn, .int .i64 mx, .int .i64 st, .int .i64 fb, .int .i64 ow]), .v (.agg #[.int .i64 a, .int .i64 si]), .xl (.int .i64) wants] = .br ((!(raB ph mn mx st fb a si)) || (decide (((List.length wants : Int)) > 200))) (.ok (.v (.bool true))) (.req (E_rest (⟨wants, true, (-100 : Int), (0 : Int), (0 : Int), (0 : Int), nm, at_, ph, mn, mx, st, fb, ow, a, si⟩ : L_rest)) (.br (((run_rest (⟨wants, true, (-100 : Int), (0 : Int), (0 : Int), (0 : Int), nm, at_, ph, mn, mx, st, fb, ow, a, si⟩ : L_rest)).up_)) (.req ((7 : Int) ≠ 0) (.ok (.v (.bool (decide ((((run_rest (⟨wants, true, (-100 : Int), (0 : Int), (0 : Int), (0 : Int), nm, at_, ph, mn, mx, st, fb, ow, a, si⟩ : L_rest)).on)) ≤ (IntKind.i64.wrap ((IntKind.i64.wrap ((((run_rest (⟨wants, true, (-100 : Int), (0 : Int), (0 : Int), (0 : Int), nm, at_, ph, mn, mx, st, fb, ow, a, si⟩ : L_rest)).n)).tdiv 7)) + 1)))))))) (.ok (.v (.bool false))))) := by kernel_rfl
theorem v_restl : Valid Tryd.prog glR 5 S_restl := valid_of Tryd.func5 rfl (specs_ok (l := [(9, S_head), (10, S_next), (13, S_rrv)]) ⟨v_head, v_next, v_rrv, trivial⟩) (L := (fun i => if i = 9 then loopT 82 2 [2, 3, 4, 7, 9, 10, 11, 12] sel_rest out_rest else noLoops i)) (fun b hb => by
  rw [show loopsIn _ = [body_rest] by kernel_rfl] at hb
  simp only [List.mem_cons, List.not_mem_nil, or_false] at hb
  subst hb
  exact snd_rest) (fun args lv h => by
  unfold S_restl at h
  split at h
  · rw [nf_restl]
    rename_i nm at_ ph mn mx st fb ow a si wants
    obtain rfl := h
    refine ⟨fun _ => rfl, fun hk => ?_⟩
    simp only [Bool.or_eq_false_iff, Bool.not_eq_false', decide_eq_false_iff_not] at hk
    have hE : E_rest ⟨wants, true, (-100 : Int), (0 : Int), (0 : Int), (0 : Int), nm, at_, ph, mn, mx, st, fb, ow, a, si⟩ := ⟨⟨hk.1, by simp only; omega⟩, rfl, rfl, rfl, rfl, rfl⟩
    obtain ⟨h1, h2, h3⟩ := rest_fin _ hE
    refine ⟨hE, fun _ => ⟨by omega, ?_⟩, fun hf => ?_⟩
    · exact congrArg (fun z => LV.v (.bool z)) (by simpa using h3)
    · rw [h1] at hf; cases hf
  · cases h)
end Go.Proofs.YtgghdejgfihkcaaDoor
