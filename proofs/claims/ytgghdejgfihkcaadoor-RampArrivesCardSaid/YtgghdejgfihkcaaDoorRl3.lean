/- RampArrives: what it computes. -/
import Derived.Test.YtgghdejgfihkcaaDoorRl1
namespace Go.Proofs.YtgghdejgfihkcaaDoor
open Go.Sx
structure L_arr1 where
  want : Int
  t6 : Bool
  up_ : Bool
  level : Int
  levels : Int
  a : Int
  c_Name : ByteArray
  c_At : Int
  c_Phases : Int
  c_Min : Int
  c_Max : Int
  c_Step : Int
  c_Fallback : Int
  c_Owner : Int
  r_Amps : Int
  r_Since : Int
def A_arr1 (s : L_arr1) : List LV := [.v (.int .i64 s.want), .own 0 0, .own 1 0, .v (.bool s.t6), .v (.bool s.up_), .v (.int .i64 s.level), .v (.int .i64 s.levels), .v (.int .i64 s.a)]
def B_arr1 (s : L_arr1) : List Blk := [⟨[.v (.string s.c_Name), .v (.int .i64 s.c_At), .v (.int .i64 s.c_Phases), .v (.int .i64 s.c_Min), .v (.int .i64 s.c_Max), .v (.int .i64 s.c_Step), .v (.int .i64 s.c_Fallback), .v (.int .i64 s.c_Owner)], 23⟩, ⟨[.v (.int .i64 s.r_Amps), .v (.int .i64 s.r_Since)], 25⟩]
noncomputable def body_arr1 : Code := ((loopsIn (Tryd.f6.body.getD .skip))[0]?).getD .skip
def f_arr1 (s : L_arr1) : Rd L_arr1 :=
  if decide (s.a ≤ s.c_Max) then
    if isL s.c_Min s.c_Max s.c_Step s.a then
      if decide (s.a ≤ s.want) then
        .next { s with level := s.a, levels := (IntKind.i64.wrap (s.levels + 1)), a := (IntKind.i64.wrap (s.a + 1)) }
      else
        .next { s with levels := (IntKind.i64.wrap (s.levels + 1)), a := (IntKind.i64.wrap (s.a + 1)) }
    else
      .next { s with a := (IntKind.i64.wrap (s.a + 1)) }
  else
    .stop (.exit 0) s
def P_arr1 (s : L_arr1) := ((), s.want, s.t6, s.up_, s.c_Name, s.c_At, s.c_Phases, s.c_Min, s.c_Max, s.c_Step, s.c_Fallback, s.c_Owner, s.r_Amps, s.r_Since)
theorem arr1_ex : ∀ s x s', f_arr1 s = .stop x s' → x = .exit 0 := by
  intro s x s' h
  unfold f_arr1 at h
  repeat' split at h
  all_goals first | (cases h; done) | (cases h; rfl) | (cases h; simp)
def E_arr1 (s : L_arr1) : Prop := chP s.c_Min s.c_Max s.c_Step ∧ 0 ≤ s.want ∧ s.want ≤ 80 ∧ s.a = 1 ∧ s.level = 0 ∧ s.levels = 0
def I_arr1 (s : L_arr1) : Prop := chP s.c_Min s.c_Max s.c_Step ∧ 0 ≤ s.want ∧ s.want ≤ 80 ∧ 1 ≤ s.a ∧ s.a ≤ s.c_Max + 1 ∧ s.level = lvl s.c_Min s.c_Max s.c_Step (min s.want (s.a - 1)) ∧ 0 ≤ s.levels ∧ s.levels ≤ s.a - 1 ∧ (s.a ≤ s.c_Min → s.levels = 0) ∧ (s.c_Min < s.a → lvl s.c_Min s.c_Max s.c_Step (s.a - 1) = s.c_Min + (s.levels - 1) * s.c_Step)
def mu_arr1 (s : L_arr1) : Nat := (s.c_Max + 1 - s.a).toNat
theorem arr1_E : ∀ s, E_arr1 s → I_arr1 s := by
  intro s h
  obtain ⟨h1, h2, h3, h4, h5, h6⟩ := h
  have hc := h1
  unfold chP at hc
  refine ⟨h1, h2, h3, by omega, by omega, ?_, by omega, by omega, fun _ => h6, fun h => by omega⟩
  rw [h5, h4, show min s.want (1 - 1) = 0 by omega, lvl, if_pos (by omega)]
theorem arr1_d : ∀ s s', I_arr1 s → f_arr1 s = .next s' → I_arr1 s' ∧ mu_arr1 s' < mu_arr1 s := by
  intro s s' hI h
  obtain ⟨h1, h2, h3, h4, h5, h6, h7, h8, h9, h10⟩ := hI
  have hc := h1
  unfold chP at hc
  unfold f_arr1 at h
  split at h
  · rename_i ha
    have ha : s.a ≤ s.c_Max := by simpa using ha
    rw [wrapS (x := s.a + 1) (by omega) (by omega)] at h
    split at h
    · rename_i hl
      rw [wrapS (x := s.levels + 1) (by omega) (by omega)] at h
      have hl' := isL_iff.1 hl
      have cnt : lvl s.c_Min s.c_Max s.c_Step (s.a + 1 - 1) = s.c_Min + (s.levels + 1 - 1) * s.c_Step := by
        rw [Int.add_sub_cancel, Int.add_sub_cancel, lvl_self h1 hl (by omega)]
        by_cases hm : s.a = s.c_Min
        · rw [h9 (by omega), hm]; omega
        · have hp := lvl_prev h1 hl (by omega)
          rw [h10 (by omega), Int.sub_mul, Int.one_mul] at hp
          omega
      split at h
      · rename_i hw
        have hw : s.a ≤ s.want := by simpa using hw
        cases h
        refine ⟨⟨h1, h2, h3, by simp only; omega, by simp only; omega, ?_, by simp only; omega, by simp only; omega, fun h => ?_, fun _ => cnt⟩, by simp only [mu_arr1]; omega⟩
        · simp only
          rw [show min s.want (s.a + 1 - 1) = s.a by omega]
          exact (lvl_self h1 hl (by omega)).symm
        · simp only at h
          omega
      · rename_i hw
        have hw : ¬ s.a ≤ s.want := by simpa using hw
        cases h
        refine ⟨⟨h1, h2, h3, by simp only; omega, by simp only; omega, ?_, by simp only; omega, by simp only; omega, fun h => ?_, fun _ => cnt⟩, by simp only [mu_arr1]; omega⟩
        · simp only
          rw [h6, show min s.want (s.a + 1 - 1) = s.want by omega, show min s.want (s.a - 1) = s.want by omega]
        · simp only at h
          omega
    · rename_i hl
      cases h
      have hp := lvl_pred h1 h4 hl
      have hm : s.a ≠ s.c_Min := fun e => hl (by rw [e]; exact isL_mn h1)
      refine ⟨⟨h1, h2, h3, by simp only; omega, by simp only; omega, ?_, h7, by simp only; omega, fun h => h9 (by simp only at h; omega), fun h => ?_⟩, by simp only [mu_arr1]; omega⟩
      · simp only
        rw [h6, Int.add_sub_cancel]
        by_cases hw : s.want < s.a
        · rw [show min s.want s.a = s.want by omega, show min s.want (s.a - 1) = s.want by omega]
        · rw [show min s.want s.a = s.a by omega, show min s.want (s.a - 1) = s.a - 1 by omega, hp]
      · simp only at h ⊢
        rw [Int.add_sub_cancel, hp]
        exact h10 (by omega)
  · cases h
def sel_arr1 : List LV → List Blk → T L_arr1
  | [.v (.int .i64 want), .own 0 0, .own 1 0, .v (.bool t6), .v (.bool up_), .v (.int .i64 level), .v (.int .i64 levels), .v (.int .i64 a)], [⟨[.v (.string c_Name), .v (.int .i64 c_At), .v (.int .i64 c_Phases), .v (.int .i64 c_Min), .v (.int .i64 c_Max), .v (.int .i64 c_Step), .v (.int .i64 c_Fallback), .v (.int .i64 c_Owner)], 23⟩, ⟨[.v (.int .i64 r_Amps), .v (.int .i64 r_Since)], 25⟩] => .req (E_arr1 ⟨want, t6, up_, level, levels, a, c_Name, c_At, c_Phases, c_Min, c_Max, c_Step, c_Fallback, c_Owner, r_Amps, r_Since⟩) (.ok ⟨want, t6, up_, level, levels, a, c_Name, c_At, c_Phases, c_Min, c_Max, c_Step, c_Fallback, c_Owner, r_Amps, r_Since⟩)
  | _, _ => .no
theorem sel_arr1_ok : ∀ vals blks s, (sel_arr1 vals blks).all (fun x => x = s) → E_arr1 s ∧ vals = A_arr1 s ∧ blks = B_arr1 s := by
  intro vals blks s h
  unfold sel_arr1 at h
  split at h
  · obtain ⟨h1, rfl⟩ := h
    exact ⟨h1, rfl, rfl⟩
  · cases h
def run_arr1 (s : L_arr1) : L_arr1 := { (runW f_arr1 (mu_arr1 s + 1) s).2 with want := s.want, t6 := s.t6, up_ := s.up_, c_Name := s.c_Name, c_At := s.c_At, c_Phases := s.c_Phases, c_Min := s.c_Min, c_Max := s.c_Max, c_Step := s.c_Step, c_Fallback := s.c_Fallback, c_Owner := s.c_Owner, r_Amps := s.r_Amps, r_Since := s.r_Since }
theorem run_arr1_eq (s : L_arr1) : (runW f_arr1 (mu_arr1 s + 1) s).2 = run_arr1 s := by
  have hk := runW_keep (f := f_arr1) P_arr1 (fun s s' hf => by
    unfold f_arr1 at hf
    repeat' split at hf
    all_goals cases hf
    all_goals rfl) (fun s x s' hf => by
    unfold f_arr1 at hf
    repeat' split at hf
    all_goals cases hf
    all_goals rfl) (mu_arr1 s + 1) s
  unfold run_arr1
  generalize (runW f_arr1 (mu_arr1 s + 1) s).2 = r at *
  cases r
  simp only [P_arr1, Prod.mk.injEq, true_and] at hk
  simp only [L_arr1.mk.injEq, hk, and_self]
def exn_arr1 (s : L_arr1) : Ex := (runW f_arr1 (mu_arr1 s + 1) s).1
def out_arr1 (s : L_arr1) : T (Ex × List LV × List Blk) := .ok (.exit 0, frameOf 85 [2, 3, 4, 6, 7, 9, 10, 11] (A_arr1 (run_arr1 s)), B_arr1 (run_arr1 s))
theorem nfl_arr1 (s : L_arr1) : (codex Tryd.prog glR (specsOf [(9, S_head), (10, S_next), (13, S_rrv), (14, S_isl)]) noLoops body_arr1 (frameOf 85 [2, 3, 4, 6, 7, 9, 10, 11] (A_arr1 s)) (B_arr1 s)).bind (fun q => .ok (viewQ [2, 3, 4, 6, 7, 9, 10, 11] 2 q)) = .br (decide (s.a ≤ s.c_Max)) (.req (chP s.c_Min s.c_Max s.c_Step) (.br (isL s.c_Min s.c_Max s.c_Step s.a) (.br (decide (s.a ≤ s.want)) (.ok (⟨.normal, 85, [.v (.int .i64 s.want), .own 0 0, .own 1 0, .v (.bool s.t6), .v (.bool s.up_), .v (.int .i64 s.a), .v (.int .i64 (IntKind.i64.wrap (s.levels + 1))), .v (.int .i64 (IntKind.i64.wrap (s.a + 1)))], [⟨[.v (.string s.c_Name), .v (.int .i64 s.c_At), .v (.int .i64 s.c_Phases), .v (.int .i64 s.c_Min), .v (.int .i64 s.c_Max), .v (.int .i64 s.c_Step), .v (.int .i64 s.c_Fallback), .v (.int .i64 s.c_Owner)], 23⟩, ⟨[.v (.int .i64 s.r_Amps), .v (.int .i64 s.r_Since)], 25⟩], true⟩)) (.ok (⟨.normal, 85, [.v (.int .i64 s.want), .own 0 0, .own 1 0, .v (.bool s.t6), .v (.bool s.up_), .v (.int .i64 s.level), .v (.int .i64 (IntKind.i64.wrap (s.levels + 1))), .v (.int .i64 (IntKind.i64.wrap (s.a + 1)))], [⟨[.v (.string s.c_Name), .v (.int .i64 s.c_At), .v (.int .i64 s.c_Phases), .v (.int .i64 s.c_Min), .v (.int .i64 s.c_Max), .v (.int .i64 s.c_Step), .v (.int .i64 s.c_Fallback), .v (.int .i64 s.c_Owner)], 23⟩, ⟨[.v (.int .i64 s.r_Amps), .v (.int .i64 s.r_Since)], 25⟩], true⟩))) (.ok (⟨.normal, 85, [.v (.int .i64 s.want), .own 0 0, .own 1 0, .v (.bool s.t6), .v (.bool s.up_), .v (.int .i64 s.level), .v (.int .i64 s.levels), .v (.int .i64 (IntKind.i64.wrap (s.a + 1)))], [⟨[.v (.string s.c_Name), .v (.int .i64 s.c_At), .v (.int .i64 s.c_Phases), .v (.int .i64 s.c_Min), .v (.int .i64 s.c_Max), .v (.int .i64 s.c_Step), .v (.int .i64 s.c_Fallback), .v (.int .i64 s.c_Owner)], 23⟩, ⟨[.v (.int .i64 s.r_Amps), .v (.int .i64 s.r_Since)], 25⟩], true⟩)))) (.ok (⟨.exit 0, 85, [.v (.int .i64 s.want), .own 0 0, .own 1 0, .v (.bool s.t6), .v (.bool s.up_), .v (.int .i64 s.level), .v (.int .i64 s.levels), .v (.int .i64 s.a)], [⟨[.v (.string s.c_Name), .v (.int .i64 s.c_At), .v (.int .i64 s.c_Phases), .v (.int .i64 s.c_Min), .v (.int .i64 s.c_Max), .v (.int .i64 s.c_Step), .v (.int .i64 s.c_Fallback), .v (.int .i64 s.c_Owner)], 23⟩, ⟨[.v (.int .i64 s.r_Amps), .v (.int .i64 s.r_Since)], 25⟩], true⟩)) := by kernel_rfl
theorem stp_arr1 (s : L_arr1) (hI : I_arr1 s) : AllT (fun v => v = rdV 85 A_arr1 B_arr1 (f_arr1 s)) ((codex Tryd.prog glR (specsOf [(9, S_head), (10, S_next), (13, S_rrv), (14, S_isl)]) noLoops body_arr1 (frameOf 85 [2, 3, 4, 6, 7, 9, 10, 11] (A_arr1 s)) (B_arr1 s)).bind (fun q => .ok (viewQ [2, 3, 4, 6, 7, 9, 10, 11] 2 q))) := by
  constructor
  rw [nfl_arr1]
  unfold f_arr1
  exact
    stp_br (fun c1 =>
      ⟨by exact hI.1,
        stp_br (fun c2 =>
          stp_br (fun c3 =>
            rfl) (fun c3 =>
            rfl)) (fun c2 =>
          rfl)⟩) (fun c1 =>
      rfl)
theorem arr1_end (s : L_arr1) (hE : E_arr1 s) : ∃ s', I_arr1 s' ∧ f_arr1 s' = .stop (exn_arr1 s) (run_arr1 s) := by rw [← run_arr1_eq]; exact runW_stop arr1_d (mu_arr1 s + 1) s (arr1_E s hE) (Nat.lt_succ_self _)
theorem snd_arr1 : Sound Tryd.prog glR (.loop body_arr1) (loopT 85 2 [2, 3, 4, 6, 7, 9, 10, 11] sel_arr1 out_arr1) :=
  loop_view 85 2 [2, 3, 4, 6, 7, 9, 10, 11] A_arr1 B_arr1 I_arr1 E_arr1 mu_arr1 f_arr1 sel_arr1 out_arr1 (code_sound (Γ := specsOf [(9, S_head), (10, S_next), (13, S_rrv), (14, S_isl)]) (L := noLoops) (specs_ok (l := [(9, S_head), (10, S_next), (13, S_rrv), (14, S_isl)]) ⟨v_head, v_next, v_rrv, v_isl, trivial⟩) body_arr1 (fun b hb => by rw [show loopsIn body_arr1 = [] by kernel_rfl] at hb; cases hb))
    sel_arr1_ok arr1_E (fun s _ => ⟨rfl, rfl⟩) arr1_d (fun s x s' hf => by have := arr1_ex s x s' hf; intro h0; subst h0; simp at this) stp_arr1 (fun s hE => by
      obtain ⟨s', _, h2⟩ := arr1_end s hE
      have h3 : exn_arr1 s = .exit 0 := arr1_ex _ _ _ h2
      unfold out_arr1
      rw [run_arr1_eq]
      simp only [T.all, ← h3]
      rfl)
theorem arr1_fin (s : L_arr1) (hE : E_arr1 s) : (run_arr1 s).level = lvl s.c_Min s.c_Max s.c_Step s.want ∧ lvl s.c_Min s.c_Max s.c_Step s.c_Max = s.c_Min + ((run_arr1 s).levels - 1) * s.c_Step ∧ 1 ≤ (run_arr1 s).levels ∧ (run_arr1 s).levels ≤ 80 := by
  obtain ⟨s', hI, hf⟩ := arr1_end s hE
  have hs : s' = run_arr1 s ∧ ¬ s'.a ≤ s'.c_Max := by
    unfold f_arr1 at hf
    repeat' split at hf
    all_goals first | (cases hf; done) | exact ⟨(Rd.stop.inj hf).2, by rename_i hn; simpa using hn⟩
  obtain ⟨rfl, hn⟩ := hs
  have h1 : chP s.c_Min s.c_Max s.c_Step := hI.1
  have h5 : (run_arr1 s).a ≤ s.c_Max + 1 := hI.2.2.2.2.1
  have h6 : (run_arr1 s).level = lvl s.c_Min s.c_Max s.c_Step (min s.want ((run_arr1 s).a - 1)) := hI.2.2.2.2.2.1
  have h8 : (run_arr1 s).levels ≤ (run_arr1 s).a - 1 := hI.2.2.2.2.2.2.2.1
  have h7 : 0 ≤ (run_arr1 s).levels := hI.2.2.2.2.2.2.1
  have h10 : s.c_Min < (run_arr1 s).a → lvl s.c_Min s.c_Max s.c_Step ((run_arr1 s).a - 1) = s.c_Min + ((run_arr1 s).levels - 1) * s.c_Step := hI.2.2.2.2.2.2.2.2.2
  have hn : ¬ (run_arr1 s).a ≤ s.c_Max := hn
  have hc := h1
  unfold chP at hc
  have e5 : (run_arr1 s).a - 1 = s.c_Max := by omega
  rw [e5] at h6 h10 h8
  have h11 := h10 (by omega)
  refine ⟨?_, h11, ?_, by omega⟩
  · rw [h6]
    by_cases hw : s.want ≤ s.c_Max
    · rw [show min s.want s.c_Max = s.want by omega]
    · rw [show min s.want s.c_Max = s.c_Max by omega]
      exact lvl_top h1 (by omega)
  · apply Classical.byContradiction
    intro hh
    have h0 : (run_arr1 s).levels = 0 := by omega
    rw [h0] at h11
    have := lvl_greatest h1 (isL_mn h1) (show s.c_Min ≤ s.c_Max by omega)
    omega
structure L_arr2 where
  want : Int
  t6 : Bool
  up_ : Bool
  level : Int
  levels : Int
  i : Int
  c_Name : ByteArray
  c_At : Int
  c_Phases : Int
  c_Min : Int
  c_Max : Int
  c_Step : Int
  c_Fallback : Int
  c_Owner : Int
  r_Amps : Int
  r_Since : Int
def A_arr2 (s : L_arr2) : List LV := [.v (.int .i64 s.want), .own 0 0, .own 1 0, .v (.bool s.t6), .v (.bool s.up_), .v (.int .i64 s.level), .v (.int .i64 s.levels), .v (.int .i64 s.i)]
def B_arr2 (s : L_arr2) : List Blk := [⟨[.v (.string s.c_Name), .v (.int .i64 s.c_At), .v (.int .i64 s.c_Phases), .v (.int .i64 s.c_Min), .v (.int .i64 s.c_Max), .v (.int .i64 s.c_Step), .v (.int .i64 s.c_Fallback), .v (.int .i64 s.c_Owner)], 23⟩, ⟨[.v (.int .i64 s.r_Amps), .v (.int .i64 s.r_Since)], 25⟩]
noncomputable def body_arr2 : Code := ((loopsIn (Tryd.f6.body.getD .skip))[1]?).getD .skip
def f_arr2 (s : L_arr2) : Rd L_arr2 :=
  if decide (s.i < (IntKind.i64.wrap (s.levels + 5))) then
    if (nE s.c_Phases s.c_Min s.c_Max s.c_Step s.c_Fallback s.r_Amps s.r_Since s.want) != 0 then
      .stop (.ret) { s with t6 := false }
    else
      .next { s with up_ := s.up_ && ((decide ((IntKind.i64.wrap (s.i + 1)) < s.levels)) || ((nA s.c_Phases s.c_Min s.c_Max s.c_Step s.c_Fallback s.r_Amps s.r_Since s.want) == s.level)), i := (IntKind.i64.wrap (s.i + 1)), r_Amps := (nA s.c_Phases s.c_Min s.c_Max s.c_Step s.c_Fallback s.r_Amps s.r_Since s.want), r_Since := (nS s.c_Phases s.c_Min s.c_Max s.c_Step s.c_Fallback s.r_Amps s.r_Since s.want) }
  else
    .stop (.exit 2) s
def P_arr2 (s : L_arr2) := ((), s.want, s.level, s.levels, s.c_Name, s.c_At, s.c_Phases, s.c_Min, s.c_Max, s.c_Step, s.c_Fallback, s.c_Owner)
theorem arr2_ex : ∀ s x s', f_arr2 s = .stop x s' → x = .ret ∨ x = .exit 2 := by
  intro s x s' h
  unfold f_arr2 at h
  repeat' split at h
  all_goals first | (cases h; done) | (cases h; rfl) | (cases h; simp)
def R_arr2 (s : L_arr2) : Prop := raB s.c_Phases s.c_Min s.c_Max s.c_Step s.c_Fallback s.r_Amps s.r_Since = true ∧ 0 ≤ s.want ∧ s.want ≤ 80 ∧ s.level = lvl s.c_Min s.c_Max s.c_Step s.want ∧ lvl s.c_Min s.c_Max s.c_Step s.c_Max = s.c_Min + (s.levels - 1) * s.c_Step ∧ 1 ≤ s.levels ∧ s.levels ≤ 80 ∧ s.up_ = true
def E_arr2 (s : L_arr2) : Prop := R_arr2 s ∧ s.i = 0 ∧ (s.r_Amps ≠ 0 ∨ 5 ≤ s.r_Since)
def I_arr2 (s : L_arr2) : Prop := R_arr2 s ∧ 0 ≤ s.i ∧ s.i ≤ s.levels + 5 ∧ (s.i = 0 → s.r_Amps ≠ 0 ∨ 5 ≤ s.r_Since) ∧ (s.i ≠ 0 → s.r_Amps ≤ s.level ∧ min s.level (s.c_Min + (s.i - 1) * s.c_Step) ≤ s.r_Amps)
def mu_arr2 (s : L_arr2) : Nat := (s.levels + 5 - s.i).toNat
theorem arr2_E : ∀ s, E_arr2 s → I_arr2 s := by
  intro s h
  obtain ⟨h1, h2, h3⟩ := h
  have hl := h1.2.2.2.2.2.1
  exact ⟨h1, by omega, by omega, fun _ => h3, fun h => absurd h2 h⟩
theorem arr2_d : ∀ s s', I_arr2 s → f_arr2 s = .next s' → I_arr2 s' ∧ mu_arr2 s' < mu_arr2 s := by
  intro s s' hI h
  obtain ⟨⟨hr, h1, h2, h3, h4, h5, h6, hu⟩, h7, h8, h9, h10⟩ := hI
  unfold f_arr2 at h
  rw [wrapS (x := s.levels + 5) (by omega) (by omega), wrapS (x := s.i + 1) (by omega) (by omega)] at h
  split at h
  · rename_i hi
    have hi : s.i < s.levels + 5 := by simpa using hi
    split at h
    · cases h
    · rename_i he
      have hk : okB s.c_Phases s.c_Min s.c_Max s.c_Step s.c_Fallback s.r_Amps s.r_Since s.want = true := okB_nE (by simpa using he)
      have hr' := ra_next hk
      obtain ⟨hb1, hb2⟩ := arrive_step hk h3 h7 h9 h10
      cases h
      refine ⟨⟨⟨hr', h1, h2, h3, h4, h5, h6, ?_⟩, by simp only; omega, by simp only; omega, fun h => by simp only at h; omega, fun _ => ⟨hb1, by simp only; rw [Int.add_sub_cancel]; exact hb2⟩⟩, by simp only [mu_arr2]; omega⟩
      simp only [hu, Bool.true_and, Bool.or_eq_true, decide_eq_true_eq, beq_iff_eq]
      by_cases hc : s.i + 1 < s.levels
      · exact .inl hc
      · right
        obtain ⟨hc0, _⟩ := okB_more hk
        have htop := lvl_greatest hc0 (lvl_isL (a := s.want) hc0) (lvl_le_mx hc0)
        have hc1 := hc0
        unfold chP at hc1
        have := Int.mul_le_mul_of_nonneg_right (show s.levels - 1 ≤ s.i by omega) (show 0 ≤ s.c_Step by omega)
        omega
  · cases h
def sel_arr2 : List LV → List Blk → T L_arr2
  | [.v (.int .i64 want), .own 0 0, .own 1 0, .v (.bool t6), .v (.bool up_), .v (.int .i64 level), .v (.int .i64 levels), .v (.int .i64 i)], [⟨[.v (.string c_Name), .v (.int .i64 c_At), .v (.int .i64 c_Phases), .v (.int .i64 c_Min), .v (.int .i64 c_Max), .v (.int .i64 c_Step), .v (.int .i64 c_Fallback), .v (.int .i64 c_Owner)], 23⟩, ⟨[.v (.int .i64 r_Amps), .v (.int .i64 r_Since)], 25⟩] => .req (E_arr2 ⟨want, t6, up_, level, levels, i, c_Name, c_At, c_Phases, c_Min, c_Max, c_Step, c_Fallback, c_Owner, r_Amps, r_Since⟩) (.ok ⟨want, t6, up_, level, levels, i, c_Name, c_At, c_Phases, c_Min, c_Max, c_Step, c_Fallback, c_Owner, r_Amps, r_Since⟩)
  | _, _ => .no
theorem sel_arr2_ok : ∀ vals blks s, (sel_arr2 vals blks).all (fun x => x = s) → E_arr2 s ∧ vals = A_arr2 s ∧ blks = B_arr2 s := by
  intro vals blks s h
  unfold sel_arr2 at h
  split at h
  · obtain ⟨h1, rfl⟩ := h
    exact ⟨h1, rfl, rfl⟩
  · cases h
def run_arr2 (s : L_arr2) : L_arr2 := { (runW f_arr2 (mu_arr2 s + 1) s).2 with want := s.want, level := s.level, levels := s.levels, c_Name := s.c_Name, c_At := s.c_At, c_Phases := s.c_Phases, c_Min := s.c_Min, c_Max := s.c_Max, c_Step := s.c_Step, c_Fallback := s.c_Fallback, c_Owner := s.c_Owner }
theorem run_arr2_eq (s : L_arr2) : (runW f_arr2 (mu_arr2 s + 1) s).2 = run_arr2 s := by
  have hk := runW_keep (f := f_arr2) P_arr2 (fun s s' hf => by
    unfold f_arr2 at hf
    repeat' split at hf
    all_goals cases hf
    all_goals rfl) (fun s x s' hf => by
    unfold f_arr2 at hf
    repeat' split at hf
    all_goals cases hf
    all_goals rfl) (mu_arr2 s + 1) s
  unfold run_arr2
  generalize (runW f_arr2 (mu_arr2 s + 1) s).2 = r at *
  cases r
  simp only [P_arr2, Prod.mk.injEq, true_and] at hk
  simp only [L_arr2.mk.injEq, hk, and_self]
def exn_arr2 (s : L_arr2) : Ex := (runW f_arr2 (mu_arr2 s + 1) s).1
def out_arr2 (s : L_arr2) : T (Ex × List LV × List Blk) := .br (isEx (exn_arr2 s) (.ret)) (.ok (.ret, frameOf 85 [2, 3, 4, 6, 7, 9, 10, 12] (A_arr2 (run_arr2 s)), B_arr2 (run_arr2 s))) (.ok (.exit 2, frameOf 85 [2, 3, 4, 6, 7, 9, 10, 12] (A_arr2 (run_arr2 s)), B_arr2 (run_arr2 s)))
theorem nfl_arr2 (s : L_arr2) : (codex Tryd.prog glR (specsOf [(9, S_head), (10, S_next), (13, S_rrv), (14, S_isl)]) noLoops body_arr2 (frameOf 85 [2, 3, 4, 6, 7, 9, 10, 12] (A_arr2 s)) (B_arr2 s)).bind (fun q => .ok (viewQ [2, 3, 4, 6, 7, 9, 10, 12] 2 q)) = .br (decide (s.i < (IntKind.i64.wrap (s.levels + 5)))) (.br ((nE s.c_Phases s.c_Min s.c_Max s.c_Step s.c_Fallback s.r_Amps s.r_Since s.want) != 0) (.ok (⟨.ret, 85, [.v (.int .i64 s.want), .own 0 0, .own 1 0, .v (.bool false), .v (.bool s.up_), .v (.int .i64 s.level), .v (.int .i64 s.levels), .v (.int .i64 s.i)], [⟨[.v (.string s.c_Name), .v (.int .i64 s.c_At), .v (.int .i64 s.c_Phases), .v (.int .i64 s.c_Min), .v (.int .i64 s.c_Max), .v (.int .i64 s.c_Step), .v (.int .i64 s.c_Fallback), .v (.int .i64 s.c_Owner)], 23⟩, ⟨[.v (.int .i64 s.r_Amps), .v (.int .i64 s.r_Since)], 25⟩], true⟩)) (.ok (⟨.normal, 85, [.v (.int .i64 s.want), .own 0 0, .own 1 0, .v (.bool s.t6), .v (.bool (s.up_ && ((decide ((IntKind.i64.wrap (s.i + 1)) < s.levels)) || ((nA s.c_Phases s.c_Min s.c_Max s.c_Step s.c_Fallback s.r_Amps s.r_Since s.want) == s.level)))), .v (.int .i64 s.level), .v (.int .i64 s.levels), .v (.int .i64 (IntKind.i64.wrap (s.i + 1)))], [⟨[.v (.string s.c_Name), .v (.int .i64 s.c_At), .v (.int .i64 s.c_Phases), .v (.int .i64 s.c_Min), .v (.int .i64 s.c_Max), .v (.int .i64 s.c_Step), .v (.int .i64 s.c_Fallback), .v (.int .i64 s.c_Owner)], 23⟩, ⟨[.v (.int .i64 (nA s.c_Phases s.c_Min s.c_Max s.c_Step s.c_Fallback s.r_Amps s.r_Since s.want)), .v (.int .i64 (nS s.c_Phases s.c_Min s.c_Max s.c_Step s.c_Fallback s.r_Amps s.r_Since s.want))], 25⟩], true⟩))) (.ok (⟨.exit 2, 85, [.v (.int .i64 s.want), .own 0 0, .own 1 0, .v (.bool s.t6), .v (.bool s.up_), .v (.int .i64 s.level), .v (.int .i64 s.levels), .v (.int .i64 s.i)], [⟨[.v (.string s.c_Name), .v (.int .i64 s.c_At), .v (.int .i64 s.c_Phases), .v (.int .i64 s.c_Min), .v (.int .i64 s.c_Max), .v (.int .i64 s.c_Step), .v (.int .i64 s.c_Fallback), .v (.int .i64 s.c_Owner)], 23⟩, ⟨[.v (.int .i64 s.r_Amps), .v (.int .i64 s.r_Since)], 25⟩], true⟩)) := by kernel_rfl
theorem stp_arr2 (s : L_arr2) (hI : I_arr2 s) : AllT (fun v => v = rdV 85 A_arr2 B_arr2 (f_arr2 s)) ((codex Tryd.prog glR (specsOf [(9, S_head), (10, S_next), (13, S_rrv), (14, S_isl)]) noLoops body_arr2 (frameOf 85 [2, 3, 4, 6, 7, 9, 10, 12] (A_arr2 s)) (B_arr2 s)).bind (fun q => .ok (viewQ [2, 3, 4, 6, 7, 9, 10, 12] 2 q))) := by
  constructor
  rw [nfl_arr2]
  unfold f_arr2
  exact
    stp_br (fun c1 =>
      stp_br (fun c2 =>
        rfl) (fun c2 =>
        rfl)) (fun c1 =>
      rfl)
theorem arr2_end (s : L_arr2) (hE : E_arr2 s) : ∃ s', I_arr2 s' ∧ f_arr2 s' = .stop (exn_arr2 s) (run_arr2 s) := by rw [← run_arr2_eq]; exact runW_stop arr2_d (mu_arr2 s + 1) s (arr2_E s hE) (Nat.lt_succ_self _)
theorem snd_arr2 : Sound Tryd.prog glR (.loop body_arr2) (loopT 85 2 [2, 3, 4, 6, 7, 9, 10, 12] sel_arr2 out_arr2) :=
  loop_view 85 2 [2, 3, 4, 6, 7, 9, 10, 12] A_arr2 B_arr2 I_arr2 E_arr2 mu_arr2 f_arr2 sel_arr2 out_arr2 (code_sound (Γ := specsOf [(9, S_head), (10, S_next), (13, S_rrv), (14, S_isl)]) (L := noLoops) (specs_ok (l := [(9, S_head), (10, S_next), (13, S_rrv), (14, S_isl)]) ⟨v_head, v_next, v_rrv, v_isl, trivial⟩) body_arr2 (fun b hb => by rw [show loopsIn body_arr2 = [] by kernel_rfl] at hb; cases hb))
    sel_arr2_ok arr2_E (fun s _ => ⟨rfl, rfl⟩) arr2_d (fun s x s' hf => by have := arr2_ex s x s' hf; intro h0; subst h0; simp at this) stp_arr2 (fun s hE => by
      obtain ⟨s', _, h2⟩ := arr2_end s hE
      have h3 := arr2_ex _ _ _ h2
      have h4 : (runW f_arr2 (mu_arr2 s + 1) s).1 = exn_arr2 s := rfl
      rw [h4, run_arr2_eq]
      unfold out_arr2
      generalize exn_arr2 s = e at h3
      rcases h3 with h3 | h3 <;> subst h3 <;> simp [T.all, isEx])
theorem arr2_fin (s : L_arr2) (hE : E_arr2 s) : (run_arr2 s).up_ = true ∧ exn_arr2 s = .exit 2 := by
  obtain ⟨s', hI, hf⟩ := arr2_end s hE
  have hs : s' = run_arr2 s ∧ exn_arr2 s = .exit 2 := by
    unfold f_arr2 at hf
    split at hf
    · split at hf
      · rename_i he
        exfalso
        have hk := okB_of hI.1.1 hI.1.2.1 hI.1.2.2.1
        rw [nE_ok hk] at he
        simp at he
      · cases hf
    · exact ⟨(Rd.stop.inj hf).2, (Rd.stop.inj hf).1.symm⟩
  rw [← hs.1]
  exact ⟨hI.1.2.2.2.2.2.2.2, hs.2⟩
def S_arr : List LV → T LV
  | [.v (.agg ⟨[.string nm, .int .i64 at_, .int .i64 ph, .int .i64 mn, .int .i64 mx, .int .i64 st, .int .i64 fb, .int .i64 ow]⟩), .v (.agg ⟨[.int .i64 a, .int .i64 si]⟩), .v (.int .i64 want)] => .ok (.v (.bool true))
  | _ => .no
theorem nf_arr (nm : ByteArray) (at_ ph mn mx st fb ow a si want : Int) : funx Tryd.prog glR (specsOf [(9, S_head), (10, S_next), (13, S_rrv), (14, S_isl)]) (fun i => if i = 8 then loopT 85 2 [2, 3, 4, 6, 7, 9, 10, 11] sel_arr1 out_arr1 else if i = 15 then loopT 85 2 [2, 3, 4, 6, 7, 9, 10, 12] sel_arr2 out_arr2 else noLoops i) Tryd.f6 [.v (.agg #[.string nm, .int .i64 at_, .int .i64 ph, .int .i64 mn, .int .i64 mx, .int .i64 st, .int .i64 fb, .int .i64 ow]), .v (.agg #[.int .i64 a, .int .i64 si]), .v (.int .i64 want)] = .br ((!(raB ph mn mx st fb a si)) || ((decide (want < 0)) || ((decide (want > 80)) || ((a == 0) && (decide (si < 5)))))) (.ok (.v (.bool true))) (.req (E_arr1 (⟨want, false, true, (0 : Int), (0 : Int), (1 : Int), nm, at_, ph, mn, mx, st, fb, ow, a, si⟩ : L_arr1)) (.req (E_arr2 (⟨want, false, true, (((run_arr1 (⟨want, false, true, (0 : Int), (0 : Int), (1 : Int), nm, at_, ph, mn, mx, st, fb, ow, a, si⟩ : L_arr1)).level)), (((run_arr1 (⟨want, false, true, (0 : Int), (0 : Int), (1 : Int), nm, at_, ph, mn, mx, st, fb, ow, a, si⟩ : L_arr1)).levels)), (0 : Int), nm, at_, ph, mn, mx, st, fb, ow, a, si⟩ : L_arr2)) (.br (isEx (exn_arr2 (⟨want, false, true, (((run_arr1 (⟨want, false, true, (0 : Int), (0 : Int), (1 : Int), nm, at_, ph, mn, mx, st, fb, ow, a, si⟩ : L_arr1)).level)), (((run_arr1 (⟨want, false, true, (0 : Int), (0 : Int), (1 : Int), nm, at_, ph, mn, mx, st, fb, ow, a, si⟩ : L_arr1)).levels)), (0 : Int), nm, at_, ph, mn, mx, st, fb, ow, a, si⟩ : L_arr2)) (.ret)) (.ok (.v (.bool (((run_arr2 (⟨want, false, true, (((run_arr1 (⟨want, false, true, (0 : Int), (0 : Int), (1 : Int), nm, at_, ph, mn, mx, st, fb, ow, a, si⟩ : L_arr1)).level)), (((run_arr1 (⟨want, false, true, (0 : Int), (0 : Int), (1 : Int), nm, at_, ph, mn, mx, st, fb, ow, a, si⟩ : L_arr1)).levels)), (0 : Int), nm, at_, ph, mn, mx, st, fb, ow, a, si⟩ : L_arr2)).t6))))) (.ok (.v (.bool (((run_arr2 (⟨want, false, true, (((run_arr1 (⟨want, false, true, (0 : Int), (0 : Int), (1 : Int), nm, at_, ph, mn, mx, st, fb, ow, a, si⟩ : L_arr1)).level)), (((run_arr1 (⟨want, false, true, (0 : Int), (0 : Int), (1 : Int), nm, at_, ph, mn, mx, st, fb, ow, a, si⟩ : L_arr1)).levels)), (0 : Int), nm, at_, ph, mn, mx, st, fb, ow, a, si⟩ : L_arr2)).up_)))))))) := by kernel_rfl
theorem v_arr : Valid Tryd.prog glR 6 S_arr := valid_of Tryd.func6 rfl (specs_ok (l := [(9, S_head), (10, S_next), (13, S_rrv), (14, S_isl)]) ⟨v_head, v_next, v_rrv, v_isl, trivial⟩) (L := (fun i => if i = 8 then loopT 85 2 [2, 3, 4, 6, 7, 9, 10, 11] sel_arr1 out_arr1 else if i = 15 then loopT 85 2 [2, 3, 4, 6, 7, 9, 10, 12] sel_arr2 out_arr2 else noLoops i)) (fun b hb => by
  rw [show loopsIn _ = [body_arr1, body_arr2] by kernel_rfl] at hb
  simp only [List.mem_cons, List.not_mem_nil, or_false] at hb
  rcases hb with rfl | rfl
  · exact snd_arr1
  · exact snd_arr2) (fun args lv h => by
  unfold S_arr at h
  split at h
  · rw [nf_arr]
    rename_i nm at_ ph mn mx st fb ow a si want
    obtain rfl := h
    refine ⟨fun _ => rfl, fun hk => ?_⟩
    simp only [Bool.or_eq_false_iff, Bool.not_eq_false', decide_eq_false_iff_not, Bool.and_eq_false_iff, beq_eq_false_iff_ne] at hk
    obtain ⟨hr, h1, h2, h3⟩ := hk
    have hk := okB_of hr (show 0 ≤ want by omega) (by omega)
    obtain ⟨hc, _⟩ := okB_more hk
    have hE1 : E_arr1 ⟨want, false, true, (0 : Int), (0 : Int), (1 : Int), nm, at_, ph, mn, mx, st, fb, ow, a, si⟩ := ⟨hc, by simp only; omega, by simp only; omega, rfl, rfl, rfl⟩
    obtain ⟨f1, f2, f3, f4⟩ := arr1_fin _ hE1
    refine ⟨hE1, ?_⟩
    generalize run_arr1 ⟨want, false, true, (0 : Int), (0 : Int), (1 : Int), nm, at_, ph, mn, mx, st, fb, ow, a, si⟩ = q at f1 f2 f3 f4 ⊢
    have hE2 : E_arr2 ⟨want, false, true, q.level, q.levels, (0 : Int), nm, at_, ph, mn, mx, st, fb, ow, a, si⟩ := ⟨⟨hr, by simp only; omega, by simp only; omega, f1, f2, f3, f4, rfl⟩, rfl, by simp only; omega⟩
    obtain ⟨k1, k2⟩ := arr2_fin _ hE2
    refine ⟨hE2, fun hb => ?_, fun _ => ?_⟩
    · rw [k2] at hb; cases hb
    · exact congrArg (fun z => LV.v (.bool z)) k1
  · cases h)
end Go.Proofs.YtgghdejgfihkcaaDoor
