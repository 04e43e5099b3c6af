/- RampNeverMore: what it computes. -/
import Derived.Test.YtgghdejgfihkcaaDoorRq
namespace Go.Proofs.YtgghdejgfihkcaaDoor
open Go.Sx
def S_isl : List LV → T LV
  | [.v (.agg ⟨[.string nm, .int .i64 at_, .int .i64 ph, .int .i64 mn, .int .i64 mx, .int .i64 st, .int .i64 fb, .int .i64 ow]⟩), .v (.int .i64 am)] => .req (chP mn mx st) (.ok (.v (.bool (isL mn mx st am))))
  | _ => .no
theorem nf_isl (nm : ByteArray) (at_ ph mn mx st fb ow am : Int) : funx Tryd.prog glR (specsOf []) noLoops Tryd.f14 [.v (.agg #[.string nm, .int .i64 at_, .int .i64 ph, .int .i64 mn, .int .i64 mx, .int .i64 st, .int .i64 fb, .int .i64 ow]), .v (.int .i64 am)] = .br (am == 0) (.ok (.v (.bool true))) (.br (decide (am ≥ mn)) (.br (decide (am ≤ mx)) (.req (st ≠ 0) (.ok (.v (.bool (((IntKind.i64.wrap (am - mn)).tmod st) == 0))))) (.ok (.v (.bool false)))) (.ok (.v (.bool false)))) := by kernel_rfl
theorem v_isl : Valid Tryd.prog glR 14 S_isl := valid_of Tryd.func14 rfl (specs_ok (l := []) trivial) (no_loops (by kernel_rfl)) (fun args lv h => by
  unfold S_isl at h
  split at h
  · rw [nf_isl]
    rename_i nm at_ ph mn mx st fb ow am
    obtain ⟨hc, rfl⟩ := h
    have hc' := hc
    unfold chP at hc'
    refine ⟨fun h1 => ?_, fun h1 => ⟨fun h2 => ⟨fun h3 => ⟨by omega, ?_⟩, fun h3 => ?_⟩, fun h2 => ?_⟩⟩
    all_goals refine congrArg (fun z => LV.v (.bool z)) ?_
    · simp at h1; simp [isL, h1]
    · simp at h1 h2 h3
      rw [wrapS (by omega) (by omega), Int.tmod_eq_emod_of_nonneg (by omega)]
      simp [isL, h1, h2, h3]
    · simp at h1 h2 h3
      simp [isL, h1]; omega
    · simp at h1 h2
      simp [isL, h1]; omega
  · cases h)
structure L_nm1 where
  want : Int
  up_ : Bool
  e : Int
  most : Int
  greatest : Int
  a : Int
  c_Name : ByteArray
  c_At : Int
  c_Phases : Int
  c_Min : Int
  c_Max : Int
  c_Step : Int
  c_Fallback : Int
  c_Owner : Int
  r_Amps : Int
  r_Since : Int
  x_Amps : Int
  x_Since : Int
def A_nm1 (s : L_nm1) : List LV := [.v (.int .i64 s.want), .own 0 0, .own 1 0, .v (.bool s.up_), .own 2 0, .v (.int .i64 s.e), .v (.int .i64 s.most), .v (.int .i64 s.greatest), .v (.int .i64 s.a)]
def B_nm1 (s : L_nm1) : List Blk := [⟨[.v (.string s.c_Name), .v (.int .i64 s.c_At), .v (.int .i64 s.c_Phases), .v (.int .i64 s.c_Min), .v (.int .i64 s.c_Max), .v (.int .i64 s.c_Step), .v (.int .i64 s.c_Fallback), .v (.int .i64 s.c_Owner)], 23⟩, ⟨[.v (.int .i64 s.r_Amps), .v (.int .i64 s.r_Since)], 25⟩, ⟨[.v (.int .i64 s.x_Amps), .v (.int .i64 s.x_Since)], 25⟩]
noncomputable def body_nm1 : Code := ((loopsIn (Tryd.f4.body.getD .skip))[0]?).getD .skip
def f_nm1 (s : L_nm1) : Rd L_nm1 :=
  if decide (s.a ≤ (if s.most < s.want then s.most else s.want)) then
    if isL s.c_Min s.c_Max s.c_Step s.a then
      .next { s with greatest := s.a, a := (IntKind.i64.wrap (s.a + 1)) }
    else
      .next { s with a := (IntKind.i64.wrap (s.a + 1)) }
  else
    .stop (.exit 0) s
def P_nm1 (s : L_nm1) := ((), s.want, s.up_, s.e, s.most, s.c_Name, s.c_At, s.c_Phases, s.c_Min, s.c_Max, s.c_Step, s.c_Fallback, s.c_Owner, s.r_Amps, s.r_Since, s.x_Amps, s.x_Since)
theorem nm1_ex : ∀ s x s', f_nm1 s = .stop x s' → x = .exit 0 := by
  intro s x s' h
  unfold f_nm1 at h
  repeat' split at h
  all_goals first | (cases h; done) | (cases h; rfl) | (cases h; simp)
def E_nm1 (s : L_nm1) : Prop := chP s.c_Min s.c_Max s.c_Step ∧ 0 ≤ s.want ∧ s.want ≤ 80 ∧ 0 ≤ s.most ∧ s.most ≤ 200 ∧ s.a = 0 ∧ s.greatest = 0
def I_nm1 (s : L_nm1) : Prop := chP s.c_Min s.c_Max s.c_Step ∧ 0 ≤ s.want ∧ s.want ≤ 80 ∧ 0 ≤ s.most ∧ s.most ≤ 200 ∧ 0 ≤ s.a ∧ s.a ≤ min s.want s.most + 1 ∧ s.greatest = if s.a = 0 then 0 else lvl s.c_Min s.c_Max s.c_Step (s.a - 1)
def mu_nm1 (s : L_nm1) : Nat := (min s.want s.most + 1 - s.a).toNat
theorem nm1_E : ∀ s, E_nm1 s → I_nm1 s := by
  intro s h
  unfold E_nm1 at h
  unfold I_nm1
  obtain ⟨h1, h2, h3, h4, h5, h6, h7⟩ := h
  refine ⟨h1, h2, h3, h4, h5, by omega, by omega, by rw [if_pos h6]; exact h7⟩
theorem nm1_d : ∀ s s', I_nm1 s → f_nm1 s = .next s' → I_nm1 s' ∧ mu_nm1 s' < mu_nm1 s := by
  intro s s' hI h
  unfold f_nm1 at h
  unfold I_nm1 at hI
  obtain ⟨h1, h2, h3, h4, h5, h6, h7, h8⟩ := hI
  rw [ite_min] at h
  split at h
  · rename_i ha
    have ha : s.a ≤ min s.want s.most := by simpa using ha
    have hw : IntKind.i64.wrap (s.a + 1) = s.a + 1 := wrapS (by omega) (by omega)
    rw [hw] at h
    split at h
    · rename_i hl
      cases h
      refine ⟨⟨h1, h2, h3, h4, h5, by simp only; omega, by simp only; omega, ?_⟩, by simp only [mu_nm1]; omega⟩
      simp only
      rw [if_neg (by omega), Int.add_sub_cancel]
      exact (lvl_self h1 hl h6).symm
    · rename_i hl
      cases h
      refine ⟨⟨h1, h2, h3, h4, h5, by simp only; omega, by simp only; omega, ?_⟩, by simp only [mu_nm1]; omega⟩
      simp only
      rw [if_neg (by omega), Int.add_sub_cancel, h8]
      have h0 : s.a ≠ 0 := fun e => hl (by rw [e]; simp [isL])
      rw [if_neg h0]
      exact (lvl_pred h1 (by omega) hl).symm
  · cases h
def sel_nm1 : List LV → List Blk → T L_nm1
  | [.v (.int .i64 want), .own 0 0, .own 1 0, .v (.bool up_), .own 2 0, .v (.int .i64 e), .v (.int .i64 most), .v (.int .i64 greatest), .v (.int .i64 a)], [⟨[.v (.string c_Name), .v (.int .i64 c_At), .v (.int .i64 c_Phases), .v (.int .i64 c_Min), .v (.int .i64 c_Max), .v (.int .i64 c_Step), .v (.int .i64 c_Fallback), .v (.int .i64 c_Owner)], 23⟩, ⟨[.v (.int .i64 r_Amps), .v (.int .i64 r_Since)], 25⟩, ⟨[.v (.int .i64 x_Amps), .v (.int .i64 x_Since)], 25⟩] => .req (E_nm1 ⟨want, up_, e, most, greatest, a, c_Name, c_At, c_Phases, c_Min, c_Max, c_Step, c_Fallback, c_Owner, r_Amps, r_Since, x_Amps, x_Since⟩) (.ok ⟨want, up_, e, most, greatest, a, c_Name, c_At, c_Phases, c_Min, c_Max, c_Step, c_Fallback, c_Owner, r_Amps, r_Since, x_Amps, x_Since⟩)
  | _, _ => .no
theorem sel_nm1_ok : ∀ vals blks s, (sel_nm1 vals blks).all (fun x => x = s) → E_nm1 s ∧ vals = A_nm1 s ∧ blks = B_nm1 s := by
  intro vals blks s h
  unfold sel_nm1 at h
  split at h
  · obtain ⟨h1, rfl⟩ := h
    exact ⟨h1, rfl, rfl⟩
  · cases h
def run_nm1 (s : L_nm1) : L_nm1 := { (runW f_nm1 (mu_nm1 s + 1) s).2 with want := s.want, up_ := s.up_, e := s.e, most := s.most, c_Name := s.c_Name, c_At := s.c_At, c_Phases := s.c_Phases, c_Min := s.c_Min, c_Max := s.c_Max, c_Step := s.c_Step, c_Fallback := s.c_Fallback, c_Owner := s.c_Owner, r_Amps := s.r_Amps, r_Since := s.r_Since, x_Amps := s.x_Amps, x_Since := s.x_Since }
theorem run_nm1_eq (s : L_nm1) : (runW f_nm1 (mu_nm1 s + 1) s).2 = run_nm1 s := by
  have hk := runW_keep (f := f_nm1) P_nm1 (fun s s' hf => by
    unfold f_nm1 at hf
    repeat' split at hf
    all_goals cases hf
    all_goals rfl) (fun s x s' hf => by
    unfold f_nm1 at hf
    repeat' split at hf
    all_goals cases hf
    all_goals rfl) (mu_nm1 s + 1) s
  unfold run_nm1
  generalize (runW f_nm1 (mu_nm1 s + 1) s).2 = r at *
  cases r
  simp only [P_nm1, Prod.mk.injEq, true_and] at hk
  simp only [L_nm1.mk.injEq, hk, and_self]
def exn_nm1 (s : L_nm1) : Ex := (runW f_nm1 (mu_nm1 s + 1) s).1
def out_nm1 (s : L_nm1) : T (Ex × List LV × List Blk) := .ok (.exit 0, frameOf 118 [2, 3, 4, 7, 9, 10, 11, 12, 13] (A_nm1 (run_nm1 s)), B_nm1 (run_nm1 s))
theorem nfl_nm1 (s : L_nm1) : (codex Tryd.prog glR (specsOf [(9, S_head), (10, S_next), (13, S_rrv), (14, S_isl)]) noLoops body_nm1 (frameOf 118 [2, 3, 4, 7, 9, 10, 11, 12, 13] (A_nm1 s)) (B_nm1 s)).bind (fun q => .ok (viewQ [2, 3, 4, 7, 9, 10, 11, 12, 13] 3 q)) = .br (decide (s.a ≤ (if s.most < s.want then s.most else s.want))) (.req (chP s.c_Min s.c_Max s.c_Step) (.br (isL s.c_Min s.c_Max s.c_Step s.a) (.ok (⟨.normal, 118, [.v (.int .i64 s.want), .own 0 0, .own 1 0, .v (.bool s.up_), .own 2 0, .v (.int .i64 s.e), .v (.int .i64 s.most), .v (.int .i64 s.a), .v (.int .i64 (IntKind.i64.wrap (s.a + 1)))], [⟨[.v (.string s.c_Name), .v (.int .i64 s.c_At), .v (.int .i64 s.c_Phases), .v (.int .i64 s.c_Min), .v (.int .i64 s.c_Max), .v (.int .i64 s.c_Step), .v (.int .i64 s.c_Fallback), .v (.int .i64 s.c_Owner)], 23⟩, ⟨[.v (.int .i64 s.r_Amps), .v (.int .i64 s.r_Since)], 25⟩, ⟨[.v (.int .i64 s.x_Amps), .v (.int .i64 s.x_Since)], 25⟩], true⟩)) (.ok (⟨.normal, 118, [.v (.int .i64 s.want), .own 0 0, .own 1 0, .v (.bool s.up_), .own 2 0, .v (.int .i64 s.e), .v (.int .i64 s.most), .v (.int .i64 s.greatest), .v (.int .i64 (IntKind.i64.wrap (s.a + 1)))], [⟨[.v (.string s.c_Name), .v (.int .i64 s.c_At), .v (.int .i64 s.c_Phases), .v (.int .i64 s.c_Min), .v (.int .i64 s.c_Max), .v (.int .i64 s.c_Step), .v (.int .i64 s.c_Fallback), .v (.int .i64 s.c_Owner)], 23⟩, ⟨[.v (.int .i64 s.r_Amps), .v (.int .i64 s.r_Since)], 25⟩, ⟨[.v (.int .i64 s.x_Amps), .v (.int .i64 s.x_Since)], 25⟩], true⟩)))) (.ok (⟨.exit 0, 118, [.v (.int .i64 s.want), .own 0 0, .own 1 0, .v (.bool s.up_), .own 2 0, .v (.int .i64 s.e), .v (.int .i64 s.most), .v (.int .i64 s.greatest), .v (.int .i64 s.a)], [⟨[.v (.string s.c_Name), .v (.int .i64 s.c_At), .v (.int .i64 s.c_Phases), .v (.int .i64 s.c_Min), .v (.int .i64 s.c_Max), .v (.int .i64 s.c_Step), .v (.int .i64 s.c_Fallback), .v (.int .i64 s.c_Owner)], 23⟩, ⟨[.v (.int .i64 s.r_Amps), .v (.int .i64 s.r_Since)], 25⟩, ⟨[.v (.int .i64 s.x_Amps), .v (.int .i64 s.x_Since)], 25⟩], true⟩)) := by kernel_rfl
theorem stp_nm1 (s : L_nm1) (hI : I_nm1 s) : AllT (fun v => v = rdV 118 A_nm1 B_nm1 (f_nm1 s)) ((codex Tryd.prog glR (specsOf [(9, S_head), (10, S_next), (13, S_rrv), (14, S_isl)]) noLoops body_nm1 (frameOf 118 [2, 3, 4, 7, 9, 10, 11, 12, 13] (A_nm1 s)) (B_nm1 s)).bind (fun q => .ok (viewQ [2, 3, 4, 7, 9, 10, 11, 12, 13] 3 q))) := by
  constructor
  rw [nfl_nm1]
  unfold f_nm1
  exact
    stp_br (fun c1 =>
      ⟨by exact hI.1,
        stp_br (fun c2 =>
          rfl) (fun c2 =>
          rfl)⟩) (fun c1 =>
      rfl)
theorem nm1_end (s : L_nm1) (hE : E_nm1 s) : ∃ s', I_nm1 s' ∧ f_nm1 s' = .stop (exn_nm1 s) (run_nm1 s) := by rw [← run_nm1_eq]; exact runW_stop nm1_d (mu_nm1 s + 1) s (nm1_E s hE) (Nat.lt_succ_self _)
theorem snd_nm1 : Sound Tryd.prog glR (.loop body_nm1) (loopT 118 3 [2, 3, 4, 7, 9, 10, 11, 12, 13] sel_nm1 out_nm1) :=
  loop_view 118 3 [2, 3, 4, 7, 9, 10, 11, 12, 13] A_nm1 B_nm1 I_nm1 E_nm1 mu_nm1 f_nm1 sel_nm1 out_nm1 (code_sound (Γ := specsOf [(9, S_head), (10, S_next), (13, S_rrv), (14, S_isl)]) (L := noLoops) (specs_ok (l := [(9, S_head), (10, S_next), (13, S_rrv), (14, S_isl)]) ⟨v_head, v_next, v_rrv, v_isl, trivial⟩) body_nm1 (fun b hb => by rw [show loopsIn body_nm1 = [] by kernel_rfl] at hb; cases hb))
    sel_nm1_ok nm1_E (fun s _ => ⟨rfl, rfl⟩) nm1_d (fun s x s' hf => by have := nm1_ex s x s' hf; intro h0; subst h0; simp at this) stp_nm1 (fun s hE => by
      obtain ⟨s', _, h2⟩ := nm1_end s hE
      have h3 : exn_nm1 s = .exit 0 := nm1_ex _ _ _ h2
      unfold out_nm1
      rw [run_nm1_eq]
      simp only [T.all, ← h3]
      rfl)
theorem nm1_fin (s : L_nm1) (hE : E_nm1 s) : (run_nm1 s).greatest = lvl s.c_Min s.c_Max s.c_Step (min s.want s.most) := by
  obtain ⟨s', hI, hf⟩ := nm1_end s hE
  unfold f_nm1 at hf
  rw [ite_min] at hf
  repeat' split at hf
  · cases hf
  · cases hf
  · rename_i ha
    have ha : ¬ s'.a ≤ min s'.want s'.most := by simpa using ha
    simp only [Rd.stop.injEq] at hf
    obtain ⟨_, rfl⟩ := hf
    obtain ⟨h1, h2, h3, h4, h5, h6, h7, h8⟩ := hI
    rw [h8, if_neg (by omega), show (run_nm1 s).a - 1 = min (run_nm1 s).want (run_nm1 s).most by omega]
    rfl
def S_nm : List LV → T LV
  | [.v (.agg ⟨[.string nm, .int .i64 at_, .int .i64 ph, .int .i64 mn, .int .i64 mx, .int .i64 st, .int .i64 fb, .int .i64 ow]⟩), .v (.agg ⟨[.int .i64 a, .int .i64 si]⟩), .v (.int .i64 want)] => .ok (.v (.bool true))
  | _ => .no
theorem nf_nm (nm : ByteArray) (at_ ph mn mx st fb ow a si want : Int) : funx Tryd.prog glR (specsOf [(9, S_head), (10, S_next), (13, S_rrv), (14, S_isl)]) (fun i => if i = 11 then loopT 118 3 [2, 3, 4, 7, 9, 10, 11, 12, 13] sel_nm1 out_nm1 else noLoops i) Tryd.f4 [.v (.agg #[.string nm, .int .i64 at_, .int .i64 ph, .int .i64 mn, .int .i64 mx, .int .i64 st, .int .i64 fb, .int .i64 ow]), .v (.agg #[.int .i64 a, .int .i64 si]), .v (.int .i64 want)] = .br ((!(raB ph mn mx st fb a si)) || ((decide (want < 0)) || (decide (want > 80)))) (.ok (.v (.bool true))) (.br (a == 0) (.req (E_nm1 (⟨want, true, (nE ph mn mx st fb a si want), mn, (0 : Int), (0 : Int), nm, at_, ph, mn, mx, st, fb, ow, a, si, (nA ph mn mx st fb a si want), (nS ph mn mx st fb a si want)⟩ : L_nm1)) (.br true (.br (((nE ph mn mx st fb a si want)) == 0) (.req (chP mn mx st) (.ok (.v (.bool ((isL mn mx st ((nA ph mn mx st fb a si want))) && ((decide (((nA ph mn mx st fb a si want)) ≤ want)) && ((decide (((nA ph mn mx st fb a si want)) ≤ mn)) && (if ((nA ph mn mx st fb a si want)) == (((run_nm1 (⟨want, true, (nE ph mn mx st fb a si want), mn, (0 : Int), (0 : Int), nm, at_, ph, mn, mx, st, fb, ow, a, si, (nA ph mn mx st fb a si want), (nS ph mn mx st fb a si want)⟩ : L_nm1)).greatest)) then (a != 0) || ((decide (si ≥ 5)) || (((nA ph mn mx st fb a si want)) == 0)) else ((a == 0) && ((decide (si < 5)) && (((nA ph mn mx st fb a si want)) == 0))) && ((a != 0) || ((decide (si ≥ 5)) || (((nA ph mn mx st fb a si want)) == 0))))))))))) (.ok (.v (.bool false)))) (.ok (.v (.bool false))))) (.req (E_nm1 (⟨want, true, (nE ph mn mx st fb a si want), (IntKind.i64.wrap (a + st)), (0 : Int), (0 : Int), nm, at_, ph, mn, mx, st, fb, ow, a, si, (nA ph mn mx st fb a si want), (nS ph mn mx st fb a si want)⟩ : L_nm1)) (.br true (.br (((nE ph mn mx st fb a si want)) == 0) (.req (chP mn mx st) (.ok (.v (.bool ((isL mn mx st ((nA ph mn mx st fb a si want))) && ((decide (((nA ph mn mx st fb a si want)) ≤ want)) && ((decide (((nA ph mn mx st fb a si want)) ≤ ((IntKind.i64.wrap (a + st))))) && (if ((nA ph mn mx st fb a si want)) == (((run_nm1 (⟨want, true, (nE ph mn mx st fb a si want), (IntKind.i64.wrap (a + st)), (0 : Int), (0 : Int), nm, at_, ph, mn, mx, st, fb, ow, a, si, (nA ph mn mx st fb a si want), (nS ph mn mx st fb a si want)⟩ : L_nm1)).greatest)) then (a != 0) || ((decide (si ≥ 5)) || (((nA ph mn mx st fb a si want)) == 0)) else ((a == 0) && ((decide (si < 5)) && (((nA ph mn mx st fb a si want)) == 0))) && ((a != 0) || ((decide (si ≥ 5)) || (((nA ph mn mx st fb a si want)) == 0))))))))))) (.ok (.v (.bool false)))) (.ok (.v (.bool false)))))) := by kernel_rfl
theorem v_nm : Valid Tryd.prog glR 4 S_nm := valid_of Tryd.func4 rfl (specs_ok (l := [(9, S_head), (10, S_next), (13, S_rrv), (14, S_isl)]) ⟨v_head, v_next, v_rrv, v_isl, trivial⟩) (L := (fun i => if i = 11 then loopT 118 3 [2, 3, 4, 7, 9, 10, 11, 12, 13] sel_nm1 out_nm1 else noLoops i)) (fun b hb => by
  rw [show loopsIn _ = [body_nm1] by kernel_rfl] at hb
  simp only [List.mem_cons, List.not_mem_nil, or_false] at hb
  subst hb
  exact snd_nm1) (fun args lv h => by
  unfold S_nm at h
  split at h
  · rw [nf_nm]
    rename_i nm at_ ph mn mx st fb ow a si want
    obtain rfl := h
    refine ⟨fun _ => rfl, fun hk => ?_⟩
    have hk := okB_yes hk
    obtain ⟨hc, h1, h2, h3, h4, h5, h6, h7, h8, h9⟩ := okB_more hk
    have hc' := hc
    unfold chP at hc'
    have w2 : IntKind.i64.wrap (a + st) = a + st := wrapS (by omega) (by omega)
    rw [w2]
    have fin : ∀ (s : L_nm1), E_nm1 s → (run_nm1 s).greatest = lvl s.c_Min s.c_Max s.c_Step (min s.want s.most) := nm1_fin
    have hE : ∀ most, 0 ≤ most → most ≤ 200 → E_nm1 (⟨want, true, (nE ph mn mx st fb a si want), most, (0 : Int), (0 : Int), nm, at_, ph, mn, mx, st, fb, ow, a, si, (nA ph mn mx st fb a si want), (nS ph mn mx st fb a si want)⟩ : L_nm1) := fun most m1 m2 => ⟨hc, h3, h4, m1, m2, rfl, rfl⟩
    have go : ∀ most, most = (if a = 0 then mn else a + st) → 0 ≤ most → most ≤ 200 → _ := fun most hm m1 m2 => nm_pure hk hm
    refine ⟨fun h0 => ?_, fun h0 => ?_⟩
    · have h0 : a = 0 := by simpa using h0
      have hp := nm_pure (most := mn) hk (by rw [if_pos h0])
      refine ⟨hE mn (by omega) (by omega), fun _ => ⟨fun _ => ⟨hc, ?_⟩, fun hf => ?_⟩, fun hf => by cases hf⟩
      · rw [fin _ (hE mn (by omega) (by omega))]
        exact congrArg (fun z => LV.v (.bool z)) (nm_bool hp)
      · rw [nE_ok hk] at hf; cases hf
    · have h0 : a ≠ 0 := by simpa using h0
      have hp := nm_pure (most := a + st) hk (by rw [if_neg h0])
      refine ⟨hE (a + st) (by omega) (by omega), fun _ => ⟨fun _ => ⟨hc, ?_⟩, fun hf => ?_⟩, fun hf => by cases hf⟩
      · rw [fin _ (hE (a + st) (by omega) (by omega))]
        exact congrArg (fun z => LV.v (.bool z)) (nm_bool hp)
      · rw [nE_ok hk] at hf; cases hf
  · cases h)
end Go.Proofs.YtgghdejgfihkcaaDoor
