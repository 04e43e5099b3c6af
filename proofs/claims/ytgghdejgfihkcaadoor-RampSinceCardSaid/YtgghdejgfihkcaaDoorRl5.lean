/- RampSince: what it computes. -/
import Derived.Test.YtgghdejgfihkcaaDoorRq
namespace Go.Proofs.YtgghdejgfihkcaaDoor
open Go.Sx
structure L_sin where
  wants : List Int
  up_ : Bool
  since : Int
  i : Int
  c_Name : ByteArray
  c_At : Int
  c_Phases : Int
  c_Min : Int
  c_Max : Int
  c_Step : Int
  c_Fallback : Int
  c_Owner : Int
  r_Amps : Int
  r_Since : Int
def A_sin (s : L_sin) : List LV := [.xl (.int .i64) s.wants, .own 0 0, .own 1 0, .v (.bool s.up_), .v (.int .i64 s.since), .v (.int .i64 s.i)]
def B_sin (s : L_sin) : List Blk := [⟨[.v (.string s.c_Name), .v (.int .i64 s.c_At), .v (.int .i64 s.c_Phases), .v (.int .i64 s.c_Min), .v (.int .i64 s.c_Max), .v (.int .i64 s.c_Step), .v (.int .i64 s.c_Fallback), .v (.int .i64 s.c_Owner)], 23⟩, ⟨[.v (.int .i64 s.r_Amps), .v (.int .i64 s.r_Since)], 25⟩]
noncomputable def body_sin : Code := ((loopsIn (Tryd.f8.body.getD .skip))[0]?).getD .skip
def f_sin (s : L_sin) : Rd L_sin :=
  if decide (s.i < ((List.length s.wants : Int))) then
    if (nE s.c_Phases s.c_Min s.c_Max s.c_Step s.c_Fallback s.r_Amps s.r_Since ((gx (e := .int .i64) s.wants s.i))) != 0 then
      .next { s with i := (IntKind.i64.wrap (s.i + 1)) }
    else
      if !(((nA s.c_Phases s.c_Min s.c_Max s.c_Step s.c_Fallback s.r_Amps s.r_Since ((gx (e := .int .i64) s.wants s.i))) == 0) == (s.r_Amps == 0)) then
        .next { s with up_ := s.up_ && ((nS s.c_Phases s.c_Min s.c_Max s.c_Step s.c_Fallback s.r_Amps s.r_Since ((gx (e := .int .i64) s.wants s.i))) == (if (1000000 : Int) < 0 then 1000000 else 0)), since := (0 : Int), i := (IntKind.i64.wrap (s.i + 1)), r_Amps := (nA s.c_Phases s.c_Min s.c_Max s.c_Step s.c_Fallback s.r_Amps s.r_Since ((gx (e := .int .i64) s.wants s.i))), r_Since := (nS s.c_Phases s.c_Min s.c_Max s.c_Step s.c_Fallback s.r_Amps s.r_Since ((gx (e := .int .i64) s.wants s.i))) }
      else
        .next { s with up_ := s.up_ && ((nS s.c_Phases s.c_Min s.c_Max s.c_Step s.c_Fallback s.r_Amps s.r_Since ((gx (e := .int .i64) s.wants s.i))) == (if (1000000 : Int) < (IntKind.i64.wrap (s.since + 1)) then 1000000 else IntKind.i64.wrap (s.since + 1))), since := (IntKind.i64.wrap (s.since + 1)), i := (IntKind.i64.wrap (s.i + 1)), r_Amps := (nA s.c_Phases s.c_Min s.c_Max s.c_Step s.c_Fallback s.r_Amps s.r_Since ((gx (e := .int .i64) s.wants s.i))), r_Since := (nS s.c_Phases s.c_Min s.c_Max s.c_Step s.c_Fallback s.r_Amps s.r_Since ((gx (e := .int .i64) s.wants s.i))) }
  else
    .stop (.exit 0) s
def P_sin (s : L_sin) := ((), s.wants, s.c_Name, s.c_At, s.c_Phases, s.c_Min, s.c_Max, s.c_Step, s.c_Fallback, s.c_Owner)
theorem sin_ex : ∀ s x s', f_sin s = .stop x s' → x = .exit 0 := by
  intro s x s' h
  unfold f_sin at h
  repeat' split at h
  all_goals first | (cases h; done) | (cases h; rfl) | (cases h; simp)
def R_sin (s : L_sin) : Prop := raB s.c_Phases s.c_Min s.c_Max s.c_Step s.c_Fallback s.r_Amps s.r_Since = true ∧ (s.wants.length : Int) ≤ 200
def E_sin (s : L_sin) : Prop := R_sin s ∧ s.up_ = true ∧ s.since = s.r_Since ∧ s.i = 0
def I_sin (s : L_sin) : Prop := R_sin s ∧ s.up_ = true ∧ 0 ≤ s.i ∧ s.i ≤ (s.wants.length : Int) ∧ 0 ≤ s.since ∧ s.since ≤ 1000000 + s.i ∧ s.r_Since = min s.since 1000000
def mu_sin (s : L_sin) : Nat := ((s.wants.length : Int) - s.i).toNat
theorem sin_E : ∀ s, E_sin s → I_sin s := by
  intro s h
  obtain ⟨h1, h2, h3, h4⟩ := h
  have := ra_since h1.1
  exact ⟨h1, h2, by omega, by omega, by omega, by omega, by omega⟩
theorem sin_d : ∀ s s', I_sin s → f_sin s = .next s' → I_sin s' ∧ mu_sin s' < mu_sin s := by
  intro s s' hI h
  obtain ⟨⟨hr, hlen⟩, hu, h1, h2, h3, h4, h5⟩ := hI
  unfold f_sin at h
  generalize hw : gx (e := .int .i64) s.wants s.i = want at h
  split at h
  · rename_i hi
    have hi : s.i < (s.wants.length : Int) := by simpa using hi
    rw [wrapS (x := s.i + 1) (by omega) (by omega), wrapS (x := s.since + 1) (by omega) (by omega)] at h
    split at h
    · cases h
      exact ⟨⟨⟨hr, hlen⟩, hu, by simp only; omega, by simp only; omega, h3, by simp only; omega, h5⟩, by simp only [mu_sin]; omega⟩
    · rename_i he
      have hk : okB s.c_Phases s.c_Min s.c_Max s.c_Step s.c_Fallback s.r_Amps s.r_Since want = true := okB_nE (by simpa using he)
      have hr' := ra_next hk
      obtain ⟨n1, n2, n3, n4, n5, n6⟩ := next_facts hk
      split at h
      · rename_i c1
        cases h
        have hne : nS s.c_Phases s.c_Min s.c_Max s.c_Step s.c_Fallback s.r_Amps s.r_Since want = 0 := n5 (fun h => by simp at c1; exact c1 (beq_iff'.2 h))
        refine ⟨⟨⟨hr', hlen⟩, ?_, by simp only; omega, by simp only; omega, by simp only; omega, by simp only; omega, by simp only; omega⟩, by simp only [mu_sin]; omega⟩
        simp only [hu, hne, Bool.true_and]
        decide
      · rename_i c1
        cases h
        have hne : nS s.c_Phases s.c_Min s.c_Max s.c_Step s.c_Fallback s.r_Amps s.r_Since want = min (s.r_Since + 1) 1000000 := n6 (beq_iff'.1 (by simpa using c1))
        refine ⟨⟨⟨hr', hlen⟩, ?_, by simp only; omega, by simp only; omega, by simp only; omega, by simp only; omega, by simp only; omega⟩, by simp only [mu_sin]; omega⟩
        simp only [hu, hne, Bool.true_and, beq_iff_eq]
        omega
  · cases h
def sel_sin : List LV → List Blk → T L_sin
  | [.xl (.int .i64) wants, .own 0 0, .own 1 0, .v (.bool up_), .v (.int .i64 since), .v (.int .i64 i)], [⟨[.v (.string c_Name), .v (.int .i64 c_At), .v (.int .i64 c_Phases), .v (.int .i64 c_Min), .v (.int .i64 c_Max), .v (.int .i64 c_Step), .v (.int .i64 c_Fallback), .v (.int .i64 c_Owner)], 23⟩, ⟨[.v (.int .i64 r_Amps), .v (.int .i64 r_Since)], 25⟩] => .req (E_sin ⟨wants, up_, since, i, c_Name, c_At, c_Phases, c_Min, c_Max, c_Step, c_Fallback, c_Owner, r_Amps, r_Since⟩) (.ok ⟨wants, up_, since, i, c_Name, c_At, c_Phases, c_Min, c_Max, c_Step, c_Fallback, c_Owner, r_Amps, r_Since⟩)
  | _, _ => .no
theorem sel_sin_ok : ∀ vals blks s, (sel_sin vals blks).all (fun x => x = s) → E_sin s ∧ vals = A_sin s ∧ blks = B_sin s := by
  intro vals blks s h
  unfold sel_sin at h
  split at h
  · obtain ⟨h1, rfl⟩ := h
    exact ⟨h1, rfl, rfl⟩
  · cases h
def run_sin (s : L_sin) : L_sin := { (runW f_sin (mu_sin s + 1) s).2 with wants := s.wants, c_Name := s.c_Name, c_At := s.c_At, c_Phases := s.c_Phases, c_Min := s.c_Min, c_Max := s.c_Max, c_Step := s.c_Step, c_Fallback := s.c_Fallback, c_Owner := s.c_Owner }
theorem run_sin_eq (s : L_sin) : (runW f_sin (mu_sin s + 1) s).2 = run_sin s := by
  have hk := runW_keep (f := f_sin) P_sin (fun s s' hf => by
    unfold f_sin at hf
    repeat' split at hf
    all_goals cases hf
    all_goals rfl) (fun s x s' hf => by
    unfold f_sin at hf
    repeat' split at hf
    all_goals cases hf
    all_goals rfl) (mu_sin s + 1) s
  unfold run_sin
  generalize (runW f_sin (mu_sin s + 1) s).2 = r at *
  cases r
  simp only [P_sin, Prod.mk.injEq, true_and] at hk
  simp only [L_sin.mk.injEq, hk, and_self]
def exn_sin (s : L_sin) : Ex := (runW f_sin (mu_sin s + 1) s).1
def out_sin (s : L_sin) : T (Ex × List LV × List Blk) := .ok (.exit 0, frameOf 70 [2, 3, 4, 7, 9, 10] (A_sin (run_sin s)), B_sin (run_sin s))
theorem nfl_sin (s : L_sin) : (codex Tryd.prog glR (specsOf [(9, S_head), (10, S_next), (13, S_rrv), (15, S_rch)]) noLoops body_sin (frameOf 70 [2, 3, 4, 7, 9, 10] (A_sin s)) (B_sin s)).bind (fun q => .ok (viewQ [2, 3, 4, 7, 9, 10] 2 q)) = .br (decide (s.i < ((List.length s.wants : Int)))) (.req (0 ≤ s.i ∧ s.i < (List.length s.wants : Int)) (.br ((nE s.c_Phases s.c_Min s.c_Max s.c_Step s.c_Fallback s.r_Amps s.r_Since ((gx (e := .int .i64) s.wants s.i))) != 0) (.ok (⟨.normal, 70, [.xl (.int .i64) s.wants, .own 0 0, .own 1 0, .v (.bool s.up_), .v (.int .i64 s.since), .v (.int .i64 (IntKind.i64.wrap (s.i + 1)))], [⟨[.v (.string s.c_Name), .v (.int .i64 s.c_At), .v (.int .i64 s.c_Phases), .v (.int .i64 s.c_Min), .v (.int .i64 s.c_Max), .v (.int .i64 s.c_Step), .v (.int .i64 s.c_Fallback), .v (.int .i64 s.c_Owner)], 23⟩, ⟨[.v (.int .i64 s.r_Amps), .v (.int .i64 s.r_Since)], 25⟩], true⟩)) (.br (!(((nA s.c_Phases s.c_Min s.c_Max s.c_Step s.c_Fallback s.r_Amps s.r_Since ((gx (e := .int .i64) s.wants s.i))) == 0) == (s.r_Amps == 0))) (.ok (⟨.normal, 70, [.xl (.int .i64) s.wants, .own 0 0, .own 1 0, .v (.bool (s.up_ && ((nS s.c_Phases s.c_Min s.c_Max s.c_Step s.c_Fallback s.r_Amps s.r_Since ((gx (e := .int .i64) s.wants s.i))) == (if (1000000 : Int) < 0 then 1000000 else 0)))), .v (.int .i64 0), .v (.int .i64 (IntKind.i64.wrap (s.i + 1)))], [⟨[.v (.string s.c_Name), .v (.int .i64 s.c_At), .v (.int .i64 s.c_Phases), .v (.int .i64 s.c_Min), .v (.int .i64 s.c_Max), .v (.int .i64 s.c_Step), .v (.int .i64 s.c_Fallback), .v (.int .i64 s.c_Owner)], 23⟩, ⟨[.v (.int .i64 (nA s.c_Phases s.c_Min s.c_Max s.c_Step s.c_Fallback s.r_Amps s.r_Since ((gx (e := .int .i64) s.wants s.i)))), .v (.int .i64 (nS s.c_Phases s.c_Min s.c_Max s.c_Step s.c_Fallback s.r_Amps s.r_Since ((gx (e := .int .i64) s.wants s.i))))], 25⟩], true⟩)) (.ok (⟨.normal, 70, [.xl (.int .i64) s.wants, .own 0 0, .own 1 0, .v (.bool (s.up_ && ((nS s.c_Phases s.c_Min s.c_Max s.c_Step s.c_Fallback s.r_Amps s.r_Since ((gx (e := .int .i64) s.wants s.i))) == (if (1000000 : Int) < (IntKind.i64.wrap (s.since + 1)) then 1000000 else IntKind.i64.wrap (s.since + 1))))), .v (.int .i64 (IntKind.i64.wrap (s.since + 1))), .v (.int .i64 (IntKind.i64.wrap (s.i + 1)))], [⟨[.v (.string s.c_Name), .v (.int .i64 s.c_At), .v (.int .i64 s.c_Phases), .v (.int .i64 s.c_Min), .v (.int .i64 s.c_Max), .v (.int .i64 s.c_Step), .v (.int .i64 s.c_Fallback), .v (.int .i64 s.c_Owner)], 23⟩, ⟨[.v (.int .i64 (nA s.c_Phases s.c_Min s.c_Max s.c_Step s.c_Fallback s.r_Amps s.r_Since ((gx (e := .int .i64) s.wants s.i)))), .v (.int .i64 (nS s.c_Phases s.c_Min s.c_Max s.c_Step s.c_Fallback s.r_Amps s.r_Since ((gx (e := .int .i64) s.wants s.i))))], 25⟩], true⟩))))) (.ok (⟨.exit 0, 70, [.xl (.int .i64) s.wants, .own 0 0, .own 1 0, .v (.bool s.up_), .v (.int .i64 s.since), .v (.int .i64 s.i)], [⟨[.v (.string s.c_Name), .v (.int .i64 s.c_At), .v (.int .i64 s.c_Phases), .v (.int .i64 s.c_Min), .v (.int .i64 s.c_Max), .v (.int .i64 s.c_Step), .v (.int .i64 s.c_Fallback), .v (.int .i64 s.c_Owner)], 23⟩, ⟨[.v (.int .i64 s.r_Amps), .v (.int .i64 s.r_Since)], 25⟩], true⟩)) := by kernel_rfl
theorem stp_sin (s : L_sin) (hI : I_sin s) : AllT (fun v => v = rdV 70 A_sin B_sin (f_sin s)) ((codex Tryd.prog glR (specsOf [(9, S_head), (10, S_next), (13, S_rrv), (15, S_rch)]) noLoops body_sin (frameOf 70 [2, 3, 4, 7, 9, 10] (A_sin s)) (B_sin s)).bind (fun q => .ok (viewQ [2, 3, 4, 7, 9, 10] 2 q))) := by
  constructor
  rw [nfl_sin]
  unfold f_sin
  exact
    stp_br (fun c1 =>
      ⟨by (obtain ⟨_, _, h1, _⟩ := hI; simp at c1; omega),
        stp_br (fun c2 =>
          rfl) (fun c2 =>
          stp_br (fun c3 =>
            rfl) (fun c3 =>
            rfl))⟩) (fun c1 =>
      rfl)
theorem sin_end (s : L_sin) (hE : E_sin s) : ∃ s', I_sin s' ∧ f_sin s' = .stop (exn_sin s) (run_sin s) := by rw [← run_sin_eq]; exact runW_stop sin_d (mu_sin s + 1) s (sin_E s hE) (Nat.lt_succ_self _)
theorem snd_sin : Sound Tryd.prog glR (.loop body_sin) (loopT 70 2 [2, 3, 4, 7, 9, 10] sel_sin out_sin) :=
  loop_view 70 2 [2, 3, 4, 7, 9, 10] A_sin B_sin I_sin E_sin mu_sin f_sin sel_sin out_sin (code_sound (Γ := specsOf [(9, S_head), (10, S_next), (13, S_rrv), (15, S_rch)]) (L := noLoops) (specs_ok (l := [(9, S_head), (10, S_next), (13, S_rrv), (15, S_rch)]) ⟨v_head, v_next, v_rrv, v_rch, trivial⟩) body_sin (fun b hb => by rw [show loopsIn body_sin = [] by kernel_rfl] at hb; cases hb))
    sel_sin_ok sin_E (fun s _ => ⟨rfl, rfl⟩) sin_d (fun s x s' hf => by have := sin_ex s x s' hf; intro h0; subst h0; simp at this) stp_sin (fun s hE => by
      obtain ⟨s', _, h2⟩ := sin_end s hE
      have h3 : exn_sin s = .exit 0 := sin_ex _ _ _ h2
      unfold out_sin
      rw [run_sin_eq]
      simp only [T.all, ← h3]
      rfl)
theorem sin_fin (s : L_sin) (hE : E_sin s) : (run_sin s).up_ = true := by
  obtain ⟨s', hI, hf⟩ := sin_end s hE
  have hs : s' = run_sin s := by
    unfold f_sin at hf
    repeat' split at hf
    all_goals first | (cases hf; done) | exact (Rd.stop.inj hf).2
  rw [← hs]
  exact hI.2.1
def S_sinl : List LV → T LV
  | [.v (.agg ⟨[.string nm, .int .i64 at_, .int .i64 ph, .int .i64 mn, .int .i64 mx, .int .i64 st, .int .i64 fb, .int .i64 ow]⟩), .v (.agg ⟨[.int .i64 a, .int .i64 si]⟩), .xl (.int .i64) wants] => .ok (.v (.bool true))
  | _ => .no
theorem nf_sinl (nm : ByteArray) (at_ ph mn mx st fb ow a si : Int) (wants : List Int) : funx Tryd.prog glR (specsOf [(9, S_head), (10, S_next), (13, S_rrv), (15, S_rch)]) (fun i => if i = 7 then loopT 70 2 [2, 3, 4, 7, 9, 10] sel_sin out_sin else noLoops i) Tryd.f8 [.v (.agg #[.string nm, .int .i64 at_, .int .i64 ph, .int .i64 mn, .int .i64 mx, .int .i64 st, .int .i64 fb, .int .i64 ow]), .v (.agg #[.int .i64 a, .int .i64 si]), .xl (.int .i64) wants] = .br ((!(raB ph mn mx st fb a si)) || (decide (((List.length wants : Int)) > 200))) (.ok (.v (.bool true))) (.req (E_sin (⟨wants, true, si, (0 : Int), nm, at_, ph, mn, mx, st, fb, ow, a, si⟩ : L_sin)) (.ok (.v (.bool ((((run_sin (⟨wants, true, si, (0 : Int), nm, at_, ph, mn, mx, st, fb, ow, a, si⟩ : L_sin)).up_)) && (chB ph mn mx st fb)))))) := by kernel_rfl
theorem v_sinl : Valid Tryd.prog glR 8 S_sinl := valid_of Tryd.func8 rfl (specs_ok (l := [(9, S_head), (10, S_next), (13, S_rrv), (15, S_rch)]) ⟨v_head, v_next, v_rrv, v_rch, trivial⟩) (L := (fun i => if i = 7 then loopT 70 2 [2, 3, 4, 7, 9, 10] sel_sin out_sin else noLoops i)) (fun b hb => by
  rw [show loopsIn _ = [body_sin] by kernel_rfl] at hb
  simp only [List.mem_cons, List.not_mem_nil, or_false] at hb
  subst hb
  exact snd_sin) (fun args lv h => by
  unfold S_sinl at h
  split at h
  · rw [nf_sinl]
    rename_i nm at_ ph mn mx st fb ow a si wants
    obtain rfl := h
    refine ⟨fun _ => rfl, fun hk => ?_⟩
    simp only [Bool.or_eq_false_iff, Bool.not_eq_false', decide_eq_false_iff_not] at hk
    have hE : E_sin ⟨wants, true, si, (0 : Int), nm, at_, ph, mn, mx, st, fb, ow, a, si⟩ := ⟨⟨hk.1, by simp only; omega⟩, rfl, rfl, rfl⟩
    refine ⟨hE, ?_⟩
    refine congrArg (fun z => LV.v (.bool z)) ?_
    rw [sin_fin _ hE, ra_ch hk.1]
    rfl
  · cases h)
end Go.Proofs.YtgghdejgfihkcaaDoor
