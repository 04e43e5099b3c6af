/- The reference functions: what they compute, by the executor. -/
import Derived.Test.YtgghdejgfihkcaaDoorRf
namespace Go.Proofs.YtgghdejgfihkcaaDoor
open Go.Sx
def S_rch : List LV → T LV
  | [.v (.agg ⟨[.string nm, .int .i64 at_, .int .i64 ph, .int .i64 mn, .int .i64 mx, .int .i64 st, .int .i64 fb, .int .i64 ow]⟩)] => .ok (.v (.bool (chB ph mn mx st fb)))
  | _ => .no
theorem nf_rch (nm : ByteArray) (at_ ph mn mx st fb ow : Int) : funx Tryd.prog glR (specsOf []) noLoops Tryd.f15 [.v (.agg #[.string nm, .int .i64 at_, .int .i64 ph, .int .i64 mn, .int .i64 mx, .int .i64 st, .int .i64 fb, .int .i64 ow])] = .br ((decide (ph < 1)) || ((decide (ph > 7)) || ((decide (mn < 1)) || ((decide (mx > 80)) || ((decide (mn > mx)) || ((decide (st < 1)) || (decide (st > 80)))))))) (.ok (.v (.bool false))) (.ok (.v (.bool ((fb == 0) || ((decide (fb ≥ mn)) && (decide (fb ≤ mx))))))) := by kernel_rfl
theorem v_rch : Valid Tryd.prog glR 15 S_rch := valid_of Tryd.func15 rfl (specs_ok (l := []) trivial) (no_loops (by kernel_rfl)) (fun args lv h => by
  unfold S_rch at h
  split at h
  · rw [nf_rch]
    obtain rfl := h
    refine ⟨fun hb => ?_, fun hb => ?_⟩
    · exact congrArg (fun z => LV.v (.bool z)) (rch0 hb)
    · exact congrArg (fun z => LV.v (.bool z)) (rch1 hb)
  · cases h)
structure L_lev where
  am : Int
  lv : Int
  x : Int
  nm : ByteArray
  at_ : Int
  ph : Int
  mn : Int
  mx : Int
  st : Int
  fb : Int
  ow : Int
def A_lev (s : L_lev) : List LV := [.v (.int .i64 s.am), .own 0 0, .v (.int .i64 s.lv), .v (.int .i64 s.x)]
def B_lev (s : L_lev) : List Blk := [⟨[.v (.string s.nm), .v (.int .i64 s.at_), .v (.int .i64 s.ph), .v (.int .i64 s.mn), .v (.int .i64 s.mx), .v (.int .i64 s.st), .v (.int .i64 s.fb), .v (.int .i64 s.ow)], 23⟩]
def E_lev (am lv x : Int) (nm : ByteArray) (at_ ph mn mx st fb ow : Int) : Prop := chP mn mx st ∧ lv = 0 ∧ x = mn
def sel_lev : List LV → List Blk → T L_lev
  | [.v (.int .i64 am), .own 0 0, .v (.int .i64 lv), .v (.int .i64 x)], [⟨[.v (.string nm), .v (.int .i64 at_), .v (.int .i64 ph), .v (.int .i64 mn), .v (.int .i64 mx), .v (.int .i64 st), .v (.int .i64 fb), .v (.int .i64 ow)], 23⟩] => .req (chP mn mx st ∧ lv = 0 ∧ x = mn) (.ok ⟨am, lv, x, nm, at_, ph, mn, mx, st, fb, ow⟩)
  | _, _ => .no
theorem sel_lev_ok : ∀ vals blks s, (sel_lev vals blks).all (fun x => x = s) → E_lev s.am s.lv s.x s.nm s.at_ s.ph s.mn s.mx s.st s.fb s.ow ∧ vals = A_lev s ∧ blks = B_lev s := by
  intro vals blks s h
  unfold sel_lev at h
  split at h
  · obtain ⟨h1, rfl⟩ := h
    exact ⟨h1, rfl, rfl⟩
  · cases h
noncomputable def body_lev : Code := ((loopsIn (Tryd.f24.body.getD .skip))[0]?).getD .skip
def f_lev (s : L_lev) : Rd L_lev := if s.x ≤ s.mx then .next { s with lv := if s.x ≤ s.am then s.x else s.lv, x := IntKind.i64.wrap (s.x + s.st) } else .stop (.exit 0) s
def mu_lev (s : L_lev) : Nat := (s.mx + 1 - s.x).toNat
def I_lev (s : L_lev) : Prop := levI s.mn s.mx s.st s.am s.lv s.x
theorem lev_d : ∀ s s', I_lev s → f_lev s = .next s' → I_lev s' ∧ mu_lev s' < mu_lev s := by
  intro s s' hI h
  unfold f_lev at h
  split at h
  · rename_i hx
    simp only [Rd.next.injEq] at h
    subst h
    unfold I_lev at hI ⊢
    have := levI_step hI hx
    rw [wrapS (by unfold levI chP at hI; omega) (by unfold levI chP at hI; omega)]
    refine ⟨this, ?_⟩
    unfold mu_lev
    unfold levI chP at hI
    simp only
    omega
  · cases h
theorem lev_ne : ∀ s x s', f_lev s = .stop x s' → x ≠ .normal := by
  intro s x s' h
  unfold f_lev at h
  split at h
  · cases h
  · simp only [Rd.stop.injEq] at h
    rw [← h.1]
    simp
theorem lev_run : ∀ (k : Nat) (s : L_lev), I_lev s → mu_lev s < k → ∃ x', runW f_lev k s = (.exit 0, { s with lv := lvl s.mn s.mx s.st s.am, x := x' })
  | 0, s, _, h => by omega
  | k + 1, s, hI, h => by
    simp only [runW]
    cases hf : f_lev s with
    | next s' =>
      obtain ⟨h1, h2⟩ := lev_d s s' hI hf
      obtain ⟨x', hx⟩ := lev_run k s' h1 (by omega)
      refine ⟨x', ?_⟩
      simp only [hx]
      unfold f_lev at hf
      split at hf
      · simp only [Rd.next.injEq] at hf
        subst hf
        rfl
      · cases hf
    | stop y s' =>
      unfold f_lev at hf
      split at hf
      · cases hf
      · rename_i hx
        simp only [Rd.stop.injEq] at hf
        obtain ⟨rfl, rfl⟩ := hf
        refine ⟨s.x, ?_⟩
        rw [← levI_end hI (by omega)]
def out_lev (s : L_lev) : T (Ex × List LV × List Blk) := .ok (.exit 0, frameOf 22 [1, 2, 5, 6] (A_lev { s with lv := lvl s.mn s.mx s.st s.am, x := (runW f_lev (mu_lev s + 1) s).2.x }), B_lev { s with lv := lvl s.mn s.mx s.st s.am, x := (runW f_lev (mu_lev s + 1) s).2.x })
theorem nfl_lev (s : L_lev) : (codex Tryd.prog glR (specsOf []) noLoops body_lev (frameOf 22 [1, 2, 5, 6] (A_lev s)) (B_lev s)).bind (fun q => .ok (viewQ [1, 2, 5, 6] 1 q)) = .br (decide (s.x ≤ s.mx)) (.br (decide (s.x ≤ s.am)) (.ok (⟨.normal, 22, [.v (.int .i64 s.am), .own 0 0, .v (.int .i64 s.x), .v (.int .i64 (IntKind.i64.wrap (s.x + s.st)))], [⟨[.v (.string s.nm), .v (.int .i64 s.at_), .v (.int .i64 s.ph), .v (.int .i64 s.mn), .v (.int .i64 s.mx), .v (.int .i64 s.st), .v (.int .i64 s.fb), .v (.int .i64 s.ow)], 23⟩], true⟩)) (.ok (⟨.normal, 22, [.v (.int .i64 s.am), .own 0 0, .v (.int .i64 s.lv), .v (.int .i64 (IntKind.i64.wrap (s.x + s.st)))], [⟨[.v (.string s.nm), .v (.int .i64 s.at_), .v (.int .i64 s.ph), .v (.int .i64 s.mn), .v (.int .i64 s.mx), .v (.int .i64 s.st), .v (.int .i64 s.fb), .v (.int .i64 s.ow)], 23⟩], true⟩))) (.ok (⟨.exit 0, 22, [.v (.int .i64 s.am), .own 0 0, .v (.int .i64 s.lv), .v (.int .i64 s.x)], [⟨[.v (.string s.nm), .v (.int .i64 s.at_), .v (.int .i64 s.ph), .v (.int .i64 s.mn), .v (.int .i64 s.mx), .v (.int .i64 s.st), .v (.int .i64 s.fb), .v (.int .i64 s.ow)], 23⟩], true⟩)) := by kernel_rfl
theorem stp_lev (s : L_lev) (hI : I_lev s) : AllT (fun v => v = rdV 22 A_lev B_lev (f_lev s)) ((codex Tryd.prog glR (specsOf []) noLoops body_lev (frameOf 22 [1, 2, 5, 6] (A_lev s)) (B_lev s)).bind (fun q => .ok (viewQ [1, 2, 5, 6] 1 q))) := by
  constructor
  rw [nfl_lev]
  unfold f_lev
  by_cases h1 : s.x ≤ s.mx
  · rw [if_pos h1]
    refine ⟨fun _ => ⟨fun h2 => ?_, fun h2 => ?_⟩, fun hf => absurd h1 (by simpa using hf)⟩
    · have h2' : s.x ≤ s.am := by simpa using h2
      simp only [T.all, rdV, A_lev, B_lev, if_pos h2']
    · have h2' : ¬ s.x ≤ s.am := by simpa using h2
      simp only [T.all, rdV, A_lev, B_lev, if_neg h2']
  · rw [if_neg h1]
    exact ⟨fun ht => absurd (by simpa using ht) h1, fun _ => rfl⟩
theorem snd_lev : Sound Tryd.prog glR (.loop body_lev) (loopT 22 1 [1, 2, 5, 6] sel_lev out_lev) :=
  loop_view 22 1 [1, 2, 5, 6] A_lev B_lev I_lev (fun s => E_lev s.am s.lv s.x s.nm s.at_ s.ph s.mn s.mx s.st s.fb s.ow) mu_lev f_lev sel_lev out_lev (code_sound (Γ := specsOf []) (L := noLoops) (specs_ok (l := []) trivial) body_lev (fun b hb => by rw [show loopsIn body_lev = [] by kernel_rfl] at hb; cases hb))
    sel_lev_ok (fun s hE => by obtain ⟨h1, h2, h3⟩ := hE; unfold I_lev; rw [h2, h3]; exact levI_start h1) (fun s _ => ⟨rfl, rfl⟩) lev_d lev_ne stp_lev (fun s hE => by
      have hI : I_lev s := by obtain ⟨h1, h2, h3⟩ := hE; unfold I_lev; rw [h2, h3]; exact levI_start h1
      obtain ⟨x', hx⟩ := lev_run _ s hI (Nat.lt_succ_self _)
      simp only [out_lev, T.all, hx])
def S_rlev : List LV → T LV
  | [.v (.agg ⟨[.string nm, .int .i64 at_, .int .i64 ph, .int .i64 mn, .int .i64 mx, .int .i64 st, .int .i64 fb, .int .i64 ow]⟩), .v (.int .i64 am)] => .req (chP mn mx st) (.ok (.v (.int .i64 (lvl mn mx st am))))
  | _ => .no
theorem nf_rlev (nm : ByteArray) (at_ ph mn mx st fb ow am : Int) : funx Tryd.prog glR (specsOf []) (fun i => if i = 3 then loopT 22 1 [1, 2, 5, 6] sel_lev out_lev else noLoops i) Tryd.f24 [.v (.agg #[.string nm, .int .i64 at_, .int .i64 ph, .int .i64 mn, .int .i64 mx, .int .i64 st, .int .i64 fb, .int .i64 ow]), .v (.int .i64 am)] = .req (chP mn mx st ∧ (0 : Int) = 0 ∧ mn = mn) (.ok (.v (.int .i64 (((lvl mn mx st am)))))) := by kernel_rfl
theorem v_rlev : Valid Tryd.prog glR 24 S_rlev := valid_of Tryd.func24 rfl (specs_ok (l := []) trivial) (L := (fun i => if i = 3 then loopT 22 1 [1, 2, 5, 6] sel_lev out_lev else noLoops i)) (fun b hb => by
  rw [show loopsIn _ = [body_lev] by kernel_rfl] at hb
  simp only [List.mem_cons, List.not_mem_nil, or_false] at hb
  subst hb
  exact snd_lev) (fun args lv h => by
  unfold S_rlev at h
  split at h
  · rw [nf_rlev]
    obtain ⟨hc, rfl⟩ := h
    exact ⟨⟨hc, rfl, rfl⟩, rfl⟩
  · cases h)
def S_rrv : List LV → T LV
  | [.v (.agg ⟨[.string nm, .int .i64 at_, .int .i64 ph, .int .i64 mn, .int .i64 mx, .int .i64 st, .int .i64 fb, .int .i64 ow]⟩), .v (.agg ⟨[.int .i64 a, .int .i64 si]⟩)] => .ok (.v (.bool (raB ph mn mx st fb a si)))
  | _ => .no
theorem nf_rrv (nm : ByteArray) (at_ ph mn mx st fb ow a si : Int) : funx Tryd.prog glR (specsOf [(15, S_rch), (24, S_rlev)]) noLoops Tryd.f13 [.v (.agg #[.string nm, .int .i64 at_, .int .i64 ph, .int .i64 mn, .int .i64 mx, .int .i64 st, .int .i64 fb, .int .i64 ow]), .v (.agg #[.int .i64 a, .int .i64 si])] = .br (chB ph mn mx st fb) (.br (decide (a ≥ 0)) (.br (decide (si ≥ 0)) (.br (decide (si ≤ 1000000)) (.req (chP mn mx st) (.ok (.v (.bool ((lvl mn mx st a) == a))))) (.ok (.v (.bool false)))) (.ok (.v (.bool false)))) (.ok (.v (.bool false)))) (.ok (.v (.bool false))) := by kernel_rfl
theorem v_rrv : Valid Tryd.prog glR 13 S_rrv := valid_of Tryd.func13 rfl (specs_ok (l := [(15, S_rch), (24, S_rlev)]) ⟨v_rch, v_rlev, trivial⟩) (no_loops (by kernel_rfl)) (fun args lv h => by
  unfold S_rrv at h
  split at h
  · rw [nf_rrv]
    obtain rfl := h
    refine ⟨fun h1 => ⟨fun h2 => ⟨fun h3 => ⟨fun h4 => ⟨chP_of h1, ?_⟩, fun h4 => ?_⟩, fun h3 => ?_⟩, fun h2 => ?_⟩, fun h1 => ?_⟩
    all_goals refine congrArg (fun z => LV.v (.bool z)) ?_
    all_goals simp_all [raB]
    all_goals omega
  · cases h)
end Go.Proofs.YtgghdejgfihkcaaDoor
