/- CardsForGood: what it computes. -/
import Derived.Test.YtcpadfehoaopaaaBq
import Derived.Test.YtcpadfehoaopaaaBs
namespace Go.Proofs.Ytcpadfehoaopaaa
open Go.Sx
structure L_fg where
  l : List (Int × (Int × (Int × Int)))
  void : List (Int × Int)
  up_ : Bool
  m : Int
  n : Int
  k : Int
  revoked : Bool
  q : List (Int × Int)
  z : Int
  i : Int
def A_fg (s : L_fg) : List LV := [.xl tC s.l, .xl tV s.void, .v (.bool s.up_), .v (.int .i64 s.m), .v (.int .i64 s.n), .v (.int .i64 s.k), .v (.bool s.revoked), .xl tV s.q, .v (.int .i64 s.z), .v (.int .i64 s.i)]
def B_fg (s : L_fg) : List Blk := []
noncomputable def body_fg : Code := ((loopsIn (Try.f5.body.getD .skip))[0]?).getD .skip
def f_fg (s : L_fg) : Rd L_fg :=
  if (decide (s.i < s.z)) then
    .next { s with revoked := (s.revoked || (((gV s.q s.i).1 == s.m) && (decide ((gV s.q s.i).2 ≤ s.n)))), i := (IntKind.i64.wrap (s.i + 1)) }
  else
    .stop (.exit 0) s
def P_fg (s : L_fg) := ((), s.l, s.void, s.up_, s.m, s.n, s.k, s.q, s.z)
theorem fg_ex : ∀ s x s', f_fg s = .stop x s' → x = .exit 0 := by
  intro s x s' h
  unfold f_fg at h
  repeat' split at h
  all_goals first | (cases h; done) | (cases h; rfl) | (cases h; simp)
def E_fg (s : L_fg) : Prop := s.i = 0 ∧ s.z = s.q.length ∧ s.z ≤ 1000 ∧ ckV 0 s.q = true ∧ (s.revoked = true → rvB s.q s.m s.n = true)
def I_fg (s : L_fg) : Prop := 0 ≤ s.i ∧ s.i ≤ s.z ∧ s.z = s.q.length ∧ s.z ≤ 1000 ∧ ckV 0 s.q = true ∧ (s.revoked = true → rvB s.q s.m s.n = true)
def mu_fg (s : L_fg) : Nat := (s.z - s.i).toNat
def Q_fg (x : Ex) (s s' : L_fg) : Prop := x = .exit 0 ∧ (s'.revoked = true → rvB s'.q s'.m s'.n = true)
theorem fg_E : ∀ s, E_fg s → I_fg s := by
  intro s h
  obtain ⟨h1, h2, h3, h4⟩ := h
  exact ⟨by omega, by omega, h2, h3, h4⟩
theorem fg_da (s : L_fg) (hI : I_fg s) : allR (fun s' => I_fg s' ∧ mu_fg s' < mu_fg s) (fun x s' => Q_fg x s s') (f_fg s) := by
  unfold f_fg
  obtain ⟨h1, h2, h3, h4, h5, h6⟩ := hI
  refine allR_ite (fun c1 => ?_) (fun c1 => ?_)
  · have c1 : s.i < s.z := by simpa using c1
    rw [wrapS (x := s.i + 1) (by omega) (by omega)]
    refine ⟨⟨by simp only; omega, by simp only; omega, h3, h4, h5, ?_⟩, by simp only [mu_fg]; omega⟩
    simp only
    intro hr
    simp only [Bool.or_eq_true] at hr
    rcases hr with hr | hr
    · exact h6 hr
    · rw [← rvA_eq h5]
      unfold rvA
      rw [List.any_eq_true]
      have hlt : s.i.toNat < s.q.length := by omega
      rw [gV_eq hlt] at hr
      exact ⟨s.q[s.i.toNat], List.getElem_mem hlt, hr⟩
  · exact ⟨rfl, h6⟩
theorem fg_d : ∀ s s', I_fg s → f_fg s = .next s' → I_fg s' ∧ mu_fg s' < mu_fg s := fun s s' hI h => allR_next (fg_da s hI) h
def sel_fg : List LV → List Blk → T L_fg
  | [.xl (.pair (.int .i64) (.pair (.int .i64) (.pair (.int .i64) (.int .i64)))) l, .xl (.pair (.int .i64) (.int .i64)) void, .v (.bool up_), .v (.int .i64 m), .v (.int .i64 n), .v (.int .i64 k), .v (.bool revoked), .xl (.pair (.int .i64) (.int .i64)) q, .v (.int .i64 z), .v (.int .i64 i)], [] => .req (E_fg ⟨l, void, up_, m, n, k, revoked, q, z, i⟩) (.ok ⟨l, void, up_, m, n, k, revoked, q, z, i⟩)
  | _, _ => .no
theorem sel_fg_ok : ∀ vals blks s, (sel_fg vals blks).all (fun x => x = s) → E_fg s ∧ vals = A_fg s ∧ blks = B_fg s := by
  intro vals blks s h
  unfold sel_fg at h
  split at h
  · obtain ⟨h1, rfl⟩ := h
    exact ⟨h1, rfl, rfl⟩
  · cases h
def run_fg (s : L_fg) : L_fg := { (runW f_fg (mu_fg s + 1) s).2 with l := s.l, void := s.void, up_ := s.up_, m := s.m, n := s.n, k := s.k, q := s.q, z := s.z }
theorem run_fg_eq (s : L_fg) : (runW f_fg (mu_fg s + 1) s).2 = run_fg s := by
  have hk := runW_keep (f := f_fg) P_fg (fun s s' hf => by
    unfold f_fg at hf
    repeat' split at hf
    all_goals cases hf
    all_goals rfl) (fun s x s' hf => by
    unfold f_fg at hf
    repeat' split at hf
    all_goals cases hf
    all_goals rfl) (mu_fg s + 1) s
  unfold run_fg
  generalize (runW f_fg (mu_fg s + 1) s).2 = r at *
  cases r
  simp only [P_fg, Prod.mk.injEq, true_and] at hk
  simp only [L_fg.mk.injEq, hk, and_self]
def exn_fg (s : L_fg) : Ex := (runW f_fg (mu_fg s + 1) s).1
def out_fg (s : L_fg) : T (Ex × List LV × List Blk) := .ok (.exit 0, frameOf 91 [0, 1, 11, 12, 13, 14, 17, 50, 51, 52] (A_fg (run_fg s)), B_fg (run_fg s))
theorem nfl_fg (s : L_fg) : backT [0, 1, 11, 12, 13, 14, 17, 50, 51, 52] [] (codex Try.prog noGlobs (specsOf [(10, S_head), (12, S_acc), (22, S_usab), (23, S_accs)]) noK noLoops body_fg (frameOf 91 [0, 1, 11, 12, 13, 14, 17, 50, 51, 52] (A_fg s)) (B_fg s)) = .br (decide (s.i < s.z)) (.req (0 ≤ s.i ∧ s.i < (List.length s.q : Int)) (.ok (⟨.normal, 91, [.xl tC s.l, .xl tV s.void, .v (.bool s.up_), .v (.int .i64 s.m), .v (.int .i64 s.n), .v (.int .i64 s.k), .v (.bool (s.revoked || (((gV s.q s.i).1 == s.m) && (decide ((gV s.q s.i).2 ≤ s.n))))), .xl tV s.q, .v (.int .i64 s.z), .v (.int .i64 (IntKind.i64.wrap (s.i + 1)))], [], true⟩))) (.ok (⟨.exit 0, 91, [.xl tC s.l, .xl tV s.void, .v (.bool s.up_), .v (.int .i64 s.m), .v (.int .i64 s.n), .v (.int .i64 s.k), .v (.bool s.revoked), .xl tV s.q, .v (.int .i64 s.z), .v (.int .i64 s.i)], [], true⟩)) := by kernel_rfl
theorem stp_fg (s : L_fg) (hI : I_fg s) : AllT (fun v => v = rdV 91 A_fg B_fg (f_fg s)) (backT [0, 1, 11, 12, 13, 14, 17, 50, 51, 52] [] (codex Try.prog noGlobs (specsOf [(10, S_head), (12, S_acc), (22, S_usab), (23, S_accs)]) noK noLoops body_fg (frameOf 91 [0, 1, 11, 12, 13, 14, 17, 50, 51, 52] (A_fg s)) (B_fg s))) := by
  constructor
  rw [nfl_fg]
  unfold f_fg
  exact
    stp_br (fun c1 =>
      ⟨by (obtain ⟨h1, h2, h3, h4, h5⟩ := hI; (try simp only [decide_eq_true_eq] at c1); omega),
        rfl⟩) (fun c1 =>
      rfl)
theorem fg_end (s : L_fg) (hE : E_fg s) : ∃ s', I_fg s' ∧ f_fg s' = .stop (exn_fg s) (run_fg s) := by rw [← run_fg_eq]; exact runW_stop fg_d (mu_fg s + 1) s (fg_E s hE) (Nat.lt_succ_self _)
theorem fg_same : ∀ s x s', f_fg s = .stop x s' → s = s' := by
  intro s x s' h
  unfold f_fg at h
  repeat' split at h
  all_goals first | (cases h; done) | (cases h; rfl)
theorem fg_inv (s : L_fg) (hE : E_fg s) : I_fg (run_fg s) ∧ f_fg (run_fg s) = .stop (exn_fg s) (run_fg s) := by
  obtain ⟨s', hI, hf⟩ := fg_end s hE
  have hs := fg_same _ _ _ hf
  subst hs
  exact ⟨hI, hf⟩
theorem snd_fg : Sound Try.prog noGlobs (.loop body_fg) (loopT 91 [0, 1, 11, 12, 13, 14, 17, 50, 51, 52] [] sel_fg out_fg) :=
  loop_view 91 [0, 1, 11, 12, 13, 14, 17, 50, 51, 52] [] A_fg B_fg I_fg E_fg mu_fg f_fg sel_fg out_fg (code_sound (Γ := specsOf [(10, S_head), (12, S_acc), (22, S_usab), (23, S_accs)]) (K := noK) (L := noLoops) (specs_ok (l := [(10, S_head), (12, S_acc), (22, S_usab), (23, S_accs)]) ⟨v_head, v_acc, v_usab, v_accs, trivial⟩) noK_sound body_fg (fun b hb => by rw [show loopsIn body_fg = [] by kernel_rfl] at hb; cases hb))
    sel_fg_ok fg_E fg_d (fun s x s' hf => by have := fg_ex s x s' hf; intro h0; subst h0; simp at this) stp_fg (fun s hE => by
      obtain ⟨s', _, h2⟩ := fg_end s hE
      have h3 : exn_fg s = .exit 0 := fg_ex _ _ _ h2
      unfold out_fg
      rw [run_fg_eq]
      simp only [T.all, ← h3]
      rfl)
theorem fg_fin (s : L_fg) (hE : E_fg s) : ∃ s', I_fg s' ∧ Q_fg (exn_fg s) s' (run_fg s) := by
  obtain ⟨s', hI, hf⟩ := fg_end s hE
  exact ⟨s', hI, allR_stop (fg_da s' hI) hf⟩
theorem fg_run (v : List Vd) (m n : Int) (st : L_fg) (hE : E_fg st) (h1 : st.q = v) (h2 : st.m = m) (h3 : st.n = n) : (run_fg st).revoked = true → rvB v m n = true := by
  obtain ⟨s', _, _, h⟩ := fg_fin _ hE
  have h : (run_fg st).revoked = true → rvB st.q st.m st.n = true := h
  rw [h1, h2, h3] at h
  exact h
theorem fg_law {l : List Crd} {v : List Vd} {m n k : Int} (h : rvB v m n = true) (hk : n ≤ k) : (acE l v m k == 0) = false := by
  have hr : rvB v m k = true := by
    unfold rvB at *
    simp only [Bool.and_eq_true, decide_eq_true_eq] at *
    exact ⟨h.1, by omega⟩
  unfold acE
  rw [hr]
  repeat' split
  all_goals first | rfl | contradiction
theorem fg_12 {l : List Crd} {v : List Vd} {m n : Int} (h : (acE l v m n == 12) = true) : rvB v m n = true := by
  have h : acE l v m n = 12 := by simpa using h
  unfold acE at h
  repeat' split at h
  all_goals first | assumption | cases h
theorem later_of {n x : Int} (h0 : 0 ≤ n) (h1 : n ≤ 1000000) (x0 : 0 ≤ x) (x1 : x ≤ 4294967295) : IntKind.i64.wrap (1000001 - n) ≠ 0 ∧ ∃ k, IntKind.i64.wrap (n + (IntKind.i64.wrap x).tmod (IntKind.i64.wrap (1000001 - n))) = k ∧ n ≤ k := by
  rw [wrapS (x := 1000001 - n) (by omega) (by omega), wrapS (x := x) (by omega) (by omega), Int.tmod_eq_emod_of_nonneg x0]
  have g1 := Int.emod_nonneg x (show 1000001 - n ≠ 0 by omega)
  have g2 := Int.emod_lt_of_pos x (show 0 < 1000001 - n by omega)
  rw [wrapS (by omega) (by omega)]
  exact ⟨by omega, _, rfl, by omega⟩
def S0_l3 : List LV → T LV
  | [.xl (.pair (.int .i64) (.pair (.int .i64) (.pair (.int .i64) (.int .i64)))) l, .xl (.pair (.int .i64) (.int .i64)) v, .v (.int .u32 nu), .v (.int .u32 ep), .v (.int .u32 la)] => .req ((0 ≤ nu ∧ nu ≤ 4294967295) ∧ (0 ≤ ep ∧ ep ≤ 4294967295) ∧ (0 ≤ la ∧ la ≤ 4294967295)) (.ok (.v (.bool true)))
  | _ => .no
noncomputable def S_l3 : List LV → T LV := upS Try.prog Try.f5.params.toList S0_l3
theorem nf_l3 (l : List (Int × (Int × (Int × Int)))) (v : List (Int × Int)) (nu ep la : Int) : funu Try.prog noGlobs (specsOf [(10, S_head), (12, S_acc), (22, S_usab), (23, S_accs)]) noK (fun i => if i = 9 then loopT 91 [0, 1, 11, 12, 13, 14, 17, 50, 51, 52] [] sel_fg out_fg else noLoops i) Try.f5 [.xl tC l, .xl tV v, .v (.int .u32 nu), .v (.int .u32 ep), .v (.int .u32 la)] = .req ((1000000 : Int) ≠ 0) (.req ((1000001 : Int) ≠ 0) (.req ((IntKind.i64.wrap (1000001 - ((IntKind.i64.wrap ep).tmod 1000001))) ≠ 0) (.br (!(vlC l && (vlV v && vlV ([] : List (Int × Int))))) (.ok (.v (.bool true))) (.req ((List.length l : Int) ≤ 1000 ∧ (List.length v : Int) ≤ 1000) (.req (E_fg (⟨l, v, true, (IntKind.i64.wrap (1 + ((IntKind.i64.wrap nu).tmod 1000000))), ((IntKind.i64.wrap ep).tmod 1000001), (IntKind.i64.wrap (((IntKind.i64.wrap ep).tmod 1000001) + ((IntKind.i64.wrap la).tmod (IntKind.i64.wrap (1000001 - ((IntKind.i64.wrap ep).tmod 1000001)))))), ((acE l v (IntKind.i64.wrap (1 + ((IntKind.i64.wrap nu).tmod 1000000))) ((IntKind.i64.wrap ep).tmod 1000001)) == 12), v, (List.length v : Int), (0 : Int)⟩ : L_fg)) (.br true (.br (!(run_fg (⟨l, v, true, (IntKind.i64.wrap (1 + ((IntKind.i64.wrap nu).tmod 1000000))), ((IntKind.i64.wrap ep).tmod 1000001), (IntKind.i64.wrap (((IntKind.i64.wrap ep).tmod 1000001) + ((IntKind.i64.wrap la).tmod (IntKind.i64.wrap (1000001 - ((IntKind.i64.wrap ep).tmod 1000001)))))), ((acE l v (IntKind.i64.wrap (1 + ((IntKind.i64.wrap nu).tmod 1000000))) ((IntKind.i64.wrap ep).tmod 1000001)) == 12), v, (List.length v : Int), (0 : Int)⟩ : L_fg)).revoked) (.ok (.v (.bool true))) (.req ((List.length l : Int) ≤ 1000 ∧ (List.length v : Int) ≤ 1000) (.br (!(acE l v (IntKind.i64.wrap (1 + ((IntKind.i64.wrap nu).tmod 1000000))) ((IntKind.i64.wrap ep).tmod 1000001) == 0)) (.req ((List.length l : Int) ≤ 1000 ∧ (List.length v : Int) ≤ 1000) (.ok (.v (.bool (!(acE l v (IntKind.i64.wrap (1 + ((IntKind.i64.wrap nu).tmod 1000000))) (IntKind.i64.wrap (((IntKind.i64.wrap ep).tmod 1000001) + ((IntKind.i64.wrap la).tmod (IntKind.i64.wrap (1000001 - ((IntKind.i64.wrap ep).tmod 1000001)))))) == 0)))))) (.ok (.v (.bool false)))))) (.ok (.v (.bool false))))))))) := by kernel_rfl
theorem v_l3 : Valid Try.prog noGlobs 5 S_l3 := valid_ofu Try.func5 rfl (specs_ok (l := [(10, S_head), (12, S_acc), (22, S_usab), (23, S_accs)]) ⟨v_head, v_acc, v_usab, v_accs, trivial⟩) noK_sound (L := (fun i => if i = 9 then loopT 91 [0, 1, 11, 12, 13, 14, 17, 50, 51, 52] [] sel_fg out_fg else noLoops i)) (fun b hb => by
  rw [show loopsIn _ = [body_fg] by kernel_rfl] at hb
  simp only [List.mem_cons, List.not_mem_nil, or_false] at hb
  subst hb
  exact snd_fg) (fun args lv h => by
  unfold S0_l3 at h
  split at h
  · simp only [canL, canX]
    rw [nf_l3]
    rename_i l v nu ep la
    obtain ⟨⟨⟨n0, n1⟩, ⟨e0, e1⟩, l0, l1⟩, rfl⟩ := h
    obtain ⟨hn, hn'⟩ := num_of n0 n1
    obtain ⟨he, he'⟩ := ep_of e0 e1
    rw [hn, he]
    generalize 1 + nu % 1000000 = m at *
    generalize ep % 1000001 = n at *
    obtain ⟨y1, k, y2, y3⟩ := later_of (inB_iff.1 he').1 (inB_iff.1 he').2 l0 l1
    rw [y2]
    refine ⟨by decide, by decide, y1, fun _ => rfl, fun c => ?_⟩
    simp only [Bool.not_eq_false', Bool.and_eq_true] at c
    obtain ⟨hl, hv, _⟩ := c
    have h1 : (List.length l : Int) ≤ 1000 := by have := (vC_iff.1 hl).1; omega
    have h2 : (List.length v : Int) ≤ 1000 := by have := (vV_iff.1 hv).1; omega
    have hE : E_fg ⟨l, v, true, m, n, k, ((acE l v m n) == 12), v, (List.length v : Int), (0 : Int)⟩ := ⟨rfl, rfl, h2, (vV_iff.1 hv).2, fg_12⟩
    refine ⟨⟨h1, h2⟩, hE, fun _ => ⟨fun _ => rfl, fun c => ?_⟩, fun c => by cases c⟩
    have hr := fg_run v m n _ hE rfl rfl rfl (by simpa using c)
    refine ⟨⟨h1, h2⟩, fun _ => ⟨⟨h1, h2⟩, ?_⟩, fun c => ?_⟩
    · rw [fg_law hr y3]; rfl
    · rw [fg_law hr (Int.le_refl _)] at c; cases c
  · cases h)
end Go.Proofs.Ytcpadfehoaopaaa
