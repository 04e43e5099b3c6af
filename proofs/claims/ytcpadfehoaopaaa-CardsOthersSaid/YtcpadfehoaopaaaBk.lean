/- References: what they compute, by the executor. -/
import Derived.Test.YtcpadfehoaopaaaBj
namespace Go.Proofs.Ytcpadfehoaopaaa
open Go.Sx
def S0_rEp : List LV → T LV
  | [.v (.int .i64 n)] => .ok (.v (.bool (inB n 0 1000000)))
  | _ => .no
noncomputable def S_rEp : List LV → T LV := upS Try.prog Try.f36.params.toList S0_rEp
theorem nf_rEp (n : Int) : funu Try.prog noGlobs (specsOf []) noK noLoops Try.f36 [.v (.int .i64 n)] = .ok (.v (.bool ((decide (n ≥ 0)) && (decide (n ≤ 1000000))))) := by kernel_rfl
theorem v_rEp : Valid Try.prog noGlobs 36 S_rEp := valid_ofu Try.func36 rfl (specs_ok (l := []) trivial) noK_sound (no_loops (by kernel_rfl)) (fun args lv h => by
  unfold S0_rEp at h
  split at h
  · simp only [canL, canX]
    rw [nf_rEp]
    exact h
  · cases h)
def S0_rNu : List LV → T LV
  | [.v (.int .i64 n)] => .ok (.v (.bool (inB n 1 1000000)))
  | _ => .no
noncomputable def S_rNu : List LV → T LV := upS Try.prog Try.f35.params.toList S0_rNu
theorem nf_rNu (n : Int) : funu Try.prog noGlobs (specsOf []) noK noLoops Try.f35 [.v (.int .i64 n)] = .ok (.v (.bool ((decide (n ≥ 1)) && (decide (n ≤ 1000000))))) := by kernel_rfl
theorem v_rNu : Valid Try.prog noGlobs 35 S_rNu := valid_ofu Try.func35 rfl (specs_ok (l := []) trivial) noK_sound (no_loops (by kernel_rfl)) (fun args lv h => by
  unfold S0_rNu at h
  split at h
  · simp only [canL, canX]
    rw [nf_rNu]
    exact h
  · cases h)
def S0_few : List LV → T LV
  | [.xl (.pair (.int .i64) (.pair (.int .i64) (.pair (.int .i64) (.int .i64)))) l, .xl (.pair (.int .i64) (.int .i64)) a, .xl (.pair (.int .i64) (.int .i64)) b] => .ok (.v (.bool (decide ((List.length l : Int) ≤ 80) && (decide ((List.length a : Int) ≤ 80) && decide ((List.length b : Int) ≤ 80)))))
  | _ => .no
noncomputable def S_few : List LV → T LV := upS Try.prog Try.f11.params.toList S0_few
theorem nf_few (l : List (Int × (Int × (Int × Int)))) (a b : List (Int × Int)) : funu Try.prog noGlobs (specsOf []) noK noLoops Try.f11 [.xl tC l, .xl tV a, .xl tV b] = .ok (.v (.bool ((decide ((List.length l : Int) ≤ 80)) && ((decide ((List.length a : Int) ≤ 80)) && (decide ((List.length b : Int) ≤ 80)))))) := by kernel_rfl
theorem v_few : Valid Try.prog noGlobs 11 S_few := valid_ofu Try.func11 rfl (specs_ok (l := []) trivial) noK_sound (no_loops (by kernel_rfl)) (fun args lv h => by
  unfold S0_few at h
  split at h
  · simp only [canL, canX]
    rw [nf_few]
    exact h
  · cases h)
structure L_lprvl where
  l : List (Int × (Int × (Int × Int)))
  r : Bool
  i : Int
def A_lprvl (s : L_lprvl) : List LV := [.xl tC s.l, .v (.bool s.r), .v (.int .i64 s.i)]
def B_lprvl (s : L_lprvl) : List Blk := []
noncomputable def body_lprvl : Code := ((loopsIn (Try.f21.body.getD .skip))[0]?).getD .skip
def f_lprvl (s : L_lprvl) : Rd L_lprvl :=
  if (decide (s.i < (List.length s.l : Int))) then
    if (!(inB (gC s.l s.i).1 1 1000000)) then
      .stop (.ret) { s with r := false }
    else
      if (decide (s.i > 0)) then
        if ((decide ((gC s.l s.i).1 ≤ (gC s.l (IntKind.i64.wrap (s.i - 1))).1)) || ((decide ((gC s.l s.i).2.1 < 0)) || ((decide ((gC s.l s.i).2.1 ≥ 32)) || ((!(inB (gC s.l s.i).2.2.1 0 1000000)) || ((!(inB (gC s.l s.i).2.2.2 0 1000000)) || (decide ((gC s.l s.i).2.2.1 > (gC s.l s.i).2.2.2))))))) then
          .stop (.ret) { s with r := false }
        else
          .next { s with i := (IntKind.i64.wrap (s.i + 1)) }
      else
        if ((decide ((gC s.l s.i).2.1 < 0)) || ((decide ((gC s.l s.i).2.1 ≥ 32)) || ((!(inB (gC s.l s.i).2.2.1 0 1000000)) || ((!(inB (gC s.l s.i).2.2.2 0 1000000)) || (decide ((gC s.l s.i).2.2.1 > (gC s.l s.i).2.2.2)))))) then
          .stop (.ret) { s with r := false }
        else
          .next { s with i := (IntKind.i64.wrap (s.i + 1)) }
  else
    .stop (.exit 0) s
def P_lprvl (s : L_lprvl) := ((), s.l)
theorem lprvl_ex : ∀ s x s', f_lprvl s = .stop x s' → x = .ret ∨ x = .exit 0 := by
  intro s x s' h
  unfold f_lprvl at h
  repeat' split at h
  all_goals first | (cases h; done) | (cases h; rfl) | (cases h; simp)
def G_lprvl (s : L_lprvl) (j : Int) : Bool := inB (gC s.l j).1 1 1000000 && ((!(decide (j > 0)) || !(decide ((gC s.l j).1 ≤ (gC s.l (IntKind.i64.wrap (j - 1))).1))) && !(decide ((gC s.l j).2.1 < 0) || (decide ((gC s.l j).2.1 ≥ 32) || (!(inB (gC s.l j).2.2.1 0 1000000) || (!(inB (gC s.l j).2.2.2 0 1000000) || decide ((gC s.l j).2.2.1 > (gC s.l j).2.2.2))))))
def E_lprvl (s : L_lprvl) : Prop := s.i = 0 ∧ 0 ≤ (s.l.length : Int) ∧ (s.l.length : Int) ≤ 1000 ∧ True
def I_lprvl (s : L_lprvl) : Prop := 0 ≤ s.i ∧ s.i ≤ (s.l.length : Int) ∧ (s.l.length : Int) ≤ 1000 ∧ (True) ∧ ∀ j : Nat, (j : Int) < s.i → G_lprvl s j = true
def mu_lprvl (s : L_lprvl) : Nat := ((s.l.length : Int) - s.i).toNat
def Q_lprvl (x : Ex) (s s' : L_lprvl) : Prop := (x = .exit 0 ∧ ∀ j : Nat, (j : Int) < (s'.l.length : Int) → G_lprvl s' j = true) ∨ (x = .ret ∧ s'.r = false ∧ ∃ j : Nat, (j : Int) < (s'.l.length : Int) ∧ G_lprvl s' j = false)
theorem lprvl_E : ∀ s, E_lprvl s → I_lprvl s := by
  intro s h
  obtain ⟨h0, h1, h2, h3⟩ := h
  exact ⟨by omega, by omega, h2, h3, fun j hj => by omega⟩
theorem lprvl_da (s : L_lprvl) (hI : I_lprvl s) : allR (fun s' => I_lprvl s' ∧ mu_lprvl s' < mu_lprvl s) (fun x s' => Q_lprvl x s s') (f_lprvl s) := by
  unfold f_lprvl
  obtain ⟨h0, h1, h2, h3, h4⟩ := hI
  refine allR_ite (fun c1 => allR_ite (fun c2 => ?_) (fun c2 => allR_ite (fun c3 => allR_ite (fun c4 => ?_) (fun c4 => ?_)) (fun c3 => allR_ite (fun c5 => ?_) (fun c5 => ?_)))) (fun c1 => ?_)
  · have c1 : s.i < (s.l.length : Int) := by simpa using c1
    refine .inr ⟨rfl, rfl, s.i.toNat, by simp only; omega, ?_⟩
    rw [Int.toNat_of_nonneg h0]
    have hg : G_lprvl s s.i = false := by unfold G_lprvl; (simp_all; try (intros; simp_all; omega))
    exact hg
  · have c1 : s.i < (s.l.length : Int) := by simpa using c1
    refine .inr ⟨rfl, rfl, s.i.toNat, by simp only; omega, ?_⟩
    rw [Int.toNat_of_nonneg h0]
    have hg : G_lprvl s s.i = false := by unfold G_lprvl; (simp_all; try (intros; simp_all; omega))
    exact hg
  · have c1 : s.i < (s.l.length : Int) := by simpa using c1
    have hg : G_lprvl s s.i = true := by unfold G_lprvl; (simp_all; try (intros; simp_all; omega))
    rw [wrapS (x := s.i + 1) (by omega) (by omega)]
    refine ⟨⟨by simp only; omega, by simp only; omega, h2, h3, fun j hj => ?_⟩, by simp only [mu_lprvl]; omega⟩
    by_cases hji : (j : Int) < s.i
    · exact h4 j hji
    · have : (j : Int) = s.i := by simp only at hj; omega
      rw [this]; exact hg
  · have c1 : s.i < (s.l.length : Int) := by simpa using c1
    refine .inr ⟨rfl, rfl, s.i.toNat, by simp only; omega, ?_⟩
    rw [Int.toNat_of_nonneg h0]
    have hg : G_lprvl s s.i = false := by unfold G_lprvl; (simp_all; try (intros; simp_all; omega))
    exact hg
  · have c1 : s.i < (s.l.length : Int) := by simpa using c1
    have hg : G_lprvl s s.i = true := by unfold G_lprvl; (simp_all; try (intros; simp_all; omega))
    rw [wrapS (x := s.i + 1) (by omega) (by omega)]
    refine ⟨⟨by simp only; omega, by simp only; omega, h2, h3, fun j hj => ?_⟩, by simp only [mu_lprvl]; omega⟩
    by_cases hji : (j : Int) < s.i
    · exact h4 j hji
    · have : (j : Int) = s.i := by simp only at hj; omega
      rw [this]; exact hg
  · have c1 : (s.l.length : Int) ≤ s.i := by simpa using c1
    exact .inl ⟨rfl, fun j hj => h4 j (by omega)⟩
theorem lprvl_d : ∀ s s', I_lprvl s → f_lprvl s = .next s' → I_lprvl s' ∧ mu_lprvl s' < mu_lprvl s := fun s s' hI h => allR_next (lprvl_da s hI) h
def sel_lprvl : List LV → List Blk → T L_lprvl
  | [.xl (.pair (.int .i64) (.pair (.int .i64) (.pair (.int .i64) (.int .i64)))) l, .v (.bool r), .v (.int .i64 i)], [] => .req (E_lprvl ⟨l, r, i⟩) (.ok ⟨l, r, i⟩)
  | _, _ => .no
theorem sel_lprvl_ok : ∀ vals blks s, (sel_lprvl vals blks).all (fun x => x = s) → E_lprvl s ∧ vals = A_lprvl s ∧ blks = B_lprvl s := by
  intro vals blks s h
  unfold sel_lprvl at h
  split at h
  · obtain ⟨h1, rfl⟩ := h
    exact ⟨h1, rfl, rfl⟩
  · cases h
def run_lprvl (s : L_lprvl) : L_lprvl := { (runW f_lprvl (mu_lprvl s + 1) s).2 with l := s.l }
theorem run_lprvl_eq (s : L_lprvl) : (runW f_lprvl (mu_lprvl s + 1) s).2 = run_lprvl s := by
  have hk := runW_keep (f := f_lprvl) P_lprvl (fun s s' hf => by
    unfold f_lprvl at hf
    repeat' split at hf
    all_goals cases hf
    all_goals rfl) (fun s x s' hf => by
    unfold f_lprvl at hf
    repeat' split at hf
    all_goals cases hf
    all_goals rfl) (mu_lprvl s + 1) s
  unfold run_lprvl
  generalize (runW f_lprvl (mu_lprvl s + 1) s).2 = r at *
  cases r
  simp only [P_lprvl, Prod.mk.injEq, true_and] at hk
  simp only [L_lprvl.mk.injEq, hk, and_self]
def exn_lprvl (s : L_lprvl) : Ex := (runW f_lprvl (mu_lprvl s + 1) s).1
def out_lprvl (s : L_lprvl) : T (Ex × List LV × List Blk) := .br (isEx (exn_lprvl s) (.ret)) (.ok (.ret, frameOf 66 [0, 2, 3] (A_lprvl (run_lprvl s)), B_lprvl (run_lprvl s))) (.ok (.exit 0, frameOf 66 [0, 2, 3] (A_lprvl (run_lprvl s)), B_lprvl (run_lprvl s)))
theorem nfl_lprvl (s : L_lprvl) : backT [0, 2, 3] [] (codex Try.prog noGlobs (specsOf [(35, S_rNu), (36, S_rEp)]) noK noLoops body_lprvl (frameOf 66 [0, 2, 3] (A_lprvl s)) (B_lprvl s)) = .br (decide (s.i < (List.length s.l : Int))) (.req (0 ≤ s.i ∧ s.i < (List.length s.l : Int)) (.br (!(inB (gC s.l s.i).1 1 1000000)) (.ok (⟨.ret, 66, [.xl tC s.l, .v (.bool false), .v (.int .i64 s.i)], [], true⟩)) (.br (decide (s.i > 0)) (.req (0 ≤ (IntKind.i64.wrap (s.i - 1)) ∧ (IntKind.i64.wrap (s.i - 1)) < (List.length s.l : Int)) (.br ((decide ((gC s.l s.i).1 ≤ (gC s.l (IntKind.i64.wrap (s.i - 1))).1)) || ((decide ((gC s.l s.i).2.1 < 0)) || ((decide ((gC s.l s.i).2.1 ≥ 32)) || ((!(inB (gC s.l s.i).2.2.1 0 1000000)) || ((!(inB (gC s.l s.i).2.2.2 0 1000000)) || (decide ((gC s.l s.i).2.2.1 > (gC s.l s.i).2.2.2))))))) (.ok (⟨.ret, 66, [.xl tC s.l, .v (.bool false), .v (.int .i64 s.i)], [], true⟩)) (.ok (⟨.normal, 66, [.xl tC s.l, .v (.bool s.r), .v (.int .i64 (IntKind.i64.wrap (s.i + 1)))], [], true⟩)))) (.br ((decide ((gC s.l s.i).2.1 < 0)) || ((decide ((gC s.l s.i).2.1 ≥ 32)) || ((!(inB (gC s.l s.i).2.2.1 0 1000000)) || ((!(inB (gC s.l s.i).2.2.2 0 1000000)) || (decide ((gC s.l s.i).2.2.1 > (gC s.l s.i).2.2.2)))))) (.ok (⟨.ret, 66, [.xl tC s.l, .v (.bool false), .v (.int .i64 s.i)], [], true⟩)) (.ok (⟨.normal, 66, [.xl tC s.l, .v (.bool s.r), .v (.int .i64 (IntKind.i64.wrap (s.i + 1)))], [], true⟩)))))) (.ok (⟨.exit 0, 66, [.xl tC s.l, .v (.bool s.r), .v (.int .i64 s.i)], [], true⟩)) := by kernel_rfl
theorem stp_lprvl (s : L_lprvl) (hI : I_lprvl s) : AllT (fun v => v = rdV 66 A_lprvl B_lprvl (f_lprvl s)) (backT [0, 2, 3] [] (codex Try.prog noGlobs (specsOf [(35, S_rNu), (36, S_rEp)]) noK noLoops body_lprvl (frameOf 66 [0, 2, 3] (A_lprvl s)) (B_lprvl s))) := by
  constructor
  rw [nfl_lprvl]
  unfold f_lprvl
  exact
    stp_br (fun c1 =>
      ⟨by (obtain ⟨h0, h1, h2, h3, h4⟩ := hI; simp only [decide_eq_true_eq] at *; first | omega | (rw [wrapS (x := s.i - 1) (by omega) (by omega)]; omega)),
        stp_br (fun c2 =>
          rfl) (fun c2 =>
          stp_br (fun c3 =>
            ⟨by (obtain ⟨h0, h1, h2, h3, h4⟩ := hI; simp only [decide_eq_true_eq] at *; first | omega | (rw [wrapS (x := s.i - 1) (by omega) (by omega)]; omega)),
              stp_br (fun c4 =>
                rfl) (fun c4 =>
                rfl)⟩) (fun c3 =>
            stp_br (fun c5 =>
              rfl) (fun c5 =>
              rfl)))⟩) (fun c1 =>
      rfl)
theorem lprvl_end (s : L_lprvl) (hE : E_lprvl s) : ∃ s', I_lprvl s' ∧ f_lprvl s' = .stop (exn_lprvl s) (run_lprvl s) := by rw [← run_lprvl_eq]; exact runW_stop lprvl_d (mu_lprvl s + 1) s (lprvl_E s hE) (Nat.lt_succ_self _)
theorem snd_lprvl : Sound Try.prog noGlobs (.loop body_lprvl) (loopT 66 [0, 2, 3] [] sel_lprvl out_lprvl) :=
  loop_view 66 [0, 2, 3] [] A_lprvl B_lprvl I_lprvl E_lprvl mu_lprvl f_lprvl sel_lprvl out_lprvl (code_sound (Γ := specsOf [(35, S_rNu), (36, S_rEp)]) (K := noK) (L := noLoops) (specs_ok (l := [(35, S_rNu), (36, S_rEp)]) ⟨v_rNu, v_rEp, trivial⟩) noK_sound body_lprvl (fun b hb => by rw [show loopsIn body_lprvl = [] by kernel_rfl] at hb; cases hb))
    sel_lprvl_ok lprvl_E lprvl_d (fun s x s' hf => by have := lprvl_ex s x s' hf; intro h0; subst h0; simp at this) stp_lprvl (fun s hE => by
      obtain ⟨s', _, h2⟩ := lprvl_end s hE
      have h3 := lprvl_ex _ _ _ h2
      have h4 : (runW f_lprvl (mu_lprvl s + 1) s).1 = exn_lprvl s := rfl
      rw [h4, run_lprvl_eq]
      unfold out_lprvl
      generalize exn_lprvl s = e at h3
      rcases h3 with h3 | h3 <;> subst h3 <;> simp [T.all, isEx])
theorem lprvl_fin (s : L_lprvl) (hE : E_lprvl s) : ∃ s', I_lprvl s' ∧ Q_lprvl (exn_lprvl s) s' (run_lprvl s) := by
  obtain ⟨s', hI, hf⟩ := lprvl_end s hE
  exact ⟨s', hI, allR_stop (lprvl_da s' hI) hf⟩
def S0_rvl : List LV → T LV
  | [.xl (.pair (.int .i64) (.pair (.int .i64) (.pair (.int .i64) (.int .i64)))) l] => .req ((List.length l : Int) ≤ 1000) (.ok (.v (.bool (vlC l))))
  | _ => .no
noncomputable def S_rvl : List LV → T LV := upS Try.prog Try.f21.params.toList S0_rvl
theorem nf_rvl (l : List (Int × (Int × (Int × Int)))) : funu Try.prog noGlobs (specsOf [(35, S_rNu), (36, S_rEp)]) noK (fun i => if i = 2 then loopT 66 [0, 2, 3] [] sel_lprvl out_lprvl else noLoops i) Try.f21 [.xl tC l] = .req (E_lprvl (⟨l, false, (0 : Int)⟩ : L_lprvl)) (.br (isEx (exn_lprvl (⟨l, false, (0 : Int)⟩ : L_lprvl)) (.ret)) (.ok (.v (.bool (run_lprvl (⟨l, false, (0 : Int)⟩ : L_lprvl)).r))) (.ok (.v (.bool (decide ((List.length l : Int) ≤ 64)))))) := by kernel_rfl
theorem v_rvl : Valid Try.prog noGlobs 21 S_rvl := valid_ofu Try.func21 rfl (specs_ok (l := [(35, S_rNu), (36, S_rEp)]) ⟨v_rNu, v_rEp, trivial⟩) noK_sound (L := (fun i => if i = 2 then loopT 66 [0, 2, 3] [] sel_lprvl out_lprvl else noLoops i)) (fun b hb => by
  rw [show loopsIn _ = [body_lprvl] by kernel_rfl] at hb
  simp only [List.mem_cons, List.not_mem_nil, or_false] at hb
  subst hb
  exact snd_lprvl) (fun args lv h => by
  unfold S0_rvl at h
  split at h
  · simp only [canL, canX]
    rw [nf_rvl]
    rename_i l
    obtain ⟨hn, rfl⟩ := h
    have hE : E_lprvl ⟨l, false, (0 : Int)⟩ := ⟨rfl, by simp only; omega, hn, trivial⟩
    obtain ⟨s', _, hq⟩ := lprvl_fin _ hE
    refine ⟨hE, ?_⟩
    have key : (∀ j : Nat, (j : Int) < (l.length : Int) → G_lprvl ⟨l, false, (0 : Int)⟩ j = true) ↔ ckC 0 l = true := by
      refine ⟨fun h => ckC_of (fun j hj => ?_) (fun hj => ?_) (fun j hj => ?_), fun h j hj => ?_⟩
      · have := h j (by omega)
        unfold G_lprvl at this
        rw [gC_eq (by simpa using hj)] at this
        simp only [Bool.and_eq_true, Bool.not_eq_true'] at this
        refine ⟨this.1, ?_⟩
        have h2 := this.2.2
        simp [inB, cvB] at h2 ⊢
        omega
      · have := h 0 (by omega)
        unfold G_lprvl at this
        rw [gC_eq (by simpa using hj)] at this
        simp only [Bool.and_eq_true] at this
        have := inB_iff.1 this.1
        simp at this
        omega
      · have := h (j + 1) (by omega)
        unfold G_lprvl at this
        rw [wrapS (x := ((j + 1 : Nat) : Int) - 1) (by omega) (by omega), show ((j + 1 : Nat) : Int) - 1 = (j : Int) by omega, gC_eq (n := ((j + 1 : Nat) : Int)) (by simpa using hj), gC_eq (n := (j : Int)) (by simp; omega)] at this
        simp only [Bool.and_eq_true, Bool.or_eq_true, Bool.not_eq_true', decide_eq_false_iff_not] at this
        have := this.2.1
        simp at this
        omega
      · have hj' : j < l.length := by omega
        obtain ⟨u1, u2, u3⟩ := ckC_up h j hj'
        unfold G_lprvl
        rw [gC_eq (n := (j : Int)) (by simpa using hj')]
        simp only [Bool.and_eq_true, Bool.or_eq_true, Bool.not_eq_true', decide_eq_false_iff_not]
        refine ⟨u2, ?_, ?_⟩
        · by_cases h0 : (j : Int) > 0
          · right
            rw [wrapS (x := (j : Int) - 1) (by omega) (by omega), gC_eq (n := (j : Int) - 1) (by omega)]
            have := ckC_lt h ((j : Int) - 1).toNat j (by omega) hj' (by omega)
            simp only [Int.toNat_natCast]
            omega
          · left; exact h0
        · simp [inB, cvB] at u3 ⊢
          omega
    rcases hq with ⟨h1, h2⟩ | ⟨h1, h2, j, h3, h4⟩
    · have hk := key.1 h2
      rw [h1]
      refine ⟨fun h => (by cases h), fun _ => congrArg (fun z => LV.v (.bool z)) ?_⟩
      simp [vlC, hk]
      try omega
    · rw [h1, h2]
      refine ⟨fun _ => congrArg (fun z => LV.v (.bool z)) ?_, fun h => by cases h⟩
      rw [eq_comm, Bool.eq_false_iff]
      intro hv
      simp [vlC] at hv
      have := key.2 hv.2 j h3
      rw [show G_lprvl ⟨l, false, (0 : Int)⟩ j = G_lprvl (run_lprvl ⟨l, false, (0 : Int)⟩) j from rfl, h4] at this
      cases this
  · cases h)
structure L_lprvo where
  l : List (Int × Int)
  r : Bool
  i : Int
def A_lprvo (s : L_lprvo) : List LV := [.xl tV s.l, .v (.bool s.r), .v (.int .i64 s.i)]
def B_lprvo (s : L_lprvo) : List Blk := []
noncomputable def body_lprvo : Code := ((loopsIn (Try.f24.body.getD .skip))[0]?).getD .skip
def f_lprvo (s : L_lprvo) : Rd L_lprvo :=
  if (decide (s.i < (List.length s.l : Int))) then
    if (!(inB (gV s.l s.i).1 1 1000000)) then
      .stop (.ret) { s with r := false }
    else
      if (decide (s.i > 0)) then
        if (decide ((gV s.l s.i).1 ≤ (gV s.l (IntKind.i64.wrap (s.i - 1))).1)) then
          .stop (.ret) { s with r := false }
        else
          if (!(inB (gV s.l s.i).2 0 1000000)) then
            .stop (.ret) { s with r := false }
          else
            .next { s with i := (IntKind.i64.wrap (s.i + 1)) }
      else
        if (!(inB (gV s.l s.i).2 0 1000000)) then
          .stop (.ret) { s with r := false }
        else
          .next { s with i := (IntKind.i64.wrap (s.i + 1)) }
  else
    .stop (.exit 0) s
def P_lprvo (s : L_lprvo) := ((), s.l)
theorem lprvo_ex : ∀ s x s', f_lprvo s = .stop x s' → x = .ret ∨ x = .exit 0 := by
  intro s x s' h
  unfold f_lprvo at h
  repeat' split at h
  all_goals first | (cases h; done) | (cases h; rfl) | (cases h; simp)
def G_lprvo (s : L_lprvo) (j : Int) : Bool := inB (gV s.l j).1 1 1000000 && ((!(decide (j > 0)) || !(decide ((gV s.l j).1 ≤ (gV s.l (IntKind.i64.wrap (j - 1))).1))) && !(!(inB (gV s.l j).2 0 1000000)))
def E_lprvo (s : L_lprvo) : Prop := s.i = 0 ∧ 0 ≤ (s.l.length : Int) ∧ (s.l.length : Int) ≤ 1000 ∧ True
def I_lprvo (s : L_lprvo) : Prop := 0 ≤ s.i ∧ s.i ≤ (s.l.length : Int) ∧ (s.l.length : Int) ≤ 1000 ∧ (True) ∧ ∀ j : Nat, (j : Int) < s.i → G_lprvo s j = true
def mu_lprvo (s : L_lprvo) : Nat := ((s.l.length : Int) - s.i).toNat
def Q_lprvo (x : Ex) (s s' : L_lprvo) : Prop := (x = .exit 0 ∧ ∀ j : Nat, (j : Int) < (s'.l.length : Int) → G_lprvo s' j = true) ∨ (x = .ret ∧ s'.r = false ∧ ∃ j : Nat, (j : Int) < (s'.l.length : Int) ∧ G_lprvo s' j = false)
theorem lprvo_E : ∀ s, E_lprvo s → I_lprvo s := by
  intro s h
  obtain ⟨h0, h1, h2, h3⟩ := h
  exact ⟨by omega, by omega, h2, h3, fun j hj => by omega⟩
theorem lprvo_da (s : L_lprvo) (hI : I_lprvo s) : allR (fun s' => I_lprvo s' ∧ mu_lprvo s' < mu_lprvo s) (fun x s' => Q_lprvo x s s') (f_lprvo s) := by
  unfold f_lprvo
  obtain ⟨h0, h1, h2, h3, h4⟩ := hI
  refine allR_ite (fun c1 => allR_ite (fun c2 => ?_) (fun c2 => allR_ite (fun c3 => allR_ite (fun c4 => ?_) (fun c4 => allR_ite (fun c5 => ?_) (fun c5 => ?_))) (fun c3 => allR_ite (fun c6 => ?_) (fun c6 => ?_)))) (fun c1 => ?_)
  · have c1 : s.i < (s.l.length : Int) := by simpa using c1
    refine .inr ⟨rfl, rfl, s.i.toNat, by simp only; omega, ?_⟩
    rw [Int.toNat_of_nonneg h0]
    have hg : G_lprvo s s.i = false := by unfold G_lprvo; (simp_all; try (intros; simp_all; omega))
    exact hg
  · have c1 : s.i < (s.l.length : Int) := by simpa using c1
    refine .inr ⟨rfl, rfl, s.i.toNat, by simp only; omega, ?_⟩
    rw [Int.toNat_of_nonneg h0]
    have hg : G_lprvo s s.i = false := by unfold G_lprvo; (simp_all; try (intros; simp_all; omega))
    exact hg
  · have c1 : s.i < (s.l.length : Int) := by simpa using c1
    refine .inr ⟨rfl, rfl, s.i.toNat, by simp only; omega, ?_⟩
    rw [Int.toNat_of_nonneg h0]
    have hg : G_lprvo s s.i = false := by unfold G_lprvo; (simp_all; try (intros; simp_all; omega))
    exact hg
  · have c1 : s.i < (s.l.length : Int) := by simpa using c1
    have hg : G_lprvo s s.i = true := by unfold G_lprvo; (simp_all; try (intros; simp_all; omega))
    rw [wrapS (x := s.i + 1) (by omega) (by omega)]
    refine ⟨⟨by simp only; omega, by simp only; omega, h2, h3, fun j hj => ?_⟩, by simp only [mu_lprvo]; omega⟩
    by_cases hji : (j : Int) < s.i
    · exact h4 j hji
    · have : (j : Int) = s.i := by simp only at hj; omega
      rw [this]; exact hg
  · have c1 : s.i < (s.l.length : Int) := by simpa using c1
    refine .inr ⟨rfl, rfl, s.i.toNat, by simp only; omega, ?_⟩
    rw [Int.toNat_of_nonneg h0]
    have hg : G_lprvo s s.i = false := by unfold G_lprvo; (simp_all; try (intros; simp_all; omega))
    exact hg
  · have c1 : s.i < (s.l.length : Int) := by simpa using c1
    have hg : G_lprvo s s.i = true := by unfold G_lprvo; (simp_all; try (intros; simp_all; omega))
    rw [wrapS (x := s.i + 1) (by omega) (by omega)]
    refine ⟨⟨by simp only; omega, by simp only; omega, h2, h3, fun j hj => ?_⟩, by simp only [mu_lprvo]; omega⟩
    by_cases hji : (j : Int) < s.i
    · exact h4 j hji
    · have : (j : Int) = s.i := by simp only at hj; omega
      rw [this]; exact hg
  · have c1 : (s.l.length : Int) ≤ s.i := by simpa using c1
    exact .inl ⟨rfl, fun j hj => h4 j (by omega)⟩
theorem lprvo_d : ∀ s s', I_lprvo s → f_lprvo s = .next s' → I_lprvo s' ∧ mu_lprvo s' < mu_lprvo s := fun s s' hI h => allR_next (lprvo_da s hI) h
def sel_lprvo : List LV → List Blk → T L_lprvo
  | [.xl (.pair (.int .i64) (.int .i64)) l, .v (.bool r), .v (.int .i64 i)], [] => .req (E_lprvo ⟨l, r, i⟩) (.ok ⟨l, r, i⟩)
  | _, _ => .no
theorem sel_lprvo_ok : ∀ vals blks s, (sel_lprvo vals blks).all (fun x => x = s) → E_lprvo s ∧ vals = A_lprvo s ∧ blks = B_lprvo s := by
  intro vals blks s h
  unfold sel_lprvo at h
  split at h
  · obtain ⟨h1, rfl⟩ := h
    exact ⟨h1, rfl, rfl⟩
  · cases h
def run_lprvo (s : L_lprvo) : L_lprvo := { (runW f_lprvo (mu_lprvo s + 1) s).2 with l := s.l }
theorem run_lprvo_eq (s : L_lprvo) : (runW f_lprvo (mu_lprvo s + 1) s).2 = run_lprvo s := by
  have hk := runW_keep (f := f_lprvo) P_lprvo (fun s s' hf => by
    unfold f_lprvo at hf
    repeat' split at hf
    all_goals cases hf
    all_goals rfl) (fun s x s' hf => by
    unfold f_lprvo at hf
    repeat' split at hf
    all_goals cases hf
    all_goals rfl) (mu_lprvo s + 1) s
  unfold run_lprvo
  generalize (runW f_lprvo (mu_lprvo s + 1) s).2 = r at *
  cases r
  simp only [P_lprvo, Prod.mk.injEq, true_and] at hk
  simp only [L_lprvo.mk.injEq, hk, and_self]
def exn_lprvo (s : L_lprvo) : Ex := (runW f_lprvo (mu_lprvo s + 1) s).1
def out_lprvo (s : L_lprvo) : T (Ex × List LV × List Blk) := .br (isEx (exn_lprvo s) (.ret)) (.ok (.ret, frameOf 47 [0, 2, 3] (A_lprvo (run_lprvo s)), B_lprvo (run_lprvo s))) (.ok (.exit 0, frameOf 47 [0, 2, 3] (A_lprvo (run_lprvo s)), B_lprvo (run_lprvo s)))
theorem nfl_lprvo (s : L_lprvo) : backT [0, 2, 3] [] (codex Try.prog noGlobs (specsOf [(35, S_rNu), (36, S_rEp)]) noK noLoops body_lprvo (frameOf 47 [0, 2, 3] (A_lprvo s)) (B_lprvo s)) = .br (decide (s.i < (List.length s.l : Int))) (.req (0 ≤ s.i ∧ s.i < (List.length s.l : Int)) (.br (!(inB (gV s.l s.i).1 1 1000000)) (.ok (⟨.ret, 47, [.xl tV s.l, .v (.bool false), .v (.int .i64 s.i)], [], true⟩)) (.br (decide (s.i > 0)) (.req (0 ≤ s.i ∧ s.i < (List.length s.l : Int)) (.req (0 ≤ (IntKind.i64.wrap (s.i - 1)) ∧ (IntKind.i64.wrap (s.i - 1)) < (List.length s.l : Int)) (.br (decide ((gV s.l s.i).1 ≤ (gV s.l (IntKind.i64.wrap (s.i - 1))).1)) (.ok (⟨.ret, 47, [.xl tV s.l, .v (.bool false), .v (.int .i64 s.i)], [], true⟩)) (.req (0 ≤ s.i ∧ s.i < (List.length s.l : Int)) (.br (!(inB (gV s.l s.i).2 0 1000000)) (.ok (⟨.ret, 47, [.xl tV s.l, .v (.bool false), .v (.int .i64 s.i)], [], true⟩)) (.ok (⟨.normal, 47, [.xl tV s.l, .v (.bool s.r), .v (.int .i64 (IntKind.i64.wrap (s.i + 1)))], [], true⟩))))))) (.req (0 ≤ s.i ∧ s.i < (List.length s.l : Int)) (.br (!(inB (gV s.l s.i).2 0 1000000)) (.ok (⟨.ret, 47, [.xl tV s.l, .v (.bool false), .v (.int .i64 s.i)], [], true⟩)) (.ok (⟨.normal, 47, [.xl tV s.l, .v (.bool s.r), .v (.int .i64 (IntKind.i64.wrap (s.i + 1)))], [], true⟩))))))) (.ok (⟨.exit 0, 47, [.xl tV s.l, .v (.bool s.r), .v (.int .i64 s.i)], [], true⟩)) := by kernel_rfl
theorem stp_lprvo (s : L_lprvo) (hI : I_lprvo s) : AllT (fun v => v = rdV 47 A_lprvo B_lprvo (f_lprvo s)) (backT [0, 2, 3] [] (codex Try.prog noGlobs (specsOf [(35, S_rNu), (36, S_rEp)]) noK noLoops body_lprvo (frameOf 47 [0, 2, 3] (A_lprvo s)) (B_lprvo s))) := by
  constructor
  rw [nfl_lprvo]
  unfold f_lprvo
  exact
    stp_br (fun c1 =>
      ⟨by (obtain ⟨h0, h1, h2, h3, h4⟩ := hI; simp only [decide_eq_true_eq] at *; first | omega | (rw [wrapS (x := s.i - 1) (by omega) (by omega)]; omega)),
        stp_br (fun c2 =>
          rfl) (fun c2 =>
          stp_br (fun c3 =>
            ⟨by (obtain ⟨h0, h1, h2, h3, h4⟩ := hI; simp only [decide_eq_true_eq] at *; first | omega | (rw [wrapS (x := s.i - 1) (by omega) (by omega)]; omega)),
              ⟨by (obtain ⟨h0, h1, h2, h3, h4⟩ := hI; simp only [decide_eq_true_eq] at *; first | omega | (rw [wrapS (x := s.i - 1) (by omega) (by omega)]; omega)),
                stp_br (fun c4 =>
                  rfl) (fun c4 =>
                  ⟨by (obtain ⟨h0, h1, h2, h3, h4⟩ := hI; simp only [decide_eq_true_eq] at *; first | omega | (rw [wrapS (x := s.i - 1) (by omega) (by omega)]; omega)),
                    stp_br (fun c5 =>
                      rfl) (fun c5 =>
                      rfl)⟩)⟩⟩) (fun c3 =>
            ⟨by (obtain ⟨h0, h1, h2, h3, h4⟩ := hI; simp only [decide_eq_true_eq] at *; first | omega | (rw [wrapS (x := s.i - 1) (by omega) (by omega)]; omega)),
              stp_br (fun c6 =>
                rfl) (fun c6 =>
                rfl)⟩))⟩) (fun c1 =>
      rfl)
theorem lprvo_end (s : L_lprvo) (hE : E_lprvo s) : ∃ s', I_lprvo s' ∧ f_lprvo s' = .stop (exn_lprvo s) (run_lprvo s) := by rw [← run_lprvo_eq]; exact runW_stop lprvo_d (mu_lprvo s + 1) s (lprvo_E s hE) (Nat.lt_succ_self _)
theorem snd_lprvo : Sound Try.prog noGlobs (.loop body_lprvo) (loopT 47 [0, 2, 3] [] sel_lprvo out_lprvo) :=
  loop_view 47 [0, 2, 3] [] A_lprvo B_lprvo I_lprvo E_lprvo mu_lprvo f_lprvo sel_lprvo out_lprvo (code_sound (Γ := specsOf [(35, S_rNu), (36, S_rEp)]) (K := noK) (L := noLoops) (specs_ok (l := [(35, S_rNu), (36, S_rEp)]) ⟨v_rNu, v_rEp, trivial⟩) noK_sound body_lprvo (fun b hb => by rw [show loopsIn body_lprvo = [] by kernel_rfl] at hb; cases hb))
    sel_lprvo_ok lprvo_E lprvo_d (fun s x s' hf => by have := lprvo_ex s x s' hf; intro h0; subst h0; simp at this) stp_lprvo (fun s hE => by
      obtain ⟨s', _, h2⟩ := lprvo_end s hE
      have h3 := lprvo_ex _ _ _ h2
      have h4 : (runW f_lprvo (mu_lprvo s + 1) s).1 = exn_lprvo s := rfl
      rw [h4, run_lprvo_eq]
      unfold out_lprvo
      generalize exn_lprvo s = e at h3
      rcases h3 with h3 | h3 <;> subst h3 <;> simp [T.all, isEx])
theorem lprvo_fin (s : L_lprvo) (hE : E_lprvo s) : ∃ s', I_lprvo s' ∧ Q_lprvo (exn_lprvo s) s' (run_lprvo s) := by
  obtain ⟨s', hI, hf⟩ := lprvo_end s hE
  exact ⟨s', hI, allR_stop (lprvo_da s' hI) hf⟩
def S0_rvo : List LV → T LV
  | [.xl (.pair (.int .i64) (.int .i64)) l] => .req ((List.length l : Int) ≤ 1000) (.ok (.v (.bool (vlV l))))
  | _ => .no
noncomputable def S_rvo : List LV → T LV := upS Try.prog Try.f24.params.toList S0_rvo
theorem nf_rvo (l : List (Int × Int)) : funu Try.prog noGlobs (specsOf [(35, S_rNu), (36, S_rEp)]) noK (fun i => if i = 2 then loopT 47 [0, 2, 3] [] sel_lprvo out_lprvo else noLoops i) Try.f24 [.xl tV l] = .req (E_lprvo (⟨l, false, (0 : Int)⟩ : L_lprvo)) (.br (isEx (exn_lprvo (⟨l, false, (0 : Int)⟩ : L_lprvo)) (.ret)) (.ok (.v (.bool (run_lprvo (⟨l, false, (0 : Int)⟩ : L_lprvo)).r))) (.ok (.v (.bool (decide ((List.length l : Int) ≤ 64)))))) := by kernel_rfl
theorem v_rvo : Valid Try.prog noGlobs 24 S_rvo := valid_ofu Try.func24 rfl (specs_ok (l := [(35, S_rNu), (36, S_rEp)]) ⟨v_rNu, v_rEp, trivial⟩) noK_sound (L := (fun i => if i = 2 then loopT 47 [0, 2, 3] [] sel_lprvo out_lprvo else noLoops i)) (fun b hb => by
  rw [show loopsIn _ = [body_lprvo] by kernel_rfl] at hb
  simp only [List.mem_cons, List.not_mem_nil, or_false] at hb
  subst hb
  exact snd_lprvo) (fun args lv h => by
  unfold S0_rvo at h
  split at h
  · simp only [canL, canX]
    rw [nf_rvo]
    rename_i l
    obtain ⟨hn, rfl⟩ := h
    have hE : E_lprvo ⟨l, false, (0 : Int)⟩ := ⟨rfl, by simp only; omega, hn, trivial⟩
    obtain ⟨s', _, hq⟩ := lprvo_fin _ hE
    refine ⟨hE, ?_⟩
    have key : (∀ j : Nat, (j : Int) < (l.length : Int) → G_lprvo ⟨l, false, (0 : Int)⟩ j = true) ↔ ckV 0 l = true := by
      refine ⟨fun h => ckV_of (fun j hj => ?_) (fun hj => ?_) (fun j hj => ?_), fun h j hj => ?_⟩
      · have := h j (by omega)
        unfold G_lprvo at this
        rw [gV_eq (by simpa using hj)] at this
        simp only [Bool.and_eq_true, Bool.not_eq_true'] at this
        refine ⟨this.1, ?_⟩
        have h2 := this.2.2
        simp [inB, cvB] at h2 ⊢
        omega
      · have := h 0 (by omega)
        unfold G_lprvo at this
        rw [gV_eq (by simpa using hj)] at this
        simp only [Bool.and_eq_true] at this
        have := inB_iff.1 this.1
        simp at this
        omega
      · have := h (j + 1) (by omega)
        unfold G_lprvo at this
        rw [wrapS (x := ((j + 1 : Nat) : Int) - 1) (by omega) (by omega), show ((j + 1 : Nat) : Int) - 1 = (j : Int) by omega, gV_eq (n := ((j + 1 : Nat) : Int)) (by simpa using hj), gV_eq (n := (j : Int)) (by simp; omega)] at this
        simp only [Bool.and_eq_true, Bool.or_eq_true, Bool.not_eq_true', decide_eq_false_iff_not] at this
        have := this.2.1
        simp at this
        omega
      · have hj' : j < l.length := by omega
        obtain ⟨u1, u2, u3⟩ := ckV_up h j hj'
        unfold G_lprvo
        rw [gV_eq (n := (j : Int)) (by simpa using hj')]
        simp only [Bool.and_eq_true, Bool.or_eq_true, Bool.not_eq_true', decide_eq_false_iff_not]
        refine ⟨u2, ?_, ?_⟩
        · by_cases h0 : (j : Int) > 0
          · right
            rw [wrapS (x := (j : Int) - 1) (by omega) (by omega), gV_eq (n := (j : Int) - 1) (by omega)]
            have := ckV_lt h ((j : Int) - 1).toNat j (by omega) hj' (by omega)
            simp only [Int.toNat_natCast]
            omega
          · left; exact h0
        · simp [inB, cvB] at u3 ⊢
          omega
    rcases hq with ⟨h1, h2⟩ | ⟨h1, h2, j, h3, h4⟩
    · have hk := key.1 h2
      rw [h1]
      refine ⟨fun h => (by cases h), fun _ => congrArg (fun z => LV.v (.bool z)) ?_⟩
      simp [vlV, hk]
      try omega
    · rw [h1, h2]
      refine ⟨fun _ => congrArg (fun z => LV.v (.bool z)) ?_, fun h => by cases h⟩
      rw [eq_comm, Bool.eq_false_iff]
      intro hv
      simp [vlV] at hv
      have := key.2 hv.2 j h3
      rw [show G_lprvo ⟨l, false, (0 : Int)⟩ j = G_lprvo (run_lprvo ⟨l, false, (0 : Int)⟩) j from rfl, h4] at this
      cases this
  · cases h)
end Go.Proofs.Ytcpadfehoaopaaa
