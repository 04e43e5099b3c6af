/- References: what they compute, by the executor. -/
import Derived.Test.YtakkjfldfghfcaaAh
namespace Go.Proofs.Ytakkjfldfghfcaa
open Go.Sx
def S0_rvalid : List LV → T LV
  | [.v (.agg ⟨[.int .i64 k, .int .i64 ph, .int .i64 mx, .int .i64 nd, .int .i64 dl]⟩)] => .ok (.v (.bool (carB k ph mx nd dl)))
  | _ => .no
noncomputable def S_rvalid : List LV → T LV := upS Try.prog Try.f22.params.toList S0_rvalid
theorem nf_rvalid (k ph mx nd dl : Int) : funu Try.prog noGlobs (specsOf []) noK noLoops Try.f22 [.v (.agg #[.int .i64 k, .int .i64 ph, .int .i64 mx, .int .i64 nd, .int .i64 dl])] = .br ((decide (k < 0)) || ((decide (k > 4)) || ((decide (ph < 1)) || ((decide (ph > 7)) || ((decide (mx < 1)) || ((decide (mx > 80)) || ((decide (nd < 0)) || (decide (nd > 1000000000))))))))) (.ok (.v (.bool false))) (.ok (.v (.bool ((decide (dl ≥ 0)) && ((decide (dl ≤ 20)) && ((k != 3) || (decide (dl ≥ 1)))))))) := by kernel_rfl
theorem v_rvalid : Valid Try.prog noGlobs 22 S_rvalid := valid_ofu Try.func22 rfl (specs_ok (l := []) trivial) noK_sound (no_loops (by kernel_rfl)) (fun args lv h => by
  unfold S0_rvalid at h
  split at h
  · simp only [canL, canX]
    rw [nf_rvalid]
    rename_i k ph mx nd dl
    obtain rfl := h
    refine ⟨fun c1 => congrArg (fun z => LV.v (.bool z)) ?_, fun c1 => congrArg (fun z => LV.v (.bool z)) ?_⟩
    · rw [eq_comm, Bool.eq_false_iff]
      intro hm
      have := carB_iff.1 hm
      simp at c1
      omega
    · simp at c1
      simp [carB, inB, c1, Bool.and_assoc]
  · cases h)
def S0_rplug : List LV → T LV
  | [.v (.agg ⟨[.int .i64 k, .int .i64 ph, .int .i64 mx, .int .i64 nd, .int .i64 dl]⟩)] => .ok (.tup [.agg [.xl (.int .i64) ([] : List Int), .v (.int .i64 0), .v (.int .i64 0)], .v (.int .i64 (plE k ph mx nd dl))])
  | _ => .no
noncomputable def S_rplug : List LV → T LV := upS Try.prog Try.f14.params.toList S0_rplug
theorem nf_rplug (k ph mx nd dl : Int) : funu Try.prog noGlobs (specsOf [(22, S_rvalid)]) noK noLoops Try.f14 [.v (.agg #[.int .i64 k, .int .i64 ph, .int .i64 mx, .int .i64 nd, .int .i64 dl])] = .br (!(carB k ph mx nd dl)) (.ok (.tup [.agg [.xl (.int .i64) ([] : List Int), .v (.int .i64 0), .v (.int .i64 0)], .v (.int .i64 1)])) (.ok (.tup [.agg [.xl (.int .i64) ([] : List Int), .v (.int .i64 0), .v (.int .i64 0)], .v (.int .i64 0)])) := by kernel_rfl
theorem v_rplug : Valid Try.prog noGlobs 14 S_rplug := valid_ofu Try.func14 rfl (specs_ok (l := [(22, S_rvalid)]) ⟨v_rvalid, trivial⟩) noK_sound (no_loops (by kernel_rfl)) (fun args lv h => by
  unfold S0_rplug at h
  split at h
  · simp only [canL, canX]
    rw [nf_rplug]
    rename_i k ph mx nd dl
    obtain rfl := h
    refine ⟨fun c1 => ?_, fun c1 => ?_⟩
    all_goals simp at c1
    all_goals simp [c1, T.all, plE]
  · cases h)
def S0_plug : List LV → T LV
  | [.v (.agg ⟨[.int .i64 k, .int .i64 ph, .int .i64 mx, .int .i64 nd, .int .i64 dl]⟩)] => .ok (.tup [.agg [.xl (.int .i64) ([] : List Int), .v (.int .i64 0), .v (.int .i64 0)], .v (.int .i64 (plE k ph mx nd dl))])
  | _ => .no
noncomputable def S_plug : List LV → T LV := upS Try.prog Try.f13.params.toList S0_plug
theorem nf_plug (k ph mx nd dl : Int) : funu Try.prog noGlobs (specsOf [(17, S_valid)]) noK noLoops Try.f13 [.v (.agg #[.int .i64 k, .int .i64 ph, .int .i64 mx, .int .i64 nd, .int .i64 dl])] = .br (!(carB k ph mx nd dl)) (.ok (.tup [.agg [.xl (.int .i64) ([] : List Int), .v (.int .i64 0), .v (.int .i64 0)], .v (.int .i64 1)])) (.ok (.tup [.agg [.xl (.int .i64) ([] : List Int), .v (.int .i64 0), .v (.int .i64 0)], .v (.int .i64 0)])) := by kernel_rfl
theorem v_plug : Valid Try.prog noGlobs 13 S_plug := valid_ofu Try.func13 rfl (specs_ok (l := [(17, S_valid)]) ⟨v_valid, trivial⟩) noK_sound (no_loops (by kernel_rfl)) (fun args lv h => by
  unfold S0_plug at h
  split at h
  · simp only [canL, canX]
    rw [nf_plug]
    rename_i k ph mx nd dl
    obtain rfl := h
    refine ⟨fun c1 => ?_, fun c1 => ?_⟩
    all_goals simp at c1
    all_goals simp [c1, T.all, plE]
  · cases h)
def S0_count : List LV → T LV
  | [.v (.int .i64 n)] => .req (0 ≤ n ∧ n ≤ 7) (.ok (.v (.int .i64 (cnt n))))
  | _ => .no
noncomputable def S_count : List LV → T LV := upS Try.prog Try.f16.params.toList S0_count
theorem nf_count (n : Int) : funu Try.prog noGlobs (specsOf []) noK noLoops Try.f16 [.v (.int .i64 n)] = .req ((2 : Int) ≠ 0) (.req ((2 : Int) ≠ 0) (.req ((2 : Int) ≠ 0) (.req ((4 : Int) ≠ 0) (.req ((2 : Int) ≠ 0) (.ok (.v (.int .i64 (IntKind.i64.wrap ((IntKind.i64.wrap ((n.tmod 2) + ((IntKind.i64.wrap (n.tdiv 2)).tmod 2))) + ((IntKind.i64.wrap (n.tdiv 4)).tmod 2)))))))))) := by kernel_rfl
theorem v_count : Valid Try.prog noGlobs 16 S_count := valid_ofu Try.func16 rfl (specs_ok (l := []) trivial) noK_sound (no_loops (by kernel_rfl)) (fun args lv h => by
  unfold S0_count at h
  split at h
  · simp only [canL, canX]
    rw [nf_count]
    rename_i n
    obtain ⟨⟨h1, h2⟩, rfl⟩ := h
    refine ⟨by decide, by decide, by decide, by decide, by decide, congrArg (fun z => LV.v (.int .i64 z)) ?_⟩
    rcases eight h1 h2 with rfl | rfl | rfl | rfl | rfl | rfl | rfl | rfl <;> decide
  · cases h)
def S0_current : List LV → T LV
  | [.v (.agg ⟨[.int .i64 k, .int .i64 ph, .int .i64 mx, .int .i64 nd, .int .i64 dl]⟩), .agg [.xl (.int .i64) pil, .v (.int .i64 tk), .v (.int .i64 got)], .v (.int .i64 al)] => .req (carB k ph mx nd dl = true ∧ mindB pil tk got = true ∧ 0 ≤ al) (.ok (.v (.int .i64 (min mx (wish k dl tk mx pil al)))))
  | _ => .no
noncomputable def S_current : List LV → T LV := upS Try.prog Try.f25.params.toList S0_current
theorem nf_current (k ph mx nd dl : Int) (pil : List Int) (tk got al : Int) : funu Try.prog noGlobs (specsOf []) noK noLoops Try.f25 [.v (.agg #[.int .i64 k, .int .i64 ph, .int .i64 mx, .int .i64 nd, .int .i64 dl]), .agg [.xl (.int .i64) pil, .v (.int .i64 tk), .v (.int .i64 got)], .v (.int .i64 al)] = .br (k == 1) (.br (decide (dl > 0)) (.br (decide (((List.length pil : Int)) ≥ dl)) (.req (0 ≤ (IntKind.i64.wrap (((List.length pil : Int)) - dl)) ∧ (IntKind.i64.wrap (((List.length pil : Int)) - dl)) < (List.length pil : Int)) (.ok (.v (.int .i64 (if mx < (if ((gi pil (IntKind.i64.wrap (((List.length pil : Int)) - dl)))) < al then (gi pil (IntKind.i64.wrap (((List.length pil : Int)) - dl))) else al) then mx else if ((gi pil (IntKind.i64.wrap (((List.length pil : Int)) - dl)))) < al then (gi pil (IntKind.i64.wrap (((List.length pil : Int)) - dl))) else al))))) (.ok (.v (.int .i64 (if mx < (if (0 : Int) < al then 0 else al) then mx else if (0 : Int) < al then 0 else al))))) (.ok (.v (.int .i64 (if mx < (if al < al then al else al) then mx else if al < al then al else al))))) (.br (k == 3) (.req (dl ≠ 0) (.req ((2 : Int) ≠ 0) (.br (((IntKind.i64.wrap (tk.tdiv dl)).tmod 2) == 1) (.ok (.v (.int .i64 (if mx < 0 then mx else 0)))) (.ok (.v (.int .i64 (if mx < al then mx else al))))))) (.br (k == 4) (.br (decide (al > 0)) (.ok (.v (.int .i64 (if mx < mx then mx else mx)))) (.ok (.v (.int .i64 (if mx < al then mx else al))))) (.ok (.v (.int .i64 (if mx < al then mx else al)))))) := by kernel_rfl
set_option maxHeartbeats 2000000 in
theorem v_current : Valid Try.prog noGlobs 25 S_current := valid_ofu Try.func25 rfl (specs_ok (l := []) trivial) noK_sound (no_loops (by kernel_rfl)) (fun args lv h => by
  unfold S0_current at h
  split at h
  · simp only [canL, canX]
    rw [nf_current]
    rename_i k ph mx nd dl pil tk got al
    obtain ⟨⟨hc, hm, hal⟩, rfl⟩ := h
    have hc := carB_iff.1 hc
    have hm := mindB_iff.1 hm
    have ew : IntKind.i64.wrap ((List.length pil : Int) - dl) = (List.length pil : Int) - dl := wrapS (by omega) (by omega)
    have et : IntKind.i64.wrap (tk.tdiv dl) = tk.tdiv dl := by
      rw [Int.tdiv_eq_ediv_of_nonneg (by omega)]
      have h1 : 0 ≤ tk / dl := Int.ediv_nonneg (by omega) (by omega)
      have h2 : tk / dl ≤ tk := Int.ediv_le_self _ (by omega)
      exact wrapS (by omega) (by omega)
    have w0 : k ≠ 1 → k ≠ 3 → k ≠ 4 → wish k dl tk mx pil al = al := fun h1 h2 h3 => by simp [wish, h1, h2, h3]
    have w1a : k = 1 → dl = 0 → wish k dl tk mx pil al = al := fun h1 h2 => by simp [wish, h1, h2]
    have w1b : k = 1 → dl ≠ 0 → 0 ≤ (List.length pil : Int) - dl → wish k dl tk mx pil al = min al (gi pil ((List.length pil : Int) - dl)) := fun h1 h2 h3 => by
      simp only [wish, h1, h2, if_true, if_false, ago, ge_iff_le]
      rw [if_pos h3]
      rfl
    have w1c : k = 1 → dl ≠ 0 → (List.length pil : Int) - dl < 0 → wish k dl tk mx pil al = min al 0 := fun h1 h2 h3 => by
      simp only [wish, h1, h2, if_true, if_false, ago, ge_iff_le]
      rw [if_neg (by omega)]
    have w3a : k = 3 → (tk.tdiv dl).tmod 2 = 1 → wish k dl tk mx pil al = 0 := fun h1 h2 => by simp [wish, h1, h2]
    have w3b : k = 3 → ¬ (tk.tdiv dl).tmod 2 = 1 → wish k dl tk mx pil al = al := fun h1 h2 => by simp [wish, h1, h2]
    have w4a : k = 4 → al = 0 → wish k dl tk mx pil al = 0 := fun h1 h2 => by simp [wish, h1, h2]
    have w4b : k = 4 → al ≠ 0 → wish k dl tk mx pil al = mx := fun h1 h2 => by simp [wish, h1, h2]
    simp only [ew, et]
    clear ew et
    generalize wish k dl tk mx pil al = qw at *
    generalize gi pil ((List.length pil : Int) - dl) = qg at *
    refine ⟨fun c1 => ?_, fun c1 => ?_⟩
    · refine ⟨fun c2 => ?_, fun c2 => ?_⟩
      · refine ⟨fun c3 => ?_, fun c3 => ?_⟩
        · refine ⟨?_, ?_⟩
          · simp only [beq_iff_eq, beq_eq_false_iff_ne, ne_eq, Bool.or_eq_true, Bool.or_eq_false_iff, decide_eq_true_eq, decide_eq_false_iff_not, ge_iff_le, Int.not_le] at *
            (first | decide | omega)
          · simp only [beq_iff_eq, beq_eq_false_iff_ne, ne_eq, Bool.or_eq_true, Bool.or_eq_false_iff, decide_eq_true_eq, decide_eq_false_iff_not, ge_iff_le, Int.not_le] at *
            refine congrArg (fun z => LV.v (.int .i64 z)) ?_
            omega
        · simp only [beq_iff_eq, beq_eq_false_iff_ne, ne_eq, Bool.or_eq_true, Bool.or_eq_false_iff, decide_eq_true_eq, decide_eq_false_iff_not, ge_iff_le, Int.not_le] at *
          refine congrArg (fun z => LV.v (.int .i64 z)) ?_
          omega
      · simp only [beq_iff_eq, beq_eq_false_iff_ne, ne_eq, Bool.or_eq_true, Bool.or_eq_false_iff, decide_eq_true_eq, decide_eq_false_iff_not, ge_iff_le, Int.not_le] at *
        refine congrArg (fun z => LV.v (.int .i64 z)) ?_
        omega
    · refine ⟨fun c2 => ?_, fun c2 => ?_⟩
      · refine ⟨?_, ?_⟩
        · simp only [beq_iff_eq, beq_eq_false_iff_ne, ne_eq, Bool.or_eq_true, Bool.or_eq_false_iff, decide_eq_true_eq, decide_eq_false_iff_not, ge_iff_le, Int.not_le] at *
          (first | decide | omega)
        · refine ⟨?_, ?_⟩
          · simp only [beq_iff_eq, beq_eq_false_iff_ne, ne_eq, Bool.or_eq_true, Bool.or_eq_false_iff, decide_eq_true_eq, decide_eq_false_iff_not, ge_iff_le, Int.not_le] at *
            (first | decide | omega)
          · refine ⟨fun c3 => ?_, fun c3 => ?_⟩
            · simp only [beq_iff_eq, beq_eq_false_iff_ne, ne_eq, Bool.or_eq_true, Bool.or_eq_false_iff, decide_eq_true_eq, decide_eq_false_iff_not, ge_iff_le, Int.not_le] at *
              refine congrArg (fun z => LV.v (.int .i64 z)) ?_
              omega
            · simp only [beq_iff_eq, beq_eq_false_iff_ne, ne_eq, Bool.or_eq_true, Bool.or_eq_false_iff, decide_eq_true_eq, decide_eq_false_iff_not, ge_iff_le, Int.not_le] at *
              refine congrArg (fun z => LV.v (.int .i64 z)) ?_
              omega
      · refine ⟨fun c3 => ?_, fun c3 => ?_⟩
        · refine ⟨fun c4 => ?_, fun c4 => ?_⟩
          · simp only [beq_iff_eq, beq_eq_false_iff_ne, ne_eq, Bool.or_eq_true, Bool.or_eq_false_iff, decide_eq_true_eq, decide_eq_false_iff_not, ge_iff_le, Int.not_le] at *
            refine congrArg (fun z => LV.v (.int .i64 z)) ?_
            omega
          · simp only [beq_iff_eq, beq_eq_false_iff_ne, ne_eq, Bool.or_eq_true, Bool.or_eq_false_iff, decide_eq_true_eq, decide_eq_false_iff_not, ge_iff_le, Int.not_le] at *
            refine congrArg (fun z => LV.v (.int .i64 z)) ?_
            omega
        · simp only [beq_iff_eq, beq_eq_false_iff_ne, ne_eq, Bool.or_eq_true, Bool.or_eq_false_iff, decide_eq_true_eq, decide_eq_false_iff_not, ge_iff_le, Int.not_le] at *
          refine congrArg (fun z => LV.v (.int .i64 z)) ?_
          omega
  · cases h)
structure L_rs where
  r : Bool
  i : Int
  l : List Int
  s_Ticks : Int
  s_Got : Int
def A_rs (s : L_rs) : List LV := [.own 0 0, .v (.bool s.r), .v (.int .i64 s.i)]
def B_rs (s : L_rs) : List Blk := [⟨[.xl (.int .i64) s.l, .v (.int .i64 s.s_Ticks), .v (.int .i64 s.s_Got)], 26, .cl, false⟩]
noncomputable def body_rs : Code := ((loopsIn (Try.f23.body.getD .skip))[0]?).getD .skip
def f_rs (s : L_rs) : Rd L_rs :=
  if (decide (s.i < ((List.length s.l : Int)))) then
    if (decide (((gi s.l s.i)) < 0)) then
      .stop (.ret) { s with r := false }
    else
      if (decide (((gi s.l s.i)) > 80)) then
        .stop (.ret) { s with r := false }
      else
        .next { s with i := (IntKind.i64.wrap (s.i + 1)) }
  else
    .stop (.exit 0) s
def P_rs (s : L_rs) := ((), s.l, s.s_Ticks, s.s_Got)
theorem rs_ex : ∀ s x s', f_rs s = .stop x s' → x = .ret ∨ x = .exit 0 := by
  intro s x s' h
  unfold f_rs at h
  repeat' split at h
  all_goals first | (cases h; done) | (cases h; rfl) | (cases h; simp)
def G_rs (s : L_rs) (j : Int) : Bool := !(decide (gi s.l j < 0)) && !(decide (gi s.l j > 80))
def E_rs (s : L_rs) : Prop := s.i = 0 ∧ 0 ≤ (s.l.length : Int) ∧ (s.l.length : Int) ≤ 1000 ∧ True
def I_rs (s : L_rs) : Prop := 0 ≤ s.i ∧ s.i ≤ (s.l.length : Int) ∧ (s.l.length : Int) ≤ 1000 ∧ (True) ∧ ∀ j : Nat, (j : Int) < s.i → G_rs s j = true
def mu_rs (s : L_rs) : Nat := ((s.l.length : Int) - s.i).toNat
def Q_rs (x : Ex) (s s' : L_rs) : Prop := (x = .exit 0 ∧ ∀ j : Nat, (j : Int) < (s'.l.length : Int) → G_rs s' j = true) ∨ (x = .ret ∧ s'.r = false ∧ ∃ j : Nat, (j : Int) < (s'.l.length : Int) ∧ G_rs s' j = false)
theorem rs_E : ∀ s, E_rs s → I_rs s := by
  intro s h
  obtain ⟨h0, h1, h2, h3⟩ := h
  exact ⟨by omega, by omega, h2, h3, fun j hj => by omega⟩
theorem rs_da (s : L_rs) (hI : I_rs s) : allR (fun s' => I_rs s' ∧ mu_rs s' < mu_rs s) (fun x s' => Q_rs x s s') (f_rs s) := by
  unfold f_rs
  obtain ⟨h0, h1, h2, h3, h4⟩ := hI
  refine allR_ite (fun c1 => allR_ite (fun c2 => ?_) (fun c2 => allR_ite (fun c3 => ?_) (fun c3 => ?_))) (fun c1 => ?_)
  · have c1 : s.i < (s.l.length : Int) := by simpa using c1
    refine .inr ⟨rfl, rfl, s.i.toNat, by simp only; omega, ?_⟩
    rw [Int.toNat_of_nonneg h0]
    have hg : G_rs s s.i = false := by unfold G_rs; simp_all
    exact hg
  · have c1 : s.i < (s.l.length : Int) := by simpa using c1
    refine .inr ⟨rfl, rfl, s.i.toNat, by simp only; omega, ?_⟩
    rw [Int.toNat_of_nonneg h0]
    have hg : G_rs s s.i = false := by unfold G_rs; simp_all
    exact hg
  · have c1 : s.i < (s.l.length : Int) := by simpa using c1
    have hg : G_rs s s.i = true := by unfold G_rs; simp_all
    rw [wrapS (x := s.i + 1) (by omega) (by omega)]
    refine ⟨⟨by simp only; omega, by simp only; omega, h2, h3, fun j hj => ?_⟩, by simp only [mu_rs]; omega⟩
    by_cases hji : (j : Int) < s.i
    · exact h4 j hji
    · have : (j : Int) = s.i := by simp only at hj; omega
      rw [this]; exact hg
  · have c1 : (s.l.length : Int) ≤ s.i := by simpa using c1
    exact .inl ⟨rfl, fun j hj => h4 j (by omega)⟩
theorem rs_d : ∀ s s', I_rs s → f_rs s = .next s' → I_rs s' ∧ mu_rs s' < mu_rs s := fun s s' hI h => allR_next (rs_da s hI) h
def sel_rs : List LV → List Blk → T L_rs
  | [.own 0 0, .v (.bool r), .v (.int .i64 i)], [⟨[.xl (.int .i64) l, .v (.int .i64 s_Ticks), .v (.int .i64 s_Got)], 26, .cl, false⟩] => .req (E_rs ⟨r, i, l, s_Ticks, s_Got⟩) (.ok ⟨r, i, l, s_Ticks, s_Got⟩)
  | _, _ => .no
theorem sel_rs_ok : ∀ vals blks s, (sel_rs vals blks).all (fun x => x = s) → E_rs s ∧ vals = A_rs s ∧ blks = B_rs s := by
  intro vals blks s h
  unfold sel_rs at h
  split at h
  · obtain ⟨h1, rfl⟩ := h
    exact ⟨h1, rfl, rfl⟩
  · cases h
def run_rs (s : L_rs) : L_rs := { (runW f_rs (mu_rs s + 1) s).2 with l := s.l, s_Ticks := s.s_Ticks, s_Got := s.s_Got }
theorem run_rs_eq (s : L_rs) : (runW f_rs (mu_rs s + 1) s).2 = run_rs s := by
  have hk := runW_keep (f := f_rs) P_rs (fun s s' hf => by
    unfold f_rs at hf
    repeat' split at hf
    all_goals cases hf
    all_goals rfl) (fun s x s' hf => by
    unfold f_rs at hf
    repeat' split at hf
    all_goals cases hf
    all_goals rfl) (mu_rs s + 1) s
  unfold run_rs
  generalize (runW f_rs (mu_rs s + 1) s).2 = r at *
  cases r
  simp only [P_rs, Prod.mk.injEq, true_and] at hk
  simp only [L_rs.mk.injEq, hk, and_self]
def exn_rs (s : L_rs) : Ex := (runW f_rs (mu_rs s + 1) s).1
def out_rs (s : L_rs) : T (Ex × List LV × List Blk) := .br (isEx (exn_rs s) (.ret)) (.ok (.ret, frameOf 49 [1, 2, 3] (A_rs (run_rs s)), B_rs (run_rs s))) (.ok (.exit 0, frameOf 49 [1, 2, 3] (A_rs (run_rs s)), B_rs (run_rs s)))
theorem nfl_rs (s : L_rs) : backT [1, 2, 3] [] (codex Try.prog noGlobs (specsOf []) noK noLoops body_rs (frameOf 49 [1, 2, 3] (A_rs s)) (B_rs s)) = .br (decide (s.i < ((List.length s.l : Int)))) (.req (0 ≤ s.i ∧ s.i < (List.length s.l : Int)) (.br (decide (((gi s.l s.i)) < 0)) (.ok (⟨.ret, 49, [.own 0 0, .v (.bool false), .v (.int .i64 s.i)], [⟨[.xl (.int .i64) s.l, .v (.int .i64 s.s_Ticks), .v (.int .i64 s.s_Got)], 26, .cl, false⟩], true⟩)) (.req (0 ≤ s.i ∧ s.i < (List.length s.l : Int)) (.br (decide (((gi s.l s.i)) > 80)) (.ok (⟨.ret, 49, [.own 0 0, .v (.bool false), .v (.int .i64 s.i)], [⟨[.xl (.int .i64) s.l, .v (.int .i64 s.s_Ticks), .v (.int .i64 s.s_Got)], 26, .cl, false⟩], true⟩)) (.ok (⟨.normal, 49, [.own 0 0, .v (.bool s.r), .v (.int .i64 (IntKind.i64.wrap (s.i + 1)))], [⟨[.xl (.int .i64) s.l, .v (.int .i64 s.s_Ticks), .v (.int .i64 s.s_Got)], 26, .cl, false⟩], true⟩)))))) (.ok (⟨.exit 0, 49, [.own 0 0, .v (.bool s.r), .v (.int .i64 s.i)], [⟨[.xl (.int .i64) s.l, .v (.int .i64 s.s_Ticks), .v (.int .i64 s.s_Got)], 26, .cl, false⟩], true⟩)) := by kernel_rfl
theorem stp_rs (s : L_rs) (hI : I_rs s) : AllT (fun v => v = rdV 49 A_rs B_rs (f_rs s)) (backT [1, 2, 3] [] (codex Try.prog noGlobs (specsOf []) noK noLoops body_rs (frameOf 49 [1, 2, 3] (A_rs s)) (B_rs s))) := by
  constructor
  rw [nfl_rs]
  unfold f_rs
  exact
    stp_br (fun c1 =>
      ⟨by (obtain ⟨h0, h1, h2, h3, h4⟩ := hI; simp at c1; omega),
        stp_br (fun c2 =>
          rfl) (fun c2 =>
          ⟨by (obtain ⟨h0, h1, h2, h3, h4⟩ := hI; simp at c1; omega),
            stp_br (fun c3 =>
              rfl) (fun c3 =>
              rfl)⟩)⟩) (fun c1 =>
      rfl)
theorem rs_end (s : L_rs) (hE : E_rs s) : ∃ s', I_rs s' ∧ f_rs s' = .stop (exn_rs s) (run_rs s) := by rw [← run_rs_eq]; exact runW_stop rs_d (mu_rs s + 1) s (rs_E s hE) (Nat.lt_succ_self _)
theorem snd_rs : Sound Try.prog noGlobs (.loop body_rs) (loopT 49 [1, 2, 3] [] sel_rs out_rs) :=
  loop_view 49 [1, 2, 3] [] A_rs B_rs I_rs E_rs mu_rs f_rs sel_rs out_rs (code_sound (Γ := specsOf []) (K := noK) (L := noLoops) (specs_ok (l := []) trivial) noK_sound body_rs (fun b hb => by rw [show loopsIn body_rs = [] by kernel_rfl] at hb; cases hb))
    sel_rs_ok rs_E rs_d (fun s x s' hf => by have := rs_ex s x s' hf; intro h0; subst h0; simp at this) stp_rs (fun s hE => by
      obtain ⟨s', _, h2⟩ := rs_end s hE
      have h3 := rs_ex _ _ _ h2
      have h4 : (runW f_rs (mu_rs s + 1) s).1 = exn_rs s := rfl
      rw [h4, run_rs_eq]
      unfold out_rs
      generalize exn_rs s = e at h3
      rcases h3 with h3 | h3 <;> subst h3 <;> simp [T.all, isEx])
theorem rs_fin (s : L_rs) (hE : E_rs s) : ∃ s', I_rs s' ∧ Q_rs (exn_rs s) s' (run_rs s) := by
  obtain ⟨s', hI, hf⟩ := rs_end s hE
  exact ⟨s', hI, allR_stop (rs_da s' hI) hf⟩
def S0_rstate : List LV → T LV
  | [.agg [.xl (.int .i64) pil, .v (.int .i64 tk), .v (.int .i64 got)]] => .req ((List.length pil : Int) ≤ 1000) (.ok (.v (.bool (mindB pil tk got))))
  | _ => .no
noncomputable def S_rstate : List LV → T LV := upS Try.prog Try.f23.params.toList S0_rstate
theorem nf_rstate (pil : List Int) (tk got : Int) : funu Try.prog noGlobs (specsOf []) noK (fun i => if i = 2 then loopT 49 [1, 2, 3] [] sel_rs out_rs else noLoops i) Try.f23 [.agg [.xl (.int .i64) pil, .v (.int .i64 tk), .v (.int .i64 got)]] = .req (E_rs (⟨false, (0 : Int), pil, tk, got⟩ : L_rs)) (.br (isEx (exn_rs (⟨false, (0 : Int), pil, tk, got⟩ : L_rs)) (.ret)) (.ok (.v (.bool (((run_rs (⟨false, (0 : Int), pil, tk, got⟩ : L_rs)).r))))) (.ok (.v (.bool ((decide (((List.length pil : Int)) ≤ 21)) && ((decide (tk ≥ 0)) && ((decide (tk ≤ 1000000)) && ((decide (got ≥ 0)) && (decide (got ≤ 2000000000)))))))))) := by kernel_rfl
theorem v_rstate : Valid Try.prog noGlobs 23 S_rstate := valid_ofu Try.func23 rfl (specs_ok (l := []) trivial) noK_sound (L := (fun i => if i = 2 then loopT 49 [1, 2, 3] [] sel_rs out_rs else noLoops i)) (fun b hb => by
  rw [show loopsIn _ = [body_rs] by kernel_rfl] at hb
  simp only [List.mem_cons, List.not_mem_nil, or_false] at hb
  subst hb
  exact snd_rs) (fun args lv h => by
  unfold S0_rstate at h
  split at h
  · simp only [canL, canX]
    rw [nf_rstate]
    rename_i pil tk got
    obtain ⟨hn, rfl⟩ := h
    have hE : E_rs ⟨false, (0 : Int), pil, tk, got⟩ := ⟨rfl, by simp only; omega, hn, trivial⟩
    obtain ⟨s', _, hq⟩ := rs_fin _ hE
    rcases hq with ⟨h1, h2⟩ | ⟨h1, h2, j, h3, h4⟩
    · rw [h1]
      refine ⟨hE, fun h => (by cases h), fun _ => congrArg (fun z => LV.v (.bool z)) ?_⟩
      have ha : pil.all (fun p => inB p 0 80) = true := by
        rw [List.all_eq_true]
        intro p hp
        obtain ⟨j, hj, rfl⟩ := List.getElem_of_mem hp
        have := h2 j (by show (j : Int) < (pil.length : Int); omega)
        unfold G_rs at this
        rw [show (run_rs _).l = pil from rfl, gi_eq (by simpa using hj)] at this
        simp at this
        simp [inB]; omega
      simp only [mindB, ha, Bool.and_true]
      simp [inB, Bool.and_assoc]
      try rw [show decide ((List.length pil : Int) ≤ 21) = decide (List.length pil ≤ 21) by simp only [decide_eq_decide]; omega]
    · rw [h1, h2]
      refine ⟨hE, fun _ => congrArg (fun z => LV.v (.bool z)) ?_, fun h => by cases h⟩
      rw [eq_comm, Bool.eq_false_iff]
      intro hm
      have hm := mindB_iff.1 hm
      have hj : j < pil.length := by have : (j : Int) < (pil.length : Int) := h3; omega
      have := hm.2.2.2.2.2 _ (List.getElem_mem hj)
      unfold G_rs at h4
      rw [show (run_rs _).l = pil from rfl, gi_eq (by simpa using hj)] at h4
      simp at h4
      omega
  · cases h)
end Go.Proofs.Ytakkjfldfghfcaa
