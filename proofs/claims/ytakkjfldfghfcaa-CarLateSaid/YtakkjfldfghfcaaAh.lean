/- Draw: what it computes, by the executor. -/
import Derived.Test.YtakkjfldfghfcaaAg
namespace Go.Proofs.Ytakkjfldfghfcaa
open Go.Sx
def S0_ones : List LV → T LV
  | [.v (.int .u64 n)] => .req (0 ≤ n ∧ n ≤ 7) (.ok (.v (.int .i64 (cnt n))))
  | _ => .no
noncomputable def S_ones : List LV → T LV := upS Try.prog Try.f28.params.toList S0_ones
theorem nf_ones0 : funu Try.prog noGlobs (specsOf []) (inl Try.prog noGlobs (specsOf []) 9) noLoops Try.f28 [.v (.int .u64 0)] = .ok (.v (.int .i64 (cnt 0))) := by kernel_rfl
theorem nf_ones1 : funu Try.prog noGlobs (specsOf []) (inl Try.prog noGlobs (specsOf []) 9) noLoops Try.f28 [.v (.int .u64 1)] = .ok (.v (.int .i64 (cnt 1))) := by kernel_rfl
theorem nf_ones2 : funu Try.prog noGlobs (specsOf []) (inl Try.prog noGlobs (specsOf []) 9) noLoops Try.f28 [.v (.int .u64 2)] = .ok (.v (.int .i64 (cnt 2))) := by kernel_rfl
theorem nf_ones3 : funu Try.prog noGlobs (specsOf []) (inl Try.prog noGlobs (specsOf []) 9) noLoops Try.f28 [.v (.int .u64 3)] = .ok (.v (.int .i64 (cnt 3))) := by kernel_rfl
theorem nf_ones4 : funu Try.prog noGlobs (specsOf []) (inl Try.prog noGlobs (specsOf []) 9) noLoops Try.f28 [.v (.int .u64 4)] = .ok (.v (.int .i64 (cnt 4))) := by kernel_rfl
theorem nf_ones5 : funu Try.prog noGlobs (specsOf []) (inl Try.prog noGlobs (specsOf []) 9) noLoops Try.f28 [.v (.int .u64 5)] = .ok (.v (.int .i64 (cnt 5))) := by kernel_rfl
theorem nf_ones6 : funu Try.prog noGlobs (specsOf []) (inl Try.prog noGlobs (specsOf []) 9) noLoops Try.f28 [.v (.int .u64 6)] = .ok (.v (.int .i64 (cnt 6))) := by kernel_rfl
theorem nf_ones7 : funu Try.prog noGlobs (specsOf []) (inl Try.prog noGlobs (specsOf []) 9) noLoops Try.f28 [.v (.int .u64 7)] = .ok (.v (.int .i64 (cnt 7))) := by kernel_rfl
theorem nf_ones {n : Int} (h1 : 0 ≤ n) (h2 : n ≤ 7) : funu Try.prog noGlobs (specsOf []) (inl Try.prog noGlobs (specsOf []) 9) noLoops Try.f28 [.v (.int .u64 n)] = .ok (.v (.int .i64 (cnt n))) := by
  rcases eight h1 h2 with e | e | e | e | e | e | e | e
  · rw [e]; exact nf_ones0
  · rw [e]; exact nf_ones1
  · rw [e]; exact nf_ones2
  · rw [e]; exact nf_ones3
  · rw [e]; exact nf_ones4
  · rw [e]; exact nf_ones5
  · rw [e]; exact nf_ones6
  · rw [e]; exact nf_ones7
theorem v_ones : Valid Try.prog noGlobs 28 S_ones := valid_ofu Try.func28 rfl (specs_ok (l := []) trivial) (inl_sound (specs_ok (l := []) trivial) 9) (no_loops (by kernel_rfl)) (fun args lv h => by
  unfold S0_ones at h
  split at h
  · rename_i n
    simp only [canL, canX]
    rw [nf_ones h.1.1 h.1.2]; exact h.2
  · cases h)
noncomputable def S0_common : List LV → T LV := fun l => funu Try.prog noGlobs (specsOf []) noK noLoops Try.f26 (canL l)
noncomputable def S_common : List LV → T LV := upS Try.prog Try.f26.params.toList S0_common
theorem v_common : Valid Try.prog noGlobs 26 S_common := valid_ofu Try.func26 rfl (specs_ok (l := []) trivial) noK_sound (no_loops (by kernel_rfl)) (fun _ _ h => h)
noncomputable def S0_ago : List LV → T LV := fun l => funu Try.prog noGlobs (specsOf []) noK noLoops Try.f31 (canL l)
noncomputable def S_ago : List LV → T LV := upS Try.prog Try.f31.params.toList S0_ago
theorem v_ago : Valid Try.prog noGlobs 31 S_ago := valid_ofu Try.func31 rfl (specs_ok (l := []) trivial) noK_sound (no_loops (by kernel_rfl)) (fun _ _ h => h)
noncomputable def S0_w1 : List LV → T LV := fun l => funu Try.prog noGlobs (specsOf []) noK noLoops Try.f29 (canL l)
noncomputable def S_w1 : List LV → T LV := upS Try.prog Try.f29.params.toList S0_w1
theorem v_w1 : Valid Try.prog noGlobs 29 S_w1 := valid_ofu Try.func29 rfl (specs_ok (l := []) trivial) noK_sound (no_loops (by kernel_rfl)) (fun _ _ h => h)
noncomputable def S0_w2 : List LV → T LV := fun l => funu Try.prog noGlobs (specsOf [(31, S_ago)]) noK noLoops Try.f30 (canL l)
noncomputable def S_w2 : List LV → T LV := upS Try.prog Try.f30.params.toList S0_w2
theorem v_w2 : Valid Try.prog noGlobs 30 S_w2 := valid_ofu Try.func30 rfl (specs_ok (l := [(31, S_ago)]) ⟨v_ago, trivial⟩) noK_sound (no_loops (by kernel_rfl)) (fun _ _ h => h)
noncomputable def S0_w3 : List LV → T LV := fun l => funu Try.prog noGlobs (specsOf []) noK noLoops Try.f32 (canL l)
noncomputable def S_w3 : List LV → T LV := upS Try.prog Try.f32.params.toList S0_w3
theorem v_w3 : Valid Try.prog noGlobs 32 S_w3 := valid_ofu Try.func32 rfl (specs_ok (l := []) trivial) noK_sound (no_loops (by kernel_rfl)) (fun _ _ h => h)
noncomputable def S0_w4 : List LV → T LV := fun l => funu Try.prog noGlobs (specsOf []) noK noLoops Try.f33 (canL l)
noncomputable def S_w4 : List LV → T LV := upS Try.prog Try.f33.params.toList S0_w4
theorem v_w4 : Valid Try.prog noGlobs 33 S_w4 := valid_ofu Try.func33 rfl (specs_ok (l := []) trivial) noK_sound (no_loops (by kernel_rfl)) (fun _ _ h => h)
noncomputable def S0_wishes : List LV → T LV := fun l => funu Try.prog noGlobs (specsOf [(29, S_w1), (30, S_w2), (32, S_w3), (33, S_w4)]) noK noLoops Try.f27 (canL l)
noncomputable def S_wishes : List LV → T LV := upS Try.prog Try.f27.params.toList S0_wishes
theorem v_wishes : Valid Try.prog noGlobs 27 S_wishes := valid_ofu Try.func27 rfl (specs_ok (l := [(29, S_w1), (30, S_w2), (32, S_w3), (33, S_w4)]) ⟨v_w1, v_w2, v_w3, v_w4, trivial⟩) noK_sound (no_loops (by kernel_rfl)) (fun _ _ h => h)
def S0_draw : List LV → T LV
  | [.xq 8 q0, .v (.int .i64 p2), .v (.int .i64 al)] => (match ([q0 0, q0 1, q0 2, q0 3, q0 4, q0 5, q0 6, q0 7] : List LV) with
    | [.v (.int .i64 k), .v (.int .i64 ph), .v (.int .i64 mx), .v (.int .i64 nd), .v (.int .i64 dl), .xl (.int .i64) pil, .v (.int .i64 tk), .v (.int .i64 got)] => .req (carB k ph mx nd dl = true ∧ mindB pil tk got = true ∧ 1 ≤ p2 ∧ p2 ≤ 7 ∧ 0 ≤ al) (.ok (.v (.tuple #[.int .i64 (dA k ph mx nd dl pil tk got p2 al), .int .i64 (dO k ph mx nd dl pil tk got p2 al)])))
    | _ => .no)
  | _ => .no
noncomputable def S_draw : List LV → T LV := upS Try.prog Try.f20.params.toList S0_draw
theorem nf_draw (k ph mx nd dl : Int) (pil : List Int) (tk got p2 al : Int) : funu Try.prog noGlobs (specsOf [(26, S_common), (27, S_wishes), (29, S_w1), (30, S_w2), (32, S_w3), (33, S_w4)]) noK noLoops Try.f20 [.xq 8 (fun j => ([.v (.int .i64 k), .v (.int .i64 ph), .v (.int .i64 mx), .v (.int .i64 nd), .v (.int .i64 dl), .xl (.int .i64) pil, .v (.int .i64 tk), .v (.int .i64 got)] : List LV).getD j .junk), .v (.int .i64 p2), .v (.int .i64 al)] = .br (((if k == 2 then andK .i64 (andK .i64 ph p2) (IntKind.i64.wrap (0 - (andK .i64 ph p2))) else andK .i64 ph p2) == 0) || (decide (got ≥ nd))) (.ok (.v (.tuple #[.int .i64 0, .int .i64 0]))) (.br (k == (0 : Int)) (.br ((if al < mx then al else mx) == 0) (.ok (.v (.tuple #[.int .i64 0, .int .i64 0]))) (.ok (.v (.tuple #[.int .i64 (if al < mx then al else mx), .int .i64 (if k == 2 then andK .i64 (andK .i64 ph p2) (IntKind.i64.wrap (0 - (andK .i64 ph p2))) else andK .i64 ph p2)])))) (.br (k == (2 : Int)) (.br ((if al < mx then al else mx) == 0) (.ok (.v (.tuple #[.int .i64 0, .int .i64 0]))) (.ok (.v (.tuple #[.int .i64 (if al < mx then al else mx), .int .i64 (if k == 2 then andK .i64 (andK .i64 ph p2) (IntKind.i64.wrap (0 - (andK .i64 ph p2))) else andK .i64 ph p2)])))) (.br (k == (1 : Int)) (.br (dl == 0) (.br ((if al < mx then al else mx) == 0) (.ok (.v (.tuple #[.int .i64 0, .int .i64 0]))) (.ok (.v (.tuple #[.int .i64 (if al < mx then al else mx), .int .i64 (if k == 2 then andK .i64 (andK .i64 ph p2) (IntKind.i64.wrap (0 - (andK .i64 ph p2))) else andK .i64 ph p2)])))) (.br (decide ((IntKind.i64.wrap (((List.length pil : Int)) - dl)) ≥ 0)) (.req (0 ≤ (IntKind.i64.wrap (((List.length pil : Int)) - dl)) ∧ (IntKind.i64.wrap (((List.length pil : Int)) - dl)) < (List.length pil : Int)) (.br ((if (if ((gi pil (IntKind.i64.wrap (((List.length pil : Int)) - dl)))) < al then (gi pil (IntKind.i64.wrap (((List.length pil : Int)) - dl))) else al) < mx then if ((gi pil (IntKind.i64.wrap (((List.length pil : Int)) - dl)))) < al then (gi pil (IntKind.i64.wrap (((List.length pil : Int)) - dl))) else al else mx) == 0) (.ok (.v (.tuple #[.int .i64 0, .int .i64 0]))) (.ok (.v (.tuple #[.int .i64 (if (if ((gi pil (IntKind.i64.wrap (((List.length pil : Int)) - dl)))) < al then (gi pil (IntKind.i64.wrap (((List.length pil : Int)) - dl))) else al) < mx then if ((gi pil (IntKind.i64.wrap (((List.length pil : Int)) - dl)))) < al then (gi pil (IntKind.i64.wrap (((List.length pil : Int)) - dl))) else al else mx), .int .i64 (if k == 2 then andK .i64 (andK .i64 ph p2) (IntKind.i64.wrap (0 - (andK .i64 ph p2))) else andK .i64 ph p2)]))))) (.br ((if (if (0 : Int) < al then 0 else al) < mx then if (0 : Int) < al then 0 else al else mx) == 0) (.ok (.v (.tuple #[.int .i64 0, .int .i64 0]))) (.ok (.v (.tuple #[.int .i64 (if (if (0 : Int) < al then 0 else al) < mx then if (0 : Int) < al then 0 else al else mx), .int .i64 (if k == 2 then andK .i64 (andK .i64 ph p2) (IntKind.i64.wrap (0 - (andK .i64 ph p2))) else andK .i64 ph p2)])))))) (.br (k == (3 : Int)) (.req (dl ≠ 0) (.req ((2 : Int) ≠ 0) (.br (((IntKind.i64.wrap (tk.tdiv dl)).tmod 2) == 1) (.br ((if (0 : Int) < mx then 0 else mx) == 0) (.ok (.v (.tuple #[.int .i64 0, .int .i64 0]))) (.ok (.v (.tuple #[.int .i64 (if (0 : Int) < mx then 0 else mx), .int .i64 (if k == 2 then andK .i64 (andK .i64 ph p2) (IntKind.i64.wrap (0 - (andK .i64 ph p2))) else andK .i64 ph p2)])))) (.br ((if al < mx then al else mx) == 0) (.ok (.v (.tuple #[.int .i64 0, .int .i64 0]))) (.ok (.v (.tuple #[.int .i64 (if al < mx then al else mx), .int .i64 (if k == 2 then andK .i64 (andK .i64 ph p2) (IntKind.i64.wrap (0 - (andK .i64 ph p2))) else andK .i64 ph p2)]))))))) (.br (k == (4 : Int)) (.br (al == 0) (.br ((if (0 : Int) < mx then 0 else mx) == 0) (.ok (.v (.tuple #[.int .i64 0, .int .i64 0]))) (.ok (.v (.tuple #[.int .i64 (if (0 : Int) < mx then 0 else mx), .int .i64 (if k == 2 then andK .i64 (andK .i64 ph p2) (IntKind.i64.wrap (0 - (andK .i64 ph p2))) else andK .i64 ph p2)])))) (.br ((if mx < mx then mx else mx) == 0) (.ok (.v (.tuple #[.int .i64 0, .int .i64 0]))) (.ok (.v (.tuple #[.int .i64 (if mx < mx then mx else mx), .int .i64 (if k == 2 then andK .i64 (andK .i64 ph p2) (IntKind.i64.wrap (0 - (andK .i64 ph p2))) else andK .i64 ph p2)]))))) (.no /- call of v -/)))))) := by kernel_rfl
set_option maxHeartbeats 2000000 in
theorem v_draw : Valid Try.prog noGlobs 20 S_draw := valid_ofu Try.func20 rfl (specs_ok (l := [(26, S_common), (27, S_wishes), (29, S_w1), (30, S_w2), (32, S_w3), (33, S_w4)]) ⟨v_common, v_wishes, v_w1, v_w2, v_w3, v_w4, trivial⟩) noK_sound (no_loops (by kernel_rfl)) (fun args lv h => by
  unfold S0_draw at h
  split at h
  · split at h
    case h_2 => cases h
    rename_i heq0
    simp only [canL, canX]
    rw [show (List.range 8).map _ = _ from heq0]
    rw [nf_draw]
    rename_i p2 al _ k ph mx nd dl pil tk got
    obtain ⟨⟨hc, hm, hp1, hp2, hal⟩, rfl⟩ := h
    have hc := carB_iff.1 hc
    have hm := mindB_iff.1 hm
    have hl := land_small (a := ph) (b := p2) ⟨by omega, by omega⟩ ⟨by omega, by omega⟩
    have e0 : (if (k == 2) = true then andK .i64 (andK .i64 ph p2) (IntKind.i64.wrap (0 - andK .i64 ph p2)) else andK .i64 ph p2) = cmn k ph p2 := by
      have hw : IntKind.i64.wrap (0 - andK .i64 ph p2) = - land ph p2 := by
        have : andK .i64 ph p2 = land ph p2 := rfl
        rw [this, wrapS (by omega) (by omega)]; omega
      rw [hw]
      unfold cmn land
      simp only [beq_iff_eq]
    have ew : IntKind.i64.wrap ((List.length pil : Int) - dl) = (List.length pil : Int) - dl := wrapS (by omega) (by omega)
    have et : IntKind.i64.wrap (tk.tdiv dl) = tk.tdiv dl := by
      rw [Int.tdiv_eq_ediv_of_nonneg (by omega)]
      have h1 : 0 ≤ tk / dl := Int.ediv_nonneg (by omega) (by omega)
      have h2 : tk / dl ≤ tk := Int.ediv_le_self _ (by omega)
      exact wrapS (by omega) (by omega)
    have hz : (cmn k ph p2 = 0 ∨ nd ≤ got) → dA k ph mx nd dl pil tk got p2 al = 0 := fun h => by unfold dA; rw [if_pos h]
    have hn : ¬ (cmn k ph p2 = 0 ∨ nd ≤ got) → dA k ph mx nd dl pil tk got p2 al = min mx (wish k dl tk mx pil al) := fun h => by unfold dA; rw [if_neg h]
    have w0 : k ≠ 1 → k ≠ 3 → k ≠ 4 → wish k dl tk mx pil al = al := fun h1 h2 h3 => by simp [wish, h1, h2, h3]
    have w1a : k = 1 → dl = 0 → wish k dl tk mx pil al = al := fun h1 h2 => by simp [wish, h1, h2]
    have w1b : k = 1 → dl ≠ 0 → 0 ≤ (List.length pil : Int) - dl → wish k dl tk mx pil al = min al (gi pil ((List.length pil : Int) - dl)) := fun h1 h2 h3 => by
      simp only [wish, h1, h2, if_true, if_false, ago, ge_iff_le]
      rw [if_pos h3]
      rfl
    have w1c : k = 1 → dl ≠ 0 → (List.length pil : Int) - dl < 0 → wish k dl tk mx pil al = min al 0 := fun h1 h2 h3 => by
      simp only [wish, h1, h2, if_true, if_false, ago, ge_iff_le]
      rw [if_neg (by omega)]
    have w3a : k = 3 → (tk.tdiv dl).tmod 2 = 1 → wish k dl tk mx pil al = 0 := fun h1 h2 => by simp [wish, h1, h2]
    have w3b : k = 3 → ¬ (tk.tdiv dl).tmod 2 = 1 → wish k dl tk mx pil al = al := fun h1 h2 => by simp [wish, h1, h2]
    have w4a : k = 4 → al = 0 → wish k dl tk mx pil al = 0 := fun h1 h2 => by simp [wish, h1, h2]
    have w4b : k = 4 → al ≠ 0 → wish k dl tk mx pil al = mx := fun h1 h2 => by simp [wish, h1, h2]
    have ho1 : dA k ph mx nd dl pil tk got p2 al = 0 → dO k ph mx nd dl pil tk got p2 al = 0 := fun h => by unfold dO; rw [if_pos h]
    have ho2 : dA k ph mx nd dl pil tk got p2 al ≠ 0 → dO k ph mx nd dl pil tk got p2 al = cmn k ph p2 := fun h => by unfold dO; rw [if_neg h]
    have fin : ∀ a o : Int, a = dA k ph mx nd dl pil tk got p2 al → o = dO k ph mx nd dl pil tk got p2 al → LV.v (.tuple #[.int .i64 a, .int .i64 o]) = LV.v (.tuple #[.int .i64 (dA k ph mx nd dl pil tk got p2 al), .int .i64 (dO k ph mx nd dl pil tk got p2 al)]) := fun a o h1 h2 => by rw [h1, h2]
    simp only [e0, ew, et]
    clear e0 ew hl et
    generalize dA k ph mx nd dl pil tk got p2 al = qA at *
    generalize dO k ph mx nd dl pil tk got p2 al = qO at *
    generalize wish k dl tk mx pil al = qw at *
    generalize cmn k ph p2 = qc at *
    generalize gi pil ((List.length pil : Int) - dl) = qg at *
    refine ⟨fun c1 => ?_, fun c1 => ?_⟩
    · simp only [beq_iff_eq, beq_eq_false_iff_ne, ne_eq, Bool.or_eq_true, Bool.or_eq_false_iff, decide_eq_true_eq, decide_eq_false_iff_not, ge_iff_le, Int.not_le] at *
      refine fin _ _ ?_ ?_ <;> (clear fin w0 w1a w1b w1c w3a w3b w4a w4b; omega)
    · refine ⟨fun c2 => ?_, fun c2 => ?_⟩
      · refine ⟨fun c3 => ?_, fun c3 => ?_⟩
        · simp only [beq_iff_eq, beq_eq_false_iff_ne, ne_eq, Bool.or_eq_true, Bool.or_eq_false_iff, decide_eq_true_eq, decide_eq_false_iff_not, ge_iff_le, Int.not_le] at *
          refine fin _ _ ?_ ?_ <;> (clear fin w1a w1b w1c w3a w3b w4a w4b; omega)
        · simp only [beq_iff_eq, beq_eq_false_iff_ne, ne_eq, Bool.or_eq_true, Bool.or_eq_false_iff, decide_eq_true_eq, decide_eq_false_iff_not, ge_iff_le, Int.not_le] at *
          refine fin _ _ ?_ ?_ <;> (clear fin w1a w1b w1c w3a w3b w4a w4b; omega)
      · refine ⟨fun c3 => ?_, fun c3 => ?_⟩
        · refine ⟨fun c4 => ?_, fun c4 => ?_⟩
          · simp only [beq_iff_eq, beq_eq_false_iff_ne, ne_eq, Bool.or_eq_true, Bool.or_eq_false_iff, decide_eq_true_eq, decide_eq_false_iff_not, ge_iff_le, Int.not_le] at *
            refine fin _ _ ?_ ?_ <;> (clear fin w1a w1b w1c w3a w3b w4a w4b; omega)
          · simp only [beq_iff_eq, beq_eq_false_iff_ne, ne_eq, Bool.or_eq_true, Bool.or_eq_false_iff, decide_eq_true_eq, decide_eq_false_iff_not, ge_iff_le, Int.not_le] at *
            refine fin _ _ ?_ ?_ <;> (clear fin w1a w1b w1c w3a w3b w4a w4b; omega)
        · refine ⟨fun c4 => ?_, fun c4 => ?_⟩
          · refine ⟨fun c5 => ?_, fun c5 => ?_⟩
            · refine ⟨fun c6 => ?_, fun c6 => ?_⟩
              · simp only [beq_iff_eq, beq_eq_false_iff_ne, ne_eq, Bool.or_eq_true, Bool.or_eq_false_iff, decide_eq_true_eq, decide_eq_false_iff_not, ge_iff_le, Int.not_le] at *
                refine fin _ _ ?_ ?_ <;> (clear fin w0 w3a w3b w4a w4b; omega)
              · simp only [beq_iff_eq, beq_eq_false_iff_ne, ne_eq, Bool.or_eq_true, Bool.or_eq_false_iff, decide_eq_true_eq, decide_eq_false_iff_not, ge_iff_le, Int.not_le] at *
                refine fin _ _ ?_ ?_ <;> (clear fin w0 w3a w3b w4a w4b; omega)
            · refine ⟨fun c6 => ?_, fun c6 => ?_⟩
              · refine ⟨?_, ?_⟩
                · simp only [beq_iff_eq, beq_eq_false_iff_ne, ne_eq, Bool.or_eq_true, Bool.or_eq_false_iff, decide_eq_true_eq, decide_eq_false_iff_not, ge_iff_le, Int.not_le] at *
                  (first | decide | (clear fin w0 w3a w3b w4a w4b; omega))
                · refine ⟨fun c7 => ?_, fun c7 => ?_⟩
                  · simp only [beq_iff_eq, beq_eq_false_iff_ne, ne_eq, Bool.or_eq_true, Bool.or_eq_false_iff, decide_eq_true_eq, decide_eq_false_iff_not, ge_iff_le, Int.not_le] at *
                    refine fin _ _ ?_ ?_ <;> (clear fin w0 w3a w3b w4a w4b; omega)
                  · simp only [beq_iff_eq, beq_eq_false_iff_ne, ne_eq, Bool.or_eq_true, Bool.or_eq_false_iff, decide_eq_true_eq, decide_eq_false_iff_not, ge_iff_le, Int.not_le] at *
                    refine fin _ _ ?_ ?_ <;> (clear fin w0 w3a w3b w4a w4b; omega)
              · refine ⟨fun c7 => ?_, fun c7 => ?_⟩
                · simp only [beq_iff_eq, beq_eq_false_iff_ne, ne_eq, Bool.or_eq_true, Bool.or_eq_false_iff, decide_eq_true_eq, decide_eq_false_iff_not, ge_iff_le, Int.not_le] at *
                  refine fin _ _ ?_ ?_ <;> (clear fin w0 w3a w3b w4a w4b; omega)
                · simp only [beq_iff_eq, beq_eq_false_iff_ne, ne_eq, Bool.or_eq_true, Bool.or_eq_false_iff, decide_eq_true_eq, decide_eq_false_iff_not, ge_iff_le, Int.not_le] at *
                  refine fin _ _ ?_ ?_ <;> (clear fin w0 w3a w3b w4a w4b; omega)
          · refine ⟨fun c5 => ?_, fun c5 => ?_⟩
            · refine ⟨?_, ?_⟩
              · simp only [beq_iff_eq, beq_eq_false_iff_ne, ne_eq, Bool.or_eq_true, Bool.or_eq_false_iff, decide_eq_true_eq, decide_eq_false_iff_not, ge_iff_le, Int.not_le] at *
                (first | decide | (clear fin w0 w1a w1b w1c w4a w4b; omega))
              · refine ⟨?_, ?_⟩
                · simp only [beq_iff_eq, beq_eq_false_iff_ne, ne_eq, Bool.or_eq_true, Bool.or_eq_false_iff, decide_eq_true_eq, decide_eq_false_iff_not, ge_iff_le, Int.not_le] at *
                  (first | decide | (clear fin w0 w1a w1b w1c w4a w4b; omega))
                · refine ⟨fun c6 => ?_, fun c6 => ?_⟩
                  · refine ⟨fun c7 => ?_, fun c7 => ?_⟩
                    · simp only [beq_iff_eq, beq_eq_false_iff_ne, ne_eq, Bool.or_eq_true, Bool.or_eq_false_iff, decide_eq_true_eq, decide_eq_false_iff_not, ge_iff_le, Int.not_le] at *
                      refine fin _ _ ?_ ?_ <;> (clear fin w0 w1a w1b w1c w4a w4b; omega)
                    · simp only [beq_iff_eq, beq_eq_false_iff_ne, ne_eq, Bool.or_eq_true, Bool.or_eq_false_iff, decide_eq_true_eq, decide_eq_false_iff_not, ge_iff_le, Int.not_le] at *
                      refine fin _ _ ?_ ?_ <;> (clear fin w0 w1a w1b w1c w4a w4b; omega)
                  · refine ⟨fun c7 => ?_, fun c7 => ?_⟩
                    · simp only [beq_iff_eq, beq_eq_false_iff_ne, ne_eq, Bool.or_eq_true, Bool.or_eq_false_iff, decide_eq_true_eq, decide_eq_false_iff_not, ge_iff_le, Int.not_le] at *
                      refine fin _ _ ?_ ?_ <;> (clear fin w0 w1a w1b w1c w4a w4b; omega)
                    · simp only [beq_iff_eq, beq_eq_false_iff_ne, ne_eq, Bool.or_eq_true, Bool.or_eq_false_iff, decide_eq_true_eq, decide_eq_false_iff_not, ge_iff_le, Int.not_le] at *
                      refine fin _ _ ?_ ?_ <;> (clear fin w0 w1a w1b w1c w4a w4b; omega)
            · refine ⟨fun c6 => ?_, fun c6 => ?_⟩
              · refine ⟨fun c7 => ?_, fun c7 => ?_⟩
                · refine ⟨fun c8 => ?_, fun c8 => ?_⟩
                  · simp only [beq_iff_eq, beq_eq_false_iff_ne, ne_eq, Bool.or_eq_true, Bool.or_eq_false_iff, decide_eq_true_eq, decide_eq_false_iff_not, ge_iff_le, Int.not_le] at *
                    refine fin _ _ ?_ ?_ <;> (clear fin w0 w1a w1b w1c w3a w3b; omega)
                  · simp only [beq_iff_eq, beq_eq_false_iff_ne, ne_eq, Bool.or_eq_true, Bool.or_eq_false_iff, decide_eq_true_eq, decide_eq_false_iff_not, ge_iff_le, Int.not_le] at *
                    refine fin _ _ ?_ ?_ <;> (clear fin w0 w1a w1b w1c w3a w3b; omega)
                · refine ⟨fun c8 => ?_, fun c8 => ?_⟩
                  · simp only [beq_iff_eq, beq_eq_false_iff_ne, ne_eq, Bool.or_eq_true, Bool.or_eq_false_iff, decide_eq_true_eq, decide_eq_false_iff_not, ge_iff_le, Int.not_le] at *
                    refine fin _ _ ?_ ?_ <;> (clear fin w0 w1a w1b w1c w3a w3b; omega)
                  · simp only [beq_iff_eq, beq_eq_false_iff_ne, ne_eq, Bool.or_eq_true, Bool.or_eq_false_iff, decide_eq_true_eq, decide_eq_false_iff_not, ge_iff_le, Int.not_le] at *
                    refine fin _ _ ?_ ?_ <;> (clear fin w0 w1a w1b w1c w3a w3b; omega)
              · exfalso
                simp only [beq_iff_eq, beq_eq_false_iff_ne, ne_eq, Bool.or_eq_true, Bool.or_eq_false_iff, decide_eq_true_eq, decide_eq_false_iff_not, ge_iff_le, Int.not_le] at *
                clear fin hz hn ho1 ho2 w0 w1a w1b w1c w3a w3b w4a w4b
                omega
  · cases h)
def S0_remember : List LV → T LV
  | [.xq 8 q0, .v (.int .i64 al), .v (.int .i64 am), .v (.int .i64 on)] => (match ([q0 0, q0 1, q0 2, q0 3, q0 4, q0 5, q0 6, q0 7] : List LV) with
    | [.v (.int .i64 k), .v (.int .i64 ph), .v (.int .i64 mx), .v (.int .i64 nd), .v (.int .i64 dl), .xl (.int .i64) pil, .v (.int .i64 tk), .v (.int .i64 got)] => .req (mindB pil tk got = true ∧ 0 ≤ am ∧ am ≤ 80 ∧ 0 ≤ on ∧ on ≤ 7) (.ok (.agg [.xl (.int .i64) (dP pil al), .v (.int .i64 (tk + 1)), .v (.int .i64 (got + 2300 * am * cnt on))]))
    | _ => .no)
  | _ => .no
noncomputable def S_remember : List LV → T LV := upS Try.prog Try.f21.params.toList S0_remember
theorem nf_remember (k ph mx nd dl : Int) (pil : List Int) (tk got al am on : Int) : funu Try.prog noGlobs (specsOf [(28, S_ones)]) noK noLoops Try.f21 [.xq 8 (fun j => ([.v (.int .i64 k), .v (.int .i64 ph), .v (.int .i64 mx), .v (.int .i64 nd), .v (.int .i64 dl), .xl (.int .i64) pil, .v (.int .i64 tk), .v (.int .i64 got)] : List LV).getD j .junk), .v (.int .i64 al), .v (.int .i64 am), .v (.int .i64 on)] = .req (0 ≤ (0 : Int) ∧ (0 : Int) ≤ (IntKind.i64.wrap (((List.length pil : Int)) + 1)) ∧ 8 * (IntKind.i64.wrap (((List.length pil : Int)) + 1)) ≤ 2 ^ 48 ∧ (IntKind.i64.wrap (((List.length pil : Int)) + 1)) < 2 ^ 63) (.req (0 + ((0 : Int).toNat) = List.length (List.replicate (0 : Int).toNat ((0 : Int))) ∧ (((0 : Int).toNat + List.length pil : Nat) : Int) * 8 ≤ 2 ^ 47 ∧ (((0 : Int).toNat + List.length pil : Nat) : Int) < 2 ^ 62) (.req (0 + ((0 : Int).toNat + List.length pil) = List.length ((List.replicate (0 : Int).toNat ((0 : Int))) ++ pil) ∧ (((0 : Int).toNat + List.length pil + List.length ([al]) : Nat) : Int) * 8 ≤ 2 ^ 47 ∧ (((0 : Int).toNat + List.length pil + List.length ([al]) : Nat) : Int) < 2 ^ 62) (.br (decide (((((0 : Int).toNat + List.length pil + List.length ([al]) : Nat) : Int)) > 21)) (.req (0 ≤ (IntKind.i64.wrap (((((0 : Int).toNat + List.length pil + List.length ([al]) : Nat) : Int)) - 21)) ∧ (IntKind.i64.wrap (((((0 : Int).toNat + List.length pil + List.length ([al]) : Nat) : Int)) - 21)) ≤ ((((0 : Int).toNat + List.length pil + List.length ([al]) : Nat) : Int)) ∧ ((((0 : Int).toNat + List.length pil + List.length ([al]) : Nat) : Int)) ≤ (((0 : Int).toNat + List.length pil + List.length ([al]) : Nat) : Int)) (.req (0 ≤ (IntKind.u64.wrap on) ∧ (IntKind.u64.wrap on) ≤ 7) (.req ((0 + (IntKind.i64.wrap (((((0 : Int).toNat + List.length pil + List.length ([al]) : Nat) : Int)) - 21)).toNat) + (((((0 : Int).toNat + List.length pil + List.length ([al]) : Nat) : Int)).toNat - (IntKind.i64.wrap (((((0 : Int).toNat + List.length pil + List.length ([al]) : Nat) : Int)) - 21)).toNat) ≤ List.length (((List.replicate (0 : Int).toNat ((0 : Int))) ++ pil) ++ ([al]))) (.ok (.agg [.xl (.int .i64) (((((List.replicate (0 : Int).toNat ((0 : Int))) ++ pil) ++ ([al])).drop (0 + (IntKind.i64.wrap (((((0 : Int).toNat + List.length pil + List.length ([al]) : Nat) : Int)) - 21)).toNat)).take (((((0 : Int).toNat + List.length pil + List.length ([al]) : Nat) : Int)).toNat - (IntKind.i64.wrap (((((0 : Int).toNat + List.length pil + List.length ([al]) : Nat) : Int)) - 21)).toNat)), .v (.int .i64 (IntKind.i64.wrap (tk + 1))), .v (.int .i64 (IntKind.i64.wrap (got + (IntKind.i64.wrap ((IntKind.i64.wrap (2300 * am)) * (cnt (IntKind.u64.wrap on)))))))]))))) (.req (0 ≤ (IntKind.u64.wrap on) ∧ (IntKind.u64.wrap on) ≤ 7) (.req (0 + ((0 : Int).toNat + List.length pil + List.length ([al])) ≤ List.length (((List.replicate (0 : Int).toNat ((0 : Int))) ++ pil) ++ ([al]))) (.ok (.agg [.xl (.int .i64) (((((List.replicate (0 : Int).toNat ((0 : Int))) ++ pil) ++ ([al])).drop 0).take ((0 : Int).toNat + List.length pil + List.length ([al]))), .v (.int .i64 (IntKind.i64.wrap (tk + 1))), .v (.int .i64 (IntKind.i64.wrap (got + (IntKind.i64.wrap ((IntKind.i64.wrap (2300 * am)) * (cnt (IntKind.u64.wrap on)))))))]))))))) := by kernel_rfl
theorem v_remember : Valid Try.prog noGlobs 21 S_remember := valid_ofu Try.func21 rfl (specs_ok (l := [(28, S_ones)]) ⟨v_ones, trivial⟩) noK_sound (no_loops (by kernel_rfl)) (fun args lv h => by
  unfold S0_remember at h
  split at h
  · split at h
    case h_2 => cases h
    rename_i heq0
    simp only [canL, canX]
    rw [show (List.range 8).map _ = _ from heq0]
    rw [nf_remember]
    rename_i al am on _ k ph mx nd dl pil tk got
    obtain ⟨⟨hm, ha1, ha2, ho1, ho2⟩, rfl⟩ := h
    have hm := mindB_iff.1 hm
    have hu : IntKind.u64.wrap on = on := by simp [IntKind.wrap, IntKind.bits, IntKind.signed]; omega
    have ht : IntKind.i64.wrap (tk + 1) = tk + 1 := wrapS (by omega) (by omega)
    have hcn : 0 ≤ cnt on ∧ cnt on ≤ 3 := by unfold cnt; omega
    have hg : IntKind.i64.wrap (got + IntKind.i64.wrap (IntKind.i64.wrap (2300 * am) * cnt on)) = got + 2300 * am * cnt on := by
      rw [wrapS (x := 2300 * am) (by omega) (by omega)]
      have : cnt on = 0 ∨ cnt on = 1 ∨ cnt on = 2 ∨ cnt on = 3 := by omega
      rcases this with e | e | e | e <;> rw [e, wrapS (x := 2300 * am * _) (by omega) (by omega), wrapS (by omega) (by omega)]
    have h0 : (0 : Int).toNat = 0 := rfl
    have hw1 : IntKind.i64.wrap ((List.length pil : Int) + 1) = (List.length pil : Int) + 1 := wrapS (by omega) (by omega)
    have hw2 : IntKind.i64.wrap (((List.length pil + 1 : Nat) : Int) - 21) = (List.length pil : Int) - 20 := by rw [wrapS (by omega) (by omega)]; omega
    have fin : ∀ (p : List Int), p = dP pil al → LV.agg [.xl (.int .i64) p, .v (.int .i64 (tk + 1)), .v (.int .i64 (got + 2300 * am * cnt on))] = LV.agg [.xl (.int .i64) (dP pil al), .v (.int .i64 (tk + 1)), .v (.int .i64 (got + 2300 * am * cnt on))] := fun p h => by rw [h]
    simp only [h0, List.replicate_zero, List.nil_append, List.length_append, List.length_cons, List.length_nil, Nat.zero_add, hu, ht, hg, hw1, hw2]
    refine ⟨?_, ?_⟩
    · (try simp only [decide_eq_true_eq, decide_eq_false_iff_not] at c1); first | omega | (simp; done) | (simp; omega)
    · refine ⟨?_, ?_⟩
      · (try simp only [decide_eq_true_eq, decide_eq_false_iff_not] at c1); first | omega | (simp; done) | (simp; omega)
      · refine ⟨?_, ?_⟩
        · (try simp only [decide_eq_true_eq, decide_eq_false_iff_not] at c1); first | omega | (simp; done) | (simp; omega)
        · refine ⟨fun c1 => ?_, fun c1 => ?_⟩
          · refine ⟨?_, ?_⟩
            · (try simp only [decide_eq_true_eq, decide_eq_false_iff_not] at c1); first | omega | (simp; done) | (simp; omega)
            · refine ⟨?_, ?_⟩
              · (try simp only [decide_eq_true_eq, decide_eq_false_iff_not] at c1); first | omega | (simp; done) | (simp; omega)
              · refine ⟨?_, ?_⟩
                · (try simp only [decide_eq_true_eq, decide_eq_false_iff_not] at c1); first | omega | (simp; done) | (simp; omega)
                · refine fin _ ?_
                  unfold dP
                  simp only [decide_eq_true_eq, decide_eq_false_iff_not] at c1
                  rw [show ((List.length pil : Int) - 20).toNat = List.length pil - 20 by omega]
                  exact List.take_of_length_le (by rw [List.length_drop, List.length_append]; simp only [List.length_cons, List.length_nil]; omega)
          · refine ⟨?_, ?_⟩
            · (try simp only [decide_eq_true_eq, decide_eq_false_iff_not] at c1); first | omega | (simp; done) | (simp; omega)
            · refine ⟨?_, ?_⟩
              · (try simp only [decide_eq_true_eq, decide_eq_false_iff_not] at c1); first | omega | (simp; done) | (simp; omega)
              · refine fin _ ?_
                unfold dP
                simp only [decide_eq_true_eq, decide_eq_false_iff_not] at c1
                rw [show List.length pil - 20 = 0 by omega]
                exact List.take_of_length_le (by rw [List.length_drop, List.length_append]; simp only [List.length_cons, List.length_nil]; omega)
  · cases h)
def S0_drw : List LV → T LV
  | [.v (.agg ⟨[.int .i64 k, .int .i64 ph, .int .i64 mx, .int .i64 nd, .int .i64 dl]⟩), .agg [.xl (.int .i64) pil, .v (.int .i64 tk), .v (.int .i64 got)], .v (.int .i64 p2), .v (.int .i64 al)] => .br (drB k ph mx nd dl pil tk got p2 al) (.ok (.tup [.v (.int .i64 (dA k ph mx nd dl pil tk got p2 al)), .v (.int .i64 (dO k ph mx nd dl pil tk got p2 al)), .agg [.xl (.int .i64) (dP pil al), .v (.int .i64 (tk + 1)), .v (.int .i64 (dG k ph mx nd dl pil tk got p2 al))], .v (.int .i64 0)])) (.ok (.tup [.v (.int .i64 0), .v (.int .i64 0), .agg [.xl (.int .i64) ([] : List Int), .v (.int .i64 0), .v (.int .i64 0)], .v (.int .i64 1)]))
  | _ => .no
noncomputable def S_drw : List LV → T LV := upS Try.prog Try.f11.params.toList S0_drw
theorem nf_drw (k ph mx nd dl : Int) (pil : List Int) (tk got p2 al : Int) : funu Try.prog noGlobs (specsOf [(17, S_valid), (18, S_vmd), (19, S_inside), (20, S_draw), (21, S_remember)]) noK noLoops Try.f11 [.v (.agg #[.int .i64 k, .int .i64 ph, .int .i64 mx, .int .i64 nd, .int .i64 dl]), .agg [.xl (.int .i64) pil, .v (.int .i64 tk), .v (.int .i64 got)], .v (.int .i64 p2), .v (.int .i64 al)] = .br ((!(carB k ph mx nd dl)) || ((!(mindB pil tk got)) || ((!(inB p2 (1 : Int) (7 : Int))) || ((!(inB al (0 : Int) (80 : Int))) || (tk == 1000000))))) (.ok (.tup [.v (.int .i64 0), .v (.int .i64 0), .agg [.xl (.int .i64) ([] : List Int), .v (.int .i64 0), .v (.int .i64 0)], .v (.int .i64 1)])) (.req (carB k ph mx nd dl = true ∧ mindB pil tk got = true ∧ 1 ≤ p2 ∧ p2 ≤ 7 ∧ 0 ≤ al) (.req (mindB pil tk got = true ∧ 0 ≤ (dA k ph mx nd dl pil tk got p2 al) ∧ (dA k ph mx nd dl pil tk got p2 al) ≤ 80 ∧ 0 ≤ (dO k ph mx nd dl pil tk got p2 al) ∧ (dO k ph mx nd dl pil tk got p2 al) ≤ 7) (.ok (.tup [.v (.int .i64 (dA k ph mx nd dl pil tk got p2 al)), .v (.int .i64 (dO k ph mx nd dl pil tk got p2 al)), .agg [.xl (.int .i64) (dP pil al), .v (.int .i64 (tk + 1)), .v (.int .i64 (got + 2300 * (dA k ph mx nd dl pil tk got p2 al) * cnt (dO k ph mx nd dl pil tk got p2 al)))], .v (.int .i64 0)])))) := by kernel_rfl
theorem v_drw : Valid Try.prog noGlobs 11 S_drw := valid_ofu Try.func11 rfl (specs_ok (l := [(17, S_valid), (18, S_vmd), (19, S_inside), (20, S_draw), (21, S_remember)]) ⟨v_valid, v_vmd, v_inside, v_draw, v_remember, trivial⟩) noK_sound (no_loops (by kernel_rfl)) (fun args lv h => by
  unfold S0_drw at h
  split at h
  · simp only [canL, canX]
    rw [nf_drw]
    rename_i k ph mx nd dl pil tk got p2 al
    have e : ((!(carB k ph mx nd dl)) || ((!(mindB pil tk got)) || ((!(inB p2 (1 : Int) (7 : Int))) || ((!(inB al (0 : Int) (80 : Int))) || (tk == 1000000))))) = !(drB k ph mx nd dl pil tk got p2 al) := by simp [drB, bne]
    rw [e]
    refine ⟨fun c1 => h.2 (by simpa using c1), fun c1 => ?_⟩
    have hB : drB k ph mx nd dl pil tk got p2 al = true := by simpa using c1
    have h := h.1 hB
    obtain ⟨hc, hm, h1, h2, h3, h4, h5⟩ := drB_iff.1 hB
    obtain ⟨b1, b2, b3, b4⟩ := dA_bound (pil := pil) (tk := tk) (got := got) (nd := nd) hc hm ⟨h1, h2⟩ ⟨h3, h4⟩
    exact ⟨⟨hc, hm, h1, h2, h3⟩, ⟨hm, b1, by have := carB_iff.1 hc; omega, b3, b4⟩, h⟩
  · cases h)
end Go.Proofs.Ytakkjfldfghfcaa
