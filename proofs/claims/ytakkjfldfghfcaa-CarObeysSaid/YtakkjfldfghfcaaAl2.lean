/- CarObeys: what it computes. -/
import Derived.Test.YtakkjfldfghfcaaAq
namespace Go.Proofs.Ytakkjfldfghfcaa
open Go.Sx
theorem obeys {k ph mx nd dl : Int} {pil : List Int} {tk got p2 al : Int} (hB : drB k ph mx nd dl pil tk got p2 al = true) :
    0 ≤ dA k ph mx nd dl pil tk got p2 al ∧ dA k ph mx nd dl pil tk got p2 al ≤ mx ∧ 0 ≤ dO k ph mx nd dl pil tk got p2 al ∧ andK .i64 (dO k ph mx nd dl pil tk got p2 al) ph = dO k ph mx nd dl pil tk got p2 al ∧ andK .i64 (dO k ph mx nd dl pil tk got p2 al) p2 = dO k ph mx nd dl pil tk got p2 al ∧ (k ≠ 4 → dA k ph mx nd dl pil tk got p2 al ≤ al) ∧ (al ≤ 0 → dA k ph mx nd dl pil tk got p2 al = 0) ∧ (0 < dA k ph mx nd dl pil tk got p2 al ↔ 0 < dO k ph mx nd dl pil tk got p2 al) := by
  obtain ⟨hc, hm, h1, h2, h3, h4, h5⟩ := drB_iff.1 hB
  obtain ⟨b1, b2, b3, b4⟩ := dA_bound (pil := pil) (tk := tk) (got := got) (nd := nd) hc hm ⟨h1, h2⟩ ⟨h3, h4⟩
  have hc' := carB_iff.1 hc
  have hm' := mindB_iff.1 hm
  have hag := ago_bound (dl := dl) hm'.2.2.2.2.2
  have hs := cmn_small (k := k) (ph := ph) (p2 := p2) ⟨by omega, by omega⟩ ⟨h1, h2⟩
  have hO : dO k ph mx nd dl pil tk got p2 al = 0 ∨ dO k ph mx nd dl pil tk got p2 al = cmn k ph p2 := by unfold dO; split <;> simp
  have z1 : ∀ x : Int, 0 ≤ x → x ≤ 7 → andK .i64 0 x = 0 := fun x a b => by
    rcases eight a b with rfl | rfl | rfl | rfl | rfl | rfl | rfl | rfl <;> decide
  have hw : k ≠ 4 → wish k dl tk mx pil al ≤ al := fun hk => by
    unfold wish
    repeat' split
    all_goals omega
  have hw0 : al ≤ 0 → wish k dl tk mx pil al = 0 := fun ha => by
    have : al = 0 := by omega
    subst this
    unfold wish
    repeat' split
    all_goals omega
  refine ⟨b1, b2, b3, ?_, ?_, fun hk => ?_, fun ha => ?_, ?_⟩
  · rcases hO with e | e <;> rw [e]
    · exact z1 ph (by omega) (by omega)
    · exact hs.2.2.1
  · rcases hO with e | e <;> rw [e]
    · exact z1 p2 (by omega) (by omega)
    · exact hs.2.2.2
  · have := hw hk
    unfold dA; split <;> omega
  · have := hw0 ha
    unfold dA; split <;> omega
  · by_cases e : dA k ph mx nd dl pil tk got p2 al = 0
    · have : dO k ph mx nd dl pil tk got p2 al = 0 := by unfold dO; rw [if_pos e]
      omega
    · have : dO k ph mx nd dl pil tk got p2 al = cmn k ph p2 := by unfold dO; rw [if_neg e]
      have : cmn k ph p2 ≠ 0 := fun h0 => e (by unfold dA; rw [if_pos (.inl h0)])
      omega
def S0_l2 : List LV → T LV
  | [.v (.agg ⟨[.int .i64 k, .int .i64 ph, .int .i64 mx, .int .i64 nd, .int .i64 dl]⟩), .agg [.xl (.int .i64) pil, .v (.int .i64 tk), .v (.int .i64 got)], .v (.int .i64 p2), .v (.int .i64 al)] => .ok (.v (.bool true))
  | _ => .no
noncomputable def S_l2 : List LV → T LV := upS Try.prog Try.f4.params.toList S0_l2
theorem nf_l2 (k ph mx nd dl : Int) (pil : List Int) (tk got p2 al : Int) : funu Try.prog noGlobs (specsOf [(10, S_head), (11, S_drw)]) noK noLoops Try.f4 [.v (.agg #[.int .i64 k, .int .i64 ph, .int .i64 mx, .int .i64 nd, .int .i64 dl]), .agg [.xl (.int .i64) pil, .v (.int .i64 tk), .v (.int .i64 got)], .v (.int .i64 p2), .v (.int .i64 al)] = .br (drB k ph mx nd dl pil tk got p2 al) (.br ((0 : Int) != 0) (.ok (.v (.bool (true && (((dA k ph mx nd dl pil tk got p2 al) == 0) && ((dO k ph mx nd dl pil tk got p2 al) == 0)))))) (.ok (.v (.bool (true && ((decide ((dA k ph mx nd dl pil tk got p2 al) ≥ 0)) && ((decide ((dA k ph mx nd dl pil tk got p2 al) ≤ mx)) && ((decide ((dO k ph mx nd dl pil tk got p2 al) ≥ 0)) && (((andK .i64 (dO k ph mx nd dl pil tk got p2 al) ph) == (dO k ph mx nd dl pil tk got p2 al)) && (((andK .i64 (dO k ph mx nd dl pil tk got p2 al) p2) == (dO k ph mx nd dl pil tk got p2 al)) && (if decide ((dA k ph mx nd dl pil tk got p2 al) ≤ al) then if decide (al > 0) then (decide ((dA k ph mx nd dl pil tk got p2 al) > 0)) == (decide ((dO k ph mx nd dl pil tk got p2 al) > 0)) else ((dA k ph mx nd dl pil tk got p2 al) == 0) && ((decide ((dA k ph mx nd dl pil tk got p2 al) > 0)) == (decide ((dO k ph mx nd dl pil tk got p2 al) > 0))) else (k == 4) && (if decide (al > 0) then (decide ((dA k ph mx nd dl pil tk got p2 al) > 0)) == (decide ((dO k ph mx nd dl pil tk got p2 al) > 0)) else ((dA k ph mx nd dl pil tk got p2 al) == 0) && ((decide ((dA k ph mx nd dl pil tk got p2 al) > 0)) == (decide ((dO k ph mx nd dl pil tk got p2 al) > 0))))))))))))))) (.br ((1 : Int) != 0) (.ok (.v (.bool (true && (((0 : Int) == 0) && ((0 : Int) == 0)))))) (.ok (.v (.bool (true && ((decide ((0 : Int) ≥ 0)) && ((decide ((0 : Int) ≤ mx)) && ((decide ((0 : Int) ≥ 0)) && (((andK .i64 0 ph) == 0) && (((andK .i64 0 p2) == 0) && (if decide ((0 : Int) ≤ al) then if decide (al > 0) then (decide ((0 : Int) > 0)) == (decide ((0 : Int) > 0)) else ((0 : Int) == 0) && ((decide ((0 : Int) > 0)) == (decide ((0 : Int) > 0))) else (k == 4) && (if decide (al > 0) then (decide ((0 : Int) > 0)) == (decide ((0 : Int) > 0)) else ((0 : Int) == 0) && ((decide ((0 : Int) > 0)) == (decide ((0 : Int) > 0))))))))))))))) := by kernel_rfl
theorem v_l2 : Valid Try.prog noGlobs 4 S_l2 := valid_ofu Try.func4 rfl (specs_ok (l := [(10, S_head), (11, S_drw)]) ⟨v_head, v_drw, trivial⟩) noK_sound (no_loops (by kernel_rfl)) (fun args lv h => by
  unfold S0_l2 at h
  split at h
  · simp only [canL, canX]
    rw [nf_l2]
    rename_i k ph mx nd dl pil tk got p2 al
    obtain rfl := h
    refine ⟨fun hB => ⟨fun c => by simp at c, fun _ => ?_⟩, fun hB => ⟨fun _ => rfl, fun c => by simp at c⟩⟩
    obtain ⟨a1, a2, a3, a4, a5, a6, a7, a8⟩ := obeys hB
    refine congrArg (fun z => LV.v (.bool z)) ?_
    rw [a4, a5]
    generalize dA k ph mx nd dl pil tk got p2 al = qA at *
    generalize dO k ph mx nd dl pil tk got p2 al = qO at *
    by_cases hk : k = 4 <;> by_cases hal : al > 0 <;> by_cases hq : qA ≤ al <;> simp [hk, hal, hq, a1, a2, a3] <;> simp [hk] at a6 <;> omega
  · cases h)
end Go.Proofs.Ytakkjfldfghfcaa
