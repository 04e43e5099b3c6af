/- CarKinds: what it computes. -/
import Derived.Test.YtakkjfldfghfcaaAq
namespace Go.Proofs.Ytakkjfldfghfcaa
open Go.Sx
theorem cmn_less {k ph p2 : Int} (h1 : 1 ≤ ph ∧ ph ≤ 7) (h2 : 1 ≤ p2 ∧ p2 ≤ 7) : cnt (cmn k ph p2) ≤ cnt (cmn 0 ph p2) ∧ (cmn 0 ph p2 = 0 → cmn k ph p2 = 0) := by
  have key : ∀ x y : Fin 8, cnt (land (land x.val y.val) (-land x.val y.val)) ≤ cnt (land x.val y.val) ∧ (land x.val y.val = 0 → land (land x.val y.val) (-land x.val y.val) = 0) := by decide +kernel
  have := key ⟨ph.toNat, by omega⟩ ⟨p2.toNat, by omega⟩
  simp only [Int.toNat_of_nonneg (show 0 ≤ ph by omega), Int.toNat_of_nonneg (show 0 ≤ p2 by omega)] at this
  unfold cmn
  by_cases hk : k = 2
  · simp only [hk, if_true]
    simpa using this
  · simp [hk]
theorem kinds {k ph mx nd dl : Int} {pil : List Int} {tk got p2 al : Int} (hB : drB k ph mx nd dl pil tk got p2 al = true) (hk : k ≠ 4) : drB 0 ph mx nd dl pil tk got p2 al = true ∧ dG k ph mx nd dl pil tk got p2 al ≤ dG 0 ph mx nd dl pil tk got p2 al := by
  obtain ⟨hc, hm, h1, h2, h3, h4, h5⟩ := drB_iff.1 hB
  have hc' := carB_iff.1 hc
  have hc0 : carB 0 ph mx nd dl = true := carB_iff.2 ⟨by omega, by omega, by omega, by omega, by omega, by omega, by omega, by omega, by omega, by omega, fun h => by omega⟩
  have hB0 : drB 0 ph mx nd dl pil tk got p2 al = true := drB_iff.2 ⟨hc0, hm, h1, h2, h3, h4, h5⟩
  refine ⟨hB0, ?_⟩
  obtain ⟨b1, b2, b3, b4⟩ := dA_bound (pil := pil) (tk := tk) (got := got) (nd := nd) hc hm ⟨h1, h2⟩ ⟨h3, h4⟩
  obtain ⟨l1, l2⟩ := cmn_less (k := k) (ph := ph) (p2 := p2) ⟨by omega, by omega⟩ ⟨h1, h2⟩
  have hm' := mindB_iff.1 hm
  have hw : wish k dl tk mx pil al ≤ al := by
    unfold wish
    repeat' split
    all_goals omega
  have hw0 : wish 0 dl tk mx pil al = al := by simp [wish]
  by_cases e : dA k ph mx nd dl pil tk got p2 al = 0
  · have e0 : 0 ≤ dA 0 ph mx nd dl pil tk got p2 al := (dA_bound (pil := pil) (tk := tk) (got := got) (nd := nd) hc0 hm ⟨h1, h2⟩ ⟨h3, h4⟩).1
    have := Int.mul_nonneg e0 (cnt_small (n := dO 0 ph mx nd dl pil tk got p2 al)).1
    unfold dG
    simp only [e, Int.mul_assoc]
    omega
  · have hn : ¬ (cmn k ph p2 = 0 ∨ got ≥ nd) := fun h => e (by unfold dA; rw [if_pos h])
    have hn0 : ¬ (cmn 0 ph p2 = 0 ∨ got ≥ nd) := fun h => hn (h.elim (fun h => .inl (l2 h)) .inr)
    have e1 : dA k ph mx nd dl pil tk got p2 al = min mx (wish k dl tk mx pil al) := by unfold dA; rw [if_neg hn]
    have e2 : dA 0 ph mx nd dl pil tk got p2 al = min mx al := by unfold dA; rw [if_neg hn0, hw0]
    have o1 : dO k ph mx nd dl pil tk got p2 al = cmn k ph p2 := by unfold dO; rw [if_neg e]
    have o2 : dO 0 ph mx nd dl pil tk got p2 al = cmn 0 ph p2 := by unfold dO; rw [if_neg (by omega)]
    unfold dG
    rw [o1, o2]
    have := Int.mul_le_mul (show dA k ph mx nd dl pil tk got p2 al ≤ dA 0 ph mx nd dl pil tk got p2 al by omega) l1 (cnt_small).1 (by omega)
    simp only [Int.mul_assoc]
    omega
def S0_l6 : List LV → T LV
  | [.v (.agg ⟨[.int .i64 k, .int .i64 ph, .int .i64 mx, .int .i64 nd, .int .i64 dl]⟩), .agg [.xl (.int .i64) pil, .v (.int .i64 tk), .v (.int .i64 got)], .v (.int .i64 p2), .v (.int .i64 al)] => .ok (.v (.bool true))
  | _ => .no
noncomputable def S_l6 : List LV → T LV := upS Try.prog Try.f8.params.toList S0_l6
theorem nf_l6 (k ph mx nd dl : Int) (pil : List Int) (tk got p2 al : Int) : funu Try.prog noGlobs (specsOf [(10, S_head), (11, S_drw)]) noK noLoops Try.f8 [.v (.agg #[.int .i64 k, .int .i64 ph, .int .i64 mx, .int .i64 nd, .int .i64 dl]), .agg [.xl (.int .i64) pil, .v (.int .i64 tk), .v (.int .i64 got)], .v (.int .i64 p2), .v (.int .i64 al)] = .br (drB k ph mx nd dl pil tk got p2 al) (.br (((0 : Int) != 0) || (k == 4)) (.ok (.v (.bool true))) (.br (drB (0 : Int) ph mx nd dl pil tk got p2 al) (.ok (.v (.bool (true && (((0 : Int) == 0) && ((decide ((dG k ph mx nd dl pil tk got p2 al) ≤ (dG (0 : Int) ph mx nd dl pil tk got p2 al))) && ((tk + 1) == (tk + 1)))))))) (.ok (.v (.bool (true && (((1 : Int) == 0) && ((decide ((dG k ph mx nd dl pil tk got p2 al) ≤ 0)) && ((tk + 1) == 0))))))))) (.br (((1 : Int) != 0) || (k == 4)) (.ok (.v (.bool true))) (.br (drB (0 : Int) ph mx nd dl pil tk got p2 al) (.ok (.v (.bool (true && (((0 : Int) == 0) && ((decide ((0 : Int) ≤ (dG (0 : Int) ph mx nd dl pil tk got p2 al))) && ((0 : Int) == (tk + 1)))))))) (.ok (.v (.bool (true && (((1 : Int) == 0) && ((decide ((0 : Int) ≤ 0)) && ((0 : Int) == 0))))))))) := by kernel_rfl
theorem v_l6 : Valid Try.prog noGlobs 8 S_l6 := valid_ofu Try.func8 rfl (specs_ok (l := [(10, S_head), (11, S_drw)]) ⟨v_head, v_drw, trivial⟩) noK_sound (no_loops (by kernel_rfl)) (fun args lv h => by
  unfold S0_l6 at h
  split at h
  · simp only [canL, canX]
    rw [nf_l6]
    rename_i k ph mx nd dl pil tk got p2 al
    obtain rfl := h
    refine ⟨fun hB => ⟨fun _ => rfl, fun c => ?_⟩, fun hB => ⟨fun _ => rfl, fun c => by simp at c⟩⟩
    simp at c
    obtain ⟨a1, a2⟩ := kinds hB c
    refine ⟨fun _ => congrArg (fun z => LV.v (.bool z)) (by simp [a2]), fun h => ?_⟩
    rw [a1] at h; cases h
  · cases h)
end Go.Proofs.Ytakkjfldfghfcaa
