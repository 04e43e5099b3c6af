/- The premise of the laws: what it computes. -/
import Derived.Test.YtcpadfehoaopaaaBo
namespace Go.Proofs.Ytcpadfehoaopaaa
open Go.Sx
def S0_usab : List LV → T LV
  | [.xl (.pair (.int .i64) (.pair (.int .i64) (.pair (.int .i64) (.int .i64)))) l, .xl (.pair (.int .i64) (.int .i64)) a, .xl (.pair (.int .i64) (.int .i64)) b] => .ok (.v (.bool (vlC l && (vlV a && vlV b))))
  | _ => .no
noncomputable def S_usab : List LV → T LV := upS Try.prog Try.f22.params.toList S0_usab
theorem nf_usab (l : List (Int × (Int × (Int × Int)))) (a b : List (Int × Int)) : funu Try.prog noGlobs (specsOf [(11, S_few), (21, S_rvl), (24, S_rvo)]) noK noLoops Try.f22 [.xl tC l, .xl tV a, .xl tV b] = .br (decide ((List.length l : Int) ≤ 80) && (decide ((List.length a : Int) ≤ 80) && decide ((List.length b : Int) ≤ 80))) (.req ((List.length l : Int) ≤ 1000) (.br (vlC l) (.req ((List.length a : Int) ≤ 1000) (.br (vlV a) (.req ((List.length b : Int) ≤ 1000) (.ok (.v (.bool (vlV b))))) (.ok (.v (.bool false))))) (.ok (.v (.bool false))))) (.ok (.v (.bool false))) := by kernel_rfl
theorem v_usab : Valid Try.prog noGlobs 22 S_usab := valid_ofu Try.func22 rfl (specs_ok (l := [(11, S_few), (21, S_rvl), (24, S_rvo)]) ⟨v_few, v_rvl, v_rvo, trivial⟩) noK_sound (no_loops (by kernel_rfl)) (fun args lv h => by
  unfold S0_usab at h
  split at h
  · simp only [canL, canX]
    rw [nf_usab]
    rename_i l a b
    refine ⟨fun c => ?_, fun c => ?_⟩
    · simp only [Bool.and_eq_true, decide_eq_true_eq] at c
      refine ⟨by omega, fun c1 => ⟨by omega, fun c2 => ⟨by omega, by rw [c1, c2] at h; exact h⟩, fun c2 => by rw [c1, c2] at h; exact h⟩, fun c1 => by rw [c1] at h; exact h⟩
    · have e : (vlC l && (vlV a && vlV b)) = false := by
        cases q : (vlC l && (vlV a && vlV b)) with
        | false => rfl
        | true =>
          exfalso
          simp only [vlC, vlV, Bool.and_eq_true, decide_eq_true_eq] at q
          simp only [Bool.and_eq_false_iff, decide_eq_false_iff_not] at c
          omega
      rw [e] at h
      exact h
  · cases h)
end Go.Proofs.Ytcpadfehoaopaaa
