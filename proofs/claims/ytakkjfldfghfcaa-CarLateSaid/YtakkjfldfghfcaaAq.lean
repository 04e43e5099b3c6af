/- The examples: what they compute, by the executor. -/
import Derived.Test.YtakkjfldfghfcaaAj
namespace Go.Proofs.Ytakkjfldfghfcaa
open Go.Sx
def S0_head : List LV → T LV
  | [] => .ok (.v (.bool true))
  | _ => .no
noncomputable def S_head : List LV → T LV := upS Try.prog Try.f10.params.toList S0_head
theorem nf_head : (funu Try.prog noGlobs (specsOf [(11, S_drw), (13, S_plug), (15, S_same)]) noK noLoops Try.f10 []).red = .req ((List.length (dP ([] : List Int) (20 : Int)) : Int) ≤ 1000) (.req ((List.length ([] : List Int) : Int) ≤ 1000) (.ok (.v (.bool true)))) := by kernel_rfl
theorem v_head : Valid Try.prog noGlobs 10 S_head := valid_ofu Try.func10 rfl (specs_ok (l := [(11, S_drw), (13, S_plug), (15, S_same)]) ⟨v_drw, v_plug, v_same, trivial⟩) noK_sound (no_loops (by kernel_rfl)) (fun args lv h => by
  unfold S0_head at h
  split at h
  · simp only [canL]
    refine T.all_red ?_
    rw [nf_head]
    exact ⟨by decide, by decide, h⟩
  · cases h)
end Go.Proofs.Ytakkjfldfghfcaa
