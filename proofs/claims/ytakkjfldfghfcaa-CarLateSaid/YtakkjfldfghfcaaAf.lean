/- Functions of package car: what they compute, by the executor. -/
import Derived.Test.YtakkjfldfghfcaaAp
namespace Go.Proofs.Ytakkjfldfghfcaa
open Go.Sx
def S0_inside : List LV → T LV
  | [.v (.int .i64 n), .v (.int .i64 a), .v (.int .i64 b)] => .ok (.v (.bool (inB n a b)))
  | _ => .no
noncomputable def S_inside : List LV → T LV := upS Try.prog Try.f19.params.toList S0_inside
theorem nf_inside (n a b : Int) : funu Try.prog noGlobs (specsOf []) noK noLoops Try.f19 [.v (.int .i64 n), .v (.int .i64 a), .v (.int .i64 b)] = .ok (.v (.bool ((decide (n ≥ a)) && (decide (n ≤ b))))) := by kernel_rfl
theorem v_inside : Valid Try.prog noGlobs 19 S_inside := valid_ofu Try.func19 rfl (specs_ok (l := []) trivial) noK_sound (no_loops (by kernel_rfl)) (fun args lv h => by
  unfold S0_inside at h
  split at h
  · simp only [canL, canX]
    rw [nf_inside]
    exact h
  · cases h)
def S0_valid : List LV → T LV
  | [.v (.agg ⟨[.int .i64 k, .int .i64 ph, .int .i64 mx, .int .i64 nd, .int .i64 dl]⟩)] => .ok (.v (.bool (carB k ph mx nd dl)))
  | _ => .no
noncomputable def S_valid : List LV → T LV := upS Try.prog Try.f17.params.toList S0_valid
theorem nf_valid (k ph mx nd dl : Int) : funu Try.prog noGlobs (specsOf [(19, S_inside)]) noK noLoops Try.f17 [.v (.agg #[.int .i64 k, .int .i64 ph, .int .i64 mx, .int .i64 nd, .int .i64 dl])] = .ok (.v (.bool ((inB k (0 : Int) (4 : Int)) && ((inB ph (1 : Int) (7 : Int)) && ((inB mx (1 : Int) (80 : Int)) && ((inB nd (0 : Int) (1000000000 : Int)) && ((inB dl (0 : Int) (20 : Int)) && ((k != 3) || (decide (dl ≥ 1)))))))))) := by kernel_rfl
theorem v_valid : Valid Try.prog noGlobs 17 S_valid := valid_ofu Try.func17 rfl (specs_ok (l := [(19, S_inside)]) ⟨v_inside, trivial⟩) noK_sound (no_loops (by kernel_rfl)) (fun args lv h => by
  unfold S0_valid at h
  split at h
  · simp only [canL, canX]
    rw [nf_valid]
    exact h
  · cases h)
end Go.Proofs.Ytakkjfldfghfcaa
