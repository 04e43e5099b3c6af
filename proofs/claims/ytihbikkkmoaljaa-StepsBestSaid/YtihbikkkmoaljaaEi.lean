/- The law: examples. -/
import Derived.Test.YtihbikkkmoaljaaEh
namespace Go.Proofs.Ytihbikkkmoaljaa
open Go.Sx
def S0_head : List LV → T LV
 | [] => .ok (.v (.bool true))
 | _ => .no
noncomputable def S_head : List LV → T LV := upS Try.prog Try.f10.params.toList S0_head
noncomputable def gam64 : Specs := specsOf [(12, S_ampsE), (17, S_lvls), (19, S_levl), (27, S_gives), (28, S_bench)]
theorem gok64 : ∀ g S, gam64 g = some S → Valid Try.prog noGlobs g S := specs_ok (l := [(12, S_ampsE), (17, S_lvls), (19, S_levl), (27, S_gives), (28, S_bench)]) ⟨v_ampsE, v_lvls, v_levl, v_gives, v_bench, trivial⟩
theorem nf_head : (funu Try.prog noGlobs (gam64) noK noLoops Try.f10 []).red = .req ((List.length ([(16 : Int), (16 : Int)]) : Int) ≤ 3) (.req ((List.length ([(22 : Int), (10 : Int)]) : Int) ≤ 3) (.req ((List.length ([(12 : Int), (20 : Int)]) : Int) ≤ 3) (.req ((List.length ([(0 : Int), (0 : Int)]) : Int) ≤ 3) (.req ((List.length ([(8 : Int), (6 : Int), (0 : Int)]) : Int) ≤ 3) (.req (0 ≤ (1 : Int) ∧ (1 : Int) ≤ 100) (.req (0 ≤ (0 : Int) ∧ 0 < (List.length (benG ((1 : Int)).toNat) : Int)) (.req ((11 : Int) ≤ 9223372036854775807) (.req ((5 : Int) ≤ 9223372036854775807) (.req ((-1 : Int) ≤ 9223372036854775807) (.ok (.v (.bool true)))))))))))) := by kernel_rfl
theorem v_head : Valid Try.prog noGlobs 10 S_head := valid_ofu Try.func10 rfl gok64 noK_sound (no_loops (by kernel_rfl)) (fun args lv h => by
 unfold S0_head at h
 split at h
 ·simp only [canL]
  refine @T.all_red _ _ _ ?_
  rw [nf_head]
  exact ⟨by decide, by decide, by decide, by decide, by decide, by decide, by decide, by decide, by decide, by decide, h⟩
 ·cases h)
end Go.Proofs.Ytihbikkkmoaljaa
