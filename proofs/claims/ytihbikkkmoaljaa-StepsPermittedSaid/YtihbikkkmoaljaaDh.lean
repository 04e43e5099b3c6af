/- Sites: what is computed, by the executor. -/
import Derived.Test.YtihbikkkmoaljaaDg
namespace Go.Proofs.Ytihbikkkmoaljaa
open Go.Sx
def S0_holds : List LV → T LV
 | [.v (.agg ⟨[.int .i64 a, .int .i64 b]⟩), .v (.int .i64 n)] => .ok (.v (.bool (inB n a b)))
 | _ => .no
noncomputable def S_holds : List LV → T LV := upS Try.prog Try.f69.params.toList S0_holds
noncomputable def gam9 : Specs := specsOf []
theorem gok9 : ∀ g S, gam9 g = some S → Valid Try.prog noGlobs g S := specs_ok (l := []) trivial
theorem nf_holds (a b n : Int) : funu Try.prog noGlobs (gam9) noK noLoops Try.f69 [.v (.agg #[.int .i64 a, .int .i64 b]), .v (.int .i64 n)] = .ok (.v (.bool ((decide (n ≥ a)) && (decide (n ≤ b))))) := by kernel_rfl
theorem v_holds : Valid Try.prog noGlobs 69 S_holds := valid_ofu Try.func69 rfl gok9 noK_sound (no_loops (by kernel_rfl)) (fun args lv h => by
 unfold S0_holds at h
 split at h
 ·simp only [canL, canX]
  rw [nf_holds]
  exact h
 ·cases h)
def S0_gcab : List LV → T LV
 | [.v (.agg ⟨[.int .i64 am, .int .i64 mo, .int .i64 _, .int .i64 _, .int .i64 _]⟩)] => .ok (.v (.bool (decide (mo > am))))
 | _ => .no
noncomputable def S_gcab : List LV → T LV := upS Try.prog Try.f84.params.toList S0_gcab
theorem nf_gcab (am mo ga lo de : Int) : funu Try.prog noGlobs (gam9) noK noLoops Try.f84 [.v (.agg #[.int .i64 am, .int .i64 mo, .int .i64 ga, .int .i64 lo, .int .i64 de])] = .ok (.v (.bool (decide (mo > am)))) := by kernel_rfl
theorem v_gcab : Valid Try.prog noGlobs 84 S_gcab := valid_ofu Try.func84 rfl gok9 noK_sound (no_loops (by kernel_rfl)) (fun args lv h => by
 unfold S0_gcab at h
 split at h
 ·simp only [canL, canX]
  rw [nf_gcab]
  exact h
 ·cases h)
def S0_gamp : List LV → T LV
 | [.v (.agg ⟨[.string _, .int .i64 _, .int .i64 _, .int .i64 mi, .int .i64 ma, .int .i64 _, .int .i64 fb, .int .i64 _]⟩)] => .ok (.v (.bool (decide (mi ≤ ma) && ((fb == 0) || inB fb mi ma))))
 | _ => .no
noncomputable def S_gamp : List LV → T LV := upS Try.prog Try.f85.params.toList S0_gamp
theorem nf_gamp (nm : ByteArray) (at_ ph mi ma st fb ow : Int) : funu Try.prog noGlobs (gam9) noK noLoops Try.f85 [.v (.agg #[.string nm, .int .i64 at_, .int .i64 ph, .int .i64 mi, .int .i64 ma, .int .i64 st, .int .i64 fb, .int .i64 ow])] = .ok (.v (.bool ((decide (mi ≤ ma)) && ((fb == 0) || ((decide (fb ≥ mi)) && (decide (fb ≤ ma))))))) := by kernel_rfl
theorem v_gamp : Valid Try.prog noGlobs 85 S_gamp := valid_ofu Try.func85 rfl gok9 noK_sound (no_loops (by kernel_rfl)) (fun args lv h => by
 unfold S0_gamp at h
 split at h
 ·simp only [canL, canX]
  rw [nf_gamp]
  exact h
 ·cases h)
def S0_vcon : List LV → T LV
 | [.v (.agg ⟨[.string nm, .int .i64 up_, .int .i64 li, .int .i64 ne, .int .i64 ra, .int .i64 he, .int .i64 am, .int .i64 mo, .int .i64 ga, .int .i64 lo, .int .i64 de]⟩), .v (.int .i64 i)] => .req (0 ≤ i) (.ok (.v (.bool (cdV i (nm, up_, li, ne, (ra, he), am, mo, ga, lo, de)))))
 | _ => .no
noncomputable def S_vcon : List LV → T LV := upS Try.prog Try.f68.params.toList S0_vcon
noncomputable def gam10 : Specs := specsOf [(69, S_holds), (84, S_gcab)]
theorem gok10 : ∀ g S, gam10 g = some S → Valid Try.prog noGlobs g S := specs_ok (l := [(69, S_holds), (84, S_gcab)]) ⟨v_holds, v_gcab, trivial⟩
theorem nf_vcon (nm : ByteArray) (up_ li ne ra he am mo ga lo de i : Int) : funu Try.prog noGlobs (gam10) noK noLoops Try.f68 [.v (.agg #[.string nm, .int .i64 up_, .int .i64 li, .int .i64 ne, .int .i64 ra, .int .i64 he, .int .i64 am, .int .i64 mo, .int .i64 ga, .int .i64 lo, .int .i64 de]), .v (.int .i64 i)] = .br (if i == 0 then (up_ != (-1)) || ((decide (i > 0)) && ((decide (up_ < 0)) || (decide (up_ ≥ i)))) else (decide (i > 0)) && ((decide (up_ < 0)) || (decide (up_ ≥ i)))) (.ok (.v (.bool false))) (.br ((!(inB li (1 : Int) (1000 : Int))) || (!(inB ne (1 : Int) (1000 : Int)))) (.ok (.v (.bool false))) (.br ((!((ra == 0) && (he == 0))) && (!(inB ra (1 : Int) (1000 : Int)) || (!(inB he (0 : Int) (1000000 : Int))))) (.ok (.v (.bool false))) (.br ((am == 0) && ((mo == 0) && ((ga == 0) && ((lo == 0) && (de == 0))))) (.ok (.v (.bool true))) (.ok (.v (.bool ((inB am (0 : Int) (200000 : Int)) && ((inB mo (0 : Int) (200000 : Int)) && ((inB ga (0 : Int) (1000 : Int)) && ((inB lo (0 : Int) (1000 : Int)) && ((inB de (1 : Int) (1000000 : Int)) && (decide (mo > am))))))))))))) := by kernel_rfl
theorem v_vcon : Valid Try.prog noGlobs 68 S_vcon := valid_ofu Try.func68 rfl gok10 noK_sound (no_loops (by kernel_rfl)) (fun args lv h => by
 unfold S0_vcon at h
 split at h
 ·simp only [canL, canX]
  rw [nf_vcon]
  obtain ⟨hi, h⟩ := h
  exact cdV_of (K := fun z => LV.v (.bool z) = lv) hi h
 ·cases h)
def S0_vcha : List LV → T LV
 | [.agg [.xl (.pair .str (.pair (.int .i64) (.pair (.int .i64) (.pair (.int .i64) (.pair (.pair (.int .i64) (.int .i64)) (.pair (.int .i64) (.pair (.int .i64) (.pair (.int .i64) (.pair (.int .i64) (.int .i64)))))))))) cs, .xl (.str) os, .xl (.pair .str (.pair (.int .i64) (.pair (.int .i64) (.int .i64)))) _, .xl (.pair .str (.pair (.int .i64) (.pair (.int .i64) (.pair (.int .i64) (.pair (.int .i64) (.pair (.int .i64) (.pair (.int .i64) (.int .i64)))))))) _, .xl (.pair .str (.int .i64)) _], .v (.agg ⟨[.string nm, .int .i64 at_, .int .i64 ph, .int .i64 mi, .int .i64 ma, .int .i64 st, .int .i64 fb, .int .i64 ow]⟩)] => .req ((List.length cs : Int) ≤ 1000 ∧ (List.length os : Int) ≤ 1000) (.ok (.v (.bool (chV cs.length os.length (nm, at_, ph, mi, ma, st, fb, ow)))))
 | _ => .no
noncomputable def S_vcha : List LV → T LV := upS Try.prog Try.f70.params.toList S0_vcha
noncomputable def gam11 : Specs := specsOf [(69, S_holds), (85, S_gamp)]
theorem gok11 : ∀ g S, gam11 g = some S → Valid Try.prog noGlobs g S := specs_ok (l := [(69, S_holds), (85, S_gamp)]) ⟨v_holds, v_gamp, trivial⟩
theorem nf_vcha (cs : List (ByteArray × (Int × (Int × (Int × ((Int × Int) × (Int × (Int × (Int × (Int × Int)))))))))) (os : List ByteArray) (ks : List (ByteArray × (Int × (Int × Int)))) (gs : List (ByteArray × (Int × (Int × (Int × (Int × (Int × (Int × Int)))))))) (bs : List (ByteArray × Int)) (nm : ByteArray) (at_ ph mi ma st fb ow : Int) : funu Try.prog noGlobs (gam11) noK noLoops Try.f70 [.agg [.xl tCd cs, .xl .str os, .xl tKo ks, .xl tCh gs, .xl tBa bs], .v (.agg #[.string nm, .int .i64 at_, .int .i64 ph, .int .i64 mi, .int .i64 ma, .int .i64 st, .int .i64 fb, .int .i64 ow])] = .ok (.v (.bool ((inB at_ (0 : Int) (IntKind.i64.wrap ((List.length cs : Int) - 1))) && ((inB ow (0 : Int) (IntKind.i64.wrap ((List.length os : Int) - 1))) && ((inB ph (1 : Int) (7 : Int)) && ((inB mi (1 : Int) (80 : Int)) && ((inB ma (1 : Int) (80 : Int)) && ((inB st (1 : Int) (80 : Int)) && ((inB fb (0 : Int) (80 : Int)) && (decide (mi ≤ ma) && ((fb == 0) || inB fb mi ma))))))))))) := by kernel_rfl
theorem v_vcha : Valid Try.prog noGlobs 70 S_vcha := valid_ofu Try.func70 rfl gok11 noK_sound (no_loops (by kernel_rfl)) (fun args lv h => by
 unfold S0_vcha at h
 split at h
 ·simp only [canL, canX]
  rw [nf_vcha]
  rename_i cs os _ _ _ _ at_ ph mi ma st fb ow
  obtain ⟨⟨h1, h2⟩, rfl⟩ := h
  refine congrArg (fun z => LV.v (.bool z)) ?_
  rw [wrapS (x := (List.length cs : Int) - 1) (by omega) (by omega), wrapS (x := (List.length os : Int) - 1) (by omega) (by omega)]
  unfold chV chW
  rw [Bool.eq_iff_iff]
  simp only [Bool.and_eq_true, Bool.or_eq_true, inB_iff, decide_eq_true_eq, beq_iff_eq]
  omega
 ·cases h)
end Go.Proofs.Ytihbikkkmoaljaa
