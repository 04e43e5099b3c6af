/- Levels: what is computed, by the executor. -/
import Derived.Test.YtihbikkkmoaljaaDp
namespace Go.Proofs.Ytihbikkkmoaljaa
open Go.Sx
def S0_lvls : List LV → T LV
 | [.v (.agg ⟨[.string _, .int .i64 _, .int .i64 _, .int .i64 mi, .int .i64 ma, .int .i64 st, .int .i64 _, .int .i64 _]⟩)] => .ok (.v (.int .i64 (lvs mi ma st)))
 | _ => .no
noncomputable def S_lvls : List LV → T LV := upS Try.prog Try.f17.params.toList S0_lvls
noncomputable def gam1 : Specs := specsOf []
theorem gok1 : ∀ g S, gam1 g = some S → Valid Try.prog noGlobs g S := specs_ok (l := []) trivial
theorem nf_lvls (nm : ByteArray) (at_ ph mi ma st fb ow : Int) : funu Try.prog noGlobs (gam1) noK noLoops Try.f17 [.v (.agg #[.string nm, .int .i64 at_, .int .i64 ph, .int .i64 mi, .int .i64 ma, .int .i64 st, .int .i64 fb, .int .i64 ow])] = .br ((decide (mi < 1)) || ((decide (mi > ma)) || ((decide (ma > 80)) || ((decide (st < 1)) || (decide (st > 80)))))) (.ok (.v (.int .i64 0))) (.req (st ≠ 0) (.ok (.v (.int .i64 (IntKind.i64.wrap ((IntKind.i64.wrap ((IntKind.i64.wrap (ma - mi)).tdiv st)) + 2)))))) := by kernel_rfl
theorem v_lvls : Valid Try.prog noGlobs 17 S_lvls := valid_ofu Try.func17 rfl gok1 noK_sound (no_loops (by kernel_rfl)) (fun args lv h => by
 unfold S0_lvls at h
 split at h
 ·simp only [canL, canX]
  rw [nf_lvls]
  rename_i mi ma st _ _
  obtain rfl := h
  refine ⟨fun c => congrArg (fun z => LV.v (.int .i64 z)) ?_, fun c => ⟨?_, congrArg (fun z => LV.v (.int .i64 z)) ?_⟩⟩
  ·have : hasL mi ma st = false := by
    rw [Bool.eq_false_iff]; intro h; have := hasL_iff.1 h; simp at c; omega
   rw [lvs_zero this]
  ·simp at c; omega
  ·have hh : hasL mi ma st = true := hasL_iff.2 (by simp at c; omega)
   obtain ⟨h1, h2, h3, h4, h5⟩ := hasL_iff.1 hh
   have := div_bd (x := ma - mi) (st := st) (by omega) (by omega)
   rw [wrapS (x := ma - mi) (by omega) (by omega), Int.tdiv_eq_ediv_of_nonneg (by omega), wrapS (x := (ma - mi) / st) (by omega) (by omega), wrapS (by omega) (by omega)]
   simp [lvs, hh]
 ·cases h)
def S0_amps : List LV → T LV
 | [.v (.agg ⟨[.string _, .int .i64 _, .int .i64 _, .int .i64 mi, .int .i64 _, .int .i64 st, .int .i64 _, .int .i64 _]⟩), .v (.int .i64 k)] => .req ((1 ≤ mi ∧ mi ≤ 80 ∧ 1 ≤ st ∧ st ≤ 80) ∧ 0 ≤ k ∧ k ≤ 1000) (.ok (.v (.int .i64 (amL mi st k))))
 | _ => .no
noncomputable def S_amps : List LV → T LV := upS Try.prog Try.f30.params.toList S0_amps
theorem nf_amps (nm : ByteArray) (at_ ph mi ma st fb ow k : Int) : funu Try.prog noGlobs (gam1) noK noLoops Try.f30 [.v (.agg #[.string nm, .int .i64 at_, .int .i64 ph, .int .i64 mi, .int .i64 ma, .int .i64 st, .int .i64 fb, .int .i64 ow]), .v (.int .i64 k)] = .br (k == 0) (.ok (.v (.int .i64 0))) (.ok (.v (.int .i64 (IntKind.i64.wrap (mi + (IntKind.i64.wrap ((IntKind.i64.wrap (k - 1)) * st))))))) := by kernel_rfl
theorem v_amps : Valid Try.prog noGlobs 30 S_amps := valid_ofu Try.func30 rfl gok1 noK_sound (no_loops (by kernel_rfl)) (fun args lv h => by
 unfold S0_amps at h
 split at h
 ·simp only [canL, canX]
  rw [nf_amps]
  rename_i mi _ st _ _ k
  obtain ⟨⟨⟨h1, h2, h3, h4⟩, h5, h6⟩, rfl⟩ := h
  refine ⟨fun c => congrArg (fun z => LV.v (.int .i64 z)) ?_, fun c => congrArg (fun z => LV.v (.int .i64 z)) ?_⟩
  ·have c : k = 0 := by simpa using c
   simp [amL, c]
  ·have c : k ≠ 0 := by simpa using c
   have := mul_bd (a := k - 1) (b := st) (by omega) (by omega) (by omega) (by omega)
   rw [wrapS (x := k - 1) (by omega) (by omega), wrapS (x := (k - 1) * st) (by omega) (by omega), wrapS (by omega) (by omega)]
   simp [amL, c]
 ·cases h)
def S0_ampsE : List LV → T LV
 | [.v (.agg ⟨[.string _, .int .i64 _, .int .i64 _, .int .i64 mi, .int .i64 ma, .int .i64 st, .int .i64 _, .int .i64 _]⟩), .v (.int .i64 k)] => .ok (.v (.tuple #[.int .i64 (amA mi ma st k), .int .i64 (amE mi ma st k)]))
 | _ => .no
noncomputable def S_ampsE : List LV → T LV := upS Try.prog Try.f12.params.toList S0_ampsE
noncomputable def gam2 : Specs := specsOf [(17, S_lvls), (30, S_amps)]
theorem gok2 : ∀ g S, gam2 g = some S → Valid Try.prog noGlobs g S := specs_ok (l := [(17, S_lvls), (30, S_amps)]) ⟨v_lvls, v_amps, trivial⟩
theorem nf_ampsE (nm : ByteArray) (at_ ph mi ma st fb ow k : Int) : funu Try.prog noGlobs (gam2) noK noLoops Try.f12 [.v (.agg #[.string nm, .int .i64 at_, .int .i64 ph, .int .i64 mi, .int .i64 ma, .int .i64 st, .int .i64 fb, .int .i64 ow]), .v (.int .i64 k)] = .br ((decide (k < 0)) || (decide (k ≥ (lvs mi ma st)))) (.ok (.v (.tuple #[.int .i64 0, .int .i64 1]))) (.req ((1 ≤ mi ∧ mi ≤ 80 ∧ 1 ≤ st ∧ st ≤ 80) ∧ 0 ≤ k ∧ k ≤ 1000) (.ok (.v (.tuple #[.int .i64 (amL mi st k), .int .i64 0])))) := by kernel_rfl
theorem v_ampsE : Valid Try.prog noGlobs 12 S_ampsE := valid_ofu Try.func12 rfl gok2 noK_sound (no_loops (by kernel_rfl)) (fun args lv h => by
 unfold S0_ampsE at h
 split at h
 ·simp only [canL, canX]
  rw [nf_ampsE]
  rename_i mi ma st _ _ k
  obtain rfl := h
  have hb := lvs_bd (mi := mi) (ma := ma) (st := st)
  refine ⟨fun c => ?_, fun c => ?_⟩
  ·have c : k < 0 ∨ lvs mi ma st ≤ k := by simpa using c
   simp [T.all, amA, amE, c]
  ·have c : ¬ (k < 0 ∨ lvs mi ma st ≤ k) := by simpa using c
   have := hasL_iff.1 (has_of (mi := mi) (ma := ma) (st := st) (k := k) (by omega) (by omega))
   refine ⟨⟨⟨by omega, by omega, by omega, by omega⟩, by omega, by omega⟩, ?_⟩
   simp [T.all, amA, amE, c]
 ·cases h)
def S0_levl : List LV → T LV
 | [.v (.agg ⟨[.string _, .int .i64 _, .int .i64 _, .int .i64 mi, .int .i64 ma, .int .i64 st, .int .i64 _, .int .i64 _]⟩), .v (.int .i64 a)] => .req (a ≤ 9223372036854775807) (.ok (.v (.int .i64 (lev mi ma st a))))
 | _ => .no
noncomputable def S_levl : List LV → T LV := upS Try.prog Try.f19.params.toList S0_levl
noncomputable def gam3 : Specs := specsOf [(17, S_lvls)]
theorem gok3 : ∀ g S, gam3 g = some S → Valid Try.prog noGlobs g S := specs_ok (l := [(17, S_lvls)]) ⟨v_lvls, trivial⟩
theorem nf_levl (nm : ByteArray) (at_ ph mi ma st fb ow a : Int) : funu Try.prog noGlobs (gam3) noK noLoops Try.f19 [.v (.agg #[.string nm, .int .i64 at_, .int .i64 ph, .int .i64 mi, .int .i64 ma, .int .i64 st, .int .i64 fb, .int .i64 ow]), .v (.int .i64 a)] = .br (((lvs mi ma st) == 0) || (decide (a < 0))) (.ok (.v (.int .i64 (-1)))) (.br (decide (a < mi)) (.ok (.v (.int .i64 0))) (.req (st ≠ 0) (.ok (.v (.int .i64 (if (IntKind.i64.wrap ((IntKind.i64.wrap ((IntKind.i64.wrap (a - mi)).tdiv st)) + 1)) < (IntKind.i64.wrap ((lvs mi ma st) - 1)) then IntKind.i64.wrap ((IntKind.i64.wrap ((IntKind.i64.wrap (a - mi)).tdiv st)) + 1) else IntKind.i64.wrap ((lvs mi ma st) - 1))))))) := by kernel_rfl
theorem v_levl : Valid Try.prog noGlobs 19 S_levl := valid_ofu Try.func19 rfl gok3 noK_sound (no_loops (by kernel_rfl)) (fun args lv h => by
 unfold S0_levl at h
 split at h
 ·simp only [canL, canX]
  rw [nf_levl]
  rename_i mi ma st _ _ a
  obtain ⟨ha, rfl⟩ := h
  have hb := lvs_bd (mi := mi) (ma := ma) (st := st)
  refine ⟨fun c => congrArg (fun z => LV.v (.int .i64 z)) ?_, fun c => ⟨fun c2 => congrArg (fun z => LV.v (.int .i64 z)) ?_, fun c2 => ?_⟩⟩
  ·have c : hasL mi ma st = false ∨ a < 0 := by
    simp at c
    rcases c with c | c
    ·left
     cases e : hasL mi ma st with
     | false => rfl
     | true => have := lvs_pos e; omega
    ·exact .inr c
   simp only [lev, if_pos c]
  all_goals
   simp at c c2
   have hh : hasL mi ma st = true := by
    cases e : hasL mi ma st with
    | true => rfl
    | false => exact absurd (lvs_zero e) c.1
   have hn : ¬ (hasL mi ma st = false ∨ a < 0) := by simp [hh]; omega
   have := hasL_iff.1 hh
  ·simp only [lev, if_neg hn, if_pos c2]
  ·have := div_bd (x := a - mi) (st := st) (by omega) (by omega)
   refine ⟨by omega, congrArg (fun z => LV.v (.int .i64 z)) ?_⟩
   rw [wrapS (x := a - mi) (by omega) (by omega), Int.tdiv_eq_ediv_of_nonneg (by omega), wrapS (x := (a - mi) / st) (by omega) (by omega), wrapS (x := (a - mi) / st + 1) (by omega) (by omega), wrapS (x := lvs mi ma st - 1) (by omega) (by omega)]
   simp only [lev, if_neg hn, if_neg (show ¬ a < mi by omega)]
   split <;> omega
 ·cases h)
end Go.Proofs.Ytihbikkkmoaljaa
