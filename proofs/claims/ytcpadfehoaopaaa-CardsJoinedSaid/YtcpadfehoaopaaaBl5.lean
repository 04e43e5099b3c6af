/- CardsJoined: what it computes. -/
import Derived.Test.YtcpadfehoaopaaaBq
import Derived.Test.YtcpadfehoaopaaaBs
namespace Go.Proofs.Ytcpadfehoaopaaa
open Go.Sx
def S0_l5 : List LV → T LV
  | [.xl (.pair (.int .i64) (.int .i64)) a, .xl (.pair (.int .i64) (.int .i64)) b, .xl (.pair (.int .i64) (.int .i64)) c] => .ok (.v (.bool true))
  | _ => .no
noncomputable def S_l5 : List LV → T LV := upS Try.prog Try.f7.params.toList S0_l5
theorem nf_l5 (a b c : List (Int × Int)) : funu Try.prog noGlobs (specsOf [(10, S_head), (14, S_join), (18, S_rsame), (22, S_usab)]) noK noLoops Try.f7 [.xl tV a, .xl tV b, .xl tV c] = .br ((!(vlC ([] : List (Int × (Int × (Int × Int)))) && (vlV a && vlV b))) || (!(vlC ([] : List (Int × (Int × (Int × Int)))) && (vlV c && vlV ([] : List (Int × Int)))))) (.ok (.v (.bool true))) (.req ((List.length a : Int) ≤ 1000 ∧ (List.length b : Int) ≤ 1000) (.req ((List.length b : Int) ≤ 1000 ∧ (List.length c : Int) ≤ 1000) (.br (((joE a b) != 0) || ((joE b c) != 0)) (.ok (.v (.bool true))) (.req ((List.length (joL a b) : Int) ≤ 1000 ∧ (List.length c : Int) ≤ 1000) (.req ((List.length a : Int) ≤ 1000 ∧ (List.length (joL b c) : Int) ≤ 1000) (.br true (.br ((joE (joL a b) c) == (joE a (joL b c))) (.req ((List.length (joL (joL a b) c) : Int) ≤ 1000) (.ok (.v (.bool (decide ((joL (joL a b) c) = (joL a (joL b c)))))))) (.ok (.v (.bool false)))) (.ok (.v (.bool false))))))))) := by kernel_rfl
theorem v_l5 : Valid Try.prog noGlobs 7 S_l5 := valid_ofu Try.func7 rfl (specs_ok (l := [(10, S_head), (14, S_join), (18, S_rsame), (22, S_usab)]) ⟨v_head, v_join, v_rsame, v_usab, trivial⟩) noK_sound (no_loops (by kernel_rfl)) (fun args lv h => by
  unfold S0_l5 at h
  split at h
  · simp only [canL, canX]
    rw [nf_l5]
    rename_i a b c
    obtain rfl := h
    refine ⟨fun _ => rfl, fun k => ?_⟩
    simp only [Bool.or_eq_false_iff, Bool.not_eq_false', Bool.and_eq_true] at k
    obtain ⟨⟨_, ha, hb⟩, _, hc, _⟩ := k
    have h2 : (List.length a : Int) ≤ 1000 := by have := (vV_iff.1 ha).1; omega
    have h3 : (List.length b : Int) ≤ 1000 := by have := (vV_iff.1 hb).1; omega
    have h4 : (List.length c : Int) ≤ 1000 := by have := (vV_iff.1 hc).1; omega
    have h5 : (List.length (joL a b) : Int) ≤ 1000 := by have := joL_len a b; omega
    have h6 : (List.length (joL b c) : Int) ≤ 1000 := by have := joL_len b c; omega
    have h7 : (List.length (joL (joL a b) c) : Int) ≤ 1000 := by have := joL_len (joL a b) c; omega
    refine ⟨⟨h2, h3⟩, ⟨h3, h4⟩, fun _ => rfl, fun k => ?_⟩
    simp only [Bool.or_eq_false_iff, bne_eq_false_iff_eq] at k
    obtain ⟨q1, q2⟩ := jo_assoc ha hb hc k.1 k.2
    rw [← q1, ← q2]
    refine ⟨⟨h5, h4⟩, ⟨h2, h6⟩, ?_⟩
    simp [T.all, h7]
  · cases h)
end Go.Proofs.Ytcpadfehoaopaaa
