/- CardsMatchesReference: what it computes. -/
import Derived.Test.YtcpadfehoaopaaaBq
import Derived.Test.YtcpadfehoaopaaaBs
namespace Go.Proofs.Ytcpadfehoaopaaa
open Go.Sx
def S0_l1 : List LV → T LV
  | [.xl (.pair (.int .i64) (.pair (.int .i64) (.pair (.int .i64) (.int .i64)))) l, .xl (.pair (.int .i64) (.int .i64)) a, .xl (.pair (.int .i64) (.int .i64)) b, .v (.int .i64 n), .v (.int .i64 e)] => .ok (.v (.bool true))
  | _ => .no
noncomputable def S_l1 : List LV → T LV := upS Try.prog Try.f3.params.toList S0_l1
theorem nf_l1 (l : List (Int × (Int × (Int × Int)))) (a b : List (Int × Int)) (n e : Int) : funu Try.prog noGlobs (specsOf [(10, S_head), (11, S_few), (12, S_acc), (13, S_racc), (14, S_join), (15, S_rjoin), (16, S_late), (17, S_rlate), (18, S_rsame), (19, S_rints), (20, S_cvalid), (21, S_rvl)]) noK noLoops Try.f3 [.xl tC l, .xl tV a, .xl tV b, .v (.int .i64 n), .v (.int .i64 e)] = .br (!(decide ((List.length l : Int) ≤ 80) && (decide ((List.length a : Int) ≤ 80) && decide ((List.length b : Int) ≤ 80)))) (.ok (.v (.bool true))) (.req ((List.length l : Int) ≤ 1000 ∧ (List.length a : Int) ≤ 1000) (.req ((List.length l : Int) ≤ 1000 ∧ (List.length a : Int) ≤ 1000) (.req ((List.length a : Int) ≤ 1000 ∧ (List.length b : Int) ≤ 1000) (.req ((List.length a : Int) ≤ 1000 ∧ (List.length b : Int) ≤ 1000) (.req ((List.length l : Int) ≤ 1000 ∧ (List.length a : Int) ≤ 1000 ∧ (List.length b : Int) ≤ 1000) (.req ((List.length l : Int) ≤ 1000 ∧ (List.length a : Int) ≤ 1000 ∧ (List.length b : Int) ≤ 1000) (.br true (.br ((acK l a n e) == (acK l a n e)) (.br ((acE l a n e) == (acE l a n e)) (.req ((List.length (joL a b) : Int) ≤ 1000) (.br (decide ((joL a b) = (rjL a b))) (.br ((joE a b) == (rjE a b)) (.req ((List.length (ltM l a b e) : Int) ≤ 1000) (.br (decide ((ltM l a b e) = (ltM l a b e))) (.br ((ltE l a b e) == (ltE l a b e)) (.req ((List.length l : Int) ≤ 1000) (.req ((List.length l : Int) ≤ 1000) (.ok (.v (.bool ((vlC l) == (vlC l))))))) (.ok (.v (.bool false)))) (.ok (.v (.bool false))))) (.ok (.v (.bool false)))) (.ok (.v (.bool false))))) (.ok (.v (.bool false)))) (.ok (.v (.bool false)))) (.ok (.v (.bool false)))))))))) := by kernel_rfl
theorem v_l1 : Valid Try.prog noGlobs 3 S_l1 := valid_ofu Try.func3 rfl (specs_ok (l := [(10, S_head), (11, S_few), (12, S_acc), (13, S_racc), (14, S_join), (15, S_rjoin), (16, S_late), (17, S_rlate), (18, S_rsame), (19, S_rints), (20, S_cvalid), (21, S_rvl)]) ⟨v_head, v_few, v_acc, v_racc, v_join, v_rjoin, v_late, v_rlate, v_rsame, v_rints, v_cvalid, v_rvl, trivial⟩) noK_sound (no_loops (by kernel_rfl)) (fun args lv h => by
  unfold S0_l1 at h
  split at h
  · simp only [canL, canX]
    rw [nf_l1]
    rename_i l a b n e
    obtain rfl := h
    refine ⟨fun _ => rfl, fun c => ?_⟩
    simp only [Bool.not_eq_false', Bool.and_eq_true, decide_eq_true_eq] at c
    have h1 : (List.length l : Int) ≤ 1000 := by omega
    have h2 : (List.length a : Int) ≤ 1000 := by omega
    have h3 : (List.length b : Int) ≤ 1000 := by omega
    have h4 : (List.length (joL a b) : Int) ≤ 1000 := by have := joL_len a b; omega
    have h5 : (List.length (ltM l a b e) : Int) ≤ 1000 := by have := ltM_len l a b e; omega
    rw [rjL_eq, rjE_eq]
    simp [T.all, h1, h2, h3, h4, h5]
  · cases h)
end Go.Proofs.Ytcpadfehoaopaaa
