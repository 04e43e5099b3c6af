/- CardsJoin: what it computes. -/
import Derived.Test.YtcpadfehoaopaaaBq
import Derived.Test.YtcpadfehoaopaaaBs
namespace Go.Proofs.Ytcpadfehoaopaaa
open Go.Sx
def S0_l4 : List LV → T LV
  | [.xl (.pair (.int .i64) (.pair (.int .i64) (.pair (.int .i64) (.int .i64)))) l, .xl (.pair (.int .i64) (.int .i64)) a, .xl (.pair (.int .i64) (.int .i64)) b, .v (.int .u32 nu), .v (.int .u32 ep)] => .req ((0 ≤ nu ∧ nu ≤ 4294967295) ∧ (0 ≤ ep ∧ ep ≤ 4294967295)) (.ok (.v (.bool true)))
  | _ => .no
noncomputable def S_l4 : List LV → T LV := upS Try.prog Try.f6.params.toList S0_l4
theorem nf_l4 (l : List (Int × (Int × (Int × Int)))) (a b : List (Int × Int)) (nu ep : Int) : funu Try.prog noGlobs (specsOf [(10, S_head), (14, S_join), (18, S_rsame), (22, S_usab), (23, S_accs), (24, S_rvo)]) noK noLoops Try.f6 [.xl tC l, .xl tV a, .xl tV b, .v (.int .u32 nu), .v (.int .u32 ep)] = .req ((1000000 : Int) ≠ 0) (.req ((1000001 : Int) ≠ 0) (.br (!(vlC l && (vlV a && vlV b))) (.ok (.v (.bool true))) (.req ((List.length a : Int) ≤ 1000 ∧ (List.length b : Int) ≤ 1000) (.req ((List.length b : Int) ≤ 1000 ∧ (List.length a : Int) ≤ 1000) (.req ((List.length a : Int) ≤ 1000 ∧ (List.length a : Int) ≤ 1000) (.br ((joE a b) != (joE b a)) (.ok (.v (.bool false))) (.req ((List.length (joL a b) : Int) ≤ 1000) (.br (!(decide ((joL a b) = (joL b a)))) (.ok (.v (.bool false))) (.br ((joE a a) != 0) (.ok (.v (.bool false))) (.req ((List.length (joL a a) : Int) ≤ 1000) (.br (!(decide ((joL a a) = a))) (.ok (.v (.bool false))) (.br ((joE a b) != 0) (.ok (.v (.bool (true && (((joE a b) == 2) && ((List.length (joL a b) : Int) == 0)))))) (.req ((List.length (joL a b) : Int) ≤ 1000 ∧ (List.length b : Int) ≤ 1000) (.br true (.br ((joE (joL a b) b) == 0) (.req ((List.length (joL (joL a b) b) : Int) ≤ 1000) (.br (decide ((joL (joL a b) b) = (joL a b))) (.req ((List.length (joL a b) : Int) ≤ 1000) (.br (vlV (joL a b)) (.req ((List.length l : Int) ≤ 1000 ∧ (List.length (joL a b) : Int) ≤ 1000) (.req ((List.length l : Int) ≤ 1000 ∧ (List.length a : Int) ≤ 1000) (.br (acE l a (IntKind.i64.wrap (1 + ((IntKind.i64.wrap nu).tmod 1000000))) ((IntKind.i64.wrap ep).tmod 1000001) == 0) (.req ((List.length l : Int) ≤ 1000 ∧ (List.length b : Int) ≤ 1000) (.ok (.v (.bool ((acE l (joL a b) (IntKind.i64.wrap (1 + ((IntKind.i64.wrap nu).tmod 1000000))) ((IntKind.i64.wrap ep).tmod 1000001) == 0) == (acE l b (IntKind.i64.wrap (1 + ((IntKind.i64.wrap nu).tmod 1000000))) ((IntKind.i64.wrap ep).tmod 1000001) == 0)))))) (.ok (.v (.bool ((acE l (joL a b) (IntKind.i64.wrap (1 + ((IntKind.i64.wrap nu).tmod 1000000))) ((IntKind.i64.wrap ep).tmod 1000001) == 0) == false))))))) (.ok (.v (.bool false))))) (.ok (.v (.bool false))))) (.ok (.v (.bool false)))) (.ok (.v (.bool false))))))))))))))))) := by kernel_rfl
theorem v_l4 : Valid Try.prog noGlobs 6 S_l4 := valid_ofu Try.func6 rfl (specs_ok (l := [(10, S_head), (14, S_join), (18, S_rsame), (22, S_usab), (23, S_accs), (24, S_rvo)]) ⟨v_head, v_join, v_rsame, v_usab, v_accs, v_rvo, trivial⟩) noK_sound (no_loops (by kernel_rfl)) (fun args lv h => by
  unfold S0_l4 at h
  split at h
  · simp only [canL, canX]
    rw [nf_l4]
    rename_i l a b nu ep
    obtain ⟨⟨⟨n0, n1⟩, e0, e1⟩, rfl⟩ := h
    refine ⟨by decide, by decide, fun _ => rfl, fun c => ?_⟩
    simp only [Bool.not_eq_false', Bool.and_eq_true] at c
    obtain ⟨hl, ha, hb⟩ := c
    obtain ⟨hn, hn'⟩ := num_of n0 n1
    obtain ⟨he, he'⟩ := ep_of e0 e1
    rw [hn, he]
    have h1 : (List.length l : Int) ≤ 1000 := by have := (vC_iff.1 hl).1; omega
    have h2 : (List.length a : Int) ≤ 1000 := by have := (vV_iff.1 ha).1; omega
    have h3 : (List.length b : Int) ≤ 1000 := by have := (vV_iff.1 hb).1; omega
    have h4 : (List.length (joL a b) : Int) ≤ 1000 := by have := joL_len a b; omega
    have h5 : (List.length (joL a a) : Int) ≤ 1000 := by have := joL_len a a; omega
    have h6 : (List.length (joL (joL a b) b) : Int) ≤ 1000 := by have := joL_len (joL a b) b; omega
    obtain ⟨k1, k2⟩ := jo_comm ha hb
    obtain ⟨k3, k4⟩ := jo_self ha
    refine ⟨⟨h2, h3⟩, ⟨h3, h2⟩, ⟨h2, h2⟩, fun c => ?_, fun _ => ⟨h4, fun c => ?_, fun _ => ⟨fun c => ?_, fun _ => ⟨h5, fun c => ?_, fun _ => ⟨fun c => ?_, fun c => ?_⟩⟩⟩⟩⟩
    · rw [k2] at c; simp at c
    · rw [← k1] at c; simp at c
    · rw [k4] at c; simp at c
    · rw [k3] at c; simp at c
    · obtain ⟨q1, q2⟩ := jo_bad ha hb (by simpa using c)
      rw [q1, q2]
      rfl
    have c : joE a b = 0 := by simpa using c
    obtain ⟨q1, q2, q3⟩ := jo_again ha hb c
    have q4 := acE_join hl ha hb hn' he' c
    refine ⟨⟨h4, h3⟩, fun _ => ⟨fun _ => ⟨h6, fun _ => ⟨h4, fun _ => ⟨⟨h1, h4⟩, ⟨h1, h2⟩, fun c1 => ⟨⟨h1, h3⟩, ?_⟩, fun c1 => ?_⟩, fun c => ?_⟩, fun c => ?_⟩, fun c => ?_⟩, fun c => ?_⟩
    · rw [q4, c1]; simp [T.all]
    · rw [q4, c1]; simp [T.all]
    · rw [q3] at c; cases c
    · rw [q1] at c; simp at c
    · rw [q2] at c; simp at c
    · cases c
  · cases h)
end Go.Proofs.Ytcpadfehoaopaaa
