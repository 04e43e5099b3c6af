/- The first law of ramps: what it computes, by the executor. -/
import Derived.Test.YtgghdejgfihkcaaDoorRg
namespace Go.Proofs.YtgghdejgfihkcaaDoor
open Go.Sx
def S_rnext : List LV → T LV
  | [.v (.agg ⟨[.string nm, .int .i64 at_, .int .i64 ph, .int .i64 mn, .int .i64 mx, .int .i64 st, .int .i64 fb, .int .i64 ow]⟩), .v (.agg ⟨[.int .i64 a, .int .i64 si]⟩), .v (.int .i64 want)] => .ok (.v (.tuple #[.agg #[.int .i64 (nA ph mn mx st fb a si want), .int .i64 (nS ph mn mx st fb a si want)], .int .i64 (nE ph mn mx st fb a si want)]))
  | _ => .no
theorem nf_rnext (nm : ByteArray) (at_ ph mn mx st fb ow a si want : Int) : funx Tryd.prog glR (specsOf [(13, S_rrv), (24, S_rlev)]) noLoops Tryd.f11 [.v (.agg #[.string nm, .int .i64 at_, .int .i64 ph, .int .i64 mn, .int .i64 mx, .int .i64 st, .int .i64 fb, .int .i64 ow]), .v (.agg #[.int .i64 a, .int .i64 si]), .v (.int .i64 want)] = .br ((!(raB ph mn mx st fb a si)) || ((decide (want < 0)) || (decide (want > 80)))) (.ok (.v (.tuple #[.agg #[.int .i64 0, .int .i64 0], .int .i64 1]))) (.req (chP mn mx st) (.br ((a == 0) && ((decide ((lvl mn mx st want) > 0)) && (decide (si ≥ 5)))) (.ok (.v (.tuple #[.agg #[.int .i64 mn, .int .i64 0], .int .i64 0]))) (.br (a == 0) (.ok (.v (.tuple #[.agg #[.int .i64 0, .int .i64 (if (1000000 : Int) < (IntKind.i64.wrap (si + 1)) then 1000000 else IntKind.i64.wrap (si + 1))], .int .i64 0]))) (.br ((lvl mn mx st want) == 0) (.ok (.v (.tuple #[.agg #[.int .i64 0, .int .i64 0], .int .i64 0]))) (.ok (.v (.tuple #[.agg #[.int .i64 (if (IntKind.i64.wrap (a + st)) < (lvl mn mx st want) then IntKind.i64.wrap (a + st) else lvl mn mx st want), .int .i64 (if (1000000 : Int) < (IntKind.i64.wrap (si + 1)) then 1000000 else IntKind.i64.wrap (si + 1))], .int .i64 0]))))))) := by kernel_rfl
theorem v_rnext : Valid Tryd.prog glR 11 S_rnext := valid_of Tryd.func11 rfl (specs_ok (l := [(13, S_rrv), (24, S_rlev)]) ⟨v_rrv, v_rlev, trivial⟩) (no_loops (by kernel_rfl)) (fun args lv h => by
  unfold S_rnext at h
  split at h
  · rw [nf_rnext]
    rename_i nm at_ ph mn mx st fb ow a si want
    obtain rfl := h
    by_cases hk : okB ph mn mx st fb a si want = true
    · obtain ⟨k1, k2, k3, k4, k5⟩ := okB_use hk
      have w1 : IntKind.i64.wrap (si + 1) = si + 1 := wrapS (by omega) (by omega)
      have w2 : IntKind.i64.wrap (a + st) = a + st := wrapS (by omega) (by omega)
      have lb := lvl_bounds (a := want) k2.1 k2.2.1 k2.2.2.1 k2.2.2.2.1
      simp only [T.all, nA, nS, nE, k1, w1, w2, hk, ite_min, if_true]
      by_cases c1 : a = 0 <;> by_cases c2 : lvl mn mx st want = 0 <;> by_cases c3 : 5 ≤ si <;> simp [c1, c2, c3, k2]
      all_goals omega
    · have hn : (!raB ph mn mx st fb a si || (decide (want < 0) || decide (want > 80))) = true := okB_not hk
      simp only [T.all, nA, nS, nE, hk, hn]
      simp
  · cases h)
noncomputable def S_example : List LV → T LV := fun l => funx Tryd.prog glR (specsOf []) noLoops Tryd.f16 l
theorem v_example : Valid Tryd.prog glR 16 S_example := valid_of Tryd.func16 rfl (specs_ok (l := []) trivial) (no_loops (by kernel_rfl)) (fun _ _ h => h)
def S_gives : List LV → T LV
  | [.v (.agg ⟨[.int .i64 a, .int .i64 si]⟩), .v (.int .i64 want), .v (.agg ⟨[.int .i64 a2, .int .i64 s2]⟩)] => .ok (.v (.bool ((nE 7 6 16 4 0 a si want == 0) && ((nA 7 6 16 4 0 a si want == a2) && (nS 7 6 16 4 0 a si want == s2)))))
  | _ => .no
theorem nf_gives (a si want a2 s2 : Int) : funx Tryd.prog glR (specsOf [(10, S_next), (16, S_example)]) noLoops Tryd.f17 [.v (.agg #[.int .i64 a, .int .i64 si]), .v (.int .i64 want), .v (.agg #[.int .i64 a2, .int .i64 s2])] = .ok (.v (.bool (((nE (7 : Int) (6 : Int) (16 : Int) (4 : Int) (0 : Int) a si want) == 0) && (((nA (7 : Int) (6 : Int) (16 : Int) (4 : Int) (0 : Int) a si want) == a2) && ((nS (7 : Int) (6 : Int) (16 : Int) (4 : Int) (0 : Int) a si want) == s2))))) := by kernel_rfl
theorem v_gives : Valid Tryd.prog glR 17 S_gives := valid_of Tryd.func17 rfl (specs_ok (l := [(10, S_next), (16, S_example)]) ⟨v_next, v_example, trivial⟩) (no_loops (by kernel_rfl)) (fun args lv h => by
  unfold S_gives at h
  split at h
  · rw [nf_gives]
    exact h
  · cases h)
def S_head : List LV → T LV
  | [] => .ok (.v (.bool true))
  | _ => .no
theorem nf_head  : funx Tryd.prog glR (specsOf [(10, S_next), (12, S_rav), (16, S_example), (17, S_gives)]) noLoops Tryd.f9 [] = .ok (.v (.bool (((((nE (7 : Int) (6 : Int) (16 : Int) (4 : Int) (0 : Int) (7 : Int) (0 : Int) (16 : Int)) == 1) && (((nE (7 : Int) (6 : Int) (16 : Int) (4 : Int) (0 : Int) (0 : Int) (0 : Int) (81 : Int)) == 1) && ((raB (7 : Int) (6 : Int) (16 : Int) (4 : Int) (0 : Int) (14 : Int) (0 : Int)) && (!(raB (7 : Int) (6 : Int) (16 : Int) (4 : Int) (0 : Int) (18 : Int) (0 : Int)))))) && (((nE 7 6 16 4 0 (0 : Int) (5 : Int) (16 : Int) == 0) && ((nA 7 6 16 4 0 (0 : Int) (5 : Int) (16 : Int) == (6 : Int)) && (nS 7 6 16 4 0 (0 : Int) (5 : Int) (16 : Int) == (0 : Int)))) && (((nE 7 6 16 4 0 (6 : Int) (0 : Int) (16 : Int) == 0) && ((nA 7 6 16 4 0 (6 : Int) (0 : Int) (16 : Int) == (10 : Int)) && (nS 7 6 16 4 0 (6 : Int) (0 : Int) (16 : Int) == (1 : Int)))) && ((nE 7 6 16 4 0 (10 : Int) (1 : Int) (9 : Int) == 0) && ((nA 7 6 16 4 0 (10 : Int) (1 : Int) (9 : Int) == (6 : Int)) && (nS 7 6 16 4 0 (10 : Int) (1 : Int) (9 : Int) == (2 : Int))))))) && (((nE 7 6 16 4 0 (6 : Int) (2 : Int) (5 : Int) == 0) && ((nA 7 6 16 4 0 (6 : Int) (2 : Int) (5 : Int) == (0 : Int)) && (nS 7 6 16 4 0 (6 : Int) (2 : Int) (5 : Int) == (0 : Int)))) && (((nE 7 6 16 4 0 (0 : Int) (0 : Int) (16 : Int) == 0) && ((nA 7 6 16 4 0 (0 : Int) (0 : Int) (16 : Int) == (0 : Int)) && (nS 7 6 16 4 0 (0 : Int) (0 : Int) (16 : Int) == (1 : Int)))) && ((nE 7 6 16 4 0 (0 : Int) (4 : Int) (16 : Int) == 0) && ((nA 7 6 16 4 0 (0 : Int) (4 : Int) (16 : Int) == (0 : Int)) && (nS 7 6 16 4 0 (0 : Int) (4 : Int) (16 : Int) == (5 : Int))))))))) := by kernel_rfl
theorem v_head : Valid Tryd.prog glR 9 S_head := valid_of Tryd.func9 rfl (specs_ok (l := [(10, S_next), (12, S_rav), (16, S_example), (17, S_gives)]) ⟨v_next, v_rav, v_example, v_gives, trivial⟩) (no_loops (by kernel_rfl)) (fun args lv h => by
  unfold S_head at h
  split at h
  · rw [nf_head]
    obtain rfl := h
    exact congrArg (fun z => LV.v (.bool z)) (by decide)
  · cases h)
def S_match : List LV → T LV
  | [.v (.agg ⟨[.string nm, .int .i64 at_, .int .i64 ph, .int .i64 mn, .int .i64 mx, .int .i64 st, .int .i64 fb, .int .i64 ow]⟩), .v (.agg ⟨[.int .i64 a, .int .i64 si]⟩), .v (.int .i64 want)] => .ok (.v (.bool true))
  | _ => .no
theorem nf_match (nm : ByteArray) (at_ ph mn mx st fb ow a si want : Int) : funx Tryd.prog glR (specsOf [(9, S_head), (10, S_next), (11, S_rnext), (12, S_rav), (13, S_rrv)]) noLoops Tryd.f3 [.v (.agg #[.string nm, .int .i64 at_, .int .i64 ph, .int .i64 mn, .int .i64 mx, .int .i64 st, .int .i64 fb, .int .i64 ow]), .v (.agg #[.int .i64 a, .int .i64 si]), .v (.int .i64 want)] = .ok (.v (.bool (true && ((((nA ph mn mx st fb a si want) == (nA ph mn mx st fb a si want)) && ((nS ph mn mx st fb a si want) == (nS ph mn mx st fb a si want))) && (((nE ph mn mx st fb a si want) == (nE ph mn mx st fb a si want)) && ((raB ph mn mx st fb a si) == (raB ph mn mx st fb a si))))))) := by kernel_rfl
theorem v_match : Valid Tryd.prog glR 3 S_match := valid_of Tryd.func3 rfl (specs_ok (l := [(9, S_head), (10, S_next), (11, S_rnext), (12, S_rav), (13, S_rrv)]) ⟨v_head, v_next, v_rnext, v_rav, v_rrv, trivial⟩) (no_loops (by kernel_rfl)) (fun args lv h => by
  unfold S_match at h
  split at h
  · rw [nf_match]
    obtain rfl := h
    simp [T.all]
  · cases h)
end Go.Proofs.YtgghdejgfihkcaaDoor
