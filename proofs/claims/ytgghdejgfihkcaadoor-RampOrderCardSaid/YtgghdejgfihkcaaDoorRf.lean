/- Functions of the packages charger and ramp: what they compute, by the executor. -/
import Derived.Test.YtgghdejgfihkcaaDoorRp
namespace Go.Proofs.YtgghdejgfihkcaaDoor
open Go.Sx
def glR : Globs := fun
  | 0 => some (8, fun j => .int .i64 (match j with | 0 => 1 | 1 => 1 | 2 => 1 | 3 => 0 | 4 => 2 | 5 => 2 | 6 => 3 | _ => 3))
  | _ => none
def S_inside : List LV → T LV
  | [.v (.int .i64 n), .v (.int .i64 a), .v (.int .i64 b)] => .ok (.v (.bool (inB n a b)))
  | _ => .no
theorem nf_inside (n a b : Int) : funx Tryd.prog glR (specsOf []) noLoops Tryd.f28 [.v (.int .i64 n), .v (.int .i64 a), .v (.int .i64 b)] = .ok (.v (.bool ((decide (n ≥ a)) && (decide (n ≤ b))))) := by kernel_rfl
theorem v_inside : Valid Tryd.prog glR 28 S_inside := valid_of Tryd.func28 rfl (specs_ok (l := []) trivial) (no_loops (by kernel_rfl)) (fun args lv h => by
  unfold S_inside at h
  split at h
  · rw [nf_inside]
    exact h
  · cases h)
def S_vch : List LV → T LV
  | [.v (.agg ⟨[.string nm, .int .i64 at_, .int .i64 ph, .int .i64 mn, .int .i64 mx, .int .i64 st, .int .i64 fb, .int .i64 ow]⟩)] => .ok (.v (.bool (chB ph mn mx st fb)))
  | _ => .no
theorem nf_vch (nm : ByteArray) (at_ ph mn mx st fb ow : Int) : funx Tryd.prog glR (specsOf [(28, S_inside)]) noLoops Tryd.f27 [.v (.agg #[.string nm, .int .i64 at_, .int .i64 ph, .int .i64 mn, .int .i64 mx, .int .i64 st, .int .i64 fb, .int .i64 ow])] = .ok (.v (.bool ((inB ph (1 : Int) (7 : Int)) && ((inB mn (1 : Int) (80 : Int)) && ((inB mx (1 : Int) (80 : Int)) && ((inB st (1 : Int) (80 : Int)) && ((decide (mn ≤ mx)) && ((fb == 0) || (inB fb mn mx))))))))) := by kernel_rfl
theorem v_vch : Valid Tryd.prog glR 27 S_vch := valid_of Tryd.func27 rfl (specs_ok (l := [(28, S_inside)]) ⟨v_inside, trivial⟩) (no_loops (by kernel_rfl)) (fun args lv h => by
  unfold S_vch at h
  split at h
  · rw [nf_vch]
    exact h
  · cases h)
noncomputable def S_start : List LV → T LV := fun l => funx Tryd.prog glR (specsOf []) noLoops Tryd.f26 l
theorem v_start : Valid Tryd.prog glR 26 S_start := valid_of Tryd.func26 rfl (specs_ok (l := []) trivial) (no_loops (by kernel_rfl)) (fun _ _ h => h)
def S_chv : List LV → T LV
  | [.v (.agg ⟨[.string nm, .int .i64 at_, .int .i64 ph, .int .i64 mn, .int .i64 mx, .int .i64 st, .int .i64 fb, .int .i64 ow]⟩), .v (.agg ⟨[.int .i64 0, .int .i64 0, .int .i64 0, .bool false]⟩)] => .ok (.v (.bool (chB ph mn mx st fb)))
  | _ => .no
theorem nf_chv (nm : ByteArray) (at_ ph mn mx st fb ow : Int) : funx Tryd.prog glR (specsOf [(26, S_start), (27, S_vch), (28, S_inside)]) noLoops Tryd.f25 [.v (.agg #[.string nm, .int .i64 at_, .int .i64 ph, .int .i64 mn, .int .i64 mx, .int .i64 st, .int .i64 fb, .int .i64 ow]), .v (.agg #[.int .i64 0, .int .i64 0, .int .i64 0, .bool false])] = .br (!(chB ph mn mx st fb)) (.ok (.v (.bool false))) (.br (((0 : Int) == 0) && (((0 : Int) == 0) && (((0 : Int) == 0) && (false == false)))) (.ok (.v (.bool true))) (.ok (.v (.bool ((inB (0 : Int) (0 : Int) (5 : Int)) && ((inB (0 : Int) (0 : Int) (1000000 : Int)) && ((inB (0 : Int) (0 : Int) mx) && (if (0 : Int) != 0 then (!false) || ((0 : Int) == 5) else ((0 : Int) == 0) && ((!false) || ((0 : Int) == 5)))))))))) := by kernel_rfl
theorem v_chv : Valid Tryd.prog glR 25 S_chv := valid_of Tryd.func25 rfl (specs_ok (l := [(26, S_start), (27, S_vch), (28, S_inside)]) ⟨v_start, v_vch, v_inside, trivial⟩) (no_loops (by kernel_rfl)) (fun args lv h => by
  unfold S_chv at h
  split at h
  · rw [nf_chv]
    obtain rfl := h
    refine ⟨fun hb => ?_, fun hb => ⟨fun _ => ?_, fun hf => absurd hf (by decide)⟩⟩
    · show LV.v (.bool false) = _
      rw [show chB _ _ _ _ _ = false by simpa using hb]
    · show LV.v (.bool true) = _
      rw [show chB _ _ _ _ _ = true by simpa using hb]
  · cases h)
def S_below : List LV → T LV
  | [.v (.agg ⟨[.string nm, .int .i64 at_, .int .i64 ph, .int .i64 mn, .int .i64 mx, .int .i64 st, .int .i64 fb, .int .i64 ow]⟩), .v (.int .i64 am)] => .req (chP mn mx st) (.ok (.v (.int .i64 (lvl mn mx st am))))
  | _ => .no
theorem nf_below (nm : ByteArray) (at_ ph mn mx st fb ow am : Int) : funx Tryd.prog glR (specsOf []) noLoops Tryd.f18 [.v (.agg #[.string nm, .int .i64 at_, .int .i64 ph, .int .i64 mn, .int .i64 mx, .int .i64 st, .int .i64 fb, .int .i64 ow]), .v (.int .i64 am)] = .br (decide (am < mn)) (.ok (.v (.int .i64 0))) (.req (st ≠ 0) (.ok (.v (.int .i64 (IntKind.i64.wrap ((if mx < am then mx else am) - ((IntKind.i64.wrap ((if mx < am then mx else am) - mn)).tmod st))))))) := by kernel_rfl
theorem v_below : Valid Tryd.prog glR 18 S_below := valid_of Tryd.func18 rfl (specs_ok (l := []) trivial) (no_loops (by kernel_rfl)) (fun args lv h => by
  unfold S_below at h
  split at h
  · rw [nf_below]
    obtain ⟨hc, rfl⟩ := h
    refine ⟨fun hb => ?_, fun hb => ⟨by unfold chP at hc; omega, ?_⟩⟩
    · exact congrArg (fun z => LV.v (.int .i64 z)) (below0 (by simpa using hb))
    · exact congrArg (fun z => LV.v (.int .i64 z)) (below1 hc (by simpa using hb))
  · cases h)
def S_rav : List LV → T LV
  | [.v (.agg ⟨[.string nm, .int .i64 at_, .int .i64 ph, .int .i64 mn, .int .i64 mx, .int .i64 st, .int .i64 fb, .int .i64 ow]⟩), .v (.agg ⟨[.int .i64 a, .int .i64 si]⟩)] => .ok (.v (.bool (raB ph mn mx st fb a si)))
  | _ => .no
theorem nf_rav (nm : ByteArray) (at_ ph mn mx st fb ow a si : Int) : funx Tryd.prog glR (specsOf [(18, S_below), (25, S_chv), (26, S_start)]) noLoops Tryd.f12 [.v (.agg #[.string nm, .int .i64 at_, .int .i64 ph, .int .i64 mn, .int .i64 mx, .int .i64 st, .int .i64 fb, .int .i64 ow]), .v (.agg #[.int .i64 a, .int .i64 si])] = .br ((!(chB ph mn mx st fb)) || ((decide (si < 0)) || ((decide (si > 1000000)) || (decide (a < 0))))) (.ok (.v (.bool false))) (.req (chP mn mx st) (.ok (.v (.bool ((lvl mn mx st a) == a))))) := by kernel_rfl
theorem v_rav : Valid Tryd.prog glR 12 S_rav := valid_of Tryd.func12 rfl (specs_ok (l := [(18, S_below), (25, S_chv), (26, S_start)]) ⟨v_below, v_chv, v_start, trivial⟩) (no_loops (by kernel_rfl)) (fun args lv h => by
  unfold S_rav at h
  split at h
  · rw [nf_rav]
    obtain rfl := h
    refine ⟨fun hb => ?_, fun hb => ⟨?_, ?_⟩⟩
    · exact congrArg (fun z => LV.v (.bool z)) (rav0 hb)
    · exact (rav1 hb).1
    · exact congrArg (fun z => LV.v (.bool z)) (rav1 hb).2
  · cases h)
def S_index : List LV → T LV
  | [.v (.bool b)] => .ok (.v (.int .i64 (if b then (1 : Int) else 0)))
  | _ => .no
theorem nf_index (b : Bool) : funx Tryd.prog glR (specsOf []) noLoops Tryd.f23 [.v (.bool b)] = .br b (.ok (.v (.int .i64 1))) (.ok (.v (.int .i64 0))) := by kernel_rfl
theorem v_index : Valid Tryd.prog glR 23 S_index := valid_of Tryd.func23 rfl (specs_ok (l := []) trivial) (no_loops (by kernel_rfl)) (fun args lv h => by
  unfold S_index at h
  split at h
  · rw [nf_index]
    rename_i b
    obtain rfl := h
    cases b
    · exact ⟨fun hb => (by cases hb), fun _ => rfl⟩
    · exact ⟨fun _ => rfl, fun hb => (by cases hb)⟩
  · cases h)
noncomputable def S_next1 : List LV → T LV := fun l => funx Tryd.prog glR (specsOf []) noLoops Tryd.f19 l
theorem v_next1 : Valid Tryd.prog glR 19 S_next1 := valid_of Tryd.func19 rfl (specs_ok (l := []) trivial) (no_loops (by kernel_rfl)) (fun _ _ h => h)
noncomputable def S_next2 : List LV → T LV := fun l => funx Tryd.prog glR (specsOf []) noLoops Tryd.f20 l
theorem v_next2 : Valid Tryd.prog glR 20 S_next2 := valid_of Tryd.func20 rfl (specs_ok (l := []) trivial) (no_loops (by kernel_rfl)) (fun _ _ h => h)
noncomputable def S_next3 : List LV → T LV := fun l => funx Tryd.prog glR (specsOf []) noLoops Tryd.f21 l
theorem v_next3 : Valid Tryd.prog glR 21 S_next3 := valid_of Tryd.func21 rfl (specs_ok (l := []) trivial) (no_loops (by kernel_rfl)) (fun _ _ h => h)
noncomputable def S_next4 : List LV → T LV := fun l => funx Tryd.prog glR (specsOf []) noLoops Tryd.f22 l
theorem v_next4 : Valid Tryd.prog glR 22 S_next4 := valid_of Tryd.func22 rfl (specs_ok (l := []) trivial) (no_loops (by kernel_rfl)) (fun _ _ h => h)
def S_next : List LV → T LV
  | [.v (.agg ⟨[.string nm, .int .i64 at_, .int .i64 ph, .int .i64 mn, .int .i64 mx, .int .i64 st, .int .i64 fb, .int .i64 ow]⟩), .v (.agg ⟨[.int .i64 a, .int .i64 si]⟩), .v (.int .i64 want)] => .ok (.v (.tuple #[.agg #[.int .i64 (nA ph mn mx st fb a si want), .int .i64 (nS ph mn mx st fb a si want)], .int .i64 (nE ph mn mx st fb a si want)]))
  | _ => .no
theorem nf_next (nm : ByteArray) (at_ ph mn mx st fb ow a si want : Int) : funx Tryd.prog glR (specsOf [(12, S_rav), (18, S_below), (19, S_next1), (20, S_next2), (21, S_next3), (22, S_next4), (23, S_index)]) noLoops Tryd.f10 [.v (.agg #[.string nm, .int .i64 at_, .int .i64 ph, .int .i64 mn, .int .i64 mx, .int .i64 st, .int .i64 fb, .int .i64 ow]), .v (.agg #[.int .i64 a, .int .i64 si]), .v (.int .i64 want)] = .br ((!(raB ph mn mx st fb a si)) || ((decide (want < 0)) || (decide (want > 80)))) (.ok (.v (.tuple #[.agg #[.int .i64 0, .int .i64 0], .int .i64 1]))) (.req (chP mn mx st) (.br ((if (a != 0) then (1 : Int) else 0) == 0) (.br ((if ((lvl mn mx st want) != 0) then (1 : Int) else 0) == 0) (.br ((if (decide (si ≥ 5)) then (1 : Int) else 0) == 0) (.br ((1 : Int) == 0) (.ok (.v (.tuple #[.agg #[.int .i64 mn, .int .i64 0], .int .i64 0]))) (.br ((1 : Int) == 1) (.ok (.v (.tuple #[.agg #[.int .i64 0, .int .i64 (if (1000000 : Int) < (IntKind.i64.wrap (si + 1)) then 1000000 else IntKind.i64.wrap (si + 1))], .int .i64 0]))) (.br ((1 : Int) == 2) (.ok (.v (.tuple #[.agg #[.int .i64 0, .int .i64 0], .int .i64 0]))) (.br ((1 : Int) == 3) (.ok (.v (.tuple #[.agg #[.int .i64 (if (IntKind.i64.wrap (a + st)) < (lvl mn mx st want) then IntKind.i64.wrap (a + st) else lvl mn mx st want), .int .i64 (if (1000000 : Int) < (IntKind.i64.wrap (si + 1)) then 1000000 else IntKind.i64.wrap (si + 1))], .int .i64 0]))) (.no))))) (.br ((if (decide (si ≥ 5)) then (1 : Int) else 0) == 1) (.br ((1 : Int) == 0) (.ok (.v (.tuple #[.agg #[.int .i64 mn, .int .i64 0], .int .i64 0]))) (.br ((1 : Int) == 1) (.ok (.v (.tuple #[.agg #[.int .i64 0, .int .i64 (if (1000000 : Int) < (IntKind.i64.wrap (si + 1)) then 1000000 else IntKind.i64.wrap (si + 1))], .int .i64 0]))) (.br ((1 : Int) == 2) (.ok (.v (.tuple #[.agg #[.int .i64 0, .int .i64 0], .int .i64 0]))) (.br ((1 : Int) == 3) (.ok (.v (.tuple #[.agg #[.int .i64 (if (IntKind.i64.wrap (a + st)) < (lvl mn mx st want) then IntKind.i64.wrap (a + st) else lvl mn mx st want), .int .i64 (if (1000000 : Int) < (IntKind.i64.wrap (si + 1)) then 1000000 else IntKind.i64.wrap (si + 1))], .int .i64 0]))) (.no))))) (.no))) (.br ((if ((lvl mn mx st want) != 0) then (1 : Int) else 0) == 1) (.br ((if (decide (si ≥ 5)) then (1 : Int) else 0) == 0) (.br ((1 : Int) == 0) (.ok (.v (.tuple #[.agg #[.int .i64 mn, .int .i64 0], .int .i64 0]))) (.br ((1 : Int) == 1) (.ok (.v (.tuple #[.agg #[.int .i64 0, .int .i64 (if (1000000 : Int) < (IntKind.i64.wrap (si + 1)) then 1000000 else IntKind.i64.wrap (si + 1))], .int .i64 0]))) (.br ((1 : Int) == 2) (.ok (.v (.tuple #[.agg #[.int .i64 0, .int .i64 0], .int .i64 0]))) (.br ((1 : Int) == 3) (.ok (.v (.tuple #[.agg #[.int .i64 (if (IntKind.i64.wrap (a + st)) < (lvl mn mx st want) then IntKind.i64.wrap (a + st) else lvl mn mx st want), .int .i64 (if (1000000 : Int) < (IntKind.i64.wrap (si + 1)) then 1000000 else IntKind.i64.wrap (si + 1))], .int .i64 0]))) (.no))))) (.br ((if (decide (si ≥ 5)) then (1 : Int) else 0) == 1) (.br ((0 : Int) == 0) (.ok (.v (.tuple #[.agg #[.int .i64 mn, .int .i64 0], .int .i64 0]))) (.br ((0 : Int) == 1) (.ok (.v (.tuple #[.agg #[.int .i64 0, .int .i64 (if (1000000 : Int) < (IntKind.i64.wrap (si + 1)) then 1000000 else IntKind.i64.wrap (si + 1))], .int .i64 0]))) (.br ((0 : Int) == 2) (.ok (.v (.tuple #[.agg #[.int .i64 0, .int .i64 0], .int .i64 0]))) (.br ((0 : Int) == 3) (.ok (.v (.tuple #[.agg #[.int .i64 (if (IntKind.i64.wrap (a + st)) < (lvl mn mx st want) then IntKind.i64.wrap (a + st) else lvl mn mx st want), .int .i64 (if (1000000 : Int) < (IntKind.i64.wrap (si + 1)) then 1000000 else IntKind.i64.wrap (si + 1))], .int .i64 0]))) (.no))))) (.no))) (.no))) (.br ((if (a != 0) then (1 : Int) else 0) == 1) (.br ((if ((lvl mn mx st want) != 0) then (1 : Int) else 0) == 0) (.br ((if (decide (si ≥ 5)) then (1 : Int) else 0) == 0) (.br ((2 : Int) == 0) (.ok (.v (.tuple #[.agg #[.int .i64 mn, .int .i64 0], .int .i64 0]))) (.br ((2 : Int) == 1) (.ok (.v (.tuple #[.agg #[.int .i64 0, .int .i64 (if (1000000 : Int) < (IntKind.i64.wrap (si + 1)) then 1000000 else IntKind.i64.wrap (si + 1))], .int .i64 0]))) (.br ((2 : Int) == 2) (.ok (.v (.tuple #[.agg #[.int .i64 0, .int .i64 0], .int .i64 0]))) (.br ((2 : Int) == 3) (.ok (.v (.tuple #[.agg #[.int .i64 (if (IntKind.i64.wrap (a + st)) < (lvl mn mx st want) then IntKind.i64.wrap (a + st) else lvl mn mx st want), .int .i64 (if (1000000 : Int) < (IntKind.i64.wrap (si + 1)) then 1000000 else IntKind.i64.wrap (si + 1))], .int .i64 0]))) (.no))))) (.br ((if (decide (si ≥ 5)) then (1 : Int) else 0) == 1) (.br ((2 : Int) == 0) (.ok (.v (.tuple #[.agg #[.int .i64 mn, .int .i64 0], .int .i64 0]))) (.br ((2 : Int) == 1) (.ok (.v (.tuple #[.agg #[.int .i64 0, .int .i64 (if (1000000 : Int) < (IntKind.i64.wrap (si + 1)) then 1000000 else IntKind.i64.wrap (si + 1))], .int .i64 0]))) (.br ((2 : Int) == 2) (.ok (.v (.tuple #[.agg #[.int .i64 0, .int .i64 0], .int .i64 0]))) (.br ((2 : Int) == 3) (.ok (.v (.tuple #[.agg #[.int .i64 (if (IntKind.i64.wrap (a + st)) < (lvl mn mx st want) then IntKind.i64.wrap (a + st) else lvl mn mx st want), .int .i64 (if (1000000 : Int) < (IntKind.i64.wrap (si + 1)) then 1000000 else IntKind.i64.wrap (si + 1))], .int .i64 0]))) (.no))))) (.no))) (.br ((if ((lvl mn mx st want) != 0) then (1 : Int) else 0) == 1) (.br ((if (decide (si ≥ 5)) then (1 : Int) else 0) == 0) (.br ((3 : Int) == 0) (.ok (.v (.tuple #[.agg #[.int .i64 mn, .int .i64 0], .int .i64 0]))) (.br ((3 : Int) == 1) (.ok (.v (.tuple #[.agg #[.int .i64 0, .int .i64 (if (1000000 : Int) < (IntKind.i64.wrap (si + 1)) then 1000000 else IntKind.i64.wrap (si + 1))], .int .i64 0]))) (.br ((3 : Int) == 2) (.ok (.v (.tuple #[.agg #[.int .i64 0, .int .i64 0], .int .i64 0]))) (.br ((3 : Int) == 3) (.ok (.v (.tuple #[.agg #[.int .i64 (if (IntKind.i64.wrap (a + st)) < (lvl mn mx st want) then IntKind.i64.wrap (a + st) else lvl mn mx st want), .int .i64 (if (1000000 : Int) < (IntKind.i64.wrap (si + 1)) then 1000000 else IntKind.i64.wrap (si + 1))], .int .i64 0]))) (.no))))) (.br ((if (decide (si ≥ 5)) then (1 : Int) else 0) == 1) (.br ((3 : Int) == 0) (.ok (.v (.tuple #[.agg #[.int .i64 mn, .int .i64 0], .int .i64 0]))) (.br ((3 : Int) == 1) (.ok (.v (.tuple #[.agg #[.int .i64 0, .int .i64 (if (1000000 : Int) < (IntKind.i64.wrap (si + 1)) then 1000000 else IntKind.i64.wrap (si + 1))], .int .i64 0]))) (.br ((3 : Int) == 2) (.ok (.v (.tuple #[.agg #[.int .i64 0, .int .i64 0], .int .i64 0]))) (.br ((3 : Int) == 3) (.ok (.v (.tuple #[.agg #[.int .i64 (if (IntKind.i64.wrap (a + st)) < (lvl mn mx st want) then IntKind.i64.wrap (a + st) else lvl mn mx st want), .int .i64 (if (1000000 : Int) < (IntKind.i64.wrap (si + 1)) then 1000000 else IntKind.i64.wrap (si + 1))], .int .i64 0]))) (.no))))) (.no))) (.no))) (.no)))) := by kernel_rfl
theorem v_next : Valid Tryd.prog glR 10 S_next := valid_of Tryd.func10 rfl (specs_ok (l := [(12, S_rav), (18, S_below), (19, S_next1), (20, S_next2), (21, S_next3), (22, S_next4), (23, S_index)]) ⟨v_rav, v_below, v_next1, v_next2, v_next3, v_next4, v_index, trivial⟩) (no_loops (by kernel_rfl)) (fun args lv h => by
  unfold S_next at h
  split at h
  · rw [nf_next]
    rename_i nm at_ ph mn mx st fb ow a si want
    obtain rfl := h
    by_cases hk : okB ph mn mx st fb a si want = true
    · obtain ⟨k1, k2, k3, k4, k5⟩ := okB_use hk
      have w1 : IntKind.i64.wrap (si + 1) = si + 1 := wrapS (by omega) (by omega)
      have w2 : IntKind.i64.wrap (a + st) = a + st := wrapS (by omega) (by omega)
      simp only [T.all, nA, nS, nE, k1, w1, w2, hk, ite_min, if_true]
      by_cases c1 : a = 0 <;> by_cases c2 : lvl mn mx st want = 0 <;> by_cases c3 : 5 ≤ si <;> simp [c1, c2, c3, k2]
    · have hn : (!raB ph mn mx st fb a si || (decide (want < 0) || decide (want > 80))) = true := okB_not hk
      simp only [T.all, nA, nS, nE, hk, hn]
      simp
  · cases h)
end Go.Proofs.YtgghdejgfihkcaaDoor
