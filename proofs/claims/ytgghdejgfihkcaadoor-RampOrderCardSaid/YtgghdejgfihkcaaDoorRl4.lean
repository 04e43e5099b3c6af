/- RampOrder: what it computes. -/
import Derived.Test.YtgghdejgfihkcaaDoorRq
namespace Go.Proofs.YtgghdejgfihkcaaDoor
open Go.Sx
def S_ord : List LV → T LV
  | [.v (.agg ⟨[.string nm, .int .i64 at_, .int .i64 ph, .int .i64 mn, .int .i64 mx, .int .i64 st, .int .i64 fb, .int .i64 ow]⟩), .v (.agg ⟨[.int .i64 a, .int .i64 si]⟩), .v (.int .i64 want), .v (.int .i64 more)] => .ok (.v (.bool true))
  | _ => .no
theorem nf_ord (nm : ByteArray) (at_ ph mn mx st fb ow a si want more : Int) : funx Tryd.prog glR (specsOf [(9, S_head), (10, S_next), (13, S_rrv)]) noLoops Tryd.f7 [.v (.agg #[.string nm, .int .i64 at_, .int .i64 ph, .int .i64 mn, .int .i64 mx, .int .i64 st, .int .i64 fb, .int .i64 ow]), .v (.agg #[.int .i64 a, .int .i64 si]), .v (.int .i64 want), .v (.int .i64 more)] = .br ((!(raB ph mn mx st fb a si)) || ((decide (want < 0)) || ((decide (more < 0)) || ((decide (want > 80)) || (decide (more > (IntKind.i64.wrap (80 - want)))))))) (.ok (.v (.bool true))) (.req (st ≠ 0) (.ok (.v (.bool (true && (((nE ph mn mx st fb a si want) == 0) && (((nE ph mn mx st fb a si (IntKind.i64.wrap (want + more))) == 0) && (((nE ph mn mx st fb a si (if (IntKind.i64.wrap (a + (more.tmod st))) < 80 then IntKind.i64.wrap (a + (more.tmod st)) else 80)) == 0) && ((decide ((nA ph mn mx st fb a si want) ≤ (nA ph mn mx st fb a si (IntKind.i64.wrap (want + more))))) && ((a == 0) || (((nA ph mn mx st fb a si (if (IntKind.i64.wrap (a + (more.tmod st))) < 80 then IntKind.i64.wrap (a + (more.tmod st)) else 80)) == a) && ((nS ph mn mx st fb a si (if (IntKind.i64.wrap (a + (more.tmod st))) < 80 then IntKind.i64.wrap (a + (more.tmod st)) else 80)) == (if (IntKind.i64.wrap (si + 1)) < 1000000 then IntKind.i64.wrap (si + 1) else 1000000))))))))))))) := by kernel_rfl
theorem v_ord : Valid Tryd.prog glR 7 S_ord := valid_of Tryd.func7 rfl (specs_ok (l := [(9, S_head), (10, S_next), (13, S_rrv)]) ⟨v_head, v_next, v_rrv, trivial⟩) (no_loops (by kernel_rfl)) (fun args lv h => by
  unfold S_ord at h
  split at h
  · rw [nf_ord]
    rename_i nm at_ ph mn mx st fb ow a si want more
    obtain rfl := h
    refine ⟨fun _ => rfl, fun hk => ?_⟩
    simp only [Bool.or_eq_false_iff, Bool.not_eq_false', decide_eq_false_iff_not] at hk
    obtain ⟨hr, h1, h2, h3, h4⟩ := hk
    rw [wrapS (x := 80 - want) (by omega) (by omega)] at h4
    have hk1 : okB ph mn mx st fb a si want = true := okB_of hr (by omega) (by omega)
    have hk2 : okB ph mn mx st fb a si (want + more) = true := okB_of hr (by omega) (by omega)
    obtain ⟨hc, h5, h6, h7, h8, h9, h10, h11, h12, h13⟩ := okB_more hk1
    have hc' := hc
    unfold chP at hc'
    refine ⟨by omega, ?_⟩
    refine congrArg (fun z => LV.v (.bool z)) ?_
    have hm := Int.emod_nonneg more (b := st) (by omega)
    have hm2 := Int.emod_lt_of_pos more (b := st) (by omega)
    rw [Int.tmod_eq_emod_of_nonneg (by omega), wrapS (x := want + more) (by omega) (by omega), wrapS (x := a + more % st) (by omega) (by omega), wrapS (x := si + 1) (by omega) (by omega)]
    have hk3 : okB ph mn mx st fb a si (if a + more % st < 80 then a + more % st else 80) = true := okB_of hr (by split <;> omega) (by split <;> omega)
    rw [nE_ok hk1, nE_ok hk2, nE_ok hk3]
    have hmono := nA_mono hk1 hk2 (by omega)
    have hsame := nA_same hk3
    simp only [Bool.true_and, beq_self_eq_true, Bool.and_eq_true, decide_eq_true_eq, Bool.or_eq_true, beq_iff_eq]
    refine ⟨hmono, ?_⟩
    by_cases h0 : a = 0
    · exact .inl h0
    · right
      obtain ⟨e1, e2⟩ := hsame h0 (by split <;> omega) (by split <;> omega)
      refine ⟨e1, ?_⟩
      rw [e2]
      omega
  · cases h)
end Go.Proofs.YtgghdejgfihkcaaDoor
