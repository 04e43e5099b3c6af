/- ChargerValid: what it computes. -/
import Derived.Test.YtiejmafkbfiekaaDoorCq
namespace Go.Proofs.YtiejmafkbfiekaaDoor
open Go.Sx
def S_va : List LV → T LV
  | [.v (.agg ⟨[.string nm, .int .i64 at_, .int .i64 ph, .int .i64 mn, .int .i64 mx, .int .i64 st, .int .i64 fb, .int .i64 ow]⟩), .v (.agg ⟨[.int .i64 sp, .int .i64 sa, .int .i64 sl, .bool sw]⟩), .v (.agg ⟨[.int .i64 ek, .int .i64 en, .int .i64 em]⟩)] => .ok (.v (.bool true))
  | _ => .no
theorem nf_va (nm : ByteArray) (at_ ph mn mx st fb ow sp sa sl : Int) (sw : Bool) (ek en em : Int) : funx Tryd.prog glC (specsOf [(10, S_head), (11, S_step), (14, S_rv), (15, S_alw)]) noK noLoops Tryd.f6 [.v (.agg #[.string nm, .int .i64 at_, .int .i64 ph, .int .i64 mn, .int .i64 mx, .int .i64 st, .int .i64 fb, .int .i64 ow]), .v (.agg #[.int .i64 sp, .int .i64 sa, .int .i64 sl, .bool sw]), .v (.agg #[.int .i64 ek, .int .i64 en, .int .i64 em])] = .br (!(stB ph mn mx st fb sp sa sl sw)) (.ok (.v (.bool true))) (.ok (.v (.bool ((true && ((decide ((alF ph mn mx st fb sp sa sl sw) ≥ 0)) && ((decide ((alF ph mn mx st fb sp sa sl sw) ≤ mx)) && (if (nE ph mn mx st fb sp sa sl sw ek en em) == 0 then (stB ph mn mx st fb (nP ph mn mx st fb sp sa sl sw ek en em) (nA ph mn mx st fb sp sa sl sw ek en em) (nL ph mn mx st fb sp sa sl sw ek en em) (nW ph mn mx st fb sp sa sl sw ek en em)) || (((nE ph mn mx st fb sp sa sl sw ek en em) != 0) && (((nP ph mn mx st fb sp sa sl sw ek en em) == 0) && (((nA ph mn mx st fb sp sa sl sw ek en em) == 0) && (((nL ph mn mx st fb sp sa sl sw ek en em) == 0) && ((nW ph mn mx st fb sp sa sl sw ek en em) == false))))) else ((nE ph mn mx st fb sp sa sl sw ek en em) != 0) && (((nP ph mn mx st fb sp sa sl sw ek en em) == 0) && (((nA ph mn mx st fb sp sa sl sw ek en em) == 0) && (((nL ph mn mx st fb sp sa sl sw ek en em) == 0) && ((nW ph mn mx st fb sp sa sl sw ek en em) == false)))))))) && (((nE ph mn mx st fb sp sa sl sw ek en em) == 0) || ((ek != 8) && ((ek != 9) && (!((ek == 7) && ((decide (en ≥ 0)) && ((decide (en ≤ mx)) && ((decide (em ≥ 1)) && (decide (em ≤ 1000000)))))))))))))) := by kernel_rfl
theorem v_va : Valid Tryd.prog glC 6 S_va := valid_of Tryd.func6 rfl (specs_ok (l := [(10, S_head), (11, S_step), (14, S_rv), (15, S_alw)]) ⟨v_head, v_step, v_rv, v_alw, trivial⟩) noK_sound (no_loops (by kernel_rfl)) (fun args lv h => by
  unfold S_va at h
  split at h
  · rw [nf_va]
    rename_i nm at_ ph mn mx st fb ow sp sa sl sw ek en em
    obtain rfl := h
    refine ⟨fun _ => rfl, fun h1 => ?_⟩
    refine congrArg (fun z => LV.v (.bool z)) ?_
    have hs : stP ph mn mx st fb sp sa sl sw := stB_iff.1 (by simpa using h1)
    have hb := alF_bound hs
    by_cases he : nE ph mn mx st fb sp sa sl sw ek en em = 0
    · obtain ⟨e1, e2, e3, e4⟩ := step_eqs he
      have hn := stB_iff.2 (st_next he)
      rw [he, e1, e2, e3, e4, hn]
      simp [hb]
    · obtain ⟨e1, e2, e3, e4⟩ := step_zero he
      have h8 : ek ≠ 8 := fun e => he (accepted hs (.inl e))
      have h9 : ek ≠ 9 := fun e => he (accepted hs (.inr (.inl e)))
      have h7 : ¬ (ek = 7 ∧ 0 ≤ en ∧ en ≤ mx ∧ 1 ≤ em ∧ em ≤ 1000000) := fun e => he (accepted hs (.inr (.inr e)))
      rw [e1, e2, e3, e4]
      simp [hb, he, h8, h9]
      omega
  · cases h)
end Go.Proofs.YtiejmafkbfiekaaDoor
