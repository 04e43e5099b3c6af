/- ChargerMatchesReference: what it computes. -/
import Derived.Test.YtiejmafkbfiekaaDoorCq
namespace Go.Proofs.YtiejmafkbfiekaaDoor
open Go.Sx
def S_mr : List LV → T LV
  | [.v (.agg ⟨[.string nm, .int .i64 at_, .int .i64 ph, .int .i64 mn, .int .i64 mx, .int .i64 st, .int .i64 fb, .int .i64 ow]⟩), .v (.agg ⟨[.int .i64 sp, .int .i64 sa, .int .i64 sl, .bool sw]⟩), .v (.agg ⟨[.int .i64 ek, .int .i64 en, .int .i64 em]⟩)] => .ok (.v (.bool true))
  | _ => .no
theorem nf_mr (nm : ByteArray) (at_ ph mn mx st fb ow sp sa sl : Int) (sw : Bool) (ek en em : Int) : funx Tryd.prog glC (specsOf [(10, S_head), (11, S_step), (12, S_rstep), (13, S_chv), (14, S_rv), (15, S_alw), (16, S_ralw), (17, S_start)]) noK noLoops Tryd.f3 [.v (.agg #[.string nm, .int .i64 at_, .int .i64 ph, .int .i64 mn, .int .i64 mx, .int .i64 st, .int .i64 fb, .int .i64 ow]), .v (.agg #[.int .i64 sp, .int .i64 sa, .int .i64 sl, .bool sw]), .v (.agg #[.int .i64 ek, .int .i64 en, .int .i64 em])] = .ok (.v (.bool (true && ((((nP ph mn mx st fb sp sa sl sw ek en em) == (nP ph mn mx st fb sp sa sl sw ek en em)) && (((nA ph mn mx st fb sp sa sl sw ek en em) == (nA ph mn mx st fb sp sa sl sw ek en em)) && (((nL ph mn mx st fb sp sa sl sw ek en em) == (nL ph mn mx st fb sp sa sl sw ek en em)) && ((nW ph mn mx st fb sp sa sl sw ek en em) == (nW ph mn mx st fb sp sa sl sw ek en em))))) && (((nE ph mn mx st fb sp sa sl sw ek en em) == (nE ph mn mx st fb sp sa sl sw ek en em)) && (((stB ph mn mx st fb sp sa sl sw) == (stB ph mn mx st fb sp sa sl sw)) && (((alF ph mn mx st fb sp sa sl sw) == (alF ph mn mx st fb sp sa sl sw)) && (((0 : Int) == 0) && (((0 : Int) == 0) && (((0 : Int) == 0) && (false == false))))))))))) := by kernel_rfl
theorem v_mr : Valid Tryd.prog glC 3 S_mr := valid_of Tryd.func3 rfl (specs_ok (l := [(10, S_head), (11, S_step), (12, S_rstep), (13, S_chv), (14, S_rv), (15, S_alw), (16, S_ralw), (17, S_start)]) ⟨v_head, v_step, v_rstep, v_chv, v_rv, v_alw, v_ralw, v_start, trivial⟩) noK_sound (no_loops (by kernel_rfl)) (fun args lv h => by
  unfold S_mr at h
  split at h
  · rw [nf_mr]
    obtain rfl := h
    simp [T.all]
  · cases h)
end Go.Proofs.YtiejmafkbfiekaaDoor
