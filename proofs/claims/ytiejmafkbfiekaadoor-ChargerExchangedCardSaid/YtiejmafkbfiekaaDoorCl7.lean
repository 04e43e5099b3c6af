/- ChargerExchanged: what it computes. -/
import Derived.Test.YtiejmafkbfiekaaDoorCq
namespace Go.Proofs.YtiejmafkbfiekaaDoor
open Go.Sx
def S_xc : List LV → T LV
  | [.v (.agg ⟨[.string nm, .int .i64 at_, .int .i64 ph, .int .i64 mn, .int .i64 mx, .int .i64 st, .int .i64 fb, .int .i64 ow]⟩), .v (.agg ⟨[.int .i64 sp, .int .i64 sa, .int .i64 sl, .bool sw]⟩), .v (.agg ⟨[.int .i64 ek, .int .i64 en, .int .i64 em]⟩), .v (.agg ⟨[.int .i64 bk, .int .i64 bn, .int .i64 bm]⟩)] => .ok (.v (.bool true))
  | _ => .no
theorem nf_xc (nm : ByteArray) (at_ ph mn mx st fb ow sp sa sl : Int) (sw : Bool) (ek en em bk bn bm : Int) : funx Tryd.prog glC (specsOf [(10, S_head), (11, S_step), (14, S_rv)]) noK noLoops Tryd.f9 [.v (.agg #[.string nm, .int .i64 at_, .int .i64 ph, .int .i64 mn, .int .i64 mx, .int .i64 st, .int .i64 fb, .int .i64 ow]), .v (.agg #[.int .i64 sp, .int .i64 sa, .int .i64 sl, .bool sw]), .v (.agg #[.int .i64 ek, .int .i64 en, .int .i64 em]), .v (.agg #[.int .i64 bk, .int .i64 bn, .int .i64 bm])] = .br ((!(stB ph mn mx st fb sp sa sl sw)) || ((decide (ek < 1)) || ((decide (ek > 6)) || ((bk != 7) && (bk != 8))))) (.ok (.v (.bool true))) (.br (((nE ph mn mx st fb sp sa sl sw ek en em) != 0) || ((nE ph mn mx st fb sp sa sl sw bk bn bm) != 0)) (.br ((nE ph mn mx st fb sp sa sl sw bk bn bm) == 0) (.ok (.v (.bool (true && ((nE ph mn mx st fb (nP ph mn mx st fb sp sa sl sw bk bn bm) (nA ph mn mx st fb sp sa sl sw bk bn bm) (nL ph mn mx st fb sp sa sl sw bk bn bm) (nW ph mn mx st fb sp sa sl sw bk bn bm) ek en em) == (nE ph mn mx st fb sp sa sl sw ek en em)))))) (.ok (.v (.bool true)))) (.ok (.v (.bool (true && (((nE ph mn mx st fb (nP ph mn mx st fb sp sa sl sw ek en em) (nA ph mn mx st fb sp sa sl sw ek en em) (nL ph mn mx st fb sp sa sl sw ek en em) (nW ph mn mx st fb sp sa sl sw ek en em) bk bn bm) == 0) && (((nE ph mn mx st fb (nP ph mn mx st fb sp sa sl sw bk bn bm) (nA ph mn mx st fb sp sa sl sw bk bn bm) (nL ph mn mx st fb sp sa sl sw bk bn bm) (nW ph mn mx st fb sp sa sl sw bk bn bm) ek en em) == 0) && (((nP ph mn mx st fb (nP ph mn mx st fb sp sa sl sw ek en em) (nA ph mn mx st fb sp sa sl sw ek en em) (nL ph mn mx st fb sp sa sl sw ek en em) (nW ph mn mx st fb sp sa sl sw ek en em) bk bn bm) == (nP ph mn mx st fb (nP ph mn mx st fb sp sa sl sw bk bn bm) (nA ph mn mx st fb sp sa sl sw bk bn bm) (nL ph mn mx st fb sp sa sl sw bk bn bm) (nW ph mn mx st fb sp sa sl sw bk bn bm) ek en em)) && (((nA ph mn mx st fb (nP ph mn mx st fb sp sa sl sw ek en em) (nA ph mn mx st fb sp sa sl sw ek en em) (nL ph mn mx st fb sp sa sl sw ek en em) (nW ph mn mx st fb sp sa sl sw ek en em) bk bn bm) == (nA ph mn mx st fb (nP ph mn mx st fb sp sa sl sw bk bn bm) (nA ph mn mx st fb sp sa sl sw bk bn bm) (nL ph mn mx st fb sp sa sl sw bk bn bm) (nW ph mn mx st fb sp sa sl sw bk bn bm) ek en em)) && (((nL ph mn mx st fb (nP ph mn mx st fb sp sa sl sw ek en em) (nA ph mn mx st fb sp sa sl sw ek en em) (nL ph mn mx st fb sp sa sl sw ek en em) (nW ph mn mx st fb sp sa sl sw ek en em) bk bn bm) == (nL ph mn mx st fb (nP ph mn mx st fb sp sa sl sw bk bn bm) (nA ph mn mx st fb sp sa sl sw bk bn bm) (nL ph mn mx st fb sp sa sl sw bk bn bm) (nW ph mn mx st fb sp sa sl sw bk bn bm) ek en em)) && ((nW ph mn mx st fb (nP ph mn mx st fb sp sa sl sw ek en em) (nA ph mn mx st fb sp sa sl sw ek en em) (nL ph mn mx st fb sp sa sl sw ek en em) (nW ph mn mx st fb sp sa sl sw ek en em) bk bn bm) == (nW ph mn mx st fb (nP ph mn mx st fb sp sa sl sw bk bn bm) (nA ph mn mx st fb sp sa sl sw bk bn bm) (nL ph mn mx st fb sp sa sl sw bk bn bm) (nW ph mn mx st fb sp sa sl sw bk bn bm) ek en em)))))))))))) := by kernel_rfl
theorem v_xc : Valid Tryd.prog glC 9 S_xc := valid_of Tryd.func9 rfl (specs_ok (l := [(10, S_head), (11, S_step), (14, S_rv)]) ⟨v_head, v_step, v_rv, trivial⟩) noK_sound (no_loops (by kernel_rfl)) (fun args lv h => by
  unfold S_xc at h
  split at h
  · rw [nf_xc]
    rename_i nm at_ ph mn mx st fb ow sp sa sl sw ek en em bk bn bm
    obtain rfl := h
    refine ⟨fun _ => rfl, fun h1 => ?_⟩
    simp only [Bool.or_eq_false_iff, Bool.not_eq_false', decide_eq_false_iff_not, Bool.and_eq_false_iff, bne_eq_false_iff_eq] at h1
    obtain ⟨h1, h2, h3, h4⟩ := h1
    have hs : stP ph mn mx st fb sp sa sl sw := stB_iff.1 h1
    obtain ⟨q1, q2⟩ := same_phase (sp := sp) (sw := sw) (bn := bn) h4
    refine ⟨fun h5 => ⟨fun h6 => ?_, fun _ => rfl⟩, fun h5 => ?_⟩
    · have hb : nE ph mn mx st fb sp sa sl sw bk bn bm = 0 := by simpa using h6
      obtain ⟨e1, e2, e3, e4⟩ := step_eqs hb
      have hn := st_next hb
      refine congrArg (fun z => LV.v (.bool z)) ?_
      rw [e1, e2, e3, e4, nE_val hn, nE_val hs, q1, q2]
      simp
    · simp only [Bool.or_eq_false_iff, bne_eq_false_iff_eq] at h5
      obtain ⟨ha, hb⟩ := h5
      obtain ⟨e1, e2, e3, e4⟩ := step_eqs hb
      obtain ⟨f1, f2, f3, f4⟩ := step_eqs ha
      have hnb := st_next hb
      have hna := st_next ha
      obtain ⟨a1, a2, a3, a4, a5⟩ := nE_ok ha
      obtain ⟨b1, b2, b3, b4, b5⟩ := nE_ok hb
      obtain ⟨r1, r2⟩ := same_phase (sp := phF sp sw ek en) (sw := cW sw ek en) (bn := bn) h4
      have hab : nE ph mn mx st fb (phF sp sw ek en) (cA sa sl ek en) (cL sl ek em) (cW sw ek en) bk bn bm = 0 := nE_is hna ⟨b2, b3⟩ b4 (by rw [r1]; exact a5)
      have hba : nE ph mn mx st fb (phF sp sw bk bn) (cA sa sl bk bn) (cL sl bk bm) (cW sw bk bn) ek en em = 0 := nE_is hnb ⟨a2, a3⟩ a4 (by rw [q1, q2]; exact a5)
      refine congrArg (fun z => LV.v (.bool z)) ?_
      rw [e1, e2, e3, e4, f1, f2, f3, f4, hab, hba]
      obtain ⟨s1, s2, s3, s4⟩ := step_eqs hab
      obtain ⟨t1, t2, t3, t4⟩ := step_eqs hba
      obtain ⟨u1, u2⟩ := same_lease (sa := sa) (sl := sl) (en := en) (em := em) (show 1 ≤ ek by omega) (show ek ≤ 6 by omega)
      obtain ⟨v1, v2⟩ := same_lease (sa := cA sa sl bk bn) (sl := cL sl bk bm) (en := en) (em := em) (show 1 ≤ ek by omega) (show ek ≤ 6 by omega)
      rw [s1, s2, s3, s4, t1, t2, t3, t4, r1, r2, q1, q2, u1, u2, v1, v2]
      simp
  · cases h)
end Go.Proofs.YtiejmafkbfiekaaDoor
