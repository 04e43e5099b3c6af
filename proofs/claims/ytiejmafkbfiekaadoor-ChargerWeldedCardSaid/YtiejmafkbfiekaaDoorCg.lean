/- Functions of package charger and their references: what they compute, by the executor. -/
import Derived.Test.YtiejmafkbfiekaaDoorCf
namespace Go.Proofs.YtiejmafkbfiekaaDoor
open Go.Sx
def S_alw : List LV → T LV
  | [.v (.agg ⟨[.string nm, .int .i64 at_, .int .i64 ph, .int .i64 mn, .int .i64 mx, .int .i64 st, .int .i64 fb, .int .i64 ow]⟩), .v (.agg ⟨[.int .i64 sp, .int .i64 sa, .int .i64 sl, .bool sw]⟩)] => .ok (.v (.int .i64 (alF ph mn mx st fb sp sa sl sw)))
  | _ => .no
theorem nf_alw (nm : ByteArray) (at_ ph mn mx st fb ow sp sa sl : Int) (sw : Bool) : funx Tryd.prog glC (specsOf [(13, S_chv)]) noK noLoops Tryd.f15 [.v (.agg #[.string nm, .int .i64 at_, .int .i64 ph, .int .i64 mn, .int .i64 mx, .int .i64 st, .int .i64 fb, .int .i64 ow]), .v (.agg #[.int .i64 sp, .int .i64 sa, .int .i64 sl, .bool sw])] = .br (!(stB ph mn mx st fb sp sa sl sw)) (.ok (.v (.int .i64 0))) (.br sw (.ok (.v (.int .i64 mx))) (.br (sp != 4) (.ok (.v (.int .i64 0))) (.br (sl != 0) (.ok (.v (.int .i64 sa))) (.ok (.v (.int .i64 fb)))))) := by kernel_rfl
theorem v_alw : Valid Tryd.prog glC 15 S_alw := valid_of Tryd.func15 rfl (specs_ok (l := [(13, S_chv)]) ⟨v_chv, trivial⟩) noK_sound (no_loops (by kernel_rfl)) (fun args lv h => by
  unfold S_alw at h
  split at h
  · rw [nf_alw]
    rename_i nm at_ ph mn mx st fb ow sp sa sl sw
    obtain rfl := h
    have fin : ∀ (p : Int), p = alF ph mn mx st fb sp sa sl sw → LV.v (.int .i64 p) = LV.v (.int .i64 (alF ph mn mx st fb sp sa sl sw)) := fun p h => by rw [h]
    refine ⟨fun h1 => ?_, fun h1 => ⟨fun h2 => ?_, fun h2 => ⟨fun h3 => ?_, fun h3 => ⟨fun h4 => ?_, fun h4 => ?_⟩⟩⟩⟩
    all_goals refine fin _ ?_
    all_goals simp_all [alF]
  · cases h)
def S_rch : List LV → T LV
  | [.v (.agg ⟨[.string nm, .int .i64 at_, .int .i64 ph, .int .i64 mn, .int .i64 mx, .int .i64 st, .int .i64 fb, .int .i64 ow]⟩)] => .ok (.v (.bool (chB ph mn mx st fb)))
  | _ => .no
theorem nf_rch (nm : ByteArray) (at_ ph mn mx st fb ow : Int) : funx Tryd.prog glC (specsOf []) noK noLoops Tryd.f18 [.v (.agg #[.string nm, .int .i64 at_, .int .i64 ph, .int .i64 mn, .int .i64 mx, .int .i64 st, .int .i64 fb, .int .i64 ow])] = .br ((decide (ph < 1)) || ((decide (ph > 7)) || ((decide (mn < 1)) || ((decide (mx > 80)) || ((decide (mn > mx)) || ((decide (st < 1)) || (decide (st > 80)))))))) (.ok (.v (.bool false))) (.ok (.v (.bool ((fb == 0) || ((decide (fb ≥ mn)) && (decide (fb ≤ mx))))))) := by kernel_rfl
theorem v_rch : Valid Tryd.prog glC 18 S_rch := valid_of Tryd.func18 rfl (specs_ok (l := []) trivial) noK_sound (no_loops (by kernel_rfl)) (fun args lv h => by
  unfold S_rch at h
  split at h
  · rw [nf_rch]
    obtain rfl := h
    refine ⟨fun hb => ?_, fun hb => ?_⟩
    · exact congrArg (fun z => LV.v (.bool z)) (rch0 hb)
    · exact congrArg (fun z => LV.v (.bool z)) (rch1 hb)
  · cases h)
def S_rv : List LV → T LV
  | [.v (.agg ⟨[.string nm, .int .i64 at_, .int .i64 ph, .int .i64 mn, .int .i64 mx, .int .i64 st, .int .i64 fb, .int .i64 ow]⟩), .v (.agg ⟨[.int .i64 sp, .int .i64 sa, .int .i64 sl, .bool sw]⟩)] => .ok (.v (.bool (stB ph mn mx st fb sp sa sl sw)))
  | _ => .no
theorem nf_rv (nm : ByteArray) (at_ ph mn mx st fb ow sp sa sl : Int) (sw : Bool) : funx Tryd.prog glC (specsOf [(18, S_rch)]) noK noLoops Tryd.f14 [.v (.agg #[.string nm, .int .i64 at_, .int .i64 ph, .int .i64 mn, .int .i64 mx, .int .i64 st, .int .i64 fb, .int .i64 ow]), .v (.agg #[.int .i64 sp, .int .i64 sa, .int .i64 sl, .bool sw])] = .br ((!(chB ph mn mx st fb)) || ((decide (sp < 0)) || ((decide (sp > 5)) || ((decide (sl < 0)) || ((decide (sl > 1000000)) || ((decide (sa < 0)) || (decide (sa > mx)))))))) (.ok (.v (.bool false))) (.br ((sl == 0) && (sa != 0)) (.ok (.v (.bool false))) (.ok (.v (.bool ((!sw) || (sp == 5)))))) := by kernel_rfl
theorem v_rv : Valid Tryd.prog glC 14 S_rv := valid_of Tryd.func14 rfl (specs_ok (l := [(18, S_rch)]) ⟨v_rch, trivial⟩) noK_sound (no_loops (by kernel_rfl)) (fun args lv h => by
  unfold S_rv at h
  split at h
  · rw [nf_rv]
    rename_i nm at_ ph mn mx st fb ow sp sa sl sw
    obtain rfl := h
    refine ⟨fun h1 => ?_, fun h1 => ⟨fun h2 => ?_, fun h2 => ?_⟩⟩
    all_goals refine congrArg (fun z => LV.v (.bool z)) ?_
    · rw [eq_comm, Bool.eq_false_iff]
      intro hs
      have := stB_iff.1 hs
      unfold stP at this
      rw [this.1] at h1
      simp at h1
      omega
    · rw [eq_comm, Bool.eq_false_iff]
      intro hs
      have := stB_iff.1 hs
      unfold stP at this
      simp at h2
      omega
    · have e : ∀ (x y : Bool), (x = true ↔ y = true) → x = y := fun x y h => by cases x <;> cases y <;> simp_all
      refine e _ _ ?_
      rw [stB_iff]
      unfold stP
      simp only [Bool.or_eq_false_iff, Bool.not_eq_false', decide_eq_false_iff_not, Bool.and_eq_false_iff, beq_eq_false_iff_ne, bne_eq_false_iff_eq] at h1 h2
      cases sw <;> simp [h1] <;> omega
  · cases h)
def S_fits : List LV → T LV
  | [.v (.agg ⟨[.string nm, .int .i64 at_, .int .i64 ph, .int .i64 mn, .int .i64 mx, .int .i64 st, .int .i64 fb, .int .i64 ow]⟩), .v (.agg ⟨[.int .i64 ek, .int .i64 en, .int .i64 em]⟩)] => .ok (.v (.bool (evB mx ek en em)))
  | _ => .no
theorem nf_fits (nm : ByteArray) (at_ ph mn mx st fb ow ek en em : Int) : funx Tryd.prog glC (specsOf []) noK noLoops Tryd.f25 [.v (.agg #[.string nm, .int .i64 at_, .int .i64 ph, .int .i64 mn, .int .i64 mx, .int .i64 st, .int .i64 fb, .int .i64 ow]), .v (.agg #[.int .i64 ek, .int .i64 en, .int .i64 em])] = .br (ek == 4) (.ok (.v (.bool ((en == 0) || (en == 1))))) (.br (ek == 6) (.ok (.v (.bool ((decide (en ≥ 0)) && (decide (en ≤ 2)))))) (.br (ek == 7) (.ok (.v (.bool ((decide (en ≥ 0)) && ((decide (en ≤ mx)) && ((decide (em ≥ 1)) && (decide (em ≤ 1000000)))))))) (.ok (.v (.bool true))))) := by kernel_rfl
theorem v_fits : Valid Tryd.prog glC 25 S_fits := valid_of Tryd.func25 rfl (specs_ok (l := []) trivial) noK_sound (no_loops (by kernel_rfl)) (fun args lv h => by
  unfold S_fits at h
  split at h
  · rw [nf_fits]
    rename_i nm at_ ph mn mx st fb ow ek en em
    obtain rfl := h
    have e : ∀ (x y : Bool), (x = true ↔ y = true) → x = y := fun x y h => by cases x <;> cases y <;> simp_all
    refine ⟨fun h1 => ?_, fun h1 => ⟨fun h2 => ?_, fun h2 => ⟨fun h3 => ?_, fun h3 => ?_⟩⟩⟩
    all_goals refine congrArg (fun z => LV.v (.bool z)) ?_
    all_goals refine e _ _ ?_
    all_goals simp_all [evB, inB]
    all_goals omega
  · cases h)
def S_phase : List LV → T LV
  | [.v (.agg ⟨[.int .i64 sp, .int .i64 sa, .int .i64 sl, .bool sw]⟩), .v (.agg ⟨[.int .i64 ek, .int .i64 en, .int .i64 em]⟩)] => .ok (.v (.int .i64 (phF sp sw ek en)))
  | _ => .no
theorem nf_phase (sp sa sl : Int) (sw : Bool) (ek en em : Int) : funx Tryd.prog glC (specsOf []) noK noLoops Tryd.f26 [.v (.agg #[.int .i64 sp, .int .i64 sa, .int .i64 sl, .bool sw]), .v (.agg #[.int .i64 ek, .int .i64 en, .int .i64 em])] = .br (ek == 1) (.br (sp == 0) (.ok (.v (.int .i64 1))) (.ok (.v (.int .i64 (-1))))) (.br (ek == 2) (.br ((sp == 5) && sw) (.ok (.v (.int .i64 5))) (.br ((sp == 1) || (sp == 5)) (.ok (.v (.int .i64 0))) (.ok (.v (.int .i64 (-1)))))) (.br (ek == 3) (.br (sp == 1) (.ok (.v (.int .i64 2))) (.ok (.v (.int .i64 (-1))))) (.br (ek == 4) (.br (sp != 2) (.ok (.v (.int .i64 (-1)))) (.br (en == 1) (.ok (.v (.int .i64 3))) (.ok (.v (.int .i64 5))))) (.br (ek == 5) (.br (sp == 3) (.ok (.v (.int .i64 4))) (.ok (.v (.int .i64 (-1))))) (.br (ek == 6) (.br (sp != 4) (.ok (.v (.int .i64 (-1)))) (.br (en == 0) (.ok (.v (.int .i64 1))) (.ok (.v (.int .i64 5))))) (.br (ek == 9) (.br ((sp == 0) || sw) (.ok (.v (.int .i64 sp))) (.ok (.v (.int .i64 1)))) (.ok (.v (.int .i64 sp))))))))) := by kernel_rfl
theorem v_phase : Valid Tryd.prog glC 26 S_phase := valid_of Tryd.func26 rfl (specs_ok (l := []) trivial) noK_sound (no_loops (by kernel_rfl)) (fun args lv h => by
  unfold S_phase at h
  split at h
  · rw [nf_phase]
    rename_i sp sa sl sw ek en em
    obtain rfl := h
    have fin : ∀ (p : Int), p = phF sp sw ek en → LV.v (.int .i64 p) = LV.v (.int .i64 (phF sp sw ek en)) := fun p h => by rw [h]
    cases sw <;> simp [T.all, phF] <;> refine ⟨?_, ?_⟩ <;> intros <;> simp_all
  · cases h)
/- -/
end Go.Proofs.YtiejmafkbfiekaaDoor
