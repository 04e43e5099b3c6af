/- Functions of package charger: what they compute, by the executor. -/
import Derived.Test.YtiejmafkbfiekaaDoorCp
namespace Go.Proofs.YtiejmafkbfiekaaDoor
open Go.Sx
def glC : Globs := fun
  | 0 => some (60, fun j => .int .i64 (aftT j))
  | _ => none
def S_inside : List LV → T LV
  | [.v (.int .i64 n), .v (.int .i64 a), .v (.int .i64 b)] => .ok (.v (.bool (inB n a b)))
  | _ => .no
theorem nf_inside (n a b : Int) : funx Tryd.prog glC (specsOf []) noK noLoops Tryd.f21 [.v (.int .i64 n), .v (.int .i64 a), .v (.int .i64 b)] = .ok (.v (.bool ((decide (n ≥ a)) && (decide (n ≤ b))))) := by kernel_rfl
theorem v_inside : Valid Tryd.prog glC 21 S_inside := valid_of Tryd.func21 rfl (specs_ok (l := []) trivial) noK_sound (no_loops (by kernel_rfl)) (fun args lv h => by
  unfold S_inside at h
  split at h
  · rw [nf_inside]
    exact h
  · cases h)
def S_vch : List LV → T LV
  | [.v (.agg ⟨[.string nm, .int .i64 at_, .int .i64 ph, .int .i64 mn, .int .i64 mx, .int .i64 st, .int .i64 fb, .int .i64 ow]⟩)] => .ok (.v (.bool (chB ph mn mx st fb)))
  | _ => .no
theorem nf_vch (nm : ByteArray) (at_ ph mn mx st fb ow : Int) : funx Tryd.prog glC (specsOf [(21, S_inside)]) noK noLoops Tryd.f27 [.v (.agg #[.string nm, .int .i64 at_, .int .i64 ph, .int .i64 mn, .int .i64 mx, .int .i64 st, .int .i64 fb, .int .i64 ow])] = .ok (.v (.bool ((inB ph (1 : Int) (7 : Int)) && ((inB mn (1 : Int) (80 : Int)) && ((inB mx (1 : Int) (80 : Int)) && ((inB st (1 : Int) (80 : Int)) && ((decide (mn ≤ mx)) && ((fb == 0) || (inB fb mn mx))))))))) := by kernel_rfl
theorem v_vch : Valid Tryd.prog glC 27 S_vch := valid_of Tryd.func27 rfl (specs_ok (l := [(21, S_inside)]) ⟨v_inside, trivial⟩) noK_sound (no_loops (by kernel_rfl)) (fun args lv h => by
  unfold S_vch at h
  split at h
  · rw [nf_vch]
    exact h
  · cases h)
noncomputable def S_start : List LV → T LV := fun l => funx Tryd.prog glC (specsOf []) noK noLoops Tryd.f17 l
theorem v_start : Valid Tryd.prog glC 17 S_start := valid_of Tryd.func17 rfl (specs_ok (l := []) trivial) noK_sound (no_loops (by kernel_rfl)) (fun _ _ h => h)
def S_chv : List LV → T LV
  | [.v (.agg ⟨[.string nm, .int .i64 at_, .int .i64 ph, .int .i64 mn, .int .i64 mx, .int .i64 st, .int .i64 fb, .int .i64 ow]⟩), .v (.agg ⟨[.int .i64 sp, .int .i64 sa, .int .i64 sl, .bool sw]⟩)] => .ok (.v (.bool (stB ph mn mx st fb sp sa sl sw)))
  | _ => .no
theorem nf_chv (nm : ByteArray) (at_ ph mn mx st fb ow sp sa sl : Int) (sw : Bool) : funx Tryd.prog glC (specsOf [(17, S_start), (21, S_inside), (27, S_vch)]) noK noLoops Tryd.f13 [.v (.agg #[.string nm, .int .i64 at_, .int .i64 ph, .int .i64 mn, .int .i64 mx, .int .i64 st, .int .i64 fb, .int .i64 ow]), .v (.agg #[.int .i64 sp, .int .i64 sa, .int .i64 sl, .bool sw])] = .br (!(chB ph mn mx st fb)) (.ok (.v (.bool false))) (.br ((sp == 0) && ((sa == 0) && ((sl == 0) && (sw == false)))) (.ok (.v (.bool true))) (.ok (.v (.bool ((inB sp (0 : Int) (5 : Int)) && ((inB sl (0 : Int) (1000000 : Int)) && ((inB sa (0 : Int) mx) && (if sl != 0 then (!sw) || (sp == 5) else (sa == 0) && ((!sw) || (sp == 5)))))))))) := by kernel_rfl
theorem v_chv : Valid Tryd.prog glC 13 S_chv := valid_of Tryd.func13 rfl (specs_ok (l := [(17, S_start), (21, S_inside), (27, S_vch)]) ⟨v_start, v_inside, v_vch, trivial⟩) noK_sound (no_loops (by kernel_rfl)) (fun args lv h => by
  unfold S_chv at h
  split at h
  · rw [nf_chv]
    rename_i nm at_ ph mn mx st fb ow sp sa sl sw
    obtain rfl := h
    refine ⟨fun h1 => ?_, fun h1 => ⟨fun h2 => ?_, fun h2 => ?_⟩⟩
    all_goals refine congrArg (fun z => LV.v (.bool z)) ?_
    · simp at h1; simp [stB, h1]
    · simp at h1 h2
      obtain ⟨rfl, rfl, rfl, rfl⟩ := h2
      have := chB_iff.1 h1
      rw [eq_comm, stB_iff]
      unfold stP
      simp [h1]; omega
    · simp at h1
      unfold stB
      rw [h1]
      by_cases hl : sl = 0
      · simp [hl]
      · have : (sl != 0) = true := by simpa using hl
        simp [this]
  · cases h)
def S_vev : List LV → T LV
  | [.v (.agg ⟨[.string nm, .int .i64 at_, .int .i64 ph, .int .i64 mn, .int .i64 mx, .int .i64 st, .int .i64 fb, .int .i64 ow]⟩), .v (.agg ⟨[.int .i64 ek, .int .i64 en, .int .i64 em]⟩)] => .req (ek ≠ 0) (.ok (.v (.bool (evB mx ek en em))))
  | _ => .no
theorem nf_vev (nm : ByteArray) (at_ ph mn mx st fb ow ek en em : Int) : funx Tryd.prog glC (specsOf [(21, S_inside)]) noK noLoops Tryd.f22 [.v (.agg #[.string nm, .int .i64 at_, .int .i64 ph, .int .i64 mn, .int .i64 mx, .int .i64 st, .int .i64 fb, .int .i64 ow]), .v (.agg #[.int .i64 ek, .int .i64 en, .int .i64 em])] = .br (ek == 4) (.ok (.v (.bool (inB en (0 : Int) (1 : Int))))) (.br (ek == 6) (.ok (.v (.bool (inB en (0 : Int) (2 : Int))))) (.br (ek == 7) (.br (!(inB em (1 : Int) (1000000 : Int))) (.ok (.v (.bool false))) (.ok (.v (.bool (inB en (0 : Int) mx))))) (.br (ek == 0) (.ok (.v (.bool (inB en (0 : Int) mx)))) (.ok (.v (.bool true)))))) := by kernel_rfl
theorem v_vev : Valid Tryd.prog glC 22 S_vev := valid_of Tryd.func22 rfl (specs_ok (l := [(21, S_inside)]) ⟨v_inside, trivial⟩) noK_sound (no_loops (by kernel_rfl)) (fun args lv h => by
  unfold S_vev at h
  split at h
  · rw [nf_vev]
    rename_i nm at_ ph mn mx st fb ow ek en em
    obtain ⟨h0, rfl⟩ := h
    refine ⟨fun h1 => ?_, fun h1 => ⟨fun h2 => ?_, fun h2 => ⟨fun h3 => ⟨fun h4 => ?_, fun h4 => ?_⟩, fun h3 => ⟨fun h4 => ?_, fun h4 => ?_⟩⟩⟩⟩
    all_goals refine congrArg (fun z => LV.v (.bool z)) ?_
    all_goals simp_all [evB]
  · cases h)
def S_dec : List LV → T LV
  | [.v (.agg ⟨[.int .i64 sp, .int .i64 sa, .int .i64 sl, .bool sw]⟩), .v (.agg ⟨[.int .i64 ek, .int .i64 en, .int .i64 em]⟩)] => .ok (.v (.agg #[.int .i64 (dP sp sw ek en), .int .i64 sa, .int .i64 sl, .bool (dW sw ek en)]))
  | _ => .no
theorem nf_dec (sp sa sl : Int) (sw : Bool) (ek en em : Int) : funx Tryd.prog glC (specsOf []) noK noLoops Tryd.f23 [.v (.agg #[.int .i64 sp, .int .i64 sa, .int .i64 sl, .bool sw]), .v (.agg #[.int .i64 ek, .int .i64 en, .int .i64 em])] = .br (ek == 4) (.br (en == 1) (.ok (.v (.agg #[.int .i64 3, .int .i64 sa, .int .i64 sl, .bool sw]))) (.ok (.v (.agg #[.int .i64 5, .int .i64 sa, .int .i64 sl, .bool sw])))) (.br (ek == 6) (.br (en == 0) (.ok (.v (.agg #[.int .i64 1, .int .i64 sa, .int .i64 sl, .bool (en == 1)]))) (.ok (.v (.agg #[.int .i64 5, .int .i64 sa, .int .i64 sl, .bool (en == 1)])))) (.br (ek == 2) (.br (!sw) (.ok (.v (.agg #[.int .i64 0, .int .i64 sa, .int .i64 sl, .bool sw]))) (.ok (.v (.agg #[.int .i64 sp, .int .i64 sa, .int .i64 sl, .bool sw])))) (.br (ek == 9) (.br (!sw) (.ok (.v (.agg #[.int .i64 1, .int .i64 sa, .int .i64 sl, .bool sw]))) (.ok (.v (.agg #[.int .i64 sp, .int .i64 sa, .int .i64 sl, .bool sw])))) (.ok (.v (.agg #[.int .i64 sp, .int .i64 sa, .int .i64 sl, .bool sw])))))) := by kernel_rfl
theorem v_dec : Valid Tryd.prog glC 23 S_dec := valid_of Tryd.func23 rfl (specs_ok (l := []) trivial) noK_sound (no_loops (by kernel_rfl)) (fun args lv h => by
  unfold S_dec at h
  split at h
  · rw [nf_dec]
    rename_i sp sa sl sw ek en em
    obtain rfl := h
    have fin : ∀ (p : Int) (q : Bool), p = dP sp sw ek en → q = dW sw ek en → LV.v (.agg #[.int .i64 p, .int .i64 sa, .int .i64 sl, .bool q]) = LV.v (.agg #[.int .i64 (dP sp sw ek en), .int .i64 sa, .int .i64 sl, .bool (dW sw ek en)]) := fun p q h1 h2 => by rw [h1, h2]
    refine ⟨fun h1 => ⟨fun h2 => ?_, fun h2 => ?_⟩, fun h1 => ⟨fun h2 => ⟨fun h3 => ?_, fun h3 => ?_⟩, fun h2 => ⟨fun h3 => ⟨fun h4 => ?_, fun h4 => ?_⟩, fun h3 => ⟨fun h4 => ⟨fun h5 => ?_, fun h5 => ?_⟩, fun h4 => ?_⟩⟩⟩⟩
    all_goals refine fin _ _ ?_ ?_
    all_goals simp_all [dP, dW]
  · cases h)
def S_step : List LV → T LV
  | [.v (.agg ⟨[.string nm, .int .i64 at_, .int .i64 ph, .int .i64 mn, .int .i64 mx, .int .i64 st, .int .i64 fb, .int .i64 ow]⟩), .v (.agg ⟨[.int .i64 sp, .int .i64 sa, .int .i64 sl, .bool sw]⟩), .v (.agg ⟨[.int .i64 ek, .int .i64 en, .int .i64 em]⟩)] => .ok (.v (.tuple #[.agg #[.int .i64 (nP ph mn mx st fb sp sa sl sw ek en em), .int .i64 (nA ph mn mx st fb sp sa sl sw ek en em), .int .i64 (nL ph mn mx st fb sp sa sl sw ek en em), .bool (nW ph mn mx st fb sp sa sl sw ek en em)], .int .i64 (nE ph mn mx st fb sp sa sl sw ek en em)]))
  | _ => .no
theorem nf_step (nm : ByteArray) (at_ ph mn mx st fb ow sp sa sl : Int) (sw : Bool) (ek en em : Int) : funx Tryd.prog glC (specsOf [(13, S_chv), (21, S_inside), (22, S_vev), (23, S_dec)]) (inl Tryd.prog glC (specsOf [(13, S_chv), (21, S_inside), (22, S_vev), (23, S_dec)]) 9) noLoops Tryd.f11 [.v (.agg #[.string nm, .int .i64 at_, .int .i64 ph, .int .i64 mn, .int .i64 mx, .int .i64 st, .int .i64 fb, .int .i64 ow]), .v (.agg #[.int .i64 sp, .int .i64 sa, .int .i64 sl, .bool sw]), .v (.agg #[.int .i64 ek, .int .i64 en, .int .i64 em])] = .br (!(stB ph mn mx st fb sp sa sl sw)) (.ok (.v (.tuple #[.agg #[.int .i64 0, .int .i64 0, .int .i64 0, .bool false], .int .i64 1]))) (.br (!(inB ek (1 : Int) (9 : Int))) (.ok (.v (.tuple #[.agg #[.int .i64 0, .int .i64 0, .int .i64 0, .bool false], .int .i64 9]))) (.req (ek ≠ 0) (.br (!(evB mx ek en em)) (.ok (.v (.tuple #[.agg #[.int .i64 0, .int .i64 0, .int .i64 0, .bool false], .int .i64 1]))) (.req (0 ≤ ek ∧ ek < (10 : Int)) (.req (0 ≤ sp ∧ sp < (6 : Int)) (.br ((aftT (ek.toNat * 6 + (sp.toNat * 1 + 0))) == (-1)) (.ok (.v (.tuple #[.agg #[.int .i64 0, .int .i64 0, .int .i64 0, .bool false], .int .i64 6]))) (.br ((aftT (ek.toNat * 6 + (sp.toNat * 1 + 0))) == (-2)) (.br (ek == 7) (.ok (.v (.tuple #[.agg #[.int .i64 sp, .int .i64 en, .int .i64 em, .bool sw], .int .i64 0]))) (.br (ek == 8) (.br ((if (0 : Int) < (IntKind.i64.wrap (sl - 1)) then IntKind.i64.wrap (sl - 1) else 0) == 0) (.ok (.v (.tuple #[.agg #[.int .i64 sp, .int .i64 0, .int .i64 (if (0 : Int) < (IntKind.i64.wrap (sl - 1)) then IntKind.i64.wrap (sl - 1) else 0), .bool sw], .int .i64 0]))) (.ok (.v (.tuple #[.agg #[.int .i64 sp, .int .i64 sa, .int .i64 (if (0 : Int) < (IntKind.i64.wrap (sl - 1)) then IntKind.i64.wrap (sl - 1) else 0), .bool sw], .int .i64 0])))) (.br (ek == 9) (.ok (.v (.tuple #[.agg #[.int .i64 sp, .int .i64 0, .int .i64 0, .bool sw], .int .i64 0]))) (.ok (.v (.tuple #[.agg #[.int .i64 sp, .int .i64 sa, .int .i64 sl, .bool sw], .int .i64 0])))))) (.br ((aftT (ek.toNat * 6 + (sp.toNat * 1 + 0))) == (-3)) (.br (ek == 7) (.ok (.v (.tuple #[.agg #[.int .i64 (dP sp sw ek en), .int .i64 en, .int .i64 em, .bool (dW sw ek en)], .int .i64 0]))) (.br (ek == 8) (.br ((if (0 : Int) < (IntKind.i64.wrap (sl - 1)) then IntKind.i64.wrap (sl - 1) else 0) == 0) (.ok (.v (.tuple #[.agg #[.int .i64 (dP sp sw ek en), .int .i64 0, .int .i64 (if (0 : Int) < (IntKind.i64.wrap (sl - 1)) then IntKind.i64.wrap (sl - 1) else 0), .bool (dW sw ek en)], .int .i64 0]))) (.ok (.v (.tuple #[.agg #[.int .i64 (dP sp sw ek en), .int .i64 sa, .int .i64 (if (0 : Int) < (IntKind.i64.wrap (sl - 1)) then IntKind.i64.wrap (sl - 1) else 0), .bool (dW sw ek en)], .int .i64 0])))) (.br (ek == 9) (.ok (.v (.tuple #[.agg #[.int .i64 (dP sp sw ek en), .int .i64 0, .int .i64 0, .bool (dW sw ek en)], .int .i64 0]))) (.ok (.v (.tuple #[.agg #[.int .i64 (dP sp sw ek en), .int .i64 sa, .int .i64 sl, .bool (dW sw ek en)], .int .i64 0])))))) (.br (ek == 7) (.ok (.v (.tuple #[.agg #[.int .i64 (aftT (ek.toNat * 6 + (sp.toNat * 1 + 0))), .int .i64 en, .int .i64 em, .bool sw], .int .i64 0]))) (.br (ek == 8) (.br ((if (0 : Int) < (IntKind.i64.wrap (sl - 1)) then IntKind.i64.wrap (sl - 1) else 0) == 0) (.ok (.v (.tuple #[.agg #[.int .i64 (aftT (ek.toNat * 6 + (sp.toNat * 1 + 0))), .int .i64 0, .int .i64 (if (0 : Int) < (IntKind.i64.wrap (sl - 1)) then IntKind.i64.wrap (sl - 1) else 0), .bool sw], .int .i64 0]))) (.ok (.v (.tuple #[.agg #[.int .i64 (aftT (ek.toNat * 6 + (sp.toNat * 1 + 0))), .int .i64 sa, .int .i64 (if (0 : Int) < (IntKind.i64.wrap (sl - 1)) then IntKind.i64.wrap (sl - 1) else 0), .bool sw], .int .i64 0])))) (.br (ek == 9) (.ok (.v (.tuple #[.agg #[.int .i64 (aftT (ek.toNat * 6 + (sp.toNat * 1 + 0))), .int .i64 0, .int .i64 0, .bool sw], .int .i64 0]))) (.ok (.v (.tuple #[.agg #[.int .i64 (aftT (ek.toNat * 6 + (sp.toNat * 1 + 0))), .int .i64 sa, .int .i64 sl, .bool sw], .int .i64 0])))))))))))))) := by kernel_rfl
theorem v_step : Valid Tryd.prog glC 11 S_step := valid_of Tryd.func11 rfl (specs_ok (l := [(13, S_chv), (21, S_inside), (22, S_vev), (23, S_dec)]) ⟨v_chv, v_inside, v_vev, v_dec, trivial⟩) (inl_sound (specs_ok (l := [(13, S_chv), (21, S_inside), (22, S_vev), (23, S_dec)]) ⟨v_chv, v_inside, v_vev, v_dec, trivial⟩) 9) (no_loops (by kernel_rfl)) (fun args lv h => by
  unfold S_step at h
  split at h
  · rw [nf_step]
    rename_i nm at_ ph mn mx st fb ow sp sa sl sw ek en em
    obtain rfl := h
    have fin : ∀ (p q r : Int) (b : Bool) (e : Int), p = nP ph mn mx st fb sp sa sl sw ek en em → q = nA ph mn mx st fb sp sa sl sw ek en em → r = nL ph mn mx st fb sp sa sl sw ek en em → b = nW ph mn mx st fb sp sa sl sw ek en em → e = nE ph mn mx st fb sp sa sl sw ek en em → LV.v (.tuple #[.agg #[.int .i64 p, .int .i64 q, .int .i64 r, .bool b], .int .i64 e]) = LV.v (.tuple #[.agg #[.int .i64 (nP ph mn mx st fb sp sa sl sw ek en em), .int .i64 (nA ph mn mx st fb sp sa sl sw ek en em), .int .i64 (nL ph mn mx st fb sp sa sl sw ek en em), .bool (nW ph mn mx st fb sp sa sl sw ek en em)], .int .i64 (nE ph mn mx st fb sp sa sl sw ek en em)]) := fun p q r b e h1 h2 h3 h4 h5 => by rw [h1, h2, h3, h4, h5]
    have bad : ∀ e, e ≠ 0 → nE ph mn mx st fb sp sa sl sw ek en em = e → LV.v (.tuple #[.agg #[.int .i64 0, .int .i64 0, .int .i64 0, .bool false], .int .i64 e]) = LV.v (.tuple #[.agg #[.int .i64 (nP ph mn mx st fb sp sa sl sw ek en em), .int .i64 (nA ph mn mx st fb sp sa sl sw ek en em), .int .i64 (nL ph mn mx st fb sp sa sl sw ek en em), .bool (nW ph mn mx st fb sp sa sl sw ek en em)], .int .i64 (nE ph mn mx st fb sp sa sl sw ek en em)]) := fun e h0 h1 => by
      unfold nP nA nL nW
      rw [h1]
      simp only [if_neg h0]
    have good : ∀ (p q r : Int) (b : Bool), nE ph mn mx st fb sp sa sl sw ek en em = 0 → p = phF sp sw ek en → q = cA sa sl ek en → r = cL sl ek em → b = cW sw ek en → LV.v (.tuple #[.agg #[.int .i64 p, .int .i64 q, .int .i64 r, .bool b], .int .i64 0]) = LV.v (.tuple #[.agg #[.int .i64 (nP ph mn mx st fb sp sa sl sw ek en em), .int .i64 (nA ph mn mx st fb sp sa sl sw ek en em), .int .i64 (nL ph mn mx st fb sp sa sl sw ek en em), .bool (nW ph mn mx st fb sp sa sl sw ek en em)], .int .i64 (nE ph mn mx st fb sp sa sl sw ek en em)]) := fun p q r b h0 h1 h2 h3 h4 => by
      unfold nP nA nL nW
      rw [h0, h1, h2, h3, h4]
      simp only [if_true]
    
    refine ⟨fun h1 => bad 1 (by decide) (by simp at h1; simp [nE, h1]), fun h1 => ⟨fun h2 => bad 9 (by decide) (by simp at h1 h2; simp [nE, h1, h2]), fun h2 => ?_⟩⟩
    simp only [Bool.not_eq_false'] at h1 h2
    have h2' := inB_iff.1 h2
    refine ⟨by omega, fun h3 => bad 1 (by decide) (by simp at h3; simp [nE, h1, h2, h3]), fun h3 => ?_⟩
    simp only [Bool.not_eq_false'] at h3
    have h1' := stB_iff.1 h1
    unfold stP at h1'
    obtain ⟨g1, g2, g3, g4, g5, g6, g7, g8, g9⟩ := h1'
    have hw : IntKind.i64.wrap (sl - 1) = sl - 1 := wrapS (by omega) (by omega)
    have hn : nE ph mn mx st fb sp sa sl sw ek en em = if phF sp sw ek en < 0 then 6 else 0 := by simp [nE, h1, h2, h3]
    have htk : (if (0 : Int) < sl - 1 then sl - 1 else 0) = tk sl := rfl
    rw [hw, htk]
    refine ⟨by omega, by omega, ?_⟩
    have hz : sw = false ∨ (sw = true ∧ sp = 5) := by cases sw <;> simp_all
    rw [aft_eq (by omega) (by omega) (by omega) (by omega)]
    clear h1 h2 h3 fin good bad g1 g4 g5 g6 g7 g9 hw htk
    rcases hz with rfl | ⟨rfl, rfl⟩
    · rcases five h2'.1 h2'.2 with rfl | rfl | rfl | rfl | rfl | rfl | rfl | rfl | rfl <;> rcases six g2 g3 with rfl | rfl | rfl | rfl | rfl | rfl
      all_goals simp [T.all, aftF, nP, nA, nL, nW, hn, phF, cA, cL, cW, dP, dW]
      all_goals (try omega)
    · rcases five h2'.1 h2'.2 with rfl | rfl | rfl | rfl | rfl | rfl | rfl | rfl | rfl
      all_goals simp [T.all, aftF, nP, nA, nL, nW, hn, phF, cA, cL, cW, dP, dW]
      all_goals (try omega)
  · cases h)
end Go.Proofs.YtiejmafkbfiekaaDoor
