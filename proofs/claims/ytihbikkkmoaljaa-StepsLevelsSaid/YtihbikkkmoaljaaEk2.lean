/- StepsLevels returns true for all arguments: the currents of the levels of a charger increase, and Level is the inverse of Amps. Conditions: none. -/
import Derived.Test.YtihbikkkmoaljaaEl2
import Derived.Test.YtihbikkkmoaljaaEz
namespace Go.Proofs.Ytihbikkkmoaljaa
open Go.Sx Go.ChangeShapes Go.WideShapes Go.ChangeAt Go.RowKit
namespace StepsLevels
set_option maxRecDepth 100000 in
theorem opened (ls : List (List LV)) (h : shpAll Try.prog 8 Try.f4.params.toList ls) : (S_l2 (pLVs Try.prog Try.f4.params.toList ls)).all (fun x => x = .v (.bool true)) := by
 rw [Try.params4] at h ⊢
 simp only [shpAll] at h
 obtain ⟨l0, _, rfl, h0, l1, _, rfl, h1, rfl⟩ := h
 obtain ⟨d0, rfl, w0⟩ := shp_of (ty := tCh) (by kernel_rfl) h0
 obtain ⟨d1, rfl, w1⟩ := shp_of (ty := (.int .u8)) (by kernel_rfl) h1
 simp only [pLVs, pLV, Try.underlying23, Try.underlying5]
 refine all_of_eq (t' := T.req ((0 : Int) ≤ d1 ∧ d1 ≤ (255 : Int)) (T.ok (LV.v (Value.bool true)))) (by kernel_rfl) ?_
 exact ⟨wf_u8 w1, rfl⟩
set_option maxRecDepth 100000 in
theorem contract (H : Type) (enc : TypeId × Value → H) (W : World) (base : Nat) (args : Array Value) (ds gs : List (DataW H)) (before : List MemPlace)
  (hval : ∀ (j : Nat) t v, Try.f4.params[j]? = some t → args[j]? = some v → Value.okWide Try.prog W .any base t v)
  (hW : DataW.Whole enc Try.prog Try.f4.params.toList Rows.stepsLevelsSpec.vars false W args.toList ds gs before) (hL : laidMetH Try.prog Rows.stepsLevelsRow.laid W) :
  Calls Try.prog 4 args W fun e W' => ∃ v, e = .returned v ∧ Rows.stepsLevelsSpec.post enc Try.prog Try.f4 false true false false W args v W' := by
 refine law_contract (m := 8) (tb := 4) v_l2 laidOut (by kernel_rfl) (by kernel_rfl) Try.underlying4 rfl ?_ (by kernel_rfl) opened (globs_ok hL) hval hW
 obtain ⟨p, q, hA, _⟩ := hW
 have hl := ds_length hA
 rw [Try.params4] at hl
 match ds, hl with
 | [_, _], _ => exact ⟨rfl, rfl, rfl⟩
theorem laid_met (os : Os) : laidMet Try.prog Rows.stepsLevelsRow.laid ((laidWorld os).forCall (fun _ _ => 0) ⟨#[], #[.agg #[.string emp, .int .i64 0, .int .i64 0, .int .i64 0, .int .i64 0, .int .i64 0, .int .i64 0, .int .i64 0], .int .u8 0], []⟩).memory :=
 laidMet_nil _ _
theorem reads (os : Os) {H : Type} (enc : TypeId × Value → H) : ∃ places, DataW.whole enc Try.prog ((laidWorld os).forCall (fun _ _ => 0) ⟨#[], #[.agg #[.string emp, .int .i64 0, .int .i64 0, .int .i64 0, .int .i64 0, .int .i64 0, .int .i64 0, .int .i64 0], .int .u8 0], []⟩).memory Try.f4.params.toList Rows.stepsLevelsSpec.vars false #[.agg #[.string emp, .int .i64 0, .int .i64 0, .int .i64 0, .int .i64 0, .int .i64 0, .int .i64 0, .int .i64 0], .int .u8 0].toList 8 = some ([.agg [.lit (.string []), .lit (.int .i64 0), .lit (.int .i64 0), .lit (.int .i64 0), .lit (.int .i64 0), .lit (.int .i64 0), .lit (.int .i64 0), .lit (.int .i64 0)], .lit (.int .u8 0)], [], places) :=
 ⟨[], by kernel_rfl⟩
set_option maxRecDepth 100000 in
theorem lifted (os : Os) (started : os.Started) (H : Type) (enc : TypeId × Value → H) (F : Stop.Interp) :
  ReturnsInHanded {} Try.checked os 4 .any ((OpenSpec.ofChange Rows.stepsLevelsSpec).preRow enc Try.prog Try.f4 Rows.stepsLevelsRow.domain false Rows.stepsLevelsRow.laid) (((OpenSpec.ofChange Rows.stepsLevelsSpec).at F).post enc Try.prog Try.f4 false true false false) := by
 obtain ⟨places, hx⟩ := reads os enc
 refine returnsInHanded_of_row (C := Try.checked) (s := OpenSpec.ofChange Rows.stepsLevelsSpec) own started (by kernel_rfl) Try.func4
  (witness_row_at (enc := enc) (C := Try.checked) false (laidWorld os) #[.agg #[.string emp, .int .i64 0, .int .i64 0, .int .i64 0, .int .i64 0, .int .i64 0, .int .i64 0, .int .i64 0], .int .u8 0] rfl (by kernel_rfl) (by kernel_rfl) (by kernel_rfl)
   (OpenSpec.preRow_of_cond 8 hx (by kernel_rfl) (fun k hk => by cases hk) (by kernel_rfl) (laid_met os))) ?_
 intro W base args ds gs before hval hW _ _ _ hL _ _
 exact contract H enc W base args ds gs before hval hW hL
theorem said : Rows.StepsLevelsSaid :=
 OpenClaim.holds_of_cond 4 Try.f4 rfl rfl rfl rfl rfl rfl rfl ⟨rfl, rfl, rfl, rfl, rfl⟩ rfl rfl rfl rfl rfl (by kernel_rfl) Try.func4 (by kernel_rfl)
  (of_decide_eq_true (by kernel_rfl)) (by unfold Func.isWrapper; first | (rw [if_pos (by decide +kernel)]; kernel_rfl) | (rw [if_neg (by decide +kernel)]; exact ⟨rfl, rfl⟩))
  (fun os started H enc _ F => by rw [OpenClaim.pre_eq_preRow]; exact lifted os started H enc F)
end StepsLevels
theorem stepsLevels_said : Rows.StepsLevelsSaid := StepsLevels.said
end Go.Proofs.Ytihbikkkmoaljaa
