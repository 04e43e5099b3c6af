/- StepsMatchesReference returns true for all arguments: all functions return what the reference implementation returns. Conditions: none. -/
import Derived.Test.YtihbikkkmoaljaaEl1
import Derived.Test.YtihbikkkmoaljaaEz
namespace Go.Proofs.Ytihbikkkmoaljaa
open Go.Sx Go.ChangeShapes Go.WideShapes Go.ChangeAt Go.RowKit
namespace StepsMatchesReference
set_option maxRecDepth 100000 in
theorem opened (ls : List (List LV)) (h : shpAll Try.prog 8 Try.f3.params.toList ls) : (S_l1 (pLVs Try.prog Try.f3.params.toList ls)).all (fun x => x = .v (.bool true)) := by
 rw [Try.params3] at h ⊢
 simp only [shpAll] at h
 obtain ⟨l0, _, rfl, h0, l1, _, rfl, h1, l2, _, rfl, h2, l3, _, rfl, h3, l4, _, rfl, h4, l5, _, rfl, h5, rfl⟩ := h
 obtain ⟨d0, rfl, w0⟩ := shp_of (ty := tCh) (by kernel_rfl) h0
 obtain ⟨d1, rfl, w1⟩ := shp_of (ty := (.int .i64)) (by kernel_rfl) h1
 obtain ⟨d2, rfl, w2⟩ := shp_of (ty := (.pair (.sl tCd) (.pair (.sl .str) (.pair (.sl tKo) (.pair (.sl tCh) (.sl tBa)))))) (by kernel_rfl) h2
 obtain ⟨d3, rfl, w3⟩ := shp_of (ty := (.sl (.int .i64))) (by kernel_rfl) h3
 obtain ⟨d4, rfl, w4⟩ := shp_of (ty := (.sl (.int .i64))) (by kernel_rfl) h4
 obtain ⟨d5, rfl, w5⟩ := shp_of (ty := (.sl (.int .i64))) (by kernel_rfl) h5
 simp only [pLVs, pLV, Try.underlying31, Try.underlying23, Try.underlying30, Try.underlying3]
 refine all_of_eq (t' := T.req (nmR (nmsOf d2.1 d2.2.1 d2.2.2.1 d2.2.2.2.1 d2.2.2.2.2) ∧ (d1 : Int) ≤ 9223372036854775807) (T.ok (LV.v (Value.bool true)))) (by kernel_rfl) ?_
 exact ⟨⟨(wf_site w2.1 w2.2.1 w2.2.2.1 w2.2.2.2.1 w2.2.2.2.2), wf_i64 w1⟩, rfl⟩
set_option maxRecDepth 100000 in
theorem contract (H : Type) (enc : TypeId × Value → H) (W : World) (base : Nat) (args : Array Value) (ds gs : List (DataW H)) (before : List MemPlace)
  (hval : ∀ (j : Nat) t v, Try.f3.params[j]? = some t → args[j]? = some v → Value.okWide Try.prog W .any base t v)
  (hW : DataW.Whole enc Try.prog Try.f3.params.toList Rows.stepsMatchesReferenceSpec.vars false W args.toList ds gs before) (hL : laidMetH Try.prog Rows.stepsMatchesReferenceRow.laid W) :
  Calls Try.prog 3 args W fun e W' => ∃ v, e = .returned v ∧ Rows.stepsMatchesReferenceSpec.post enc Try.prog Try.f3 false true false false W args v W' := by
 refine law_contract (m := 8) (tb := 4) v_l1 laidOut (by kernel_rfl) (by kernel_rfl) Try.underlying4 rfl ?_ (by kernel_rfl) opened (globs_ok hL) hval hW
 obtain ⟨p, q, hA, _⟩ := hW
 have hl := ds_length hA
 rw [Try.params3] at hl
 match ds, hl with
 | [_, _, _, _, _, _], _ => exact ⟨rfl, rfl, rfl⟩
theorem laid_met (os : Os) : laidMet Try.prog Rows.stepsMatchesReferenceRow.laid ((laidWorld os).forCall (fun _ _ => 0) ⟨#[], #[.agg #[.string emp, .int .i64 0, .int .i64 0, .int .i64 0, .int .i64 0, .int .i64 0, .int .i64 0, .int .i64 0], .int .i64 0, .agg #[.slice none 0 0, .slice none 0 0, .slice none 0 0, .slice none 0 0, .slice none 0 0], .slice none 0 0, .slice none 0 0, .slice none 0 0], []⟩).memory :=
 laidMet_nil _ _
theorem reads (os : Os) {H : Type} (enc : TypeId × Value → H) : ∃ places, DataW.whole enc Try.prog ((laidWorld os).forCall (fun _ _ => 0) ⟨#[], #[.agg #[.string emp, .int .i64 0, .int .i64 0, .int .i64 0, .int .i64 0, .int .i64 0, .int .i64 0, .int .i64 0], .int .i64 0, .agg #[.slice none 0 0, .slice none 0 0, .slice none 0 0, .slice none 0 0, .slice none 0 0], .slice none 0 0, .slice none 0 0, .slice none 0 0], []⟩).memory Try.f3.params.toList Rows.stepsMatchesReferenceSpec.vars false #[.agg #[.string emp, .int .i64 0, .int .i64 0, .int .i64 0, .int .i64 0, .int .i64 0, .int .i64 0, .int .i64 0], .int .i64 0, .agg #[.slice none 0 0, .slice none 0 0, .slice none 0 0, .slice none 0 0, .slice none 0 0], .slice none 0 0, .slice none 0 0, .slice none 0 0].toList 8 = some ([.agg [.lit (.string []), .lit (.int .i64 0), .lit (.int .i64 0), .lit (.int .i64 0), .lit (.int .i64 0), .lit (.int .i64 0), .lit (.int .i64 0), .lit (.int .i64 0)], .lit (.int .i64 0), .agg [.nil, .nil, .nil, .nil, .nil], .nil, .nil, .nil], [], places) :=
 ⟨[], by kernel_rfl⟩
set_option maxRecDepth 100000 in
theorem lifted (os : Os) (started : os.Started) (H : Type) (enc : TypeId × Value → H) (F : Stop.Interp) :
  ReturnsInHanded {} Try.checked os 3 .any ((OpenSpec.ofChange Rows.stepsMatchesReferenceSpec).preRow enc Try.prog Try.f3 Rows.stepsMatchesReferenceRow.domain false Rows.stepsMatchesReferenceRow.laid) (((OpenSpec.ofChange Rows.stepsMatchesReferenceSpec).at F).post enc Try.prog Try.f3 false true false false) := by
 obtain ⟨places, hx⟩ := reads os enc
 refine returnsInHanded_of_row (C := Try.checked) (s := OpenSpec.ofChange Rows.stepsMatchesReferenceSpec) own started (by kernel_rfl) Try.func3
  (witness_row_at (enc := enc) (C := Try.checked) false (laidWorld os) #[.agg #[.string emp, .int .i64 0, .int .i64 0, .int .i64 0, .int .i64 0, .int .i64 0, .int .i64 0, .int .i64 0], .int .i64 0, .agg #[.slice none 0 0, .slice none 0 0, .slice none 0 0, .slice none 0 0, .slice none 0 0], .slice none 0 0, .slice none 0 0, .slice none 0 0] rfl (by kernel_rfl) (by kernel_rfl) (by kernel_rfl)
   (OpenSpec.preRow_of_cond 8 hx (by kernel_rfl) (fun k hk => by cases hk) (by kernel_rfl) (laid_met os))) ?_
 intro W base args ds gs before hval hW _ _ _ hL _ _
 exact contract H enc W base args ds gs before hval hW hL
theorem said : Rows.StepsMatchesReferenceSaid :=
 OpenClaim.holds_of_cond 3 Try.f3 rfl rfl rfl rfl rfl rfl rfl ⟨rfl, rfl, rfl, rfl, rfl⟩ rfl rfl rfl rfl rfl (by kernel_rfl) Try.func3 (by kernel_rfl)
  (of_decide_eq_true (by kernel_rfl)) (by unfold Func.isWrapper; first | (rw [if_pos (by decide +kernel)]; kernel_rfl) | (rw [if_neg (by decide +kernel)]; exact ⟨rfl, rfl⟩))
  (fun os started H enc _ F => by rw [OpenClaim.pre_eq_preRow]; exact lifted os started H enc F)
end StepsMatchesReference
theorem stepsMatchesReference_said : Rows.StepsMatchesReferenceSaid := StepsMatchesReference.said
end Go.Proofs.Ytihbikkkmoaljaa
