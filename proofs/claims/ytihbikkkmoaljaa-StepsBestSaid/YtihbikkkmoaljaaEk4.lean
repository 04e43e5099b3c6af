/- StepsBest returns true for all arguments: no other assignment of levels that is permitted, and gives nobody more than he wants, is better than what is given. Conditions: none. -/
import Derived.Test.YtihbikkkmoaljaaEl4
import Derived.Test.YtihbikkkmoaljaaEz
namespace Go.Proofs.Ytihbikkkmoaljaa
open Go.Sx Go.ChangeShapes Go.WideShapes Go.ChangeAt Go.RowKit
namespace StepsBest
set_option maxRecDepth 100000 in
theorem opened (ls : List (List LV)) (h : shpAll Try.prog 8 Try.f6.params.toList ls) : (S_l4 (pLVs Try.prog Try.f6.params.toList ls)).all (fun x => x = .v (.bool true)) := by
 rw [Try.params6] at h ⊢
 simp only [shpAll] at h
 obtain ⟨l0, _, rfl, h0, l1, _, rfl, h1, l2, _, rfl, h2, l3, _, rfl, h3, l4, _, rfl, h4, rfl⟩ := h
 obtain ⟨d0, rfl, w0⟩ := shp_of (ty := (.pair (.sl tCd) (.pair (.sl .str) (.pair (.sl tKo) (.pair (.sl tCh) (.sl tBa)))))) (by kernel_rfl) h0
 obtain ⟨d1, rfl, w1⟩ := shp_of (ty := (.sl (.int .i64))) (by kernel_rfl) h1
 obtain ⟨d2, rfl, w2⟩ := shp_of (ty := (.sl (.int .i64))) (by kernel_rfl) h2
 obtain ⟨d3, rfl, w3⟩ := shp_of (ty := (.sl (.int .i64))) (by kernel_rfl) h3
 obtain ⟨d4, rfl, w4⟩ := shp_of (ty := (.sl (.int .u8))) (by kernel_rfl) h4
 simp only [pLVs, pLV, Try.underlying31, Try.underlying50, Try.underlying30]
 refine all_of_eq (t' := T.req (nmR (nmsOf d0.1 d0.2.1 d0.2.2.1 d0.2.2.2.1 d0.2.2.2.2) ∧ ∀ o ∈ (d4 : List Int), (0 : Int) ≤ o ∧ o ≤ (255 : Int)) (T.ok (LV.v (Value.bool true)))) (by kernel_rfl) ?_
 exact ⟨⟨(wf_site w0.1 w0.2.1 w0.2.2.1 w0.2.2.2.1 w0.2.2.2.2), fun o ho => wf_u8 (w4.2 o ho)⟩, rfl⟩
set_option maxRecDepth 100000 in
theorem contract (H : Type) (enc : TypeId × Value → H) (W : World) (base : Nat) (args : Array Value) (ds gs : List (DataW H)) (before : List MemPlace)
  (hval : ∀ (j : Nat) t v, Try.f6.params[j]? = some t → args[j]? = some v → Value.okWide Try.prog W .any base t v)
  (hW : DataW.Whole enc Try.prog Try.f6.params.toList Rows.stepsBestSpec.vars false W args.toList ds gs before) (hL : laidMetH Try.prog Rows.stepsBestRow.laid W) :
  Calls Try.prog 6 args W fun e W' => ∃ v, e = .returned v ∧ Rows.stepsBestSpec.post enc Try.prog Try.f6 false true false false W args v W' := by
 refine law_contract (m := 8) (tb := 4) v_l4 laidOut (by kernel_rfl) (by kernel_rfl) Try.underlying4 rfl ?_ (by kernel_rfl) opened (globs_ok hL) hval hW
 obtain ⟨p, q, hA, _⟩ := hW
 have hl := ds_length hA
 rw [Try.params6] at hl
 match ds, hl with
 | [_, _, _, _, _], _ => exact ⟨rfl, rfl, rfl⟩
theorem laid_met (os : Os) : laidMet Try.prog Rows.stepsBestRow.laid ((laidWorld os).forCall (fun _ _ => 0) ⟨#[], #[.agg #[.slice none 0 0, .slice none 0 0, .slice none 0 0, .slice none 0 0, .slice none 0 0], .slice none 0 0, .slice none 0 0, .slice none 0 0, .slice none 0 0], []⟩).memory :=
 laidMet_nil _ _
theorem reads (os : Os) {H : Type} (enc : TypeId × Value → H) : ∃ places, DataW.whole enc Try.prog ((laidWorld os).forCall (fun _ _ => 0) ⟨#[], #[.agg #[.slice none 0 0, .slice none 0 0, .slice none 0 0, .slice none 0 0, .slice none 0 0], .slice none 0 0, .slice none 0 0, .slice none 0 0, .slice none 0 0], []⟩).memory Try.f6.params.toList Rows.stepsBestSpec.vars false #[.agg #[.slice none 0 0, .slice none 0 0, .slice none 0 0, .slice none 0 0, .slice none 0 0], .slice none 0 0, .slice none 0 0, .slice none 0 0, .slice none 0 0].toList 8 = some ([.agg [.nil, .nil, .nil, .nil, .nil], .nil, .nil, .nil, .nil], [], places) :=
 ⟨[], by kernel_rfl⟩
set_option maxRecDepth 100000 in
theorem lifted (os : Os) (started : os.Started) (H : Type) (enc : TypeId × Value → H) (F : Stop.Interp) :
  ReturnsInHanded {} Try.checked os 6 .any ((OpenSpec.ofChange Rows.stepsBestSpec).preRow enc Try.prog Try.f6 Rows.stepsBestRow.domain false Rows.stepsBestRow.laid) (((OpenSpec.ofChange Rows.stepsBestSpec).at F).post enc Try.prog Try.f6 false true false false) := by
 obtain ⟨places, hx⟩ := reads os enc
 refine returnsInHanded_of_row (C := Try.checked) (s := OpenSpec.ofChange Rows.stepsBestSpec) own started (by kernel_rfl) Try.func6
  (witness_row_at (enc := enc) (C := Try.checked) false (laidWorld os) #[.agg #[.slice none 0 0, .slice none 0 0, .slice none 0 0, .slice none 0 0, .slice none 0 0], .slice none 0 0, .slice none 0 0, .slice none 0 0, .slice none 0 0] rfl (by kernel_rfl) (by kernel_rfl) (by kernel_rfl)
   (OpenSpec.preRow_of_cond 8 hx (by kernel_rfl) (fun k hk => by cases hk) (by kernel_rfl) (laid_met os))) ?_
 intro W base args ds gs before hval hW _ _ _ hL _ _
 exact contract H enc W base args ds gs before hval hW hL
theorem said : Rows.StepsBestSaid :=
 OpenClaim.holds_of_cond 6 Try.f6 rfl rfl rfl rfl rfl rfl rfl ⟨rfl, rfl, rfl, rfl, rfl⟩ rfl rfl rfl rfl rfl (by kernel_rfl) Try.func6 (by kernel_rfl)
  (of_decide_eq_true (by kernel_rfl)) (by unfold Func.isWrapper; first | (rw [if_pos (by decide +kernel)]; kernel_rfl) | (rw [if_neg (by decide +kernel)]; exact ⟨rfl, rfl⟩))
  (fun os started H enc _ F => by rw [OpenClaim.pre_eq_preRow]; exact lifted os started H enc F)
end StepsBest
theorem stepsBest_said : Rows.StepsBestSaid := StepsBest.said
end Go.Proofs.Ytihbikkkmoaljaa
