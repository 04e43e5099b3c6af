/- ChargerWelded returns true for all arguments: a welded contactor remains so. Conditions: none; the table charger.afterwards holds what its text says. -/
import Derived.Test.YtiejmafkbfiekaaDoorCl5
import Derived.Test.YtiejmafkbfiekaaDoorCc
namespace Go.Proofs.YtiejmafkbfiekaaDoor
open Go.Sx Go.ChangeShapes Go.WideShapes Go.ChangeAt Go.RowKit
namespace ChargerWelded
theorem opened (ls : List (List LV)) (h : shpAll Tryd.prog 8 Tryd.f7.params.toList ls) : (S_well (pLVs Tryd.prog Tryd.f7.params.toList ls)).all (fun x => x = .v (.bool true)) := by
  rw [Tryd.params7] at h ⊢
  simp only [shpAll] at h
  obtain ⟨l0, _, rfl, h0, l1, _, rfl, h1, l2, _, rfl, h2, rfl⟩ := h
  obtain ⟨d0, rfl, w0⟩ := shp_of (ty := tCh) (by kernel_rfl) h0
  obtain ⟨d1, rfl, w1⟩ := shp_of (ty := tSt) (by kernel_rfl) h1
  obtain ⟨d2, rfl, w2⟩ := shp_of (ty := (.sl tEv)) (by kernel_rfl) h2
  simp only [pLVs, pLV, Tryd.underlying36, Tryd.underlying23, Tryd.underlying25]
  rfl

theorem contract (H : Type) (enc : TypeId × Value → H) (W : World) (base : Nat) (args : Array Value) (ds gs : List (DataW H)) (before : List MemPlace)
    (hval : ∀ (j : Nat) t v, Tryd.f7.params[j]? = some t → args[j]? = some v → Value.okWide Tryd.prog W .any base t v)
    (hW : DataW.Whole enc Tryd.prog Tryd.f7.params.toList Rows.chargerWeldedSpec.vars false W args.toList ds gs before) (hL : laidMetH Tryd.prog Rows.chargerWeldedRow.laid W) :
    Calls Tryd.prog 7 args W fun e W' => ∃ v, e = .returned v ∧ Rows.chargerWeldedSpec.post enc Tryd.prog Tryd.f7 false true false false W args v W' := by
  refine law_contract (m := 8) (tb := 4) v_well laidOut (by kernel_rfl) (by kernel_rfl) Tryd.underlying4 rfl ?_ (by kernel_rfl) opened (globs_ok hL) hval hW
  obtain ⟨p, q, hA, _⟩ := hW
  have hl := ds_length hA
  rw [Tryd.params7] at hl
  match ds, hl with
  | [_, _, _], _ => exact ⟨rfl, rfl, rfl⟩

theorem laid_met (os : Os) : laidMet Tryd.prog Rows.chargerWeldedRow.laid ((laidWorld os).forCall (fun _ _ => 0) ⟨#[], #[wCh, wSt, .slice none 0 0], []⟩).memory :=
  laidMet_of_run' 8 (by kernel_rfl) (by kernel_rfl)
theorem reads (os : Os) {H : Type} (enc : TypeId × Value → H) : ∃ places, DataW.whole enc Tryd.prog ((laidWorld os).forCall (fun _ _ => 0) ⟨#[], #[wCh, wSt, .slice none 0 0], []⟩).memory Tryd.f7.params.toList Rows.chargerWeldedSpec.vars false #[wCh, wSt, .slice none 0 0].toList 8 = some ([.agg [.lit (.string []), .lit (.int .i64 0), .lit (.int .i64 0), .lit (.int .i64 0), .lit (.int .i64 0), .lit (.int .i64 0), .lit (.int .i64 0), .lit (.int .i64 0)], .agg [.lit (.int .i64 0), .lit (.int .i64 0), .lit (.int .i64 0), .lit (.bool false)], .nil], [], places) :=
  ⟨[], by kernel_rfl⟩

set_option maxRecDepth 100000 in
theorem lifted (os : Os) (started : os.Started) (H : Type) (enc : TypeId × Value → H) (F : Stop.Interp) :
    ReturnsInHanded {} Tryd.checked os 7 .any ((OpenSpec.ofChange Rows.chargerWeldedSpec).preRow enc Tryd.prog Tryd.f7 Rows.chargerWeldedRow.domain false Rows.chargerWeldedRow.laid) (((OpenSpec.ofChange Rows.chargerWeldedSpec).at F).post enc Tryd.prog Tryd.f7 false true false false) := by
  obtain ⟨places, hx⟩ := reads os enc
  refine returnsInHanded_of_row (C := Tryd.checked) (s := OpenSpec.ofChange Rows.chargerWeldedSpec) own started (by kernel_rfl) Tryd.func7
    (witness_row_at (enc := enc) (C := Tryd.checked) false (laidWorld os) #[wCh, wSt, .slice none 0 0] rfl (by kernel_rfl) (by kernel_rfl) (by kernel_rfl)
      (OpenSpec.preRow_of_cond 8 hx (by kernel_rfl) (fun k hk => by cases hk) (by kernel_rfl) (laid_met os))) ?_
  intro W base args ds gs before hval hW _ _ _ hL _ _
  exact contract H enc W base args ds gs before hval hW hL

theorem said : Rows.ChargerWeldedSaid :=
  OpenClaim.holds_of_cond 7 Tryd.f7 rfl rfl rfl rfl rfl rfl rfl ⟨rfl, rfl, rfl, rfl, rfl⟩ rfl rfl rfl rfl rfl (by kernel_rfl) Tryd.func7 (by kernel_rfl)
    (of_decide_eq_true (by kernel_rfl)) (by unfold Func.isWrapper; first | (rw [if_pos (by decide +kernel)]; kernel_rfl) | (rw [if_neg (by decide +kernel)]; exact ⟨rfl, rfl⟩))
    (fun os started H enc _ F => by rw [OpenClaim.pre_eq_preRow]; exact lifted os started H enc F)

theorem plain (f : FuncId) (fn : Func) (hf : Tryd.pinned.checked.prog.funcNamed "chargepark/chargeparklaw12.ChargerWelded" = some f) (hfn : Tryd.pinned.checked.prog.funcs[f]? = some fn) :
    false = Tryd.pinned.checked.prog.looks [] ∧ ∀ (j : Nat) t, fn.params[j]? = some t → Tryd.pinned.checked.prog.wantsStandIn t = false := by
  obtain rfl : f = 7 := Option.some.inj ((show Tryd.prog.funcNamed "chargepark/chargeparklaw12.ChargerWelded" = some 7 by kernel_rfl).symm.trans hf) |>.symm
  obtain rfl : fn = Tryd.f7 := (Option.some.inj (Tryd.func7.symm.trans hfn)).symm
  refine ⟨by kernel_rfl, fun j t ht => ?_⟩
  have h : Tryd.f7.params.toList.all (fun t => !Tryd.prog.wantsStandIn t) = true := by kernel_rfl
  have := List.all_eq_true.1 h t (by simpa using Array.mem_of_getElem? ht)
  show Tryd.prog.wantsStandIn t = false
  simpa using this

theorem card : Rows.ChargerWeldedCardSaid :=
  Claim7.holds_tied_plain_at .later [] _ _ _ _ said (fun _ h => by cases h) (by kernel_rfl) (fun _ h => by cases h) chargerWelded_row_tie rfl ⟨rfl, rfl⟩ (by kernel_rfl) rfl plain (by kernel_rfl)
end ChargerWelded
theorem chargerWelded_card : Rows.ChargerWeldedCardSaid := ChargerWelded.card
end Go.Proofs.YtiejmafkbfiekaaDoor
