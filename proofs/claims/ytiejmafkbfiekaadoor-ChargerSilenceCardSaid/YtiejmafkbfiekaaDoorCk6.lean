/- ChargerSilence returns true for all arguments: after a reset, and after the end of its lease, a charger lets through at most its fallback current. Conditions: none; the table charger.afterwards holds what its text says. -/
import Derived.Test.YtiejmafkbfiekaaDoorCl6
import Derived.Test.YtiejmafkbfiekaaDoorCc
namespace Go.Proofs.YtiejmafkbfiekaaDoor
open Go.Sx Go.ChangeShapes Go.WideShapes Go.ChangeAt Go.RowKit
namespace ChargerSilence
theorem opened (ls : List (List LV)) (h : shpAll Tryd.prog 8 Tryd.f8.params.toList ls) : (S_sill (pLVs Tryd.prog Tryd.f8.params.toList ls)).all (fun x => x = .v (.bool true)) := by
  rw [Tryd.params8] at h ⊢
  simp only [shpAll] at h
  obtain ⟨l0, _, rfl, h0, l1, _, rfl, h1, rfl⟩ := h
  obtain ⟨d0, rfl, w0⟩ := shp_of (ty := tCh) (by kernel_rfl) h0
  obtain ⟨d1, rfl, w1⟩ := shp_of (ty := tSt) (by kernel_rfl) h1
  simp only [pLVs, pLV, Tryd.underlying23, Tryd.underlying25]
  rfl

theorem contract (H : Type) (enc : TypeId × Value → H) (W : World) (base : Nat) (args : Array Value) (ds gs : List (DataW H)) (before : List MemPlace)
    (hval : ∀ (j : Nat) t v, Tryd.f8.params[j]? = some t → args[j]? = some v → Value.okWide Tryd.prog W .any base t v)
    (hW : DataW.Whole enc Tryd.prog Tryd.f8.params.toList Rows.chargerSilenceSpec.vars false W args.toList ds gs before) (hL : laidMetH Tryd.prog Rows.chargerSilenceRow.laid W) :
    Calls Tryd.prog 8 args W fun e W' => ∃ v, e = .returned v ∧ Rows.chargerSilenceSpec.post enc Tryd.prog Tryd.f8 false true false false W args v W' := by
  refine law_contract (m := 8) (tb := 4) v_sill laidOut (by kernel_rfl) (by kernel_rfl) Tryd.underlying4 rfl ?_ (by kernel_rfl) opened (globs_ok hL) hval hW
  obtain ⟨p, q, hA, _⟩ := hW
  have hl := ds_length hA
  rw [Tryd.params8] at hl
  match ds, hl with
  | [_, _], _ => exact ⟨rfl, rfl, rfl⟩

theorem laid_met (os : Os) : laidMet Tryd.prog Rows.chargerSilenceRow.laid ((laidWorld os).forCall (fun _ _ => 0) ⟨#[], #[wCh, wSt], []⟩).memory :=
  laidMet_of_run' 8 (by kernel_rfl) (by kernel_rfl)
theorem reads (os : Os) {H : Type} (enc : TypeId × Value → H) : ∃ places, DataW.whole enc Tryd.prog ((laidWorld os).forCall (fun _ _ => 0) ⟨#[], #[wCh, wSt], []⟩).memory Tryd.f8.params.toList Rows.chargerSilenceSpec.vars false #[wCh, wSt].toList 8 = some ([.agg [.lit (.string []), .lit (.int .i64 0), .lit (.int .i64 0), .lit (.int .i64 0), .lit (.int .i64 0), .lit (.int .i64 0), .lit (.int .i64 0), .lit (.int .i64 0)], .agg [.lit (.int .i64 0), .lit (.int .i64 0), .lit (.int .i64 0), .lit (.bool false)]], [], places) :=
  ⟨[], by kernel_rfl⟩

set_option maxRecDepth 100000 in
theorem lifted (os : Os) (started : os.Started) (H : Type) (enc : TypeId × Value → H) (F : Stop.Interp) :
    ReturnsInHanded {} Tryd.checked os 8 .any ((OpenSpec.ofChange Rows.chargerSilenceSpec).preRow enc Tryd.prog Tryd.f8 Rows.chargerSilenceRow.domain false Rows.chargerSilenceRow.laid) (((OpenSpec.ofChange Rows.chargerSilenceSpec).at F).post enc Tryd.prog Tryd.f8 false true false false) := by
  obtain ⟨places, hx⟩ := reads os enc
  refine returnsInHanded_of_row (C := Tryd.checked) (s := OpenSpec.ofChange Rows.chargerSilenceSpec) own started (by kernel_rfl) Tryd.func8
    (witness_row_at (enc := enc) (C := Tryd.checked) false (laidWorld os) #[wCh, wSt] rfl (by kernel_rfl) (by kernel_rfl) (by kernel_rfl)
      (OpenSpec.preRow_of_cond 8 hx (by kernel_rfl) (fun k hk => by cases hk) (by kernel_rfl) (laid_met os))) ?_
  intro W base args ds gs before hval hW _ _ _ hL _ _
  exact contract H enc W base args ds gs before hval hW hL

theorem said : Rows.ChargerSilenceSaid :=
  OpenClaim.holds_of_cond 8 Tryd.f8 rfl rfl rfl rfl rfl rfl rfl ⟨rfl, rfl, rfl, rfl, rfl⟩ rfl rfl rfl rfl rfl (by kernel_rfl) Tryd.func8 (by kernel_rfl)
    (of_decide_eq_true (by kernel_rfl)) (by unfold Func.isWrapper; first | (rw [if_pos (by decide +kernel)]; kernel_rfl) | (rw [if_neg (by decide +kernel)]; exact ⟨rfl, rfl⟩))
    (fun os started H enc _ F => by rw [OpenClaim.pre_eq_preRow]; exact lifted os started H enc F)

theorem plain (f : FuncId) (fn : Func) (hf : Tryd.pinned.checked.prog.funcNamed "chargepark/chargeparklaw12.ChargerSilence" = some f) (hfn : Tryd.pinned.checked.prog.funcs[f]? = some fn) :
    false = Tryd.pinned.checked.prog.looks [] ∧ ∀ (j : Nat) t, fn.params[j]? = some t → Tryd.pinned.checked.prog.wantsStandIn t = false := by
  obtain rfl : f = 8 := Option.some.inj ((show Tryd.prog.funcNamed "chargepark/chargeparklaw12.ChargerSilence" = some 8 by kernel_rfl).symm.trans hf) |>.symm
  obtain rfl : fn = Tryd.f8 := (Option.some.inj (Tryd.func8.symm.trans hfn)).symm
  refine ⟨by kernel_rfl, fun j t ht => ?_⟩
  have h : Tryd.f8.params.toList.all (fun t => !Tryd.prog.wantsStandIn t) = true := by kernel_rfl
  have := List.all_eq_true.1 h t (by simpa using Array.mem_of_getElem? ht)
  show Tryd.prog.wantsStandIn t = false
  simpa using this

theorem card : Rows.ChargerSilenceCardSaid :=
  Claim7.holds_tied_plain_at .later [] _ _ _ _ said (fun _ h => by cases h) (by kernel_rfl) (fun _ h => by cases h) chargerSilence_row_tie rfl ⟨rfl, rfl⟩ (by kernel_rfl) rfl plain (by kernel_rfl)
end ChargerSilence
theorem chargerSilence_card : Rows.ChargerSilenceCardSaid := ChargerSilence.card
end Go.Proofs.YtiejmafkbfiekaaDoor
