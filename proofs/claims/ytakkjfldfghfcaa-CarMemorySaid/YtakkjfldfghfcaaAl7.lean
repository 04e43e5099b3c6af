/- CarMemory: what it computes. -/
import Derived.Test.YtakkjfldfghfcaaAq
namespace Go.Proofs.Ytakkjfldfghfcaa
open Go.Sx
theorem memory {k ph mx nd dl : Int} {pil : List Int} {tk got p2 al : Int} (hB : drB k ph mx nd dl pil tk got p2 al = true) :
    drB k ph mx nd dl (pil.drop ((pil.length : Int) - dl).toNat) tk got p2 al = true ∧ dA k ph mx nd dl (pil.drop ((pil.length : Int) - dl).toNat) tk got p2 al = dA k ph mx nd dl pil tk got p2 al ∧ dO k ph mx nd dl (pil.drop ((pil.length : Int) - dl).toNat) tk got p2 al = dO k ph mx nd dl pil tk got p2 al := by
  obtain ⟨hc, hm, h1, h2, h3, h4, h5⟩ := drB_iff.1 hB
  have hc' := carB_iff.1 hc
  have hm' := mindB_iff.1 hm
  have hB' : drB k ph mx nd dl (pil.drop ((pil.length : Int) - dl).toNat) tk got p2 al = true := by
    refine drB_iff.2 ⟨hc, mindB_iff.2 ⟨by simp; omega, hm'.2.1, hm'.2.2.1, hm'.2.2.2.1, hm'.2.2.2.2.1, fun p hp => hm'.2.2.2.2.2 p (List.mem_of_mem_drop hp)⟩, h1, h2, h3, h4, h5⟩
  have ha : dl ≠ 0 → ago dl (pil.drop ((pil.length : Int) - dl).toNat) = ago dl pil := fun hd => by
    by_cases hl : (pil.length : Int) - dl ≥ 0
    · unfold ago
      rw [if_pos hl, if_pos (by simp; omega)]
      simp only [List.getD_eq_getElem?_getD, List.getElem?_drop, List.length_drop]
      congr 2
      omega
    · rw [show pil.drop ((pil.length : Int) - dl).toNat = pil by rw [show ((pil.length : Int) - dl).toNat = 0 by omega]; exact List.drop_zero]
  have hw : wish k dl tk mx (pil.drop ((pil.length : Int) - dl).toNat) al = wish k dl tk mx pil al := by
    unfold wish
    by_cases hd : dl = 0
    · simp [hd]
    · rw [ha hd]
  have hA : dA k ph mx nd dl (pil.drop ((pil.length : Int) - dl).toNat) tk got p2 al = dA k ph mx nd dl pil tk got p2 al := by unfold dA; rw [hw]
  refine ⟨hB', hA, ?_⟩
  unfold dO
  rw [hA]
def S0_l7 : List LV → T LV
  | [.v (.agg ⟨[.int .i64 k, .int .i64 ph, .int .i64 mx, .int .i64 nd, .int .i64 dl]⟩), .agg [.xl (.int .i64) pil, .v (.int .i64 tk), .v (.int .i64 got)], .v (.int .i64 p2), .v (.int .i64 al)] => .ok (.v (.bool true))
  | _ => .no
noncomputable def S_l7 : List LV → T LV := upS Try.prog Try.f9.params.toList S0_l7
theorem nf_l7 (k ph mx nd dl : Int) (pil : List Int) (tk got p2 al : Int) : funu Try.prog noGlobs (specsOf [(10, S_head), (11, S_drw)]) noK noLoops Try.f9 [.v (.agg #[.int .i64 k, .int .i64 ph, .int .i64 mx, .int .i64 nd, .int .i64 dl]), .agg [.xl (.int .i64) pil, .v (.int .i64 tk), .v (.int .i64 got)], .v (.int .i64 p2), .v (.int .i64 al)] = .br (drB k ph mx nd dl pil tk got p2 al) (.br (((0 : Int) != 0) || ((decide (((List.length pil : Int)) > 40)) || (decide (dl < 0)))) (.ok (.v (.bool true))) (.req (0 ≤ (if (0 : Int) < (IntKind.i64.wrap (((List.length pil : Int)) - dl)) then IntKind.i64.wrap (((List.length pil : Int)) - dl) else 0) ∧ (if (0 : Int) < (IntKind.i64.wrap (((List.length pil : Int)) - dl)) then IntKind.i64.wrap (((List.length pil : Int)) - dl) else 0) ≤ ((List.length pil : Int)) ∧ ((List.length pil : Int)) ≤ (List.length pil : Int)) (.br (drB k ph mx nd dl ((pil.drop (if (0 : Int) < (IntKind.i64.wrap (((List.length pil : Int)) - dl)) then IntKind.i64.wrap (((List.length pil : Int)) - dl) else 0).toNat).take (((List.length pil : Int)).toNat - (if (0 : Int) < (IntKind.i64.wrap (((List.length pil : Int)) - dl)) then IntKind.i64.wrap (((List.length pil : Int)) - dl) else 0).toNat)) tk got p2 al) (.ok (.v (.bool (true && (((0 : Int) == 0) && (((dA k ph mx nd dl pil tk got p2 al) == (dA k ph mx nd dl ((pil.drop (if (0 : Int) < (IntKind.i64.wrap (((List.length pil : Int)) - dl)) then IntKind.i64.wrap (((List.length pil : Int)) - dl) else 0).toNat).take (((List.length pil : Int)).toNat - (if (0 : Int) < (IntKind.i64.wrap (((List.length pil : Int)) - dl)) then IntKind.i64.wrap (((List.length pil : Int)) - dl) else 0).toNat)) tk got p2 al)) && ((dO k ph mx nd dl pil tk got p2 al) == (dO k ph mx nd dl ((pil.drop (if (0 : Int) < (IntKind.i64.wrap (((List.length pil : Int)) - dl)) then IntKind.i64.wrap (((List.length pil : Int)) - dl) else 0).toNat).take (((List.length pil : Int)).toNat - (if (0 : Int) < (IntKind.i64.wrap (((List.length pil : Int)) - dl)) then IntKind.i64.wrap (((List.length pil : Int)) - dl) else 0).toNat)) tk got p2 al)))))))) (.ok (.v (.bool (true && (((1 : Int) == 0) && (((dA k ph mx nd dl pil tk got p2 al) == 0) && ((dO k ph mx nd dl pil tk got p2 al) == 0)))))))))) (.br (((1 : Int) != 0) || ((decide (((List.length pil : Int)) > 40)) || (decide (dl < 0)))) (.ok (.v (.bool true))) (.req (0 ≤ (if (0 : Int) < (IntKind.i64.wrap (((List.length pil : Int)) - dl)) then IntKind.i64.wrap (((List.length pil : Int)) - dl) else 0) ∧ (if (0 : Int) < (IntKind.i64.wrap (((List.length pil : Int)) - dl)) then IntKind.i64.wrap (((List.length pil : Int)) - dl) else 0) ≤ ((List.length pil : Int)) ∧ ((List.length pil : Int)) ≤ (List.length pil : Int)) (.br (drB k ph mx nd dl ((pil.drop (if (0 : Int) < (IntKind.i64.wrap (((List.length pil : Int)) - dl)) then IntKind.i64.wrap (((List.length pil : Int)) - dl) else 0).toNat).take (((List.length pil : Int)).toNat - (if (0 : Int) < (IntKind.i64.wrap (((List.length pil : Int)) - dl)) then IntKind.i64.wrap (((List.length pil : Int)) - dl) else 0).toNat)) tk got p2 al) (.ok (.v (.bool (true && (((0 : Int) == 0) && (((0 : Int) == (dA k ph mx nd dl ((pil.drop (if (0 : Int) < (IntKind.i64.wrap (((List.length pil : Int)) - dl)) then IntKind.i64.wrap (((List.length pil : Int)) - dl) else 0).toNat).take (((List.length pil : Int)).toNat - (if (0 : Int) < (IntKind.i64.wrap (((List.length pil : Int)) - dl)) then IntKind.i64.wrap (((List.length pil : Int)) - dl) else 0).toNat)) tk got p2 al)) && ((0 : Int) == (dO k ph mx nd dl ((pil.drop (if (0 : Int) < (IntKind.i64.wrap (((List.length pil : Int)) - dl)) then IntKind.i64.wrap (((List.length pil : Int)) - dl) else 0).toNat).take (((List.length pil : Int)).toNat - (if (0 : Int) < (IntKind.i64.wrap (((List.length pil : Int)) - dl)) then IntKind.i64.wrap (((List.length pil : Int)) - dl) else 0).toNat)) tk got p2 al)))))))) (.ok (.v (.bool (true && (((1 : Int) == 0) && (((0 : Int) == 0) && ((0 : Int) == 0)))))))))) := by kernel_rfl
theorem v_l7 : Valid Try.prog noGlobs 9 S_l7 := valid_ofu Try.func9 rfl (specs_ok (l := [(10, S_head), (11, S_drw)]) ⟨v_head, v_drw, trivial⟩) noK_sound (no_loops (by kernel_rfl)) (fun args lv h => by
  unfold S0_l7 at h
  split at h
  · simp only [canL, canX]
    rw [nf_l7]
    rename_i k ph mx nd dl pil tk got p2 al
    obtain rfl := h
    refine ⟨fun hB => ⟨fun _ => rfl, fun c => ?_⟩, fun hB => ⟨fun _ => rfl, fun c => by simp at c⟩⟩
    obtain ⟨hc, hm, _⟩ := drB_iff.1 hB
    have hc' := carB_iff.1 hc
    have hm' := mindB_iff.1 hm
    have ew : IntKind.i64.wrap ((List.length pil : Int) - dl) = (List.length pil : Int) - dl := wrapS (by omega) (by omega)
    have e : (if (0 : Int) < IntKind.i64.wrap ((List.length pil : Int) - dl) then IntKind.i64.wrap ((List.length pil : Int) - dl) else 0).toNat = ((List.length pil : Int) - dl).toNat := by rw [ew]; split <;> omega
    have e2 : (pil.drop ((List.length pil : Int) - dl).toNat).take ((List.length pil : Int).toNat - ((List.length pil : Int) - dl).toNat) = pil.drop ((List.length pil : Int) - dl).toNat := List.take_of_length_le (by simp)
    rw [e, e2]
    refine ⟨by rw [ew]; split <;> omega, ?_⟩
    obtain ⟨a1, a2, a3⟩ := memory hB
    refine ⟨fun _ => congrArg (fun z => LV.v (.bool z)) (by rw [a2, a3]; simp), fun h => ?_⟩
    rw [a1] at h; cases h
  · cases h)
end Go.Proofs.Ytakkjfldfghfcaa
