/- StepsMatchesReference: what it computes. -/
import Derived.Test.YtihbikkkmoaljaaEi
namespace Go.Proofs.Ytihbikkkmoaljaa
open Go.Sx
def S0_l1 : List LV → T LV
 | [.v (.agg ⟨[.string nm, .int .i64 at_, .int .i64 ph, .int .i64 mi, .int .i64 ma, .int .i64 st, .int .i64 fb, .int .i64 ow]⟩), .v (.int .i64 n), .agg [.xl (.pair .str (.pair (.int .i64) (.pair (.int .i64) (.pair (.int .i64) (.pair (.pair (.int .i64) (.int .i64)) (.pair (.int .i64) (.pair (.int .i64) (.pair (.int .i64) (.pair (.int .i64) (.int .i64)))))))))) cs, .xl (.str) os, .xl (.pair .str (.pair (.int .i64) (.pair (.int .i64) (.int .i64)))) ks, .xl (.pair .str (.pair (.int .i64) (.pair (.int .i64) (.pair (.int .i64) (.pair (.int .i64) (.pair (.int .i64) (.pair (.int .i64) (.int .i64)))))))) gs, .xl (.pair .str (.int .i64)) bs], .xl (.int .i64) al, .xl (.int .i64) mo, .xl (.int .i64) od] => .req (nmR (nmsOf cs os ks gs bs) ∧ n ≤ 9223372036854775807) (.ok (.v (.bool true)))
 | _ => .no
noncomputable def S_l1 : List LV → T LV := upS Try.prog Try.f3.params.toList S0_l1
noncomputable def gam65 : Specs := specsOf [(10, S_head), (11, S_rfw3), (12, S_ampsE), (13, S_ramp), (14, S_shar), (15, S_rshar), (16, S_rints), (17, S_lvls), (18, S_rlvl), (19, S_levl), (20, S_rlev)]
theorem gok65 : ∀ g S, gam65 g = some S → Valid Try.prog noGlobs g S := specs_ok (l := [(10, S_head), (11, S_rfw3), (12, S_ampsE), (13, S_ramp), (14, S_shar), (15, S_rshar), (16, S_rints), (17, S_lvls), (18, S_rlvl), (19, S_levl), (20, S_rlev)]) ⟨v_head, v_rfw3, v_ampsE, v_ramp, v_shar, v_rshar, v_rints, v_lvls, v_rlvl, v_levl, v_rlev, trivial⟩
theorem nf_l1 (nm : ByteArray) (at_ ph mi ma st fb ow n : Int) (cs : List (ByteArray × (Int × (Int × (Int × ((Int × Int) × (Int × (Int × (Int × (Int × Int)))))))))) (os : List ByteArray) (ks : List (ByteArray × (Int × (Int × Int)))) (gs : List (ByteArray × (Int × (Int × (Int × (Int × (Int × (Int × Int)))))))) (bs : List (ByteArray × Int)) (al mo od : List Int) : funu Try.prog noGlobs (gam65) noK noLoops Try.f3 [.v (.agg #[.string nm, .int .i64 at_, .int .i64 ph, .int .i64 mi, .int .i64 ma, .int .i64 st, .int .i64 fb, .int .i64 ow]), .v (.int .i64 n), .agg [.xl tCd cs, .xl .str os, .xl tKo ks, .xl tCh gs, .xl tBa bs], .xl (.int .i64) al, .xl (.int .i64) mo, .xl (.int .i64) od] = .br (!(fewB cs os ks gs bs al mo od)) (.ok (.v (.bool true))) (.req (nmR (nmsOf cs os ks gs bs) ∧ (List.length al : Int) ≤ 1000 ∧ (List.length mo : Int) ≤ 1000 ∧ (List.length gs : Int) ≤ 1000) (.br true (.br ((amA mi ma st n) == (amA mi ma st n)) (.br ((amE mi ma st n) == (amE mi ma st n)) (.req ((List.length (shL cs os ks gs bs al mo od) : Int) ≤ 1000) (.br ((shL cs os ks gs bs al mo od) == (shLR cs os ks gs bs al mo od)) (.br ((shE cs os ks gs bs al mo od) == (shE cs os ks gs bs al mo od)) (.br ((lvs mi ma st) == (lvs mi ma st)) (.req (n ≤ 9223372036854775807) (.ok (.v (.bool ((lev mi ma st n) == (lev mi ma st n)))))) (.ok (.v (.bool false)))) (.ok (.v (.bool false)))) (.ok (.v (.bool false))))) (.ok (.v (.bool false)))) (.ok (.v (.bool false)))) (.ok (.v (.bool false))))) := by kernel_rfl
theorem v_l1 : Valid Try.prog noGlobs 3 S_l1 := valid_ofu Try.func3 rfl gok65 noK_sound (no_loops (by kernel_rfl)) (fun args lv h => by
 unfold S0_l1 at h
 split at h
 ·simp only [canL, canX]
  rw [nf_l1]
  rename_i n cs os ks gs bs al mo od
  obtain ⟨⟨hn, hN⟩, rfl⟩ := h
  refine ⟨fun c => rfl, fun c => ?_⟩
  have hf := fewB_len (nf c)
  have e1 := shL_len (cs := cs) (os := os) (ks := ks) (gs := gs) (bs := bs) (al := al) (mo := mo) (od := od)
  have h1 : (List.length al : Int) ≤ 1000 := by omega
  have h2 : (List.length mo : Int) ≤ 1000 := by omega
  have h3 : (List.length gs : Int) ≤ 1000 := by omega
  have h4 : (List.length (shL cs os ks gs bs al mo od) : Int) ≤ 1000 := by omega
  rw [← shL_eq]
  simp [T.all, h1, h2, h3, h4, hn, hN]
 ·cases h)
end Go.Proofs.Ytihbikkkmoaljaa
