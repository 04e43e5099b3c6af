/- The law: benches. -/
import Derived.Test.YtihbikkkmoaljaaDz
import Derived.Test.YtihbikkkmoaljaaEg
namespace Go.Proofs.Ytihbikkkmoaljaa
open Go.Sx
structure L_bn where
 n : Int
 i : Int
 b0_Conductors : Value
 b0_Owners : Value
 b0_Contracts : Value
 b0_Chargers : Value
 b0_Bays : Value
 s_Conductors : List (ByteArray × (Int × (Int × (Int × ((Int × Int) × (Int × (Int × (Int × (Int × Int)))))))))
 s_Owners : List ByteArray
 s_Contracts : Value
 s_Bays : Value
 gs : List (ByteArray × (Int × (Int × (Int × (Int × (Int × (Int × Int)))))))
def A_bn (s : L_bn) : List LV := [.own 0 0, .own 1 0, .v (.int .i64 s.n), .v (.int .i64 s.i)]
def B_bn (s : L_bn) : List Blk := [⟨[.v (s.b0_Conductors), .v (s.b0_Owners), .v (s.b0_Contracts), .v (s.b0_Chargers), .v (s.b0_Bays)], 30, .cl, false⟩, ⟨[.xl tCd s.s_Conductors, .xl .str s.s_Owners, .v (s.s_Contracts), .os 2 8 0 (List.length s.gs), .v (s.s_Bays)], 30, .cl, false⟩, ⟨[], 23, .vec tCh s.gs, false⟩]
noncomputable def body_bn : Code := ((loopsIn (Try.f28.body.getD .skip))[0]?).getD .skip
def t_bn (s : L_bn) : T (Rd L_bn) :=
 .br (decide (s.i < s.n)) (.req (0 + (List.length s.gs) = List.length s.gs ∧ ((List.length s.gs + List.length ([(Utf8.encode (IntKind.i32.wrap (IntKind.i64.wrap (112 + s.i))), ((0 : Int), ((1 : Int), ((6 : Int), ((32 : Int), ((2 : Int), ((0 : Int), (0 : Int))))))))]) : Nat) : Int) * 72 ≤ 2 ^ 47 ∧ ((List.length s.gs + List.length ([(Utf8.encode (IntKind.i32.wrap (IntKind.i64.wrap (112 + s.i))), ((0 : Int), ((1 : Int), ((6 : Int), ((32 : Int), ((2 : Int), ((0 : Int), (0 : Int))))))))]) : Nat) : Int) < 2 ^ 62) (.req (0 = 0 ∧ (List.length s.gs + List.length ([(Utf8.encode (IntKind.i32.wrap (IntKind.i64.wrap (112 + s.i))), ((0 : Int), ((1 : Int), ((6 : Int), ((32 : Int), ((2 : Int), ((0 : Int), (0 : Int))))))))])) = List.length (s.gs ++ ([(Utf8.encode (IntKind.i32.wrap (IntKind.i64.wrap (112 + s.i))), ((0 : Int), ((1 : Int), ((6 : Int), ((32 : Int), ((2 : Int), ((0 : Int), (0 : Int))))))))]))) (.ok (.next { s with i := (IntKind.i64.wrap (s.i + 1)), gs := (s.gs ++ ([(Utf8.encode (IntKind.i32.wrap (IntKind.i64.wrap (112 + s.i))), ((0 : Int), ((1 : Int), ((6 : Int), ((32 : Int), ((2 : Int), ((0 : Int), (0 : Int))))))))])) })))) (.rl s.gs (.ok (.stop (.exit 0) s)))
abbrev f_bn (s : L_bn) := (t_bn s).rd s
def E_bn (s : L_bn) : Prop := s.i = 0 ∧ s.gs = [] ∧ 0 ≤ s.n ∧ s.n ≤ 100
def I_bn (s : L_bn) : Prop := (0 ≤ s.i ∧ s.i ≤ s.n) ∧ s.gs = benG s.i.toNat ∧ s.n ≤ 100
def mu_bn (s : L_bn) : Nat := (s.n - s.i).toNat
def Q_bn (x : Ex) (_ s' : L_bn) : Prop := x = .exit 0 ∧ s'.gs = benG s'.n.toNat
theorem bn_E : ∀ s, E_bn s → I_bn s := by
 intro s h
 obtain ⟨h0, h1, h2, h3⟩ := h
 exact ⟨by omega, by rw [h0, h1]; rfl, h3⟩
theorem bn_da (s : L_bn) (hI : I_bn s) : allR (fun s' => I_bn s' ∧ mu_bn s' < mu_bn s) (fun x s' => Q_bn x s s') (f_bn s) := by
 unfold f_bn t_bn
 dsimp only [T.rd, T.rl]
 obtain ⟨⟨h0, h1⟩, h2, h3⟩ := hI
 refine allR_ite (fun c1 => ?_) (fun c1 => ?_)
 ·have c1 : s.i < s.n := by simpa using c1
  rw [wrapS (x := s.i + 1) (by omega) (by omega)]
  refine ⟨⟨⟨by simp only; omega, by simp only; omega⟩, ?_, h3⟩, by simp only [mu_bn]; omega⟩
  simp only
  rw [show (s.i + 1).toNat = s.i.toNat + 1 by omega, benG_succ, Int.toNat_of_nonneg h0, h2]
  rfl
 ·have c1 : s.n ≤ s.i := by simpa using c1
  exact ⟨rfl, by rw [h2, show s.i = s.n by omega]⟩
def D_bn : LpD L_bn := ⟨0, 30, [4, 5, 14, 15], [.nc 1 3 23 tCh], A_bn, B_bn, fun v b => ⟨gI (v.getD 2 .junk), gI (v.getD 3 .junk), gAn (gCe (gBk b 0) 0), gAn (gCe (gBk b 0) 1), gAn (gCe (gBk b 0) 2), gAn (gCe (gBk b 0) 3), gAn (gCe (gBk b 0) 4), gXl tCd (gCe (gBk b 1) 0), gXl .str (gCe (gBk b 1) 1), gAn (gCe (gBk b 1) 2), gAn (gCe (gBk b 1) 4), gVe tCh (gBk b 2)⟩, t_bn, fun s r => { r with n := s.n, b0_Conductors := s.b0_Conductors, b0_Owners := s.b0_Owners, b0_Contracts := s.b0_Contracts, b0_Chargers := s.b0_Chargers, b0_Bays := s.b0_Bays, s_Conductors := s.s_Conductors, s_Owners := s.s_Owners, s_Contracts := s.s_Contracts, s_Bays := s.s_Bays }, fun s => s, fun _ s => s, [.exit 0], E_bn, I_bn, mu_bn⟩
abbrev run_bn := D_bn.run
abbrev exn_bn := D_bn.exn
abbrev E_bnq := D_bn.q
theorem rq_bn (s : L_bn) (hI : I_bn s) : (t_bn s).all (fun _ => True) := by
 refine ⟨fun c1 => ⟨?_, ?_, trivial⟩, fun c1 => ⟨⟨rfl, rfl⟩, trivial⟩⟩
 all_goals ((obtain ⟨⟨h0, h1⟩, h2, h3⟩ := hI; have hl := benG_len (n := s.i.toNat); rw [← h2] at hl; simp only [decide_eq_true_eq] at c1; first | omega | exact ⟨rfl, by simp⟩ | (refine ⟨by omega, ?_, ?_⟩ <;> simp only [List.length_cons, List.length_nil] <;> omega)))
noncomputable def gam61 : Specs := specsOf []
theorem gok61 : ∀ g S, gam61 g = some S → Valid Try.prog noGlobs g S := specs_ok (l := []) trivial
theorem ok_bn : D_bn.Ok := ⟨fun s => by kernel_rfl, fun s => by kernel_rfl, fun s => rfl, fun s t r => rfl, fun s => rfl, fun s => by kernel_rfl⟩
theorem pf_bn : D_bn.Pf (Q_bn) := ⟨bn_E, fun _ _ => rfl, bn_da, rq_bn⟩
theorem snd_bn : SoundA Try.prog noGlobs (AN 0) (.loop body_bn) D_bn.lp := LpD.snd ok_bn pf_bn (code_sound (Γ := gam61) (K := noK) (L := noLoops) gok61 noK_sound body_bn (fun b hb => by rw [show loopsIn body_bn = [] by kernel_rfl] at hb; cases hb)) (fun s => by kernel_rfl)
theorem bn_fin (s : L_bn) (hE : E_bn s) : ∃ s', I_bn s' ∧ Q_bn (exn_bn s) s' (run_bn s) := LpD.fin ok_bn pf_bn s hE
def S0_bench : List LV → T LV
 | [.v (.int .i64 lim), .v (.int .i64 many)] => .req (0 ≤ many ∧ many ≤ 100) (.ok (.agg [.xl tCd (benK lim), .xl .str benO, .xl tKo ([]), .xl tCh (benG (many).toNat), .xl tBa ([])]))
 | _ => .no
noncomputable def S_bench : List LV → T LV := upS Try.prog Try.f28.params.toList S0_bench
theorem nf_bench (lim many : Int) : funu Try.prog noGlobs (gam61) noK (fun i => if i = 3 then D_bn.lp else noLoops i) Try.f28 [.v (.int .i64 lim), .v (.int .i64 many)] = .req (0 = 0 ∧ 0 = List.length ([] : List (ByteArray × (Int × (Int × (Int × (Int × (Int × (Int × Int))))))))) (.req (E_bnq (⟨many, (0 : Int), (.slice none 0 0), (.slice none 0 0), (.slice none 0 0), (.slice none 0 0), (.slice none 0 0), ([((ByteArray.mk #[102]), ((-1 : Int), (lim, (lim, (((0 : Int), (0 : Int)), ((0 : Int), ((0 : Int), ((0 : Int), ((0 : Int), (0 : Int))))))))))]), ([(ByteArray.mk #[111])]), (.slice none 0 0), (.slice none 0 0), ([] : List (ByteArray × (Int × (Int × (Int × (Int × (Int × (Int × Int))))))))⟩ : L_bn)) (.req (0 + (List.length (run_bn (⟨many, (0 : Int), (.slice none 0 0), (.slice none 0 0), (.slice none 0 0), (.slice none 0 0), (.slice none 0 0), ([((ByteArray.mk #[102]), ((-1 : Int), (lim, (lim, (((0 : Int), (0 : Int)), ((0 : Int), ((0 : Int), ((0 : Int), ((0 : Int), (0 : Int))))))))))]), ([(ByteArray.mk #[111])]), (.slice none 0 0), (.slice none 0 0), ([] : List (ByteArray × (Int × (Int × (Int × (Int × (Int × (Int × Int))))))))⟩ : L_bn)).gs) ≤ List.length (run_bn (⟨many, (0 : Int), (.slice none 0 0), (.slice none 0 0), (.slice none 0 0), (.slice none 0 0), (.slice none 0 0), ([((ByteArray.mk #[102]), ((-1 : Int), (lim, (lim, (((0 : Int), (0 : Int)), ((0 : Int), ((0 : Int), ((0 : Int), ((0 : Int), (0 : Int))))))))))]), ([(ByteArray.mk #[111])]), (.slice none 0 0), (.slice none 0 0), ([] : List (ByteArray × (Int × (Int × (Int × (Int × (Int × (Int × Int))))))))⟩ : L_bn)).gs) (.ok (.agg [.xl tCd ([((ByteArray.mk #[102]), ((-1 : Int), (lim, (lim, (((0 : Int), (0 : Int)), ((0 : Int), ((0 : Int), ((0 : Int), ((0 : Int), (0 : Int))))))))))]), .xl .str ([(ByteArray.mk #[111])]), .xl tKo ([] : List (ByteArray × (Int × (Int × Int)))), .xl tCh (((run_bn (⟨many, (0 : Int), (.slice none 0 0), (.slice none 0 0), (.slice none 0 0), (.slice none 0 0), (.slice none 0 0), ([((ByteArray.mk #[102]), ((-1 : Int), (lim, (lim, (((0 : Int), (0 : Int)), ((0 : Int), ((0 : Int), ((0 : Int), ((0 : Int), (0 : Int))))))))))]), ([(ByteArray.mk #[111])]), (.slice none 0 0), (.slice none 0 0), ([] : List (ByteArray × (Int × (Int × (Int × (Int × (Int × (Int × Int))))))))⟩ : L_bn)).gs.drop 0).take (List.length (run_bn (⟨many, (0 : Int), (.slice none 0 0), (.slice none 0 0), (.slice none 0 0), (.slice none 0 0), (.slice none 0 0), ([((ByteArray.mk #[102]), ((-1 : Int), (lim, (lim, (((0 : Int), (0 : Int)), ((0 : Int), ((0 : Int), ((0 : Int), ((0 : Int), (0 : Int))))))))))]), ([(ByteArray.mk #[111])]), (.slice none 0 0), (.slice none 0 0), ([] : List (ByteArray × (Int × (Int × (Int × (Int × (Int × (Int × Int))))))))⟩ : L_bn)).gs)), .xl tBa ([] : List (ByteArray × Int))])))) := by kernel_rfl
theorem v_bench : Valid Try.prog noGlobs 28 S_bench := valid_ofu Try.func28 rfl gok61 noK_sound (L := (fun i => if i = 3 then D_bn.lp else noLoops i)) (fun b hb => by
 rw [show loopsIn _ = [body_bn] by kernel_rfl] at hb
 simp only [List.mem_cons, List.not_mem_nil, or_false] at hb
 subst hb
 exact snd_bn) (fun args lv h => by
 unfold S0_bench at h
 split at h
 ·simp only [canL, canX]
  rw [nf_bench]
  rename_i lim many
  obtain ⟨hm, rfl⟩ := h
  have hE : E_bn ⟨many, (0 : Int), (.slice none 0 0), (.slice none 0 0), (.slice none 0 0), (.slice none 0 0), (.slice none 0 0), benK lim, benO, (.slice none 0 0), (.slice none 0 0), ([] : List Ch)⟩ := ⟨rfl, rfl, hm.1, hm.2⟩
  obtain ⟨s', _, q1, q2⟩ := bn_fin _ hE
  have q2 : (run_bn ⟨many, (0 : Int), (.slice none 0 0), (.slice none 0 0), (.slice none 0 0), (.slice none 0 0), (.slice none 0 0), benK lim, benO, (.slice none 0 0), (.slice none 0 0), ([] : List Ch)⟩).gs = benG many.toNat := q2
  refine ⟨⟨rfl, rfl⟩, ⟨hE, rfl, rfl⟩, by omega, ?_⟩
  show LV.agg [_, _, _, LV.xl tCh (List.take (run_bn ⟨many, (0 : Int), (.slice none 0 0), (.slice none 0 0), (.slice none 0 0), (.slice none 0 0), (.slice none 0 0), benK lim, benO, (.slice none 0 0), (.slice none 0 0), ([] : List Ch)⟩).gs.length (List.drop 0 (run_bn ⟨many, (0 : Int), (.slice none 0 0), (.slice none 0 0), (.slice none 0 0), (.slice none 0 0), (.slice none 0 0), benK lim, benO, (.slice none 0 0), (.slice none 0 0), ([] : List Ch)⟩).gs)), _] = _
  rw [List.drop_zero, List.take_length, q2]
  rfl
 ·cases h)
def S0_gives : List LV → T LV
 | [.v (.int .i64 lim), .xl (.int .i64) al, .xl (.int .i64) mo, .xl (.int .i64) wa] => .req ((List.length wa : Int) ≤ 3) (.ok (.v (.bool (givB lim al mo wa))))
 | _ => .no
noncomputable def S_gives : List LV → T LV := upS Try.prog Try.f27.params.toList S0_gives
noncomputable def gam62 : Specs := specsOf [(14, S_shar), (16, S_rints), (28, S_bench)]
theorem gok62 : ∀ g S, gam62 g = some S → Valid Try.prog noGlobs g S := specs_ok (l := [(14, S_shar), (16, S_rints), (28, S_bench)]) ⟨v_shar, v_rints, v_bench, trivial⟩
theorem nf_gives (lim : Int) (al mo wa : List Int) : funu Try.prog noGlobs (gam62) noK noLoops Try.f27 [.v (.int .i64 lim), .xl (.int .i64) al, .xl (.int .i64) mo, .xl (.int .i64) wa] = .req (0 ≤ (0 : Int) ∧ (0 : Int) ≤ (List.length wa : Int) ∧ (List.length wa : Int) ≤ (List.length ([(0 : Int), (1 : Int), (2 : Int)]) : Int)) (.req (0 ≤ (List.length wa : Int) ∧ (List.length wa : Int) ≤ 100) (.br ((shE (benK lim) benO ([]) (benG ((List.length wa : Int)).toNat) ([]) al mo ((([(0 : Int), (1 : Int), (2 : Int)]).drop (0 : Int).toNat).take ((List.length wa : Int).toNat - (0 : Int).toNat))) == 0) (.req ((List.length (shL (benK lim) benO ([]) (benG ((List.length wa : Int)).toNat) ([]) al mo ((([(0 : Int), (1 : Int), (2 : Int)]).drop (0 : Int).toNat).take ((List.length wa : Int).toNat - (0 : Int).toNat))) : Int) ≤ 1000) (.ok (.v (.bool ((shL (benK lim) benO ([]) (benG ((List.length wa : Int)).toNat) ([]) al mo ((([(0 : Int), (1 : Int), (2 : Int)]).drop (0 : Int).toNat).take ((List.length wa : Int).toNat - (0 : Int).toNat))) == wa))))) (.ok (.v (.bool false))))) := by kernel_rfl
theorem v_gives : Valid Try.prog noGlobs 27 S_gives := valid_ofu Try.func27 rfl gok62 noK_sound (no_loops (by kernel_rfl)) (fun args lv h => by
 unfold S0_gives at h
 split at h
 ·simp only [canL, canX]
  rw [nf_gives]
  rename_i lim al mo wa
  obtain ⟨hw, rfl⟩ := h
  have eo : ((([(0 : Int), (1 : Int), (2 : Int)]).drop (0 : Int).toNat).take ((List.length wa : Int).toNat - (0 : Int).toNat)) = [(0 : Int), 1, 2].take wa.length := by
   rw [Int.toNat_zero, List.drop_zero, Int.toNat_natCast, Nat.sub_zero]
  refine ⟨⟨by omega, by omega, by simp only [List.length_cons, List.length_nil]; omega⟩, ⟨by omega, by omega⟩, ?_⟩
  rw [eo, Int.toNat_natCast]
  refine ⟨fun c => ⟨?_, ?_⟩, fun c => ?_⟩
  ·have := shL_len (cs := benK lim) (os := benO) (ks := []) (gs := benG wa.length) (bs := []) (al := al) (mo := mo) (od := [(0 : Int), 1, 2].take wa.length)
   rw [benG_len] at this
   omega
  ·show LV.v (.bool _) = LV.v (.bool _)
   unfold givB
   rw [c, Bool.true_and]
  ·show LV.v (.bool _) = LV.v (.bool _)
   unfold givB
   rw [c, Bool.false_and]
 ·cases h)
def S0_usab : List LV → T LV
 | [.agg [.xl (.pair .str (.pair (.int .i64) (.pair (.int .i64) (.pair (.int .i64) (.pair (.pair (.int .i64) (.int .i64)) (.pair (.int .i64) (.pair (.int .i64) (.pair (.int .i64) (.pair (.int .i64) (.int .i64)))))))))) cs, .xl (.str) os, .xl (.pair .str (.pair (.int .i64) (.pair (.int .i64) (.int .i64)))) ks, .xl (.pair .str (.pair (.int .i64) (.pair (.int .i64) (.pair (.int .i64) (.pair (.int .i64) (.pair (.int .i64) (.pair (.int .i64) (.int .i64)))))))) gs, .xl (.pair .str (.int .i64)) bs], .xl (.int .i64) al, .xl (.int .i64) mo, .xl (.int .i64) od] => .req (nmR (nmsOf cs os ks gs bs)) (.ok (.v (.bool (useB cs os ks gs bs al mo od))))
 | _ => .no
noncomputable def S_usab : List LV → T LV := upS Try.prog Try.f22.params.toList S0_usab
noncomputable def gam63 : Specs := specsOf [(11, S_rfw3), (37, S_r8cu), (38, S_rord), (39, S_rval)]
theorem gok63 : ∀ g S, gam63 g = some S → Valid Try.prog noGlobs g S := specs_ok (l := [(11, S_rfw3), (37, S_r8cu), (38, S_rord), (39, S_rval)]) ⟨v_rfw3, v_r8cu, v_rord, v_rval, trivial⟩
theorem nf_usab (cs : List (ByteArray × (Int × (Int × (Int × ((Int × Int) × (Int × (Int × (Int × (Int × Int)))))))))) (os : List ByteArray) (ks : List (ByteArray × (Int × (Int × Int)))) (gs : List (ByteArray × (Int × (Int × (Int × (Int × (Int × (Int × Int)))))))) (bs : List (ByteArray × Int)) (al mo od : List Int) : funu Try.prog noGlobs (gam63) noK noLoops Try.f22 [.agg [.xl tCd cs, .xl .str os, .xl tKo ks, .xl tCh gs, .xl tBa bs], .xl (.int .i64) al, .xl (.int .i64) mo, .xl (.int .i64) od] = .br (fewB cs os ks gs bs al mo od) (.req (nmR (nmsOf cs os ks gs bs)) (.br (siteV cs os ks gs bs) (.req ((List.length al : Int) ≤ 1000) (.br (al.all curB && ((List.length al : Int) == (List.length gs : Int))) (.req ((List.length mo : Int) ≤ 1000) (.br (mo.all curB && ((List.length mo : Int) == (List.length gs : Int))) (.req ((List.length gs : Int) ≤ 1000) (.ok (.v (.bool (ordR od (List.length gs : Int)))))) (.ok (.v (.bool false))))) (.ok (.v (.bool false))))) (.ok (.v (.bool false))))) (.ok (.v (.bool false))) := by kernel_rfl
theorem v_usab : Valid Try.prog noGlobs 22 S_usab := valid_ofu Try.func22 rfl gok63 noK_sound (no_loops (by kernel_rfl)) (fun args lv h => by
 unfold S0_usab at h
 split at h
 ·simp only [canL, canX]
  rw [nf_usab]
  rename_i cs os ks gs bs al mo od
  obtain ⟨hn, rfl⟩ := h
  unfold useB
  refine ⟨fun c1 => ⟨hn, fun c2 => ?_, fun c2 => ?_⟩, fun c1 => ?_⟩
  ·have hf := fewB_len c1
   refine ⟨by omega, fun c3 => ⟨by omega, fun c4 => ⟨by omega, ?_⟩, fun c4 => ?_⟩, fun c3 => ?_⟩
   ·show LV.v (.bool _) = LV.v (.bool _)
    rw [Bool.and_eq_true, beq_iff_eq] at c3 c4
    unfold shOk
    rw [c1, c2, c3.1, c4.1, decide_eq_true (show al.length = gs.length by omega), decide_eq_true (show mo.length = gs.length by omega), ordR_eq]
    rfl
   ·show LV.v (.bool _) = LV.v (.bool _)
    rw [no_of (b := shOk cs os ks gs bs al mo od) (fun h => ?_), Bool.and_false]
    obtain ⟨_, h1, h2, h3, h4, h5⟩ := shOk_iff.1 h
    rw [h4, h2] at c4
    simp at c4
   ·show LV.v (.bool _) = LV.v (.bool _)
    rw [no_of (b := shOk cs os ks gs bs al mo od) (fun h => ?_), Bool.and_false]
    obtain ⟨_, h1, h2, h3, h4, h5⟩ := shOk_iff.1 h
    rw [h3, h1] at c3
    simp at c3
  ·show LV.v (.bool _) = LV.v (.bool _)
   rw [no_of (b := shOk cs os ks gs bs al mo od) (fun h => ?_), Bool.and_false]
   rw [(shOk_iff.1 h).1] at c2
   cases c2
  ·show LV.v (.bool _) = LV.v (.bool _)
   rw [c1, Bool.false_and]
 ·cases h)
end Go.Proofs.Ytihbikkkmoaljaa
