/- Share: what is computed, by the executor. -/
import Derived.Test.YtihbikkkmoaljaaDx
import Derived.Test.YtihbikkkmoaljaaDw
namespace Go.Proofs.Ytihbikkkmoaljaa
open Go.Sx
structure L_sho where
 most : List Int
 order : List Int
 n : Int
 level : Int
 s_Conductors : List (ByteArray × (Int × (Int × (Int × ((Int × Int) × (Int × (Int × (Int × (Int × Int)))))))))
 s_Owners : List ByteArray
 s_Contracts : List (ByteArray × (Int × (Int × Int)))
 s_Chargers : List (ByteArray × (Int × (Int × (Int × (Int × (Int × (Int × Int)))))))
 s_Bays : List (ByteArray × Int)
 tcs : List (ByteArray × (Int × (Int × (Int × ((Int × Int) × (Int × (Int × (Int × (Int × Int)))))))))
 tos : List ByteArray
 tks : List (ByteArray × (Int × (Int × Int)))
 tgs : List (ByteArray × (Int × (Int × (Int × (Int × (Int × (Int × Int)))))))
 tbs : List (ByteArray × Int)
 trows : List (Int × (List Int))
 of0 : List Int
 of1 : List Int
 of2 : List Int
 of3 : List Int
 of4 : List Int
 of5 : List Int
 of6 : List Int
 of7 : List Int
 of8 : List Int
 of9 : List Int
 of10 : List Int
 of11 : List Int
 of12 : List Int
 of13 : List Int
 of14 : List Int
 of15 : List Int
 talive : List Int
 sums : List Int
 levels : List Int
def A_sho (s : L_sho) : List LV := [.xl (.int .i64) s.most, .xl (.int .i64) s.order, .own 0 0, .v (.int .i64 s.n), .own 1 0, .v (.int .i64 s.level)]
def B_sho (s : L_sho) : List Blk := [⟨[.xl tCd s.s_Conductors, .xl .str s.s_Owners, .xl tKo s.s_Contracts, .xl tCh s.s_Chargers, .xl tBa s.s_Bays], 30, .cl, false⟩, ⟨[.xl tCd s.tcs, .xl .str s.tos, .xl tKo s.tks, .xl tCh s.tgs, .xl tBa s.tbs, .xl tRw s.trows, .xl (.int .i64) s.of0, .xl (.int .i64) s.of1, .xl (.int .i64) s.of2, .xl (.int .i64) s.of3, .xl (.int .i64) s.of4, .xl (.int .i64) s.of5, .xl (.int .i64) s.of6, .xl (.int .i64) s.of7, .xl (.int .i64) s.of8, .xl (.int .i64) s.of9, .xl (.int .i64) s.of10, .xl (.int .i64) s.of11, .xl (.int .i64) s.of12, .xl (.int .i64) s.of13, .xl (.int .i64) s.of14, .xl (.int .i64) s.of15, .os 2 1 0 (List.length s.sums), .xl (.int .i64) s.talive, .os 3 1 0 (List.length s.levels)], 66, .cl, false⟩, ⟨[], 3, .vec (.int .i64) s.sums, false⟩, ⟨[], 3, .vec (.int .i64) s.levels, false⟩]
noncomputable def body_sho : Code := ((loopsIn (Try.f14.body.getD .skip))[0]?).getD .skip
def st3_shi (s : L_sho) : L_shi := (⟨s.most, s.order, s.n, s.level, false, s.order, (List.length s.order : Int), (0 : Int), s.s_Conductors, s.s_Owners, s.s_Contracts, s.s_Chargers, s.s_Bays, s.tcs, s.tos, s.tks, s.tgs, s.tbs, s.trows, s.of0, s.of1, s.of2, s.of3, s.of4, s.of5, s.of6, s.of7, s.of8, s.of9, s.of10, s.of11, s.of12, s.of13, s.of14, s.of15, s.talive, s.sums, s.levels⟩ : L_shi)
def t_sho (s : L_sho) : T (Rd L_sho) :=
 .rl s.sums (.rl s.levels (.req (E_shiq (st3_shi s)) (.br (!(run_shi (st3_shi s)).some) (.rl (run_shi (st3_shi s)).sums (.rl (run_shi (st3_shi s)).levels (.ok (.stop (.exit 0) { s with sums := (run_shi (st3_shi s)).sums, levels := (run_shi (st3_shi s)).levels })))) (.rl (run_shi (st3_shi s)).sums (.rl (run_shi (st3_shi s)).levels (.ok (.next { s with level := (IntKind.i64.wrap (s.level + 1)), sums := (run_shi (st3_shi s)).sums, levels := (run_shi (st3_shi s)).levels })))))))
abbrev f_sho (s : L_sho) := (t_sho s).rd s
def O_sho (s : L_sho) : List (List Int) := [s.of0, s.of1, s.of2, s.of3, s.of4, s.of5, s.of6, s.of7, s.of8, s.of9, s.of10, s.of11, s.of12, s.of13, s.of14, s.of15]
def E_sho (s : L_sho) : Prop := s.level = 1 ∧ (s.order.length : Int) ≤ 1000 ∧ s.tgs = s.s_Chargers ∧ OkT (O_sho s) s.trows s.tgs s.talive s.most s.order ∧ OkS s.trows s.order s.sums s.levels
def I_sho (s : L_sho) : Prop := (1 ≤ s.level ∧ s.level ≤ 81) ∧ (s.order.length : Int) ≤ 1000 ∧ s.tgs = s.s_Chargers ∧ OkT (O_sho s) s.trows s.tgs s.talive s.most s.order ∧ OkS s.trows s.order s.sums s.levels
def mu_sho (s : L_sho) : Nat := (82 - s.level).toNat
def Q_sho (x : Ex) (_ _ : L_sho) : Prop := x = .exit 0
theorem sho_E : ∀ s, E_sho s → I_sho s := by
 intro s h
 obtain ⟨h0, h1⟩ := h
 exact ⟨by omega, h1⟩
theorem sho_in (s : L_sho) (hI : I_sho s) : E_shi (st3_shi s) := by
 obtain ⟨⟨h0, h1⟩, h2, h3, hT, hS⟩ := hI
 exact ⟨rfl, ⟨rfl, h2, h0, h1⟩, h3, hT, hS⟩
theorem sho_r (s : L_sho) (hI : I_sho s) : ((run_shi (st3_shi s)).sums, (run_shi (st3_shi s)).levels, (run_shi (st3_shi s)).some) = swp (O_sho s) s.trows s.tgs s.talive s.most s.level (s.sums, s.levels, false) s.order := shi_res _ (sho_in s hI)
theorem sho_da (s : L_sho) (hI : I_sho s) : allR (fun s' => I_sho s' ∧ mu_sho s' < mu_sho s) (fun x s' => Q_sho x s s') (f_sho s) := by
 unfold f_sho t_sho
 dsimp only [T.rd, T.rl]
 have hr := sho_r s hI
 obtain ⟨⟨h0, h1⟩, h2, h3, hT, hS⟩ := hI
 refine allR_ite (fun c1 => rfl) (fun c1 => ?_)
 have c1 : (run_shi (st3_shi s)).some = true := by simpa using c1
 have hk := swp_ok hT h0 h1 s.order (s.sums, s.levels, false) (fun _ h => h) hS
 have hs := swp_some (O := O_sho s) (rows := s.trows) (gs := s.tgs) (alive := s.talive) (most := s.most) (level := s.level) s.order (s.sums, s.levels, false)
 rw [← hr] at hk hs
 have h80 : s.level ≤ 80 := by
  rcases hs c1 with h | h
  ·cases h
  ·exact h
 rw [wrapS (x := s.level + 1) (by omega) (by omega)]
 exact ⟨⟨⟨by simp only; omega, by simp only; omega⟩, h2, h3, hT, hk⟩, by simp only [mu_sho]; omega⟩
def D_sho : LpD L_sho := ⟨0, 129, [2, 3, 4, 12, 14, 15], [.ps 14 6 (.int .i64), .ps 14 7 (.int .i64), .ps 14 8 (.int .i64), .ps 14 9 (.int .i64), .ps 14 10 (.int .i64), .ps 14 11 (.int .i64), .ps 14 12 (.int .i64), .ps 14 13 (.int .i64), .ps 14 14 (.int .i64), .ps 14 15 (.int .i64), .ps 14 16 (.int .i64), .ps 14 17 (.int .i64), .ps 14 18 (.int .i64), .ps 14 19 (.int .i64), .ps 14 20 (.int .i64), .ps 14 21 (.int .i64)], A_sho, B_sho, fun v b => ⟨gXl (.int .i64) (v.getD 0 .junk), gXl (.int .i64) (v.getD 1 .junk), gI (v.getD 3 .junk), gI (v.getD 5 .junk), gXl tCd (gCe (gBk b 0) 0), gXl .str (gCe (gBk b 0) 1), gXl tKo (gCe (gBk b 0) 2), gXl tCh (gCe (gBk b 0) 3), gXl tBa (gCe (gBk b 0) 4), gXl tCd (gCe (gBk b 1) 0), gXl .str (gCe (gBk b 1) 1), gXl tKo (gCe (gBk b 1) 2), gXl tCh (gCe (gBk b 1) 3), gXl tBa (gCe (gBk b 1) 4), gXl tRw (gCe (gBk b 1) 5), gXl (.int .i64) (gCe (gBk b 1) 6), gXl (.int .i64) (gCe (gBk b 1) 7), gXl (.int .i64) (gCe (gBk b 1) 8), gXl (.int .i64) (gCe (gBk b 1) 9), gXl (.int .i64) (gCe (gBk b 1) 10), gXl (.int .i64) (gCe (gBk b 1) 11), gXl (.int .i64) (gCe (gBk b 1) 12), gXl (.int .i64) (gCe (gBk b 1) 13), gXl (.int .i64) (gCe (gBk b 1) 14), gXl (.int .i64) (gCe (gBk b 1) 15), gXl (.int .i64) (gCe (gBk b 1) 16), gXl (.int .i64) (gCe (gBk b 1) 17), gXl (.int .i64) (gCe (gBk b 1) 18), gXl (.int .i64) (gCe (gBk b 1) 19), gXl (.int .i64) (gCe (gBk b 1) 20), gXl (.int .i64) (gCe (gBk b 1) 21), gXl (.int .i64) (gCe (gBk b 1) 23), gVe (.int .i64) (gBk b 2), gVe (.int .i64) (gBk b 3)⟩, t_sho, fun s r => { r with most := s.most, order := s.order, n := s.n, s_Conductors := s.s_Conductors, s_Owners := s.s_Owners, s_Contracts := s.s_Contracts, s_Chargers := s.s_Chargers, s_Bays := s.s_Bays, tcs := s.tcs, tos := s.tos, tks := s.tks, tgs := s.tgs, tbs := s.tbs, trows := s.trows, of0 := s.of0, of1 := s.of1, of2 := s.of2, of3 := s.of3, of4 := s.of4, of5 := s.of5, of6 := s.of6, of7 := s.of7, of8 := s.of8, of9 := s.of9, of10 := s.of10, of11 := s.of11, of12 := s.of12, of13 := s.of13, of14 := s.of14, of15 := s.of15, talive := s.talive }, fun s => s, fun _ s => s, [.exit 0], E_sho, I_sho, mu_sho⟩
abbrev run_sho := D_sho.run
abbrev exn_sho := D_sho.exn
abbrev E_shoq := D_sho.q
theorem rq_sho (s : L_sho) (hI : I_sho s) : (t_sho s).all (fun _ => True) := by
 refine ⟨⟨rfl, rfl⟩, ⟨rfl, rfl⟩, ?_, fun c1 => ⟨⟨rfl, rfl⟩, ⟨rfl, rfl⟩, trivial⟩, fun c1 => ⟨⟨rfl, rfl⟩, ⟨rfl, rfl⟩, trivial⟩⟩
 ·exact ⟨sho_in s hI, rfl, rfl⟩
noncomputable def gam40 : Specs := specsOf [(19, S_levl), (23, S_rows), (30, S_amps), (33, S_isor)]
theorem gok40 : ∀ g S, gam40 g = some S → Valid Try.prog noGlobs g S := specs_ok (l := [(19, S_levl), (23, S_rows), (30, S_amps), (33, S_isor)]) ⟨v_levl, v_rows, v_amps, v_isor, trivial⟩
noncomputable def hnd41 : Hand := inl Try.prog noGlobs gam40 (addL 35 4 8 (D_ru.lp) (addL 32 7 2 (D_evr.lp) (addL 34 1 3 (D_nto.lp) (addL 32 1 2 (D_evs.lp) (unrL Try.prog noGlobs (gam40) 20 2))))) 9
theorem hok41 : KSound Try.prog noGlobs hnd41 := inl_sound gok40 (addL_ok Try.func35 rfl (by kernel_rfl) snd_ru (addL_ok Try.func32 rfl (by kernel_rfl) snd_evr (addL_ok Try.func34 rfl (by kernel_rfl) snd_nto (addL_ok Try.func32 rfl (by kernel_rfl) snd_evs (unrL_ok gok40))))) 9
theorem ok_sho : D_sho.Ok := ⟨fun s => by kernel_rfl, fun s => by kernel_rfl, fun s => rfl, fun s t r => rfl, fun s => rfl, fun s => by kernel_rfl⟩
theorem pf_sho : D_sho.Pf (Q_sho) := ⟨sho_E, fun _ _ => rfl, sho_da, rq_sho⟩
theorem snd_sho : SoundA Try.prog noGlobs (AN 0) (.loop body_sho) D_sho.lp := LpD.snd ok_sho pf_sho (code_sound (Γ := gam40) (K := hnd41) (L := (fun i => if i = 13 then D_shi.lp else noLoops i)) gok40 hok41 body_sho (fun b hb => by
 rw [show loopsIn _ = [body_shi] by kernel_rfl] at hb
 simp only [List.mem_cons, List.not_mem_nil, or_false] at hb
 subst hb
 exact snd_shi)) (fun s => by kernel_rfl)
theorem sho_fin (s : L_sho) (hE : E_sho s) : ∃ s', I_sho s' ∧ Q_sho (exn_sho s) s' (run_sho s) := LpD.fin ok_sho pf_sho s hE
theorem sho_res (s : L_sho) (hE : E_sho s) : (run_sho s).levels = shl (O_sho s) s.trows s.tgs s.talive s.most s.order 81 1 s.sums s.levels := by
 have hk := LpD.finV ok_sho pf_sho (V := fun s : L_sho => shl (O_sho s) s.trows s.tgs s.talive s.most s.order (82 - s.level).toNat s.level s.sums s.levels) (K := fun _ s' v => s'.levels = v) (fun s hI => by
  have hr := sho_r s hI
  have hs := swp_some (O := O_sho s) (rows := s.trows) (gs := s.tgs) (alive := s.talive) (most := s.most) (level := s.level) s.order (s.sums, s.levels, false)
  obtain ⟨⟨h0, h1⟩, h2, h3, hT, hS⟩ := hI
  rw [← hr] at hs
  have hf : (82 - s.level).toNat = (81 - s.level).toNat + 1 := by omega
  show allR _ _ (f_sho s)
  unfold f_sho t_sho
  dsimp only [T.rd, T.rl]
  refine allR_ite (fun c1 => ?_) (fun c1 => ?_)
  ·have c1 : (run_shi (st3_shi s)).some = false := by simpa using c1
   show (run_shi (st3_shi s)).levels = shl _ _ _ _ _ _ _ _ _ _
   rw [hf, shl, ← hr, if_neg (by simp only [c1]; simp)]
  ·have c1 : (run_shi (st3_shi s)).some = true := by simpa using c1
   have h80 : s.level ≤ 80 := by
    rcases hs c1 with h | h
    ·cases h
    ·exact h
   rw [wrapS (x := s.level + 1) (by omega) (by omega)]
   show shl (O_sho s) s.trows s.tgs s.talive s.most s.order (82 - (s.level + 1)).toNat (s.level + 1) (run_shi (st3_shi s)).sums (run_shi (st3_shi s)).levels = shl (O_sho s) s.trows s.tgs s.talive s.most s.order (82 - s.level).toNat s.level s.sums s.levels
   rw [hf, show 82 - (s.level + 1) = 81 - s.level by omega]
   conv => rhs; rw [shl, ← hr]
   simp only [c1, if_true]) s hE
 rw [hk, hE.1]
 rfl
structure L_shx where
 l : List (ByteArray × (Int × (Int × (Int × (Int × (Int × (Int × Int)))))))
 m : Int
 k : Int
 tcs : List (ByteArray × (Int × (Int × (Int × ((Int × Int) × (Int × (Int × (Int × (Int × Int)))))))))
 tos : List ByteArray
 tks : List (ByteArray × (Int × (Int × Int)))
 tgs : List (ByteArray × (Int × (Int × (Int × (Int × (Int × (Int × Int)))))))
 tbs : List (ByteArray × Int)
 trows : List (Int × (List Int))
 of0 : List Int
 of1 : List Int
 of2 : List Int
 of3 : List Int
 of4 : List Int
 of5 : List Int
 of6 : List Int
 of7 : List Int
 of8 : List Int
 of9 : List Int
 of10 : List Int
 of11 : List Int
 of12 : List Int
 of13 : List Int
 of14 : List Int
 of15 : List Int
 talive : List Int
 out : List Int
 sums : List Int
 levels : List Int
def A_shx (s : L_shx) : List LV := [.own 0 0, .os 1 1 0 (List.length s.out), .xl tCh s.l, .v (.int .i64 s.m), .v (.int .i64 s.k)]
def B_shx (s : L_shx) : List Blk := [⟨[.xl tCd s.tcs, .xl .str s.tos, .xl tKo s.tks, .xl tCh s.tgs, .xl tBa s.tbs, .xl tRw s.trows, .xl (.int .i64) s.of0, .xl (.int .i64) s.of1, .xl (.int .i64) s.of2, .xl (.int .i64) s.of3, .xl (.int .i64) s.of4, .xl (.int .i64) s.of5, .xl (.int .i64) s.of6, .xl (.int .i64) s.of7, .xl (.int .i64) s.of8, .xl (.int .i64) s.of9, .xl (.int .i64) s.of10, .xl (.int .i64) s.of11, .xl (.int .i64) s.of12, .xl (.int .i64) s.of13, .xl (.int .i64) s.of14, .xl (.int .i64) s.of15, .os 2 1 0 (List.length s.sums), .xl (.int .i64) s.talive, .os 3 1 0 (List.length s.levels)], 66, .cl, false⟩, ⟨[], 3, .vec (.int .i64) s.out, false⟩, ⟨[], 3, .vec (.int .i64) s.sums, false⟩, ⟨[], 3, .vec (.int .i64) s.levels, false⟩]
noncomputable def body_shx : Code := ((loopsIn (Try.f14.body.getD .skip))[1]?).getD .skip
def t_shx (s : L_shx) : T (Rd L_shx) :=
 .br (decide (s.k < s.m)) (.req (0 ≤ s.k ∧ s.k < (List.length s.l : Int)) (.req (0 ≤ s.k ∧ s.k < ((List.length s.levels : Nat) : Int)) (.req (s.k.toNat < List.length s.levels) (.req ((1 ≤ (gCh s.l s.k).2.2.2.1 ∧ (gCh s.l s.k).2.2.2.1 ≤ 80 ∧ 1 ≤ (gCh s.l s.k).2.2.2.2.2.1 ∧ (gCh s.l s.k).2.2.2.2.2.1 ≤ 80) ∧ 0 ≤ (s.levels.getD s.k.toNat (Ty.dflt (.int .i64))) ∧ (s.levels.getD s.k.toNat (Ty.dflt (.int .i64))) ≤ 1000) (.req (0 ≤ s.k ∧ s.k < ((List.length s.out : Nat) : Int)) (.req (s.k.toNat < List.length s.out) (.req (0 = 0 ∧ (List.length s.out) = List.length (s.out.set s.k.toNat (amL (gCh s.l s.k).2.2.2.1 (gCh s.l s.k).2.2.2.2.2.1 (s.levels.getD s.k.toNat (Ty.dflt (.int .i64)))))) (.rl s.sums (.rl s.levels (.ok (.next { s with k := (IntKind.i64.wrap (s.k + 1)), out := (s.out.set s.k.toNat (amL (gCh s.l s.k).2.2.2.1 (gCh s.l s.k).2.2.2.2.2.1 (s.levels.getD s.k.toNat (Ty.dflt (.int .i64))))) }))))))))))) (.rl s.out (.rl s.sums (.rl s.levels (.ok (.stop (.exit 4) s)))))
abbrev f_shx (s : L_shx) := (t_shx s).rd s
def E_shx (s : L_shx) : Prop := s.k = 0 ∧ s.out = List.replicate s.l.length 0 ∧ (s.m = (s.l.length : Int) ∧ s.m ≤ 1000 ∧ s.levels.length = s.l.length) ∧ (∀ k : Int, 0 ≤ k → k < s.m → hasL (gCh s.l k).2.2.2.1 (gCh s.l k).2.2.2.2.1 (gCh s.l k).2.2.2.2.2.1 = true) ∧ (∀ k : Nat, 0 ≤ s.levels.getD k 0 ∧ s.levels.getD k 0 ≤ 80)
def I_shx (s : L_shx) : Prop := (0 ≤ s.k ∧ s.k ≤ s.m) ∧ s.out = amsN s.l s.levels s.k.toNat ++ List.replicate (s.l.length - s.k.toNat) 0 ∧ (s.m = (s.l.length : Int) ∧ s.m ≤ 1000 ∧ s.levels.length = s.l.length) ∧ (∀ k : Int, 0 ≤ k → k < s.m → hasL (gCh s.l k).2.2.2.1 (gCh s.l k).2.2.2.2.1 (gCh s.l k).2.2.2.2.2.1 = true) ∧ (∀ k : Nat, 0 ≤ s.levels.getD k 0 ∧ s.levels.getD k 0 ≤ 80)
def mu_shx (s : L_shx) : Nat := (s.m - s.k).toNat
def Q_shx (x : Ex) (_ s' : L_shx) : Prop := x = .exit 4 ∧ s'.out = amsL s'.l s'.levels
theorem shx_E : ∀ s, E_shx s → I_shx s := by
 intro s h
 obtain ⟨h0, h1, h2⟩ := h
 exact ⟨by have := h2.1; omega, by rw [h0, h1]; rfl, h2⟩
theorem shx_da (s : L_shx) (hI : I_shx s) : allR (fun s' => I_shx s' ∧ mu_shx s' < mu_shx s) (fun x s' => Q_shx x s s') (f_shx s) := by
 unfold f_shx t_shx
 dsimp only [T.rd, T.rl]
 obtain ⟨⟨h0, h1⟩, h2, ⟨h3, h4, h5⟩, h6, h7⟩ := hI
 refine allR_ite (fun c1 => ?_) (fun c1 => ?_)
 ·have c1 : s.k < s.m := by simpa using c1
  rw [wrapS (x := s.k + 1) (by omega) (by omega)]
  refine ⟨⟨⟨by simp only; omega, by simp only; omega⟩, ?_, ⟨h3, h4, h5⟩, h6, h7⟩, by simp only [mu_shx]; omega⟩
  simp only
  have e : s.l.length - s.k.toNat = (s.l.length - (s.k + 1).toNat) + 1 := by omega
  have hs := set_rep (xs := amsN s.l s.levels s.k.toNat) (r := s.l.length - (s.k + 1).toNat) (v := amC s.l s.k (s.levels.getD s.k.toNat 0))
  rw [amsN_length] at hs
  rw [h2, e, show (s.k + 1).toNat = s.k.toNat + 1 by omega, amsN_succ, Int.toNat_of_nonneg h0]
  rw [show (s.k + 1).toNat = s.k.toNat + 1 by omega] at hs
  exact hs
 ·have c1 : s.m ≤ s.k := by simpa using c1
  refine ⟨rfl, ?_⟩
  rw [h2, show s.k.toNat = s.l.length by omega, Nat.sub_self, List.replicate_zero, List.append_nil]
  rfl
def D_shx : LpD L_shx := ⟨0, 129, [14, 19, 108, 109, 110], [], A_shx, B_shx, fun v b => ⟨gXl tCh (v.getD 2 .junk), gI (v.getD 3 .junk), gI (v.getD 4 .junk), gXl tCd (gCe (gBk b 0) 0), gXl .str (gCe (gBk b 0) 1), gXl tKo (gCe (gBk b 0) 2), gXl tCh (gCe (gBk b 0) 3), gXl tBa (gCe (gBk b 0) 4), gXl tRw (gCe (gBk b 0) 5), gXl (.int .i64) (gCe (gBk b 0) 6), gXl (.int .i64) (gCe (gBk b 0) 7), gXl (.int .i64) (gCe (gBk b 0) 8), gXl (.int .i64) (gCe (gBk b 0) 9), gXl (.int .i64) (gCe (gBk b 0) 10), gXl (.int .i64) (gCe (gBk b 0) 11), gXl (.int .i64) (gCe (gBk b 0) 12), gXl (.int .i64) (gCe (gBk b 0) 13), gXl (.int .i64) (gCe (gBk b 0) 14), gXl (.int .i64) (gCe (gBk b 0) 15), gXl (.int .i64) (gCe (gBk b 0) 16), gXl (.int .i64) (gCe (gBk b 0) 17), gXl (.int .i64) (gCe (gBk b 0) 18), gXl (.int .i64) (gCe (gBk b 0) 19), gXl (.int .i64) (gCe (gBk b 0) 20), gXl (.int .i64) (gCe (gBk b 0) 21), gXl (.int .i64) (gCe (gBk b 0) 23), gVe (.int .i64) (gBk b 1), gVe (.int .i64) (gBk b 2), gVe (.int .i64) (gBk b 3)⟩, t_shx, fun s r => { r with l := s.l, m := s.m, tcs := s.tcs, tos := s.tos, tks := s.tks, tgs := s.tgs, tbs := s.tbs, trows := s.trows, of0 := s.of0, of1 := s.of1, of2 := s.of2, of3 := s.of3, of4 := s.of4, of5 := s.of5, of6 := s.of6, of7 := s.of7, of8 := s.of8, of9 := s.of9, of10 := s.of10, of11 := s.of11, of12 := s.of12, of13 := s.of13, of14 := s.of14, of15 := s.of15, talive := s.talive, sums := s.sums, levels := s.levels }, fun s => s, fun _ s => s, [.exit 4], E_shx, I_shx, mu_shx⟩
abbrev run_shx := D_shx.run
abbrev exn_shx := D_shx.exn
abbrev E_shxq := D_shx.q
theorem rq_shx (s : L_shx) (hI : I_shx s) : (t_shx s).all (fun _ => True) := by
 refine ⟨fun c1 => ⟨?_, ?_, ?_, ?_, ?_, ?_, ?_, ⟨rfl, rfl⟩, ⟨rfl, rfl⟩, trivial⟩, fun c1 => ⟨⟨rfl, rfl⟩, ⟨rfl, rfl⟩, ⟨rfl, rfl⟩, trivial⟩⟩
 iterate 3 · (obtain ⟨⟨h0, h1⟩, h2, ⟨h3, h4, h5⟩, h6, h7⟩ := hI; (try simp only [decide_eq_true_eq] at c1); have hl : s.out.length = s.l.length := (by rw [h2, List.length_append, amsN_length, List.length_replicate]; omega); first | omega | exact ⟨rfl, by simp⟩ | exact ⟨rfl, rfl⟩)
 ·(have hh := hasL_iff.1 (hI.2.2.2.1 s.k hI.1.1 (by simpa using c1)); have hb := hI.2.2.2.2 s.k.toNat; refine ⟨by omega, ?_⟩; show 0 ≤ s.levels.getD s.k.toNat 0 ∧ s.levels.getD s.k.toNat 0 ≤ 1000; omega)
 iterate 3 · (obtain ⟨⟨h0, h1⟩, h2, ⟨h3, h4, h5⟩, h6, h7⟩ := hI; (try simp only [decide_eq_true_eq] at c1); have hl : s.out.length = s.l.length := (by rw [h2, List.length_append, amsN_length, List.length_replicate]; omega); first | omega | exact ⟨rfl, by simp⟩ | exact ⟨rfl, rfl⟩)
theorem ok_shx : D_shx.Ok := ⟨fun s => by kernel_rfl, fun s => by kernel_rfl, fun s => rfl, fun s t r => rfl, fun s => rfl, fun s => by kernel_rfl⟩
theorem pf_shx : D_shx.Pf (Q_shx) := ⟨shx_E, fun _ _ => rfl, shx_da, rq_shx⟩
theorem snd_shx : SoundA Try.prog noGlobs (AN 0) (.loop body_shx) D_shx.lp := LpD.snd ok_shx pf_shx (code_sound (Γ := gam40) (K := hnd41) (L := noLoops) gok40 hok41 body_shx (fun b hb => by rw [show loopsIn body_shx = [] by kernel_rfl] at hb; cases hb)) (fun s => by kernel_rfl)
theorem shx_fin (s : L_shx) (hE : E_shx s) : ∃ s', I_shx s' ∧ Q_shx (exn_shx s) s' (run_shx s) := LpD.fin ok_shx pf_shx s hE
end Go.Proofs.Ytihbikkkmoaljaa
