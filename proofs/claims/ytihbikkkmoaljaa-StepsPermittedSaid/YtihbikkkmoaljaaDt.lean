/- A level more: what is computed, by the executor. -/
import Derived.Test.YtihbikkkmoaljaaDs
namespace Go.Proofs.Ytihbikkkmoaljaa
open Go.Sx
structure L_evr where
 r : Bool
 l : List Int
 n : Int
 i : Int
 q_Conductors : List (ByteArray × (Int × (Int × (Int × ((Int × Int) × (Int × (Int × (Int × (Int × Int)))))))))
 q_Owners : List ByteArray
 q_Contracts : List (ByteArray × (Int × (Int × Int)))
 q_Chargers : List (ByteArray × (Int × (Int × (Int × (Int × (Int × (Int × Int)))))))
 q_Bays : List (ByteArray × Int)
 tcs : List (ByteArray × (Int × (Int × (Int × ((Int × Int) × (Int × (Int × (Int × (Int × Int)))))))))
 tos : List ByteArray
 tks : List (ByteArray × (Int × (Int × Int)))
 tgs : List (ByteArray × (Int × (Int × (Int × (Int × (Int × (Int × Int)))))))
 tbs : List (ByteArray × Int)
 trows : List (Int × (List Int))
 of0 : List Int
 of1 : List Int
 of2 : List Int
 of3 : List Int
 of4 : List Int
 of5 : List Int
 of6 : List Int
 of7 : List Int
 of8 : List Int
 of9 : List Int
 of10 : List Int
 of11 : List Int
 of12 : List Int
 of13 : List Int
 of14 : List Int
 of15 : List Int
 talive : List Int
 sums : List Int
 levels : List Int
 c_Name : ByteArray
 c_At : Int
 c_Phases : Int
 c_Min : Int
 c_Max : Int
 c_Step : Int
 c_Fallback : Int
 c_Owner : Int
 more : Int
def A_evr (s : L_evr) : List LV := [.fn 47 [.own 4 0, .own 6 0], .v (.bool s.r), .xl (.int .i64) s.l, .v (.int .i64 s.n), .v (.int .i64 s.i)]
def B_evr (s : L_evr) : List Blk := [⟨[.xl tCd s.q_Conductors, .xl .str s.q_Owners, .xl tKo s.q_Contracts, .xl tCh s.q_Chargers, .xl tBa s.q_Bays], 30, .cl, false⟩, ⟨[.xl tCd s.tcs, .xl .str s.tos, .xl tKo s.tks, .xl tCh s.tgs, .xl tBa s.tbs, .xl tRw s.trows, .xl (.int .i64) s.of0, .xl (.int .i64) s.of1, .xl (.int .i64) s.of2, .xl (.int .i64) s.of3, .xl (.int .i64) s.of4, .xl (.int .i64) s.of5, .xl (.int .i64) s.of6, .xl (.int .i64) s.of7, .xl (.int .i64) s.of8, .xl (.int .i64) s.of9, .xl (.int .i64) s.of10, .xl (.int .i64) s.of11, .xl (.int .i64) s.of12, .xl (.int .i64) s.of13, .xl (.int .i64) s.of14, .xl (.int .i64) s.of15, .os 2 1 0 (List.length s.sums), .xl (.int .i64) s.talive, .os 3 1 0 (List.length s.levels)], 66, .cl, false⟩, ⟨[], 3, .vec (.int .i64) s.sums, false⟩, ⟨[], 3, .vec (.int .i64) s.levels, false⟩, ⟨[.own 1 0], 62, .cl, false⟩, ⟨[.v (.string s.c_Name), .v (.int .i64 s.c_At), .v (.int .i64 s.c_Phases), .v (.int .i64 s.c_Min), .v (.int .i64 s.c_Max), .v (.int .i64 s.c_Step), .v (.int .i64 s.c_Fallback), .v (.int .i64 s.c_Owner)], 23, .cl, false⟩, ⟨[.v (.int .i64 s.more)], 3, .cl, false⟩]
noncomputable def body_evr : Code := ((loopsIn (Try.f32.body.getD .skip))[0]?).getD .skip
def t_evr (s : L_evr) : T (Rd L_evr) :=
 .br (decide (s.i < s.n)) (.req (0 ≤ s.i ∧ s.i < (List.length s.l : Int)) (.req (0 ≤ (gi s.l s.i) ∧ (gi s.l s.i) < ((List.length s.sums : Nat) : Int)) (.req ((gi s.l s.i).toNat < List.length s.sums) (.req (0 ≤ (gi s.l s.i) ∧ (gi s.l s.i) < (List.length s.trows : Int)) (.br (!(decide ((IntKind.i64.wrap ((s.sums.getD (gi s.l s.i).toNat (Ty.dflt (.int .i64))) + s.more)) ≤ (gRw s.trows (gi s.l s.i)).1))) (.rl s.sums (.rl s.levels (.ok (.stop (.ret) { s with r := false })))) (.rl s.sums (.rl s.levels (.ok (.next { s with i := (IntKind.i64.wrap (s.i + 1)) }))))))))) (.rl s.sums (.rl s.levels (.ok (.stop (.exit 0) s))))
abbrev f_evr (s : L_evr) := (t_evr s).rd s
def G_evr (s : L_evr) (j : Int) : Bool := fitB s.trows s.sums s.more (gi s.l j)
def E_evr (s : L_evr) : Prop := s.i = 0 ∧ 0 ≤ s.n ∧ s.n ≤ 1000 ∧ s.n = (s.l.length : Int) ∧ (∀ r ∈ s.l, 0 ≤ r ∧ r < (s.trows.length : Int)) ∧ s.sums.length = s.trows.length ∧ (∀ k : Nat, 0 ≤ s.sums.getD k 0 ∧ s.sums.getD k 0 ≤ 2000) ∧ (0 ≤ s.more ∧ s.more ≤ 10000)
def I_evr (s : L_evr) : Prop := 0 ≤ s.i ∧ s.i ≤ s.n ∧ s.n ≤ 1000 ∧ (s.n = (s.l.length : Int) ∧ (∀ r ∈ s.l, 0 ≤ r ∧ r < (s.trows.length : Int)) ∧ s.sums.length = s.trows.length ∧ (∀ k : Nat, 0 ≤ s.sums.getD k 0 ∧ s.sums.getD k 0 ≤ 2000) ∧ (0 ≤ s.more ∧ s.more ≤ 10000)) ∧ ∀ j : Nat, (j : Int) < s.i → G_evr s j = true
def mu_evr (s : L_evr) : Nat := (s.n - s.i).toNat
def Q_evr (x : Ex) (_ s' : L_evr) : Prop := (x = .exit 0 ∧ ∀ j : Nat, (j : Int) < s'.n → G_evr s' j = true) ∨ (x = .ret ∧ s'.r = false ∧ ∃ j : Nat, (j : Int) < s'.n ∧ G_evr s' j = false)
theorem evr_E : ∀ s, E_evr s → I_evr s := by
 intro s h
 obtain ⟨h0, h1, h2, h3⟩ := h
 exact ⟨by omega, by omega, h2, h3, fun j hj => by omega⟩
theorem evr_da (s : L_evr) (hI : I_evr s) : allR (fun s' => I_evr s' ∧ mu_evr s' < mu_evr s) (fun x s' => Q_evr x s s') (f_evr s) := by
 unfold f_evr t_evr
 dsimp only [T.rd, T.rl]
 obtain ⟨h0, h1, h2, h3, h4⟩ := hI
 refine allR_ite (fun c1 => allR_ite (fun c2 => ?_) (fun c2 => ?_)) (fun c1 => ?_)
 ·have c1 : s.i < s.n := by simpa using c1
  refine .inr ⟨rfl, rfl, s.i.toNat, by simp only; omega, ?_⟩
  rw [Int.toNat_of_nonneg (by omega)]
  have hg : G_evr s s.i = false := by unfold G_evr; (obtain ⟨e0, e1, e2, e3, e4⟩ := h3; have hb := e3 (gi s.l s.i).toNat; have c2 := c2; rw [wrapS (x := s.sums.getD (gi s.l s.i).toNat (Ty.dflt (.int .i64)) + s.more) (by show _ ≤ s.sums.getD (gi s.l s.i).toNat 0 + s.more; omega) (by show s.sums.getD (gi s.l s.i).toNat 0 + s.more ≤ _; omega)] at c2; unfold fitB; first | (have c3 : (!(decide (s.sums.getD (gi s.l s.i).toNat 0 + s.more ≤ (gRw s.trows (gi s.l s.i)).1))) = true := c2; simpa using c3) | (have c3 : (!(decide (s.sums.getD (gi s.l s.i).toNat 0 + s.more ≤ (gRw s.trows (gi s.l s.i)).1))) = false := c2; simpa using c3))
  exact hg
 ·have c1 : s.i < s.n := by simpa using c1
  have hg : G_evr s s.i = true := by unfold G_evr; (obtain ⟨e0, e1, e2, e3, e4⟩ := h3; have hb := e3 (gi s.l s.i).toNat; have c2 := c2; rw [wrapS (x := s.sums.getD (gi s.l s.i).toNat (Ty.dflt (.int .i64)) + s.more) (by show _ ≤ s.sums.getD (gi s.l s.i).toNat 0 + s.more; omega) (by show s.sums.getD (gi s.l s.i).toNat 0 + s.more ≤ _; omega)] at c2; unfold fitB; first | (have c3 : (!(decide (s.sums.getD (gi s.l s.i).toNat 0 + s.more ≤ (gRw s.trows (gi s.l s.i)).1))) = true := c2; simpa using c3) | (have c3 : (!(decide (s.sums.getD (gi s.l s.i).toNat 0 + s.more ≤ (gRw s.trows (gi s.l s.i)).1))) = false := c2; simpa using c3))
  rw [wrapS (x := s.i + 1) (by omega) (by omega)]
  refine ⟨⟨by simp only; omega, by simp only; omega, h2, h3, fun j hj => ?_⟩, by simp only [mu_evr]; omega⟩
  by_cases hji : (j : Int) < s.i
  ·exact h4 j hji
  ·have : (j : Int) = s.i := by simp only at hj; omega
   rw [this]; exact hg
 ·have c1 : s.n ≤ s.i := by simpa using c1
  exact .inl ⟨rfl, fun j hj => h4 j (by omega)⟩
def D_evr : LpD L_evr := ⟨7, 18, [1, 4, 7, 8, 9], [], A_evr, B_evr, fun v b => ⟨gBo (v.getD 1 .junk), gXl (.int .i64) (v.getD 2 .junk), gI (v.getD 3 .junk), gI (v.getD 4 .junk), gXl tCd (gCe (gBk b 0) 0), gXl .str (gCe (gBk b 0) 1), gXl tKo (gCe (gBk b 0) 2), gXl tCh (gCe (gBk b 0) 3), gXl tBa (gCe (gBk b 0) 4), gXl tCd (gCe (gBk b 1) 0), gXl .str (gCe (gBk b 1) 1), gXl tKo (gCe (gBk b 1) 2), gXl tCh (gCe (gBk b 1) 3), gXl tBa (gCe (gBk b 1) 4), gXl tRw (gCe (gBk b 1) 5), gXl (.int .i64) (gCe (gBk b 1) 6), gXl (.int .i64) (gCe (gBk b 1) 7), gXl (.int .i64) (gCe (gBk b 1) 8), gXl (.int .i64) (gCe (gBk b 1) 9), gXl (.int .i64) (gCe (gBk b 1) 10), gXl (.int .i64) (gCe (gBk b 1) 11), gXl (.int .i64) (gCe (gBk b 1) 12), gXl (.int .i64) (gCe (gBk b 1) 13), gXl (.int .i64) (gCe (gBk b 1) 14), gXl (.int .i64) (gCe (gBk b 1) 15), gXl (.int .i64) (gCe (gBk b 1) 16), gXl (.int .i64) (gCe (gBk b 1) 17), gXl (.int .i64) (gCe (gBk b 1) 18), gXl (.int .i64) (gCe (gBk b 1) 19), gXl (.int .i64) (gCe (gBk b 1) 20), gXl (.int .i64) (gCe (gBk b 1) 21), gXl (.int .i64) (gCe (gBk b 1) 23), gVe (.int .i64) (gBk b 2), gVe (.int .i64) (gBk b 3), gSr (gCe (gBk b 5) 0), gI (gCe (gBk b 5) 1), gI (gCe (gBk b 5) 2), gI (gCe (gBk b 5) 3), gI (gCe (gBk b 5) 4), gI (gCe (gBk b 5) 5), gI (gCe (gBk b 5) 6), gI (gCe (gBk b 5) 7), gI (gCe (gBk b 6) 0)⟩, t_evr, fun s r => { r with l := s.l, n := s.n, q_Conductors := s.q_Conductors, q_Owners := s.q_Owners, q_Contracts := s.q_Contracts, q_Chargers := s.q_Chargers, q_Bays := s.q_Bays, tcs := s.tcs, tos := s.tos, tks := s.tks, tgs := s.tgs, tbs := s.tbs, trows := s.trows, of0 := s.of0, of1 := s.of1, of2 := s.of2, of3 := s.of3, of4 := s.of4, of5 := s.of5, of6 := s.of6, of7 := s.of7, of8 := s.of8, of9 := s.of9, of10 := s.of10, of11 := s.of11, of12 := s.of12, of13 := s.of13, of14 := s.of14, of15 := s.of15, talive := s.talive, sums := s.sums, levels := s.levels, c_Name := s.c_Name, c_At := s.c_At, c_Phases := s.c_Phases, c_Min := s.c_Min, c_Max := s.c_Max, c_Step := s.c_Step, c_Fallback := s.c_Fallback, c_Owner := s.c_Owner, more := s.more }, fun s => s, fun _ s => s, [.ret, .exit 0], E_evr, I_evr, mu_evr⟩
abbrev run_evr := D_evr.run
abbrev exn_evr := D_evr.exn
abbrev E_evrq := D_evr.q
noncomputable def gam35 : Specs := specsOf [(19, S_levl), (23, S_rows), (30, S_amps), (33, S_isor)]
theorem gok35 : ∀ g S, gam35 g = some S → Valid Try.prog noGlobs g S := specs_ok (l := [(19, S_levl), (23, S_rows), (30, S_amps), (33, S_isor)]) ⟨v_levl, v_rows, v_amps, v_isor, trivial⟩
noncomputable def hnd36 : Hand := inl Try.prog noGlobs gam35 (addL 34 1 3 (D_nto.lp) (addL 32 1 2 (D_evs.lp) (unrL Try.prog noGlobs (gam35) 20 2))) 9
theorem hok36 : KSound Try.prog noGlobs hnd36 := inl_sound gok35 (addL_ok Try.func34 rfl (by kernel_rfl) snd_nto (addL_ok Try.func32 rfl (by kernel_rfl) snd_evs (unrL_ok gok35))) 9
theorem rq_evr (s : L_evr) (hI : I_evr s) : (t_evr s).all (fun _ => True) := by
 refine ⟨fun c1 => ⟨?_, ?_, ?_, ?_, fun c2 => ⟨⟨rfl, rfl⟩, ⟨rfl, rfl⟩, trivial⟩, fun c2 => ⟨⟨rfl, rfl⟩, ⟨rfl, rfl⟩, trivial⟩⟩, fun c1 => ⟨⟨rfl, rfl⟩, ⟨rfl, rfl⟩, trivial⟩⟩
 all_goals ((obtain ⟨h0, h1, h2, ⟨e0, e1, e2, e3, e4⟩, h4⟩ := hI; simp only [decide_eq_true_eq] at c1; have hm := e1 (gi s.l s.i) (gi_mem (by omega) (by omega)); omega))
theorem ok_evr : D_evr.Ok := ⟨fun s => by kernel_rfl, fun s => by kernel_rfl, fun s => rfl, fun s t r => rfl, fun s => rfl, fun s => by kernel_rfl⟩
theorem pf_evr : D_evr.Pf (Q_evr) := ⟨evr_E, fun _ _ => rfl, evr_da, rq_evr⟩
theorem snd_evr : SoundA Try.prog noGlobs (AN 7) (.loop body_evr) D_evr.lp := LpD.snd ok_evr pf_evr (code_soundA (Γ := gam35) (K := hnd36) (L := (unrC Try.prog noGlobs gam35 hnd36 20 2)) gok35 hok36 body_evr (fun b _ => unrC_sound gok35 hok36 20 2 b)) (fun s => by kernel_rfl)
theorem evr_fin (s : L_evr) (hE : E_evr s) : ∃ s', I_evr s' ∧ Q_evr (exn_evr s) s' (run_evr s) := LpD.fin ok_evr pf_evr s hE
theorem evr_res (s : L_evr) (hE : E_evr s) : (exn_evr s = .exit 0 ∧ s.l.all (fitB s.trows s.sums s.more) = true) ∨ (exn_evr s = .ret ∧ (run_evr s).r = false ∧ s.l.all (fitB s.trows s.sums s.more) = false) := by
 obtain ⟨s', hI, hq⟩ := evr_fin s hE
 obtain ⟨h0, h1, h2, h3, _⟩ := hE
 have en : (run_evr s).n = s.n := rfl
 rcases hq with ⟨q1, q2⟩ | ⟨q1, q2, j, q3, q4⟩
 ·exact .inl ⟨q1, (all_iff (d := (0 : Int))).1 fun j hj => q2 j (by rw [en]; omega)⟩
 ·refine .inr ⟨q1, q2, ?_⟩
  rw [Bool.eq_false_iff]
  intro hx
  have := (all_iff (d := (0 : Int))).2 hx j (by rw [en] at q3; omega)
  exact Bool.noConfusion (this.symm.trans q4)
structure L_ru where
 charger : Int
 level : Int
 l : List Int
 n : Int
 i : Int
 q_Conductors : List (ByteArray × (Int × (Int × (Int × ((Int × Int) × (Int × (Int × (Int × (Int × Int)))))))))
 q_Owners : List ByteArray
 q_Contracts : List (ByteArray × (Int × (Int × Int)))
 q_Chargers : List (ByteArray × (Int × (Int × (Int × (Int × (Int × (Int × Int)))))))
 q_Bays : List (ByteArray × Int)
 tcs : List (ByteArray × (Int × (Int × (Int × ((Int × Int) × (Int × (Int × (Int × (Int × Int)))))))))
 tos : List ByteArray
 tks : List (ByteArray × (Int × (Int × Int)))
 tgs : List (ByteArray × (Int × (Int × (Int × (Int × (Int × (Int × Int)))))))
 tbs : List (ByteArray × Int)
 trows : List (Int × (List Int))
 of0 : List Int
 of1 : List Int
 of2 : List Int
 of3 : List Int
 of4 : List Int
 of5 : List Int
 of6 : List Int
 of7 : List Int
 of8 : List Int
 of9 : List Int
 of10 : List Int
 of11 : List Int
 of12 : List Int
 of13 : List Int
 of14 : List Int
 of15 : List Int
 talive : List Int
 sums : List Int
 levels : List Int
 more : Int
def A_ru (s : L_ru) : List LV := [.v (.int .i64 s.charger), .own 4 0, .v (.int .i64 s.level), .own 5 0, .xl (.int .i64) s.l, .v (.int .i64 s.n), .v (.int .i64 s.i)]
def B_ru (s : L_ru) : List Blk := [⟨[.xl tCd s.q_Conductors, .xl .str s.q_Owners, .xl tKo s.q_Contracts, .xl tCh s.q_Chargers, .xl tBa s.q_Bays], 30, .cl, false⟩, ⟨[.xl tCd s.tcs, .xl .str s.tos, .xl tKo s.tks, .xl tCh s.tgs, .xl tBa s.tbs, .xl tRw s.trows, .xl (.int .i64) s.of0, .xl (.int .i64) s.of1, .xl (.int .i64) s.of2, .xl (.int .i64) s.of3, .xl (.int .i64) s.of4, .xl (.int .i64) s.of5, .xl (.int .i64) s.of6, .xl (.int .i64) s.of7, .xl (.int .i64) s.of8, .xl (.int .i64) s.of9, .xl (.int .i64) s.of10, .xl (.int .i64) s.of11, .xl (.int .i64) s.of12, .xl (.int .i64) s.of13, .xl (.int .i64) s.of14, .xl (.int .i64) s.of15, .os 2 1 0 (List.length s.sums), .xl (.int .i64) s.talive, .os 3 1 0 (List.length s.levels)], 66, .cl, false⟩, ⟨[], 3, .vec (.int .i64) s.sums, false⟩, ⟨[], 3, .vec (.int .i64) s.levels, false⟩, ⟨[.own 1 0], 62, .cl, false⟩, ⟨[.v (.int .i64 s.more)], 3, .cl, false⟩]
noncomputable def body_ru : Code := ((loopsIn (Try.f35.body.getD .skip))[0]?).getD .skip
def t_ru (s : L_ru) : T (Rd L_ru) :=
 .br (decide (s.i < s.n)) (.req (0 ≤ s.i ∧ s.i < (List.length s.l : Int)) (.req (0 ≤ (gi s.l s.i) ∧ (gi s.l s.i) < ((List.length s.sums : Nat) : Int)) (.req ((gi s.l s.i).toNat < List.length s.sums) (.req (0 ≤ (gi s.l s.i) ∧ (gi s.l s.i) < ((List.length s.sums : Nat) : Int)) (.req ((gi s.l s.i).toNat < List.length s.sums) (.req (0 = 0 ∧ (List.length s.sums) = List.length (s.sums.set (gi s.l s.i).toNat (IntKind.i64.wrap ((s.sums.getD (gi s.l s.i).toNat (Ty.dflt (.int .i64))) + s.more)))) (.rl s.levels (.ok (.next { s with i := (IntKind.i64.wrap (s.i + 1)), sums := (s.sums.set (gi s.l s.i).toNat (IntKind.i64.wrap ((s.sums.getD (gi s.l s.i).toNat (Ty.dflt (.int .i64))) + s.more))) }))))))))) (.rl s.sums (.rl s.levels (.ok (.stop (.exit 0) s))))
abbrev f_ru (s : L_ru) := (t_ru s).rd s
def E_ru (s : L_ru) : Prop := s.i = 0 ∧ (∀ k : Nat, 0 ≤ s.sums.getD k 0 ∧ s.sums.getD k 0 ≤ 2000) ∧ s.n = (s.l.length : Int) ∧ s.n ≤ 1000 ∧ (∀ r ∈ s.l, 0 ≤ r ∧ r < (s.sums.length : Int)) ∧ (0 ≤ s.more ∧ s.more ≤ 10000)
def I_ru (s : L_ru) : Prop := (0 ≤ s.i ∧ s.i ≤ s.n) ∧ (∀ k : Nat, 0 ≤ s.sums.getD k 0 ∧ s.sums.getD k 0 ≤ 2000 + 10000 * s.i) ∧ s.n = (s.l.length : Int) ∧ s.n ≤ 1000 ∧ (∀ r ∈ s.l, 0 ≤ r ∧ r < (s.sums.length : Int)) ∧ (0 ≤ s.more ∧ s.more ≤ 10000)
def mu_ru (s : L_ru) : Nat := (s.n - s.i).toNat
def Q_ru (x : Ex) (_ s' : L_ru) : Prop := x = .exit 0 ∧ s'.i = s'.n
theorem ru_E : ∀ s, E_ru s → I_ru s := by
 intro s h
 obtain ⟨h0, h1, h2, h3⟩ := h
 exact ⟨by omega, fun k => by have := h1 k; omega, h2, h3⟩
theorem ru_da (s : L_ru) (hI : I_ru s) : allR (fun s' => I_ru s' ∧ mu_ru s' < mu_ru s) (fun x s' => Q_ru x s s') (f_ru s) := by
 unfold f_ru t_ru
 dsimp only [T.rd, T.rl]
 obtain ⟨⟨h0, h1⟩, h2, h3, h4, h5, h6⟩ := hI
 refine allR_ite (fun c1 => ?_) (fun c1 => ?_)
 ·have c1 : s.i < s.n := by simpa using c1
  have hb := h2 (gi s.l s.i).toNat
  rw [wrapS (x := s.i + 1) (by omega) (by omega), wrapS (x := s.sums.getD (gi s.l s.i).toNat (Ty.dflt (.int .i64)) + s.more) (by show _ ≤ s.sums.getD (gi s.l s.i).toNat 0 + s.more; omega) (by show s.sums.getD (gi s.l s.i).toNat 0 + s.more ≤ _; omega)]
  refine ⟨⟨⟨by simp only; omega, by simp only; omega⟩, fun k => ?_, h3, h4, fun r hr => by simp only [List.length_set]; exact h5 r hr, h6⟩, by simp only [mu_ru]; omega⟩
  simp only
  have hk := h2 k
  rw [getD_set]
  split
  ·show 0 ≤ s.sums.getD (gi s.l s.i).toNat 0 + s.more ∧ s.sums.getD (gi s.l s.i).toNat 0 + s.more ≤ _
   omega
  ·omega
 ·have c1 : s.n ≤ s.i := by simpa using c1
  exact ⟨rfl, by omega⟩
def D_ru : LpD L_ru := ⟨4, 90, [1, 2, 6, 7, 66, 67, 68], [], A_ru, B_ru, fun v b => ⟨gI (v.getD 0 .junk), gI (v.getD 2 .junk), gXl (.int .i64) (v.getD 4 .junk), gI (v.getD 5 .junk), gI (v.getD 6 .junk), gXl tCd (gCe (gBk b 0) 0), gXl .str (gCe (gBk b 0) 1), gXl tKo (gCe (gBk b 0) 2), gXl tCh (gCe (gBk b 0) 3), gXl tBa (gCe (gBk b 0) 4), gXl tCd (gCe (gBk b 1) 0), gXl .str (gCe (gBk b 1) 1), gXl tKo (gCe (gBk b 1) 2), gXl tCh (gCe (gBk b 1) 3), gXl tBa (gCe (gBk b 1) 4), gXl tRw (gCe (gBk b 1) 5), gXl (.int .i64) (gCe (gBk b 1) 6), gXl (.int .i64) (gCe (gBk b 1) 7), gXl (.int .i64) (gCe (gBk b 1) 8), gXl (.int .i64) (gCe (gBk b 1) 9), gXl (.int .i64) (gCe (gBk b 1) 10), gXl (.int .i64) (gCe (gBk b 1) 11), gXl (.int .i64) (gCe (gBk b 1) 12), gXl (.int .i64) (gCe (gBk b 1) 13), gXl (.int .i64) (gCe (gBk b 1) 14), gXl (.int .i64) (gCe (gBk b 1) 15), gXl (.int .i64) (gCe (gBk b 1) 16), gXl (.int .i64) (gCe (gBk b 1) 17), gXl (.int .i64) (gCe (gBk b 1) 18), gXl (.int .i64) (gCe (gBk b 1) 19), gXl (.int .i64) (gCe (gBk b 1) 20), gXl (.int .i64) (gCe (gBk b 1) 21), gXl (.int .i64) (gCe (gBk b 1) 23), gVe (.int .i64) (gBk b 2), gVe (.int .i64) (gBk b 3), gI (gCe (gBk b 5) 0)⟩, t_ru, fun s r => { r with charger := s.charger, level := s.level, l := s.l, n := s.n, q_Conductors := s.q_Conductors, q_Owners := s.q_Owners, q_Contracts := s.q_Contracts, q_Chargers := s.q_Chargers, q_Bays := s.q_Bays, tcs := s.tcs, tos := s.tos, tks := s.tks, tgs := s.tgs, tbs := s.tbs, trows := s.trows, of0 := s.of0, of1 := s.of1, of2 := s.of2, of3 := s.of3, of4 := s.of4, of5 := s.of5, of6 := s.of6, of7 := s.of7, of8 := s.of8, of9 := s.of9, of10 := s.of10, of11 := s.of11, of12 := s.of12, of13 := s.of13, of14 := s.of14, of15 := s.of15, talive := s.talive, levels := s.levels, more := s.more }, fun s => s, fun _ s => s, [.exit 0], E_ru, I_ru, mu_ru⟩
abbrev run_ru := D_ru.run
abbrev exn_ru := D_ru.exn
abbrev E_ruq := D_ru.q
noncomputable def hnd37 : Hand := inl Try.prog noGlobs gam35 (addL 32 7 2 (D_evr.lp) (addL 34 1 3 (D_nto.lp) (addL 32 1 2 (D_evs.lp) (unrL Try.prog noGlobs (gam35) 20 2)))) 9
theorem hok37 : KSound Try.prog noGlobs hnd37 := inl_sound gok35 (addL_ok Try.func32 rfl (by kernel_rfl) snd_evr (addL_ok Try.func34 rfl (by kernel_rfl) snd_nto (addL_ok Try.func32 rfl (by kernel_rfl) snd_evs (unrL_ok gok35)))) 9
theorem rq_ru (s : L_ru) (hI : I_ru s) : (t_ru s).all (fun _ => True) := by
 refine ⟨fun c1 => ⟨?_, ?_, ?_, ?_, ?_, ?_, ⟨rfl, rfl⟩, trivial⟩, fun c1 => ⟨⟨rfl, rfl⟩, ⟨rfl, rfl⟩, trivial⟩⟩
 all_goals ((obtain ⟨⟨h0, h1⟩, h2, h3, h4, h5, h6⟩ := hI; (try simp only [decide_eq_true_eq] at c1); first | (have hm := h5 (gi s.l s.i) (gi_mem (by omega) (by omega)); omega) | exact ⟨rfl, by simp⟩ | exact ⟨rfl, rfl⟩))
theorem ok_ru : D_ru.Ok := ⟨fun s => by kernel_rfl, fun s => by kernel_rfl, fun s => rfl, fun s t r => rfl, fun s => rfl, fun s => by kernel_rfl⟩
theorem pf_ru : D_ru.Pf (Q_ru) := ⟨ru_E, fun _ _ => rfl, ru_da, rq_ru⟩
theorem snd_ru : SoundA Try.prog noGlobs (AN 4) (.loop body_ru) D_ru.lp := LpD.snd ok_ru pf_ru (code_soundA (Γ := gam35) (K := hnd37) (L := (unrC Try.prog noGlobs gam35 hnd37 20 2)) gok35 hok37 body_ru (fun b _ => unrC_sound gok35 hok37 20 2 b)) (fun s => by kernel_rfl)
theorem ru_fin (s : L_ru) (hE : E_ru s) : ∃ s', I_ru s' ∧ Q_ru (exn_ru s) s' (run_ru s) := LpD.fin ok_ru pf_ru s hE
theorem ru_keep (s : L_ru) (hE : E_ru s) : (fun s : L_ru => addS s.sums s.more (s.l.drop s.i.toNat)) (run_ru s) = (fun s : L_ru => addS s.sums s.more (s.l.drop s.i.toNat)) s := by
 exact LpD.keepV ok_ru pf_ru (fun s : L_ru => addS s.sums s.more (s.l.drop s.i.toNat)) (fun s hI => by
  show allR _ _ (f_ru s)
  unfold f_ru t_ru
  dsimp only [T.rd, T.rl]
  obtain ⟨⟨h0, h1⟩, h2, h3, h4, h5, h6⟩ := hI
  refine allR_ite (fun c1 => ?_) (fun c1 => rfl)
  have c1 : s.i < s.n := by simpa using c1
  have hb := h2 (gi s.l s.i).toNat
  rw [wrapS (x := s.i + 1) (by omega) (by omega), wrapS (x := s.sums.getD (gi s.l s.i).toNat (Ty.dflt (.int .i64)) + s.more) (by show _ ≤ s.sums.getD (gi s.l s.i).toNat 0 + s.more; omega) (by show s.sums.getD (gi s.l s.i).toNat 0 + s.more ≤ _; omega)]
  show addS _ _ _ = addS _ _ _
  rw [(gi_step h0 (show s.i < s.l.length by omega)).1]
  rfl) s hE
theorem ru_res (s : L_ru) (hE : E_ru s) : (run_ru s).sums = addS s.sums s.more s.l := by
 have q3 := ru_keep s hE
 obtain ⟨s', hI, q1, q2⟩ := ru_fin s hE
 obtain ⟨h0, h1, h2, h3⟩ := hE
 simp only at q3
 rw [q2, show (run_ru s).n = s.n from rfl, show (run_ru s).l = s.l from rfl, show (run_ru s).more = s.more from rfl, List.drop_eq_nil_of_le (by omega), h0] at q3
 exact q3
end Go.Proofs.Ytihbikkkmoaljaa
