/- What is tried: what is computed, by the executor. -/
import Derived.Test.YtihbikkkmoaljaaDr
namespace Go.Proofs.Ytihbikkkmoaljaa
open Go.Sx
structure L_evs where
 r : Bool
 l : List Int
 n : Int
 i : Int
 b0_Conductors : List (ByteArray × (Int × (Int × (Int × ((Int × Int) × (Int × (Int × (Int × (Int × Int)))))))))
 b0_Owners : List ByteArray
 b0_Contracts : List (ByteArray × (Int × (Int × Int)))
 b0_Chargers : List (ByteArray × (Int × (Int × (Int × (Int × (Int × (Int × Int)))))))
 b0_Bays : List (ByteArray × Int)
def A_evs (s : L_evs) : List LV := [.fn 31 [], .v (.bool s.r), .xl (.int .i64) s.l, .v (.int .i64 s.n), .v (.int .i64 s.i)]
def B_evs (s : L_evs) : List Blk := [⟨[.xl tCd s.b0_Conductors, .xl .str s.b0_Owners, .xl tKo s.b0_Contracts, .xl tCh s.b0_Chargers, .xl tBa s.b0_Bays], 30, .cl, false⟩]
noncomputable def body_evs : Code := ((loopsIn (Try.f32.body.getD .skip))[0]?).getD .skip
def t_evs (s : L_evs) : T (Rd L_evs) :=
 .br (decide (s.i < s.n)) (.req (0 ≤ s.i ∧ s.i < (List.length s.l : Int)) (.br (!((decide ((gi s.l s.i) ≥ 0)) && (decide ((gi s.l s.i) ≤ 80)))) (.ok (.stop (.ret) { s with r := false })) (.ok (.next { s with i := (IntKind.i64.wrap (s.i + 1)) })))) (.ok (.stop (.exit 0) s))
abbrev f_evs (s : L_evs) := (t_evs s).rd s
def G_evs (s : L_evs) (j : Int) : Bool := curB (gi s.l j)
def E_evs (s : L_evs) : Prop := s.i = 0 ∧ 0 ≤ s.n ∧ s.n ≤ 1000 ∧ s.n = (s.l.length : Int)
def I_evs (s : L_evs) : Prop := 0 ≤ s.i ∧ s.i ≤ s.n ∧ s.n ≤ 1000 ∧ (s.n = (s.l.length : Int)) ∧ ∀ j : Nat, (j : Int) < s.i → G_evs s j = true
def mu_evs (s : L_evs) : Nat := (s.n - s.i).toNat
def Q_evs (x : Ex) (_ s' : L_evs) : Prop := (x = .exit 0 ∧ ∀ j : Nat, (j : Int) < s'.n → G_evs s' j = true) ∨ (x = .ret ∧ s'.r = false ∧ ∃ j : Nat, (j : Int) < s'.n ∧ G_evs s' j = false)
theorem evs_E : ∀ s, E_evs s → I_evs s := by
 intro s h
 obtain ⟨h0, h1, h2, h3⟩ := h
 exact ⟨by omega, by omega, h2, h3, fun j hj => by omega⟩
theorem evs_da (s : L_evs) (hI : I_evs s) : allR (fun s' => I_evs s' ∧ mu_evs s' < mu_evs s) (fun x s' => Q_evs x s s') (f_evs s) := by
 unfold f_evs t_evs
 dsimp only [T.rd, T.rl]
 obtain ⟨h0, h1, h2, h3, h4⟩ := hI
 refine allR_ite (fun c1 => allR_ite (fun c2 => ?_) (fun c2 => ?_)) (fun c1 => ?_)
 ·have c1 : s.i < s.n := by simpa using c1
  refine .inr ⟨rfl, rfl, s.i.toNat, by simp only; omega, ?_⟩
  rw [Int.toNat_of_nonneg (by omega)]
  have hg : G_evs s s.i = false := by unfold G_evs; (first | (have c2 : (!(curB (gi s.l s.i))) = false := c2; simpa using c2) | (have c2 : (!(curB (gi s.l s.i))) = true := c2; simpa using c2))
  exact hg
 ·have c1 : s.i < s.n := by simpa using c1
  have hg : G_evs s s.i = true := by unfold G_evs; (first | (have c2 : (!(curB (gi s.l s.i))) = false := c2; simpa using c2) | (have c2 : (!(curB (gi s.l s.i))) = true := c2; simpa using c2))
  rw [wrapS (x := s.i + 1) (by omega) (by omega)]
  refine ⟨⟨by simp only; omega, by simp only; omega, h2, h3, fun j hj => ?_⟩, by simp only [mu_evs]; omega⟩
  by_cases hji : (j : Int) < s.i
  ·exact h4 j hji
  ·have : (j : Int) = s.i := by simp only at hj; omega
   rw [this]; exact hg
 ·have c1 : s.n ≤ s.i := by simpa using c1
  exact .inl ⟨rfl, fun j hj => h4 j (by omega)⟩
def D_evs : LpD L_evs := ⟨1, 18, [1, 4, 7, 8, 9], [], A_evs, B_evs, fun v b => ⟨gBo (v.getD 1 .junk), gXl (.int .i64) (v.getD 2 .junk), gI (v.getD 3 .junk), gI (v.getD 4 .junk), gXl tCd (gCe (gBk b 0) 0), gXl .str (gCe (gBk b 0) 1), gXl tKo (gCe (gBk b 0) 2), gXl tCh (gCe (gBk b 0) 3), gXl tBa (gCe (gBk b 0) 4)⟩, t_evs, fun s r => { r with l := s.l, n := s.n, b0_Conductors := s.b0_Conductors, b0_Owners := s.b0_Owners, b0_Contracts := s.b0_Contracts, b0_Chargers := s.b0_Chargers, b0_Bays := s.b0_Bays }, fun s => s, fun _ s => s, [.ret, .exit 0], E_evs, I_evs, mu_evs⟩
abbrev run_evs := D_evs.run
abbrev exn_evs := D_evs.exn
abbrev E_evsq := D_evs.q
noncomputable def gam32 : Specs := specsOf [(19, S_levl), (23, S_rows), (30, S_amps), (33, S_isor)]
theorem gok32 : ∀ g S, gam32 g = some S → Valid Try.prog noGlobs g S := specs_ok (l := [(19, S_levl), (23, S_rows), (30, S_amps), (33, S_isor)]) ⟨v_levl, v_rows, v_amps, v_isor, trivial⟩
noncomputable def hnd33 : Hand := inl Try.prog noGlobs gam32 (unrL Try.prog noGlobs (gam32) 20 2) 9
theorem hok33 : KSound Try.prog noGlobs hnd33 := inl_sound gok32 (unrL_ok gok32) 9
theorem rq_evs (s : L_evs) (hI : I_evs s) : (t_evs s).all (fun _ => True) := by
 refine ⟨fun c1 => ⟨?_, fun _ => trivial, fun _ => trivial⟩, fun _ => trivial⟩
 ·(obtain ⟨h0, h1, h2, h3, h4⟩ := hI; simp at c1; omega)
theorem ok_evs : D_evs.Ok := ⟨fun s => by kernel_rfl, fun s => by kernel_rfl, fun s => rfl, fun s t r => rfl, fun s => rfl, fun s => by kernel_rfl⟩
theorem pf_evs : D_evs.Pf (Q_evs) := ⟨evs_E, fun _ _ => rfl, evs_da, rq_evs⟩
theorem snd_evs : SoundA Try.prog noGlobs (AN 1) (.loop body_evs) D_evs.lp := LpD.snd ok_evs pf_evs (code_soundA (Γ := gam32) (K := hnd33) (L := (unrC Try.prog noGlobs gam32 hnd33 20 2)) gok32 hok33 body_evs (fun b _ => unrC_sound gok32 hok33 20 2 b)) (fun s => by kernel_rfl)
theorem evs_fin (s : L_evs) (hE : E_evs s) : ∃ s', I_evs s' ∧ Q_evs (exn_evs s) s' (run_evs s) := LpD.fin ok_evs pf_evs s hE
theorem evs_res (s : L_evs) (hE : E_evs s) : (exn_evs s = .exit 0 ∧ s.l.all curB = true) ∨ (exn_evs s = .ret ∧ (run_evs s).r = false ∧ s.l.all curB = false) := by
 obtain ⟨s', hI, hq⟩ := evs_fin s hE
 obtain ⟨h0, h1, h2, h3⟩ := hE
 have el : (run_evs s).l = s.l := rfl
 have en : (run_evs s).n = s.n := rfl
 rcases hq with ⟨q1, q2⟩ | ⟨q1, q2, j, q3, q4⟩
 ·refine .inl ⟨q1, (all_iff (d := (0 : Int))).1 fun j hj => ?_⟩
  have := q2 j (by rw [en]; omega)
  exact this
 ·refine .inr ⟨q1, q2, ?_⟩
  rw [Bool.eq_false_iff]
  intro hx
  have := (all_iff (d := (0 : Int))).2 hx j (by rw [en] at q3; omega)
  exact Bool.noConfusion (this.symm.trans q4)
structure L_nti where
 alive : List Int
 i : Int
 rows : List (Int × (List Int))
 rn : Int
 ri : Int
 l : List Int
 n : Int
 k : Int
 q_Conductors : List (ByteArray × (Int × (Int × (Int × ((Int × Int) × (Int × (Int × (Int × (Int × Int)))))))))
 q_Owners : List ByteArray
 q_Contracts : List (ByteArray × (Int × (Int × Int)))
 q_Chargers : List (ByteArray × (Int × (Int × (Int × (Int × (Int × (Int × Int)))))))
 q_Bays : List (ByteArray × Int)
 tcs : List (ByteArray × (Int × (Int × (Int × ((Int × Int) × (Int × (Int × (Int × (Int × Int)))))))))
 tos : List ByteArray
 tks : List (ByteArray × (Int × (Int × Int)))
 tgs : List (ByteArray × (Int × (Int × (Int × (Int × (Int × (Int × Int)))))))
 tbs : List (ByteArray × Int)
 trows : List (Int × (List Int))
 talive : List Int
 of0 : List Int
 of1 : List Int
 of2 : List Int
 of3 : List Int
 of4 : List Int
 of5 : List Int
 of6 : List Int
 of7 : List Int
 of8 : List Int
 of9 : List Int
 of10 : List Int
 of11 : List Int
 of12 : List Int
 of13 : List Int
 of14 : List Int
 of15 : List Int
 sums : List Int
 levels : List Int
def A_nti (s : L_nti) : List LV := [.xl (.int .i64) s.alive, .own 1 0, .v (.int .i64 s.i), .xl tRw s.rows, .v (.int .i64 s.rn), .v (.int .i64 s.ri), .xl (.int .i64) s.l, .v (.int .i64 s.n), .v (.int .i64 s.k)]
def B_nti (s : L_nti) : List Blk := [⟨[.xl tCd s.q_Conductors, .xl .str s.q_Owners, .xl tKo s.q_Contracts, .xl tCh s.q_Chargers, .xl tBa s.q_Bays], 30, .cl, false⟩, ⟨[.xl tCd s.tcs, .xl .str s.tos, .xl tKo s.tks, .xl tCh s.tgs, .xl tBa s.tbs, .xl tRw s.trows, .os 2 1 0 (List.length s.of0), .os 3 1 0 (List.length s.of1), .os 4 1 0 (List.length s.of2), .os 5 1 0 (List.length s.of3), .os 6 1 0 (List.length s.of4), .os 7 1 0 (List.length s.of5), .os 8 1 0 (List.length s.of6), .os 9 1 0 (List.length s.of7), .os 10 1 0 (List.length s.of8), .os 11 1 0 (List.length s.of9), .os 12 1 0 (List.length s.of10), .os 13 1 0 (List.length s.of11), .os 14 1 0 (List.length s.of12), .os 15 1 0 (List.length s.of13), .os 16 1 0 (List.length s.of14), .os 17 1 0 (List.length s.of15), .os 18 1 0 (List.length s.sums), .xl (.int .i64) s.talive, .os 19 1 0 (List.length s.levels)], 66, .cl, false⟩, ⟨[], 3, .vec (.int .i64) s.of0, false⟩, ⟨[], 3, .vec (.int .i64) s.of1, false⟩, ⟨[], 3, .vec (.int .i64) s.of2, false⟩, ⟨[], 3, .vec (.int .i64) s.of3, false⟩, ⟨[], 3, .vec (.int .i64) s.of4, false⟩, ⟨[], 3, .vec (.int .i64) s.of5, false⟩, ⟨[], 3, .vec (.int .i64) s.of6, false⟩, ⟨[], 3, .vec (.int .i64) s.of7, false⟩, ⟨[], 3, .vec (.int .i64) s.of8, false⟩, ⟨[], 3, .vec (.int .i64) s.of9, false⟩, ⟨[], 3, .vec (.int .i64) s.of10, false⟩, ⟨[], 3, .vec (.int .i64) s.of11, false⟩, ⟨[], 3, .vec (.int .i64) s.of12, false⟩, ⟨[], 3, .vec (.int .i64) s.of13, false⟩, ⟨[], 3, .vec (.int .i64) s.of14, false⟩, ⟨[], 3, .vec (.int .i64) s.of15, false⟩, ⟨[], 3, .vec (.int .i64) s.sums, false⟩, ⟨[], 3, .vec (.int .i64) s.levels, false⟩]
noncomputable def body_nti : Code := ((loopsIn (((loopsIn (Try.f34.body.getD .skip))[0]?).getD .skip))[0]?).getD .skip
set_option maxHeartbeats 4000000 in
def t_nti (s : L_nti) : T (Rd L_nti) :=
 .br (decide (s.k < s.n)) (.req (0 ≤ s.k ∧ s.k < (List.length s.l : Int)) (.req (0 ≤ (gi s.l s.k) ∧ (gi s.l s.k) < (16 : Int)) (.br ((gi s.l s.k) == 0) (.req (0 + (List.length s.of0) = List.length s.of0 ∧ ((List.length s.of0 + List.length ([s.i]) : Nat) : Int) * 8 ≤ 2 ^ 47 ∧ ((List.length s.of0 + List.length ([s.i]) : Nat) : Int) < 2 ^ 62) (.req (0 ≤ s.i ∧ s.i < ((List.length s.sums : Nat) : Int)) (.req (0 ≤ (0 : Int) ∧ 0 < (List.length s.alive : Int)) (.req (s.i.toNat < List.length s.sums) (.req (0 ≤ s.i ∧ s.i < ((List.length s.sums : Nat) : Int)) (.req (s.i.toNat < List.length s.sums) (.req (0 = 0 ∧ (List.length s.of0 + List.length ([s.i])) = List.length (s.of0 ++ ([s.i]))) (.rl s.of1 (.rl s.of2 (.rl s.of3 (.rl s.of4 (.rl s.of5 (.rl s.of6 (.rl s.of7 (.rl s.of8 (.rl s.of9 (.rl s.of10 (.rl s.of11 (.rl s.of12 (.rl s.of13 (.rl s.of14 (.rl s.of15 (.req (0 = 0 ∧ (List.length s.sums) = List.length (s.sums.set s.i.toNat (IntKind.i64.wrap ((s.sums.getD s.i.toNat (Ty.dflt (.int .i64))) + (gi s.alive (0 : Int)))))) (.rl s.levels (.ok (.next { s with k := (IntKind.i64.wrap (s.k + 1)), of0 := (s.of0 ++ ([s.i])), sums := (s.sums.set s.i.toNat (IntKind.i64.wrap ((s.sums.getD s.i.toNat (Ty.dflt (.int .i64))) + (gi s.alive (0 : Int))))) })))))))))))))))))))))))))) (.br ((gi s.l s.k) == 1) (.req (0 + (List.length s.of1) = List.length s.of1 ∧ ((List.length s.of1 + List.length ([s.i]) : Nat) : Int) * 8 ≤ 2 ^ 47 ∧ ((List.length s.of1 + List.length ([s.i]) : Nat) : Int) < 2 ^ 62) (.req (0 ≤ s.i ∧ s.i < ((List.length s.sums : Nat) : Int)) (.req (0 ≤ (1 : Int) ∧ 1 < (List.length s.alive : Int)) (.req (s.i.toNat < List.length s.sums) (.req (0 ≤ s.i ∧ s.i < ((List.length s.sums : Nat) : Int)) (.req (s.i.toNat < List.length s.sums) (.rl s.of0 (.req (0 = 0 ∧ (List.length s.of1 + List.length ([s.i])) = List.length (s.of1 ++ ([s.i]))) (.rl s.of2 (.rl s.of3 (.rl s.of4 (.rl s.of5 (.rl s.of6 (.rl s.of7 (.rl s.of8 (.rl s.of9 (.rl s.of10 (.rl s.of11 (.rl s.of12 (.rl s.of13 (.rl s.of14 (.rl s.of15 (.req (0 = 0 ∧ (List.length s.sums) = List.length (s.sums.set s.i.toNat (IntKind.i64.wrap ((s.sums.getD s.i.toNat (Ty.dflt (.int .i64))) + (gi s.alive (1 : Int)))))) (.rl s.levels (.ok (.next { s with k := (IntKind.i64.wrap (s.k + 1)), of1 := (s.of1 ++ ([s.i])), sums := (s.sums.set s.i.toNat (IntKind.i64.wrap ((s.sums.getD s.i.toNat (Ty.dflt (.int .i64))) + (gi s.alive (1 : Int))))) })))))))))))))))))))))))))) (.br ((gi s.l s.k) == 2) (.req (0 + (List.length s.of2) = List.length s.of2 ∧ ((List.length s.of2 + List.length ([s.i]) : Nat) : Int) * 8 ≤ 2 ^ 47 ∧ ((List.length s.of2 + List.length ([s.i]) : Nat) : Int) < 2 ^ 62) (.req (0 ≤ s.i ∧ s.i < ((List.length s.sums : Nat) : Int)) (.req (0 ≤ (2 : Int) ∧ 2 < (List.length s.alive : Int)) (.req (s.i.toNat < List.length s.sums) (.req (0 ≤ s.i ∧ s.i < ((List.length s.sums : Nat) : Int)) (.req (s.i.toNat < List.length s.sums) (.rl s.of0 (.rl s.of1 (.req (0 = 0 ∧ (List.length s.of2 + List.length ([s.i])) = List.length (s.of2 ++ ([s.i]))) (.rl s.of3 (.rl s.of4 (.rl s.of5 (.rl s.of6 (.rl s.of7 (.rl s.of8 (.rl s.of9 (.rl s.of10 (.rl s.of11 (.rl s.of12 (.rl s.of13 (.rl s.of14 (.rl s.of15 (.req (0 = 0 ∧ (List.length s.sums) = List.length (s.sums.set s.i.toNat (IntKind.i64.wrap ((s.sums.getD s.i.toNat (Ty.dflt (.int .i64))) + (gi s.alive (2 : Int)))))) (.rl s.levels (.ok (.next { s with k := (IntKind.i64.wrap (s.k + 1)), of2 := (s.of2 ++ ([s.i])), sums := (s.sums.set s.i.toNat (IntKind.i64.wrap ((s.sums.getD s.i.toNat (Ty.dflt (.int .i64))) + (gi s.alive (2 : Int))))) })))))))))))))))))))))))))) (.br ((gi s.l s.k) == 3) (.req (0 + (List.length s.of3) = List.length s.of3 ∧ ((List.length s.of3 + List.length ([s.i]) : Nat) : Int) * 8 ≤ 2 ^ 47 ∧ ((List.length s.of3 + List.length ([s.i]) : Nat) : Int) < 2 ^ 62) (.req (0 ≤ s.i ∧ s.i < ((List.length s.sums : Nat) : Int)) (.req (0 ≤ (3 : Int) ∧ 3 < (List.length s.alive : Int)) (.req (s.i.toNat < List.length s.sums) (.req (0 ≤ s.i ∧ s.i < ((List.length s.sums : Nat) : Int)) (.req (s.i.toNat < List.length s.sums) (.rl s.of0 (.rl s.of1 (.rl s.of2 (.req (0 = 0 ∧ (List.length s.of3 + List.length ([s.i])) = List.length (s.of3 ++ ([s.i]))) (.rl s.of4 (.rl s.of5 (.rl s.of6 (.rl s.of7 (.rl s.of8 (.rl s.of9 (.rl s.of10 (.rl s.of11 (.rl s.of12 (.rl s.of13 (.rl s.of14 (.rl s.of15 (.req (0 = 0 ∧ (List.length s.sums) = List.length (s.sums.set s.i.toNat (IntKind.i64.wrap ((s.sums.getD s.i.toNat (Ty.dflt (.int .i64))) + (gi s.alive (3 : Int)))))) (.rl s.levels (.ok (.next { s with k := (IntKind.i64.wrap (s.k + 1)), of3 := (s.of3 ++ ([s.i])), sums := (s.sums.set s.i.toNat (IntKind.i64.wrap ((s.sums.getD s.i.toNat (Ty.dflt (.int .i64))) + (gi s.alive (3 : Int))))) })))))))))))))))))))))))))) (.br ((gi s.l s.k) == 4) (.req (0 + (List.length s.of4) = List.length s.of4 ∧ ((List.length s.of4 + List.length ([s.i]) : Nat) : Int) * 8 ≤ 2 ^ 47 ∧ ((List.length s.of4 + List.length ([s.i]) : Nat) : Int) < 2 ^ 62) (.req (0 ≤ s.i ∧ s.i < ((List.length s.sums : Nat) : Int)) (.req (0 ≤ (4 : Int) ∧ 4 < (List.length s.alive : Int)) (.req (s.i.toNat < List.length s.sums) (.req (0 ≤ s.i ∧ s.i < ((List.length s.sums : Nat) : Int)) (.req (s.i.toNat < List.length s.sums) (.rl s.of0 (.rl s.of1 (.rl s.of2 (.rl s.of3 (.req (0 = 0 ∧ (List.length s.of4 + List.length ([s.i])) = List.length (s.of4 ++ ([s.i]))) (.rl s.of5 (.rl s.of6 (.rl s.of7 (.rl s.of8 (.rl s.of9 (.rl s.of10 (.rl s.of11 (.rl s.of12 (.rl s.of13 (.rl s.of14 (.rl s.of15 (.req (0 = 0 ∧ (List.length s.sums) = List.length (s.sums.set s.i.toNat (IntKind.i64.wrap ((s.sums.getD s.i.toNat (Ty.dflt (.int .i64))) + (gi s.alive (4 : Int)))))) (.rl s.levels (.ok (.next { s with k := (IntKind.i64.wrap (s.k + 1)), of4 := (s.of4 ++ ([s.i])), sums := (s.sums.set s.i.toNat (IntKind.i64.wrap ((s.sums.getD s.i.toNat (Ty.dflt (.int .i64))) + (gi s.alive (4 : Int))))) })))))))))))))))))))))))))) (.br ((gi s.l s.k) == 5) (.req (0 + (List.length s.of5) = List.length s.of5 ∧ ((List.length s.of5 + List.length ([s.i]) : Nat) : Int) * 8 ≤ 2 ^ 47 ∧ ((List.length s.of5 + List.length ([s.i]) : Nat) : Int) < 2 ^ 62) (.req (0 ≤ s.i ∧ s.i < ((List.length s.sums : Nat) : Int)) (.req (0 ≤ (5 : Int) ∧ 5 < (List.length s.alive : Int)) (.req (s.i.toNat < List.length s.sums) (.req (0 ≤ s.i ∧ s.i < ((List.length s.sums : Nat) : Int)) (.req (s.i.toNat < List.length s.sums) (.rl s.of0 (.rl s.of1 (.rl s.of2 (.rl s.of3 (.rl s.of4 (.req (0 = 0 ∧ (List.length s.of5 + List.length ([s.i])) = List.length (s.of5 ++ ([s.i]))) (.rl s.of6 (.rl s.of7 (.rl s.of8 (.rl s.of9 (.rl s.of10 (.rl s.of11 (.rl s.of12 (.rl s.of13 (.rl s.of14 (.rl s.of15 (.req (0 = 0 ∧ (List.length s.sums) = List.length (s.sums.set s.i.toNat (IntKind.i64.wrap ((s.sums.getD s.i.toNat (Ty.dflt (.int .i64))) + (gi s.alive (5 : Int)))))) (.rl s.levels (.ok (.next { s with k := (IntKind.i64.wrap (s.k + 1)), of5 := (s.of5 ++ ([s.i])), sums := (s.sums.set s.i.toNat (IntKind.i64.wrap ((s.sums.getD s.i.toNat (Ty.dflt (.int .i64))) + (gi s.alive (5 : Int))))) })))))))))))))))))))))))))) (.br ((gi s.l s.k) == 6) (.req (0 + (List.length s.of6) = List.length s.of6 ∧ ((List.length s.of6 + List.length ([s.i]) : Nat) : Int) * 8 ≤ 2 ^ 47 ∧ ((List.length s.of6 + List.length ([s.i]) : Nat) : Int) < 2 ^ 62) (.req (0 ≤ s.i ∧ s.i < ((List.length s.sums : Nat) : Int)) (.req (0 ≤ (6 : Int) ∧ 6 < (List.length s.alive : Int)) (.req (s.i.toNat < List.length s.sums) (.req (0 ≤ s.i ∧ s.i < ((List.length s.sums : Nat) : Int)) (.req (s.i.toNat < List.length s.sums) (.rl s.of0 (.rl s.of1 (.rl s.of2 (.rl s.of3 (.rl s.of4 (.rl s.of5 (.req (0 = 0 ∧ (List.length s.of6 + List.length ([s.i])) = List.length (s.of6 ++ ([s.i]))) (.rl s.of7 (.rl s.of8 (.rl s.of9 (.rl s.of10 (.rl s.of11 (.rl s.of12 (.rl s.of13 (.rl s.of14 (.rl s.of15 (.req (0 = 0 ∧ (List.length s.sums) = List.length (s.sums.set s.i.toNat (IntKind.i64.wrap ((s.sums.getD s.i.toNat (Ty.dflt (.int .i64))) + (gi s.alive (6 : Int)))))) (.rl s.levels (.ok (.next { s with k := (IntKind.i64.wrap (s.k + 1)), of6 := (s.of6 ++ ([s.i])), sums := (s.sums.set s.i.toNat (IntKind.i64.wrap ((s.sums.getD s.i.toNat (Ty.dflt (.int .i64))) + (gi s.alive (6 : Int))))) })))))))))))))))))))))))))) (.br ((gi s.l s.k) == 7) (.req (0 + (List.length s.of7) = List.length s.of7 ∧ ((List.length s.of7 + List.length ([s.i]) : Nat) : Int) * 8 ≤ 2 ^ 47 ∧ ((List.length s.of7 + List.length ([s.i]) : Nat) : Int) < 2 ^ 62) (.req (0 ≤ s.i ∧ s.i < ((List.length s.sums : Nat) : Int)) (.req (0 ≤ (7 : Int) ∧ 7 < (List.length s.alive : Int)) (.req (s.i.toNat < List.length s.sums) (.req (0 ≤ s.i ∧ s.i < ((List.length s.sums : Nat) : Int)) (.req (s.i.toNat < List.length s.sums) (.rl s.of0 (.rl s.of1 (.rl s.of2 (.rl s.of3 (.rl s.of4 (.rl s.of5 (.rl s.of6 (.req (0 = 0 ∧ (List.length s.of7 + List.length ([s.i])) = List.length (s.of7 ++ ([s.i]))) (.rl s.of8 (.rl s.of9 (.rl s.of10 (.rl s.of11 (.rl s.of12 (.rl s.of13 (.rl s.of14 (.rl s.of15 (.req (0 = 0 ∧ (List.length s.sums) = List.length (s.sums.set s.i.toNat (IntKind.i64.wrap ((s.sums.getD s.i.toNat (Ty.dflt (.int .i64))) + (gi s.alive (7 : Int)))))) (.rl s.levels (.ok (.next { s with k := (IntKind.i64.wrap (s.k + 1)), of7 := (s.of7 ++ ([s.i])), sums := (s.sums.set s.i.toNat (IntKind.i64.wrap ((s.sums.getD s.i.toNat (Ty.dflt (.int .i64))) + (gi s.alive (7 : Int))))) })))))))))))))))))))))))))) (.br ((gi s.l s.k) == 8) (.req (0 + (List.length s.of8) = List.length s.of8 ∧ ((List.length s.of8 + List.length ([s.i]) : Nat) : Int) * 8 ≤ 2 ^ 47 ∧ ((List.length s.of8 + List.length ([s.i]) : Nat) : Int) < 2 ^ 62) (.req (0 ≤ s.i ∧ s.i < ((List.length s.sums : Nat) : Int)) (.req (0 ≤ (8 : Int) ∧ 8 < (List.length s.alive : Int)) (.req (s.i.toNat < List.length s.sums) (.req (0 ≤ s.i ∧ s.i < ((List.length s.sums : Nat) : Int)) (.req (s.i.toNat < List.length s.sums) (.rl s.of0 (.rl s.of1 (.rl s.of2 (.rl s.of3 (.rl s.of4 (.rl s.of5 (.rl s.of6 (.rl s.of7 (.req (0 = 0 ∧ (List.length s.of8 + List.length ([s.i])) = List.length (s.of8 ++ ([s.i]))) (.rl s.of9 (.rl s.of10 (.rl s.of11 (.rl s.of12 (.rl s.of13 (.rl s.of14 (.rl s.of15 (.req (0 = 0 ∧ (List.length s.sums) = List.length (s.sums.set s.i.toNat (IntKind.i64.wrap ((s.sums.getD s.i.toNat (Ty.dflt (.int .i64))) + (gi s.alive (8 : Int)))))) (.rl s.levels (.ok (.next { s with k := (IntKind.i64.wrap (s.k + 1)), of8 := (s.of8 ++ ([s.i])), sums := (s.sums.set s.i.toNat (IntKind.i64.wrap ((s.sums.getD s.i.toNat (Ty.dflt (.int .i64))) + (gi s.alive (8 : Int))))) })))))))))))))))))))))))))) (.br ((gi s.l s.k) == 9) (.req (0 + (List.length s.of9) = List.length s.of9 ∧ ((List.length s.of9 + List.length ([s.i]) : Nat) : Int) * 8 ≤ 2 ^ 47 ∧ ((List.length s.of9 + List.length ([s.i]) : Nat) : Int) < 2 ^ 62) (.req (0 ≤ s.i ∧ s.i < ((List.length s.sums : Nat) : Int)) (.req (0 ≤ (9 : Int) ∧ 9 < (List.length s.alive : Int)) (.req (s.i.toNat < List.length s.sums) (.req (0 ≤ s.i ∧ s.i < ((List.length s.sums : Nat) : Int)) (.req (s.i.toNat < List.length s.sums) (.rl s.of0 (.rl s.of1 (.rl s.of2 (.rl s.of3 (.rl s.of4 (.rl s.of5 (.rl s.of6 (.rl s.of7 (.rl s.of8 (.req (0 = 0 ∧ (List.length s.of9 + List.length ([s.i])) = List.length (s.of9 ++ ([s.i]))) (.rl s.of10 (.rl s.of11 (.rl s.of12 (.rl s.of13 (.rl s.of14 (.rl s.of15 (.req (0 = 0 ∧ (List.length s.sums) = List.length (s.sums.set s.i.toNat (IntKind.i64.wrap ((s.sums.getD s.i.toNat (Ty.dflt (.int .i64))) + (gi s.alive (9 : Int)))))) (.rl s.levels (.ok (.next { s with k := (IntKind.i64.wrap (s.k + 1)), of9 := (s.of9 ++ ([s.i])), sums := (s.sums.set s.i.toNat (IntKind.i64.wrap ((s.sums.getD s.i.toNat (Ty.dflt (.int .i64))) + (gi s.alive (9 : Int))))) })))))))))))))))))))))))))) (.br ((gi s.l s.k) == 10) (.req (0 + (List.length s.of10) = List.length s.of10 ∧ ((List.length s.of10 + List.length ([s.i]) : Nat) : Int) * 8 ≤ 2 ^ 47 ∧ ((List.length s.of10 + List.length ([s.i]) : Nat) : Int) < 2 ^ 62) (.req (0 ≤ s.i ∧ s.i < ((List.length s.sums : Nat) : Int)) (.req (0 ≤ (10 : Int) ∧ 10 < (List.length s.alive : Int)) (.req (s.i.toNat < List.length s.sums) (.req (0 ≤ s.i ∧ s.i < ((List.length s.sums : Nat) : Int)) (.req (s.i.toNat < List.length s.sums) (.rl s.of0 (.rl s.of1 (.rl s.of2 (.rl s.of3 (.rl s.of4 (.rl s.of5 (.rl s.of6 (.rl s.of7 (.rl s.of8 (.rl s.of9 (.req (0 = 0 ∧ (List.length s.of10 + List.length ([s.i])) = List.length (s.of10 ++ ([s.i]))) (.rl s.of11 (.rl s.of12 (.rl s.of13 (.rl s.of14 (.rl s.of15 (.req (0 = 0 ∧ (List.length s.sums) = List.length (s.sums.set s.i.toNat (IntKind.i64.wrap ((s.sums.getD s.i.toNat (Ty.dflt (.int .i64))) + (gi s.alive (10 : Int)))))) (.rl s.levels (.ok (.next { s with k := (IntKind.i64.wrap (s.k + 1)), of10 := (s.of10 ++ ([s.i])), sums := (s.sums.set s.i.toNat (IntKind.i64.wrap ((s.sums.getD s.i.toNat (Ty.dflt (.int .i64))) + (gi s.alive (10 : Int))))) })))))))))))))))))))))))))) (.br ((gi s.l s.k) == 11) (.req (0 + (List.length s.of11) = List.length s.of11 ∧ ((List.length s.of11 + List.length ([s.i]) : Nat) : Int) * 8 ≤ 2 ^ 47 ∧ ((List.length s.of11 + List.length ([s.i]) : Nat) : Int) < 2 ^ 62) (.req (0 ≤ s.i ∧ s.i < ((List.length s.sums : Nat) : Int)) (.req (0 ≤ (11 : Int) ∧ 11 < (List.length s.alive : Int)) (.req (s.i.toNat < List.length s.sums) (.req (0 ≤ s.i ∧ s.i < ((List.length s.sums : Nat) : Int)) (.req (s.i.toNat < List.length s.sums) (.rl s.of0 (.rl s.of1 (.rl s.of2 (.rl s.of3 (.rl s.of4 (.rl s.of5 (.rl s.of6 (.rl s.of7 (.rl s.of8 (.rl s.of9 (.rl s.of10 (.req (0 = 0 ∧ (List.length s.of11 + List.length ([s.i])) = List.length (s.of11 ++ ([s.i]))) (.rl s.of12 (.rl s.of13 (.rl s.of14 (.rl s.of15 (.req (0 = 0 ∧ (List.length s.sums) = List.length (s.sums.set s.i.toNat (IntKind.i64.wrap ((s.sums.getD s.i.toNat (Ty.dflt (.int .i64))) + (gi s.alive (11 : Int)))))) (.rl s.levels (.ok (.next { s with k := (IntKind.i64.wrap (s.k + 1)), of11 := (s.of11 ++ ([s.i])), sums := (s.sums.set s.i.toNat (IntKind.i64.wrap ((s.sums.getD s.i.toNat (Ty.dflt (.int .i64))) + (gi s.alive (11 : Int))))) })))))))))))))))))))))))))) (.br ((gi s.l s.k) == 12) (.req (0 + (List.length s.of12) = List.length s.of12 ∧ ((List.length s.of12 + List.length ([s.i]) : Nat) : Int) * 8 ≤ 2 ^ 47 ∧ ((List.length s.of12 + List.length ([s.i]) : Nat) : Int) < 2 ^ 62) (.req (0 ≤ s.i ∧ s.i < ((List.length s.sums : Nat) : Int)) (.req (0 ≤ (12 : Int) ∧ 12 < (List.length s.alive : Int)) (.req (s.i.toNat < List.length s.sums) (.req (0 ≤ s.i ∧ s.i < ((List.length s.sums : Nat) : Int)) (.req (s.i.toNat < List.length s.sums) (.rl s.of0 (.rl s.of1 (.rl s.of2 (.rl s.of3 (.rl s.of4 (.rl s.of5 (.rl s.of6 (.rl s.of7 (.rl s.of8 (.rl s.of9 (.rl s.of10 (.rl s.of11 (.req (0 = 0 ∧ (List.length s.of12 + List.length ([s.i])) = List.length (s.of12 ++ ([s.i]))) (.rl s.of13 (.rl s.of14 (.rl s.of15 (.req (0 = 0 ∧ (List.length s.sums) = List.length (s.sums.set s.i.toNat (IntKind.i64.wrap ((s.sums.getD s.i.toNat (Ty.dflt (.int .i64))) + (gi s.alive (12 : Int)))))) (.rl s.levels (.ok (.next { s with k := (IntKind.i64.wrap (s.k + 1)), of12 := (s.of12 ++ ([s.i])), sums := (s.sums.set s.i.toNat (IntKind.i64.wrap ((s.sums.getD s.i.toNat (Ty.dflt (.int .i64))) + (gi s.alive (12 : Int))))) })))))))))))))))))))))))))) (.br ((gi s.l s.k) == 13) (.req (0 + (List.length s.of13) = List.length s.of13 ∧ ((List.length s.of13 + List.length ([s.i]) : Nat) : Int) * 8 ≤ 2 ^ 47 ∧ ((List.length s.of13 + List.length ([s.i]) : Nat) : Int) < 2 ^ 62) (.req (0 ≤ s.i ∧ s.i < ((List.length s.sums : Nat) : Int)) (.req (0 ≤ (13 : Int) ∧ 13 < (List.length s.alive : Int)) (.req (s.i.toNat < List.length s.sums) (.req (0 ≤ s.i ∧ s.i < ((List.length s.sums : Nat) : Int)) (.req (s.i.toNat < List.length s.sums) (.rl s.of0 (.rl s.of1 (.rl s.of2 (.rl s.of3 (.rl s.of4 (.rl s.of5 (.rl s.of6 (.rl s.of7 (.rl s.of8 (.rl s.of9 (.rl s.of10 (.rl s.of11 (.rl s.of12 (.req (0 = 0 ∧ (List.length s.of13 + List.length ([s.i])) = List.length (s.of13 ++ ([s.i]))) (.rl s.of14 (.rl s.of15 (.req (0 = 0 ∧ (List.length s.sums) = List.length (s.sums.set s.i.toNat (IntKind.i64.wrap ((s.sums.getD s.i.toNat (Ty.dflt (.int .i64))) + (gi s.alive (13 : Int)))))) (.rl s.levels (.ok (.next { s with k := (IntKind.i64.wrap (s.k + 1)), of13 := (s.of13 ++ ([s.i])), sums := (s.sums.set s.i.toNat (IntKind.i64.wrap ((s.sums.getD s.i.toNat (Ty.dflt (.int .i64))) + (gi s.alive (13 : Int))))) })))))))))))))))))))))))))) (.br ((gi s.l s.k) == 14) (.req (0 + (List.length s.of14) = List.length s.of14 ∧ ((List.length s.of14 + List.length ([s.i]) : Nat) : Int) * 8 ≤ 2 ^ 47 ∧ ((List.length s.of14 + List.length ([s.i]) : Nat) : Int) < 2 ^ 62) (.req (0 ≤ s.i ∧ s.i < ((List.length s.sums : Nat) : Int)) (.req (0 ≤ (14 : Int) ∧ 14 < (List.length s.alive : Int)) (.req (s.i.toNat < List.length s.sums) (.req (0 ≤ s.i ∧ s.i < ((List.length s.sums : Nat) : Int)) (.req (s.i.toNat < List.length s.sums) (.rl s.of0 (.rl s.of1 (.rl s.of2 (.rl s.of3 (.rl s.of4 (.rl s.of5 (.rl s.of6 (.rl s.of7 (.rl s.of8 (.rl s.of9 (.rl s.of10 (.rl s.of11 (.rl s.of12 (.rl s.of13 (.req (0 = 0 ∧ (List.length s.of14 + List.length ([s.i])) = List.length (s.of14 ++ ([s.i]))) (.rl s.of15 (.req (0 = 0 ∧ (List.length s.sums) = List.length (s.sums.set s.i.toNat (IntKind.i64.wrap ((s.sums.getD s.i.toNat (Ty.dflt (.int .i64))) + (gi s.alive (14 : Int)))))) (.rl s.levels (.ok (.next { s with k := (IntKind.i64.wrap (s.k + 1)), of14 := (s.of14 ++ ([s.i])), sums := (s.sums.set s.i.toNat (IntKind.i64.wrap ((s.sums.getD s.i.toNat (Ty.dflt (.int .i64))) + (gi s.alive (14 : Int))))) })))))))))))))))))))))))))) (.req (0 + (List.length s.of15) = List.length s.of15 ∧ ((List.length s.of15 + List.length ([s.i]) : Nat) : Int) * 8 ≤ 2 ^ 47 ∧ ((List.length s.of15 + List.length ([s.i]) : Nat) : Int) < 2 ^ 62) (.req (0 ≤ s.i ∧ s.i < ((List.length s.sums : Nat) : Int)) (.req (0 ≤ (15 : Int) ∧ 15 < (List.length s.alive : Int)) (.req (s.i.toNat < List.length s.sums) (.req (0 ≤ s.i ∧ s.i < ((List.length s.sums : Nat) : Int)) (.req (s.i.toNat < List.length s.sums) (.rl s.of0 (.rl s.of1 (.rl s.of2 (.rl s.of3 (.rl s.of4 (.rl s.of5 (.rl s.of6 (.rl s.of7 (.rl s.of8 (.rl s.of9 (.rl s.of10 (.rl s.of11 (.rl s.of12 (.rl s.of13 (.rl s.of14 (.req (0 = 0 ∧ (List.length s.of15 + List.length ([s.i])) = List.length (s.of15 ++ ([s.i]))) (.req (0 = 0 ∧ (List.length s.sums) = List.length (s.sums.set s.i.toNat (IntKind.i64.wrap ((s.sums.getD s.i.toNat (Ty.dflt (.int .i64))) + (gi s.alive (15 : Int)))))) (.rl s.levels (.ok (.next { s with k := (IntKind.i64.wrap (s.k + 1)), of15 := (s.of15 ++ ([s.i])), sums := (s.sums.set s.i.toNat (IntKind.i64.wrap ((s.sums.getD s.i.toNat (Ty.dflt (.int .i64))) + (gi s.alive (15 : Int))))) }))))))))))))))))))))))))))))))))))))))))))) (.rl s.of0 (.rl s.of1 (.rl s.of2 (.rl s.of3 (.rl s.of4 (.rl s.of5 (.rl s.of6 (.rl s.of7 (.rl s.of8 (.rl s.of9 (.rl s.of10 (.rl s.of11 (.rl s.of12 (.rl s.of13 (.rl s.of14 (.rl s.of15 (.rl s.sums (.rl s.levels (.ok (.stop (.exit 2) s))))))))))))))))))))
abbrev f_nti (s : L_nti) := (t_nti s).rd s
def O_nti (s : L_nti) : List (List Int) := [s.of0, s.of1, s.of2, s.of3, s.of4, s.of5, s.of6, s.of7, s.of8, s.of9, s.of10, s.of11, s.of12, s.of13, s.of14, s.of15]
def E_nti (s : L_nti) : Prop := s.k = 0 ∧ (∀ o ∈ O_nti s, (o.length : Int) ≤ 1000000) ∧ (0 ≤ gi s.sums s.i ∧ gi s.sums s.i ≤ 1000) ∧ s.n = (s.l.length : Int) ∧ s.n ≤ 1000 ∧ (∀ m ∈ s.l, 0 ≤ m ∧ m < 16 ∧ m < (s.alive.length : Int)) ∧ (∀ a ∈ s.alive, 0 ≤ a ∧ a ≤ 80) ∧ (0 ≤ s.i ∧ s.i < (s.sums.length : Int))
def I_nti (s : L_nti) : Prop := (0 ≤ s.k ∧ s.k ≤ s.n) ∧ (∀ o ∈ O_nti s, (o.length : Int) ≤ 1000000 + s.k) ∧ (0 ≤ gi s.sums s.i ∧ gi s.sums s.i ≤ 1000 + 80 * s.k) ∧ s.n = (s.l.length : Int) ∧ s.n ≤ 1000 ∧ (∀ m ∈ s.l, 0 ≤ m ∧ m < 16 ∧ m < (s.alive.length : Int)) ∧ (∀ a ∈ s.alive, 0 ≤ a ∧ a ≤ 80) ∧ (0 ≤ s.i ∧ s.i < (s.sums.length : Int))
def mu_nti (s : L_nti) : Nat := (s.n - s.k).toNat
def Q_nti (x : Ex) (_ s' : L_nti) : Prop := x = .exit 2 ∧ s'.k = s'.n
theorem nti_E : ∀ s, E_nti s → I_nti s := by
 intro s h
 obtain ⟨h0, h1, h2, h3⟩ := h
 exact ⟨by have := h3.1; omega, fun o ho => by have := h1 o ho; omega, by omega, h3⟩
theorem nti_mem (s : L_nti) (hI : I_nti s) (c1 : s.k < s.n) : 0 ≤ gi s.l s.k ∧ gi s.l s.k < 16 ∧ gi s.l s.k < (s.alive.length : Int) := by
 obtain ⟨⟨h0, h1⟩, h2, h3, h4, h5, h6, h7, h8⟩ := hI
 exact h6 _ (by rw [gi_eq (by omega)]; exact List.getElem_mem _)
theorem nti_ok (s s' : L_nti) (j : Nat) (hI : I_nti s) (c1 : s.k < s.n) (em : gi s.l s.k = (j : Int)) (hO : O_nti s' = (O_nti s).modify j (· ++ [s.i])) (hs : s'.sums = s.sums.set s.i.toNat (IntKind.i64.wrap (s.sums.getD s.i.toNat 0 + gi s.alive (j : Int)))) (hk : s'.k = IntKind.i64.wrap (s.k + 1)) (hn : s'.n = s.n) (hl : s'.l = s.l) (ha : s'.alive = s.alive) (hi : s'.i = s.i) :
  (I_nti s' ∧ mu_nti s' < mu_nti s) ∧ (fun s : L_nti => (putO s.i (O_nti s) (s.l.drop s.k.toNat), s.sums.set s.i.toNat (s.sums.getD s.i.toNat 0 + smA s.alive (s.l.drop s.k.toNat)))) s' = (fun s : L_nti => (putO s.i (O_nti s) (s.l.drop s.k.toNat), s.sums.set s.i.toNat (s.sums.getD s.i.toNat 0 + smA s.alive (s.l.drop s.k.toNat)))) s := by
 have hm := nti_mem s hI c1
 obtain ⟨⟨h0, h1⟩, h2, ⟨h3, h3'⟩, h4, h5, h6, h7, h8⟩ := hI
 rw [wrapS (x := s.k + 1) (by omega) (by omega)] at hk
 have hav := h7 (gi s.alive (j : Int)) (by rw [gi_eq (by omega)]; exact List.getElem_mem _)
 have hgi : gi s.sums s.i = s.sums.getD s.i.toNat 0 := rfl
 rw [wrapS (x := s.sums.getD s.i.toNat 0 + gi s.alive (j : Int)) (by omega) (by omega)] at hs
 have hs2 : gi s'.sums s'.i = s.sums.getD s.i.toNat 0 + gi s.alive (j : Int) := by
  rw [hi, hs]
  show List.getD _ _ _ = _
  simp [List.getD, show s.i.toNat < s.sums.length by omega]
 refine ⟨⟨⟨⟨by omega, by omega⟩, fun o ho => ?_, ⟨by rw [hs2]; omega, by rw [hs2]; omega⟩, by rw [hn, hl]; exact h4, by omega, by rw [hl, ha]; exact h6, by rw [ha]; exact h7, ⟨by rw [hi]; omega, by rw [hi, hs, List.length_set]; omega⟩⟩, by simp only [mu_nti]; omega⟩, ?_⟩
 ·rw [hO] at ho
  obtain ⟨k, hk2, rfl⟩ := List.mem_iff_getElem.1 ho
  rw [List.length_modify] at hk2
  have := h2 (O_nti s)[k] (List.getElem_mem _)
  rw [List.getElem_modify]
  split
  ·simp only [List.length_append, List.length_cons, List.length_nil]; omega
  ·omega
 ·simp only
  rw [hO, hs, hl, ha, hi, hk, (gi_step h0 (show s.k < s.l.length by omega)).1, putO_cons, smA_cons, em, Int.toNat_natCast, set_set_add (by omega)]
theorem nti_ok1 (s s' : L_nti) (j : Nat) (hI : I_nti s) (c1 : s.k < s.n) (em : gi s.l s.k = (j : Int)) (hO : O_nti s' = (O_nti s).modify j (· ++ [s.i])) (hs : s'.sums = s.sums.set s.i.toNat (IntKind.i64.wrap (s.sums.getD s.i.toNat 0 + gi s.alive (j : Int)))) (hk : s'.k = IntKind.i64.wrap (s.k + 1)) (hn : s'.n = s.n) (hl : s'.l = s.l) (ha : s'.alive = s.alive) (hi : s'.i = s.i) : allR (fun s' => I_nti s' ∧ mu_nti s' < mu_nti s) (fun x s' => Q_nti x s s') (.next s') := (nti_ok s s' j hI c1 em hO hs hk hn hl ha hi).1
theorem nti_ok2 (s s' : L_nti) (j : Nat) (hI : I_nti s) (c1 : s.k < s.n) (em : gi s.l s.k = (j : Int)) (hO : O_nti s' = (O_nti s).modify j (· ++ [s.i])) (hs : s'.sums = s.sums.set s.i.toNat (IntKind.i64.wrap (s.sums.getD s.i.toNat 0 + gi s.alive (j : Int)))) (hk : s'.k = IntKind.i64.wrap (s.k + 1)) (hn : s'.n = s.n) (hl : s'.l = s.l) (ha : s'.alive = s.alive) (hi : s'.i = s.i) : allR (fun s' => (fun s : L_nti => (putO s.i (O_nti s) (s.l.drop s.k.toNat), s.sums.set s.i.toNat (s.sums.getD s.i.toNat 0 + smA s.alive (s.l.drop s.k.toNat)))) s' = (fun s : L_nti => (putO s.i (O_nti s) (s.l.drop s.k.toNat), s.sums.set s.i.toNat (s.sums.getD s.i.toNat 0 + smA s.alive (s.l.drop s.k.toNat)))) s) (fun _ s' => (fun s : L_nti => (putO s.i (O_nti s) (s.l.drop s.k.toNat), s.sums.set s.i.toNat (s.sums.getD s.i.toNat 0 + smA s.alive (s.l.drop s.k.toNat)))) s' = (fun s : L_nti => (putO s.i (O_nti s) (s.l.drop s.k.toNat), s.sums.set s.i.toNat (s.sums.getD s.i.toNat 0 + smA s.alive (s.l.drop s.k.toNat)))) s) (.next s') := (nti_ok s s' j hI c1 em hO hs hk hn hl ha hi).2
theorem nti_da (s : L_nti) (hI : I_nti s) : allR (fun s' => I_nti s' ∧ mu_nti s' < mu_nti s) (fun x s' => Q_nti x s s') (f_nti s) := by
 unfold f_nti t_nti
 dsimp only [T.rd, T.rl]
 refine allR_ite (fun c1 => ?_) (fun c1 => ?_)
 ·refine allR_ite (fun c2 => ?_) (fun c2 => ?_)
  ·have em : gi s.l s.k = 0 := by simpa using c2
   exact nti_ok1 s _ 0 hI (by simpa using c1) em rfl rfl rfl rfl rfl rfl rfl
  ·refine allR_ite (fun c3 => ?_) (fun c3 => ?_)
   ·have em : gi s.l s.k = 1 := by simpa using c3
    exact nti_ok1 s _ 1 hI (by simpa using c1) em rfl rfl rfl rfl rfl rfl rfl
   ·refine allR_ite (fun c4 => ?_) (fun c4 => ?_)
    ·have em : gi s.l s.k = 2 := by simpa using c4
     exact nti_ok1 s _ 2 hI (by simpa using c1) em rfl rfl rfl rfl rfl rfl rfl
    ·refine allR_ite (fun c5 => ?_) (fun c5 => ?_)
     ·have em : gi s.l s.k = 3 := by simpa using c5
      exact nti_ok1 s _ 3 hI (by simpa using c1) em rfl rfl rfl rfl rfl rfl rfl
     ·refine allR_ite (fun c6 => ?_) (fun c6 => ?_)
      ·have em : gi s.l s.k = 4 := by simpa using c6
       exact nti_ok1 s _ 4 hI (by simpa using c1) em rfl rfl rfl rfl rfl rfl rfl
      ·refine allR_ite (fun c7 => ?_) (fun c7 => ?_)
       ·have em : gi s.l s.k = 5 := by simpa using c7
        exact nti_ok1 s _ 5 hI (by simpa using c1) em rfl rfl rfl rfl rfl rfl rfl
       ·refine allR_ite (fun c8 => ?_) (fun c8 => ?_)
        ·have em : gi s.l s.k = 6 := by simpa using c8
         exact nti_ok1 s _ 6 hI (by simpa using c1) em rfl rfl rfl rfl rfl rfl rfl
        ·refine allR_ite (fun c9 => ?_) (fun c9 => ?_)
         ·have em : gi s.l s.k = 7 := by simpa using c9
          exact nti_ok1 s _ 7 hI (by simpa using c1) em rfl rfl rfl rfl rfl rfl rfl
         ·refine allR_ite (fun c10 => ?_) (fun c10 => ?_)
          ·have em : gi s.l s.k = 8 := by simpa using c10
           exact nti_ok1 s _ 8 hI (by simpa using c1) em rfl rfl rfl rfl rfl rfl rfl
          ·refine allR_ite (fun c11 => ?_) (fun c11 => ?_)
           ·have em : gi s.l s.k = 9 := by simpa using c11
            exact nti_ok1 s _ 9 hI (by simpa using c1) em rfl rfl rfl rfl rfl rfl rfl
           ·refine allR_ite (fun c12 => ?_) (fun c12 => ?_)
            ·have em : gi s.l s.k = 10 := by simpa using c12
             exact nti_ok1 s _ 10 hI (by simpa using c1) em rfl rfl rfl rfl rfl rfl rfl
            ·refine allR_ite (fun c13 => ?_) (fun c13 => ?_)
             ·have em : gi s.l s.k = 11 := by simpa using c13
              exact nti_ok1 s _ 11 hI (by simpa using c1) em rfl rfl rfl rfl rfl rfl rfl
             ·refine allR_ite (fun c14 => ?_) (fun c14 => ?_)
              ·have em : gi s.l s.k = 12 := by simpa using c14
               exact nti_ok1 s _ 12 hI (by simpa using c1) em rfl rfl rfl rfl rfl rfl rfl
              ·refine allR_ite (fun c15 => ?_) (fun c15 => ?_)
               ·have em : gi s.l s.k = 13 := by simpa using c15
                exact nti_ok1 s _ 13 hI (by simpa using c1) em rfl rfl rfl rfl rfl rfl rfl
               ·refine allR_ite (fun c16 => ?_) (fun c16 => ?_)
                ·have em : gi s.l s.k = 14 := by simpa using c16
                 exact nti_ok1 s _ 14 hI (by simpa using c1) em rfl rfl rfl rfl rfl rfl rfl
                ·have em : gi s.l s.k = 15 := by
                  have hm := nti_mem s hI (by simpa using c1)
                  simp only [beq_eq_false_iff_ne, ne_eq] at c2 c3 c4 c5 c6 c7 c8 c9 c10 c11 c12 c13 c14 c15 c16
                  omega
                 exact nti_ok1 s _ 15 hI (by simpa using c1) em rfl rfl rfl rfl rfl rfl rfl
 ·have c1 : s.n ≤ s.k := by simpa using c1
  have h0 := hI.1
  exact ⟨rfl, by omega⟩
def D_nti : LpD L_nti := ⟨1, 67, [2, 7, 8, 23, 24, 25, 31, 32, 33], [.ns 7 6 3 (.int .i64), .ns 7 7 3 (.int .i64), .ns 7 8 3 (.int .i64), .ns 7 9 3 (.int .i64), .ns 7 10 3 (.int .i64), .ns 7 11 3 (.int .i64), .ns 7 12 3 (.int .i64), .ns 7 13 3 (.int .i64), .ns 7 14 3 (.int .i64), .ns 7 15 3 (.int .i64), .ns 7 16 3 (.int .i64), .ns 7 17 3 (.int .i64), .ns 7 18 3 (.int .i64), .ns 7 19 3 (.int .i64), .ns 7 20 3 (.int .i64), .ns 7 21 3 (.int .i64)], A_nti, B_nti, fun v b => ⟨gXl (.int .i64) (v.getD 0 .junk), gI (v.getD 2 .junk), gXl tRw (v.getD 3 .junk), gI (v.getD 4 .junk), gI (v.getD 5 .junk), gXl (.int .i64) (v.getD 6 .junk), gI (v.getD 7 .junk), gI (v.getD 8 .junk), gXl tCd (gCe (gBk b 0) 0), gXl .str (gCe (gBk b 0) 1), gXl tKo (gCe (gBk b 0) 2), gXl tCh (gCe (gBk b 0) 3), gXl tBa (gCe (gBk b 0) 4), gXl tCd (gCe (gBk b 1) 0), gXl .str (gCe (gBk b 1) 1), gXl tKo (gCe (gBk b 1) 2), gXl tCh (gCe (gBk b 1) 3), gXl tBa (gCe (gBk b 1) 4), gXl tRw (gCe (gBk b 1) 5), gXl (.int .i64) (gCe (gBk b 1) 23), gVe (.int .i64) (gBk b 2), gVe (.int .i64) (gBk b 3), gVe (.int .i64) (gBk b 4), gVe (.int .i64) (gBk b 5), gVe (.int .i64) (gBk b 6), gVe (.int .i64) (gBk b 7), gVe (.int .i64) (gBk b 8), gVe (.int .i64) (gBk b 9), gVe (.int .i64) (gBk b 10), gVe (.int .i64) (gBk b 11), gVe (.int .i64) (gBk b 12), gVe (.int .i64) (gBk b 13), gVe (.int .i64) (gBk b 14), gVe (.int .i64) (gBk b 15), gVe (.int .i64) (gBk b 16), gVe (.int .i64) (gBk b 17), gVe (.int .i64) (gBk b 18), gVe (.int .i64) (gBk b 19)⟩, t_nti, fun s r => { r with alive := s.alive, i := s.i, rows := s.rows, rn := s.rn, ri := s.ri, l := s.l, n := s.n, q_Conductors := s.q_Conductors, q_Owners := s.q_Owners, q_Contracts := s.q_Contracts, q_Chargers := s.q_Chargers, q_Bays := s.q_Bays, tcs := s.tcs, tos := s.tos, tks := s.tks, tgs := s.tgs, tbs := s.tbs, trows := s.trows, talive := s.talive, levels := s.levels }, fun s => s, fun _ s => s, [.exit 2], E_nti, I_nti, mu_nti⟩
abbrev run_nti := D_nti.run
abbrev exn_nti := D_nti.exn
abbrev E_ntiq := D_nti.q
noncomputable def hnd34 : Hand := inl Try.prog noGlobs gam32 (addL 32 1 2 (D_evs.lp) (unrL Try.prog noGlobs (gam32) 20 2)) 9
theorem hok34 : KSound Try.prog noGlobs hnd34 := inl_sound gok32 (addL_ok Try.func32 rfl (by kernel_rfl) snd_evs (unrL_ok gok32)) 9
set_option maxRecDepth 100000 in
set_option maxHeartbeats 4000000 in
theorem rq_nti (s : L_nti) (hI : I_nti s) : (t_nti s).all (fun _ => True) := by
 refine ⟨fun c1 => ⟨?_, ?_, fun c2 => ⟨?_, ?_, ?_, ?_, ?_, ?_, ?_, ⟨rfl, rfl⟩, ⟨rfl, rfl⟩, ⟨rfl, rfl⟩, ⟨rfl, rfl⟩, ⟨rfl, rfl⟩, ⟨rfl, rfl⟩, ⟨rfl, rfl⟩, ⟨rfl, rfl⟩, ⟨rfl, rfl⟩, ⟨rfl, rfl⟩, ⟨rfl, rfl⟩, ⟨rfl, rfl⟩, ⟨rfl, rfl⟩, ⟨rfl, rfl⟩, ⟨rfl, rfl⟩, ?_, ⟨rfl, rfl⟩, trivial⟩, fun c2 => ⟨fun c3 => ⟨?_, ?_, ?_, ?_, ?_, ?_, ⟨rfl, rfl⟩, ?_, ⟨rfl, rfl⟩, ⟨rfl, rfl⟩, ⟨rfl, rfl⟩, ⟨rfl, rfl⟩, ⟨rfl, rfl⟩, ⟨rfl, rfl⟩, ⟨rfl, rfl⟩, ⟨rfl, rfl⟩, ⟨rfl, rfl⟩, ⟨rfl, rfl⟩, ⟨rfl, rfl⟩, ⟨rfl, rfl⟩, ⟨rfl, rfl⟩, ⟨rfl, rfl⟩, ?_, ⟨rfl, rfl⟩, trivial⟩, fun c3 => ⟨fun c4 => ⟨?_, ?_, ?_, ?_, ?_, ?_, ⟨rfl, rfl⟩, ⟨rfl, rfl⟩, ?_, ⟨rfl, rfl⟩, ⟨rfl, rfl⟩, ⟨rfl, rfl⟩, ⟨rfl, rfl⟩, ⟨rfl, rfl⟩, ⟨rfl, rfl⟩, ⟨rfl, rfl⟩, ⟨rfl, rfl⟩, ⟨rfl, rfl⟩, ⟨rfl, rfl⟩, ⟨rfl, rfl⟩, ⟨rfl, rfl⟩, ⟨rfl, rfl⟩, ?_, ⟨rfl, rfl⟩, trivial⟩, fun c4 => ⟨fun c5 => ⟨?_, ?_, ?_, ?_, ?_, ?_, ⟨rfl, rfl⟩, ⟨rfl, rfl⟩, ⟨rfl, rfl⟩, ?_, ⟨rfl, rfl⟩, ⟨rfl, rfl⟩, ⟨rfl, rfl⟩, ⟨rfl, rfl⟩, ⟨rfl, rfl⟩, ⟨rfl, rfl⟩, ⟨rfl, rfl⟩, ⟨rfl, rfl⟩, ⟨rfl, rfl⟩, ⟨rfl, rfl⟩, ⟨rfl, rfl⟩, ⟨rfl, rfl⟩, ?_, ⟨rfl, rfl⟩, trivial⟩, fun c5 => ⟨fun c6 => ⟨?_, ?_, ?_, ?_, ?_, ?_, ⟨rfl, rfl⟩, ⟨rfl, rfl⟩, ⟨rfl, rfl⟩, ⟨rfl, rfl⟩, ?_, ⟨rfl, rfl⟩, ⟨rfl, rfl⟩, ⟨rfl, rfl⟩, ⟨rfl, rfl⟩, ⟨rfl, rfl⟩, ⟨rfl, rfl⟩, ⟨rfl, rfl⟩, ⟨rfl, rfl⟩, ⟨rfl, rfl⟩, ⟨rfl, rfl⟩, ⟨rfl, rfl⟩, ?_, ⟨rfl, rfl⟩, trivial⟩, fun c6 => ⟨fun c7 => ⟨?_, ?_, ?_, ?_, ?_, ?_, ⟨rfl, rfl⟩, ⟨rfl, rfl⟩, ⟨rfl, rfl⟩, ⟨rfl, rfl⟩, ⟨rfl, rfl⟩, ?_, ⟨rfl, rfl⟩, ⟨rfl, rfl⟩, ⟨rfl, rfl⟩, ⟨rfl, rfl⟩, ⟨rfl, rfl⟩, ⟨rfl, rfl⟩, ⟨rfl, rfl⟩, ⟨rfl, rfl⟩, ⟨rfl, rfl⟩, ⟨rfl, rfl⟩, ?_, ⟨rfl, rfl⟩, trivial⟩, fun c7 => ⟨fun c8 => ⟨?_, ?_, ?_, ?_, ?_, ?_, ⟨rfl, rfl⟩, ⟨rfl, rfl⟩, ⟨rfl, rfl⟩, ⟨rfl, rfl⟩, ⟨rfl, rfl⟩, ⟨rfl, rfl⟩, ?_, ⟨rfl, rfl⟩, ⟨rfl, rfl⟩, ⟨rfl, rfl⟩, ⟨rfl, rfl⟩, ⟨rfl, rfl⟩, ⟨rfl, rfl⟩, ⟨rfl, rfl⟩, ⟨rfl, rfl⟩, ⟨rfl, rfl⟩, ?_, ⟨rfl, rfl⟩, trivial⟩, fun c8 => ⟨fun c9 => ⟨?_, ?_, ?_, ?_, ?_, ?_, ⟨rfl, rfl⟩, ⟨rfl, rfl⟩, ⟨rfl, rfl⟩, ⟨rfl, rfl⟩, ⟨rfl, rfl⟩, ⟨rfl, rfl⟩, ⟨rfl, rfl⟩, ?_, ⟨rfl, rfl⟩, ⟨rfl, rfl⟩, ⟨rfl, rfl⟩, ⟨rfl, rfl⟩, ⟨rfl, rfl⟩, ⟨rfl, rfl⟩, ⟨rfl, rfl⟩, ⟨rfl, rfl⟩, ?_, ⟨rfl, rfl⟩, trivial⟩, fun c9 => ⟨fun c10 => ⟨?_, ?_, ?_, ?_, ?_, ?_, ⟨rfl, rfl⟩, ⟨rfl, rfl⟩, ⟨rfl, rfl⟩, ⟨rfl, rfl⟩, ⟨rfl, rfl⟩, ⟨rfl, rfl⟩, ⟨rfl, rfl⟩, ⟨rfl, rfl⟩, ?_, ⟨rfl, rfl⟩, ⟨rfl, rfl⟩, ⟨rfl, rfl⟩, ⟨rfl, rfl⟩, ⟨rfl, rfl⟩, ⟨rfl, rfl⟩, ⟨rfl, rfl⟩, ?_, ⟨rfl, rfl⟩, trivial⟩, fun c10 => ⟨fun c11 => ⟨?_, ?_, ?_, ?_, ?_, ?_, ⟨rfl, rfl⟩, ⟨rfl, rfl⟩, ⟨rfl, rfl⟩, ⟨rfl, rfl⟩, ⟨rfl, rfl⟩, ⟨rfl, rfl⟩, ⟨rfl, rfl⟩, ⟨rfl, rfl⟩, ⟨rfl, rfl⟩, ?_, ⟨rfl, rfl⟩, ⟨rfl, rfl⟩, ⟨rfl, rfl⟩, ⟨rfl, rfl⟩, ⟨rfl, rfl⟩, ⟨rfl, rfl⟩, ?_, ⟨rfl, rfl⟩, trivial⟩, fun c11 => ⟨fun c12 => ⟨?_, ?_, ?_, ?_, ?_, ?_, ⟨rfl, rfl⟩, ⟨rfl, rfl⟩, ⟨rfl, rfl⟩, ⟨rfl, rfl⟩, ⟨rfl, rfl⟩, ⟨rfl, rfl⟩, ⟨rfl, rfl⟩, ⟨rfl, rfl⟩, ⟨rfl, rfl⟩, ⟨rfl, rfl⟩, ?_, ⟨rfl, rfl⟩, ⟨rfl, rfl⟩, ⟨rfl, rfl⟩, ⟨rfl, rfl⟩, ⟨rfl, rfl⟩, ?_, ⟨rfl, rfl⟩, trivial⟩, fun c12 => ⟨fun c13 => ⟨?_, ?_, ?_, ?_, ?_, ?_, ⟨rfl, rfl⟩, ⟨rfl, rfl⟩, ⟨rfl, rfl⟩, ⟨rfl, rfl⟩, ⟨rfl, rfl⟩, ⟨rfl, rfl⟩, ⟨rfl, rfl⟩, ⟨rfl, rfl⟩, ⟨rfl, rfl⟩, ⟨rfl, rfl⟩, ⟨rfl, rfl⟩, ?_, ⟨rfl, rfl⟩, ⟨rfl, rfl⟩, ⟨rfl, rfl⟩, ⟨rfl, rfl⟩, ?_, ⟨rfl, rfl⟩, trivial⟩, fun c13 => ⟨fun c14 => ⟨?_, ?_, ?_, ?_, ?_, ?_, ⟨rfl, rfl⟩, ⟨rfl, rfl⟩, ⟨rfl, rfl⟩, ⟨rfl, rfl⟩, ⟨rfl, rfl⟩, ⟨rfl, rfl⟩, ⟨rfl, rfl⟩, ⟨rfl, rfl⟩, ⟨rfl, rfl⟩, ⟨rfl, rfl⟩, ⟨rfl, rfl⟩, ⟨rfl, rfl⟩, ?_, ⟨rfl, rfl⟩, ⟨rfl, rfl⟩, ⟨rfl, rfl⟩, ?_, ⟨rfl, rfl⟩, trivial⟩, fun c14 => ⟨fun c15 => ⟨?_, ?_, ?_, ?_, ?_, ?_, ⟨rfl, rfl⟩, ⟨rfl, rfl⟩, ⟨rfl, rfl⟩, ⟨rfl, rfl⟩, ⟨rfl, rfl⟩, ⟨rfl, rfl⟩, ⟨rfl, rfl⟩, ⟨rfl, rfl⟩, ⟨rfl, rfl⟩, ⟨rfl, rfl⟩, ⟨rfl, rfl⟩, ⟨rfl, rfl⟩, ⟨rfl, rfl⟩, ?_, ⟨rfl, rfl⟩, ⟨rfl, rfl⟩, ?_, ⟨rfl, rfl⟩, trivial⟩, fun c15 => ⟨fun c16 => ⟨?_, ?_, ?_, ?_, ?_, ?_, ⟨rfl, rfl⟩, ⟨rfl, rfl⟩, ⟨rfl, rfl⟩, ⟨rfl, rfl⟩, ⟨rfl, rfl⟩, ⟨rfl, rfl⟩, ⟨rfl, rfl⟩, ⟨rfl, rfl⟩, ⟨rfl, rfl⟩, ⟨rfl, rfl⟩, ⟨rfl, rfl⟩, ⟨rfl, rfl⟩, ⟨rfl, rfl⟩, ⟨rfl, rfl⟩, ?_, ⟨rfl, rfl⟩, ?_, ⟨rfl, rfl⟩, trivial⟩, fun c16 => ⟨?_, ?_, ?_, ?_, ?_, ?_, ⟨rfl, rfl⟩, ⟨rfl, rfl⟩, ⟨rfl, rfl⟩, ⟨rfl, rfl⟩, ⟨rfl, rfl⟩, ⟨rfl, rfl⟩, ⟨rfl, rfl⟩, ⟨rfl, rfl⟩, ⟨rfl, rfl⟩, ⟨rfl, rfl⟩, ⟨rfl, rfl⟩, ⟨rfl, rfl⟩, ⟨rfl, rfl⟩, ⟨rfl, rfl⟩, ⟨rfl, rfl⟩, ?_, ?_, ⟨rfl, rfl⟩, trivial⟩⟩⟩⟩⟩⟩⟩⟩⟩⟩⟩⟩⟩⟩⟩⟩, fun c1 => ⟨⟨rfl, rfl⟩, ⟨rfl, rfl⟩, ⟨rfl, rfl⟩, ⟨rfl, rfl⟩, ⟨rfl, rfl⟩, ⟨rfl, rfl⟩, ⟨rfl, rfl⟩, ⟨rfl, rfl⟩, ⟨rfl, rfl⟩, ⟨rfl, rfl⟩, ⟨rfl, rfl⟩, ⟨rfl, rfl⟩, ⟨rfl, rfl⟩, ⟨rfl, rfl⟩, ⟨rfl, rfl⟩, ⟨rfl, rfl⟩, ⟨rfl, rfl⟩, ⟨rfl, rfl⟩, trivial⟩⟩
 ·(obtain ⟨h0, h2, h3, h4, h5, h6, h7, h8⟩ := hI; simp only [decide_eq_true_eq] at c1; omega)
 ·exact ⟨(nti_mem s hI (by simpa using c1)).1, (nti_mem s hI (by simpa using c1)).2.1⟩
 ·(have := hI.2.1 s.of0 (by simp [O_nti]); have := hI.1; have := hI.2.2.2.1; have := hI.2.2.2.2.1; simp only [List.length_cons, List.length_nil]; omega)
 ·(obtain ⟨h0, h2, h3, h4, h5, h6, h7, h8⟩ := hI; simp only [decide_eq_true_eq] at c1; omega)
 ·(have em := eq_of_beq c2; have hm := nti_mem s hI (by simpa using c1); omega)
 iterate 3 · (obtain ⟨h0, h2, h3, h4, h5, h6, h7, h8⟩ := hI; simp only [decide_eq_true_eq] at c1; omega)
 iterate 2 · exact ⟨rfl, by simp⟩
 ·(have := hI.2.1 s.of1 (by simp [O_nti]); have := hI.1; have := hI.2.2.2.1; have := hI.2.2.2.2.1; simp only [List.length_cons, List.length_nil]; omega)
 ·(obtain ⟨h0, h2, h3, h4, h5, h6, h7, h8⟩ := hI; simp only [decide_eq_true_eq] at c1; omega)
 ·(have em := eq_of_beq c3; have hm := nti_mem s hI (by simpa using c1); omega)
 iterate 3 · (obtain ⟨h0, h2, h3, h4, h5, h6, h7, h8⟩ := hI; simp only [decide_eq_true_eq] at c1; omega)
 iterate 2 · exact ⟨rfl, by simp⟩
 ·(have := hI.2.1 s.of2 (by simp [O_nti]); have := hI.1; have := hI.2.2.2.1; have := hI.2.2.2.2.1; simp only [List.length_cons, List.length_nil]; omega)
 ·(obtain ⟨h0, h2, h3, h4, h5, h6, h7, h8⟩ := hI; simp only [decide_eq_true_eq] at c1; omega)
 ·(have em := eq_of_beq c4; have hm := nti_mem s hI (by simpa using c1); omega)
 iterate 3 · (obtain ⟨h0, h2, h3, h4, h5, h6, h7, h8⟩ := hI; simp only [decide_eq_true_eq] at c1; omega)
 iterate 2 · exact ⟨rfl, by simp⟩
 ·(have := hI.2.1 s.of3 (by simp [O_nti]); have := hI.1; have := hI.2.2.2.1; have := hI.2.2.2.2.1; simp only [List.length_cons, List.length_nil]; omega)
 ·(obtain ⟨h0, h2, h3, h4, h5, h6, h7, h8⟩ := hI; simp only [decide_eq_true_eq] at c1; omega)
 ·(have em := eq_of_beq c5; have hm := nti_mem s hI (by simpa using c1); omega)
 iterate 3 · (obtain ⟨h0, h2, h3, h4, h5, h6, h7, h8⟩ := hI; simp only [decide_eq_true_eq] at c1; omega)
 iterate 2 · exact ⟨rfl, by simp⟩
 ·(have := hI.2.1 s.of4 (by simp [O_nti]); have := hI.1; have := hI.2.2.2.1; have := hI.2.2.2.2.1; simp only [List.length_cons, List.length_nil]; omega)
 ·(obtain ⟨h0, h2, h3, h4, h5, h6, h7, h8⟩ := hI; simp only [decide_eq_true_eq] at c1; omega)
 ·(have em := eq_of_beq c6; have hm := nti_mem s hI (by simpa using c1); omega)
 iterate 3 · (obtain ⟨h0, h2, h3, h4, h5, h6, h7, h8⟩ := hI; simp only [decide_eq_true_eq] at c1; omega)
 iterate 2 · exact ⟨rfl, by simp⟩
 ·(have := hI.2.1 s.of5 (by simp [O_nti]); have := hI.1; have := hI.2.2.2.1; have := hI.2.2.2.2.1; simp only [List.length_cons, List.length_nil]; omega)
 ·(obtain ⟨h0, h2, h3, h4, h5, h6, h7, h8⟩ := hI; simp only [decide_eq_true_eq] at c1; omega)
 ·(have em := eq_of_beq c7; have hm := nti_mem s hI (by simpa using c1); omega)
 iterate 3 · (obtain ⟨h0, h2, h3, h4, h5, h6, h7, h8⟩ := hI; simp only [decide_eq_true_eq] at c1; omega)
 iterate 2 · exact ⟨rfl, by simp⟩
 ·(have := hI.2.1 s.of6 (by simp [O_nti]); have := hI.1; have := hI.2.2.2.1; have := hI.2.2.2.2.1; simp only [List.length_cons, List.length_nil]; omega)
 ·(obtain ⟨h0, h2, h3, h4, h5, h6, h7, h8⟩ := hI; simp only [decide_eq_true_eq] at c1; omega)
 ·(have em := eq_of_beq c8; have hm := nti_mem s hI (by simpa using c1); omega)
 iterate 3 · (obtain ⟨h0, h2, h3, h4, h5, h6, h7, h8⟩ := hI; simp only [decide_eq_true_eq] at c1; omega)
 iterate 2 · exact ⟨rfl, by simp⟩
 ·(have := hI.2.1 s.of7 (by simp [O_nti]); have := hI.1; have := hI.2.2.2.1; have := hI.2.2.2.2.1; simp only [List.length_cons, List.length_nil]; omega)
 ·(obtain ⟨h0, h2, h3, h4, h5, h6, h7, h8⟩ := hI; simp only [decide_eq_true_eq] at c1; omega)
 ·(have em := eq_of_beq c9; have hm := nti_mem s hI (by simpa using c1); omega)
 iterate 3 · (obtain ⟨h0, h2, h3, h4, h5, h6, h7, h8⟩ := hI; simp only [decide_eq_true_eq] at c1; omega)
 iterate 2 · exact ⟨rfl, by simp⟩
 ·(have := hI.2.1 s.of8 (by simp [O_nti]); have := hI.1; have := hI.2.2.2.1; have := hI.2.2.2.2.1; simp only [List.length_cons, List.length_nil]; omega)
 ·(obtain ⟨h0, h2, h3, h4, h5, h6, h7, h8⟩ := hI; simp only [decide_eq_true_eq] at c1; omega)
 ·(have em := eq_of_beq c10; have hm := nti_mem s hI (by simpa using c1); omega)
 iterate 3 · (obtain ⟨h0, h2, h3, h4, h5, h6, h7, h8⟩ := hI; simp only [decide_eq_true_eq] at c1; omega)
 iterate 2 · exact ⟨rfl, by simp⟩
 ·(have := hI.2.1 s.of9 (by simp [O_nti]); have := hI.1; have := hI.2.2.2.1; have := hI.2.2.2.2.1; simp only [List.length_cons, List.length_nil]; omega)
 ·(obtain ⟨h0, h2, h3, h4, h5, h6, h7, h8⟩ := hI; simp only [decide_eq_true_eq] at c1; omega)
 ·(have em := eq_of_beq c11; have hm := nti_mem s hI (by simpa using c1); omega)
 iterate 3 · (obtain ⟨h0, h2, h3, h4, h5, h6, h7, h8⟩ := hI; simp only [decide_eq_true_eq] at c1; omega)
 iterate 2 · exact ⟨rfl, by simp⟩
 ·(have := hI.2.1 s.of10 (by simp [O_nti]); have := hI.1; have := hI.2.2.2.1; have := hI.2.2.2.2.1; simp only [List.length_cons, List.length_nil]; omega)
 ·(obtain ⟨h0, h2, h3, h4, h5, h6, h7, h8⟩ := hI; simp only [decide_eq_true_eq] at c1; omega)
 ·(have em := eq_of_beq c12; have hm := nti_mem s hI (by simpa using c1); omega)
 iterate 3 · (obtain ⟨h0, h2, h3, h4, h5, h6, h7, h8⟩ := hI; simp only [decide_eq_true_eq] at c1; omega)
 iterate 2 · exact ⟨rfl, by simp⟩
 ·(have := hI.2.1 s.of11 (by simp [O_nti]); have := hI.1; have := hI.2.2.2.1; have := hI.2.2.2.2.1; simp only [List.length_cons, List.length_nil]; omega)
 ·(obtain ⟨h0, h2, h3, h4, h5, h6, h7, h8⟩ := hI; simp only [decide_eq_true_eq] at c1; omega)
 ·(have em := eq_of_beq c13; have hm := nti_mem s hI (by simpa using c1); omega)
 iterate 3 · (obtain ⟨h0, h2, h3, h4, h5, h6, h7, h8⟩ := hI; simp only [decide_eq_true_eq] at c1; omega)
 iterate 2 · exact ⟨rfl, by simp⟩
 ·(have := hI.2.1 s.of12 (by simp [O_nti]); have := hI.1; have := hI.2.2.2.1; have := hI.2.2.2.2.1; simp only [List.length_cons, List.length_nil]; omega)
 ·(obtain ⟨h0, h2, h3, h4, h5, h6, h7, h8⟩ := hI; simp only [decide_eq_true_eq] at c1; omega)
 ·(have em := eq_of_beq c14; have hm := nti_mem s hI (by simpa using c1); omega)
 iterate 3 · (obtain ⟨h0, h2, h3, h4, h5, h6, h7, h8⟩ := hI; simp only [decide_eq_true_eq] at c1; omega)
 iterate 2 · exact ⟨rfl, by simp⟩
 ·(have := hI.2.1 s.of13 (by simp [O_nti]); have := hI.1; have := hI.2.2.2.1; have := hI.2.2.2.2.1; simp only [List.length_cons, List.length_nil]; omega)
 ·(obtain ⟨h0, h2, h3, h4, h5, h6, h7, h8⟩ := hI; simp only [decide_eq_true_eq] at c1; omega)
 ·(have em := eq_of_beq c15; have hm := nti_mem s hI (by simpa using c1); omega)
 iterate 3 · (obtain ⟨h0, h2, h3, h4, h5, h6, h7, h8⟩ := hI; simp only [decide_eq_true_eq] at c1; omega)
 iterate 2 · exact ⟨rfl, by simp⟩
 ·(have := hI.2.1 s.of14 (by simp [O_nti]); have := hI.1; have := hI.2.2.2.1; have := hI.2.2.2.2.1; simp only [List.length_cons, List.length_nil]; omega)
 ·(obtain ⟨h0, h2, h3, h4, h5, h6, h7, h8⟩ := hI; simp only [decide_eq_true_eq] at c1; omega)
 ·(have em := eq_of_beq c16; have hm := nti_mem s hI (by simpa using c1); omega)
 iterate 3 · (obtain ⟨h0, h2, h3, h4, h5, h6, h7, h8⟩ := hI; simp only [decide_eq_true_eq] at c1; omega)
 iterate 2 · exact ⟨rfl, by simp⟩
 ·(have := hI.2.1 s.of15 (by simp [O_nti]); have := hI.1; have := hI.2.2.2.1; have := hI.2.2.2.2.1; simp only [List.length_cons, List.length_nil]; omega)
 ·(obtain ⟨h0, h2, h3, h4, h5, h6, h7, h8⟩ := hI; simp only [decide_eq_true_eq] at c1; omega)
 ·(have hm := nti_mem s hI (by simpa using c1); simp only [beq_eq_false_iff_ne, ne_eq] at c2 c3 c4 c5 c6 c7 c8 c9 c10 c11 c12 c13 c14 c15 c16; omega)
 iterate 3 · (obtain ⟨h0, h2, h3, h4, h5, h6, h7, h8⟩ := hI; simp only [decide_eq_true_eq] at c1; omega)
 iterate 2 · exact ⟨rfl, by simp⟩
theorem ok_nti : D_nti.Ok := ⟨fun s => by kernel_rfl, fun s => by kernel_rfl, fun s => rfl, fun s t r => rfl, fun s => rfl, fun s => by kernel_rfl⟩
theorem pf_nti : D_nti.Pf (Q_nti) := ⟨nti_E, fun _ _ => rfl, nti_da, rq_nti⟩
set_option maxRecDepth 100000 in
set_option maxHeartbeats 4000000 in
theorem snd_nti : SoundA Try.prog noGlobs (AN 1) (.loop body_nti) D_nti.lp := LpD.snd ok_nti pf_nti (code_soundA (Γ := gam32) (K := hnd34) (L := (unrC Try.prog noGlobs gam32 hnd34 20 2)) gok32 hok34 body_nti (fun b _ => unrC_sound gok32 hok34 20 2 b)) (fun s => by kernel_rfl)
theorem nti_fin (s : L_nti) (hE : E_nti s) : ∃ s', I_nti s' ∧ Q_nti (exn_nti s) s' (run_nti s) := LpD.fin ok_nti pf_nti s hE
theorem nti_keep (s : L_nti) (hE : E_nti s) : (fun s : L_nti => (putO s.i (O_nti s) (s.l.drop s.k.toNat), s.sums.set s.i.toNat (s.sums.getD s.i.toNat 0 + smA s.alive (s.l.drop s.k.toNat)))) (run_nti s) = (fun s : L_nti => (putO s.i (O_nti s) (s.l.drop s.k.toNat), s.sums.set s.i.toNat (s.sums.getD s.i.toNat 0 + smA s.alive (s.l.drop s.k.toNat)))) s := by
 exact LpD.keepV ok_nti pf_nti (fun s : L_nti => (putO s.i (O_nti s) (s.l.drop s.k.toNat), s.sums.set s.i.toNat (s.sums.getD s.i.toNat 0 + smA s.alive (s.l.drop s.k.toNat)))) (fun s hI => by
  show allR _ _ (f_nti s)
  unfold f_nti t_nti
  dsimp only [T.rd, T.rl]
  refine allR_ite (fun c1 => ?_) (fun c1 => ?_)
  ·refine allR_ite (fun c2 => ?_) (fun c2 => ?_)
   ·have em : gi s.l s.k = 0 := by simpa using c2
    exact nti_ok2 s _ 0 hI (by simpa using c1) em rfl rfl rfl rfl rfl rfl rfl
   ·refine allR_ite (fun c3 => ?_) (fun c3 => ?_)
    ·have em : gi s.l s.k = 1 := by simpa using c3
     exact nti_ok2 s _ 1 hI (by simpa using c1) em rfl rfl rfl rfl rfl rfl rfl
    ·refine allR_ite (fun c4 => ?_) (fun c4 => ?_)
     ·have em : gi s.l s.k = 2 := by simpa using c4
      exact nti_ok2 s _ 2 hI (by simpa using c1) em rfl rfl rfl rfl rfl rfl rfl
     ·refine allR_ite (fun c5 => ?_) (fun c5 => ?_)
      ·have em : gi s.l s.k = 3 := by simpa using c5
       exact nti_ok2 s _ 3 hI (by simpa using c1) em rfl rfl rfl rfl rfl rfl rfl
      ·refine allR_ite (fun c6 => ?_) (fun c6 => ?_)
       ·have em : gi s.l s.k = 4 := by simpa using c6
        exact nti_ok2 s _ 4 hI (by simpa using c1) em rfl rfl rfl rfl rfl rfl rfl
       ·refine allR_ite (fun c7 => ?_) (fun c7 => ?_)
        ·have em : gi s.l s.k = 5 := by simpa using c7
         exact nti_ok2 s _ 5 hI (by simpa using c1) em rfl rfl rfl rfl rfl rfl rfl
        ·refine allR_ite (fun c8 => ?_) (fun c8 => ?_)
         ·have em : gi s.l s.k = 6 := by simpa using c8
          exact nti_ok2 s _ 6 hI (by simpa using c1) em rfl rfl rfl rfl rfl rfl rfl
         ·refine allR_ite (fun c9 => ?_) (fun c9 => ?_)
          ·have em : gi s.l s.k = 7 := by simpa using c9
           exact nti_ok2 s _ 7 hI (by simpa using c1) em rfl rfl rfl rfl rfl rfl rfl
          ·refine allR_ite (fun c10 => ?_) (fun c10 => ?_)
           ·have em : gi s.l s.k = 8 := by simpa using c10
            exact nti_ok2 s _ 8 hI (by simpa using c1) em rfl rfl rfl rfl rfl rfl rfl
           ·refine allR_ite (fun c11 => ?_) (fun c11 => ?_)
            ·have em : gi s.l s.k = 9 := by simpa using c11
             exact nti_ok2 s _ 9 hI (by simpa using c1) em rfl rfl rfl rfl rfl rfl rfl
            ·refine allR_ite (fun c12 => ?_) (fun c12 => ?_)
             ·have em : gi s.l s.k = 10 := by simpa using c12
              exact nti_ok2 s _ 10 hI (by simpa using c1) em rfl rfl rfl rfl rfl rfl rfl
             ·refine allR_ite (fun c13 => ?_) (fun c13 => ?_)
              ·have em : gi s.l s.k = 11 := by simpa using c13
               exact nti_ok2 s _ 11 hI (by simpa using c1) em rfl rfl rfl rfl rfl rfl rfl
              ·refine allR_ite (fun c14 => ?_) (fun c14 => ?_)
               ·have em : gi s.l s.k = 12 := by simpa using c14
                exact nti_ok2 s _ 12 hI (by simpa using c1) em rfl rfl rfl rfl rfl rfl rfl
               ·refine allR_ite (fun c15 => ?_) (fun c15 => ?_)
                ·have em : gi s.l s.k = 13 := by simpa using c15
                 exact nti_ok2 s _ 13 hI (by simpa using c1) em rfl rfl rfl rfl rfl rfl rfl
                ·refine allR_ite (fun c16 => ?_) (fun c16 => ?_)
                 ·have em : gi s.l s.k = 14 := by simpa using c16
                  exact nti_ok2 s _ 14 hI (by simpa using c1) em rfl rfl rfl rfl rfl rfl rfl
                 ·have em : gi s.l s.k = 15 := by
                   have hm := nti_mem s hI (by simpa using c1)
                   simp only [beq_eq_false_iff_ne, ne_eq] at c2 c3 c4 c5 c6 c7 c8 c9 c10 c11 c12 c13 c14 c15 c16
                   omega
                  exact nti_ok2 s _ 15 hI (by simpa using c1) em rfl rfl rfl rfl rfl rfl rfl
  ·rfl) s hE
theorem nti_res (s : L_nti) (hE : E_nti s) : O_nti (run_nti s) = putO s.i (O_nti s) s.l ∧ (run_nti s).sums = s.sums.set s.i.toNat (s.sums.getD s.i.toNat 0 + smA s.alive s.l) := by
 have q3 := nti_keep s hE
 obtain ⟨hI2, hf⟩ := LpD.inv ok_nti pf_nti (fun s => by kernel_rfl) s hE
 have hI2 : I_nti (run_nti s) := hI2
 have hq := allR_stop (nti_da _ hI2) hf
 have q2 : (run_nti s).k = (run_nti s).n := hq.2
 obtain ⟨h0, h1, h2, h3, h4, h5, h6, h7⟩ := hE
 obtain ⟨g0, g1, g2, g3, g4, g5, g6, g7⟩ := hI2
 have el : (run_nti s).l = s.l := rfl
 have en : (run_nti s).n = s.n := rfl
 have ei : (run_nti s).i = s.i := rfl
 have ea : (run_nti s).alive = s.alive := rfl
 simp only at q3
 rw [q2, en, el, ei, ea, List.drop_eq_nil_of_le (by omega), h0, show (0 : Int).toNat = 0 from rfl, List.drop_zero] at q3
 have e1 := congrArg Prod.fst q3
 have e2 := congrArg Prod.snd q3
 simp only at e1 e2
 refine ⟨e1, ?_⟩
 rw [← e2]
 exact (set_getD (by rw [ei] at g7; omega)).symm
structure L_nto where
 alive : List Int
 rows : List (Int × (List Int))
 rn : Int
 ri : Int
 q_Conductors : List (ByteArray × (Int × (Int × (Int × ((Int × Int) × (Int × (Int × (Int × (Int × Int)))))))))
 q_Owners : List ByteArray
 q_Contracts : List (ByteArray × (Int × (Int × Int)))
 q_Chargers : List (ByteArray × (Int × (Int × (Int × (Int × (Int × (Int × Int)))))))
 q_Bays : List (ByteArray × Int)
 tcs : List (ByteArray × (Int × (Int × (Int × ((Int × Int) × (Int × (Int × (Int × (Int × Int)))))))))
 tos : List ByteArray
 tks : List (ByteArray × (Int × (Int × Int)))
 tgs : List (ByteArray × (Int × (Int × (Int × (Int × (Int × (Int × Int)))))))
 tbs : List (ByteArray × Int)
 trows : List (Int × (List Int))
 talive : List Int
 of0 : List Int
 of1 : List Int
 of2 : List Int
 of3 : List Int
 of4 : List Int
 of5 : List Int
 of6 : List Int
 of7 : List Int
 of8 : List Int
 of9 : List Int
 of10 : List Int
 of11 : List Int
 of12 : List Int
 of13 : List Int
 of14 : List Int
 of15 : List Int
 sums : List Int
 levels : List Int
def A_nto (s : L_nto) : List LV := [.xl (.int .i64) s.alive, .own 1 0, .xl tRw s.rows, .v (.int .i64 s.rn), .v (.int .i64 s.ri)]
def B_nto (s : L_nto) : List Blk := [⟨[.xl tCd s.q_Conductors, .xl .str s.q_Owners, .xl tKo s.q_Contracts, .xl tCh s.q_Chargers, .xl tBa s.q_Bays], 30, .cl, false⟩, ⟨[.xl tCd s.tcs, .xl .str s.tos, .xl tKo s.tks, .xl tCh s.tgs, .xl tBa s.tbs, .xl tRw s.trows, .os 2 1 0 (List.length s.of0), .os 3 1 0 (List.length s.of1), .os 4 1 0 (List.length s.of2), .os 5 1 0 (List.length s.of3), .os 6 1 0 (List.length s.of4), .os 7 1 0 (List.length s.of5), .os 8 1 0 (List.length s.of6), .os 9 1 0 (List.length s.of7), .os 10 1 0 (List.length s.of8), .os 11 1 0 (List.length s.of9), .os 12 1 0 (List.length s.of10), .os 13 1 0 (List.length s.of11), .os 14 1 0 (List.length s.of12), .os 15 1 0 (List.length s.of13), .os 16 1 0 (List.length s.of14), .os 17 1 0 (List.length s.of15), .os 18 1 0 (List.length s.sums), .xl (.int .i64) s.talive, .os 19 1 0 (List.length s.levels)], 66, .cl, false⟩, ⟨[], 3, .vec (.int .i64) s.of0, false⟩, ⟨[], 3, .vec (.int .i64) s.of1, false⟩, ⟨[], 3, .vec (.int .i64) s.of2, false⟩, ⟨[], 3, .vec (.int .i64) s.of3, false⟩, ⟨[], 3, .vec (.int .i64) s.of4, false⟩, ⟨[], 3, .vec (.int .i64) s.of5, false⟩, ⟨[], 3, .vec (.int .i64) s.of6, false⟩, ⟨[], 3, .vec (.int .i64) s.of7, false⟩, ⟨[], 3, .vec (.int .i64) s.of8, false⟩, ⟨[], 3, .vec (.int .i64) s.of9, false⟩, ⟨[], 3, .vec (.int .i64) s.of10, false⟩, ⟨[], 3, .vec (.int .i64) s.of11, false⟩, ⟨[], 3, .vec (.int .i64) s.of12, false⟩, ⟨[], 3, .vec (.int .i64) s.of13, false⟩, ⟨[], 3, .vec (.int .i64) s.of14, false⟩, ⟨[], 3, .vec (.int .i64) s.of15, false⟩, ⟨[], 3, .vec (.int .i64) s.sums, false⟩, ⟨[], 3, .vec (.int .i64) s.levels, false⟩]
noncomputable def body_nto : Code := ((loopsIn (Try.f34.body.getD .skip))[0]?).getD .skip
def st0_nti (s : L_nto) : L_nti := (⟨s.alive, s.ri, s.rows, s.rn, s.ri, (gRw s.rows s.ri).2, (List.length (gRw s.rows s.ri).2 : Int), (0 : Int), s.q_Conductors, s.q_Owners, s.q_Contracts, s.q_Chargers, s.q_Bays, s.tcs, s.tos, s.tks, s.tgs, s.tbs, s.trows, s.talive, s.of0, s.of1, s.of2, s.of3, s.of4, s.of5, s.of6, s.of7, s.of8, s.of9, s.of10, s.of11, s.of12, s.of13, s.of14, s.of15, s.sums, s.levels⟩ : L_nti)
def t_nto (s : L_nto) : T (Rd L_nto) :=
 .br (decide (s.ri < s.rn)) (.req (0 ≤ s.ri ∧ s.ri < (List.length s.rows : Int)) (.rl s.of0 (.rl s.of1 (.rl s.of2 (.rl s.of3 (.rl s.of4 (.rl s.of5 (.rl s.of6 (.rl s.of7 (.rl s.of8 (.rl s.of9 (.rl s.of10 (.rl s.of11 (.rl s.of12 (.rl s.of13 (.rl s.of14 (.rl s.of15 (.rl s.sums (.rl s.levels (.req (E_ntiq (st0_nti s)) (.rl (run_nti (st0_nti s)).of0 (.rl (run_nti (st0_nti s)).of1 (.rl (run_nti (st0_nti s)).of2 (.rl (run_nti (st0_nti s)).of3 (.rl (run_nti (st0_nti s)).of4 (.rl (run_nti (st0_nti s)).of5 (.rl (run_nti (st0_nti s)).of6 (.rl (run_nti (st0_nti s)).of7 (.rl (run_nti (st0_nti s)).of8 (.rl (run_nti (st0_nti s)).of9 (.rl (run_nti (st0_nti s)).of10 (.rl (run_nti (st0_nti s)).of11 (.rl (run_nti (st0_nti s)).of12 (.rl (run_nti (st0_nti s)).of13 (.rl (run_nti (st0_nti s)).of14 (.rl (run_nti (st0_nti s)).of15 (.rl (run_nti (st0_nti s)).sums (.rl s.levels (.ok (.next { s with ri := (IntKind.i64.wrap (s.ri + 1)), of0 := (run_nti (st0_nti s)).of0, of1 := (run_nti (st0_nti s)).of1, of2 := (run_nti (st0_nti s)).of2, of3 := (run_nti (st0_nti s)).of3, of4 := (run_nti (st0_nti s)).of4, of5 := (run_nti (st0_nti s)).of5, of6 := (run_nti (st0_nti s)).of6, of7 := (run_nti (st0_nti s)).of7, of8 := (run_nti (st0_nti s)).of8, of9 := (run_nti (st0_nti s)).of9, of10 := (run_nti (st0_nti s)).of10, of11 := (run_nti (st0_nti s)).of11, of12 := (run_nti (st0_nti s)).of12, of13 := (run_nti (st0_nti s)).of13, of14 := (run_nti (st0_nti s)).of14, of15 := (run_nti (st0_nti s)).of15, sums := (run_nti (st0_nti s)).sums })))))))))))))))))))))))))))))))))))))))) (.rl s.of0 (.rl s.of1 (.rl s.of2 (.rl s.of3 (.rl s.of4 (.rl s.of5 (.rl s.of6 (.rl s.of7 (.rl s.of8 (.rl s.of9 (.rl s.of10 (.rl s.of11 (.rl s.of12 (.rl s.of13 (.rl s.of14 (.rl s.of15 (.rl s.sums (.rl s.levels (.ok (.stop (.exit 0) s))))))))))))))))))))
abbrev f_nto (s : L_nto) := (t_nto s).rd s
def O_nto (s : L_nto) : List (List Int) := [s.of0, s.of1, s.of2, s.of3, s.of4, s.of5, s.of6, s.of7, s.of8, s.of9, s.of10, s.of11, s.of12, s.of13, s.of14, s.of15]
def E_nto (s : L_nto) : Prop := s.ri = 0 ∧ (∀ o ∈ O_nto s, o = []) ∧ s.sums = List.replicate s.rows.length 0 ∧ s.rn = (s.rows.length : Int) ∧ s.rn ≤ 1000 ∧ (∀ r ∈ s.rows, (r.2.length : Int) ≤ 1000 ∧ ∀ m ∈ r.2, 0 ≤ m ∧ m < 16 ∧ m < (s.alive.length : Int)) ∧ (∀ a ∈ s.alive, 0 ≤ a ∧ a ≤ 80) ∧ s.sums.length = s.rows.length
def I_nto (s : L_nto) : Prop := (0 ≤ s.ri ∧ s.ri ≤ s.rn) ∧ (∀ o ∈ O_nto s, (o.length : Int) ≤ 1000 * s.ri) ∧ (∀ k : Nat, s.ri ≤ (k : Int) → s.sums.getD k 0 = 0) ∧ s.rn = (s.rows.length : Int) ∧ s.rn ≤ 1000 ∧ (∀ r ∈ s.rows, (r.2.length : Int) ≤ 1000 ∧ ∀ m ∈ r.2, 0 ≤ m ∧ m < 16 ∧ m < (s.alive.length : Int)) ∧ (∀ a ∈ s.alive, 0 ≤ a ∧ a ≤ 80) ∧ s.sums.length = s.rows.length
def mu_nto (s : L_nto) : Nat := (s.rn - s.ri).toNat
def Q_nto (x : Ex) (_ s' : L_nto) : Prop := x = .exit 0 ∧ s'.ri = s'.rn
theorem nto_E : ∀ s, E_nto s → I_nto s := by
 intro s h
 obtain ⟨h0, h1, h2, h3⟩ := h
 refine ⟨by have := h3.1; omega, fun o ho => by rw [h1 o ho]; simp; omega, fun k _ => ?_, h3⟩
 rw [h2]
 simp only [List.getD, List.getElem?_replicate]
 split <;> rfl
theorem nto_in (s : L_nto) (hI : I_nto s) (c1 : s.ri < s.rn) : E_nti (st0_nti s) := by
 obtain ⟨⟨h0, h1⟩, h2, h3, h4, h5, h6, h7, h8⟩ := hI
 have hr := h6 (gRw s.rows s.ri) (by rw [gRw_eq (by omega)]; exact List.getElem_mem _)
 refine ⟨rfl, fun o ho => ?_, ?_, rfl, hr.1, hr.2, h7, h0, ?_⟩
 ·have := h2 o ho
  omega
 ·have := h3 s.ri.toNat (by omega)
  show 0 ≤ s.sums.getD s.ri.toNat 0 ∧ s.sums.getD s.ri.toNat 0 ≤ 1000
  omega
 ·show s.ri < (s.sums.length : Int)
  omega
theorem nto_ok (s s' : L_nto) (hI : I_nto s) (c1 : s.ri < s.rn) (hO : O_nto s' = O_nti (run_nti (st0_nti s))) (hs : s'.sums = (run_nti (st0_nti s)).sums) (hk : s'.ri = IntKind.i64.wrap (s.ri + 1)) (hn : s'.rn = s.rn) (hl : s'.rows = s.rows) (ha : s'.alive = s.alive) :
  (I_nto s' ∧ mu_nto s' < mu_nto s) ∧ (fun s : L_nto => (trO (O_nto s) s.ri (s.rows.drop s.ri.toNat), trS s.alive s.sums s.ri (s.rows.drop s.ri.toNat))) s' = (fun s : L_nto => (trO (O_nto s) s.ri (s.rows.drop s.ri.toNat), trS s.alive s.sums s.ri (s.rows.drop s.ri.toNat))) s := by
 obtain ⟨r1, r2⟩ := nti_res _ (nto_in s hI c1)
 obtain ⟨⟨h0, h1⟩, h2, h3, h4, h5, h6, h7, h8⟩ := hI
 have hr := h6 (gRw s.rows s.ri) (by rw [gRw_eq (by omega)]; exact List.getElem_mem _)
 rw [wrapS (x := s.ri + 1) (by omega) (by omega)] at hk
 have r1 : O_nti (run_nti (st0_nti s)) = putO s.ri (O_nto s) (gRw s.rows s.ri).2 := r1
 have r2 : (run_nti (st0_nti s)).sums = s.sums.set s.ri.toNat (s.sums.getD s.ri.toNat 0 + smA s.alive (gRw s.rows s.ri).2) := r2
 refine ⟨⟨⟨⟨by omega, by omega⟩, fun o ho => ?_, fun k hk2 => ?_, by rw [hn, hl]; exact h4, by omega, by rw [hl, ha]; exact h6, by rw [ha]; exact h7, by rw [hs, r2, List.length_set, hl]; exact h8⟩, by simp only [mu_nto]; omega⟩, ?_⟩
 ·rw [hO, r1] at ho
  have := putO_bd h2 o ho
  have := hr.1
  rw [hk]
  omega
 ·rw [hs, r2]
  have := h3 k (by omega)
  simp only [List.getD] at this ⊢
  rw [List.getElem?_set_ne (by omega)]
  exact this
 ·simp only
  rw [hO, hs, hl, ha, r1, r2, hk, (gRw_step h0 (show s.ri < s.rows.length by omega)).1]
  rfl
theorem nto_ok1 (s s' : L_nto) (hI : I_nto s) (c1 : s.ri < s.rn) (hO : O_nto s' = O_nti (run_nti (st0_nti s))) (hs : s'.sums = (run_nti (st0_nti s)).sums) (hk : s'.ri = IntKind.i64.wrap (s.ri + 1)) (hn : s'.rn = s.rn) (hl : s'.rows = s.rows) (ha : s'.alive = s.alive) : allR (fun s' => I_nto s' ∧ mu_nto s' < mu_nto s) (fun x s' => Q_nto x s s') (.next s') := (nto_ok s s' hI c1 hO hs hk hn hl ha).1
theorem nto_ok2 (s s' : L_nto) (hI : I_nto s) (c1 : s.ri < s.rn) (hO : O_nto s' = O_nti (run_nti (st0_nti s))) (hs : s'.sums = (run_nti (st0_nti s)).sums) (hk : s'.ri = IntKind.i64.wrap (s.ri + 1)) (hn : s'.rn = s.rn) (hl : s'.rows = s.rows) (ha : s'.alive = s.alive) : allR (fun s' => (fun s : L_nto => (trO (O_nto s) s.ri (s.rows.drop s.ri.toNat), trS s.alive s.sums s.ri (s.rows.drop s.ri.toNat))) s' = (fun s : L_nto => (trO (O_nto s) s.ri (s.rows.drop s.ri.toNat), trS s.alive s.sums s.ri (s.rows.drop s.ri.toNat))) s) (fun _ s' => (fun s : L_nto => (trO (O_nto s) s.ri (s.rows.drop s.ri.toNat), trS s.alive s.sums s.ri (s.rows.drop s.ri.toNat))) s' = (fun s : L_nto => (trO (O_nto s) s.ri (s.rows.drop s.ri.toNat), trS s.alive s.sums s.ri (s.rows.drop s.ri.toNat))) s) (.next s') := (nto_ok s s' hI c1 hO hs hk hn hl ha).2
theorem nto_da (s : L_nto) (hI : I_nto s) : allR (fun s' => I_nto s' ∧ mu_nto s' < mu_nto s) (fun x s' => Q_nto x s s') (f_nto s) := by
 unfold f_nto t_nto
 dsimp only [T.rd, T.rl]
 refine allR_ite (fun c1 => ?_) (fun c1 => ?_)
 ·exact nto_ok1 s _ hI (by simpa using c1) rfl rfl rfl rfl rfl rfl
 ·have c1 : s.rn ≤ s.ri := by simpa using c1
  have h0 := hI.1
  exact ⟨rfl, by omega⟩
def D_nto : LpD L_nto := ⟨1, 67, [2, 7, 23, 24, 25], [.ns 7 6 3 (.int .i64), .ns 7 7 3 (.int .i64), .ns 7 8 3 (.int .i64), .ns 7 9 3 (.int .i64), .ns 7 10 3 (.int .i64), .ns 7 11 3 (.int .i64), .ns 7 12 3 (.int .i64), .ns 7 13 3 (.int .i64), .ns 7 14 3 (.int .i64), .ns 7 15 3 (.int .i64), .ns 7 16 3 (.int .i64), .ns 7 17 3 (.int .i64), .ns 7 18 3 (.int .i64), .ns 7 19 3 (.int .i64), .ns 7 20 3 (.int .i64), .ns 7 21 3 (.int .i64)], A_nto, B_nto, fun v b => ⟨gXl (.int .i64) (v.getD 0 .junk), gXl tRw (v.getD 2 .junk), gI (v.getD 3 .junk), gI (v.getD 4 .junk), gXl tCd (gCe (gBk b 0) 0), gXl .str (gCe (gBk b 0) 1), gXl tKo (gCe (gBk b 0) 2), gXl tCh (gCe (gBk b 0) 3), gXl tBa (gCe (gBk b 0) 4), gXl tCd (gCe (gBk b 1) 0), gXl .str (gCe (gBk b 1) 1), gXl tKo (gCe (gBk b 1) 2), gXl tCh (gCe (gBk b 1) 3), gXl tBa (gCe (gBk b 1) 4), gXl tRw (gCe (gBk b 1) 5), gXl (.int .i64) (gCe (gBk b 1) 23), gVe (.int .i64) (gBk b 2), gVe (.int .i64) (gBk b 3), gVe (.int .i64) (gBk b 4), gVe (.int .i64) (gBk b 5), gVe (.int .i64) (gBk b 6), gVe (.int .i64) (gBk b 7), gVe (.int .i64) (gBk b 8), gVe (.int .i64) (gBk b 9), gVe (.int .i64) (gBk b 10), gVe (.int .i64) (gBk b 11), gVe (.int .i64) (gBk b 12), gVe (.int .i64) (gBk b 13), gVe (.int .i64) (gBk b 14), gVe (.int .i64) (gBk b 15), gVe (.int .i64) (gBk b 16), gVe (.int .i64) (gBk b 17), gVe (.int .i64) (gBk b 18), gVe (.int .i64) (gBk b 19)⟩, t_nto, fun s r => { r with alive := s.alive, rows := s.rows, rn := s.rn, q_Conductors := s.q_Conductors, q_Owners := s.q_Owners, q_Contracts := s.q_Contracts, q_Chargers := s.q_Chargers, q_Bays := s.q_Bays, tcs := s.tcs, tos := s.tos, tks := s.tks, tgs := s.tgs, tbs := s.tbs, trows := s.trows, talive := s.talive, levels := s.levels }, fun s => s, fun _ s => s, [.exit 0], E_nto, I_nto, mu_nto⟩
abbrev run_nto := D_nto.run
abbrev exn_nto := D_nto.exn
abbrev E_ntoq := D_nto.q
theorem rq_nto (s : L_nto) (hI : I_nto s) : (t_nto s).all (fun _ => True) := by
 refine ⟨fun c1 => ⟨?_, ⟨rfl, rfl⟩, ⟨rfl, rfl⟩, ⟨rfl, rfl⟩, ⟨rfl, rfl⟩, ⟨rfl, rfl⟩, ⟨rfl, rfl⟩, ⟨rfl, rfl⟩, ⟨rfl, rfl⟩, ⟨rfl, rfl⟩, ⟨rfl, rfl⟩, ⟨rfl, rfl⟩, ⟨rfl, rfl⟩, ⟨rfl, rfl⟩, ⟨rfl, rfl⟩, ⟨rfl, rfl⟩, ⟨rfl, rfl⟩, ⟨rfl, rfl⟩, ⟨rfl, rfl⟩, ?_, ⟨rfl, rfl⟩, ⟨rfl, rfl⟩, ⟨rfl, rfl⟩, ⟨rfl, rfl⟩, ⟨rfl, rfl⟩, ⟨rfl, rfl⟩, ⟨rfl, rfl⟩, ⟨rfl, rfl⟩, ⟨rfl, rfl⟩, ⟨rfl, rfl⟩, ⟨rfl, rfl⟩, ⟨rfl, rfl⟩, ⟨rfl, rfl⟩, ⟨rfl, rfl⟩, ⟨rfl, rfl⟩, ⟨rfl, rfl⟩, ⟨rfl, rfl⟩, ⟨rfl, rfl⟩, trivial⟩, fun c1 => ⟨⟨rfl, rfl⟩, ⟨rfl, rfl⟩, ⟨rfl, rfl⟩, ⟨rfl, rfl⟩, ⟨rfl, rfl⟩, ⟨rfl, rfl⟩, ⟨rfl, rfl⟩, ⟨rfl, rfl⟩, ⟨rfl, rfl⟩, ⟨rfl, rfl⟩, ⟨rfl, rfl⟩, ⟨rfl, rfl⟩, ⟨rfl, rfl⟩, ⟨rfl, rfl⟩, ⟨rfl, rfl⟩, ⟨rfl, rfl⟩, ⟨rfl, rfl⟩, ⟨rfl, rfl⟩, trivial⟩⟩
 ·(obtain ⟨h0, h2, h3, h4, h5, h6, h7, h8⟩ := hI; simp only [decide_eq_true_eq] at c1; omega)
 ·exact ⟨nto_in s hI (by simpa using c1), rfl, rfl⟩
theorem ok_nto : D_nto.Ok := ⟨fun s => by kernel_rfl, fun s => by kernel_rfl, fun s => rfl, fun s t r => rfl, fun s => rfl, fun s => by kernel_rfl⟩
theorem pf_nto : D_nto.Pf (Q_nto) := ⟨nto_E, fun _ _ => rfl, nto_da, rq_nto⟩
theorem snd_nto : SoundA Try.prog noGlobs (AN 1) (.loop body_nto) D_nto.lp := LpD.snd ok_nto pf_nto (code_soundA (Γ := gam32) (K := hnd34) (L := (byId (fun i => if i = 6 then D_nti.lp else noLoops i))) gok32 hok34 body_nto (fun b hb => by
 rw [show loopsIn _ = [body_nti] by kernel_rfl] at hb
 simp only [List.mem_cons, List.not_mem_nil, or_false] at hb
 subst hb
 exact snd_nti)) (fun s => by kernel_rfl)
theorem nto_fin (s : L_nto) (hE : E_nto s) : ∃ s', I_nto s' ∧ Q_nto (exn_nto s) s' (run_nto s) := LpD.fin ok_nto pf_nto s hE
theorem nto_keep (s : L_nto) (hE : E_nto s) : (fun s : L_nto => (trO (O_nto s) s.ri (s.rows.drop s.ri.toNat), trS s.alive s.sums s.ri (s.rows.drop s.ri.toNat))) (run_nto s) = (fun s : L_nto => (trO (O_nto s) s.ri (s.rows.drop s.ri.toNat), trS s.alive s.sums s.ri (s.rows.drop s.ri.toNat))) s := by
 exact LpD.keepV ok_nto pf_nto (fun s : L_nto => (trO (O_nto s) s.ri (s.rows.drop s.ri.toNat), trS s.alive s.sums s.ri (s.rows.drop s.ri.toNat))) (fun s hI => by
  show allR _ _ (f_nto s)
  unfold f_nto t_nto
  dsimp only [T.rd, T.rl]
  refine allR_ite (fun c1 => ?_) (fun c1 => ?_)
  ·exact nto_ok2 s _ hI (by simpa using c1) rfl rfl rfl rfl rfl rfl
  ·rfl) s hE
theorem nto_res (s : L_nto) (hE : E_nto s) : O_nto (run_nto s) = trO (O_nto s) 0 s.rows ∧ (run_nto s).sums = trS s.alive s.sums 0 s.rows := by
 have q3 := nto_keep s hE
 obtain ⟨s', hI, q1, q2⟩ := nto_fin s hE
 obtain ⟨h0, h1, h2, h3, h4, h5⟩ := hE
 have el : (run_nto s).rows = s.rows := rfl
 have en : (run_nto s).rn = s.rn := rfl
 have ea : (run_nto s).alive = s.alive := rfl
 simp only at q3
 rw [q2, en, el, ea, List.drop_eq_nil_of_le (by omega), h0] at q3
 exact ⟨congrArg Prod.fst q3, congrArg Prod.snd q3⟩
end Go.Proofs.Ytihbikkkmoaljaa
