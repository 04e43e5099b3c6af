/- The parts of a site: what is computed, by the executor. -/
import Derived.Test.YtihbikkkmoaljaaDh
namespace Go.Proofs.Ytihbikkkmoaljaa
open Go.Sx
structure L_vp0 where
 r : Bool
 l : List (ByteArray × (Int × (Int × (Int × ((Int × Int) × (Int × (Int × (Int × (Int × Int)))))))))
 n : Int
 i : Int
 s_Conductors : List (ByteArray × (Int × (Int × (Int × ((Int × Int) × (Int × (Int × (Int × (Int × Int)))))))))
 s_Owners : List ByteArray
 s_Contracts : List (ByteArray × (Int × (Int × Int)))
 s_Chargers : List (ByteArray × (Int × (Int × (Int × (Int × (Int × (Int × Int)))))))
 s_Bays : List (ByteArray × Int)
def A_vp0 (s : L_vp0) : List LV := [.own 0 0, .v (.bool s.r), .xl tCd s.l, .v (.int .i64 s.n), .v (.int .i64 s.i)]
def B_vp0 (s : L_vp0) : List Blk := [⟨[.xl tCd s.s_Conductors, .xl .str s.s_Owners, .xl tKo s.s_Contracts, .xl tCh s.s_Chargers, .xl tBa s.s_Bays], 30, .cl, false⟩]
noncomputable def body_vp0 : Code := ((loopsIn (Try.f57.body.getD .skip))[0]?).getD .skip
def t_vp0 (s : L_vp0) : T (Rd L_vp0) :=
 .br (decide (s.i < s.n)) (.req (0 ≤ s.i ∧ s.i < (List.length s.l : Int)) (.req (0 ≤ s.i) (.br (!(cdV s.i (gCd s.l s.i))) (.ok (.stop (.ret) { s with r := false })) (.ok (.next { s with i := (IntKind.i64.wrap (s.i + 1)) }))))) (.ok (.stop (.exit 0) s))
abbrev f_vp0 (s : L_vp0) := (t_vp0 s).rd s
def G_vp0 (s : L_vp0) (j : Int) : Bool := cdV j (gCd s.l j)
def E_vp0 (s : L_vp0) : Prop := s.i = 0 ∧ 0 ≤ s.n ∧ s.n ≤ 1000 ∧ s.n = (s.l.length : Int)
def I_vp0 (s : L_vp0) : Prop := 0 ≤ s.i ∧ s.i ≤ s.n ∧ s.n ≤ 1000 ∧ (s.n = (s.l.length : Int)) ∧ ∀ j : Nat, (j : Int) < s.i → G_vp0 s j = true
def mu_vp0 (s : L_vp0) : Nat := (s.n - s.i).toNat
def Q_vp0 (x : Ex) (_ s' : L_vp0) : Prop := (x = .exit 0 ∧ ∀ j : Nat, (j : Int) < s'.n → G_vp0 s' j = true) ∨ (x = .ret ∧ s'.r = false ∧ ∃ j : Nat, (j : Int) < s'.n ∧ G_vp0 s' j = false)
theorem vp0_E : ∀ s, E_vp0 s → I_vp0 s := by
 intro s h
 obtain ⟨h0, h1, h2, h3⟩ := h
 exact ⟨by omega, by omega, h2, h3, fun j hj => by omega⟩
theorem vp0_da (s : L_vp0) (hI : I_vp0 s) : allR (fun s' => I_vp0 s' ∧ mu_vp0 s' < mu_vp0 s) (fun x s' => Q_vp0 x s s') (f_vp0 s) := by
 unfold f_vp0 t_vp0
 dsimp only [T.rd, T.rl]
 obtain ⟨h0, h1, h2, h3, h4⟩ := hI
 refine allR_ite (fun c1 => allR_ite (fun c2 => ?_) (fun c2 => ?_)) (fun c1 => ?_)
 ·have c1 : s.i < s.n := by simpa using c1
  refine .inr ⟨rfl, rfl, s.i.toNat, by simp only; omega, ?_⟩
  rw [Int.toNat_of_nonneg (by omega)]
  have hg : G_vp0 s s.i = false := by unfold G_vp0; (first | (have c2 : (!(cdV s.i (gCd s.l s.i))) = false := c2; simpa using c2) | (have c2 : (!(cdV s.i (gCd s.l s.i))) = true := c2; simpa using c2))
  exact hg
 ·have c1 : s.i < s.n := by simpa using c1
  have hg : G_vp0 s s.i = true := by unfold G_vp0; (first | (have c2 : (!(cdV s.i (gCd s.l s.i))) = false := c2; simpa using c2) | (have c2 : (!(cdV s.i (gCd s.l s.i))) = true := c2; simpa using c2))
  rw [wrapS (x := s.i + 1) (by omega) (by omega)]
  refine ⟨⟨by simp only; omega, by simp only; omega, h2, h3, fun j hj => ?_⟩, by simp only [mu_vp0]; omega⟩
  by_cases hji : (j : Int) < s.i
  ·exact h4 j hji
  ·have : (j : Int) = s.i := by simp only at hj; omega
   rw [this]; exact hg
 ·have c1 : s.n ≤ s.i := by simpa using c1
  exact .inl ⟨rfl, fun j hj => h4 j (by omega)⟩
def D_vp0 : LpD L_vp0 := ⟨0, 95, [1, 2, 13, 14, 15], [], A_vp0, B_vp0, fun v b => ⟨gBo (v.getD 1 .junk), gXl tCd (v.getD 2 .junk), gI (v.getD 3 .junk), gI (v.getD 4 .junk), gXl tCd (gCe (gBk b 0) 0), gXl .str (gCe (gBk b 0) 1), gXl tKo (gCe (gBk b 0) 2), gXl tCh (gCe (gBk b 0) 3), gXl tBa (gCe (gBk b 0) 4)⟩, t_vp0, fun s r => { r with l := s.l, n := s.n, s_Conductors := s.s_Conductors, s_Owners := s.s_Owners, s_Contracts := s.s_Contracts, s_Chargers := s.s_Chargers, s_Bays := s.s_Bays }, fun s => s, fun _ s => s, [.ret, .exit 0], E_vp0, I_vp0, mu_vp0⟩
abbrev run_vp0 := D_vp0.run
abbrev exn_vp0 := D_vp0.exn
abbrev E_vp0q := D_vp0.q
theorem rq_vp0 (s : L_vp0) (hI : I_vp0 s) : (t_vp0 s).all (fun _ => True) := by
 refine ⟨fun c1 => ⟨?_, ?_, fun _ => trivial, fun _ => trivial⟩, fun _ => trivial⟩
 all_goals ((obtain ⟨h0, h1, h2, h3, h4⟩ := hI; simp at c1; omega))
noncomputable def gam12 : Specs := specsOf [(68, S_vcon), (69, S_holds), (70, S_vcha)]
theorem gok12 : ∀ g S, gam12 g = some S → Valid Try.prog noGlobs g S := specs_ok (l := [(68, S_vcon), (69, S_holds), (70, S_vcha)]) ⟨v_vcon, v_holds, v_vcha, trivial⟩
theorem ok_vp0 : D_vp0.Ok := ⟨fun s => by kernel_rfl, fun s => by kernel_rfl, fun s => rfl, fun s t r => rfl, fun s => rfl, fun s => by kernel_rfl⟩
theorem pf_vp0 : D_vp0.Pf (Q_vp0) := ⟨vp0_E, fun _ _ => rfl, vp0_da, rq_vp0⟩
theorem snd_vp0 : SoundA Try.prog noGlobs (AN 0) (.loop body_vp0) D_vp0.lp := LpD.snd ok_vp0 pf_vp0 (code_sound (Γ := gam12) (K := noK) (L := noLoops) gok12 noK_sound body_vp0 (fun b hb => by rw [show loopsIn body_vp0 = [] by kernel_rfl] at hb; cases hb)) (fun s => by kernel_rfl)
theorem vp0_fin (s : L_vp0) (hE : E_vp0 s) : ∃ s', I_vp0 s' ∧ Q_vp0 (exn_vp0 s) s' (run_vp0 s) := LpD.fin ok_vp0 pf_vp0 s hE
structure L_vp1 where
 r : Bool
 l : List (ByteArray × (Int × (Int × Int)))
 n : Int
 i : Int
 s_Conductors : List (ByteArray × (Int × (Int × (Int × ((Int × Int) × (Int × (Int × (Int × (Int × Int)))))))))
 s_Owners : List ByteArray
 s_Contracts : List (ByteArray × (Int × (Int × Int)))
 s_Chargers : List (ByteArray × (Int × (Int × (Int × (Int × (Int × (Int × Int)))))))
 s_Bays : List (ByteArray × Int)
 cards : List Int
def A_vp1 (s : L_vp1) : List LV := [.own 0 0, .v (.bool s.r), .om 1, .xl tKo s.l, .v (.int .i64 s.n), .v (.int .i64 s.i)]
def B_vp1 (s : L_vp1) : List Blk := [⟨[.xl tCd s.s_Conductors, .xl .str s.s_Owners, .xl tKo s.s_Contracts, .xl tCh s.s_Chargers, .xl tBa s.s_Bays], 30, .cl, false⟩, ⟨[], 110, .st (.int .i64) s.cards, false⟩]
noncomputable def body_vp1 : Code := ((loopsIn (Try.f57.body.getD .skip))[1]?).getD .skip
def t_vp1 (s : L_vp1) : T (Rd L_vp1) :=
 .br (decide (s.i < s.n)) (.req (0 ≤ s.i ∧ s.i < (List.length s.l : Int)) (.br ((!(inB (gKo s.l s.i).2.1 (0 : Int) (IntKind.i64.wrap ((List.length s.s_Owners : Int) - 1)))) || ((!(inB (gKo s.l s.i).2.2.1 (1 : Int) (9 : Int))) || ((!(inB (gKo s.l s.i).2.2.2 (1 : Int) (1000000 : Int))) || (List.contains s.cards (gKo s.l s.i).2.2.2)))) (.ok (.stop (.ret) { s with r := false })) (.req (List.contains s.cards (gKo s.l s.i).2.2.2 = false) (.ok (.next { s with i := (IntKind.i64.wrap (s.i + 1)), cards := (s.cards ++ [(gKo s.l s.i).2.2.2]) }))))) (.ok (.stop (.exit 2) s))
abbrev f_vp1 (s : L_vp1) := (t_vp1 s).rd s
def G_vp1 (s : L_vp1) (j : Int) : Bool := koV s.s_Owners.length (gKo s.l j) && !(((s.l.take j.toNat).map (·.2.2.2)).contains (gKo s.l j).2.2.2)
def E_vp1 (s : L_vp1) : Prop := s.i = 0 ∧ s.cards = [] ∧ s.n = (s.l.length : Int) ∧ s.n ≤ 1000 ∧ (s.s_Owners.length : Int) ≤ 1000
def I_vp1 (s : L_vp1) : Prop := 0 ≤ s.i ∧ s.i ≤ s.n ∧ s.n = (s.l.length : Int) ∧ s.n ≤ 1000 ∧ ((s.s_Owners.length : Int) ≤ 1000) ∧ s.cards = (s.l.take s.i.toNat).map (·.2.2.2) ∧ ∀ j : Nat, (j : Int) < s.i → G_vp1 s j = true
def mu_vp1 (s : L_vp1) : Nat := (s.n - s.i).toNat
def Q_vp1 (x : Ex) (_ s' : L_vp1) : Prop := (x = .exit 2 ∧ ∀ j : Nat, (j : Int) < s'.n → G_vp1 s' j = true) ∨ (x = .ret ∧ s'.r = false ∧ ∃ j : Nat, (j : Int) < s'.n ∧ G_vp1 s' j = false)
theorem vp1_E : ∀ s, E_vp1 s → I_vp1 s := by
 intro s h
 obtain ⟨h0, h1, h2, h3, h4⟩ := h
 exact ⟨by omega, by omega, h2, h3, h4, by rw [h0, h1]; rfl, fun j hj => by omega⟩
theorem vp1_da (s : L_vp1) (hI : I_vp1 s) : allR (fun s' => I_vp1 s' ∧ mu_vp1 s' < mu_vp1 s) (fun x s' => Q_vp1 x s s') (f_vp1 s) := by
 unfold f_vp1 t_vp1
 dsimp only [T.rd, T.rl]
 obtain ⟨h0, h1, h2, h3, h4, h5, h6⟩ := hI
 refine allR_ite (fun c1 => allR_ite (fun c2 => ?_) (fun c2 => ?_)) (fun c1 => ?_)
 ·have c1 : s.i < s.n := by simpa using c1
  refine .inr ⟨rfl, rfl, s.i.toNat, by simp only; omega, ?_⟩
  rw [Int.toNat_of_nonneg h0]
  have hg : G_vp1 s s.i = false := by
   unfold G_vp1
   (rw [wrapS (by omega) (by omega), h5] at c2; unfold koV; revert c2; generalize inB (gKo s.l s.i).2.1 _ _ = a; generalize inB (gKo s.l s.i).2.2.1 _ _ = b; generalize inB (gKo s.l s.i).2.2.2 _ _ = c; generalize List.contains (α := Int) _ _ = d; cases a <;> cases b <;> cases c <;> cases d <;> simp)
  exact hg
 ·have c1 : s.i < s.n := by simpa using c1
  have hg : G_vp1 s s.i = true := by
   unfold G_vp1
   (rw [wrapS (by omega) (by omega), h5] at c2; unfold koV; revert c2; generalize inB (gKo s.l s.i).2.1 _ _ = a; generalize inB (gKo s.l s.i).2.2.1 _ _ = b; generalize inB (gKo s.l s.i).2.2.2 _ _ = c; generalize List.contains (α := Int) _ _ = d; cases a <;> cases b <;> cases c <;> cases d <;> simp)
  rw [wrapS (x := s.i + 1) (by omega) (by omega)]
  refine ⟨⟨by simp only; omega, by simp only; omega, h2, h3, h4, ?_, fun j hj => ?_⟩, by simp only [mu_vp1]; omega⟩
  ·simp only
   rw [(gKo_step h0 (show s.i < s.l.length by omega)).2, h5]
   try rw [List.map_append]
   try rfl
  ·by_cases hji : (j : Int) < s.i
   ·exact h6 j hji
   ·have : (j : Int) = s.i := by simp only at hj; omega
    rw [this]; exact hg
 ·have c1 : s.n ≤ s.i := by simpa using c1
  exact .inl ⟨rfl, fun j hj => h6 j (by omega)⟩
def D_vp1 : LpD L_vp1 := ⟨0, 95, [1, 2, 5, 27, 28, 29], [], A_vp1, B_vp1, fun v b => ⟨gBo (v.getD 1 .junk), gXl tKo (v.getD 3 .junk), gI (v.getD 4 .junk), gI (v.getD 5 .junk), gXl tCd (gCe (gBk b 0) 0), gXl .str (gCe (gBk b 0) 1), gXl tKo (gCe (gBk b 0) 2), gXl tCh (gCe (gBk b 0) 3), gXl tBa (gCe (gBk b 0) 4), gSe (.int .i64) (gBk b 1)⟩, t_vp1, fun s r => { r with l := s.l, n := s.n, s_Conductors := s.s_Conductors, s_Owners := s.s_Owners, s_Contracts := s.s_Contracts, s_Chargers := s.s_Chargers, s_Bays := s.s_Bays }, fun s => s, fun _ s => s, [.ret, .exit 2], E_vp1, I_vp1, mu_vp1⟩
abbrev run_vp1 := D_vp1.run
abbrev exn_vp1 := D_vp1.exn
abbrev E_vp1q := D_vp1.q
theorem rq_vp1 (s : L_vp1) (hI : I_vp1 s) : (t_vp1 s).all (fun _ => True) := by
 refine ⟨fun c1 => ⟨?_, fun _ => trivial, fun c2 => ⟨?_, trivial⟩⟩, fun _ => trivial⟩
 all_goals ((obtain ⟨h0, h1, h2, h3, h4, h5, h6⟩ := hI; first | (simp at c1; omega) | (simp only [Bool.or_eq_false_iff] at c2; exact c2.2.2.2)))
theorem ok_vp1 : D_vp1.Ok := ⟨fun s => by kernel_rfl, fun s => by kernel_rfl, fun s => rfl, fun s t r => rfl, fun s => rfl, fun s => by kernel_rfl⟩
theorem pf_vp1 : D_vp1.Pf (Q_vp1) := ⟨vp1_E, fun _ _ => rfl, vp1_da, rq_vp1⟩
theorem snd_vp1 : SoundA Try.prog noGlobs (AN 0) (.loop body_vp1) D_vp1.lp := LpD.snd ok_vp1 pf_vp1 (code_sound (Γ := gam12) (K := noK) (L := noLoops) gok12 noK_sound body_vp1 (fun b hb => by rw [show loopsIn body_vp1 = [] by kernel_rfl] at hb; cases hb)) (fun s => by kernel_rfl)
theorem vp1_fin (s : L_vp1) (hE : E_vp1 s) : ∃ s', I_vp1 s' ∧ Q_vp1 (exn_vp1 s) s' (run_vp1 s) := LpD.fin ok_vp1 pf_vp1 s hE
structure L_vp2 where
 r : Bool
 l : List (ByteArray × (Int × (Int × (Int × (Int × (Int × (Int × Int)))))))
 n : Int
 i : Int
 s_Conductors : List (ByteArray × (Int × (Int × (Int × ((Int × Int) × (Int × (Int × (Int × (Int × Int)))))))))
 s_Owners : List ByteArray
 s_Contracts : List (ByteArray × (Int × (Int × Int)))
 s_Chargers : List (ByteArray × (Int × (Int × (Int × (Int × (Int × (Int × Int)))))))
 s_Bays : List (ByteArray × Int)
def A_vp2 (s : L_vp2) : List LV := [.own 0 0, .v (.bool s.r), .xl tCh s.l, .v (.int .i64 s.n), .v (.int .i64 s.i)]
def B_vp2 (s : L_vp2) : List Blk := [⟨[.xl tCd s.s_Conductors, .xl .str s.s_Owners, .xl tKo s.s_Contracts, .xl tCh s.s_Chargers, .xl tBa s.s_Bays], 30, .cl, false⟩]
noncomputable def body_vp2 : Code := ((loopsIn (Try.f57.body.getD .skip))[2]?).getD .skip
def t_vp2 (s : L_vp2) : T (Rd L_vp2) :=
 .br (decide (s.i < s.n)) (.req (0 ≤ s.i ∧ s.i < (List.length s.l : Int)) (.req ((List.length s.s_Conductors : Int) ≤ 1000 ∧ (List.length s.s_Owners : Int) ≤ 1000) (.br (!(chV s.s_Conductors.length s.s_Owners.length (gCh s.l s.i))) (.ok (.stop (.ret) { s with r := false })) (.ok (.next { s with i := (IntKind.i64.wrap (s.i + 1)) }))))) (.ok (.stop (.exit 4) s))
abbrev f_vp2 (s : L_vp2) := (t_vp2 s).rd s
def G_vp2 (s : L_vp2) (j : Int) : Bool := chV s.s_Conductors.length s.s_Owners.length (gCh s.l j)
def E_vp2 (s : L_vp2) : Prop := s.i = 0 ∧ 0 ≤ s.n ∧ s.n ≤ 1000 ∧ s.n = (s.l.length : Int) ∧ (s.s_Conductors.length : Int) ≤ 1000 ∧ (s.s_Owners.length : Int) ≤ 1000
def I_vp2 (s : L_vp2) : Prop := 0 ≤ s.i ∧ s.i ≤ s.n ∧ s.n ≤ 1000 ∧ (s.n = (s.l.length : Int) ∧ (s.s_Conductors.length : Int) ≤ 1000 ∧ (s.s_Owners.length : Int) ≤ 1000) ∧ ∀ j : Nat, (j : Int) < s.i → G_vp2 s j = true
def mu_vp2 (s : L_vp2) : Nat := (s.n - s.i).toNat
def Q_vp2 (x : Ex) (_ s' : L_vp2) : Prop := (x = .exit 4 ∧ ∀ j : Nat, (j : Int) < s'.n → G_vp2 s' j = true) ∨ (x = .ret ∧ s'.r = false ∧ ∃ j : Nat, (j : Int) < s'.n ∧ G_vp2 s' j = false)
theorem vp2_E : ∀ s, E_vp2 s → I_vp2 s := by
 intro s h
 obtain ⟨h0, h1, h2, h3⟩ := h
 exact ⟨by omega, by omega, h2, h3, fun j hj => by omega⟩
theorem vp2_da (s : L_vp2) (hI : I_vp2 s) : allR (fun s' => I_vp2 s' ∧ mu_vp2 s' < mu_vp2 s) (fun x s' => Q_vp2 x s s') (f_vp2 s) := by
 unfold f_vp2 t_vp2
 dsimp only [T.rd, T.rl]
 obtain ⟨h0, h1, h2, h3, h4⟩ := hI
 refine allR_ite (fun c1 => allR_ite (fun c2 => ?_) (fun c2 => ?_)) (fun c1 => ?_)
 ·have c1 : s.i < s.n := by simpa using c1
  refine .inr ⟨rfl, rfl, s.i.toNat, by simp only; omega, ?_⟩
  rw [Int.toNat_of_nonneg (by omega)]
  have hg : G_vp2 s s.i = false := by unfold G_vp2; (first | (have c2 : (!(chV s.s_Conductors.length s.s_Owners.length (gCh s.l s.i))) = false := c2; simpa using c2) | (have c2 : (!(chV s.s_Conductors.length s.s_Owners.length (gCh s.l s.i))) = true := c2; simpa using c2))
  exact hg
 ·have c1 : s.i < s.n := by simpa using c1
  have hg : G_vp2 s s.i = true := by unfold G_vp2; (first | (have c2 : (!(chV s.s_Conductors.length s.s_Owners.length (gCh s.l s.i))) = false := c2; simpa using c2) | (have c2 : (!(chV s.s_Conductors.length s.s_Owners.length (gCh s.l s.i))) = true := c2; simpa using c2))
  rw [wrapS (x := s.i + 1) (by omega) (by omega)]
  refine ⟨⟨by simp only; omega, by simp only; omega, h2, h3, fun j hj => ?_⟩, by simp only [mu_vp2]; omega⟩
  by_cases hji : (j : Int) < s.i
  ·exact h4 j hji
  ·have : (j : Int) = s.i := by simp only at hj; omega
   rw [this]; exact hg
 ·have c1 : s.n ≤ s.i := by simpa using c1
  exact .inl ⟨rfl, fun j hj => h4 j (by omega)⟩
def D_vp2 : LpD L_vp2 := ⟨0, 95, [1, 2, 67, 68, 69], [], A_vp2, B_vp2, fun v b => ⟨gBo (v.getD 1 .junk), gXl tCh (v.getD 2 .junk), gI (v.getD 3 .junk), gI (v.getD 4 .junk), gXl tCd (gCe (gBk b 0) 0), gXl .str (gCe (gBk b 0) 1), gXl tKo (gCe (gBk b 0) 2), gXl tCh (gCe (gBk b 0) 3), gXl tBa (gCe (gBk b 0) 4)⟩, t_vp2, fun s r => { r with l := s.l, n := s.n, s_Conductors := s.s_Conductors, s_Owners := s.s_Owners, s_Contracts := s.s_Contracts, s_Chargers := s.s_Chargers, s_Bays := s.s_Bays }, fun s => s, fun _ s => s, [.ret, .exit 4], E_vp2, I_vp2, mu_vp2⟩
abbrev run_vp2 := D_vp2.run
abbrev exn_vp2 := D_vp2.exn
abbrev E_vp2q := D_vp2.q
theorem rq_vp2 (s : L_vp2) (hI : I_vp2 s) : (t_vp2 s).all (fun _ => True) := by
 refine ⟨fun c1 => ⟨?_, ?_, fun _ => trivial, fun _ => trivial⟩, fun _ => trivial⟩
 all_goals ((obtain ⟨h0, h1, h2, h3, h4⟩ := hI; simp at c1; first | omega | exact h3.2))
theorem ok_vp2 : D_vp2.Ok := ⟨fun s => by kernel_rfl, fun s => by kernel_rfl, fun s => rfl, fun s t r => rfl, fun s => rfl, fun s => by kernel_rfl⟩
theorem pf_vp2 : D_vp2.Pf (Q_vp2) := ⟨vp2_E, fun _ _ => rfl, vp2_da, rq_vp2⟩
theorem snd_vp2 : SoundA Try.prog noGlobs (AN 0) (.loop body_vp2) D_vp2.lp := LpD.snd ok_vp2 pf_vp2 (code_sound (Γ := gam12) (K := noK) (L := noLoops) gok12 noK_sound body_vp2 (fun b hb => by rw [show loopsIn body_vp2 = [] by kernel_rfl] at hb; cases hb)) (fun s => by kernel_rfl)
theorem vp2_fin (s : L_vp2) (hE : E_vp2 s) : ∃ s', I_vp2 s' ∧ Q_vp2 (exn_vp2 s) s' (run_vp2 s) := LpD.fin ok_vp2 pf_vp2 s hE
structure L_vp3 where
 r : Bool
 l : List (ByteArray × Int)
 n : Int
 i : Int
 s_Conductors : List (ByteArray × (Int × (Int × (Int × ((Int × Int) × (Int × (Int × (Int × (Int × Int)))))))))
 s_Owners : List ByteArray
 s_Contracts : List (ByteArray × (Int × (Int × Int)))
 s_Chargers : List (ByteArray × (Int × (Int × (Int × (Int × (Int × (Int × Int)))))))
 s_Bays : List (ByteArray × Int)
def A_vp3 (s : L_vp3) : List LV := [.own 0 0, .v (.bool s.r), .xl tBa s.l, .v (.int .i64 s.n), .v (.int .i64 s.i)]
def B_vp3 (s : L_vp3) : List Blk := [⟨[.xl tCd s.s_Conductors, .xl .str s.s_Owners, .xl tKo s.s_Contracts, .xl tCh s.s_Chargers, .xl tBa s.s_Bays], 30, .cl, false⟩]
noncomputable def body_vp3 : Code := ((loopsIn (Try.f57.body.getD .skip))[3]?).getD .skip
def t_vp3 (s : L_vp3) : T (Rd L_vp3) :=
 .br (decide (s.i < s.n)) (.req (0 ≤ s.i ∧ s.i < (List.length s.l : Int)) (.br (!(inB (gBa s.l s.i).2 (0 : Int) (IntKind.i64.wrap ((List.length s.s_Chargers : Int) - 1)))) (.ok (.stop (.ret) { s with r := false })) (.ok (.next { s with i := (IntKind.i64.wrap (s.i + 1)) })))) (.ok (.stop (.exit 6) s))
abbrev f_vp3 (s : L_vp3) := (t_vp3 s).rd s
def G_vp3 (s : L_vp3) (j : Int) : Bool := inB (gBa s.l j).2 0 (IntKind.i64.wrap ((List.length s.s_Chargers : Int) - 1))
def E_vp3 (s : L_vp3) : Prop := s.i = 0 ∧ 0 ≤ s.n ∧ s.n ≤ 1000 ∧ s.n = (s.l.length : Int)
def I_vp3 (s : L_vp3) : Prop := 0 ≤ s.i ∧ s.i ≤ s.n ∧ s.n ≤ 1000 ∧ (s.n = (s.l.length : Int)) ∧ ∀ j : Nat, (j : Int) < s.i → G_vp3 s j = true
def mu_vp3 (s : L_vp3) : Nat := (s.n - s.i).toNat
def Q_vp3 (x : Ex) (_ s' : L_vp3) : Prop := (x = .exit 6 ∧ ∀ j : Nat, (j : Int) < s'.n → G_vp3 s' j = true) ∨ (x = .ret ∧ s'.r = false ∧ ∃ j : Nat, (j : Int) < s'.n ∧ G_vp3 s' j = false)
theorem vp3_E : ∀ s, E_vp3 s → I_vp3 s := by
 intro s h
 obtain ⟨h0, h1, h2, h3⟩ := h
 exact ⟨by omega, by omega, h2, h3, fun j hj => by omega⟩
theorem vp3_da (s : L_vp3) (hI : I_vp3 s) : allR (fun s' => I_vp3 s' ∧ mu_vp3 s' < mu_vp3 s) (fun x s' => Q_vp3 x s s') (f_vp3 s) := by
 unfold f_vp3 t_vp3
 dsimp only [T.rd, T.rl]
 obtain ⟨h0, h1, h2, h3, h4⟩ := hI
 refine allR_ite (fun c1 => allR_ite (fun c2 => ?_) (fun c2 => ?_)) (fun c1 => ?_)
 ·have c1 : s.i < s.n := by simpa using c1
  refine .inr ⟨rfl, rfl, s.i.toNat, by simp only; omega, ?_⟩
  rw [Int.toNat_of_nonneg (by omega)]
  have hg : G_vp3 s s.i = false := by unfold G_vp3; (first | (have c2 : (!(inB (gBa s.l s.i).2 0 (IntKind.i64.wrap ((List.length s.s_Chargers : Int) - 1)))) = false := c2; simpa using c2) | (have c2 : (!(inB (gBa s.l s.i).2 0 (IntKind.i64.wrap ((List.length s.s_Chargers : Int) - 1)))) = true := c2; simpa using c2))
  exact hg
 ·have c1 : s.i < s.n := by simpa using c1
  have hg : G_vp3 s s.i = true := by unfold G_vp3; (first | (have c2 : (!(inB (gBa s.l s.i).2 0 (IntKind.i64.wrap ((List.length s.s_Chargers : Int) - 1)))) = false := c2; simpa using c2) | (have c2 : (!(inB (gBa s.l s.i).2 0 (IntKind.i64.wrap ((List.length s.s_Chargers : Int) - 1)))) = true := c2; simpa using c2))
  rw [wrapS (x := s.i + 1) (by omega) (by omega)]
  refine ⟨⟨by simp only; omega, by simp only; omega, h2, h3, fun j hj => ?_⟩, by simp only [mu_vp3]; omega⟩
  by_cases hji : (j : Int) < s.i
  ·exact h4 j hji
  ·have : (j : Int) = s.i := by simp only at hj; omega
   rw [this]; exact hg
 ·have c1 : s.n ≤ s.i := by simpa using c1
  exact .inl ⟨rfl, fun j hj => h4 j (by omega)⟩
def D_vp3 : LpD L_vp3 := ⟨0, 95, [1, 2, 79, 80, 81], [], A_vp3, B_vp3, fun v b => ⟨gBo (v.getD 1 .junk), gXl tBa (v.getD 2 .junk), gI (v.getD 3 .junk), gI (v.getD 4 .junk), gXl tCd (gCe (gBk b 0) 0), gXl .str (gCe (gBk b 0) 1), gXl tKo (gCe (gBk b 0) 2), gXl tCh (gCe (gBk b 0) 3), gXl tBa (gCe (gBk b 0) 4)⟩, t_vp3, fun s r => { r with l := s.l, n := s.n, s_Conductors := s.s_Conductors, s_Owners := s.s_Owners, s_Contracts := s.s_Contracts, s_Chargers := s.s_Chargers, s_Bays := s.s_Bays }, fun s => s, fun _ s => s, [.ret, .exit 6], E_vp3, I_vp3, mu_vp3⟩
abbrev run_vp3 := D_vp3.run
abbrev exn_vp3 := D_vp3.exn
abbrev E_vp3q := D_vp3.q
theorem rq_vp3 (s : L_vp3) (hI : I_vp3 s) : (t_vp3 s).all (fun _ => True) := by
 refine ⟨fun c1 => ⟨?_, fun _ => trivial, fun _ => trivial⟩, fun _ => trivial⟩
 ·(obtain ⟨h0, h1, h2, h3, h4⟩ := hI; simp at c1; omega)
theorem ok_vp3 : D_vp3.Ok := ⟨fun s => by kernel_rfl, fun s => by kernel_rfl, fun s => rfl, fun s t r => rfl, fun s => rfl, fun s => by kernel_rfl⟩
theorem pf_vp3 : D_vp3.Pf (Q_vp3) := ⟨vp3_E, fun _ _ => rfl, vp3_da, rq_vp3⟩
theorem snd_vp3 : SoundA Try.prog noGlobs (AN 0) (.loop body_vp3) D_vp3.lp := LpD.snd ok_vp3 pf_vp3 (code_sound (Γ := gam12) (K := noK) (L := noLoops) gok12 noK_sound body_vp3 (fun b hb => by rw [show loopsIn body_vp3 = [] by kernel_rfl] at hb; cases hb)) (fun s => by kernel_rfl)
theorem vp3_fin (s : L_vp3) (hE : E_vp3 s) : ∃ s', I_vp3 s' ∧ Q_vp3 (exn_vp3 s) s' (run_vp3 s) := LpD.fin ok_vp3 pf_vp3 s hE
def S0_vpar : List LV → T LV
 | [.agg [.xl (.pair .str (.pair (.int .i64) (.pair (.int .i64) (.pair (.int .i64) (.pair (.pair (.int .i64) (.int .i64)) (.pair (.int .i64) (.pair (.int .i64) (.pair (.int .i64) (.pair (.int .i64) (.int .i64)))))))))) cs, .xl (.str) os, .xl (.pair .str (.pair (.int .i64) (.pair (.int .i64) (.int .i64)))) ks, .xl (.pair .str (.pair (.int .i64) (.pair (.int .i64) (.pair (.int .i64) (.pair (.int .i64) (.pair (.int .i64) (.pair (.int .i64) (.int .i64)))))))) gs, .xl (.pair .str (.int .i64)) bs]] => .req ((List.length cs : Int) ≤ 1000 ∧ (List.length os : Int) ≤ 1000 ∧ (List.length ks : Int) ≤ 1000 ∧ (List.length gs : Int) ≤ 1000 ∧ (List.length bs : Int) ≤ 1000) (.ok (.v (.bool (vpB cs os ks gs bs))))
 | _ => .no
noncomputable def S_vpar : List LV → T LV := upS Try.prog Try.f57.params.toList S0_vpar
theorem nf_vpar (cs : List (ByteArray × (Int × (Int × (Int × ((Int × Int) × (Int × (Int × (Int × (Int × Int)))))))))) (os : List ByteArray) (ks : List (ByteArray × (Int × (Int × Int)))) (gs : List (ByteArray × (Int × (Int × (Int × (Int × (Int × (Int × Int)))))))) (bs : List (ByteArray × Int)) : funu Try.prog noGlobs (gam12) noK (fun i => if i = 2 then D_vp0.lp else if i = 9 then D_vp1.lp else if i = 16 then D_vp2.lp else if i = 22 then D_vp3.lp else noLoops i) Try.f57 [.agg [.xl tCd cs, .xl .str os, .xl tKo ks, .xl tCh gs, .xl tBa bs]] = .req (E_vp0q (⟨false, cs, (List.length cs : Int), (0 : Int), cs, os, ks, gs, bs⟩ : L_vp0)) (.br (isEx (exn_vp0 (⟨false, cs, (List.length cs : Int), (0 : Int), cs, os, ks, gs, bs⟩ : L_vp0)) (.ret)) (.ok (.v (.bool (run_vp0 (⟨false, cs, (List.length cs : Int), (0 : Int), cs, os, ks, gs, bs⟩ : L_vp0)).r))) (.req (E_vp1q (⟨(run_vp0 (⟨false, cs, (List.length cs : Int), (0 : Int), cs, os, ks, gs, bs⟩ : L_vp0)).r, ks, (List.length ks : Int), (0 : Int), cs, os, ks, gs, bs, ([] : List Int)⟩ : L_vp1)) (.br (isEx (exn_vp1 (⟨(run_vp0 (⟨false, cs, (List.length cs : Int), (0 : Int), cs, os, ks, gs, bs⟩ : L_vp0)).r, ks, (List.length ks : Int), (0 : Int), cs, os, ks, gs, bs, ([] : List Int)⟩ : L_vp1)) (.ret)) (.ok (.v (.bool (run_vp1 (⟨(run_vp0 (⟨false, cs, (List.length cs : Int), (0 : Int), cs, os, ks, gs, bs⟩ : L_vp0)).r, ks, (List.length ks : Int), (0 : Int), cs, os, ks, gs, bs, ([] : List Int)⟩ : L_vp1)).r))) (.req (E_vp2q (⟨(run_vp1 (⟨(run_vp0 (⟨false, cs, (List.length cs : Int), (0 : Int), cs, os, ks, gs, bs⟩ : L_vp0)).r, ks, (List.length ks : Int), (0 : Int), cs, os, ks, gs, bs, ([] : List Int)⟩ : L_vp1)).r, gs, (List.length gs : Int), (0 : Int), cs, os, ks, gs, bs⟩ : L_vp2)) (.br (isEx (exn_vp2 (⟨(run_vp1 (⟨(run_vp0 (⟨false, cs, (List.length cs : Int), (0 : Int), cs, os, ks, gs, bs⟩ : L_vp0)).r, ks, (List.length ks : Int), (0 : Int), cs, os, ks, gs, bs, ([] : List Int)⟩ : L_vp1)).r, gs, (List.length gs : Int), (0 : Int), cs, os, ks, gs, bs⟩ : L_vp2)) (.ret)) (.ok (.v (.bool (run_vp2 (⟨(run_vp1 (⟨(run_vp0 (⟨false, cs, (List.length cs : Int), (0 : Int), cs, os, ks, gs, bs⟩ : L_vp0)).r, ks, (List.length ks : Int), (0 : Int), cs, os, ks, gs, bs, ([] : List Int)⟩ : L_vp1)).r, gs, (List.length gs : Int), (0 : Int), cs, os, ks, gs, bs⟩ : L_vp2)).r))) (.req (E_vp3q (⟨(run_vp2 (⟨(run_vp1 (⟨(run_vp0 (⟨false, cs, (List.length cs : Int), (0 : Int), cs, os, ks, gs, bs⟩ : L_vp0)).r, ks, (List.length ks : Int), (0 : Int), cs, os, ks, gs, bs, ([] : List Int)⟩ : L_vp1)).r, gs, (List.length gs : Int), (0 : Int), cs, os, ks, gs, bs⟩ : L_vp2)).r, bs, (List.length bs : Int), (0 : Int), cs, os, ks, gs, bs⟩ : L_vp3)) (.br (isEx (exn_vp3 (⟨(run_vp2 (⟨(run_vp1 (⟨(run_vp0 (⟨false, cs, (List.length cs : Int), (0 : Int), cs, os, ks, gs, bs⟩ : L_vp0)).r, ks, (List.length ks : Int), (0 : Int), cs, os, ks, gs, bs, ([] : List Int)⟩ : L_vp1)).r, gs, (List.length gs : Int), (0 : Int), cs, os, ks, gs, bs⟩ : L_vp2)).r, bs, (List.length bs : Int), (0 : Int), cs, os, ks, gs, bs⟩ : L_vp3)) (.ret)) (.ok (.v (.bool (run_vp3 (⟨(run_vp2 (⟨(run_vp1 (⟨(run_vp0 (⟨false, cs, (List.length cs : Int), (0 : Int), cs, os, ks, gs, bs⟩ : L_vp0)).r, ks, (List.length ks : Int), (0 : Int), cs, os, ks, gs, bs, ([] : List Int)⟩ : L_vp1)).r, gs, (List.length gs : Int), (0 : Int), cs, os, ks, gs, bs⟩ : L_vp2)).r, bs, (List.length bs : Int), (0 : Int), cs, os, ks, gs, bs⟩ : L_vp3)).r))) (.ok (.v (.bool true)))))))))) := by kernel_rfl
theorem v_vpar : Valid Try.prog noGlobs 57 S_vpar := valid_ofu Try.func57 rfl gok12 noK_sound (L := (fun i => if i = 2 then D_vp0.lp else if i = 9 then D_vp1.lp else if i = 16 then D_vp2.lp else if i = 22 then D_vp3.lp else noLoops i)) (fun b hb => by
 rw [show loopsIn _ = [body_vp0, body_vp1, body_vp2, body_vp3] by kernel_rfl] at hb
 simp only [List.mem_cons, List.not_mem_nil, or_false] at hb
 rcases hb with rfl | rfl | rfl | rfl
 ·exact snd_vp0
 ·exact snd_vp1
 ·exact snd_vp2
 ·exact snd_vp3) (fun args lv h => by
 unfold S0_vpar at h
 split at h
 ·simp only [canL, canX]
  rw [nf_vpar]
  rename_i cs os ks gs bs
  obtain ⟨⟨hc, ho, hk, hg, hb⟩, rfl⟩ := h
  refine andI ⟨⟨rfl, by simp only; omega, hc, rfl⟩, rfl, rfl⟩ (fun hE0 => ?_)
  obtain ⟨s', _, hq⟩ := vp0_fin _ hE0.1
  rcases hq with ⟨q1, q2⟩ | ⟨q1, q2, j, q3, q4⟩
  rotate_left
  ·rw [q1, q2]
   refine ⟨fun _ => congrArg (fun z => LV.v (.bool z)) ?_, fun h => by cases h⟩
   unfold vpB
   rw [rgA_no (f := fun j => cdV j (gCd cs j)) j q3 q4]
   rfl
  rw [q1]
  refine ⟨fun h => (by cases h), fun _ => ?_⟩
  have g0 : rgA cs.length (fun j => cdV j (gCd cs j)) = true := rgA_iff.2 q2
  refine andI ⟨⟨rfl, rfl, rfl, hk, ho⟩, rfl, rfl⟩ (fun hE1 => ?_)
  obtain ⟨s', _, hq⟩ := vp1_fin _ hE1.1
  rcases hq with ⟨q1, q2⟩ | ⟨q1, q2, j, q3, q4⟩
  rotate_left
  ·rw [q1, q2]
   refine ⟨fun _ => congrArg (fun z => LV.v (.bool z)) ?_, fun h => by cases h⟩
   unfold vpB
   have hn : (ks.all (koV os.length) && once (ks.map (·.2.2.2))) = false := by
    rw [Bool.eq_false_iff]; intro hx
    have := (keys_iff (d := (emp, 0, 0, 0))).2 hx j q3
    exact Bool.noConfusion (this.symm.trans q4)
   rw [g0, Bool.true_and, ← Bool.and_assoc, hn]
   rfl
  rw [q1]
  refine ⟨fun h => (by cases h), fun _ => ?_⟩
  have g1 : (ks.all (koV os.length) && once (ks.map (·.2.2.2))) = true := (keys_iff (d := (emp, 0, 0, 0))).1 q2
  refine andI ⟨⟨rfl, by simp only; omega, hg, rfl, hc, ho⟩, rfl, rfl⟩ (fun hE2 => ?_)
  obtain ⟨s', _, hq⟩ := vp2_fin _ hE2.1
  rcases hq with ⟨q1, q2⟩ | ⟨q1, q2, j, q3, q4⟩
  rotate_left
  ·rw [q1, q2]
   refine ⟨fun _ => congrArg (fun z => LV.v (.bool z)) ?_, fun h => by cases h⟩
   unfold vpB
   have hn : gs.all (chV cs.length os.length) = false := by
    rw [Bool.eq_false_iff]; intro hx
    have := (all_iff (d := (emp, 0, 0, 0, 0, 0, 0, 0))).2 hx j q3
    exact Bool.noConfusion (this.symm.trans q4)
   rw [g0, Bool.true_and, ← Bool.and_assoc, g1, hn]
   rfl
  rw [q1]
  refine ⟨fun h => (by cases h), fun _ => ?_⟩
  have g2 : gs.all (chV cs.length os.length) = true := (all_iff (d := (emp, 0, 0, 0, 0, 0, 0, 0))).1 q2
  have hw := wrapS (x := (List.length gs : Int) - 1) (by omega) (by omega)
  refine andI ⟨⟨rfl, by simp only; omega, hb, rfl⟩, rfl, rfl⟩ (fun hE3 => ?_)
  obtain ⟨s', _, hq⟩ := vp3_fin _ hE3.1
  rcases hq with ⟨q1, q2⟩ | ⟨q1, q2, j, q3, q4⟩
  rotate_left
  ·rw [q1, q2]
   refine ⟨fun _ => congrArg (fun z => LV.v (.bool z)) ?_, fun h => by cases h⟩
   unfold vpB
   have hn : bs.all (fun b => inB b.2 0 ((gs.length : Int) - 1)) = false := by
    rw [Bool.eq_false_iff]; intro hx
    have := (all_iff (d := (emp, 0))).2 hx j q3
    have q4 : inB (gBa bs j).2 0 (IntKind.i64.wrap ((List.length gs : Int) - 1)) = false := q4
    rw [hw] at q4
    exact Bool.noConfusion (this.symm.trans q4)
   rw [g0, Bool.true_and, ← Bool.and_assoc, g1, g2, hn]
   rfl
  rw [q1]
  refine ⟨fun h => (by cases h), fun _ => ?_⟩
  have g3 : bs.all (fun b => inB b.2 0 ((gs.length : Int) - 1)) = true := (all_iff (d := (emp, 0))).1 (fun j hj => by
   have : inB (gBa bs j).2 0 (IntKind.i64.wrap ((List.length gs : Int) - 1)) = true := q2 j hj
   rw [hw] at this
   exact this)
  refine congrArg (fun z => LV.v (.bool z)) ?_
  unfold vpB
  rw [g0, Bool.true_and, ← Bool.and_assoc, g1, g2, g3]
  rfl
 ·cases h)
end Go.Proofs.Ytihbikkkmoaljaa
