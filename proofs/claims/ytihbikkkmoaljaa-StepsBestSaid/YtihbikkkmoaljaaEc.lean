/- The reference: valid sites. -/
import Derived.Test.YtihbikkkmoaljaaEb
namespace Go.Proofs.Ytihbikkkmoaljaa
open Go.Sx
structure L_rv0 where
 r : Bool
 i : Int
 s_Conductors : List (ByteArray × (Int × (Int × (Int × ((Int × Int) × (Int × (Int × (Int × (Int × Int)))))))))
 s_Owners : List ByteArray
 s_Contracts : List (ByteArray × (Int × (Int × Int)))
 s_Chargers : List (ByteArray × (Int × (Int × (Int × (Int × (Int × (Int × Int)))))))
 s_Bays : List (ByteArray × Int)
def A_rv0 (s : L_rv0) : List LV := [.own 0 0, .v (.bool s.r), .v (.int .i64 s.i)]
def B_rv0 (s : L_rv0) : List Blk := [⟨[.xl tCd s.s_Conductors, .xl .str s.s_Owners, .xl tKo s.s_Contracts, .xl tCh s.s_Chargers, .xl tBa s.s_Bays], 30, .cl, false⟩]
noncomputable def body_rv0 : Code := ((loopsIn (Try.f39.body.getD .skip))[0]?).getD .skip
def t_rv0 (s : L_rv0) : T (Rd L_rv0) :=
 .br (decide (s.i < (List.length s.s_Conductors : Int))) (.req (0 ≤ s.i ∧ s.i < (List.length s.s_Conductors : Int)) (.req (0 ≤ s.i ∧ s.i ≤ 1000) (.br (!(cdV s.i (gCd s.s_Conductors s.i))) (.ok (.stop (.ret) { s with r := false })) (.ok (.next { s with i := (IntKind.i64.wrap (s.i + 1)) }))))) (.ok (.stop (.exit 0) s))
abbrev f_rv0 (s : L_rv0) := (t_rv0 s).rd s
def G_rv0 (s : L_rv0) (j : Int) : Bool := cdV j (gCd s.s_Conductors j)
def E_rv0 (s : L_rv0) : Prop := s.i = 0 ∧ 0 ≤ (List.length s.s_Conductors : Int) ∧ (List.length s.s_Conductors : Int) ≤ 1000 ∧ True
def I_rv0 (s : L_rv0) : Prop := 0 ≤ s.i ∧ s.i ≤ (List.length s.s_Conductors : Int) ∧ (List.length s.s_Conductors : Int) ≤ 1000 ∧ (True) ∧ ∀ j : Nat, (j : Int) < s.i → G_rv0 s j = true
def mu_rv0 (s : L_rv0) : Nat := ((List.length s.s_Conductors : Int) - s.i).toNat
def Q_rv0 (x : Ex) (_ s' : L_rv0) : Prop := (x = .exit 0 ∧ ∀ j : Nat, (j : Int) < (List.length s'.s_Conductors : Int) → G_rv0 s' j = true) ∨ (x = .ret ∧ s'.r = false ∧ ∃ j : Nat, (j : Int) < (List.length s'.s_Conductors : Int) ∧ G_rv0 s' j = false)
theorem rv0_E : ∀ s, E_rv0 s → I_rv0 s := by
 intro s h
 obtain ⟨h0, h1, h2, h3⟩ := h
 exact ⟨by omega, by omega, h2, h3, fun j hj => by omega⟩
theorem rv0_da (s : L_rv0) (hI : I_rv0 s) : allR (fun s' => I_rv0 s' ∧ mu_rv0 s' < mu_rv0 s) (fun x s' => Q_rv0 x s s') (f_rv0 s) := by
 unfold f_rv0 t_rv0
 dsimp only [T.rd, T.rl]
 obtain ⟨h0, h1, h2, h3, h4⟩ := hI
 refine allR_ite (fun c1 => allR_ite (fun c2 => ?_) (fun c2 => ?_)) (fun c1 => ?_)
 ·have c1 : s.i < (List.length s.s_Conductors : Int) := by simpa using c1
  refine .inr ⟨rfl, rfl, s.i.toNat, by simp only; omega, ?_⟩
  rw [Int.toNat_of_nonneg (by omega)]
  have hg : G_rv0 s s.i = false := by unfold G_rv0; (first | (have c2 : (!(cdV s.i (gCd s.s_Conductors s.i))) = false := c2; simpa using c2) | (have c2 : (!(cdV s.i (gCd s.s_Conductors s.i))) = true := c2; simpa using c2))
  exact hg
 ·have c1 : s.i < (List.length s.s_Conductors : Int) := by simpa using c1
  have hg : G_rv0 s s.i = true := by unfold G_rv0; (first | (have c2 : (!(cdV s.i (gCd s.s_Conductors s.i))) = false := c2; simpa using c2) | (have c2 : (!(cdV s.i (gCd s.s_Conductors s.i))) = true := c2; simpa using c2))
  rw [wrapS (x := s.i + 1) (by omega) (by omega)]
  refine ⟨⟨by simp only; omega, by simp only; omega, h2, h3, fun j hj => ?_⟩, by simp only [mu_rv0]; omega⟩
  by_cases hji : (j : Int) < s.i
  ·exact h4 j hji
  ·have : (j : Int) = s.i := by simp only at hj; omega
   rw [this]; exact hg
 ·have c1 : (List.length s.s_Conductors : Int) ≤ s.i := by simpa using c1
  exact .inl ⟨rfl, fun j hj => h4 j (by omega)⟩
def D_rv0 : LpD L_rv0 := ⟨0, 159, [1, 2, 3], [], A_rv0, B_rv0, fun v b => ⟨gBo (v.getD 1 .junk), gI (v.getD 2 .junk), gXl tCd (gCe (gBk b 0) 0), gXl .str (gCe (gBk b 0) 1), gXl tKo (gCe (gBk b 0) 2), gXl tCh (gCe (gBk b 0) 3), gXl tBa (gCe (gBk b 0) 4)⟩, t_rv0, fun s r => { r with s_Conductors := s.s_Conductors, s_Owners := s.s_Owners, s_Contracts := s.s_Contracts, s_Chargers := s.s_Chargers, s_Bays := s.s_Bays }, fun s => s, fun _ s => s, [.ret, .exit 0], E_rv0, I_rv0, mu_rv0⟩
abbrev run_rv0 := D_rv0.run
abbrev exn_rv0 := D_rv0.exn
abbrev E_rv0q := D_rv0.q
theorem rq_rv0 (s : L_rv0) (hI : I_rv0 s) : (t_rv0 s).all (fun _ => True) := by
 refine ⟨fun c1 => ⟨?_, ?_, fun _ => trivial, fun _ => trivial⟩, fun _ => trivial⟩
 all_goals ((obtain ⟨h0, h1, h2, h3, h4⟩ := hI; simp at c1; omega))
noncomputable def gam49 : Specs := specsOf [(51, S_rins), (52, S_rnms), (53, S_rcon), (54, S_rcha)]
theorem gok49 : ∀ g S, gam49 g = some S → Valid Try.prog noGlobs g S := specs_ok (l := [(51, S_rins), (52, S_rnms), (53, S_rcon), (54, S_rcha)]) ⟨v_rins, v_rnms, v_rcon, v_rcha, trivial⟩
theorem ok_rv0 : D_rv0.Ok := ⟨fun s => by kernel_rfl, fun s => by kernel_rfl, fun s => rfl, fun s t r => rfl, fun s => rfl, fun s => by kernel_rfl⟩
theorem pf_rv0 : D_rv0.Pf (Q_rv0) := ⟨rv0_E, fun _ _ => rfl, rv0_da, rq_rv0⟩
theorem snd_rv0 : SoundA Try.prog noGlobs (AN 0) (.loop body_rv0) D_rv0.lp := LpD.snd ok_rv0 pf_rv0 (code_sound (Γ := gam49) (K := noK) (L := noLoops) gok49 noK_sound body_rv0 (fun b hb => by rw [show loopsIn body_rv0 = [] by kernel_rfl] at hb; cases hb)) (fun s => by kernel_rfl)
theorem rv0_fin (s : L_rv0) (hE : E_rv0 s) : ∃ s', I_rv0 s' ∧ Q_rv0 (exn_rv0 s) s' (run_rv0 s) := LpD.fin ok_rv0 pf_rv0 s hE
structure L_rvk where
 r : Bool
 i : Int
 k : Int
 s_Conductors : List (ByteArray × (Int × (Int × (Int × ((Int × Int) × (Int × (Int × (Int × (Int × Int)))))))))
 s_Owners : List ByteArray
 s_Contracts : List (ByteArray × (Int × (Int × Int)))
 s_Chargers : List (ByteArray × (Int × (Int × (Int × (Int × (Int × (Int × Int)))))))
 s_Bays : List (ByteArray × Int)
 c_Name : ByteArray
 c_Owner : Int
 c_Rank : Int
 c_Card : Int
def A_rvk (s : L_rvk) : List LV := [.own 0 0, .v (.bool s.r), .v (.int .i64 s.i), .own 1 0, .v (.int .i64 s.k)]
def B_rvk (s : L_rvk) : List Blk := [⟨[.xl tCd s.s_Conductors, .xl .str s.s_Owners, .xl tKo s.s_Contracts, .xl tCh s.s_Chargers, .xl tBa s.s_Bays], 30, .cl, false⟩, ⟨[.v (.string s.c_Name), .v (.int .i64 s.c_Owner), .v (.int .i64 s.c_Rank), .v (.int .i64 s.c_Card)], 91, .cl, false⟩]
noncomputable def body_rvk : Code := ((loopsIn (((loopsIn (Try.f39.body.getD .skip))[1]?).getD .skip))[0]?).getD .skip
def t_rvk (s : L_rvk) : T (Rd L_rvk) :=
 .br (decide (s.k < s.i)) (.req (0 ≤ s.k ∧ s.k < (List.length s.s_Contracts : Int)) (.br ((gKo s.s_Contracts s.k).2.2.2 == s.c_Card) (.ok (.stop (.ret) { s with r := false })) (.ok (.next { s with k := (IntKind.i64.wrap (s.k + 1)) })))) (.ok (.stop (.exit 4) s))
abbrev f_rvk (s : L_rvk) := (t_rvk s).rd s
def G_rvk (s : L_rvk) (j : Int) : Bool := !((gKo s.s_Contracts j).2.2.2 == s.c_Card)
def E_rvk (s : L_rvk) : Prop := s.k = 0 ∧ 0 ≤ s.i ∧ s.i ≤ 1000 ∧ s.i ≤ (List.length s.s_Contracts : Int)
def I_rvk (s : L_rvk) : Prop := 0 ≤ s.k ∧ s.k ≤ s.i ∧ s.i ≤ 1000 ∧ (s.i ≤ (List.length s.s_Contracts : Int)) ∧ ∀ j : Nat, (j : Int) < s.k → G_rvk s j = true
def mu_rvk (s : L_rvk) : Nat := (s.i - s.k).toNat
def Q_rvk (x : Ex) (_ s' : L_rvk) : Prop := (x = .exit 4 ∧ ∀ j : Nat, (j : Int) < s'.i → G_rvk s' j = true) ∨ (x = .ret ∧ s'.r = false ∧ ∃ j : Nat, (j : Int) < s'.i ∧ G_rvk s' j = false)
theorem rvk_E : ∀ s, E_rvk s → I_rvk s := by
 intro s h
 obtain ⟨h0, h1, h2, h3⟩ := h
 exact ⟨by omega, by omega, h2, h3, fun j hj => by omega⟩
theorem rvk_da (s : L_rvk) (hI : I_rvk s) : allR (fun s' => I_rvk s' ∧ mu_rvk s' < mu_rvk s) (fun x s' => Q_rvk x s s') (f_rvk s) := by
 unfold f_rvk t_rvk
 dsimp only [T.rd, T.rl]
 obtain ⟨h0, h1, h2, h3, h4⟩ := hI
 refine allR_ite (fun c1 => allR_ite (fun c2 => ?_) (fun c2 => ?_)) (fun c1 => ?_)
 ·have c1 : s.k < s.i := by simpa using c1
  refine .inr ⟨rfl, rfl, s.k.toNat, by simp only; omega, ?_⟩
  rw [Int.toNat_of_nonneg (by omega)]
  have hg : G_rvk s s.k = false := by unfold G_rvk; (simpa using c2)
  exact hg
 ·have c1 : s.k < s.i := by simpa using c1
  have hg : G_rvk s s.k = true := by unfold G_rvk; (simpa using c2)
  rw [wrapS (x := s.k + 1) (by omega) (by omega)]
  refine ⟨⟨by simp only; omega, by simp only; omega, h2, h3, fun j hj => ?_⟩, by simp only [mu_rvk]; omega⟩
  by_cases hji : (j : Int) < s.k
  ·exact h4 j hji
  ·have : (j : Int) = s.k := by simp only at hj; omega
   rw [this]; exact hg
 ·have c1 : s.i ≤ s.k := by simpa using c1
  exact .inl ⟨rfl, fun j hj => h4 j (by omega)⟩
def D_rvk : LpD L_rvk := ⟨0, 159, [1, 2, 4, 5, 6], [], A_rvk, B_rvk, fun v b => ⟨gBo (v.getD 1 .junk), gI (v.getD 2 .junk), gI (v.getD 4 .junk), gXl tCd (gCe (gBk b 0) 0), gXl .str (gCe (gBk b 0) 1), gXl tKo (gCe (gBk b 0) 2), gXl tCh (gCe (gBk b 0) 3), gXl tBa (gCe (gBk b 0) 4), gSr (gCe (gBk b 1) 0), gI (gCe (gBk b 1) 1), gI (gCe (gBk b 1) 2), gI (gCe (gBk b 1) 3)⟩, t_rvk, fun s r => { r with i := s.i, s_Conductors := s.s_Conductors, s_Owners := s.s_Owners, s_Contracts := s.s_Contracts, s_Chargers := s.s_Chargers, s_Bays := s.s_Bays, c_Name := s.c_Name, c_Owner := s.c_Owner, c_Rank := s.c_Rank, c_Card := s.c_Card }, fun s => s, fun _ s => s, [.ret, .exit 4], E_rvk, I_rvk, mu_rvk⟩
abbrev run_rvk := D_rvk.run
abbrev exn_rvk := D_rvk.exn
abbrev E_rvkq := D_rvk.q
theorem rq_rvk (s : L_rvk) (hI : I_rvk s) : (t_rvk s).all (fun _ => True) := by
 refine ⟨fun c1 => ⟨?_, fun _ => trivial, fun _ => trivial⟩, fun _ => trivial⟩
 ·(obtain ⟨h0, h1, h2, h3, h4⟩ := hI; simp at c1; omega)
theorem ok_rvk : D_rvk.Ok := ⟨fun s => by kernel_rfl, fun s => by kernel_rfl, fun s => rfl, fun s t r => rfl, fun s => rfl, fun s => by kernel_rfl⟩
theorem pf_rvk : D_rvk.Pf (Q_rvk) := ⟨rvk_E, fun _ _ => rfl, rvk_da, rq_rvk⟩
theorem snd_rvk : SoundA Try.prog noGlobs (AN 0) (.loop body_rvk) D_rvk.lp := LpD.snd ok_rvk pf_rvk (code_sound (Γ := gam49) (K := noK) (L := noLoops) gok49 noK_sound body_rvk (fun b hb => by rw [show loopsIn body_rvk = [] by kernel_rfl] at hb; cases hb)) (fun s => by kernel_rfl)
theorem rvk_fin (s : L_rvk) (hE : E_rvk s) : ∃ s', I_rvk s' ∧ Q_rvk (exn_rvk s) s' (run_rvk s) := LpD.fin ok_rvk pf_rvk s hE
theorem rvk_res (s : L_rvk) (hE : E_rvk s) : (exn_rvk s = .exit 4 ∧ ((s.s_Contracts.take s.i.toNat).map (·.2.2.2)).contains s.c_Card = false) ∨ (exn_rvk s = .ret ∧ (run_rvk s).r = false ∧ ((s.s_Contracts.take s.i.toNat).map (·.2.2.2)).contains s.c_Card = true) := by
 obtain ⟨s', _, hq⟩ := rvk_fin s hE
 obtain ⟨h0, h1, h2, h3⟩ := hE
 have hc := take_card (c := s.c_Card) h1 h3
 rcases hq with ⟨q1, q2⟩ | ⟨q1, q2, j, q3, q4⟩
 ·refine .inl ⟨q1, ?_⟩
  rw [Bool.eq_false_iff, ne_eq, hc]
  rintro ⟨j, hj, e⟩
  have : (!((gKo s.s_Contracts j).2.2.2 == s.c_Card)) = true := q2 j hj
  rw [e] at this
  simp at this
 ·refine .inr ⟨q1, q2, hc.2 ⟨j, q3, ?_⟩⟩
  have q4 : (!((gKo s.s_Contracts j).2.2.2 == s.c_Card)) = false := q4
  simpa using q4
structure L_rv1 where
 r : Bool
 i : Int
 s_Conductors : List (ByteArray × (Int × (Int × (Int × ((Int × Int) × (Int × (Int × (Int × (Int × Int)))))))))
 s_Owners : List ByteArray
 s_Contracts : List (ByteArray × (Int × (Int × Int)))
 s_Chargers : List (ByteArray × (Int × (Int × (Int × (Int × (Int × (Int × Int)))))))
 s_Bays : List (ByteArray × Int)
def A_rv1 (s : L_rv1) : List LV := [.own 0 0, .v (.bool s.r), .v (.int .i64 s.i)]
def B_rv1 (s : L_rv1) : List Blk := [⟨[.xl tCd s.s_Conductors, .xl .str s.s_Owners, .xl tKo s.s_Contracts, .xl tCh s.s_Chargers, .xl tBa s.s_Bays], 30, .cl, false⟩]
noncomputable def body_rv1 : Code := ((loopsIn (Try.f39.body.getD .skip))[1]?).getD .skip
def st7_rvk (s : L_rv1) : L_rvk := (⟨s.r, s.i, (0 : Int), s.s_Conductors, s.s_Owners, s.s_Contracts, s.s_Chargers, s.s_Bays, (gKo s.s_Contracts s.i).1, (gKo s.s_Contracts s.i).2.1, (gKo s.s_Contracts s.i).2.2.1, (gKo s.s_Contracts s.i).2.2.2⟩ : L_rvk)
def t_rv1 (s : L_rv1) : T (Rd L_rv1) :=
 .br (decide (s.i < (List.length s.s_Contracts : Int))) (.req (0 ≤ s.i ∧ s.i < (List.length s.s_Contracts : Int)) (.br ((!(inB (gKo s.s_Contracts s.i).2.1 (0 : Int) (IntKind.i64.wrap ((List.length s.s_Owners : Int) - 1)))) || ((!(inB (gKo s.s_Contracts s.i).2.2.1 (1 : Int) (9 : Int))) || (!(inB (gKo s.s_Contracts s.i).2.2.2 (1 : Int) (1000000 : Int))))) (.ok (.stop (.ret) { s with r := false })) (.req (E_rvkq (st7_rvk s)) (.br (isEx (exn_rvk (st7_rvk s)) (.ret)) (.ok (.stop (.ret) { s with r := (run_rvk (st7_rvk s)).r })) (.ok (.next { s with r := (run_rvk (st7_rvk s)).r, i := (IntKind.i64.wrap (s.i + 1)) })))))) (.ok (.stop (.exit 2) s))
abbrev f_rv1 (s : L_rv1) := (t_rv1 s).rd s
def G_rv1 (s : L_rv1) (j : Int) : Bool := koV (List.length s.s_Owners : Int) (gKo s.s_Contracts j) && !(((s.s_Contracts.take j.toNat).map (·.2.2.2)).contains (gKo s.s_Contracts j).2.2.2)
def E_rv1 (s : L_rv1) : Prop := s.i = 0 ∧ (List.length s.s_Contracts : Int) ≤ 1000 ∧ (List.length s.s_Owners : Int) ≤ 1000
def I_rv1 (s : L_rv1) : Prop := (0 ≤ s.i ∧ s.i ≤ (List.length s.s_Contracts : Int)) ∧ (∀ j : Nat, (j : Int) < s.i → G_rv1 s j = true) ∧ (List.length s.s_Contracts : Int) ≤ 1000 ∧ (List.length s.s_Owners : Int) ≤ 1000
def mu_rv1 (s : L_rv1) : Nat := ((List.length s.s_Contracts : Int) - s.i).toNat
def Q_rv1 (x : Ex) (_ s' : L_rv1) : Prop := (x = .exit 2 ∧ ∀ j : Nat, (j : Int) < (List.length s'.s_Contracts : Int) → G_rv1 s' j = true) ∨ (x = .ret ∧ s'.r = false ∧ ∃ j : Nat, (j : Int) < (List.length s'.s_Contracts : Int) ∧ G_rv1 s' j = false)
theorem rv1_E : ∀ s, E_rv1 s → I_rv1 s := by
 intro s h
 obtain ⟨h0, h1, h2⟩ := h
 exact ⟨by omega, fun j hj => by omega, h1, h2⟩
theorem rv1_in (s : L_rv1) (hI : I_rv1 s) (c1 : s.i < (List.length s.s_Contracts : Int)) : E_rvk (st7_rvk s) := by
 obtain ⟨⟨h0, h1⟩, h2, h3, h4⟩ := hI
 exact ⟨rfl, h0, by show s.i ≤ 1000; omega, h1⟩
theorem rv1_da (s : L_rv1) (hI : I_rv1 s) : allR (fun s' => I_rv1 s' ∧ mu_rv1 s' < mu_rv1 s) (fun x s' => Q_rv1 x s s') (f_rv1 s) := by
 unfold f_rv1 t_rv1
 dsimp only [T.rd, T.rl]
 have hin := fun c1 => rv1_in s hI c1
 obtain ⟨⟨h0, h1⟩, h2, h3, h4⟩ := hI
 refine allR_ite (fun c1 => ?_) (fun c1 => ?_)
 rotate_left
 ·have c1 : (List.length s.s_Contracts : Int) ≤ s.i := by simpa using c1
  exact .inl ⟨rfl, fun j hj => h2 j (by omega)⟩
 have c1 : s.i < (List.length s.s_Contracts : Int) := by simpa using c1
 have bad : ∀ s2 : L_rv1, s2.r = false → s2.s_Contracts = s.s_Contracts → s2.s_Owners = s.s_Owners → G_rv1 s s.i = false → Q_rv1 .ret s s2 := fun s2 e1 e2 e3 hg => .inr ⟨rfl, e1, s.i.toNat, by rw [e2]; omega, by
  unfold G_rv1 at hg ⊢
  rw [Int.toNat_of_nonneg h0, e2, e3]
  exact hg⟩
 rw [wrapS (x := (List.length s.s_Owners : Int) - 1) (by omega) (by omega)]
 have hk := rvk_res _ (hin c1)
 have hk : (exn_rvk (st7_rvk s) = .exit 4 ∧ ((s.s_Contracts.take s.i.toNat).map (·.2.2.2)).contains (gKo s.s_Contracts s.i).2.2.2 = false) ∨ (exn_rvk (st7_rvk s) = .ret ∧ (run_rvk (st7_rvk s)).r = false ∧ ((s.s_Contracts.take s.i.toNat).map (·.2.2.2)).contains (gKo s.s_Contracts s.i).2.2.2 = true) := hk
 have hg : G_rv1 s s.i = (koV (List.length s.s_Owners : Int) (gKo s.s_Contracts s.i) && !(((s.s_Contracts.take s.i.toNat).map (·.2.2.2)).contains (gKo s.s_Contracts s.i).2.2.2)) := rfl
 have hkv : koV (List.length s.s_Owners : Int) (gKo s.s_Contracts s.i) = (inB (gKo s.s_Contracts s.i).2.1 0 ((List.length s.s_Owners : Int) - 1) && (inB (gKo s.s_Contracts s.i).2.2.1 1 9 && inB (gKo s.s_Contracts s.i).2.2.2 1 1000000)) := rfl
 refine allR_ite (fun c2 => bad _ rfl rfl rfl ?_) (fun c2 => ?_)
 ·rw [hg, hkv]
  revert c2
  generalize inB (gKo s.s_Contracts s.i).2.1 _ _ = a
  generalize inB (gKo s.s_Contracts s.i).2.2.1 _ _ = b
  generalize inB (gKo s.s_Contracts s.i).2.2.2 _ _ = c
  cases a <;> cases b <;> cases c <;> simp
 have hkt : koV (List.length s.s_Owners : Int) (gKo s.s_Contracts s.i) = true := by
  rw [hkv]
  revert c2
  generalize inB (gKo s.s_Contracts s.i).2.1 _ _ = a
  generalize inB (gKo s.s_Contracts s.i).2.2.1 _ _ = b
  generalize inB (gKo s.s_Contracts s.i).2.2.2 _ _ = c
  cases a <;> cases b <;> cases c <;> simp
 rw [hkt, Bool.true_and] at hg
 rcases hk with ⟨q1, q2⟩ | ⟨q1, q2, q3⟩
 ·rw [q1]
  refine allR_ite (fun c3 => by cases c3) (fun _ => ?_)
  rw [wrapS (x := s.i + 1) (by omega) (by omega)]
  rw [q2] at hg
  refine ⟨⟨⟨by simp only; omega, by simp only; omega⟩, fun j hj => ?_, h3, h4⟩, by simp only [mu_rv1]; omega⟩
  by_cases hji : (j : Int) < s.i
  ·exact h2 j hji
  ·have : (j : Int) = s.i := by simp only at hj; omega
   rw [this]; exact hg
 ·rw [q1]
  refine allR_ite (fun _ => bad _ q2 rfl rfl ?_) (fun c3 => by cases c3)
  rw [hg, q3]
  rfl
def D_rv1 : LpD L_rv1 := ⟨0, 159, [1, 2, 4], [], A_rv1, B_rv1, fun v b => ⟨gBo (v.getD 1 .junk), gI (v.getD 2 .junk), gXl tCd (gCe (gBk b 0) 0), gXl .str (gCe (gBk b 0) 1), gXl tKo (gCe (gBk b 0) 2), gXl tCh (gCe (gBk b 0) 3), gXl tBa (gCe (gBk b 0) 4)⟩, t_rv1, fun s r => { r with s_Conductors := s.s_Conductors, s_Owners := s.s_Owners, s_Contracts := s.s_Contracts, s_Chargers := s.s_Chargers, s_Bays := s.s_Bays }, fun s => s, fun _ s => s, [.ret, .exit 2], E_rv1, I_rv1, mu_rv1⟩
abbrev run_rv1 := D_rv1.run
abbrev exn_rv1 := D_rv1.exn
abbrev E_rv1q := D_rv1.q
theorem rq_rv1 (s : L_rv1) (hI : I_rv1 s) : (t_rv1 s).all (fun _ => True) := by
 refine ⟨fun c1 => ⟨?_, fun _ => trivial, fun c2 => ⟨?_, fun _ => trivial, fun _ => trivial⟩⟩, fun _ => trivial⟩
 ·(obtain ⟨⟨h0, h1⟩, h2, h3, h4⟩ := hI; simp only [decide_eq_true_eq] at c1; omega)
 ·exact ⟨rv1_in s hI (by simpa using c1), rfl, rfl⟩
theorem ok_rv1 : D_rv1.Ok := ⟨fun s => by kernel_rfl, fun s => by kernel_rfl, fun s => rfl, fun s t r => rfl, fun s => rfl, fun s => by kernel_rfl⟩
theorem pf_rv1 : D_rv1.Pf (Q_rv1) := ⟨rv1_E, fun _ _ => rfl, rv1_da, rq_rv1⟩
theorem snd_rv1 : SoundA Try.prog noGlobs (AN 0) (.loop body_rv1) D_rv1.lp := LpD.snd ok_rv1 pf_rv1 (code_sound (Γ := gam49) (K := noK) (L := (fun i => if i = 15 then D_rvk.lp else noLoops i)) gok49 noK_sound body_rv1 (fun b hb => by
 rw [show loopsIn _ = [body_rvk] by kernel_rfl] at hb
 simp only [List.mem_cons, List.not_mem_nil, or_false] at hb
 subst hb
 exact snd_rvk)) (fun s => by kernel_rfl)
theorem rv1_fin (s : L_rv1) (hE : E_rv1 s) : ∃ s', I_rv1 s' ∧ Q_rv1 (exn_rv1 s) s' (run_rv1 s) := LpD.fin ok_rv1 pf_rv1 s hE
structure L_rv2 where
 r : Bool
 i : Int
 s_Conductors : List (ByteArray × (Int × (Int × (Int × ((Int × Int) × (Int × (Int × (Int × (Int × Int)))))))))
 s_Owners : List ByteArray
 s_Contracts : List (ByteArray × (Int × (Int × Int)))
 s_Chargers : List (ByteArray × (Int × (Int × (Int × (Int × (Int × (Int × Int)))))))
 s_Bays : List (ByteArray × Int)
def A_rv2 (s : L_rv2) : List LV := [.own 0 0, .v (.bool s.r), .v (.int .i64 s.i)]
def B_rv2 (s : L_rv2) : List Blk := [⟨[.xl tCd s.s_Conductors, .xl .str s.s_Owners, .xl tKo s.s_Contracts, .xl tCh s.s_Chargers, .xl tBa s.s_Bays], 30, .cl, false⟩]
noncomputable def body_rv2 : Code := ((loopsIn (Try.f39.body.getD .skip))[2]?).getD .skip
def t_rv2 (s : L_rv2) : T (Rd L_rv2) :=
 .br (decide (s.i < (List.length s.s_Chargers : Int))) (.req (0 ≤ s.i ∧ s.i < (List.length s.s_Chargers : Int)) (.br ((!(chW (gCh s.s_Chargers s.i))) || ((!(inB (gCh s.s_Chargers s.i).2.1 (0 : Int) (IntKind.i64.wrap ((List.length s.s_Conductors : Int) - 1)))) || (!(inB (gCh s.s_Chargers s.i).2.2.2.2.2.2.2 (0 : Int) (IntKind.i64.wrap ((List.length s.s_Owners : Int) - 1)))))) (.ok (.stop (.ret) { s with r := false })) (.ok (.next { s with i := (IntKind.i64.wrap (s.i + 1)) })))) (.ok (.stop (.exit 6) s))
abbrev f_rv2 (s : L_rv2) := (t_rv2 s).rd s
def G_rv2 (s : L_rv2) (j : Int) : Bool := chV s.s_Conductors.length s.s_Owners.length (gCh s.s_Chargers j)
def E_rv2 (s : L_rv2) : Prop := s.i = 0 ∧ 0 ≤ (List.length s.s_Chargers : Int) ∧ (List.length s.s_Chargers : Int) ≤ 1000 ∧ (s.s_Conductors.length : Int) ≤ 1000 ∧ (s.s_Owners.length : Int) ≤ 1000
def I_rv2 (s : L_rv2) : Prop := 0 ≤ s.i ∧ s.i ≤ (List.length s.s_Chargers : Int) ∧ (List.length s.s_Chargers : Int) ≤ 1000 ∧ ((s.s_Conductors.length : Int) ≤ 1000 ∧ (s.s_Owners.length : Int) ≤ 1000) ∧ ∀ j : Nat, (j : Int) < s.i → G_rv2 s j = true
def mu_rv2 (s : L_rv2) : Nat := ((List.length s.s_Chargers : Int) - s.i).toNat
def Q_rv2 (x : Ex) (_ s' : L_rv2) : Prop := (x = .exit 6 ∧ ∀ j : Nat, (j : Int) < (List.length s'.s_Chargers : Int) → G_rv2 s' j = true) ∨ (x = .ret ∧ s'.r = false ∧ ∃ j : Nat, (j : Int) < (List.length s'.s_Chargers : Int) ∧ G_rv2 s' j = false)
theorem rv2_E : ∀ s, E_rv2 s → I_rv2 s := by
 intro s h
 obtain ⟨h0, h1, h2, h3⟩ := h
 exact ⟨by omega, by omega, h2, h3, fun j hj => by omega⟩
theorem rv2_da (s : L_rv2) (hI : I_rv2 s) : allR (fun s' => I_rv2 s' ∧ mu_rv2 s' < mu_rv2 s) (fun x s' => Q_rv2 x s s') (f_rv2 s) := by
 unfold f_rv2 t_rv2
 dsimp only [T.rd, T.rl]
 obtain ⟨h0, h1, h2, h3, h4⟩ := hI
 refine allR_ite (fun c1 => allR_ite (fun c2 => ?_) (fun c2 => ?_)) (fun c1 => ?_)
 ·have c1 : s.i < (List.length s.s_Chargers : Int) := by simpa using c1
  refine .inr ⟨rfl, rfl, s.i.toNat, by simp only; omega, ?_⟩
  rw [Int.toNat_of_nonneg (by omega)]
  have hg : G_rv2 s s.i = false := by unfold G_rv2; (obtain ⟨e1, e2⟩ := h3; rw [wrapS (x := (List.length s.s_Conductors : Int) - 1) (by omega) (by omega), wrapS (x := (List.length s.s_Owners : Int) - 1) (by omega) (by omega)] at c2; unfold chV; revert c2; generalize chW (gCh s.s_Chargers s.i) = a; generalize inB (gCh s.s_Chargers s.i).2.1 _ _ = b; generalize inB (gCh s.s_Chargers s.i).2.2.2.2.2.2.2 _ _ = c; cases a <;> cases b <;> cases c <;> simp)
  exact hg
 ·have c1 : s.i < (List.length s.s_Chargers : Int) := by simpa using c1
  have hg : G_rv2 s s.i = true := by unfold G_rv2; (obtain ⟨e1, e2⟩ := h3; rw [wrapS (x := (List.length s.s_Conductors : Int) - 1) (by omega) (by omega), wrapS (x := (List.length s.s_Owners : Int) - 1) (by omega) (by omega)] at c2; unfold chV; revert c2; generalize chW (gCh s.s_Chargers s.i) = a; generalize inB (gCh s.s_Chargers s.i).2.1 _ _ = b; generalize inB (gCh s.s_Chargers s.i).2.2.2.2.2.2.2 _ _ = c; cases a <;> cases b <;> cases c <;> simp)
  rw [wrapS (x := s.i + 1) (by omega) (by omega)]
  refine ⟨⟨by simp only; omega, by simp only; omega, h2, h3, fun j hj => ?_⟩, by simp only [mu_rv2]; omega⟩
  by_cases hji : (j : Int) < s.i
  ·exact h4 j hji
  ·have : (j : Int) = s.i := by simp only at hj; omega
   rw [this]; exact hg
 ·have c1 : (List.length s.s_Chargers : Int) ≤ s.i := by simpa using c1
  exact .inl ⟨rfl, fun j hj => h4 j (by omega)⟩
def D_rv2 : LpD L_rv2 := ⟨0, 159, [1, 2, 7], [], A_rv2, B_rv2, fun v b => ⟨gBo (v.getD 1 .junk), gI (v.getD 2 .junk), gXl tCd (gCe (gBk b 0) 0), gXl .str (gCe (gBk b 0) 1), gXl tKo (gCe (gBk b 0) 2), gXl tCh (gCe (gBk b 0) 3), gXl tBa (gCe (gBk b 0) 4)⟩, t_rv2, fun s r => { r with s_Conductors := s.s_Conductors, s_Owners := s.s_Owners, s_Contracts := s.s_Contracts, s_Chargers := s.s_Chargers, s_Bays := s.s_Bays }, fun s => s, fun _ s => s, [.ret, .exit 6], E_rv2, I_rv2, mu_rv2⟩
abbrev run_rv2 := D_rv2.run
abbrev exn_rv2 := D_rv2.exn
abbrev E_rv2q := D_rv2.q
theorem rq_rv2 (s : L_rv2) (hI : I_rv2 s) : (t_rv2 s).all (fun _ => True) := by
 refine ⟨fun c1 => ⟨?_, fun _ => trivial, fun _ => trivial⟩, fun _ => trivial⟩
 ·(obtain ⟨h0, h1, h2, h3, h4⟩ := hI; simp at c1; omega)
theorem ok_rv2 : D_rv2.Ok := ⟨fun s => by kernel_rfl, fun s => by kernel_rfl, fun s => rfl, fun s t r => rfl, fun s => rfl, fun s => by kernel_rfl⟩
theorem pf_rv2 : D_rv2.Pf (Q_rv2) := ⟨rv2_E, fun _ _ => rfl, rv2_da, rq_rv2⟩
theorem snd_rv2 : SoundA Try.prog noGlobs (AN 0) (.loop body_rv2) D_rv2.lp := LpD.snd ok_rv2 pf_rv2 (code_sound (Γ := gam49) (K := noK) (L := noLoops) gok49 noK_sound body_rv2 (fun b hb => by rw [show loopsIn body_rv2 = [] by kernel_rfl] at hb; cases hb)) (fun s => by kernel_rfl)
theorem rv2_fin (s : L_rv2) (hE : E_rv2 s) : ∃ s', I_rv2 s' ∧ Q_rv2 (exn_rv2 s) s' (run_rv2 s) := LpD.fin ok_rv2 pf_rv2 s hE
structure L_rv3 where
 r : Bool
 i : Int
 s_Conductors : List (ByteArray × (Int × (Int × (Int × ((Int × Int) × (Int × (Int × (Int × (Int × Int)))))))))
 s_Owners : List ByteArray
 s_Contracts : List (ByteArray × (Int × (Int × Int)))
 s_Chargers : List (ByteArray × (Int × (Int × (Int × (Int × (Int × (Int × Int)))))))
 s_Bays : List (ByteArray × Int)
def A_rv3 (s : L_rv3) : List LV := [.own 0 0, .v (.bool s.r), .v (.int .i64 s.i)]
def B_rv3 (s : L_rv3) : List Blk := [⟨[.xl tCd s.s_Conductors, .xl .str s.s_Owners, .xl tKo s.s_Contracts, .xl tCh s.s_Chargers, .xl tBa s.s_Bays], 30, .cl, false⟩]
noncomputable def body_rv3 : Code := ((loopsIn (Try.f39.body.getD .skip))[3]?).getD .skip
def t_rv3 (s : L_rv3) : T (Rd L_rv3) :=
 .br (decide (s.i < (List.length s.s_Bays : Int))) (.req (0 ≤ s.i ∧ s.i < (List.length s.s_Bays : Int)) (.br (!(inB (gBa s.s_Bays s.i).2 (0 : Int) (IntKind.i64.wrap ((List.length s.s_Chargers : Int) - 1)))) (.ok (.stop (.ret) { s with r := false })) (.ok (.next { s with i := (IntKind.i64.wrap (s.i + 1)) })))) (.ok (.stop (.exit 8) s))
abbrev f_rv3 (s : L_rv3) := (t_rv3 s).rd s
def G_rv3 (s : L_rv3) (j : Int) : Bool := inB (gBa s.s_Bays j).2 0 (IntKind.i64.wrap ((List.length s.s_Chargers : Int) - 1))
def E_rv3 (s : L_rv3) : Prop := s.i = 0 ∧ 0 ≤ (List.length s.s_Bays : Int) ∧ (List.length s.s_Bays : Int) ≤ 1000 ∧ True
def I_rv3 (s : L_rv3) : Prop := 0 ≤ s.i ∧ s.i ≤ (List.length s.s_Bays : Int) ∧ (List.length s.s_Bays : Int) ≤ 1000 ∧ (True) ∧ ∀ j : Nat, (j : Int) < s.i → G_rv3 s j = true
def mu_rv3 (s : L_rv3) : Nat := ((List.length s.s_Bays : Int) - s.i).toNat
def Q_rv3 (x : Ex) (_ s' : L_rv3) : Prop := (x = .exit 8 ∧ ∀ j : Nat, (j : Int) < (List.length s'.s_Bays : Int) → G_rv3 s' j = true) ∨ (x = .ret ∧ s'.r = false ∧ ∃ j : Nat, (j : Int) < (List.length s'.s_Bays : Int) ∧ G_rv3 s' j = false)
theorem rv3_E : ∀ s, E_rv3 s → I_rv3 s := by
 intro s h
 obtain ⟨h0, h1, h2, h3⟩ := h
 exact ⟨by omega, by omega, h2, h3, fun j hj => by omega⟩
theorem rv3_da (s : L_rv3) (hI : I_rv3 s) : allR (fun s' => I_rv3 s' ∧ mu_rv3 s' < mu_rv3 s) (fun x s' => Q_rv3 x s s') (f_rv3 s) := by
 unfold f_rv3 t_rv3
 dsimp only [T.rd, T.rl]
 obtain ⟨h0, h1, h2, h3, h4⟩ := hI
 refine allR_ite (fun c1 => allR_ite (fun c2 => ?_) (fun c2 => ?_)) (fun c1 => ?_)
 ·have c1 : s.i < (List.length s.s_Bays : Int) := by simpa using c1
  refine .inr ⟨rfl, rfl, s.i.toNat, by simp only; omega, ?_⟩
  rw [Int.toNat_of_nonneg (by omega)]
  have hg : G_rv3 s s.i = false := by unfold G_rv3; (first | (have c2 : (!(inB (gBa s.s_Bays s.i).2 0 (IntKind.i64.wrap ((List.length s.s_Chargers : Int) - 1)))) = false := c2; simpa using c2) | (have c2 : (!(inB (gBa s.s_Bays s.i).2 0 (IntKind.i64.wrap ((List.length s.s_Chargers : Int) - 1)))) = true := c2; simpa using c2))
  exact hg
 ·have c1 : s.i < (List.length s.s_Bays : Int) := by simpa using c1
  have hg : G_rv3 s s.i = true := by unfold G_rv3; (first | (have c2 : (!(inB (gBa s.s_Bays s.i).2 0 (IntKind.i64.wrap ((List.length s.s_Chargers : Int) - 1)))) = false := c2; simpa using c2) | (have c2 : (!(inB (gBa s.s_Bays s.i).2 0 (IntKind.i64.wrap ((List.length s.s_Chargers : Int) - 1)))) = true := c2; simpa using c2))
  rw [wrapS (x := s.i + 1) (by omega) (by omega)]
  refine ⟨⟨by simp only; omega, by simp only; omega, h2, h3, fun j hj => ?_⟩, by simp only [mu_rv3]; omega⟩
  by_cases hji : (j : Int) < s.i
  ·exact h4 j hji
  ·have : (j : Int) = s.i := by simp only at hj; omega
   rw [this]; exact hg
 ·have c1 : (List.length s.s_Bays : Int) ≤ s.i := by simpa using c1
  exact .inl ⟨rfl, fun j hj => h4 j (by omega)⟩
def D_rv3 : LpD L_rv3 := ⟨0, 159, [1, 2, 9], [], A_rv3, B_rv3, fun v b => ⟨gBo (v.getD 1 .junk), gI (v.getD 2 .junk), gXl tCd (gCe (gBk b 0) 0), gXl .str (gCe (gBk b 0) 1), gXl tKo (gCe (gBk b 0) 2), gXl tCh (gCe (gBk b 0) 3), gXl tBa (gCe (gBk b 0) 4)⟩, t_rv3, fun s r => { r with s_Conductors := s.s_Conductors, s_Owners := s.s_Owners, s_Contracts := s.s_Contracts, s_Chargers := s.s_Chargers, s_Bays := s.s_Bays }, fun s => s, fun _ s => s, [.ret, .exit 8], E_rv3, I_rv3, mu_rv3⟩
abbrev run_rv3 := D_rv3.run
abbrev exn_rv3 := D_rv3.exn
abbrev E_rv3q := D_rv3.q
theorem rq_rv3 (s : L_rv3) (hI : I_rv3 s) : (t_rv3 s).all (fun _ => True) := by
 refine ⟨fun c1 => ⟨?_, fun _ => trivial, fun _ => trivial⟩, fun _ => trivial⟩
 ·(obtain ⟨h0, h1, h2, h3, h4⟩ := hI; simp at c1; omega)
theorem ok_rv3 : D_rv3.Ok := ⟨fun s => by kernel_rfl, fun s => by kernel_rfl, fun s => rfl, fun s t r => rfl, fun s => rfl, fun s => by kernel_rfl⟩
theorem pf_rv3 : D_rv3.Pf (Q_rv3) := ⟨rv3_E, fun _ _ => rfl, rv3_da, rq_rv3⟩
theorem snd_rv3 : SoundA Try.prog noGlobs (AN 0) (.loop body_rv3) D_rv3.lp := LpD.snd ok_rv3 pf_rv3 (code_sound (Γ := gam49) (K := noK) (L := noLoops) gok49 noK_sound body_rv3 (fun b hb => by rw [show loopsIn body_rv3 = [] by kernel_rfl] at hb; cases hb)) (fun s => by kernel_rfl)
theorem rv3_fin (s : L_rv3) (hE : E_rv3 s) : ∃ s', I_rv3 s' ∧ Q_rv3 (exn_rv3 s) s' (run_rv3 s) := LpD.fin ok_rv3 pf_rv3 s hE
def S0_rval : List LV → T LV
 | [.agg [.xl (.pair .str (.pair (.int .i64) (.pair (.int .i64) (.pair (.int .i64) (.pair (.pair (.int .i64) (.int .i64)) (.pair (.int .i64) (.pair (.int .i64) (.pair (.int .i64) (.pair (.int .i64) (.int .i64)))))))))) cs, .xl (.str) os, .xl (.pair .str (.pair (.int .i64) (.pair (.int .i64) (.int .i64)))) ks, .xl (.pair .str (.pair (.int .i64) (.pair (.int .i64) (.pair (.int .i64) (.pair (.int .i64) (.pair (.int .i64) (.pair (.int .i64) (.int .i64)))))))) gs, .xl (.pair .str (.int .i64)) bs]] => .req (nmR (nmsOf cs os ks gs bs)) (.ok (.v (.bool (siteV cs os ks gs bs))))
 | _ => .no
noncomputable def S_rval : List LV → T LV := upS Try.prog Try.f39.params.toList S0_rval
theorem nf_rval (cs : List (ByteArray × (Int × (Int × (Int × ((Int × Int) × (Int × (Int × (Int × (Int × Int)))))))))) (os : List ByteArray) (ks : List (ByteArray × (Int × (Int × Int)))) (gs : List (ByteArray × (Int × (Int × (Int × (Int × (Int × (Int × Int)))))))) (bs : List (ByteArray × Int)) : funu Try.prog noGlobs (gam49) noK (fun i => if i = 4 then D_rv0.lp else if i = 9 then D_rv1.lp else if i = 20 then D_rv2.lp else if i = 26 then D_rv3.lp else noLoops i) Try.f39 [.agg [.xl tCd cs, .xl .str os, .xl tKo ks, .xl tCh gs, .xl tBa bs]] = .br (!(inB (List.length cs : Int) (1 : Int) (16 : Int))) (.ok (.v (.bool false))) (.br (decide ((List.length os : Int) > 8)) (.ok (.v (.bool false))) (.br (decide ((List.length ks : Int) > 32)) (.ok (.v (.bool false))) (.br (decide ((List.length gs : Int) > 16)) (.ok (.v (.bool false))) (.br (decide ((List.length bs : Int) > 24)) (.ok (.v (.bool false))) (.req (((List.length cs : Int) ≤ 100 ∧ (List.length os : Int) ≤ 100 ∧ (List.length ks : Int) ≤ 100 ∧ (List.length gs : Int) ≤ 100 ∧ (List.length bs : Int) ≤ 100) ∧ nmR (nmsOf cs os ks gs bs)) (.br (!(nmB (nmsOf cs os ks gs bs))) (.ok (.v (.bool false))) (.req (E_rv0q (⟨false, (0 : Int), cs, os, ks, gs, bs⟩ : L_rv0)) (.br (isEx (exn_rv0 (⟨false, (0 : Int), cs, os, ks, gs, bs⟩ : L_rv0)) (.ret)) (.ok (.v (.bool (run_rv0 (⟨false, (0 : Int), cs, os, ks, gs, bs⟩ : L_rv0)).r))) (.req (E_rv1q (⟨(run_rv0 (⟨false, (0 : Int), cs, os, ks, gs, bs⟩ : L_rv0)).r, (0 : Int), cs, os, ks, gs, bs⟩ : L_rv1)) (.br (isEx (exn_rv1 (⟨(run_rv0 (⟨false, (0 : Int), cs, os, ks, gs, bs⟩ : L_rv0)).r, (0 : Int), cs, os, ks, gs, bs⟩ : L_rv1)) (.ret)) (.ok (.v (.bool (run_rv1 (⟨(run_rv0 (⟨false, (0 : Int), cs, os, ks, gs, bs⟩ : L_rv0)).r, (0 : Int), cs, os, ks, gs, bs⟩ : L_rv1)).r))) (.req (E_rv2q (⟨(run_rv1 (⟨(run_rv0 (⟨false, (0 : Int), cs, os, ks, gs, bs⟩ : L_rv0)).r, (0 : Int), cs, os, ks, gs, bs⟩ : L_rv1)).r, (0 : Int), cs, os, ks, gs, bs⟩ : L_rv2)) (.br (isEx (exn_rv2 (⟨(run_rv1 (⟨(run_rv0 (⟨false, (0 : Int), cs, os, ks, gs, bs⟩ : L_rv0)).r, (0 : Int), cs, os, ks, gs, bs⟩ : L_rv1)).r, (0 : Int), cs, os, ks, gs, bs⟩ : L_rv2)) (.ret)) (.ok (.v (.bool (run_rv2 (⟨(run_rv1 (⟨(run_rv0 (⟨false, (0 : Int), cs, os, ks, gs, bs⟩ : L_rv0)).r, (0 : Int), cs, os, ks, gs, bs⟩ : L_rv1)).r, (0 : Int), cs, os, ks, gs, bs⟩ : L_rv2)).r))) (.req (E_rv3q (⟨(run_rv2 (⟨(run_rv1 (⟨(run_rv0 (⟨false, (0 : Int), cs, os, ks, gs, bs⟩ : L_rv0)).r, (0 : Int), cs, os, ks, gs, bs⟩ : L_rv1)).r, (0 : Int), cs, os, ks, gs, bs⟩ : L_rv2)).r, (0 : Int), cs, os, ks, gs, bs⟩ : L_rv3)) (.br (isEx (exn_rv3 (⟨(run_rv2 (⟨(run_rv1 (⟨(run_rv0 (⟨false, (0 : Int), cs, os, ks, gs, bs⟩ : L_rv0)).r, (0 : Int), cs, os, ks, gs, bs⟩ : L_rv1)).r, (0 : Int), cs, os, ks, gs, bs⟩ : L_rv2)).r, (0 : Int), cs, os, ks, gs, bs⟩ : L_rv3)) (.ret)) (.ok (.v (.bool (run_rv3 (⟨(run_rv2 (⟨(run_rv1 (⟨(run_rv0 (⟨false, (0 : Int), cs, os, ks, gs, bs⟩ : L_rv0)).r, (0 : Int), cs, os, ks, gs, bs⟩ : L_rv1)).r, (0 : Int), cs, os, ks, gs, bs⟩ : L_rv2)).r, (0 : Int), cs, os, ks, gs, bs⟩ : L_rv3)).r))) (.ok (.v (.bool true))))))))))))))))) := by kernel_rfl
theorem v_rval : Valid Try.prog noGlobs 39 S_rval := valid_ofu Try.func39 rfl gok49 noK_sound (L := (fun i => if i = 4 then D_rv0.lp else if i = 9 then D_rv1.lp else if i = 20 then D_rv2.lp else if i = 26 then D_rv3.lp else noLoops i)) (fun b hb => by
 rw [show loopsIn _ = [body_rv0, body_rv1, body_rv2, body_rv3] by kernel_rfl] at hb
 simp only [List.mem_cons, List.not_mem_nil, or_false] at hb
 rcases hb with rfl | rfl | rfl | rfl
 ·exact snd_rv0
 ·exact snd_rv1
 ·exact snd_rv2
 ·exact snd_rv3) (fun args lv h => by
 unfold S0_rval at h
 split at h
 ·simp only [canL, canX]
  rw [nf_rval]
  rename_i cs os ks gs bs
  obtain ⟨hn, rfl⟩ := h
  have bad : ¬ (1 ≤ cs.length ∧ cs.length ≤ 16 ∧ os.length ≤ 8 ∧ ks.length ≤ 32 ∧ gs.length ≤ 16 ∧ bs.length ≤ 24) → LV.v (.bool false) = LV.v (.bool (siteV cs os ks gs bs)) := fun hd => congrArg (fun z => LV.v (.bool z)) (by
   rw [eq_comm, Bool.eq_false_iff]
   intro hx
   exact hd (siteV_iff.1 hx).1)
  refine ⟨fun c => bad (by simp only [Bool.not_eq_true', inB_no] at c; omega), fun c => ⟨fun c2 => bad (by simp at c2; omega), fun c2 => ⟨fun c3 => bad (by simp at c3; omega), fun c3 => ⟨fun c4 => bad (by simp at c4; omega), fun c4 => ⟨fun c5 => bad (by simp at c5; omega), fun c5 => ?_⟩⟩⟩⟩⟩
  have hd : 1 ≤ cs.length ∧ cs.length ≤ 16 ∧ os.length ≤ 8 ∧ ks.length ≤ 32 ∧ gs.length ≤ 16 ∧ bs.length ≤ 24 := by
   simp only [Bool.not_eq_false', inB_iff, decide_eq_false_iff_not] at c c2 c3 c4 c5
   omega
  rw [siteV_of hd]
  refine ⟨⟨by omega, hn⟩, fun c6 => ?_, fun c6 => ?_⟩
  ·have c6 : nmB (nmsOf cs os ks gs bs) = false := by simpa using c6
   rw [c6]
   exact rfl
  have c6 : nmB (nmsOf cs os ks gs bs) = true := by simpa using c6
  rw [c6, Bool.true_and]
  refine andI ⟨⟨rfl, by simp only; omega, by simp only; omega, trivial⟩, rfl, rfl⟩ (fun hE0 => ?_)
  obtain ⟨s', _, hq⟩ := rv0_fin _ hE0.1
  rcases hq with ⟨q1, q2⟩ | ⟨q1, q2, j, q3, q4⟩
  rotate_left
  ·rw [q1, q2]
   refine ⟨fun _ => congrArg (fun z => LV.v (.bool z)) ?_, fun h => by cases h⟩
   unfold vpB
   rw [rgA_no (n := cs.length) (f := fun j => cdV j (gCd cs j)) j q3 q4]
   rfl
  rw [q1]
  refine ⟨fun h => (by cases h), fun _ => ?_⟩
  have g0 : rgA cs.length (fun j => cdV j (gCd cs j)) = true := rgA_iff.2 q2
  refine andI ⟨⟨rfl, by simp only; omega, by simp only; omega⟩, rfl, rfl⟩ (fun hE1 => ?_)
  obtain ⟨s', _, hq⟩ := rv1_fin _ hE1.1
  rcases hq with ⟨q1, q2⟩ | ⟨q1, q2, j, q3, q4⟩
  rotate_left
  ·rw [q1, q2]
   refine ⟨fun _ => congrArg (fun z => LV.v (.bool z)) ?_, fun h => by cases h⟩
   unfold vpB
   have hn : (ks.all (koV os.length) && once (ks.map (·.2.2.2))) = false := by
    rw [Bool.eq_false_iff]; intro hx
    have := (keys_iff (d := (emp, 0, 0, 0))).2 hx j q3
    exact Bool.noConfusion (this.symm.trans q4)
   rw [g0, Bool.true_and, ← Bool.and_assoc, hn]
   rfl
  rw [q1]
  refine ⟨fun h => (by cases h), fun _ => ?_⟩
  have g1 : (ks.all (koV os.length) && once (ks.map (·.2.2.2))) = true := (keys_iff (d := (emp, 0, 0, 0))).1 q2
  refine andI ⟨⟨rfl, by simp only; omega, by simp only; omega, by simp only; omega, by simp only; omega⟩, rfl, rfl⟩ (fun hE2 => ?_)
  obtain ⟨s', _, hq⟩ := rv2_fin _ hE2.1
  rcases hq with ⟨q1, q2⟩ | ⟨q1, q2, j, q3, q4⟩
  rotate_left
  ·rw [q1, q2]
   refine ⟨fun _ => congrArg (fun z => LV.v (.bool z)) ?_, fun h => by cases h⟩
   unfold vpB
   have hn : gs.all (chV cs.length os.length) = false := by
    rw [Bool.eq_false_iff]; intro hx
    have := (all_iff (d := (emp, 0, 0, 0, 0, 0, 0, 0))).2 hx j q3
    exact Bool.noConfusion (this.symm.trans q4)
   rw [g0, Bool.true_and, ← Bool.and_assoc, g1, hn]
   rfl
  rw [q1]
  refine ⟨fun h => (by cases h), fun _ => ?_⟩
  have g2 : gs.all (chV cs.length os.length) = true := (all_iff (d := (emp, 0, 0, 0, 0, 0, 0, 0))).1 q2
  have hw := wrapS (x := (List.length gs : Int) - 1) (by omega) (by omega)
  refine andI ⟨⟨rfl, by simp only; omega, by simp only; omega, trivial⟩, rfl, rfl⟩ (fun hE3 => ?_)
  obtain ⟨s', _, hq⟩ := rv3_fin _ hE3.1
  rcases hq with ⟨q1, q2⟩ | ⟨q1, q2, j, q3, q4⟩
  rotate_left
  ·rw [q1, q2]
   refine ⟨fun _ => congrArg (fun z => LV.v (.bool z)) ?_, fun h => by cases h⟩
   unfold vpB
   have hn : bs.all (fun b => inB b.2 0 ((gs.length : Int) - 1)) = false := by
    rw [Bool.eq_false_iff]; intro hx
    have := (all_iff (d := (emp, 0))).2 hx j q3
    have q4 : inB (gBa bs j).2 0 (IntKind.i64.wrap ((List.length gs : Int) - 1)) = false := q4
    rw [hw] at q4
    exact Bool.noConfusion (this.symm.trans q4)
   rw [g0, Bool.true_and, ← Bool.and_assoc, g1, g2, hn]
   rfl
  rw [q1]
  refine ⟨fun h => (by cases h), fun _ => ?_⟩
  have g3 : bs.all (fun b => inB b.2 0 ((gs.length : Int) - 1)) = true := (all_iff (d := (emp, 0))).1 (fun j hj => by
   have : inB (gBa bs j).2 0 (IntKind.i64.wrap ((List.length gs : Int) - 1)) = true := q2 j hj
   rw [hw] at this
   exact this)
  refine congrArg (fun z => LV.v (.bool z)) ?_
  unfold vpB
  rw [g0, Bool.true_and, ← Bool.and_assoc, g1, g2, g3]
  rfl
 ·cases h)
end Go.Proofs.Ytihbikkkmoaljaa
