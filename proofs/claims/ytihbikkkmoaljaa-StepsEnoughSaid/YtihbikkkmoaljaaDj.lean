/- The names of a site: what is computed, by the executor. -/
import Derived.Test.YtihbikkkmoaljaaDh
namespace Go.Proofs.Ytihbikkkmoaljaa
open Go.Sx
structure L_no0 where
 l : List (ByteArray × (Int × (Int × (Int × ((Int × Int) × (Int × (Int × (Int × (Int × Int)))))))))
 n : Int
 i : Int
 s_Conductors : List (ByteArray × (Int × (Int × (Int × ((Int × Int) × (Int × (Int × (Int × (Int × Int)))))))))
 s_Owners : List ByteArray
 s_Contracts : List (ByteArray × (Int × (Int × Int)))
 s_Chargers : List (ByteArray × (Int × (Int × (Int × (Int × (Int × (Int × Int)))))))
 s_Bays : List (ByteArray × Int)
 out : List ByteArray
def A_no0 (s : L_no0) : List LV := [.own 0 0, .os 1 1 0 (List.length s.out), .xl tCd s.l, .v (.int .i64 s.n), .v (.int .i64 s.i)]
def B_no0 (s : L_no0) : List Blk := [⟨[.xl tCd s.s_Conductors, .xl .str s.s_Owners, .xl tKo s.s_Contracts, .xl tCh s.s_Chargers, .xl tBa s.s_Bays], 30, .cl, false⟩, ⟨[], 9, .vec .str s.out, false⟩]
noncomputable def body_no0 : Code := ((loopsIn (Try.f55.body.getD .skip))[0]?).getD .skip
def t_no0 (s : L_no0) : T (Rd L_no0) :=
 .br (decide (s.i < s.n)) (.req (0 ≤ s.i ∧ s.i < (List.length s.l : Int)) (.req (0 + (List.length s.out) = List.length s.out ∧ ((List.length s.out + List.length ([(gCd s.l s.i).1]) : Nat) : Int) * 16 ≤ 2 ^ 47 ∧ ((List.length s.out + List.length ([(gCd s.l s.i).1]) : Nat) : Int) < 2 ^ 62) (.req (0 = 0 ∧ (List.length s.out + List.length ([(gCd s.l s.i).1])) = List.length (s.out ++ ([(gCd s.l s.i).1]))) (.ok (.next { s with i := (IntKind.i64.wrap (s.i + 1)), out := (s.out ++ ([(gCd s.l s.i).1])) }))))) (.rl s.out (.ok (.stop (.exit 0) s)))
abbrev f_no0 (s : L_no0) := (t_no0 s).rd s
def E_no0 (s : L_no0) : Prop := s.i = 0 ∧ s.n = (s.l.length : Int) ∧ s.n ≤ 1000 ∧ (s.out.length : Int) ≤ 10000
def I_no0 (s : L_no0) : Prop := 0 ≤ s.i ∧ s.i ≤ s.n ∧ s.n = (s.l.length : Int) ∧ s.n ≤ 1000 ∧ (s.out.length : Int) ≤ 10000 + s.i
def mu_no0 (s : L_no0) : Nat := (s.n - s.i).toNat
def Q_no0 (x : Ex) (_ s' : L_no0) : Prop := x = .exit 0 ∧ s'.i = s'.n
theorem no0_E : ∀ s, E_no0 s → I_no0 s := by
 intro s h
 obtain ⟨h0, h1, h2, h3⟩ := h
 exact ⟨by omega, by omega, h1, h2, by omega⟩
theorem no0_da (s : L_no0) (hI : I_no0 s) : allR (fun s' => I_no0 s' ∧ mu_no0 s' < mu_no0 s) (fun x s' => Q_no0 x s s') (f_no0 s) := by
 unfold f_no0 t_no0
 dsimp only [T.rd, T.rl]
 obtain ⟨h0, h1, h2, h3, h4⟩ := hI
 refine allR_ite (fun c1 => ?_) (fun c1 => ?_)
 ·have c1 : s.i < s.n := by simpa using c1
  rw [wrapS (x := s.i + 1) (by omega) (by omega)]
  exact ⟨⟨by simp only; omega, by simp only; omega, h2, h3, by simp only [List.length_append, List.length_cons, List.length_nil]; omega⟩, by simp only [mu_no0]; omega⟩
 ·have c1 : s.n ≤ s.i := by simpa using c1
  exact ⟨rfl, by omega⟩
def D_no0 : LpD L_no0 := ⟨0, 80, [1, 3, 15, 16, 17], [.nl 3 9 .str], A_no0, B_no0, fun v b => ⟨gXl tCd (v.getD 2 .junk), gI (v.getD 3 .junk), gI (v.getD 4 .junk), gXl tCd (gCe (gBk b 0) 0), gXl .str (gCe (gBk b 0) 1), gXl tKo (gCe (gBk b 0) 2), gXl tCh (gCe (gBk b 0) 3), gXl tBa (gCe (gBk b 0) 4), gVe .str (gBk b 1)⟩, t_no0, fun s r => { r with l := s.l, n := s.n, s_Conductors := s.s_Conductors, s_Owners := s.s_Owners, s_Contracts := s.s_Contracts, s_Chargers := s.s_Chargers, s_Bays := s.s_Bays }, fun s => s, fun _ s => s, [.exit 0], E_no0, I_no0, mu_no0⟩
abbrev run_no0 := D_no0.run
abbrev exn_no0 := D_no0.exn
abbrev E_no0q := D_no0.q
theorem rq_no0 (s : L_no0) (hI : I_no0 s) : (t_no0 s).all (fun _ => True) := by
 refine ⟨fun c1 => ⟨?_, ?_, ?_, trivial⟩, fun c1 => ⟨⟨rfl, rfl⟩, trivial⟩⟩
 all_goals ((obtain ⟨h0, h1, h2, h3, h4⟩ := hI; (try simp only [decide_eq_true_eq] at c1); first | omega | (refine ⟨by omega, ?_, ?_⟩ <;> simp only [List.length_cons, List.length_nil] <;> omega) | (simp only [List.length_append, List.length_cons, List.length_nil]; omega) | exact ⟨rfl, by simp⟩ | exact ⟨rfl, rfl⟩))
noncomputable def gam13 : Specs := specsOf []
theorem gok13 : ∀ g S, gam13 g = some S → Valid Try.prog noGlobs g S := specs_ok (l := []) trivial
theorem ok_no0 : D_no0.Ok := ⟨fun s => by kernel_rfl, fun s => by kernel_rfl, fun s => rfl, fun s t r => rfl, fun s => rfl, fun s => by kernel_rfl⟩
theorem pf_no0 : D_no0.Pf (Q_no0) := ⟨no0_E, fun _ _ => rfl, no0_da, rq_no0⟩
theorem snd_no0 : SoundA Try.prog noGlobs (AN 0) (.loop body_no0) D_no0.lp := LpD.snd ok_no0 pf_no0 (code_sound (Γ := gam13) (K := noK) (L := noLoops) gok13 noK_sound body_no0 (fun b hb => by rw [show loopsIn body_no0 = [] by kernel_rfl] at hb; cases hb)) (fun s => by kernel_rfl)
theorem no0_fin (s : L_no0) (hE : E_no0 s) : ∃ s', I_no0 s' ∧ Q_no0 (exn_no0 s) s' (run_no0 s) := LpD.fin ok_no0 pf_no0 s hE
theorem no0_out (s : L_no0) (hE : E_no0 s) : (run_no0 s).out = s.out ++ s.l.map (·.1) := by
 have hk := LpD.keepV ok_no0 pf_no0 (fun s => s.out ++ (s.l.drop s.i.toNat).map (·.1)) (fun s hI => by
  obtain ⟨h0, h1, h2, h3, h4⟩ := hI
  show allR _ _ (f_no0 s)
  unfold f_no0 t_no0
  dsimp only [T.rd, T.rl]
  refine allR_ite (fun c1 => ?_) (fun c1 => ?_)
  ·have c1 : s.i < s.n := by simpa using c1
   rw [wrapS (x := s.i + 1) (by omega) (by omega)]
   show _ ++ _ = _ ++ _
   simp only
   rw [(gCd_step h0 (show s.i < s.l.length by omega)).1]
   simp
  ·rfl) s hE
 obtain ⟨s', hI, q1, q2⟩ := no0_fin s hE
 have q3 : (run_no0 s).i = (run_no0 s).n := q2
 have hn : (run_no0 s).n = (s.l.length : Int) := hE.2.1
 have hl : (run_no0 s).l = s.l := rfl
 rw [q3, hn, hl, List.drop_eq_nil_of_le (by omega), hE.1] at hk
 simpa using hk
structure L_no1 where
 l : List ByteArray
 n : Int
 i : Int
 s_Conductors : List (ByteArray × (Int × (Int × (Int × ((Int × Int) × (Int × (Int × (Int × (Int × Int)))))))))
 s_Owners : List ByteArray
 s_Contracts : List (ByteArray × (Int × (Int × Int)))
 s_Chargers : List (ByteArray × (Int × (Int × (Int × (Int × (Int × (Int × Int)))))))
 s_Bays : List (ByteArray × Int)
 out : List ByteArray
def A_no1 (s : L_no1) : List LV := [.own 0 0, .os 1 1 0 (List.length s.out), .xl .str s.l, .v (.int .i64 s.n), .v (.int .i64 s.i)]
def B_no1 (s : L_no1) : List Blk := [⟨[.xl tCd s.s_Conductors, .xl .str s.s_Owners, .xl tKo s.s_Contracts, .xl tCh s.s_Chargers, .xl tBa s.s_Bays], 30, .cl, false⟩, ⟨[], 9, .vec .str s.out, false⟩]
noncomputable def body_no1 : Code := ((loopsIn (Try.f55.body.getD .skip))[1]?).getD .skip
def t_no1 (s : L_no1) : T (Rd L_no1) :=
 .br (decide (s.i < s.n)) (.req (0 ≤ s.i ∧ s.i < (List.length s.l : Int)) (.req (0 + (List.length s.out) = List.length s.out ∧ ((List.length s.out + List.length ([(gS s.l s.i)]) : Nat) : Int) * 16 ≤ 2 ^ 47 ∧ ((List.length s.out + List.length ([(gS s.l s.i)]) : Nat) : Int) < 2 ^ 62) (.req (0 = 0 ∧ (List.length s.out + List.length ([(gS s.l s.i)])) = List.length (s.out ++ ([(gS s.l s.i)]))) (.ok (.next { s with i := (IntKind.i64.wrap (s.i + 1)), out := (s.out ++ ([(gS s.l s.i)])) }))))) (.rl s.out (.ok (.stop (.exit 2) s)))
abbrev f_no1 (s : L_no1) := (t_no1 s).rd s
def E_no1 (s : L_no1) : Prop := s.i = 0 ∧ s.n = (s.l.length : Int) ∧ s.n ≤ 1000 ∧ (s.out.length : Int) ≤ 10000
def I_no1 (s : L_no1) : Prop := 0 ≤ s.i ∧ s.i ≤ s.n ∧ s.n = (s.l.length : Int) ∧ s.n ≤ 1000 ∧ (s.out.length : Int) ≤ 10000 + s.i
def mu_no1 (s : L_no1) : Nat := (s.n - s.i).toNat
def Q_no1 (x : Ex) (_ s' : L_no1) : Prop := x = .exit 2 ∧ s'.i = s'.n
theorem no1_E : ∀ s, E_no1 s → I_no1 s := by
 intro s h
 obtain ⟨h0, h1, h2, h3⟩ := h
 exact ⟨by omega, by omega, h1, h2, by omega⟩
theorem no1_da (s : L_no1) (hI : I_no1 s) : allR (fun s' => I_no1 s' ∧ mu_no1 s' < mu_no1 s) (fun x s' => Q_no1 x s s') (f_no1 s) := by
 unfold f_no1 t_no1
 dsimp only [T.rd, T.rl]
 obtain ⟨h0, h1, h2, h3, h4⟩ := hI
 refine allR_ite (fun c1 => ?_) (fun c1 => ?_)
 ·have c1 : s.i < s.n := by simpa using c1
  rw [wrapS (x := s.i + 1) (by omega) (by omega)]
  exact ⟨⟨by simp only; omega, by simp only; omega, h2, h3, by simp only [List.length_append, List.length_cons, List.length_nil]; omega⟩, by simp only [mu_no1]; omega⟩
 ·have c1 : s.n ≤ s.i := by simpa using c1
  exact ⟨rfl, by omega⟩
def D_no1 : LpD L_no1 := ⟨0, 80, [1, 3, 28, 29, 30], [], A_no1, B_no1, fun v b => ⟨gXl .str (v.getD 2 .junk), gI (v.getD 3 .junk), gI (v.getD 4 .junk), gXl tCd (gCe (gBk b 0) 0), gXl .str (gCe (gBk b 0) 1), gXl tKo (gCe (gBk b 0) 2), gXl tCh (gCe (gBk b 0) 3), gXl tBa (gCe (gBk b 0) 4), gVe .str (gBk b 1)⟩, t_no1, fun s r => { r with l := s.l, n := s.n, s_Conductors := s.s_Conductors, s_Owners := s.s_Owners, s_Contracts := s.s_Contracts, s_Chargers := s.s_Chargers, s_Bays := s.s_Bays }, fun s => s, fun _ s => s, [.exit 2], E_no1, I_no1, mu_no1⟩
abbrev run_no1 := D_no1.run
abbrev exn_no1 := D_no1.exn
abbrev E_no1q := D_no1.q
theorem rq_no1 (s : L_no1) (hI : I_no1 s) : (t_no1 s).all (fun _ => True) := by
 refine ⟨fun c1 => ⟨?_, ?_, ?_, trivial⟩, fun c1 => ⟨⟨rfl, rfl⟩, trivial⟩⟩
 all_goals ((obtain ⟨h0, h1, h2, h3, h4⟩ := hI; (try simp only [decide_eq_true_eq] at c1); first | omega | (refine ⟨by omega, ?_, ?_⟩ <;> simp only [List.length_cons, List.length_nil] <;> omega) | (simp only [List.length_append, List.length_cons, List.length_nil]; omega) | exact ⟨rfl, by simp⟩ | exact ⟨rfl, rfl⟩))
theorem ok_no1 : D_no1.Ok := ⟨fun s => by kernel_rfl, fun s => by kernel_rfl, fun s => rfl, fun s t r => rfl, fun s => rfl, fun s => by kernel_rfl⟩
theorem pf_no1 : D_no1.Pf (Q_no1) := ⟨no1_E, fun _ _ => rfl, no1_da, rq_no1⟩
theorem snd_no1 : SoundA Try.prog noGlobs (AN 0) (.loop body_no1) D_no1.lp := LpD.snd ok_no1 pf_no1 (code_sound (Γ := gam13) (K := noK) (L := noLoops) gok13 noK_sound body_no1 (fun b hb => by rw [show loopsIn body_no1 = [] by kernel_rfl] at hb; cases hb)) (fun s => by kernel_rfl)
theorem no1_fin (s : L_no1) (hE : E_no1 s) : ∃ s', I_no1 s' ∧ Q_no1 (exn_no1 s) s' (run_no1 s) := LpD.fin ok_no1 pf_no1 s hE
theorem no1_out (s : L_no1) (hE : E_no1 s) : (run_no1 s).out = s.out ++ s.l := by
 have hk := LpD.keepV ok_no1 pf_no1 (fun s => s.out ++ (s.l.drop s.i.toNat)) (fun s hI => by
  obtain ⟨h0, h1, h2, h3, h4⟩ := hI
  show allR _ _ (f_no1 s)
  unfold f_no1 t_no1
  dsimp only [T.rd, T.rl]
  refine allR_ite (fun c1 => ?_) (fun c1 => ?_)
  ·have c1 : s.i < s.n := by simpa using c1
   rw [wrapS (x := s.i + 1) (by omega) (by omega)]
   show _ ++ _ = _ ++ _
   simp only
   rw [(gS_step h0 (show s.i < s.l.length by omega)).1]
   simp
  ·rfl) s hE
 obtain ⟨s', hI, q1, q2⟩ := no1_fin s hE
 have q3 : (run_no1 s).i = (run_no1 s).n := q2
 have hn : (run_no1 s).n = (s.l.length : Int) := hE.2.1
 have hl : (run_no1 s).l = s.l := rfl
 rw [q3, hn, hl, List.drop_eq_nil_of_le (by omega), hE.1] at hk
 simpa using hk
structure L_no2 where
 l : List (ByteArray × (Int × (Int × Int)))
 n : Int
 i : Int
 s_Conductors : List (ByteArray × (Int × (Int × (Int × ((Int × Int) × (Int × (Int × (Int × (Int × Int)))))))))
 s_Owners : List ByteArray
 s_Contracts : List (ByteArray × (Int × (Int × Int)))
 s_Chargers : List (ByteArray × (Int × (Int × (Int × (Int × (Int × (Int × Int)))))))
 s_Bays : List (ByteArray × Int)
 out : List ByteArray
def A_no2 (s : L_no2) : List LV := [.own 0 0, .os 1 1 0 (List.length s.out), .xl tKo s.l, .v (.int .i64 s.n), .v (.int .i64 s.i)]
def B_no2 (s : L_no2) : List Blk := [⟨[.xl tCd s.s_Conductors, .xl .str s.s_Owners, .xl tKo s.s_Contracts, .xl tCh s.s_Chargers, .xl tBa s.s_Bays], 30, .cl, false⟩, ⟨[], 9, .vec .str s.out, false⟩]
noncomputable def body_no2 : Code := ((loopsIn (Try.f55.body.getD .skip))[2]?).getD .skip
def t_no2 (s : L_no2) : T (Rd L_no2) :=
 .br (decide (s.i < s.n)) (.req (0 ≤ s.i ∧ s.i < (List.length s.l : Int)) (.req (0 + (List.length s.out) = List.length s.out ∧ ((List.length s.out + List.length ([(gKo s.l s.i).1]) : Nat) : Int) * 16 ≤ 2 ^ 47 ∧ ((List.length s.out + List.length ([(gKo s.l s.i).1]) : Nat) : Int) < 2 ^ 62) (.req (0 = 0 ∧ (List.length s.out + List.length ([(gKo s.l s.i).1])) = List.length (s.out ++ ([(gKo s.l s.i).1]))) (.ok (.next { s with i := (IntKind.i64.wrap (s.i + 1)), out := (s.out ++ ([(gKo s.l s.i).1])) }))))) (.rl s.out (.ok (.stop (.exit 4) s)))
abbrev f_no2 (s : L_no2) := (t_no2 s).rd s
def E_no2 (s : L_no2) : Prop := s.i = 0 ∧ s.n = (s.l.length : Int) ∧ s.n ≤ 1000 ∧ (s.out.length : Int) ≤ 10000
def I_no2 (s : L_no2) : Prop := 0 ≤ s.i ∧ s.i ≤ s.n ∧ s.n = (s.l.length : Int) ∧ s.n ≤ 1000 ∧ (s.out.length : Int) ≤ 10000 + s.i
def mu_no2 (s : L_no2) : Nat := (s.n - s.i).toNat
def Q_no2 (x : Ex) (_ s' : L_no2) : Prop := x = .exit 4 ∧ s'.i = s'.n
theorem no2_E : ∀ s, E_no2 s → I_no2 s := by
 intro s h
 obtain ⟨h0, h1, h2, h3⟩ := h
 exact ⟨by omega, by omega, h1, h2, by omega⟩
theorem no2_da (s : L_no2) (hI : I_no2 s) : allR (fun s' => I_no2 s' ∧ mu_no2 s' < mu_no2 s) (fun x s' => Q_no2 x s s') (f_no2 s) := by
 unfold f_no2 t_no2
 dsimp only [T.rd, T.rl]
 obtain ⟨h0, h1, h2, h3, h4⟩ := hI
 refine allR_ite (fun c1 => ?_) (fun c1 => ?_)
 ·have c1 : s.i < s.n := by simpa using c1
  rw [wrapS (x := s.i + 1) (by omega) (by omega)]
  exact ⟨⟨by simp only; omega, by simp only; omega, h2, h3, by simp only [List.length_append, List.length_cons, List.length_nil]; omega⟩, by simp only [mu_no2]; omega⟩
 ·have c1 : s.n ≤ s.i := by simpa using c1
  exact ⟨rfl, by omega⟩
def D_no2 : LpD L_no2 := ⟨0, 80, [1, 3, 41, 42, 43], [], A_no2, B_no2, fun v b => ⟨gXl tKo (v.getD 2 .junk), gI (v.getD 3 .junk), gI (v.getD 4 .junk), gXl tCd (gCe (gBk b 0) 0), gXl .str (gCe (gBk b 0) 1), gXl tKo (gCe (gBk b 0) 2), gXl tCh (gCe (gBk b 0) 3), gXl tBa (gCe (gBk b 0) 4), gVe .str (gBk b 1)⟩, t_no2, fun s r => { r with l := s.l, n := s.n, s_Conductors := s.s_Conductors, s_Owners := s.s_Owners, s_Contracts := s.s_Contracts, s_Chargers := s.s_Chargers, s_Bays := s.s_Bays }, fun s => s, fun _ s => s, [.exit 4], E_no2, I_no2, mu_no2⟩
abbrev run_no2 := D_no2.run
abbrev exn_no2 := D_no2.exn
abbrev E_no2q := D_no2.q
theorem rq_no2 (s : L_no2) (hI : I_no2 s) : (t_no2 s).all (fun _ => True) := by
 refine ⟨fun c1 => ⟨?_, ?_, ?_, trivial⟩, fun c1 => ⟨⟨rfl, rfl⟩, trivial⟩⟩
 all_goals ((obtain ⟨h0, h1, h2, h3, h4⟩ := hI; (try simp only [decide_eq_true_eq] at c1); first | omega | (refine ⟨by omega, ?_, ?_⟩ <;> simp only [List.length_cons, List.length_nil] <;> omega) | (simp only [List.length_append, List.length_cons, List.length_nil]; omega) | exact ⟨rfl, by simp⟩ | exact ⟨rfl, rfl⟩))
theorem ok_no2 : D_no2.Ok := ⟨fun s => by kernel_rfl, fun s => by kernel_rfl, fun s => rfl, fun s t r => rfl, fun s => rfl, fun s => by kernel_rfl⟩
theorem pf_no2 : D_no2.Pf (Q_no2) := ⟨no2_E, fun _ _ => rfl, no2_da, rq_no2⟩
theorem snd_no2 : SoundA Try.prog noGlobs (AN 0) (.loop body_no2) D_no2.lp := LpD.snd ok_no2 pf_no2 (code_sound (Γ := gam13) (K := noK) (L := noLoops) gok13 noK_sound body_no2 (fun b hb => by rw [show loopsIn body_no2 = [] by kernel_rfl] at hb; cases hb)) (fun s => by kernel_rfl)
theorem no2_fin (s : L_no2) (hE : E_no2 s) : ∃ s', I_no2 s' ∧ Q_no2 (exn_no2 s) s' (run_no2 s) := LpD.fin ok_no2 pf_no2 s hE
theorem no2_out (s : L_no2) (hE : E_no2 s) : (run_no2 s).out = s.out ++ s.l.map (·.1) := by
 have hk := LpD.keepV ok_no2 pf_no2 (fun s => s.out ++ (s.l.drop s.i.toNat).map (·.1)) (fun s hI => by
  obtain ⟨h0, h1, h2, h3, h4⟩ := hI
  show allR _ _ (f_no2 s)
  unfold f_no2 t_no2
  dsimp only [T.rd, T.rl]
  refine allR_ite (fun c1 => ?_) (fun c1 => ?_)
  ·have c1 : s.i < s.n := by simpa using c1
   rw [wrapS (x := s.i + 1) (by omega) (by omega)]
   show _ ++ _ = _ ++ _
   simp only
   rw [(gKo_step h0 (show s.i < s.l.length by omega)).1]
   simp
  ·rfl) s hE
 obtain ⟨s', hI, q1, q2⟩ := no2_fin s hE
 have q3 : (run_no2 s).i = (run_no2 s).n := q2
 have hn : (run_no2 s).n = (s.l.length : Int) := hE.2.1
 have hl : (run_no2 s).l = s.l := rfl
 rw [q3, hn, hl, List.drop_eq_nil_of_le (by omega), hE.1] at hk
 simpa using hk
structure L_no3 where
 l : List (ByteArray × (Int × (Int × (Int × (Int × (Int × (Int × Int)))))))
 n : Int
 i : Int
 s_Conductors : List (ByteArray × (Int × (Int × (Int × ((Int × Int) × (Int × (Int × (Int × (Int × Int)))))))))
 s_Owners : List ByteArray
 s_Contracts : List (ByteArray × (Int × (Int × Int)))
 s_Chargers : List (ByteArray × (Int × (Int × (Int × (Int × (Int × (Int × Int)))))))
 s_Bays : List (ByteArray × Int)
 out : List ByteArray
def A_no3 (s : L_no3) : List LV := [.own 0 0, .os 1 1 0 (List.length s.out), .xl tCh s.l, .v (.int .i64 s.n), .v (.int .i64 s.i)]
def B_no3 (s : L_no3) : List Blk := [⟨[.xl tCd s.s_Conductors, .xl .str s.s_Owners, .xl tKo s.s_Contracts, .xl tCh s.s_Chargers, .xl tBa s.s_Bays], 30, .cl, false⟩, ⟨[], 9, .vec .str s.out, false⟩]
noncomputable def body_no3 : Code := ((loopsIn (Try.f55.body.getD .skip))[3]?).getD .skip
def t_no3 (s : L_no3) : T (Rd L_no3) :=
 .br (decide (s.i < s.n)) (.req (0 ≤ s.i ∧ s.i < (List.length s.l : Int)) (.req (0 + (List.length s.out) = List.length s.out ∧ ((List.length s.out + List.length ([(gCh s.l s.i).1]) : Nat) : Int) * 16 ≤ 2 ^ 47 ∧ ((List.length s.out + List.length ([(gCh s.l s.i).1]) : Nat) : Int) < 2 ^ 62) (.req (0 = 0 ∧ (List.length s.out + List.length ([(gCh s.l s.i).1])) = List.length (s.out ++ ([(gCh s.l s.i).1]))) (.ok (.next { s with i := (IntKind.i64.wrap (s.i + 1)), out := (s.out ++ ([(gCh s.l s.i).1])) }))))) (.rl s.out (.ok (.stop (.exit 6) s)))
abbrev f_no3 (s : L_no3) := (t_no3 s).rd s
def E_no3 (s : L_no3) : Prop := s.i = 0 ∧ s.n = (s.l.length : Int) ∧ s.n ≤ 1000 ∧ (s.out.length : Int) ≤ 10000
def I_no3 (s : L_no3) : Prop := 0 ≤ s.i ∧ s.i ≤ s.n ∧ s.n = (s.l.length : Int) ∧ s.n ≤ 1000 ∧ (s.out.length : Int) ≤ 10000 + s.i
def mu_no3 (s : L_no3) : Nat := (s.n - s.i).toNat
def Q_no3 (x : Ex) (_ s' : L_no3) : Prop := x = .exit 6 ∧ s'.i = s'.n
theorem no3_E : ∀ s, E_no3 s → I_no3 s := by
 intro s h
 obtain ⟨h0, h1, h2, h3⟩ := h
 exact ⟨by omega, by omega, h1, h2, by omega⟩
theorem no3_da (s : L_no3) (hI : I_no3 s) : allR (fun s' => I_no3 s' ∧ mu_no3 s' < mu_no3 s) (fun x s' => Q_no3 x s s') (f_no3 s) := by
 unfold f_no3 t_no3
 dsimp only [T.rd, T.rl]
 obtain ⟨h0, h1, h2, h3, h4⟩ := hI
 refine allR_ite (fun c1 => ?_) (fun c1 => ?_)
 ·have c1 : s.i < s.n := by simpa using c1
  rw [wrapS (x := s.i + 1) (by omega) (by omega)]
  exact ⟨⟨by simp only; omega, by simp only; omega, h2, h3, by simp only [List.length_append, List.length_cons, List.length_nil]; omega⟩, by simp only [mu_no3]; omega⟩
 ·have c1 : s.n ≤ s.i := by simpa using c1
  exact ⟨rfl, by omega⟩
def D_no3 : LpD L_no3 := ⟨0, 80, [1, 3, 54, 55, 56], [], A_no3, B_no3, fun v b => ⟨gXl tCh (v.getD 2 .junk), gI (v.getD 3 .junk), gI (v.getD 4 .junk), gXl tCd (gCe (gBk b 0) 0), gXl .str (gCe (gBk b 0) 1), gXl tKo (gCe (gBk b 0) 2), gXl tCh (gCe (gBk b 0) 3), gXl tBa (gCe (gBk b 0) 4), gVe .str (gBk b 1)⟩, t_no3, fun s r => { r with l := s.l, n := s.n, s_Conductors := s.s_Conductors, s_Owners := s.s_Owners, s_Contracts := s.s_Contracts, s_Chargers := s.s_Chargers, s_Bays := s.s_Bays }, fun s => s, fun _ s => s, [.exit 6], E_no3, I_no3, mu_no3⟩
abbrev run_no3 := D_no3.run
abbrev exn_no3 := D_no3.exn
abbrev E_no3q := D_no3.q
theorem rq_no3 (s : L_no3) (hI : I_no3 s) : (t_no3 s).all (fun _ => True) := by
 refine ⟨fun c1 => ⟨?_, ?_, ?_, trivial⟩, fun c1 => ⟨⟨rfl, rfl⟩, trivial⟩⟩
 all_goals ((obtain ⟨h0, h1, h2, h3, h4⟩ := hI; (try simp only [decide_eq_true_eq] at c1); first | omega | (refine ⟨by omega, ?_, ?_⟩ <;> simp only [List.length_cons, List.length_nil] <;> omega) | (simp only [List.length_append, List.length_cons, List.length_nil]; omega) | exact ⟨rfl, by simp⟩ | exact ⟨rfl, rfl⟩))
theorem ok_no3 : D_no3.Ok := ⟨fun s => by kernel_rfl, fun s => by kernel_rfl, fun s => rfl, fun s t r => rfl, fun s => rfl, fun s => by kernel_rfl⟩
theorem pf_no3 : D_no3.Pf (Q_no3) := ⟨no3_E, fun _ _ => rfl, no3_da, rq_no3⟩
theorem snd_no3 : SoundA Try.prog noGlobs (AN 0) (.loop body_no3) D_no3.lp := LpD.snd ok_no3 pf_no3 (code_sound (Γ := gam13) (K := noK) (L := noLoops) gok13 noK_sound body_no3 (fun b hb => by rw [show loopsIn body_no3 = [] by kernel_rfl] at hb; cases hb)) (fun s => by kernel_rfl)
theorem no3_fin (s : L_no3) (hE : E_no3 s) : ∃ s', I_no3 s' ∧ Q_no3 (exn_no3 s) s' (run_no3 s) := LpD.fin ok_no3 pf_no3 s hE
theorem no3_out (s : L_no3) (hE : E_no3 s) : (run_no3 s).out = s.out ++ s.l.map (·.1) := by
 have hk := LpD.keepV ok_no3 pf_no3 (fun s => s.out ++ (s.l.drop s.i.toNat).map (·.1)) (fun s hI => by
  obtain ⟨h0, h1, h2, h3, h4⟩ := hI
  show allR _ _ (f_no3 s)
  unfold f_no3 t_no3
  dsimp only [T.rd, T.rl]
  refine allR_ite (fun c1 => ?_) (fun c1 => ?_)
  ·have c1 : s.i < s.n := by simpa using c1
   rw [wrapS (x := s.i + 1) (by omega) (by omega)]
   show _ ++ _ = _ ++ _
   simp only
   rw [(gCh_step h0 (show s.i < s.l.length by omega)).1]
   simp
  ·rfl) s hE
 obtain ⟨s', hI, q1, q2⟩ := no3_fin s hE
 have q3 : (run_no3 s).i = (run_no3 s).n := q2
 have hn : (run_no3 s).n = (s.l.length : Int) := hE.2.1
 have hl : (run_no3 s).l = s.l := rfl
 rw [q3, hn, hl, List.drop_eq_nil_of_le (by omega), hE.1] at hk
 simpa using hk
structure L_no4 where
 l : List (ByteArray × Int)
 n : Int
 i : Int
 out : List ByteArray
def A_no4 (s : L_no4) : List LV := [.os 0 1 0 (List.length s.out), .xl tBa s.l, .v (.int .i64 s.n), .v (.int .i64 s.i)]
def B_no4 (s : L_no4) : List Blk := [⟨[], 9, .vec .str s.out, false⟩]
noncomputable def body_no4 : Code := ((loopsIn (Try.f55.body.getD .skip))[4]?).getD .skip
def t_no4 (s : L_no4) : T (Rd L_no4) :=
 .br (decide (s.i < s.n)) (.req (0 ≤ s.i ∧ s.i < (List.length s.l : Int)) (.req (0 + (List.length s.out) = List.length s.out ∧ ((List.length s.out + List.length ([(gBa s.l s.i).1]) : Nat) : Int) * 16 ≤ 2 ^ 47 ∧ ((List.length s.out + List.length ([(gBa s.l s.i).1]) : Nat) : Int) < 2 ^ 62) (.req (0 = 0 ∧ (List.length s.out + List.length ([(gBa s.l s.i).1])) = List.length (s.out ++ ([(gBa s.l s.i).1]))) (.ok (.next { s with i := (IntKind.i64.wrap (s.i + 1)), out := (s.out ++ ([(gBa s.l s.i).1])) }))))) (.rl s.out (.ok (.stop (.exit 8) s)))
abbrev f_no4 (s : L_no4) := (t_no4 s).rd s
def E_no4 (s : L_no4) : Prop := s.i = 0 ∧ s.n = (s.l.length : Int) ∧ s.n ≤ 1000 ∧ (s.out.length : Int) ≤ 10000
def I_no4 (s : L_no4) : Prop := 0 ≤ s.i ∧ s.i ≤ s.n ∧ s.n = (s.l.length : Int) ∧ s.n ≤ 1000 ∧ (s.out.length : Int) ≤ 10000 + s.i
def mu_no4 (s : L_no4) : Nat := (s.n - s.i).toNat
def Q_no4 (x : Ex) (_ s' : L_no4) : Prop := x = .exit 8 ∧ s'.i = s'.n
theorem no4_E : ∀ s, E_no4 s → I_no4 s := by
 intro s h
 obtain ⟨h0, h1, h2, h3⟩ := h
 exact ⟨by omega, by omega, h1, h2, by omega⟩
theorem no4_da (s : L_no4) (hI : I_no4 s) : allR (fun s' => I_no4 s' ∧ mu_no4 s' < mu_no4 s) (fun x s' => Q_no4 x s s') (f_no4 s) := by
 unfold f_no4 t_no4
 dsimp only [T.rd, T.rl]
 obtain ⟨h0, h1, h2, h3, h4⟩ := hI
 refine allR_ite (fun c1 => ?_) (fun c1 => ?_)
 ·have c1 : s.i < s.n := by simpa using c1
  rw [wrapS (x := s.i + 1) (by omega) (by omega)]
  exact ⟨⟨by simp only; omega, by simp only; omega, h2, h3, by simp only [List.length_append, List.length_cons, List.length_nil]; omega⟩, by simp only [mu_no4]; omega⟩
 ·have c1 : s.n ≤ s.i := by simpa using c1
  exact ⟨rfl, by omega⟩
def D_no4 : LpD L_no4 := ⟨0, 80, [3, 67, 68, 69], [], A_no4, B_no4, fun v b => ⟨gXl tBa (v.getD 1 .junk), gI (v.getD 2 .junk), gI (v.getD 3 .junk), gVe .str (gBk b 0)⟩, t_no4, fun s r => { r with l := s.l, n := s.n }, fun s => s, fun _ s => s, [.exit 8], E_no4, I_no4, mu_no4⟩
abbrev run_no4 := D_no4.run
abbrev exn_no4 := D_no4.exn
abbrev E_no4q := D_no4.q
theorem rq_no4 (s : L_no4) (hI : I_no4 s) : (t_no4 s).all (fun _ => True) := by
 refine ⟨fun c1 => ⟨?_, ?_, ?_, trivial⟩, fun c1 => ⟨⟨rfl, rfl⟩, trivial⟩⟩
 all_goals ((obtain ⟨h0, h1, h2, h3, h4⟩ := hI; (try simp only [decide_eq_true_eq] at c1); first | omega | (refine ⟨by omega, ?_, ?_⟩ <;> simp only [List.length_cons, List.length_nil] <;> omega) | (simp only [List.length_append, List.length_cons, List.length_nil]; omega) | exact ⟨rfl, by simp⟩ | exact ⟨rfl, rfl⟩))
theorem ok_no4 : D_no4.Ok := ⟨fun s => by kernel_rfl, fun s => by kernel_rfl, fun s => rfl, fun s t r => rfl, fun s => rfl, fun s => by kernel_rfl⟩
theorem pf_no4 : D_no4.Pf (Q_no4) := ⟨no4_E, fun _ _ => rfl, no4_da, rq_no4⟩
theorem snd_no4 : SoundA Try.prog noGlobs (AN 0) (.loop body_no4) D_no4.lp := LpD.snd ok_no4 pf_no4 (code_sound (Γ := gam13) (K := noK) (L := noLoops) gok13 noK_sound body_no4 (fun b hb => by rw [show loopsIn body_no4 = [] by kernel_rfl] at hb; cases hb)) (fun s => by kernel_rfl)
theorem no4_fin (s : L_no4) (hE : E_no4 s) : ∃ s', I_no4 s' ∧ Q_no4 (exn_no4 s) s' (run_no4 s) := LpD.fin ok_no4 pf_no4 s hE
theorem no4_out (s : L_no4) (hE : E_no4 s) : (run_no4 s).out = s.out ++ s.l.map (·.1) := by
 have hk := LpD.keepV ok_no4 pf_no4 (fun s => s.out ++ (s.l.drop s.i.toNat).map (·.1)) (fun s hI => by
  obtain ⟨h0, h1, h2, h3, h4⟩ := hI
  show allR _ _ (f_no4 s)
  unfold f_no4 t_no4
  dsimp only [T.rd, T.rl]
  refine allR_ite (fun c1 => ?_) (fun c1 => ?_)
  ·have c1 : s.i < s.n := by simpa using c1
   rw [wrapS (x := s.i + 1) (by omega) (by omega)]
   show _ ++ _ = _ ++ _
   simp only
   rw [(gBa_step h0 (show s.i < s.l.length by omega)).1]
   simp
  ·rfl) s hE
 obtain ⟨s', hI, q1, q2⟩ := no4_fin s hE
 have q3 : (run_no4 s).i = (run_no4 s).n := q2
 have hn : (run_no4 s).n = (s.l.length : Int) := hE.2.1
 have hl : (run_no4 s).l = s.l := rfl
 rw [q3, hn, hl, List.drop_eq_nil_of_le (by omega), hE.1] at hk
 simpa using hk
def S0_nmso : List LV → T LV
 | [.agg [.xl (.pair .str (.pair (.int .i64) (.pair (.int .i64) (.pair (.int .i64) (.pair (.pair (.int .i64) (.int .i64)) (.pair (.int .i64) (.pair (.int .i64) (.pair (.int .i64) (.pair (.int .i64) (.int .i64)))))))))) cs, .xl (.str) os, .xl (.pair .str (.pair (.int .i64) (.pair (.int .i64) (.int .i64)))) ks, .xl (.pair .str (.pair (.int .i64) (.pair (.int .i64) (.pair (.int .i64) (.pair (.int .i64) (.pair (.int .i64) (.pair (.int .i64) (.int .i64)))))))) gs, .xl (.pair .str (.int .i64)) bs]] => .req ((List.length cs : Int) ≤ 1000 ∧ (List.length os : Int) ≤ 1000 ∧ (List.length ks : Int) ≤ 1000 ∧ (List.length gs : Int) ≤ 1000 ∧ (List.length bs : Int) ≤ 1000) (.ok (.xl .str (nmsOf cs os ks gs bs)))
 | _ => .no
noncomputable def S_nmso : List LV → T LV := upS Try.prog Try.f55.params.toList S0_nmso
theorem nf_nmso (cs : List (ByteArray × (Int × (Int × (Int × ((Int × Int) × (Int × (Int × (Int × (Int × Int)))))))))) (os : List ByteArray) (ks : List (ByteArray × (Int × (Int × Int)))) (gs : List (ByteArray × (Int × (Int × (Int × (Int × (Int × (Int × Int)))))))) (bs : List (ByteArray × Int)) : funu Try.prog noGlobs (gam13) noK (fun i => if i = 3 then D_no0.lp else if i = 8 then D_no1.lp else if i = 13 then D_no2.lp else if i = 18 then D_no3.lp else if i = 23 then D_no4.lp else noLoops i) Try.f55 [.agg [.xl tCd cs, .xl .str os, .xl tKo ks, .xl tCh gs, .xl tBa bs]] = .req (0 = 0 ∧ 0 = List.length ([] : List ByteArray)) (.req (E_no0q (⟨cs, (List.length cs : Int), (0 : Int), cs, os, ks, gs, bs, ([] : List ByteArray)⟩ : L_no0)) (.rl (run_no0 (⟨cs, (List.length cs : Int), (0 : Int), cs, os, ks, gs, bs, ([] : List ByteArray)⟩ : L_no0)).out (.req (E_no1q (⟨os, (List.length os : Int), (0 : Int), cs, os, ks, gs, bs, (run_no0 (⟨cs, (List.length cs : Int), (0 : Int), cs, os, ks, gs, bs, ([] : List ByteArray)⟩ : L_no0)).out⟩ : L_no1)) (.rl (run_no1 (⟨os, (List.length os : Int), (0 : Int), cs, os, ks, gs, bs, (run_no0 (⟨cs, (List.length cs : Int), (0 : Int), cs, os, ks, gs, bs, ([] : List ByteArray)⟩ : L_no0)).out⟩ : L_no1)).out (.req (E_no2q (⟨ks, (List.length ks : Int), (0 : Int), cs, os, ks, gs, bs, (run_no1 (⟨os, (List.length os : Int), (0 : Int), cs, os, ks, gs, bs, (run_no0 (⟨cs, (List.length cs : Int), (0 : Int), cs, os, ks, gs, bs, ([] : List ByteArray)⟩ : L_no0)).out⟩ : L_no1)).out⟩ : L_no2)) (.rl (run_no2 (⟨ks, (List.length ks : Int), (0 : Int), cs, os, ks, gs, bs, (run_no1 (⟨os, (List.length os : Int), (0 : Int), cs, os, ks, gs, bs, (run_no0 (⟨cs, (List.length cs : Int), (0 : Int), cs, os, ks, gs, bs, ([] : List ByteArray)⟩ : L_no0)).out⟩ : L_no1)).out⟩ : L_no2)).out (.req (E_no3q (⟨gs, (List.length gs : Int), (0 : Int), cs, os, ks, gs, bs, (run_no2 (⟨ks, (List.length ks : Int), (0 : Int), cs, os, ks, gs, bs, (run_no1 (⟨os, (List.length os : Int), (0 : Int), cs, os, ks, gs, bs, (run_no0 (⟨cs, (List.length cs : Int), (0 : Int), cs, os, ks, gs, bs, ([] : List ByteArray)⟩ : L_no0)).out⟩ : L_no1)).out⟩ : L_no2)).out⟩ : L_no3)) (.rl (run_no3 (⟨gs, (List.length gs : Int), (0 : Int), cs, os, ks, gs, bs, (run_no2 (⟨ks, (List.length ks : Int), (0 : Int), cs, os, ks, gs, bs, (run_no1 (⟨os, (List.length os : Int), (0 : Int), cs, os, ks, gs, bs, (run_no0 (⟨cs, (List.length cs : Int), (0 : Int), cs, os, ks, gs, bs, ([] : List ByteArray)⟩ : L_no0)).out⟩ : L_no1)).out⟩ : L_no2)).out⟩ : L_no3)).out (.req (E_no4q (⟨bs, (List.length bs : Int), (0 : Int), (run_no3 (⟨gs, (List.length gs : Int), (0 : Int), cs, os, ks, gs, bs, (run_no2 (⟨ks, (List.length ks : Int), (0 : Int), cs, os, ks, gs, bs, (run_no1 (⟨os, (List.length os : Int), (0 : Int), cs, os, ks, gs, bs, (run_no0 (⟨cs, (List.length cs : Int), (0 : Int), cs, os, ks, gs, bs, ([] : List ByteArray)⟩ : L_no0)).out⟩ : L_no1)).out⟩ : L_no2)).out⟩ : L_no3)).out⟩ : L_no4)) (.req (0 + (List.length (run_no4 (⟨bs, (List.length bs : Int), (0 : Int), (run_no3 (⟨gs, (List.length gs : Int), (0 : Int), cs, os, ks, gs, bs, (run_no2 (⟨ks, (List.length ks : Int), (0 : Int), cs, os, ks, gs, bs, (run_no1 (⟨os, (List.length os : Int), (0 : Int), cs, os, ks, gs, bs, (run_no0 (⟨cs, (List.length cs : Int), (0 : Int), cs, os, ks, gs, bs, ([] : List ByteArray)⟩ : L_no0)).out⟩ : L_no1)).out⟩ : L_no2)).out⟩ : L_no3)).out⟩ : L_no4)).out) ≤ List.length (run_no4 (⟨bs, (List.length bs : Int), (0 : Int), (run_no3 (⟨gs, (List.length gs : Int), (0 : Int), cs, os, ks, gs, bs, (run_no2 (⟨ks, (List.length ks : Int), (0 : Int), cs, os, ks, gs, bs, (run_no1 (⟨os, (List.length os : Int), (0 : Int), cs, os, ks, gs, bs, (run_no0 (⟨cs, (List.length cs : Int), (0 : Int), cs, os, ks, gs, bs, ([] : List ByteArray)⟩ : L_no0)).out⟩ : L_no1)).out⟩ : L_no2)).out⟩ : L_no3)).out⟩ : L_no4)).out) (.ok (.xl .str (((run_no4 (⟨bs, (List.length bs : Int), (0 : Int), (run_no3 (⟨gs, (List.length gs : Int), (0 : Int), cs, os, ks, gs, bs, (run_no2 (⟨ks, (List.length ks : Int), (0 : Int), cs, os, ks, gs, bs, (run_no1 (⟨os, (List.length os : Int), (0 : Int), cs, os, ks, gs, bs, (run_no0 (⟨cs, (List.length cs : Int), (0 : Int), cs, os, ks, gs, bs, ([] : List ByteArray)⟩ : L_no0)).out⟩ : L_no1)).out⟩ : L_no2)).out⟩ : L_no3)).out⟩ : L_no4)).out.drop 0).take (List.length (run_no4 (⟨bs, (List.length bs : Int), (0 : Int), (run_no3 (⟨gs, (List.length gs : Int), (0 : Int), cs, os, ks, gs, bs, (run_no2 (⟨ks, (List.length ks : Int), (0 : Int), cs, os, ks, gs, bs, (run_no1 (⟨os, (List.length os : Int), (0 : Int), cs, os, ks, gs, bs, (run_no0 (⟨cs, (List.length cs : Int), (0 : Int), cs, os, ks, gs, bs, ([] : List ByteArray)⟩ : L_no0)).out⟩ : L_no1)).out⟩ : L_no2)).out⟩ : L_no3)).out⟩ : L_no4)).out)))))))))))))) := by kernel_rfl
theorem v_nmso : Valid Try.prog noGlobs 55 S_nmso := valid_ofu Try.func55 rfl gok13 noK_sound (L := (fun i => if i = 3 then D_no0.lp else if i = 8 then D_no1.lp else if i = 13 then D_no2.lp else if i = 18 then D_no3.lp else if i = 23 then D_no4.lp else noLoops i)) (fun b hb => by
 rw [show loopsIn _ = [body_no0, body_no1, body_no2, body_no3, body_no4] by kernel_rfl] at hb
 simp only [List.mem_cons, List.not_mem_nil, or_false] at hb
 rcases hb with rfl | rfl | rfl | rfl | rfl
 ·exact snd_no0
 ·exact snd_no1
 ·exact snd_no2
 ·exact snd_no3
 ·exact snd_no4) (fun args lv h => by
 unfold S0_nmso at h
 split at h
 ·simp only [canL, canX]
  rw [nf_nmso]
  rename_i cs os ks gs bs
  obtain ⟨⟨hc, ho, hk, hg, hb⟩, rfl⟩ := h
  have hE0 : E_no0 ⟨cs, (List.length cs : Int), (0 : Int), cs, os, ks, gs, bs, ([] : List ByteArray)⟩ := ⟨rfl, rfl, hc, by simp only; decide⟩
  have o0 := no0_out _ hE0
  refine ⟨⟨rfl, rfl⟩, ⟨hE0, rfl, rfl⟩, ?_⟩
  generalize (run_no0 ⟨cs, (List.length cs : Int), (0 : Int), cs, os, ks, gs, bs, ([] : List ByteArray)⟩).out = r0 at *
  have o0 : r0 = ([] : List ByteArray) ++ cs.map (·.1) := o0
  have l0 : (List.length r0 : Int) ≤ 1000 := by rw [o0]; simp only [List.length_append, List.length_map, List.length_nil]; omega
  have hE1 : E_no1 ⟨os, (List.length os : Int), (0 : Int), cs, os, ks, gs, bs, r0⟩ := ⟨rfl, rfl, ho, by simp only; omega⟩
  have o1 := no1_out _ hE1
  refine ⟨⟨rfl, rfl⟩, ⟨hE1, rfl, rfl⟩, ?_⟩
  generalize (run_no1 ⟨os, (List.length os : Int), (0 : Int), cs, os, ks, gs, bs, r0⟩).out = r1 at *
  have o1 : r1 = r0 ++ os := o1
  have l1 : (List.length r1 : Int) ≤ 2000 := by rw [o1]; simp only [List.length_append]; omega
  have hE2 : E_no2 ⟨ks, (List.length ks : Int), (0 : Int), cs, os, ks, gs, bs, r1⟩ := ⟨rfl, rfl, hk, by simp only; omega⟩
  have o2 := no2_out _ hE2
  refine ⟨⟨rfl, rfl⟩, ⟨hE2, rfl, rfl⟩, ?_⟩
  generalize (run_no2 ⟨ks, (List.length ks : Int), (0 : Int), cs, os, ks, gs, bs, r1⟩).out = r2 at *
  have o2 : r2 = r1 ++ ks.map (·.1) := o2
  have l2 : (List.length r2 : Int) ≤ 3000 := by rw [o2]; simp only [List.length_append, List.length_map]; omega
  have hE3 : E_no3 ⟨gs, (List.length gs : Int), (0 : Int), cs, os, ks, gs, bs, r2⟩ := ⟨rfl, rfl, hg, by simp only; omega⟩
  have o3 := no3_out _ hE3
  refine ⟨⟨rfl, rfl⟩, ⟨hE3, rfl, rfl⟩, ?_⟩
  generalize (run_no3 ⟨gs, (List.length gs : Int), (0 : Int), cs, os, ks, gs, bs, r2⟩).out = r3 at *
  have o3 : r3 = r2 ++ gs.map (·.1) := o3
  have l3 : (List.length r3 : Int) ≤ 4000 := by rw [o3]; simp only [List.length_append, List.length_map]; omega
  have hE4 : E_no4 ⟨bs, (List.length bs : Int), (0 : Int), r3⟩ := ⟨rfl, rfl, hb, by simp only; omega⟩
  have o4 := no4_out _ hE4
  refine ⟨⟨rfl, rfl⟩, ⟨hE4, rfl, rfl⟩, ?_⟩
  generalize (run_no4 ⟨bs, (List.length bs : Int), (0 : Int), r3⟩).out = r4 at *
  have o4 : r4 = r3 ++ bs.map (·.1) := o4
  have l4 : (List.length r4 : Int) ≤ 5000 := by rw [o4]; simp only [List.length_append, List.length_map]; omega
  refine ⟨by omega, ?_⟩
  show LV.xl _ _ = _
  rw [List.drop_zero, List.take_of_length_le (by omega), o4, o3, o2, o1, o0, List.nil_append]
  rfl
 ·cases h)
end Go.Proofs.Ytihbikkkmoaljaa
