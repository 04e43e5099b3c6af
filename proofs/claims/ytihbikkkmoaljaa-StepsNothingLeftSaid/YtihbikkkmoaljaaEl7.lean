/- StepsNothingLeft: what it computes. -/
import Derived.Test.YtihbikkkmoaljaaEi
import Derived.Test.YtihbikkkmoaljaaEw
namespace Go.Proofs.Ytihbikkkmoaljaa
open Go.Sx
structure L_l7c where
 al : List Int
 mo : List Int
 r : Bool
 up_ : Bool
 x : List Int
 rw0 : List (Int × (List Int))
 rows : List (Int × (List Int))
 rn : Int
 k : Int
 ms : List Int
 n : Int
 i : Int
 s_Conductors : List (ByteArray × (Int × (Int × (Int × ((Int × Int) × (Int × (Int × (Int × (Int × Int)))))))))
 s_Owners : List ByteArray
 s_Contracts : List (ByteArray × (Int × (Int × Int)))
 s_Chargers : List (ByteArray × (Int × (Int × (Int × (Int × (Int × (Int × Int)))))))
 s_Bays : List (ByteArray × Int)
def A_l7c (s : L_l7c) : List LV := [.xl (.int .i64) s.al, .xl (.int .i64) s.mo, .own 0 0, .v (.bool s.r), .v (.bool s.up_), .xl (.int .i64) s.x, .xl tRw s.rw0, .xl tRw s.rows, .v (.int .i64 s.rn), .v (.int .i64 s.k), .xl (.int .i64) s.ms, .v (.int .i64 s.n), .v (.int .i64 s.i)]
def B_l7c (s : L_l7c) : List Blk := [⟨[.xl tCd s.s_Conductors, .xl .str s.s_Owners, .xl tKo s.s_Contracts, .xl tCh s.s_Chargers, .xl tBa s.s_Bays], 30, .cl, false⟩]
noncomputable def body_l7c : Code := ((loopsIn (((loopsIn (Try.f9.body.getD .skip))[0]?).getD .skip))[0]?).getD .skip
def t_l7c (s : L_l7c) : T (Rd L_l7c) :=
 .br (decide (s.i < s.n)) (.req (0 ≤ s.i ∧ s.i < (List.length s.ms : Int)) (.br ((decide ((gi s.ms s.i) < 0)) || (decide ((gi s.ms s.i) ≥ (List.length s.x : Int)))) (.ok (.stop (.ret) { s with r := false })) (.ok (.next { s with i := (IntKind.i64.wrap (s.i + 1)) })))) (.ok (.stop (.exit 2) s))
abbrev f_l7c (s : L_l7c) := (t_l7c s).rd s
def E_l7c (s : L_l7c) : Prop := s.i = 0 ∧ s.n = (List.length s.ms : Int) ∧ s.n ≤ 1000 ∧ ∀ m ∈ s.ms, 0 ≤ m ∧ m < (List.length s.x : Int)
def I_l7c (s : L_l7c) : Prop := (0 ≤ s.i ∧ s.i ≤ s.n) ∧ s.n = (List.length s.ms : Int) ∧ s.n ≤ 1000 ∧ ∀ m ∈ s.ms, 0 ≤ m ∧ m < (List.length s.x : Int)
def mu_l7c (s : L_l7c) : Nat := (s.n - s.i).toNat
def Q_l7c (x : Ex) (_ _ : L_l7c) : Prop := x = .exit 2
theorem l7c_E : ∀ s, E_l7c s → I_l7c s := by
 intro s h
 obtain ⟨h0, h2, h3, h4⟩ := h
 exact ⟨by omega, h2, h3, h4⟩
theorem l7c_da (s : L_l7c) (hI : I_l7c s) : allR (fun s' => I_l7c s' ∧ mu_l7c s' < mu_l7c s) (fun x s' => Q_l7c x s s') (f_l7c s) := by
 unfold f_l7c t_l7c
 dsimp only [T.rd, T.rl]
 obtain ⟨⟨h0, h1⟩, h2, h3, h4⟩ := hI
 refine allR_ite (fun c1 => ?_) (fun c1 => ?_)
 ·refine allR_ite (fun c2 => ?_) (fun c2 => ?_)
  ·have c1 : s.i < s.n := by simpa using c1
   have hm := h4 (gi s.ms s.i) (gi_mem h0 (by omega))
   have e1 : (decide (gi s.ms s.i < 0) || decide (gi s.ms s.i ≥ (List.length s.x : Int))) = false := by rw [decide_eq_false (by omega), decide_eq_false (by omega)]; rfl
   first | exact absurd (e1.symm.trans c2) (by decide)
  ·have c1 : s.i < s.n := by simpa using c1
   rw [wrapS (x := s.i + 1) (by omega) (by omega)]
   exact ⟨⟨⟨by simp only; omega, by simp only; omega⟩, h2, h3, h4⟩, by simp only [mu_l7c]; omega⟩
 ·exact rfl
def D_l7c : LpD L_l7c := ⟨0, 123, [1, 2, 4, 8, 9, 10, 12, 57, 58, 59, 64, 65, 66], [], A_l7c, B_l7c, fun v b => ⟨gXl (.int .i64) (v.getD 0 .junk), gXl (.int .i64) (v.getD 1 .junk), gBo (v.getD 3 .junk), gBo (v.getD 4 .junk), gXl (.int .i64) (v.getD 5 .junk), gXl tRw (v.getD 6 .junk), gXl tRw (v.getD 7 .junk), gI (v.getD 8 .junk), gI (v.getD 9 .junk), gXl (.int .i64) (v.getD 10 .junk), gI (v.getD 11 .junk), gI (v.getD 12 .junk), gXl tCd (gCe (gBk b 0) 0), gXl .str (gCe (gBk b 0) 1), gXl tKo (gCe (gBk b 0) 2), gXl tCh (gCe (gBk b 0) 3), gXl tBa (gCe (gBk b 0) 4)⟩, t_l7c, fun s r => { r with al := s.al, mo := s.mo, up_ := s.up_, x := s.x, rw0 := s.rw0, rows := s.rows, rn := s.rn, k := s.k, ms := s.ms, n := s.n, s_Conductors := s.s_Conductors, s_Owners := s.s_Owners, s_Contracts := s.s_Contracts, s_Chargers := s.s_Chargers, s_Bays := s.s_Bays }, fun s => s, fun _ s => s, [.ret, .exit 2], E_l7c, I_l7c, mu_l7c⟩
abbrev run_l7c := D_l7c.run
abbrev exn_l7c := D_l7c.exn
abbrev E_l7cq := D_l7c.q
theorem rq_l7c (s : L_l7c) (hI : I_l7c s) : (t_l7c s).all (fun _ => True) := by
 refine ⟨fun c1 => ⟨?_, fun _ => trivial, fun _ => trivial⟩, fun _ => trivial⟩
 ·(obtain ⟨⟨h0, h1⟩, h2, h3, h4⟩ := hI; simp only [decide_eq_true_eq] at c1; omega)
noncomputable def gam69 : Specs := specsOf [(10, S_head), (12, S_ampsE), (14, S_shar), (19, S_levl), (22, S_usab), (23, S_rows), (25, S_rperm)]
theorem gok69 : ∀ g S, gam69 g = some S → Valid Try.prog noGlobs g S := specs_ok (l := [(10, S_head), (12, S_ampsE), (14, S_shar), (19, S_levl), (22, S_usab), (23, S_rows), (25, S_rperm)]) ⟨v_head, v_ampsE, v_shar, v_levl, v_usab, v_rows, v_rperm, trivial⟩
theorem ok_l7c : D_l7c.Ok := ⟨fun s => by kernel_rfl, fun s => by kernel_rfl, fun s => rfl, fun s t r => rfl, fun s => rfl, fun s => by kernel_rfl⟩
theorem pf_l7c : D_l7c.Pf (Q_l7c) := ⟨l7c_E, fun _ _ => rfl, l7c_da, rq_l7c⟩
theorem snd_l7c : SoundA Try.prog noGlobs (AN 0) (.loop body_l7c) D_l7c.lp := LpD.snd ok_l7c pf_l7c (code_sound (Γ := gam69) (K := noK) (L := noLoops) gok69 noK_sound body_l7c (fun b hb => by rw [show loopsIn body_l7c = [] by kernel_rfl] at hb; cases hb)) (fun s => by kernel_rfl)
theorem l7c_fin (s : L_l7c) (hE : E_l7c s) : ∃ s', I_l7c s' ∧ Q_l7c (exn_l7c s) s' (run_l7c s) := LpD.fin ok_l7c pf_l7c s hE
structure L_l7a where
 al : List Int
 mo : List Int
 r : Bool
 up_ : Bool
 x : List Int
 rw0 : List (Int × (List Int))
 rows : List (Int × (List Int))
 n : Int
 k : Int
 s_Conductors : List (ByteArray × (Int × (Int × (Int × ((Int × Int) × (Int × (Int × (Int × (Int × Int)))))))))
 s_Owners : List ByteArray
 s_Contracts : List (ByteArray × (Int × (Int × Int)))
 s_Chargers : List (ByteArray × (Int × (Int × (Int × (Int × (Int × (Int × Int)))))))
 s_Bays : List (ByteArray × Int)
def A_l7a (s : L_l7a) : List LV := [.xl (.int .i64) s.al, .xl (.int .i64) s.mo, .own 0 0, .v (.bool s.r), .v (.bool s.up_), .xl (.int .i64) s.x, .xl tRw s.rw0, .xl tRw s.rows, .v (.int .i64 s.n), .v (.int .i64 s.k)]
def B_l7a (s : L_l7a) : List Blk := [⟨[.xl tCd s.s_Conductors, .xl .str s.s_Owners, .xl tKo s.s_Contracts, .xl tCh s.s_Chargers, .xl tBa s.s_Bays], 30, .cl, false⟩]
noncomputable def body_l7a : Code := ((loopsIn (Try.f9.body.getD .skip))[0]?).getD .skip
def st14_l7c (s : L_l7a) : L_l7c := (⟨s.al, s.mo, s.r, s.up_, s.x, s.rw0, s.rows, s.n, s.k, (gRw s.rows s.k).2, (List.length (gRw s.rows s.k).2 : Int), (0 : Int), s.s_Conductors, s.s_Owners, s.s_Contracts, s.s_Chargers, s.s_Bays⟩ : L_l7c)
def t_l7a (s : L_l7a) : T (Rd L_l7a) :=
 .br (decide (s.k < s.n)) (.req (0 ≤ s.k ∧ s.k < (List.length s.rows : Int)) (.req (E_l7cq (st14_l7c s)) (.br (isEx (exn_l7c (st14_l7c s)) (.ret)) (.ok (.stop (.ret) { s with r := (run_l7c (st14_l7c s)).r })) (.ok (.next { s with r := (run_l7c (st14_l7c s)).r, k := (IntKind.i64.wrap (s.k + 1)) }))))) (.ok (.stop (.exit 0) s))
abbrev f_l7a (s : L_l7a) := (t_l7a s).rd s
def E_l7a (s : L_l7a) : Prop := s.k = 0 ∧ s.n = (List.length s.rows : Int) ∧ s.n ≤ 1000 ∧ ∀ r ∈ s.rows, (r.2.length : Int) ≤ 1000 ∧ ∀ m ∈ r.2, 0 ≤ m ∧ m < (List.length s.x : Int)
def I_l7a (s : L_l7a) : Prop := (0 ≤ s.k ∧ s.k ≤ s.n) ∧ s.n = (List.length s.rows : Int) ∧ s.n ≤ 1000 ∧ ∀ r ∈ s.rows, (r.2.length : Int) ≤ 1000 ∧ ∀ m ∈ r.2, 0 ≤ m ∧ m < (List.length s.x : Int)
def mu_l7a (s : L_l7a) : Nat := (s.n - s.k).toNat
def Q_l7a (x : Ex) (_ _ : L_l7a) : Prop := x = .exit 0
theorem l7a_E : ∀ s, E_l7a s → I_l7a s := by
 intro s h
 obtain ⟨h0, h2, h3, h4⟩ := h
 exact ⟨by omega, h2, h3, h4⟩
theorem l7a_da (s : L_l7a) (hI : I_l7a s) : allR (fun s' => I_l7a s' ∧ mu_l7a s' < mu_l7a s) (fun x s' => Q_l7a x s s') (f_l7a s) := by
 unfold f_l7a t_l7a
 dsimp only [T.rd, T.rl]
 obtain ⟨⟨h0, h1⟩, h2, h3, h4⟩ := hI
 refine allR_ite (fun c1 => ?_) (fun c1 => ?_)
 ·refine allR_ite (fun c2 => ?_) (fun c2 => ?_)
  ·have c1 : s.k < s.n := by simpa using c1
   have hin : E_l7c (st14_l7c s) := ⟨rfl, rfl, (h4 _ (gRw_mem h0 (by omega))).1, (h4 _ (gRw_mem h0 (by omega))).2⟩
   obtain ⟨_, _, q1⟩ := l7c_fin _ hin
   have e1 : isEx (exn_l7c (st14_l7c s)) .ret = false := by rw [show exn_l7c (st14_l7c s) = _ from q1]; rfl
   first | exact absurd (e1.symm.trans c2) (by decide)
  ·have c1 : s.k < s.n := by simpa using c1
   rw [wrapS (x := s.k + 1) (by omega) (by omega)]
   exact ⟨⟨⟨by simp only; omega, by simp only; omega⟩, h2, h3, h4⟩, by simp only [mu_l7a]; omega⟩
 ·exact rfl
def D_l7a : LpD L_l7a := ⟨0, 123, [1, 2, 4, 8, 9, 10, 12, 57, 58, 59], [], A_l7a, B_l7a, fun v b => ⟨gXl (.int .i64) (v.getD 0 .junk), gXl (.int .i64) (v.getD 1 .junk), gBo (v.getD 3 .junk), gBo (v.getD 4 .junk), gXl (.int .i64) (v.getD 5 .junk), gXl tRw (v.getD 6 .junk), gXl tRw (v.getD 7 .junk), gI (v.getD 8 .junk), gI (v.getD 9 .junk), gXl tCd (gCe (gBk b 0) 0), gXl .str (gCe (gBk b 0) 1), gXl tKo (gCe (gBk b 0) 2), gXl tCh (gCe (gBk b 0) 3), gXl tBa (gCe (gBk b 0) 4)⟩, t_l7a, fun s r => { r with al := s.al, mo := s.mo, up_ := s.up_, x := s.x, rw0 := s.rw0, rows := s.rows, n := s.n, s_Conductors := s.s_Conductors, s_Owners := s.s_Owners, s_Contracts := s.s_Contracts, s_Chargers := s.s_Chargers, s_Bays := s.s_Bays }, fun s => s, fun _ s => s, [.ret, .exit 0], E_l7a, I_l7a, mu_l7a⟩
abbrev run_l7a := D_l7a.run
abbrev exn_l7a := D_l7a.exn
abbrev E_l7aq := D_l7a.q
theorem rq_l7a (s : L_l7a) (hI : I_l7a s) : (t_l7a s).all (fun _ => True) := by
 refine ⟨fun c1 => ⟨?_, ?_, fun _ => trivial, fun _ => trivial⟩, fun _ => trivial⟩
 all_goals ((obtain ⟨⟨h0, h1⟩, h2, h3, h4⟩ := hI; simp only [decide_eq_true_eq] at c1; (first | omega | exact ⟨⟨rfl, rfl, (h4 _ (gRw_mem h0 (by omega))).1, (h4 _ (gRw_mem h0 (by omega))).2⟩, rfl, rfl⟩)))
theorem ok_l7a : D_l7a.Ok := ⟨fun s => by kernel_rfl, fun s => by kernel_rfl, fun s => rfl, fun s t r => rfl, fun s => rfl, fun s => by kernel_rfl⟩
theorem pf_l7a : D_l7a.Pf (Q_l7a) := ⟨l7a_E, fun _ _ => rfl, l7a_da, rq_l7a⟩
theorem snd_l7a : SoundA Try.prog noGlobs (AN 0) (.loop body_l7a) D_l7a.lp := LpD.snd ok_l7a pf_l7a (code_sound (Γ := gam69) (K := noK) (L := (fun i => if i = 12 then D_l7c.lp else noLoops i)) gok69 noK_sound body_l7a (fun b hb => by
 rw [show loopsIn _ = [body_l7c] by kernel_rfl] at hb
 simp only [List.mem_cons, List.not_mem_nil, or_false] at hb
 subst hb
 exact snd_l7c)) (fun s => by kernel_rfl)
theorem l7a_fin (s : L_l7a) (hE : E_l7a s) : ∃ s', I_l7a s' ∧ Q_l7a (exn_l7a s) s' (run_l7a s) := LpD.fin ok_l7a pf_l7a s hE
structure L_l7b where
 al : List Int
 mo : List Int
 r : Bool
 up_ : Bool
 x : List Int
 rows : List (Int × (List Int))
 gs : List (ByteArray × (Int × (Int × (Int × (Int × (Int × (Int × Int)))))))
 n : Int
 i : Int
def A_l7b (s : L_l7b) : List LV := [.xl (.int .i64) s.al, .xl (.int .i64) s.mo, .v (.bool s.r), .v (.bool s.up_), .xl (.int .i64) s.x, .xl tRw s.rows, .xl tCh s.gs, .v (.int .i64 s.n), .v (.int .i64 s.i)]
def B_l7b (_ : L_l7b) : List Blk := []
noncomputable def body_l7b : Code := ((loopsIn (Try.f9.body.getD .skip))[1]?).getD .skip
def t_l7b (s : L_l7b) : T (Rd L_l7b) :=
 .br (decide (s.i < s.n)) (.req (0 ≤ s.i ∧ s.i < (List.length s.gs : Int)) (.req (0 ≤ s.i ∧ s.i < (List.length s.x : Int)) (.req ((gi s.x s.i) ≤ 9223372036854775807) (.br ((amE (gCh s.gs s.i).2.2.2.1 (gCh s.gs s.i).2.2.2.2.1 (gCh s.gs s.i).2.2.2.2.2.1 (IntKind.i64.wrap ((lev (gCh s.gs s.i).2.2.2.1 (gCh s.gs s.i).2.2.2.2.1 (gCh s.gs s.i).2.2.2.2.2.1 (gi s.x s.i)) + 1))) != 0) (.ok (.next { s with i := (IntKind.i64.wrap (s.i + 1)) })) (.req (0 ≤ s.i ∧ s.i < (List.length s.mo : Int)) (.br (decide ((amA (gCh s.gs s.i).2.2.2.1 (gCh s.gs s.i).2.2.2.2.1 (gCh s.gs s.i).2.2.2.2.2.1 (IntKind.i64.wrap ((lev (gCh s.gs s.i).2.2.2.1 (gCh s.gs s.i).2.2.2.2.1 (gCh s.gs s.i).2.2.2.2.2.1 (gi s.x s.i)) + 1))) > (gi s.mo s.i))) (.ok (.next { s with i := (IntKind.i64.wrap (s.i + 1)) })) (.req (0 + 0 = List.length ([] : List Int) ∧ ((0 + List.length s.x : Nat) : Int) * 8 ≤ 2 ^ 47 ∧ ((0 + List.length s.x : Nat) : Int) < 2 ^ 62) (.req (0 ≤ s.i ∧ s.i < ((0 + List.length s.x : Nat) : Int)) (.req (s.i.toNat < List.length (([] : List Int) ++ s.x)) (.req (0 + (0 + List.length s.x) ≤ List.length ((([] : List Int) ++ s.x).set s.i.toNat (amA (gCh s.gs s.i).2.2.2.1 (gCh s.gs s.i).2.2.2.2.1 (gCh s.gs s.i).2.2.2.2.2.1 (IntKind.i64.wrap ((lev (gCh s.gs s.i).2.2.2.1 (gCh s.gs s.i).2.2.2.2.1 (gCh s.gs s.i).2.2.2.2.2.1 (gi s.x s.i)) + 1))))) (.req ((List.length s.rows : Int) ≤ 1000 ∧ ∀ r ∈ s.rows, rowR s.al ((((([] : List Int) ++ s.x).set s.i.toNat (amA (gCh s.gs s.i).2.2.2.1 (gCh s.gs s.i).2.2.2.2.1 (gCh s.gs s.i).2.2.2.2.2.1 (IntKind.i64.wrap ((lev (gCh s.gs s.i).2.2.2.1 (gCh s.gs s.i).2.2.2.2.1 (gCh s.gs s.i).2.2.2.2.2.1 (gi s.x s.i)) + 1)))).drop 0).take (0 + List.length s.x)) r) (.br (permB s.rows s.al ((((([] : List Int) ++ s.x).set s.i.toNat (amA (gCh s.gs s.i).2.2.2.1 (gCh s.gs s.i).2.2.2.2.1 (gCh s.gs s.i).2.2.2.2.2.1 (IntKind.i64.wrap ((lev (gCh s.gs s.i).2.2.2.1 (gCh s.gs s.i).2.2.2.2.1 (gCh s.gs s.i).2.2.2.2.2.1 (gi s.x s.i)) + 1)))).drop 0).take (0 + List.length s.x))) (.ok (.stop (.ret) { s with r := false })) (.ok (.next { s with i := (IntKind.i64.wrap (s.i + 1)) })))))))))))))) (.ok (.stop (.exit 4) s))
abbrev f_l7b (s : L_l7b) := (t_l7b s).rd s
def E_l7b (s : L_l7b) : Prop := s.i = 0 ∧ s.n = (List.length s.gs : Int) ∧ s.n ≤ 1000 ∧ s.mo.length = s.gs.length ∧ s.x.length = s.gs.length ∧ (List.length s.rows : Int) ≤ 1000 ∧ (∀ (k : Nat) (v : Int), 0 ≤ v ∧ v ≤ 6480 → ∀ r ∈ s.rows, rowR s.al (s.x.set k v) r) ∧ p7a s.rows s.gs s.al s.mo s.x
def I_l7b (s : L_l7b) : Prop := (0 ≤ s.i ∧ s.i ≤ s.n) ∧ s.n = (List.length s.gs : Int) ∧ s.n ≤ 1000 ∧ s.mo.length = s.gs.length ∧ s.x.length = s.gs.length ∧ (List.length s.rows : Int) ≤ 1000 ∧ (∀ (k : Nat) (v : Int), 0 ≤ v ∧ v ≤ 6480 → ∀ r ∈ s.rows, rowR s.al (s.x.set k v) r) ∧ p7a s.rows s.gs s.al s.mo s.x
def mu_l7b (s : L_l7b) : Nat := (s.n - s.i).toNat
def Q_l7b (x : Ex) (_ _ : L_l7b) : Prop := x = .exit 4
theorem l7b_E : ∀ s, E_l7b s → I_l7b s := by
 intro s h
 obtain ⟨h0, h2, h3, h4, h5, h6, h7, h8⟩ := h
 exact ⟨by omega, h2, h3, h4, h5, h6, h7, h8⟩
theorem l7b_da (s : L_l7b) (hI : I_l7b s) : allR (fun s' => I_l7b s' ∧ mu_l7b s' < mu_l7b s) (fun x s' => Q_l7b x s s') (f_l7b s) := by
 unfold f_l7b t_l7b
 dsimp only [T.rd, T.rl]
 obtain ⟨⟨h0, h1⟩, h2, h3, h4, h5, h6, h7, h8⟩ := hI
 refine allR_ite (fun c1 => ?_) (fun c1 => ?_)
 ·refine allR_ite (fun c2 => ?_) (fun c2 => ?_)
  ·have c1 : s.i < s.n := by simpa using c1
   rw [wrapS (x := s.i + 1) (by omega) (by omega)]
   exact ⟨⟨⟨by simp only; omega, by simp only; omega⟩, h2, h3, h4, h5, h6, h7, h8⟩, by simp only [mu_l7b]; omega⟩
  ·refine allR_ite (fun c3 => ?_) (fun c3 => ?_)
   ·have c1 : s.i < s.n := by simpa using c1
    rw [wrapS (x := s.i + 1) (by omega) (by omega)]
    exact ⟨⟨⟨by simp only; omega, by simp only; omega⟩, h2, h3, h4, h5, h6, h7, h8⟩, by simp only [mu_l7b]; omega⟩
   ·refine allR_ite (fun c4 => ?_) (fun c4 => ?_)
    ·rw [app_set] at c4
     exact absurd (((h8 s.i h0 (by have c1 : s.i < s.n := (by simpa using c1); omega)).2 c2 c3).symm.trans c4) (by decide)
    ·have c1 : s.i < s.n := by simpa using c1
     rw [wrapS (x := s.i + 1) (by omega) (by omega)]
     exact ⟨⟨⟨by simp only; omega, by simp only; omega⟩, h2, h3, h4, h5, h6, h7, h8⟩, by simp only [mu_l7b]; omega⟩
 ·exact rfl
def D_l7b : LpD L_l7b := ⟨0, 123, [1, 2, 8, 9, 10, 12, 81, 82, 83], [], A_l7b, B_l7b, fun v _ => ⟨gXl (.int .i64) (v.getD 0 .junk), gXl (.int .i64) (v.getD 1 .junk), gBo (v.getD 2 .junk), gBo (v.getD 3 .junk), gXl (.int .i64) (v.getD 4 .junk), gXl tRw (v.getD 5 .junk), gXl tCh (v.getD 6 .junk), gI (v.getD 7 .junk), gI (v.getD 8 .junk)⟩, t_l7b, fun s r => { r with al := s.al, mo := s.mo, up_ := s.up_, x := s.x, rows := s.rows, gs := s.gs, n := s.n }, fun s => s, fun _ s => s, [.ret, .exit 4], E_l7b, I_l7b, mu_l7b⟩
abbrev run_l7b := D_l7b.run
abbrev exn_l7b := D_l7b.exn
abbrev E_l7bq := D_l7b.q
theorem rq_l7b (s : L_l7b) (hI : I_l7b s) : (t_l7b s).all (fun _ => True) := by
 refine ⟨fun c1 => ⟨?_, ?_, ?_, fun _ => trivial, fun c2 => ⟨?_, fun _ => trivial, fun c3 => ⟨?_, ?_, ?_, ?_, ?_, fun _ => trivial, fun _ => trivial⟩⟩⟩, fun _ => trivial⟩
 iterate 8 · (obtain ⟨⟨h0, h1⟩, h2, h3, h4, h5, h6, h7, h8⟩ := hI; simp only [decide_eq_true_eq] at c1; have := (h8 s.i h0 (by omega)).1; first | omega | exact ⟨rfl, by omega, by omega⟩ | (simp only [List.nil_append, List.length_set]; omega))
 ·(obtain ⟨⟨h0, h1⟩, h2, h3, h4, h5, h6, h7, h8⟩ := hI; simp only [decide_eq_true_eq] at c1; refine ⟨h6, fun r hr => ?_⟩; rw [app_set]; exact h7 _ _ amA_bd r hr)
theorem ok_l7b : D_l7b.Ok := ⟨fun s => by kernel_rfl, fun s => by kernel_rfl, fun s => rfl, fun s t r => rfl, fun s => rfl, fun s => by kernel_rfl⟩
theorem pf_l7b : D_l7b.Pf (Q_l7b) := ⟨l7b_E, fun _ _ => rfl, l7b_da, rq_l7b⟩
theorem snd_l7b : SoundA Try.prog noGlobs (AN 0) (.loop body_l7b) D_l7b.lp := LpD.snd ok_l7b pf_l7b (code_sound (Γ := gam69) (K := noK) (L := noLoops) gok69 noK_sound body_l7b (fun b hb => by rw [show loopsIn body_l7b = [] by kernel_rfl] at hb; cases hb)) (fun s => by kernel_rfl)
theorem l7b_fin (s : L_l7b) (hE : E_l7b s) : ∃ s', I_l7b s' ∧ Q_l7b (exn_l7b s) s' (run_l7b s) := LpD.fin ok_l7b pf_l7b s hE
def S0_l7 : List LV → T LV
 | [.agg [.xl (.pair .str (.pair (.int .i64) (.pair (.int .i64) (.pair (.int .i64) (.pair (.pair (.int .i64) (.int .i64)) (.pair (.int .i64) (.pair (.int .i64) (.pair (.int .i64) (.pair (.int .i64) (.int .i64)))))))))) cs, .xl (.str) os, .xl (.pair .str (.pair (.int .i64) (.pair (.int .i64) (.int .i64)))) ks, .xl (.pair .str (.pair (.int .i64) (.pair (.int .i64) (.pair (.int .i64) (.pair (.int .i64) (.pair (.int .i64) (.pair (.int .i64) (.int .i64)))))))) gs, .xl (.pair .str (.int .i64)) bs], .xl (.int .i64) _, .xl (.int .i64) _, .xl (.int .i64) _] => .req (nmR (nmsOf cs os ks gs bs)) (.ok (.v (.bool true)))
 | _ => .no
noncomputable def S_l7 : List LV → T LV := upS Try.prog Try.f9.params.toList S0_l7
theorem nf_l7 (cs : List (ByteArray × (Int × (Int × (Int × ((Int × Int) × (Int × (Int × (Int × (Int × Int)))))))))) (os : List ByteArray) (ks : List (ByteArray × (Int × (Int × Int)))) (gs : List (ByteArray × (Int × (Int × (Int × (Int × (Int × (Int × Int)))))))) (bs : List (ByteArray × Int)) (al mo od : List Int) : funu Try.prog noGlobs (gam69) noK (fun i => if i = 9 then D_l7a.lp else if i = 19 then D_l7b.lp else noLoops i) Try.f9 [.agg [.xl tCd cs, .xl .str os, .xl tKo ks, .xl tCh gs, .xl tBa bs], .xl (.int .i64) al, .xl (.int .i64) mo, .xl (.int .i64) od] = .req (nmR (nmsOf cs os ks gs bs)) (.br (!(useB cs os ks gs bs al mo od)) (.ok (.v (.bool true))) (.br (((shE cs os ks gs bs al mo od) != 0) || (((rowE cs os ks gs bs) != 0) || ((List.length (shL cs os ks gs bs al mo od) : Int) != (List.length mo : Int)))) (.ok (.v (.bool false))) (.req (E_l7aq (⟨al, mo, false, true, (shL cs os ks gs bs al mo od), (rowL cs os ks gs bs), (rowL cs os ks gs bs), (List.length (rowL cs os ks gs bs) : Int), (0 : Int), cs, os, ks, gs, bs⟩ : L_l7a)) (.br (isEx (exn_l7a (⟨al, mo, false, true, (shL cs os ks gs bs al mo od), (rowL cs os ks gs bs), (rowL cs os ks gs bs), (List.length (rowL cs os ks gs bs) : Int), (0 : Int), cs, os, ks, gs, bs⟩ : L_l7a)) (.ret)) (.ok (.v (.bool (run_l7a (⟨al, mo, false, true, (shL cs os ks gs bs al mo od), (rowL cs os ks gs bs), (rowL cs os ks gs bs), (List.length (rowL cs os ks gs bs) : Int), (0 : Int), cs, os, ks, gs, bs⟩ : L_l7a)).r))) (.req (E_l7bq (⟨al, mo, (run_l7a (⟨al, mo, false, true, (shL cs os ks gs bs al mo od), (rowL cs os ks gs bs), (rowL cs os ks gs bs), (List.length (rowL cs os ks gs bs) : Int), (0 : Int), cs, os, ks, gs, bs⟩ : L_l7a)).r, true, (shL cs os ks gs bs al mo od), (rowL cs os ks gs bs), gs, (List.length gs : Int), (0 : Int)⟩ : L_l7b)) (.br (isEx (exn_l7b (⟨al, mo, (run_l7a (⟨al, mo, false, true, (shL cs os ks gs bs al mo od), (rowL cs os ks gs bs), (rowL cs os ks gs bs), (List.length (rowL cs os ks gs bs) : Int), (0 : Int), cs, os, ks, gs, bs⟩ : L_l7a)).r, true, (shL cs os ks gs bs al mo od), (rowL cs os ks gs bs), gs, (List.length gs : Int), (0 : Int)⟩ : L_l7b)) (.ret)) (.ok (.v (.bool (run_l7b (⟨al, mo, (run_l7a (⟨al, mo, false, true, (shL cs os ks gs bs al mo od), (rowL cs os ks gs bs), (rowL cs os ks gs bs), (List.length (rowL cs os ks gs bs) : Int), (0 : Int), cs, os, ks, gs, bs⟩ : L_l7a)).r, true, (shL cs os ks gs bs al mo od), (rowL cs os ks gs bs), gs, (List.length gs : Int), (0 : Int)⟩ : L_l7b)).r))) (.ok (.v (.bool true))))))))) := by kernel_rfl
theorem v_l7 : Valid Try.prog noGlobs 9 S_l7 := valid_ofu Try.func9 rfl gok69 noK_sound (L := (fun i => if i = 9 then D_l7a.lp else if i = 19 then D_l7b.lp else noLoops i)) (fun b hb => by
 rw [show loopsIn _ = [body_l7a, body_l7b] by kernel_rfl] at hb
 simp only [List.mem_cons, List.not_mem_nil, or_false] at hb
 rcases hb with rfl | rfl
 ·exact snd_l7a
 ·exact snd_l7b) (fun args lv h => by
 unfold S0_l7 at h
 split at h
 ·simp only [canL, canX]
  rw [nf_l7]
  rename_i cs os ks gs bs al mo od
  obtain ⟨hn, rfl⟩ := h
  refine ⟨hn, fun c => rfl, fun c => ?_⟩
  have hk := useB_sh (nf c)
  have H := sh_ok hk
  obtain ⟨r1, r2, r3⟩ := row_sh hk
  have ex := shL_lv hk
  have xl : (shL cs os ks gs bs al mo od).length = gs.length := by rw [ex, amsL_len]
  have gl := H.gl
  have R := lvF_R H
  have hrr : ∀ r ∈ rowL cs os ks gs bs, rowR al (shL cs os ks gs bs al mo od) r := fun r hr => by rw [r1] at hr; rw [ex]; exact (rf_ok hk).rowR (ams_ok H R) r hr
  rw [shE_0 hk, r2, xl, H.mol]
  refine ⟨fun c2 => absurd c2 (by simp), fun _ => ?_⟩
  have hE : E_l7a ⟨al, mo, false, true, shL cs os ks gs bs al mo od, rowL cs os ks gs bs, rowL cs os ks gs bs, (List.length (rowL cs os ks gs bs) : Int), 0, cs, os, ks, gs, bs⟩ := ⟨rfl, rfl, by simp only; rw [r1]; omega, fun r hr => ⟨(hrr r hr).1, fun m hm => ⟨((hrr r hr).2.1 m hm).1, ((hrr r hr).2.1 m hm).2.2⟩⟩⟩
  obtain ⟨_, _, q1⟩ := l7a_fin _ hE
  refine ⟨⟨hE, rfl, rfl⟩, fun c3 => (by rw [show exn_l7a ⟨al, mo, false, true, shL cs os ks gs bs al mo od, rowL cs os ks gs bs, rowL cs os ks gs bs, (List.length (rowL cs os ks gs bs) : Int), 0, cs, os, ks, gs, bs⟩ = _ from q1] at c3; cases c3), fun _ => ?_⟩
  have hE2 : E_l7b ⟨al, mo, (run_l7a ⟨al, mo, false, true, shL cs os ks gs bs al mo od, rowL cs os ks gs bs, rowL cs os ks gs bs, (List.length (rowL cs os ks gs bs) : Int), 0, cs, os, ks, gs, bs⟩).r, true, shL cs os ks gs bs al mo od, rowL cs os ks gs bs, gs, (List.length gs : Int), 0⟩ := ⟨rfl, rfl, by simp only; omega, H.mol, xl, by simp only; rw [r1]; omega, fun k v hv r hr => by
   show rowR al ((shL cs os ks gs bs al mo od).set k v) r
   have hr : r ∈ rowL cs os ks gs bs := hr
   rw [r1] at hr
   rw [ex]
   exact (rf_ok hk).rowR ((ams_ok H R).put ⟨hv.1, by omega⟩) r hr, by
   show p7a (rowL cs os ks gs bs) gs al mo (shL cs os ks gs bs al mo od)
   rw [r1, ex]
   exact p7a_of H⟩
  obtain ⟨_, _, q2⟩ := l7b_fin _ hE2
  exact ⟨⟨hE2, rfl, rfl⟩, fun c4 => (by rw [show exn_l7b _ = _ from q2] at c4; cases c4), fun _ => rfl⟩
 ·cases h)
end Go.Proofs.Ytihbikkkmoaljaa
