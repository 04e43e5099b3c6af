/- StepsEnough: what it computes. -/
import Derived.Test.YtihbikkkmoaljaaEi
import Derived.Test.YtihbikkkmoaljaaEw
namespace Go.Proofs.Ytihbikkkmoaljaa
open Go.Sx
structure L_l5a where
 al : List Int
 mo : List Int
 r : Bool
 up_ : Bool
 x : List Int
 rows : List (Int × (List Int))
 gs : List (ByteArray × (Int × (Int × (Int × (Int × (Int × (Int × Int)))))))
 n : Int
 i : Int
 all : List Int
def A_l5a (s : L_l5a) : List LV := [.xl (.int .i64) s.al, .xl (.int .i64) s.mo, .v (.bool s.r), .v (.bool s.up_), .xl (.int .i64) s.x, .xl tRw s.rows, .os 0 1 0 (List.length s.all), .xl tCh s.gs, .v (.int .i64 s.n), .v (.int .i64 s.i)]
def B_l5a (s : L_l5a) : List Blk := [⟨[], 3, .vec (.int .i64) s.all, false⟩]
noncomputable def body_l5a : Code := ((loopsIn (Try.f7.body.getD .skip))[0]?).getD .skip
def t_l5a (s : L_l5a) : T (Rd L_l5a) :=
 .br (decide (s.i < s.n)) (.req (0 ≤ s.i ∧ s.i < (List.length s.gs : Int)) (.req (0 ≤ s.i ∧ s.i < (List.length s.mo : Int)) (.req ((gi s.mo s.i) ≤ 9223372036854775807) (.br ((amE (gCh s.gs s.i).2.2.2.1 (gCh s.gs s.i).2.2.2.2.1 (gCh s.gs s.i).2.2.2.2.2.1 (lev (gCh s.gs s.i).2.2.2.1 (gCh s.gs s.i).2.2.2.2.1 (gCh s.gs s.i).2.2.2.2.2.1 (gi s.mo s.i))) != 0) (.rl s.all (.ok (.stop (.ret) { s with r := false }))) (.req (0 ≤ s.i ∧ s.i < ((List.length s.all : Nat) : Int)) (.req (s.i.toNat < List.length s.all) (.req (0 = 0 ∧ (List.length s.all) = List.length (s.all.set s.i.toNat (amA (gCh s.gs s.i).2.2.2.1 (gCh s.gs s.i).2.2.2.2.1 (gCh s.gs s.i).2.2.2.2.2.1 (lev (gCh s.gs s.i).2.2.2.1 (gCh s.gs s.i).2.2.2.2.1 (gCh s.gs s.i).2.2.2.2.2.1 (gi s.mo s.i))))) (.ok (.next { s with i := (IntKind.i64.wrap (s.i + 1)), all := (s.all.set s.i.toNat (amA (gCh s.gs s.i).2.2.2.1 (gCh s.gs s.i).2.2.2.2.1 (gCh s.gs s.i).2.2.2.2.2.1 (lev (gCh s.gs s.i).2.2.2.1 (gCh s.gs s.i).2.2.2.2.1 (gCh s.gs s.i).2.2.2.2.2.1 (gi s.mo s.i)))) }))))))))) (.rl s.all (.ok (.stop (.exit 0) s)))
abbrev f_l5a (s : L_l5a) := (t_l5a s).rd s
def E_l5a (s : L_l5a) : Prop := s.i = 0 ∧ s.n = (List.length s.gs : Int) ∧ s.n ≤ 1000 ∧ s.mo.length = s.gs.length ∧ s.all.length = s.gs.length ∧ p5a s.gs s.mo
def I_l5a (s : L_l5a) : Prop := (0 ≤ s.i ∧ s.i ≤ s.n) ∧ (∀ j, 0 ≤ j → j < s.i → gi s.all j = amC s.gs j (tpO s.gs s.mo j)) ∧ s.n = (List.length s.gs : Int) ∧ s.n ≤ 1000 ∧ s.mo.length = s.gs.length ∧ s.all.length = s.gs.length ∧ p5a s.gs s.mo
def mu_l5a (s : L_l5a) : Nat := (s.n - s.i).toNat
def Q_l5a (x : Ex) (_ s' : L_l5a) : Prop := x = .exit 0 ∧ s'.all = amsL s'.gs (topL s'.gs s'.mo)
theorem l5a_E : ∀ s, E_l5a s → I_l5a s := by
 intro s h
 obtain ⟨h0, h2, h3, h4, h5, h6⟩ := h
 exact ⟨by omega, fun j _ _ => by omega, h2, h3, h4, h5, h6⟩
theorem l5a_da (s : L_l5a) (hI : I_l5a s) : allR (fun s' => I_l5a s' ∧ mu_l5a s' < mu_l5a s) (fun x s' => Q_l5a x s s') (f_l5a s) := by
 unfold f_l5a t_l5a
 dsimp only [T.rd, T.rl]
 obtain ⟨⟨h0, h1⟩, hA, h2, h3, h4, h5, h6⟩ := hI
 refine allR_ite (fun c1 => ?_) (fun c1 => ?_)
 ·have c1 : s.i < s.n := by simpa using c1
  obtain ⟨e1, e2, e3⟩ := h6 s.i h0 (by omega)
  refine allR_ite (fun c2 => absurd (e1.symm.trans c2) (by decide)) (fun c2 => ?_)
  rw [wrapS (x := s.i + 1) (by omega) (by omega)]
  refine ⟨⟨⟨by simp only; omega, by simp only; omega⟩, fun j j0 j1 => ?_, h2, h3, h4, by simp only [List.length_set]; exact h5, h6⟩, by simp only [mu_l5a]; omega⟩
  show gi (s.all.set s.i.toNat _) j = _
  rw [gi_set h0 (by omega) j0]
  split
  ·rename_i e; rw [e]; exact e2
  ·exact hA j j0 (by simp only at j1; omega)
 ·have c1 : s.n ≤ s.i := by simpa using c1
  exact ⟨rfl, ams_ext h5 fun j j0 j1 => by rw [topL_gi j0 j1]; exact hA j j0 (by omega)⟩
def D_l5a : LpD L_l5a := ⟨0, 122, [1, 2, 8, 9, 10, 12, 14, 61, 62, 63], [], A_l5a, B_l5a, fun v b => ⟨gXl (.int .i64) (v.getD 0 .junk), gXl (.int .i64) (v.getD 1 .junk), gBo (v.getD 2 .junk), gBo (v.getD 3 .junk), gXl (.int .i64) (v.getD 4 .junk), gXl tRw (v.getD 5 .junk), gXl tCh (v.getD 7 .junk), gI (v.getD 8 .junk), gI (v.getD 9 .junk), gVe (.int .i64) (gBk b 0)⟩, t_l5a, fun s r => { r with al := s.al, mo := s.mo, up_ := s.up_, x := s.x, rows := s.rows, gs := s.gs, n := s.n }, fun s => s, fun _ s => s, [.ret, .exit 0], E_l5a, I_l5a, mu_l5a⟩
abbrev run_l5a := D_l5a.run
abbrev exn_l5a := D_l5a.exn
abbrev E_l5aq := D_l5a.q
theorem rq_l5a (s : L_l5a) (hI : I_l5a s) : (t_l5a s).all (fun _ => True) := by
 refine ⟨fun c1 => ⟨?_, ?_, ?_, fun c2 => ⟨⟨rfl, rfl⟩, trivial⟩, fun c2 => ⟨?_, ?_, ?_, trivial⟩⟩, fun c1 => ⟨⟨rfl, rfl⟩, trivial⟩⟩
 all_goals ((obtain ⟨⟨h0, h1⟩, hA, h2, h3, h4, h5, h6⟩ := hI; simp only [decide_eq_true_eq] at c1; first | (have := (h6 s.i h0 (by omega)).2.2; omega) | exact ⟨rfl, by simp⟩))
noncomputable def gam68 : Specs := specsOf [(10, S_head), (12, S_ampsE), (14, S_shar), (16, S_rints), (19, S_levl), (22, S_usab), (23, S_rows), (25, S_rperm)]
theorem gok68 : ∀ g S, gam68 g = some S → Valid Try.prog noGlobs g S := specs_ok (l := [(10, S_head), (12, S_ampsE), (14, S_shar), (16, S_rints), (19, S_levl), (22, S_usab), (23, S_rows), (25, S_rperm)]) ⟨v_head, v_ampsE, v_shar, v_rints, v_levl, v_usab, v_rows, v_rperm, trivial⟩
theorem ok_l5a : D_l5a.Ok := ⟨fun s => by kernel_rfl, fun s => by kernel_rfl, fun s => rfl, fun s t r => rfl, fun s => rfl, fun s => by kernel_rfl⟩
theorem pf_l5a : D_l5a.Pf (Q_l5a) := ⟨l5a_E, fun _ _ => rfl, l5a_da, rq_l5a⟩
theorem snd_l5a : SoundA Try.prog noGlobs (AN 0) (.loop body_l5a) D_l5a.lp := LpD.snd ok_l5a pf_l5a (code_sound (Γ := gam68) (K := noK) (L := noLoops) gok68 noK_sound body_l5a (fun b hb => by rw [show loopsIn body_l5a = [] by kernel_rfl] at hb; cases hb)) (fun s => by kernel_rfl)
theorem l5a_fin (s : L_l5a) (hE : E_l5a s) : ∃ s', I_l5a s' ∧ Q_l5a (exn_l5a s) s' (run_l5a s) := LpD.fin ok_l5a pf_l5a s hE
structure L_l5c where
 al : List Int
 r : Bool
 up_ : Bool
 x : List Int
 rw0 : List (Int × (List Int))
 rows : List (Int × (List Int))
 rn : Int
 k : Int
 ms : List Int
 n : Int
 i : Int
 all : List Int
def A_l5c (s : L_l5c) : List LV := [.xl (.int .i64) s.al, .v (.bool s.r), .v (.bool s.up_), .xl (.int .i64) s.x, .xl tRw s.rw0, .os 0 1 0 (List.length s.all), .xl tRw s.rows, .v (.int .i64 s.rn), .v (.int .i64 s.k), .xl (.int .i64) s.ms, .v (.int .i64 s.n), .v (.int .i64 s.i)]
def B_l5c (s : L_l5c) : List Blk := [⟨[], 3, .vec (.int .i64) s.all, false⟩]
noncomputable def body_l5c : Code := ((loopsIn (((loopsIn (Try.f7.body.getD .skip))[1]?).getD .skip))[0]?).getD .skip
def t_l5c (s : L_l5c) : T (Rd L_l5c) :=
 .br (decide (s.i < s.n)) (.req (0 ≤ s.i ∧ s.i < (List.length s.ms : Int)) (.br ((decide ((gi s.ms s.i) < 0)) || (decide ((gi s.ms s.i) ≥ ((List.length s.all : Nat) : Int)))) (.rl s.all (.ok (.stop (.ret) { s with r := false }))) (.rl s.all (.ok (.next { s with i := (IntKind.i64.wrap (s.i + 1)) }))))) (.rl s.all (.ok (.stop (.exit 4) s)))
abbrev f_l5c (s : L_l5c) := (t_l5c s).rd s
def E_l5c (s : L_l5c) : Prop := s.i = 0 ∧ s.n = (List.length s.ms : Int) ∧ s.n ≤ 1000 ∧ ∀ m ∈ s.ms, 0 ≤ m ∧ m < (List.length s.all : Int)
def I_l5c (s : L_l5c) : Prop := (0 ≤ s.i ∧ s.i ≤ s.n) ∧ s.n = (List.length s.ms : Int) ∧ s.n ≤ 1000 ∧ ∀ m ∈ s.ms, 0 ≤ m ∧ m < (List.length s.all : Int)
def mu_l5c (s : L_l5c) : Nat := (s.n - s.i).toNat
def Q_l5c (x : Ex) (_ _ : L_l5c) : Prop := x = .exit 4
theorem l5c_E : ∀ s, E_l5c s → I_l5c s := by
 intro s h
 obtain ⟨h0, h2, h3, h4⟩ := h
 exact ⟨by omega, h2, h3, h4⟩
theorem l5c_da (s : L_l5c) (hI : I_l5c s) : allR (fun s' => I_l5c s' ∧ mu_l5c s' < mu_l5c s) (fun x s' => Q_l5c x s s') (f_l5c s) := by
 unfold f_l5c t_l5c
 dsimp only [T.rd, T.rl]
 obtain ⟨⟨h0, h1⟩, h2, h3, h4⟩ := hI
 refine allR_ite (fun c1 => ?_) (fun c1 => ?_)
 ·refine allR_ite (fun c2 => ?_) (fun c2 => ?_)
  ·have c1 : s.i < s.n := by simpa using c1
   have hm := h4 (gi s.ms s.i) (gi_mem h0 (by omega))
   have e1 : (decide (gi s.ms s.i < 0) || decide (gi s.ms s.i ≥ (List.length s.all : Int))) = false := by rw [decide_eq_false (by omega), decide_eq_false (by omega)]; rfl
   first | exact absurd (e1.symm.trans c2) (by decide)
  ·have c1 : s.i < s.n := by simpa using c1
   rw [wrapS (x := s.i + 1) (by omega) (by omega)]
   exact ⟨⟨⟨by simp only; omega, by simp only; omega⟩, h2, h3, h4⟩, by simp only [mu_l5c]; omega⟩
 ·exact rfl
def D_l5c : LpD L_l5c := ⟨0, 122, [1, 8, 9, 10, 12, 14, 86, 87, 88, 93, 94, 95], [], A_l5c, B_l5c, fun v b => ⟨gXl (.int .i64) (v.getD 0 .junk), gBo (v.getD 1 .junk), gBo (v.getD 2 .junk), gXl (.int .i64) (v.getD 3 .junk), gXl tRw (v.getD 4 .junk), gXl tRw (v.getD 6 .junk), gI (v.getD 7 .junk), gI (v.getD 8 .junk), gXl (.int .i64) (v.getD 9 .junk), gI (v.getD 10 .junk), gI (v.getD 11 .junk), gVe (.int .i64) (gBk b 0)⟩, t_l5c, fun s r => { r with al := s.al, up_ := s.up_, x := s.x, rw0 := s.rw0, rows := s.rows, rn := s.rn, k := s.k, ms := s.ms, n := s.n, all := s.all }, fun s => s, fun _ s => s, [.ret, .exit 4], E_l5c, I_l5c, mu_l5c⟩
abbrev run_l5c := D_l5c.run
abbrev exn_l5c := D_l5c.exn
abbrev E_l5cq := D_l5c.q
theorem rq_l5c (s : L_l5c) (hI : I_l5c s) : (t_l5c s).all (fun _ => True) := by
 refine ⟨fun c1 => ⟨?_, fun c2 => ⟨⟨rfl, rfl⟩, trivial⟩, fun c2 => ⟨⟨rfl, rfl⟩, trivial⟩⟩, fun c1 => ⟨⟨rfl, rfl⟩, trivial⟩⟩
 ·(obtain ⟨⟨h0, h1⟩, h2, h3, h4⟩ := hI; simp only [decide_eq_true_eq] at c1; omega)
theorem ok_l5c : D_l5c.Ok := ⟨fun s => by kernel_rfl, fun s => by kernel_rfl, fun s => rfl, fun s t r => rfl, fun s => rfl, fun s => by kernel_rfl⟩
theorem pf_l5c : D_l5c.Pf (Q_l5c) := ⟨l5c_E, fun _ _ => rfl, l5c_da, rq_l5c⟩
theorem snd_l5c : SoundA Try.prog noGlobs (AN 0) (.loop body_l5c) D_l5c.lp := LpD.snd ok_l5c pf_l5c (code_sound (Γ := gam68) (K := noK) (L := noLoops) gok68 noK_sound body_l5c (fun b hb => by rw [show loopsIn body_l5c = [] by kernel_rfl] at hb; cases hb)) (fun s => by kernel_rfl)
theorem l5c_fin (s : L_l5c) (hE : E_l5c s) : ∃ s', I_l5c s' ∧ Q_l5c (exn_l5c s) s' (run_l5c s) := LpD.fin ok_l5c pf_l5c s hE
structure L_l5b where
 al : List Int
 r : Bool
 up_ : Bool
 x : List Int
 rw0 : List (Int × (List Int))
 rows : List (Int × (List Int))
 n : Int
 k : Int
 all : List Int
def A_l5b (s : L_l5b) : List LV := [.xl (.int .i64) s.al, .v (.bool s.r), .v (.bool s.up_), .xl (.int .i64) s.x, .xl tRw s.rw0, .os 0 1 0 (List.length s.all), .xl tRw s.rows, .v (.int .i64 s.n), .v (.int .i64 s.k)]
def B_l5b (s : L_l5b) : List Blk := [⟨[], 3, .vec (.int .i64) s.all, false⟩]
noncomputable def body_l5b : Code := ((loopsIn (Try.f7.body.getD .skip))[1]?).getD .skip
def st13_l5c (s : L_l5b) : L_l5c := (⟨s.al, s.r, s.up_, s.x, s.rw0, s.rows, s.n, s.k, (gRw s.rows s.k).2, (List.length (gRw s.rows s.k).2 : Int), (0 : Int), s.all⟩ : L_l5c)
def t_l5b (s : L_l5b) : T (Rd L_l5b) :=
 .br (decide (s.k < s.n)) (.req (0 ≤ s.k ∧ s.k < (List.length s.rows : Int)) (.rl s.all (.req (E_l5cq (st13_l5c s)) (.br (isEx (exn_l5c (st13_l5c s)) (.ret)) (.rl s.all (.ok (.stop (.ret) { s with r := (run_l5c (st13_l5c s)).r }))) (.rl s.all (.ok (.next { s with r := (run_l5c (st13_l5c s)).r, k := (IntKind.i64.wrap (s.k + 1)) }))))))) (.rl s.all (.ok (.stop (.exit 2) s)))
abbrev f_l5b (s : L_l5b) := (t_l5b s).rd s
def E_l5b (s : L_l5b) : Prop := s.k = 0 ∧ s.n = (List.length s.rows : Int) ∧ s.n ≤ 1000 ∧ ∀ r ∈ s.rows, (r.2.length : Int) ≤ 1000 ∧ ∀ m ∈ r.2, 0 ≤ m ∧ m < (List.length s.all : Int)
def I_l5b (s : L_l5b) : Prop := (0 ≤ s.k ∧ s.k ≤ s.n) ∧ s.n = (List.length s.rows : Int) ∧ s.n ≤ 1000 ∧ ∀ r ∈ s.rows, (r.2.length : Int) ≤ 1000 ∧ ∀ m ∈ r.2, 0 ≤ m ∧ m < (List.length s.all : Int)
def mu_l5b (s : L_l5b) : Nat := (s.n - s.k).toNat
def Q_l5b (x : Ex) (_ _ : L_l5b) : Prop := x = .exit 2
theorem l5b_E : ∀ s, E_l5b s → I_l5b s := by
 intro s h
 obtain ⟨h0, h2, h3, h4⟩ := h
 exact ⟨by omega, h2, h3, h4⟩
theorem l5b_da (s : L_l5b) (hI : I_l5b s) : allR (fun s' => I_l5b s' ∧ mu_l5b s' < mu_l5b s) (fun x s' => Q_l5b x s s') (f_l5b s) := by
 unfold f_l5b t_l5b
 dsimp only [T.rd, T.rl]
 obtain ⟨⟨h0, h1⟩, h2, h3, h4⟩ := hI
 refine allR_ite (fun c1 => ?_) (fun c1 => ?_)
 ·refine allR_ite (fun c2 => ?_) (fun c2 => ?_)
  ·have c1 : s.k < s.n := by simpa using c1
   have hin : E_l5c (st13_l5c s) := ⟨rfl, rfl, (h4 _ (gRw_mem h0 (by omega))).1, (h4 _ (gRw_mem h0 (by omega))).2⟩
   obtain ⟨_, _, q1⟩ := l5c_fin _ hin
   have e1 : isEx (exn_l5c (st13_l5c s)) .ret = false := by rw [show exn_l5c (st13_l5c s) = _ from q1]; rfl
   first | exact absurd (e1.symm.trans c2) (by decide)
  ·have c1 : s.k < s.n := by simpa using c1
   rw [wrapS (x := s.k + 1) (by omega) (by omega)]
   exact ⟨⟨⟨by simp only; omega, by simp only; omega⟩, h2, h3, h4⟩, by simp only [mu_l5b]; omega⟩
 ·exact rfl
def D_l5b : LpD L_l5b := ⟨0, 122, [1, 8, 9, 10, 12, 14, 86, 87, 88], [], A_l5b, B_l5b, fun v b => ⟨gXl (.int .i64) (v.getD 0 .junk), gBo (v.getD 1 .junk), gBo (v.getD 2 .junk), gXl (.int .i64) (v.getD 3 .junk), gXl tRw (v.getD 4 .junk), gXl tRw (v.getD 6 .junk), gI (v.getD 7 .junk), gI (v.getD 8 .junk), gVe (.int .i64) (gBk b 0)⟩, t_l5b, fun s r => { r with al := s.al, up_ := s.up_, x := s.x, rw0 := s.rw0, rows := s.rows, n := s.n, all := s.all }, fun s => s, fun _ s => s, [.ret, .exit 2], E_l5b, I_l5b, mu_l5b⟩
abbrev run_l5b := D_l5b.run
abbrev exn_l5b := D_l5b.exn
abbrev E_l5bq := D_l5b.q
theorem rq_l5b (s : L_l5b) (hI : I_l5b s) : (t_l5b s).all (fun _ => True) := by
 refine ⟨fun c1 => ⟨?_, ⟨rfl, rfl⟩, ?_, fun c2 => ⟨⟨rfl, rfl⟩, trivial⟩, fun c2 => ⟨⟨rfl, rfl⟩, trivial⟩⟩, fun c1 => ⟨⟨rfl, rfl⟩, trivial⟩⟩
 all_goals ((obtain ⟨⟨h0, h1⟩, h2, h3, h4⟩ := hI; simp only [decide_eq_true_eq] at c1; (first | omega | exact ⟨⟨rfl, rfl, (h4 _ (gRw_mem h0 (by omega))).1, (h4 _ (gRw_mem h0 (by omega))).2⟩, rfl, rfl⟩)))
theorem ok_l5b : D_l5b.Ok := ⟨fun s => by kernel_rfl, fun s => by kernel_rfl, fun s => rfl, fun s t r => rfl, fun s => rfl, fun s => by kernel_rfl⟩
theorem pf_l5b : D_l5b.Pf (Q_l5b) := ⟨l5b_E, fun _ _ => rfl, l5b_da, rq_l5b⟩
theorem snd_l5b : SoundA Try.prog noGlobs (AN 0) (.loop body_l5b) D_l5b.lp := LpD.snd ok_l5b pf_l5b (code_sound (Γ := gam68) (K := noK) (L := (fun i => if i = 21 then D_l5c.lp else noLoops i)) gok68 noK_sound body_l5b (fun b hb => by
 rw [show loopsIn _ = [body_l5c] by kernel_rfl] at hb
 simp only [List.mem_cons, List.not_mem_nil, or_false] at hb
 subst hb
 exact snd_l5c)) (fun s => by kernel_rfl)
theorem l5b_fin (s : L_l5b) (hE : E_l5b s) : ∃ s', I_l5b s' ∧ Q_l5b (exn_l5b s) s' (run_l5b s) := LpD.fin ok_l5b pf_l5b s hE
def S0_l5 : List LV → T LV
 | [.agg [.xl (.pair .str (.pair (.int .i64) (.pair (.int .i64) (.pair (.int .i64) (.pair (.pair (.int .i64) (.int .i64)) (.pair (.int .i64) (.pair (.int .i64) (.pair (.int .i64) (.pair (.int .i64) (.int .i64)))))))))) cs, .xl (.str) os, .xl (.pair .str (.pair (.int .i64) (.pair (.int .i64) (.int .i64)))) ks, .xl (.pair .str (.pair (.int .i64) (.pair (.int .i64) (.pair (.int .i64) (.pair (.int .i64) (.pair (.int .i64) (.pair (.int .i64) (.int .i64)))))))) gs, .xl (.pair .str (.int .i64)) bs], .xl (.int .i64) _, .xl (.int .i64) _, .xl (.int .i64) _] => .req (nmR (nmsOf cs os ks gs bs)) (.ok (.v (.bool true)))
 | _ => .no
noncomputable def S_l5 : List LV → T LV := upS Try.prog Try.f7.params.toList S0_l5
theorem nf_l5 (cs : List (ByteArray × (Int × (Int × (Int × ((Int × Int) × (Int × (Int × (Int × (Int × Int)))))))))) (os : List ByteArray) (ks : List (ByteArray × (Int × (Int × Int)))) (gs : List (ByteArray × (Int × (Int × (Int × (Int × (Int × (Int × Int)))))))) (bs : List (ByteArray × Int)) (al mo od : List Int) : funu Try.prog noGlobs (gam68) noK (fun i => if i = 10 then D_l5a.lp else if i = 18 then D_l5b.lp else noLoops i) Try.f7 [.agg [.xl tCd cs, .xl .str os, .xl tKo ks, .xl tCh gs, .xl tBa bs], .xl (.int .i64) al, .xl (.int .i64) mo, .xl (.int .i64) od] = .req (nmR (nmsOf cs os ks gs bs)) (.br (!(useB cs os ks gs bs al mo od)) (.ok (.v (.bool true))) (.br (((shE cs os ks gs bs al mo od) != 0) || (((rowE cs os ks gs bs) != 0) || ((List.length (shL cs os ks gs bs al mo od) : Int) != (List.length mo : Int)))) (.ok (.v (.bool false))) (.req (0 ≤ (List.length mo : Int) ∧ (List.length mo : Int) ≤ (List.length mo : Int) ∧ 8 * (List.length mo : Int) ≤ 2 ^ 48 ∧ (List.length mo : Int) < 2 ^ 63) (.req (0 = 0 ∧ (List.length mo : Int).toNat = List.length (List.replicate (List.length mo : Int).toNat (0 : Int))) (.req (E_l5aq (⟨al, mo, false, true, (shL cs os ks gs bs al mo od), (rowL cs os ks gs bs), gs, (List.length gs : Int), (0 : Int), (List.replicate (List.length mo : Int).toNat (0 : Int))⟩ : L_l5a)) (.br (isEx (exn_l5a (⟨al, mo, false, true, (shL cs os ks gs bs al mo od), (rowL cs os ks gs bs), gs, (List.length gs : Int), (0 : Int), (List.replicate (List.length mo : Int).toNat (0 : Int))⟩ : L_l5a)) (.ret)) (.ok (.v (.bool (run_l5a (⟨al, mo, false, true, (shL cs os ks gs bs al mo od), (rowL cs os ks gs bs), gs, (List.length gs : Int), (0 : Int), (List.replicate (List.length mo : Int).toNat (0 : Int))⟩ : L_l5a)).r))) (.rl (run_l5a (⟨al, mo, false, true, (shL cs os ks gs bs al mo od), (rowL cs os ks gs bs), gs, (List.length gs : Int), (0 : Int), (List.replicate (List.length mo : Int).toNat (0 : Int))⟩ : L_l5a)).all (.req (E_l5bq (⟨al, (run_l5a (⟨al, mo, false, true, (shL cs os ks gs bs al mo od), (rowL cs os ks gs bs), gs, (List.length gs : Int), (0 : Int), (List.replicate (List.length mo : Int).toNat (0 : Int))⟩ : L_l5a)).r, true, (shL cs os ks gs bs al mo od), (rowL cs os ks gs bs), (rowL cs os ks gs bs), (List.length (rowL cs os ks gs bs) : Int), (0 : Int), (run_l5a (⟨al, mo, false, true, (shL cs os ks gs bs al mo od), (rowL cs os ks gs bs), gs, (List.length gs : Int), (0 : Int), (List.replicate (List.length mo : Int).toNat (0 : Int))⟩ : L_l5a)).all⟩ : L_l5b)) (.br (isEx (exn_l5b (⟨al, (run_l5a (⟨al, mo, false, true, (shL cs os ks gs bs al mo od), (rowL cs os ks gs bs), gs, (List.length gs : Int), (0 : Int), (List.replicate (List.length mo : Int).toNat (0 : Int))⟩ : L_l5a)).r, true, (shL cs os ks gs bs al mo od), (rowL cs os ks gs bs), (rowL cs os ks gs bs), (List.length (rowL cs os ks gs bs) : Int), (0 : Int), (run_l5a (⟨al, mo, false, true, (shL cs os ks gs bs al mo od), (rowL cs os ks gs bs), gs, (List.length gs : Int), (0 : Int), (List.replicate (List.length mo : Int).toNat (0 : Int))⟩ : L_l5a)).all⟩ : L_l5b)) (.ret)) (.ok (.v (.bool (run_l5b (⟨al, (run_l5a (⟨al, mo, false, true, (shL cs os ks gs bs al mo od), (rowL cs os ks gs bs), gs, (List.length gs : Int), (0 : Int), (List.replicate (List.length mo : Int).toNat (0 : Int))⟩ : L_l5a)).r, true, (shL cs os ks gs bs al mo od), (rowL cs os ks gs bs), (rowL cs os ks gs bs), (List.length (rowL cs os ks gs bs) : Int), (0 : Int), (run_l5a (⟨al, mo, false, true, (shL cs os ks gs bs al mo od), (rowL cs os ks gs bs), gs, (List.length gs : Int), (0 : Int), (List.replicate (List.length mo : Int).toNat (0 : Int))⟩ : L_l5a)).all⟩ : L_l5b)).r))) (.br true (.req (0 + (List.length (run_l5a (⟨al, mo, false, true, (shL cs os ks gs bs al mo od), (rowL cs os ks gs bs), gs, (List.length gs : Int), (0 : Int), (List.replicate (List.length mo : Int).toNat (0 : Int))⟩ : L_l5a)).all) ≤ List.length (run_l5a (⟨al, mo, false, true, (shL cs os ks gs bs al mo od), (rowL cs os ks gs bs), gs, (List.length gs : Int), (0 : Int), (List.replicate (List.length mo : Int).toNat (0 : Int))⟩ : L_l5a)).all) (.req ((List.length (rowL cs os ks gs bs) : Int) ≤ 1000 ∧ ∀ r ∈ (rowL cs os ks gs bs), rowR al (((run_l5a (⟨al, mo, false, true, (shL cs os ks gs bs al mo od), (rowL cs os ks gs bs), gs, (List.length gs : Int), (0 : Int), (List.replicate (List.length mo : Int).toNat (0 : Int))⟩ : L_l5a)).all.drop 0).take (List.length (run_l5a (⟨al, mo, false, true, (shL cs os ks gs bs al mo od), (rowL cs os ks gs bs), gs, (List.length gs : Int), (0 : Int), (List.replicate (List.length mo : Int).toNat (0 : Int))⟩ : L_l5a)).all)) r) (.br (!(permB (rowL cs os ks gs bs) al (((run_l5a (⟨al, mo, false, true, (shL cs os ks gs bs al mo od), (rowL cs os ks gs bs), gs, (List.length gs : Int), (0 : Int), (List.replicate (List.length mo : Int).toNat (0 : Int))⟩ : L_l5a)).all.drop 0).take (List.length (run_l5a (⟨al, mo, false, true, (shL cs os ks gs bs al mo od), (rowL cs os ks gs bs), gs, (List.length gs : Int), (0 : Int), (List.replicate (List.length mo : Int).toNat (0 : Int))⟩ : L_l5a)).all)))) (.ok (.v (.bool true))) (.req (0 + (List.length (run_l5a (⟨al, mo, false, true, (shL cs os ks gs bs al mo od), (rowL cs os ks gs bs), gs, (List.length gs : Int), (0 : Int), (List.replicate (List.length mo : Int).toNat (0 : Int))⟩ : L_l5a)).all) ≤ List.length (run_l5a (⟨al, mo, false, true, (shL cs os ks gs bs al mo od), (rowL cs os ks gs bs), gs, (List.length gs : Int), (0 : Int), (List.replicate (List.length mo : Int).toNat (0 : Int))⟩ : L_l5a)).all) (.req ((List.length (shL cs os ks gs bs al mo od) : Int) ≤ 1000) (.ok (.v (.bool ((shL cs os ks gs bs al mo od) == (((run_l5a (⟨al, mo, false, true, (shL cs os ks gs bs al mo od), (rowL cs os ks gs bs), gs, (List.length gs : Int), (0 : Int), (List.replicate (List.length mo : Int).toNat (0 : Int))⟩ : L_l5a)).all.drop 0).take (List.length (run_l5a (⟨al, mo, false, true, (shL cs os ks gs bs al mo od), (rowL cs os ks gs bs), gs, (List.length gs : Int), (0 : Int), (List.replicate (List.length mo : Int).toNat (0 : Int))⟩ : L_l5a)).all))))))))))) (.ok (.v (.bool false))))))))))))) := by kernel_rfl
theorem v_l5 : Valid Try.prog noGlobs 7 S_l5 := valid_ofu Try.func7 rfl gok68 noK_sound (L := (fun i => if i = 10 then D_l5a.lp else if i = 18 then D_l5b.lp else noLoops i)) (fun b hb => by
 rw [show loopsIn _ = [body_l5a, body_l5b] by kernel_rfl] at hb
 simp only [List.mem_cons, List.not_mem_nil, or_false] at hb
 rcases hb with rfl | rfl
 ·exact snd_l5a
 ·exact snd_l5b) (fun args lv h => by
 unfold S0_l5 at h
 split at h
 ·simp only [canL, canX]
  rw [nf_l5]
  rename_i cs os ks gs bs al mo od
  obtain ⟨hn, rfl⟩ := h
  refine ⟨hn, fun c => rfl, fun c => ?_⟩
  have hk := useB_sh (nf c)
  have H := sh_ok hk
  obtain ⟨r1, r2, r3⟩ := row_sh hk
  have ex := shL_lv hk
  have xl : (shL cs os ks gs bs al mo od).length = gs.length := by rw [ex, amsL_len]
  have gl := H.gl
  have R := lvF_R H
  have hrr : ∀ r ∈ rowL cs os ks gs bs, rowR al (shL cs os ks gs bs al mo od) r := fun r hr => by rw [r1] at hr; rw [ex]; exact (rf_ok hk).rowR (ams_ok H R) r hr
  have ml := H.mol
  have T := topL_R H
  rw [shE_0 hk, r2, xl, ml]
  refine ⟨fun c2 => absurd c2 (by simp), fun _ => ⟨⟨by omega, by omega, by omega, by omega⟩, ⟨rfl, by simp⟩, ?_⟩⟩
  have hE : E_l5a ⟨al, mo, false, true, shL cs os ks gs bs al mo od, rowL cs os ks gs bs, gs, (List.length gs : Int), 0, List.replicate (List.length gs : Int).toNat 0⟩ := ⟨rfl, rfl, by simp only; omega, ml, by simp, p5a_of H⟩
  obtain ⟨_, _, q1, q1'⟩ := l5a_fin _ hE
  have q1' : (run_l5a ⟨al, mo, false, true, shL cs os ks gs bs al mo od, rowL cs os ks gs bs, gs, (List.length gs : Int), 0, List.replicate (List.length gs : Int).toNat 0⟩).all = amsL gs (topL gs mo) := q1'
  refine ⟨⟨hE, rfl, rfl⟩, fun c3 => (by rw [show exn_l5a ⟨al, mo, false, true, shL cs os ks gs bs al mo od, rowL cs os ks gs bs, gs, (List.length gs : Int), 0, List.replicate (List.length gs : Int).toNat 0⟩ = _ from q1] at c3; cases c3), fun _ => ⟨⟨rfl, rfl⟩, ?_⟩⟩
  rw [q1']
  have hE2 : E_l5b ⟨al, (run_l5a ⟨al, mo, false, true, shL cs os ks gs bs al mo od, rowL cs os ks gs bs, gs, (List.length gs : Int), 0, List.replicate (List.length gs : Int).toNat 0⟩).r, true, shL cs os ks gs bs al mo od, rowL cs os ks gs bs, rowL cs os ks gs bs, (List.length (rowL cs os ks gs bs) : Int), 0, amsL gs (topL gs mo)⟩ := ⟨rfl, rfl, by simp only; rw [r1]; omega, fun r hr => ⟨(hrr r hr).1, fun m hm => ⟨((hrr r hr).2.1 m hm).1, by
   have := ((hrr r hr).2.1 m hm).2.2
   simp only [amsL_len]
   omega⟩⟩⟩
  obtain ⟨_, _, q2⟩ := l5b_fin _ hE2
  refine ⟨⟨hE2, rfl, rfl⟩, fun c4 => (by rw [show exn_l5b _ = _ from q2] at c4; cases c4), fun _ => ⟨fun _ => ?_, fun h => by cases h⟩⟩
  have ed : ((amsL gs (topL gs mo)).drop 0).take (amsL gs (topL gs mo)).length = amsL gs (topL gs mo) := by rw [List.drop_zero, List.take_length]
  rw [ed]
  refine ⟨by omega, ⟨by rw [r1]; omega, fun r hr => (rf_ok hk).rowR (ams_ok H T) r (by rw [← r1]; exact hr)⟩, fun c5 => rfl, fun c5 => ⟨by omega, by omega, ?_⟩⟩
  have c5 := nf c5
  rw [r1] at c5
  rw [ex, top_all H c5, beq_self_eq_true]
  rfl
 ·cases h)
end Go.Proofs.Ytihbikkkmoaljaa
