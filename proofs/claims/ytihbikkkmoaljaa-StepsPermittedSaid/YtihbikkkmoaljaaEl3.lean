/- StepsPermitted: what it computes. -/
import Derived.Test.YtihbikkkmoaljaaEi
import Derived.Test.YtihbikkkmoaljaaEw
namespace Go.Proofs.Ytihbikkkmoaljaa
open Go.Sx
structure L_l3a where
 al : List Int
 mo : List Int
 r : Bool
 up_ : Bool
 x : List Int
 rows : List (Int × (List Int))
 gs : List (ByteArray × (Int × (Int × (Int × (Int × (Int × (Int × Int)))))))
 n : Int
 i : Int
def A_l3a (s : L_l3a) : List LV := [.xl (.int .i64) s.al, .xl (.int .i64) s.mo, .v (.bool s.r), .v (.bool s.up_), .xl (.int .i64) s.x, .xl tRw s.rows, .xl tCh s.gs, .v (.int .i64 s.n), .v (.int .i64 s.i)]
def B_l3a (_ : L_l3a) : List Blk := []
noncomputable def body_l3a : Code := ((loopsIn (Try.f5.body.getD .skip))[0]?).getD .skip
def t_l3a (s : L_l3a) : T (Rd L_l3a) :=
 .br (decide (s.i < s.n)) (.req (0 ≤ s.i ∧ s.i < (List.length s.gs : Int)) (.req (0 ≤ s.i ∧ s.i < (List.length s.x : Int)) (.req ((gi s.x s.i) ≤ 9223372036854775807) (.br ((amE (gCh s.gs s.i).2.2.2.1 (gCh s.gs s.i).2.2.2.2.1 (gCh s.gs s.i).2.2.2.2.2.1 (lev (gCh s.gs s.i).2.2.2.1 (gCh s.gs s.i).2.2.2.2.1 (gCh s.gs s.i).2.2.2.2.2.1 (gi s.x s.i))) != 0) (.ok (.stop (.ret) { s with r := false })) (.req (0 ≤ s.i ∧ s.i < (List.length s.x : Int)) (.br ((amA (gCh s.gs s.i).2.2.2.1 (gCh s.gs s.i).2.2.2.2.1 (gCh s.gs s.i).2.2.2.2.2.1 (lev (gCh s.gs s.i).2.2.2.1 (gCh s.gs s.i).2.2.2.2.1 (gCh s.gs s.i).2.2.2.2.2.1 (gi s.x s.i))) != (gi s.x s.i)) (.ok (.stop (.ret) { s with r := false })) (.req (0 ≤ s.i ∧ s.i < (List.length s.mo : Int)) (.br (decide ((amA (gCh s.gs s.i).2.2.2.1 (gCh s.gs s.i).2.2.2.2.1 (gCh s.gs s.i).2.2.2.2.2.1 (lev (gCh s.gs s.i).2.2.2.1 (gCh s.gs s.i).2.2.2.2.1 (gCh s.gs s.i).2.2.2.2.2.1 (gi s.x s.i))) > (gi s.mo s.i))) (.ok (.stop (.ret) { s with r := false })) (.ok (.next { s with i := (IntKind.i64.wrap (s.i + 1)) })))))))))) (.ok (.stop (.exit 0) s))
abbrev f_l3a (s : L_l3a) := (t_l3a s).rd s
def E_l3a (s : L_l3a) : Prop := s.i = 0 ∧ s.n = (List.length s.gs : Int) ∧ s.n ≤ 1000 ∧ s.x.length = s.gs.length ∧ s.mo.length = s.gs.length ∧ p3a s.gs s.x s.mo
def I_l3a (s : L_l3a) : Prop := (0 ≤ s.i ∧ s.i ≤ s.n) ∧ s.n = (List.length s.gs : Int) ∧ s.n ≤ 1000 ∧ s.x.length = s.gs.length ∧ s.mo.length = s.gs.length ∧ p3a s.gs s.x s.mo
def mu_l3a (s : L_l3a) : Nat := (s.n - s.i).toNat
def Q_l3a (x : Ex) (_ _ : L_l3a) : Prop := x = .exit 0
theorem l3a_E : ∀ s, E_l3a s → I_l3a s := by
 intro s h
 obtain ⟨h0, h2, h3, h4, h5, h6⟩ := h
 exact ⟨by omega, h2, h3, h4, h5, h6⟩
theorem l3a_da (s : L_l3a) (hI : I_l3a s) : allR (fun s' => I_l3a s' ∧ mu_l3a s' < mu_l3a s) (fun x s' => Q_l3a x s s') (f_l3a s) := by
 unfold f_l3a t_l3a
 dsimp only [T.rd, T.rl]
 obtain ⟨⟨h0, h1⟩, h2, h3, h4, h5, h6⟩ := hI
 refine allR_ite (fun c1 => ?_) (fun c1 => ?_)
 ·refine allR_ite (fun c2 => ?_) (fun c2 => ?_)
  ·have c1 : s.i < s.n := by simpa using c1
   obtain ⟨e1, e2, e3, _⟩ := h6 s.i h0 (by omega)
   first | exact absurd (e1.symm.trans c2) (by decide) | exact absurd (e2.symm.trans c2) (by decide) | exact absurd (e3.symm.trans c2) (by decide)
  ·refine allR_ite (fun c3 => ?_) (fun c3 => ?_)
   ·have c1 : s.i < s.n := by simpa using c1
    obtain ⟨e1, e2, e3, _⟩ := h6 s.i h0 (by omega)
    first | exact absurd (e1.symm.trans c3) (by decide) | exact absurd (e2.symm.trans c3) (by decide) | exact absurd (e3.symm.trans c3) (by decide)
   ·refine allR_ite (fun c4 => ?_) (fun c4 => ?_)
    ·have c1 : s.i < s.n := by simpa using c1
     obtain ⟨e1, e2, e3, _⟩ := h6 s.i h0 (by omega)
     first | exact absurd (e1.symm.trans c4) (by decide) | exact absurd (e2.symm.trans c4) (by decide) | exact absurd (e3.symm.trans c4) (by decide)
    ·have c1 : s.i < s.n := by simpa using c1
     rw [wrapS (x := s.i + 1) (by omega) (by omega)]
     exact ⟨⟨⟨by simp only; omega, by simp only; omega⟩, h2, h3, h4, h5, h6⟩, by simp only [mu_l3a]; omega⟩
 ·exact rfl
def D_l3a : LpD L_l3a := ⟨0, 146, [1, 2, 8, 9, 10, 12, 60, 61, 62], [], A_l3a, B_l3a, fun v _ => ⟨gXl (.int .i64) (v.getD 0 .junk), gXl (.int .i64) (v.getD 1 .junk), gBo (v.getD 2 .junk), gBo (v.getD 3 .junk), gXl (.int .i64) (v.getD 4 .junk), gXl tRw (v.getD 5 .junk), gXl tCh (v.getD 6 .junk), gI (v.getD 7 .junk), gI (v.getD 8 .junk)⟩, t_l3a, fun s r => { r with al := s.al, mo := s.mo, up_ := s.up_, x := s.x, rows := s.rows, gs := s.gs, n := s.n }, fun s => s, fun _ s => s, [.ret, .exit 0], E_l3a, I_l3a, mu_l3a⟩
abbrev run_l3a := D_l3a.run
abbrev exn_l3a := D_l3a.exn
abbrev E_l3aq := D_l3a.q
theorem rq_l3a (s : L_l3a) (hI : I_l3a s) : (t_l3a s).all (fun _ => True) := by
 refine ⟨fun c1 => ⟨?_, ?_, ?_, fun _ => trivial, fun c2 => ⟨?_, fun _ => trivial, fun c3 => ⟨?_, fun _ => trivial, fun _ => trivial⟩⟩⟩, fun _ => trivial⟩
 all_goals ((obtain ⟨⟨h0, h1⟩, h2, h3, h4, h5, h6⟩ := hI; simp only [decide_eq_true_eq] at c1; have := (h6 s.i h0 (by omega)).2.2.2; omega))
noncomputable def gam67 : Specs := specsOf [(10, S_head), (12, S_ampsE), (14, S_shar), (19, S_levl), (22, S_usab), (23, S_rows)]
theorem gok67 : ∀ g S, gam67 g = some S → Valid Try.prog noGlobs g S := specs_ok (l := [(10, S_head), (12, S_ampsE), (14, S_shar), (19, S_levl), (22, S_usab), (23, S_rows)]) ⟨v_head, v_ampsE, v_shar, v_levl, v_usab, v_rows, trivial⟩
theorem ok_l3a : D_l3a.Ok := ⟨fun s => by kernel_rfl, fun s => by kernel_rfl, fun s => rfl, fun s t r => rfl, fun s => rfl, fun s => by kernel_rfl⟩
theorem pf_l3a : D_l3a.Pf (Q_l3a) := ⟨l3a_E, fun _ _ => rfl, l3a_da, rq_l3a⟩
theorem snd_l3a : SoundA Try.prog noGlobs (AN 0) (.loop body_l3a) D_l3a.lp := LpD.snd ok_l3a pf_l3a (code_sound (Γ := gam67) (K := noK) (L := noLoops) gok67 noK_sound body_l3a (fun b hb => by rw [show loopsIn body_l3a = [] by kernel_rfl] at hb; cases hb)) (fun s => by kernel_rfl)
theorem l3a_fin (s : L_l3a) (hE : E_l3a s) : ∃ s', I_l3a s' ∧ Q_l3a (exn_l3a s) s' (run_l3a s) := LpD.fin ok_l3a pf_l3a s hE
structure L_l3c where
 al : List Int
 r : Bool
 up_ : Bool
 x : List Int
 sum : Int
 given : Int
 rows : List (Int × (List Int))
 rn : Int
 k : Int
 ms : List Int
 n : Int
 i : Int
 r_Cap : Int
 r_Members : List Int
def A_l3c (s : L_l3c) : List LV := [.xl (.int .i64) s.al, .v (.bool s.r), .v (.bool s.up_), .xl (.int .i64) s.x, .own 0 0, .v (.int .i64 s.sum), .v (.int .i64 s.given), .xl tRw s.rows, .v (.int .i64 s.rn), .v (.int .i64 s.k), .xl (.int .i64) s.ms, .v (.int .i64 s.n), .v (.int .i64 s.i)]
def B_l3c (s : L_l3c) : List Blk := [⟨[.v (.int .i64 s.r_Cap), .xl (.int .i64) s.r_Members], 49, .cl, false⟩]
noncomputable def body_l3c : Code := ((loopsIn (((loopsIn (Try.f5.body.getD .skip))[1]?).getD .skip))[0]?).getD .skip
def t_l3c (s : L_l3c) : T (Rd L_l3c) :=
 .br (decide (s.i < s.n)) (.req (0 ≤ s.i ∧ s.i < (List.length s.ms : Int)) (.br ((decide ((gi s.ms s.i) < 0)) || (decide ((gi s.ms s.i) ≥ (List.length s.x : Int)))) (.ok (.stop (.ret) { s with r := false })) (.req (0 ≤ (gi s.ms s.i) ∧ (gi s.ms s.i) < (List.length s.al : Int)) (.req (0 ≤ (gi s.ms s.i) ∧ (gi s.ms s.i) < (List.length s.x : Int)) (.req (0 ≤ (gi s.ms s.i) ∧ (gi s.ms s.i) < (List.length s.x : Int)) (.ok (.next { s with sum := (IntKind.i64.wrap (s.sum + (if (gi s.al (gi s.ms s.i)) < (gi s.x (gi s.ms s.i)) then (gi s.x (gi s.ms s.i)) else (gi s.al (gi s.ms s.i))))), given := (IntKind.i64.wrap (s.given + (gi s.x (gi s.ms s.i)))), i := (IntKind.i64.wrap (s.i + 1)) }))))))) (.ok (.stop (.exit 4) s))
abbrev f_l3c (s : L_l3c) := (t_l3c s).rd s
def E_l3c (s : L_l3c) : Prop := s.i = 0 ∧ s.n = (List.length s.ms : Int) ∧ s.sum = 0 ∧ s.given = 0 ∧ rowR s.al s.x (0, s.ms)
def I_l3c (s : L_l3c) : Prop := (0 ≤ s.i ∧ s.i ≤ s.n) ∧ s.n = (List.length s.ms : Int) ∧ (0 ≤ s.sum ∧ s.sum ≤ 1000000 * s.i) ∧ (0 ≤ s.given ∧ s.given ≤ 1000000 * s.i) ∧ rowR s.al s.x (0, s.ms)
def mu_l3c (s : L_l3c) : Nat := (s.n - s.i).toNat
def Q_l3c (x : Ex) (_ _ : L_l3c) : Prop := x = .exit 4
theorem l3c_E : ∀ s, E_l3c s → I_l3c s := by
 intro s h
 obtain ⟨h0, h1, h2, h3, h4⟩ := h
 exact ⟨by omega, h1, by omega, by omega, h4⟩
theorem l3c_m (s : L_l3c) (hI : I_l3c s) (c1 : s.i < s.n) : (0 ≤ mx (gi s.al (gi s.ms s.i)) (gi s.x (gi s.ms s.i)) ∧ mx (gi s.al (gi s.ms s.i)) (gi s.x (gi s.ms s.i)) ≤ 1000000) ∧ (0 ≤ gi s.x (gi s.ms s.i) ∧ gi s.x (gi s.ms s.i) ≤ 1000000) ∧ 0 ≤ gi s.ms s.i ∧ gi s.ms s.i < (List.length s.al : Int) ∧ gi s.ms s.i < (List.length s.x : Int) ∧ (decide (gi s.ms s.i < 0) || decide (gi s.ms s.i ≥ (List.length s.x : Int))) = false := by
 obtain ⟨⟨h0, h1⟩, h2, _, _, h5⟩ := hI
 have hm := h5.2.1 (gi s.ms s.i) (gi_mem (by omega) (by simp only; omega))
 have b1 := h5.2.2.1 _ (gi_mem hm.1 hm.2.1)
 have b2 := h5.2.2.2 _ (gi_mem hm.1 hm.2.2)
 exact ⟨mx_bd b1 b2, b2, hm.1, hm.2.1, hm.2.2, by rw [decide_eq_false (by omega), decide_eq_false (by omega)]; rfl⟩
theorem l3c_da (s : L_l3c) (hI : I_l3c s) : allR (fun s' => I_l3c s' ∧ mu_l3c s' < mu_l3c s) (fun x s' => Q_l3c x s s') (f_l3c s) := by
 unfold f_l3c t_l3c
 dsimp only [T.rd, T.rl]
 have hm := fun c1 => l3c_m s hI c1
 obtain ⟨⟨h0, h1⟩, h2, ⟨h3, h3'⟩, ⟨h4, h4'⟩, h5⟩ := hI
 have hl := h5.1
 simp only at hl
 refine allR_ite (fun c1 => ?_) (fun c1 => rfl)
 have c1 : s.i < s.n := by simpa using c1
 obtain ⟨⟨m1, m2⟩, m3, m4, m5, m6, m7⟩ := hm c1
 refine allR_ite (fun c2 => ?_) (fun c2 => ?_)
 ·exact absurd (m7.symm.trans c2) (by decide)
 ·have e : (if (gi s.al (gi s.ms s.i)) < (gi s.x (gi s.ms s.i)) then (gi s.x (gi s.ms s.i)) else (gi s.al (gi s.ms s.i))) = mx (gi s.al (gi s.ms s.i)) (gi s.x (gi s.ms s.i)) := rfl
  rw [e, wrapS (x := s.i + 1) (by omega) (by omega), wrapS (x := s.sum + mx (gi s.al (gi s.ms s.i)) (gi s.x (gi s.ms s.i))) (by omega) (by omega), wrapS (x := s.given + gi s.x (gi s.ms s.i)) (by omega) (by omega)]
  exact ⟨⟨⟨by simp only; omega, by simp only; omega⟩, h2, ⟨by simp only; omega, by simp only; omega⟩, ⟨by simp only; omega, by simp only; omega⟩, h5⟩, by simp only [mu_l3c]; omega⟩
def D_l3c : LpD L_l3c := ⟨0, 146, [1, 8, 9, 10, 19, 20, 21, 97, 98, 99, 104, 105, 106], [], A_l3c, B_l3c, fun v b => ⟨gXl (.int .i64) (v.getD 0 .junk), gBo (v.getD 1 .junk), gBo (v.getD 2 .junk), gXl (.int .i64) (v.getD 3 .junk), gI (v.getD 5 .junk), gI (v.getD 6 .junk), gXl tRw (v.getD 7 .junk), gI (v.getD 8 .junk), gI (v.getD 9 .junk), gXl (.int .i64) (v.getD 10 .junk), gI (v.getD 11 .junk), gI (v.getD 12 .junk), gI (gCe (gBk b 0) 0), gXl (.int .i64) (gCe (gBk b 0) 1)⟩, t_l3c, fun s r => { r with al := s.al, up_ := s.up_, x := s.x, rows := s.rows, rn := s.rn, k := s.k, ms := s.ms, n := s.n, r_Cap := s.r_Cap, r_Members := s.r_Members }, fun s => s, fun _ s => s, [.ret, .exit 4], E_l3c, I_l3c, mu_l3c⟩
abbrev run_l3c := D_l3c.run
abbrev exn_l3c := D_l3c.exn
abbrev E_l3cq := D_l3c.q
theorem rq_l3c (s : L_l3c) (hI : I_l3c s) : (t_l3c s).all (fun _ => True) := by
 refine ⟨fun c1 => ⟨?_, fun _ => trivial, fun c2 => ⟨?_, ?_, ?_, trivial⟩⟩, fun _ => trivial⟩
 all_goals ((simp only [decide_eq_true_eq] at c1; obtain ⟨_, m3, m4, m5, m6, m7⟩ := l3c_m s hI c1; obtain ⟨⟨h0, h1⟩, h2, h3⟩ := hI; omega))
theorem ok_l3c : D_l3c.Ok := ⟨fun s => by kernel_rfl, fun s => by kernel_rfl, fun s => rfl, fun s t r => rfl, fun s => rfl, fun s => by kernel_rfl⟩
theorem pf_l3c : D_l3c.Pf (Q_l3c) := ⟨l3c_E, fun _ _ => rfl, l3c_da, rq_l3c⟩
theorem snd_l3c : SoundA Try.prog noGlobs (AN 0) (.loop body_l3c) D_l3c.lp := LpD.snd ok_l3c pf_l3c (code_sound (Γ := gam67) (K := noK) (L := noLoops) gok67 noK_sound body_l3c (fun b hb => by rw [show loopsIn body_l3c = [] by kernel_rfl] at hb; cases hb)) (fun s => by kernel_rfl)
theorem l3c_fin (s : L_l3c) (hE : E_l3c s) : ∃ s', I_l3c s' ∧ Q_l3c (exn_l3c s) s' (run_l3c s) := LpD.fin ok_l3c pf_l3c s hE
theorem l3c_res (s : L_l3c) (hE : E_l3c s) : (fun (x : Ex) (s' : L_l3c) (v : Int × Int) => x = .exit 4 ∧ (s'.sum, s'.given) = v) (exn_l3c s) (run_l3c s) ((fun s : L_l3c => (s.sum + smM s.al s.x (s.ms.drop s.i.toNat), s.given + smX s.x (s.ms.drop s.i.toNat))) s) := by
 exact LpD.finV ok_l3c pf_l3c (fun s : L_l3c => (s.sum + smM s.al s.x (s.ms.drop s.i.toNat), s.given + smX s.x (s.ms.drop s.i.toNat))) (fun x s' v => x = .exit 4 ∧ (s'.sum, s'.given) = v) (fun s hI => by
  show allR _ _ (f_l3c s)
  unfold f_l3c t_l3c
  dsimp only [T.rd, T.rl]
  have hm := fun c1 => l3c_m s hI c1
  obtain ⟨⟨h0, h1⟩, h2, ⟨h3, h3'⟩, ⟨h4, h4'⟩, h5⟩ := hI
  have hl := h5.1
  simp only at hl
  refine allR_ite (fun c1 => ?_) (fun c1 => ?_)
  ·have c1 : s.i < s.n := by simpa using c1
   obtain ⟨⟨m1, m2⟩, m3, m4, m5, m6, m7⟩ := hm c1
   refine allR_ite (fun c2 => ?_) (fun c2 => ?_)
   ·exact absurd (m7.symm.trans c2) (by decide)
   ·have e : (if (gi s.al (gi s.ms s.i)) < (gi s.x (gi s.ms s.i)) then (gi s.x (gi s.ms s.i)) else (gi s.al (gi s.ms s.i))) = mx (gi s.al (gi s.ms s.i)) (gi s.x (gi s.ms s.i)) := rfl
    rw [e, wrapS (x := s.i + 1) (by omega) (by omega), wrapS (x := s.sum + mx (gi s.al (gi s.ms s.i)) (gi s.x (gi s.ms s.i))) (by omega) (by omega), wrapS (x := s.given + gi s.x (gi s.ms s.i)) (by omega) (by omega)]
    show (_, _) = (_, _)
    simp only
    rw [(gi_step h0 (show s.i < (List.length s.ms : Int) by omega)).1, smM_cons, smX_cons]
    simp only [Prod.mk.injEq]
    exact ⟨by omega, by omega⟩
  ·have c1 : s.n ≤ s.i := by simpa using c1
   refine ⟨rfl, ?_⟩
   rw [List.drop_eq_nil_of_le (by omega)]
   simp [smM, smX]) s hE
structure L_l3b where
 al : List Int
 r : Bool
 up_ : Bool
 x : List Int
 rows : List (Int × (List Int))
 n : Int
 k : Int
def A_l3b (s : L_l3b) : List LV := [.xl (.int .i64) s.al, .v (.bool s.r), .v (.bool s.up_), .xl (.int .i64) s.x, .xl tRw s.rows, .v (.int .i64 s.n), .v (.int .i64 s.k)]
def B_l3b (_ : L_l3b) : List Blk := []
noncomputable def body_l3b : Code := ((loopsIn (Try.f5.body.getD .skip))[1]?).getD .skip
def st12_l3c (s : L_l3b) : L_l3c := (⟨s.al, s.r, s.up_, s.x, (0 : Int), (0 : Int), s.rows, s.n, s.k, (gRw s.rows s.k).2, (List.length (gRw s.rows s.k).2 : Int), (0 : Int), (gRw s.rows s.k).1, (gRw s.rows s.k).2⟩ : L_l3c)
def t_l3b (s : L_l3b) : T (Rd L_l3b) :=
 .br (decide (s.k < s.n)) (.req (0 ≤ s.k ∧ s.k < (List.length s.rows : Int)) (.req (E_l3cq (st12_l3c s)) (.br (isEx (exn_l3c (st12_l3c s)) (.ret)) (.ok (.stop (.ret) { s with r := (run_l3c (st12_l3c s)).r })) (.br ((decide ((run_l3c (st12_l3c s)).sum > (gRw s.rows s.k).1)) && (decide ((run_l3c (st12_l3c s)).given > 0))) (.ok (.stop (.ret) { s with r := false })) (.ok (.next { s with r := (run_l3c (st12_l3c s)).r, k := (IntKind.i64.wrap (s.k + 1)) })))))) (.ok (.stop (.exit 2) s))
abbrev f_l3b (s : L_l3b) := (t_l3b s).rd s
def E_l3b (s : L_l3b) : Prop := s.k = 0 ∧ s.n = (List.length s.rows : Int) ∧ s.n ≤ 1000 ∧ ∀ r ∈ s.rows, rowR s.al s.x r ∧ rowB s.al s.x r = true
def I_l3b (s : L_l3b) : Prop := (0 ≤ s.k ∧ s.k ≤ s.n) ∧ s.n = (List.length s.rows : Int) ∧ s.n ≤ 1000 ∧ ∀ r ∈ s.rows, rowR s.al s.x r ∧ rowB s.al s.x r = true
def mu_l3b (s : L_l3b) : Nat := (s.n - s.k).toNat
def Q_l3b (x : Ex) (_ _ : L_l3b) : Prop := x = .exit 2
theorem l3b_E : ∀ s, E_l3b s → I_l3b s := by
 intro s h
 obtain ⟨h0, h2, h3, h4⟩ := h
 exact ⟨by omega, h2, h3, h4⟩
theorem l3b_in (s : L_l3b) (hI : I_l3b s) (c1 : s.k < s.n) : E_l3c (st12_l3c s) := by
 obtain ⟨⟨h0, h1⟩, h2, h3, h4⟩ := hI
 exact ⟨rfl, rfl, rfl, rfl, (h4 _ (gRw_mem h0 (by omega))).1⟩
theorem l3b_da (s : L_l3b) (hI : I_l3b s) : allR (fun s' => I_l3b s' ∧ mu_l3b s' < mu_l3b s) (fun x s' => Q_l3b x s s') (f_l3b s) := by
 unfold f_l3b t_l3b
 dsimp only [T.rd, T.rl]
 have hin := fun c1 => l3b_in s hI c1
 obtain ⟨⟨h0, h1⟩, h2, h3, h4⟩ := hI
 refine allR_ite (fun c1 => ?_) (fun c1 => rfl)
 have c1 : s.k < s.n := by simpa using c1
 obtain ⟨q1, q2⟩ := l3c_res _ (hin c1)
 have q2 : ((run_l3c (st12_l3c s)).sum, (run_l3c (st12_l3c s)).given) = (0 + smM s.al s.x (gRw s.rows s.k).2, 0 + smX s.x (gRw s.rows s.k).2) := q2
 have e1 := congrArg Prod.fst q2
 have e2 := congrArg Prod.snd q2
 simp only [Int.zero_add] at e1 e2
 refine allR_ite (fun c2 => ?_) (fun c2 => allR_ite (fun c3 => ?_) (fun c3 => ?_))
 ·rw [q1] at c2
  cases c2
 ·rw [e1, e2] at c3
  rw [Bool.and_eq_true, decide_eq_true_eq, decide_eq_true_eq] at c3
  rcases row_fine (h4 _ (gRw_mem h0 (by omega))).2 with h | h <;> omega
 ·rw [wrapS (x := s.k + 1) (by omega) (by omega)]
  exact ⟨⟨⟨by simp only; omega, by simp only; omega⟩, h2, h3, h4⟩, by simp only [mu_l3b]; omega⟩
def D_l3b : LpD L_l3b := ⟨0, 146, [1, 8, 9, 10, 97, 98, 99], [], A_l3b, B_l3b, fun v _ => ⟨gXl (.int .i64) (v.getD 0 .junk), gBo (v.getD 1 .junk), gBo (v.getD 2 .junk), gXl (.int .i64) (v.getD 3 .junk), gXl tRw (v.getD 4 .junk), gI (v.getD 5 .junk), gI (v.getD 6 .junk)⟩, t_l3b, fun s r => { r with al := s.al, up_ := s.up_, x := s.x, rows := s.rows, n := s.n }, fun s => s, fun _ s => s, [.ret, .exit 2], E_l3b, I_l3b, mu_l3b⟩
abbrev run_l3b := D_l3b.run
abbrev exn_l3b := D_l3b.exn
abbrev E_l3bq := D_l3b.q
theorem rq_l3b (s : L_l3b) (hI : I_l3b s) : (t_l3b s).all (fun _ => True) := by
 refine ⟨fun c1 => ⟨?_, ?_, fun _ => trivial, fun c2 => ⟨fun _ => trivial, fun _ => trivial⟩⟩, fun _ => trivial⟩
 ·(obtain ⟨⟨h0, h1⟩, h2, h3⟩ := hI; simp only [decide_eq_true_eq] at c1; omega)
 ·exact ⟨l3b_in s hI (by simpa using c1), rfl, rfl⟩
theorem ok_l3b : D_l3b.Ok := ⟨fun s => by kernel_rfl, fun s => by kernel_rfl, fun s => rfl, fun s t r => rfl, fun s => rfl, fun s => by kernel_rfl⟩
theorem pf_l3b : D_l3b.Pf (Q_l3b) := ⟨l3b_E, fun _ _ => rfl, l3b_da, rq_l3b⟩
theorem snd_l3b : SoundA Try.prog noGlobs (AN 0) (.loop body_l3b) D_l3b.lp := LpD.snd ok_l3b pf_l3b (code_sound (Γ := gam67) (K := noK) (L := (fun i => if i = 20 then D_l3c.lp else noLoops i)) gok67 noK_sound body_l3b (fun b hb => by
 rw [show loopsIn _ = [body_l3c] by kernel_rfl] at hb
 simp only [List.mem_cons, List.not_mem_nil, or_false] at hb
 subst hb
 exact snd_l3c)) (fun s => by kernel_rfl)
theorem l3b_fin (s : L_l3b) (hE : E_l3b s) : ∃ s', I_l3b s' ∧ Q_l3b (exn_l3b s) s' (run_l3b s) := LpD.fin ok_l3b pf_l3b s hE
def S0_l3 : List LV → T LV
 | [.agg [.xl (.pair .str (.pair (.int .i64) (.pair (.int .i64) (.pair (.int .i64) (.pair (.pair (.int .i64) (.int .i64)) (.pair (.int .i64) (.pair (.int .i64) (.pair (.int .i64) (.pair (.int .i64) (.int .i64)))))))))) cs, .xl (.str) os, .xl (.pair .str (.pair (.int .i64) (.pair (.int .i64) (.int .i64)))) ks, .xl (.pair .str (.pair (.int .i64) (.pair (.int .i64) (.pair (.int .i64) (.pair (.int .i64) (.pair (.int .i64) (.pair (.int .i64) (.int .i64)))))))) gs, .xl (.pair .str (.int .i64)) bs], .xl (.int .i64) _, .xl (.int .i64) _, .xl (.int .i64) _] => .req (nmR (nmsOf cs os ks gs bs)) (.ok (.v (.bool true)))
 | _ => .no
noncomputable def S_l3 : List LV → T LV := upS Try.prog Try.f5.params.toList S0_l3
theorem nf_l3 (cs : List (ByteArray × (Int × (Int × (Int × ((Int × Int) × (Int × (Int × (Int × (Int × Int)))))))))) (os : List ByteArray) (ks : List (ByteArray × (Int × (Int × Int)))) (gs : List (ByteArray × (Int × (Int × (Int × (Int × (Int × (Int × Int)))))))) (bs : List (ByteArray × Int)) (al mo od : List Int) : funu Try.prog noGlobs (gam67) noK (fun i => if i = 9 then D_l3a.lp else if i = 16 then D_l3b.lp else noLoops i) Try.f5 [.agg [.xl tCd cs, .xl .str os, .xl tKo ks, .xl tCh gs, .xl tBa bs], .xl (.int .i64) al, .xl (.int .i64) mo, .xl (.int .i64) od] = .req (nmR (nmsOf cs os ks gs bs)) (.br (!(useB cs os ks gs bs al mo od)) (.ok (.v (.bool true))) (.br (((shE cs os ks gs bs al mo od) != 0) || (((rowE cs os ks gs bs) != 0) || ((List.length (shL cs os ks gs bs al mo od) : Int) != (List.length gs : Int)))) (.ok (.v (.bool false))) (.req (E_l3aq (⟨al, mo, false, true, (shL cs os ks gs bs al mo od), (rowL cs os ks gs bs), gs, (List.length gs : Int), (0 : Int)⟩ : L_l3a)) (.br (isEx (exn_l3a (⟨al, mo, false, true, (shL cs os ks gs bs al mo od), (rowL cs os ks gs bs), gs, (List.length gs : Int), (0 : Int)⟩ : L_l3a)) (.ret)) (.ok (.v (.bool (run_l3a (⟨al, mo, false, true, (shL cs os ks gs bs al mo od), (rowL cs os ks gs bs), gs, (List.length gs : Int), (0 : Int)⟩ : L_l3a)).r))) (.req (E_l3bq (⟨al, (run_l3a (⟨al, mo, false, true, (shL cs os ks gs bs al mo od), (rowL cs os ks gs bs), gs, (List.length gs : Int), (0 : Int)⟩ : L_l3a)).r, true, (shL cs os ks gs bs al mo od), (rowL cs os ks gs bs), (List.length (rowL cs os ks gs bs) : Int), (0 : Int)⟩ : L_l3b)) (.br (isEx (exn_l3b (⟨al, (run_l3a (⟨al, mo, false, true, (shL cs os ks gs bs al mo od), (rowL cs os ks gs bs), gs, (List.length gs : Int), (0 : Int)⟩ : L_l3a)).r, true, (shL cs os ks gs bs al mo od), (rowL cs os ks gs bs), (List.length (rowL cs os ks gs bs) : Int), (0 : Int)⟩ : L_l3b)) (.ret)) (.ok (.v (.bool (run_l3b (⟨al, (run_l3a (⟨al, mo, false, true, (shL cs os ks gs bs al mo od), (rowL cs os ks gs bs), gs, (List.length gs : Int), (0 : Int)⟩ : L_l3a)).r, true, (shL cs os ks gs bs al mo od), (rowL cs os ks gs bs), (List.length (rowL cs os ks gs bs) : Int), (0 : Int)⟩ : L_l3b)).r))) (.ok (.v (.bool true))))))))) := by kernel_rfl
theorem v_l3 : Valid Try.prog noGlobs 5 S_l3 := valid_ofu Try.func5 rfl gok67 noK_sound (L := (fun i => if i = 9 then D_l3a.lp else if i = 16 then D_l3b.lp else noLoops i)) (fun b hb => by
 rw [show loopsIn _ = [body_l3a, body_l3b] by kernel_rfl] at hb
 simp only [List.mem_cons, List.not_mem_nil, or_false] at hb
 rcases hb with rfl | rfl
 ·exact snd_l3a
 ·exact snd_l3b) (fun args lv h => by
 unfold S0_l3 at h
 split at h
 ·simp only [canL, canX]
  rw [nf_l3]
  rename_i cs os ks gs bs al mo od
  obtain ⟨hn, rfl⟩ := h
  refine ⟨hn, fun c => rfl, fun c => ?_⟩
  have hk := useB_sh (nf c)
  have H := sh_ok hk
  obtain ⟨r1, r2, r3⟩ := row_sh hk
  have ex := shL_lv hk
  have xl : (shL cs os ks gs bs al mo od).length = gs.length := by rw [ex, amsL_len]
  have gl := H.gl
  have R := lvF_R H
  have hrr : ∀ r ∈ rowL cs os ks gs bs, rowR al (shL cs os ks gs bs al mo od) r := fun r hr => by rw [r1] at hr; rw [ex]; exact (rf_ok hk).rowR (ams_ok H R) r hr
  rw [shE_0 hk, r2, xl]
  refine ⟨fun c2 => absurd c2 (by simp), fun _ => ?_⟩
  have hE : E_l3a ⟨al, mo, false, true, shL cs os ks gs bs al mo od, rowL cs os ks gs bs, gs, (List.length gs : Int), 0⟩ := ⟨rfl, rfl, by simp only; omega, xl, H.mol, by
   show p3a gs (shL cs os ks gs bs al mo od) mo
   rw [ex]
   exact p3a_of H⟩
  obtain ⟨_, _, q1⟩ := l3a_fin _ hE
  refine ⟨⟨hE, rfl, rfl⟩, fun c3 => (by rw [show exn_l3a ⟨al, mo, false, true, shL cs os ks gs bs al mo od, rowL cs os ks gs bs, gs, (List.length gs : Int), 0⟩ = _ from q1] at c3; cases c3), fun _ => ?_⟩
  have hE2 : E_l3b ⟨al, (run_l3a ⟨al, mo, false, true, shL cs os ks gs bs al mo od, rowL cs os ks gs bs, gs, (List.length gs : Int), 0⟩).r, true, shL cs os ks gs bs al mo od, rowL cs os ks gs bs, (List.length (rowL cs os ks gs bs) : Int), 0⟩ := ⟨rfl, rfl, by simp only; rw [r1]; omega, fun r hr => ⟨hrr r hr, by
   show rowB al (shL cs os ks gs bs al mo od) r = true
   have hr : r ∈ rowL cs os ks gs bs := hr
   rw [r1] at hr
   rw [ex]
   exact List.all_eq_true.1 (lvF_pp H) r hr⟩⟩
  obtain ⟨_, _, q2⟩ := l3b_fin _ hE2
  exact ⟨⟨hE2, rfl, rfl⟩, fun c4 => (by rw [show exn_l3b _ = _ from q2] at c4; cases c4), fun _ => rfl⟩
 ·cases h)
end Go.Proofs.Ytihbikkkmoaljaa
