/- StepsEquals: what it computes. -/
import Derived.Test.YtihbikkkmoaljaaEi
import Derived.Test.YtihbikkkmoaljaaEw
namespace Go.Proofs.Ytihbikkkmoaljaa
open Go.Sx
structure L_l6b where
 al : List Int
 mo : List Int
 od : List Int
 r : Bool
 up_ : Bool
 x : List Int
 i : Int
 l0 : List Int
 n0 : Int
 k0 : Int
 l : List Int
 n : Int
 k : Int
 s_Conductors : List (ByteArray × (Int × (Int × (Int × ((Int × Int) × (Int × (Int × (Int × (Int × Int)))))))))
 s_Owners : List ByteArray
 s_Contracts : List (ByteArray × (Int × (Int × Int)))
 s_Chargers : List (ByteArray × (Int × (Int × (Int × (Int × (Int × (Int × Int)))))))
 s_Bays : List (ByteArray × Int)
def A_l6b (s : L_l6b) : List LV := [.xl (.int .i64) s.al, .xl (.int .i64) s.mo, .xl (.int .i64) s.od, .own 0 0, .v (.bool s.r), .v (.bool s.up_), .xl (.int .i64) s.x, .v (.int .i64 s.i), .xl (.int .i64) s.l0, .v (.int .i64 s.n0), .v (.int .i64 s.k0), .xl (.int .i64) s.l, .v (.int .i64 s.n), .v (.int .i64 s.k)]
def B_l6b (s : L_l6b) : List Blk := [⟨[.xl tCd s.s_Conductors, .xl .str s.s_Owners, .xl tKo s.s_Contracts, .xl tCh s.s_Chargers, .xl tBa s.s_Bays], 30, .cl, false⟩]
noncomputable def body_l6b : Code := ((loopsIn (((loopsIn (Try.f8.body.getD .skip))[0]?).getD .skip))[0]?).getD .skip
def t_l6b (s : L_l6b) : T (Rd L_l6b) :=
 .br (decide (s.k < s.n)) (.req (0 ≤ s.k ∧ s.k < (List.length s.l : Int)) (.req (0 ≤ s.i ∧ s.i < (List.length s.s_Chargers : Int)) (.req (0 ≤ (gi s.l s.k) ∧ (gi s.l s.k) < (List.length s.s_Chargers : Int)) (.br ((gCh s.s_Chargers s.i).2.1 == (gCh s.s_Chargers (gi s.l s.k)).2.1) (.br ((gCh s.s_Chargers s.i).2.2.1 == (gCh s.s_Chargers (gi s.l s.k)).2.2.1) (.br ((gCh s.s_Chargers s.i).2.2.2.1 == (gCh s.s_Chargers (gi s.l s.k)).2.2.2.1) (.br ((gCh s.s_Chargers s.i).2.2.2.2.1 == (gCh s.s_Chargers (gi s.l s.k)).2.2.2.2.1) (.br ((gCh s.s_Chargers s.i).2.2.2.2.2.1 == (gCh s.s_Chargers (gi s.l s.k)).2.2.2.2.2.1) (.req (0 ≤ s.i ∧ s.i < (List.length s.al : Int)) (.req (0 ≤ (gi s.l s.k) ∧ (gi s.l s.k) < (List.length s.al : Int)) (.br ((gi s.al s.i) == (gi s.al (gi s.l s.k))) (.req (0 ≤ s.i ∧ s.i < (List.length s.mo : Int)) (.req (0 ≤ (gi s.l s.k) ∧ (gi s.l s.k) < (List.length s.mo : Int)) (.br ((gi s.mo s.i) == (gi s.mo (gi s.l s.k))) (.req (0 ≤ s.i ∧ s.i < (List.length s.x : Int)) (.req (0 ≤ (gi s.l s.k) ∧ (gi s.l s.k) < (List.length s.x : Int)) (.br (decide ((gi s.x s.i) < (gi s.x (gi s.l s.k)))) (.ok (.stop (.ret) { s with r := false })) (.ok (.next { s with k := (IntKind.i64.wrap (s.k + 1)) }))))) (.ok (.next { s with k := (IntKind.i64.wrap (s.k + 1)) }))))) (.ok (.next { s with k := (IntKind.i64.wrap (s.k + 1)) }))))) (.ok (.next { s with k := (IntKind.i64.wrap (s.k + 1)) }))) (.ok (.next { s with k := (IntKind.i64.wrap (s.k + 1)) }))) (.ok (.next { s with k := (IntKind.i64.wrap (s.k + 1)) }))) (.ok (.next { s with k := (IntKind.i64.wrap (s.k + 1)) }))) (.ok (.next { s with k := (IntKind.i64.wrap (s.k + 1)) })))))) (.ok (.stop (.exit 2) s))
abbrev f_l6b (s : L_l6b) := (t_l6b s).rd s
def E_l6b (s : L_l6b) : Prop := s.k = 0 ∧ s.n = (List.length s.l : Int) ∧ s.n ≤ 1000 ∧ (s.al.length = s.s_Chargers.length ∧ s.mo.length = s.s_Chargers.length ∧ s.x.length = s.s_Chargers.length) ∧ (0 ≤ s.i ∧ s.i < (List.length s.s_Chargers : Int)) ∧ (∀ j ∈ s.l, p6a s.s_Chargers s.al s.mo s.x s.i j)
def I_l6b (s : L_l6b) : Prop := (0 ≤ s.k ∧ s.k ≤ s.n) ∧ s.n = (List.length s.l : Int) ∧ s.n ≤ 1000 ∧ (s.al.length = s.s_Chargers.length ∧ s.mo.length = s.s_Chargers.length ∧ s.x.length = s.s_Chargers.length) ∧ (0 ≤ s.i ∧ s.i < (List.length s.s_Chargers : Int)) ∧ (∀ j ∈ s.l, p6a s.s_Chargers s.al s.mo s.x s.i j)
def mu_l6b (s : L_l6b) : Nat := (s.n - s.k).toNat
def Q_l6b (x : Ex) (_ _ : L_l6b) : Prop := x = .exit 2
theorem l6b_E : ∀ s, E_l6b s → I_l6b s := by
 intro s h
 obtain ⟨h0, h2, h3, h4, h5, h6⟩ := h
 exact ⟨by omega, h2, h3, h4, h5, h6⟩
theorem l6b_da (s : L_l6b) (hI : I_l6b s) : allR (fun s' => I_l6b s' ∧ mu_l6b s' < mu_l6b s) (fun x s' => Q_l6b x s s') (f_l6b s) := by
 unfold f_l6b t_l6b
 dsimp only [T.rd, T.rl]
 obtain ⟨⟨h0, h1⟩, h2, h3, h4, h5, h6⟩ := hI
 refine allR_ite (fun c1 => ?_) (fun c1 => ?_)
 ·refine allR_ite (fun c2 => ?_) (fun c2 => ?_)
  ·refine allR_ite (fun c3 => ?_) (fun c3 => ?_)
   ·refine allR_ite (fun c4 => ?_) (fun c4 => ?_)
    ·refine allR_ite (fun c5 => ?_) (fun c5 => ?_)
     ·refine allR_ite (fun c6 => ?_) (fun c6 => ?_)
      ·refine allR_ite (fun c7 => ?_) (fun c7 => ?_)
       ·refine allR_ite (fun c8 => ?_) (fun c8 => ?_)
        ·refine allR_ite (fun c9 => ?_) (fun c9 => ?_)
         ·have c1 : s.k < s.n := by simpa using c1
          exact absurd (of_decide_eq_true c9) ((h6 _ (gi_mem h0 (by omega))).2 (eq_of_beq c2) (eq_of_beq c3) (eq_of_beq c4) (eq_of_beq c5) (eq_of_beq c6) (eq_of_beq c7) (eq_of_beq c8))
         ·have c1 : s.k < s.n := by simpa using c1
          rw [wrapS (x := s.k + 1) (by omega) (by omega)]
          exact ⟨⟨⟨by simp only; omega, by simp only; omega⟩, h2, h3, h4, h5, h6⟩, by simp only [mu_l6b]; omega⟩
        ·have c1 : s.k < s.n := by simpa using c1
         rw [wrapS (x := s.k + 1) (by omega) (by omega)]
         exact ⟨⟨⟨by simp only; omega, by simp only; omega⟩, h2, h3, h4, h5, h6⟩, by simp only [mu_l6b]; omega⟩
       ·have c1 : s.k < s.n := by simpa using c1
        rw [wrapS (x := s.k + 1) (by omega) (by omega)]
        exact ⟨⟨⟨by simp only; omega, by simp only; omega⟩, h2, h3, h4, h5, h6⟩, by simp only [mu_l6b]; omega⟩
      ·have c1 : s.k < s.n := by simpa using c1
       rw [wrapS (x := s.k + 1) (by omega) (by omega)]
       exact ⟨⟨⟨by simp only; omega, by simp only; omega⟩, h2, h3, h4, h5, h6⟩, by simp only [mu_l6b]; omega⟩
     ·have c1 : s.k < s.n := by simpa using c1
      rw [wrapS (x := s.k + 1) (by omega) (by omega)]
      exact ⟨⟨⟨by simp only; omega, by simp only; omega⟩, h2, h3, h4, h5, h6⟩, by simp only [mu_l6b]; omega⟩
    ·have c1 : s.k < s.n := by simpa using c1
     rw [wrapS (x := s.k + 1) (by omega) (by omega)]
     exact ⟨⟨⟨by simp only; omega, by simp only; omega⟩, h2, h3, h4, h5, h6⟩, by simp only [mu_l6b]; omega⟩
   ·have c1 : s.k < s.n := by simpa using c1
    rw [wrapS (x := s.k + 1) (by omega) (by omega)]
    exact ⟨⟨⟨by simp only; omega, by simp only; omega⟩, h2, h3, h4, h5, h6⟩, by simp only [mu_l6b]; omega⟩
  ·have c1 : s.k < s.n := by simpa using c1
   rw [wrapS (x := s.k + 1) (by omega) (by omega)]
   exact ⟨⟨⟨by simp only; omega, by simp only; omega⟩, h2, h3, h4, h5, h6⟩, by simp only [mu_l6b]; omega⟩
 ·exact rfl
def D_l6b : LpD L_l6b := ⟨0, 140, [1, 2, 3, 4, 8, 9, 10, 13, 44, 45, 46, 54, 55, 56], [], A_l6b, B_l6b, fun v b => ⟨gXl (.int .i64) (v.getD 0 .junk), gXl (.int .i64) (v.getD 1 .junk), gXl (.int .i64) (v.getD 2 .junk), gBo (v.getD 4 .junk), gBo (v.getD 5 .junk), gXl (.int .i64) (v.getD 6 .junk), gI (v.getD 7 .junk), gXl (.int .i64) (v.getD 8 .junk), gI (v.getD 9 .junk), gI (v.getD 10 .junk), gXl (.int .i64) (v.getD 11 .junk), gI (v.getD 12 .junk), gI (v.getD 13 .junk), gXl tCd (gCe (gBk b 0) 0), gXl .str (gCe (gBk b 0) 1), gXl tKo (gCe (gBk b 0) 2), gXl tCh (gCe (gBk b 0) 3), gXl tBa (gCe (gBk b 0) 4)⟩, t_l6b, fun s r => { r with al := s.al, mo := s.mo, od := s.od, up_ := s.up_, x := s.x, i := s.i, l0 := s.l0, n0 := s.n0, k0 := s.k0, l := s.l, n := s.n, s_Conductors := s.s_Conductors, s_Owners := s.s_Owners, s_Contracts := s.s_Contracts, s_Chargers := s.s_Chargers, s_Bays := s.s_Bays }, fun s => s, fun _ s => s, [.ret, .exit 2], E_l6b, I_l6b, mu_l6b⟩
abbrev run_l6b := D_l6b.run
abbrev exn_l6b := D_l6b.exn
abbrev E_l6bq := D_l6b.q
set_option maxRecDepth 100000 in
set_option maxHeartbeats 4000000 in
theorem rq_l6b (s : L_l6b) (hI : I_l6b s) : (t_l6b s).all (fun _ => True) := by
 refine ⟨fun c1 => ⟨?_, ?_, ?_, fun c2 => ⟨fun c3 => ⟨fun c4 => ⟨fun c5 => ⟨fun c6 => ⟨?_, ?_, fun c7 => ⟨?_, ?_, fun c8 => ⟨?_, ?_, fun _ => trivial, fun _ => trivial⟩, fun _ => trivial⟩, fun _ => trivial⟩, fun _ => trivial⟩, fun _ => trivial⟩, fun _ => trivial⟩, fun _ => trivial⟩, fun _ => trivial⟩, fun _ => trivial⟩
 all_goals ((obtain ⟨⟨h0, h1⟩, h2, h3, h4, h5, h6⟩ := hI; simp only [decide_eq_true_eq] at c1; have hm := (h6 _ (gi_mem h0 (show s.k < (s.l.length : Int) by omega))).1; omega))
noncomputable def gam70 : Specs := specsOf [(10, S_head), (14, S_shar), (22, S_usab)]
theorem gok70 : ∀ g S, gam70 g = some S → Valid Try.prog noGlobs g S := specs_ok (l := [(10, S_head), (14, S_shar), (22, S_usab)]) ⟨v_head, v_shar, v_usab, trivial⟩
theorem ok_l6b : D_l6b.Ok := ⟨fun s => by kernel_rfl, fun s => by kernel_rfl, fun s => rfl, fun s t r => rfl, fun s => rfl, fun s => by kernel_rfl⟩
theorem pf_l6b : D_l6b.Pf (Q_l6b) := ⟨l6b_E, fun _ _ => rfl, l6b_da, rq_l6b⟩
set_option maxRecDepth 100000 in
set_option maxHeartbeats 4000000 in
theorem snd_l6b : SoundA Try.prog noGlobs (AN 0) (.loop body_l6b) D_l6b.lp := LpD.snd ok_l6b pf_l6b (code_sound (Γ := gam70) (K := noK) (L := noLoops) gok70 noK_sound body_l6b (fun b hb => by rw [show loopsIn body_l6b = [] by kernel_rfl] at hb; cases hb)) (fun s => by kernel_rfl)
theorem l6b_fin (s : L_l6b) (hE : E_l6b s) : ∃ s', I_l6b s' ∧ Q_l6b (exn_l6b s) s' (run_l6b s) := LpD.fin ok_l6b pf_l6b s hE
structure L_l6a where
 al : List Int
 mo : List Int
 od : List Int
 r : Bool
 up_ : Bool
 x : List Int
 l0 : List Int
 n : Int
 k : Int
 s_Conductors : List (ByteArray × (Int × (Int × (Int × ((Int × Int) × (Int × (Int × (Int × (Int × Int)))))))))
 s_Owners : List ByteArray
 s_Contracts : List (ByteArray × (Int × (Int × Int)))
 s_Chargers : List (ByteArray × (Int × (Int × (Int × (Int × (Int × (Int × Int)))))))
 s_Bays : List (ByteArray × Int)
def A_l6a (s : L_l6a) : List LV := [.xl (.int .i64) s.al, .xl (.int .i64) s.mo, .xl (.int .i64) s.od, .own 0 0, .v (.bool s.r), .v (.bool s.up_), .xl (.int .i64) s.x, .xl (.int .i64) s.l0, .v (.int .i64 s.n), .v (.int .i64 s.k)]
def B_l6a (s : L_l6a) : List Blk := [⟨[.xl tCd s.s_Conductors, .xl .str s.s_Owners, .xl tKo s.s_Contracts, .xl tCh s.s_Chargers, .xl tBa s.s_Bays], 30, .cl, false⟩]
noncomputable def body_l6a : Code := ((loopsIn (Try.f8.body.getD .skip))[0]?).getD .skip
def st15_l6b (s : L_l6a) : L_l6b := (⟨s.al, s.mo, s.od, s.r, s.up_, s.x, (gi s.l0 s.k), s.l0, s.n, s.k, ((s.od.drop (IntKind.i64.wrap (s.k + 1)).toNat).take ((List.length s.od : Int).toNat - (IntKind.i64.wrap (s.k + 1)).toNat)), (List.length ((s.od.drop (IntKind.i64.wrap (s.k + 1)).toNat).take ((List.length s.od : Int).toNat - (IntKind.i64.wrap (s.k + 1)).toNat)) : Int), (0 : Int), s.s_Conductors, s.s_Owners, s.s_Contracts, s.s_Chargers, s.s_Bays⟩ : L_l6b)
def t_l6a (s : L_l6a) : T (Rd L_l6a) :=
 .br (decide (s.k < s.n)) (.req (0 ≤ s.k ∧ s.k < (List.length s.l0 : Int)) (.req (0 ≤ (IntKind.i64.wrap (s.k + 1)) ∧ (IntKind.i64.wrap (s.k + 1)) ≤ (List.length s.od : Int) ∧ (List.length s.od : Int) ≤ (List.length s.od : Int)) (.req (E_l6bq (st15_l6b s)) (.br (isEx (exn_l6b (st15_l6b s)) (.ret)) (.ok (.stop (.ret) { s with r := (run_l6b (st15_l6b s)).r })) (.ok (.next { s with r := (run_l6b (st15_l6b s)).r, k := (IntKind.i64.wrap (s.k + 1)) })))))) (.ok (.stop (.exit 0) s))
abbrev f_l6a (s : L_l6a) := (t_l6a s).rd s
def E_l6a (s : L_l6a) : Prop := s.k = 0 ∧ s.n = (List.length s.l0 : Int) ∧ s.n ≤ 1000 ∧ s.l0 = s.od ∧ (s.al.length = s.s_Chargers.length ∧ s.mo.length = s.s_Chargers.length ∧ s.x.length = s.s_Chargers.length) ∧ (∀ i ∈ s.od, 0 ≤ i ∧ i < (List.length s.s_Chargers : Int)) ∧ (∀ k : Int, 0 ≤ k → k < (List.length s.od : Int) → ∀ j ∈ s.od.drop (k + 1).toNat, p6a s.s_Chargers s.al s.mo s.x (gi s.od k) j)
def I_l6a (s : L_l6a) : Prop := (0 ≤ s.k ∧ s.k ≤ s.n) ∧ s.n = (List.length s.l0 : Int) ∧ s.n ≤ 1000 ∧ s.l0 = s.od ∧ (s.al.length = s.s_Chargers.length ∧ s.mo.length = s.s_Chargers.length ∧ s.x.length = s.s_Chargers.length) ∧ (∀ i ∈ s.od, 0 ≤ i ∧ i < (List.length s.s_Chargers : Int)) ∧ (∀ k : Int, 0 ≤ k → k < (List.length s.od : Int) → ∀ j ∈ s.od.drop (k + 1).toNat, p6a s.s_Chargers s.al s.mo s.x (gi s.od k) j)
def mu_l6a (s : L_l6a) : Nat := (s.n - s.k).toNat
def Q_l6a (x : Ex) (_ _ : L_l6a) : Prop := x = .exit 0
theorem l6a_E : ∀ s, E_l6a s → I_l6a s := by
 intro s h
 obtain ⟨h0, h2, h3, h4, h5, h6, h7⟩ := h
 exact ⟨by omega, h2, h3, h4, h5, h6, h7⟩
theorem l6a_in (s : L_l6a) (hI : I_l6a s) (c1 : s.k < s.n) : E_l6b (st15_l6b s) := by
 obtain ⟨⟨h0, h1⟩, h2, h3, h4, h5, h6, h7⟩ := hI
 have ew : IntKind.i64.wrap (s.k + 1) = s.k + 1 := wrapS (by omega) (by omega)
 have hl : s.l0.length = s.od.length := congrArg List.length h4
 have hk : s.k < (s.od.length : Int) := by omega
 refine ⟨rfl, rfl, ?_, h5, ?_, fun j hj => ?_⟩
 ·show (List.length (List.take _ (List.drop _ s.od)) : Int) ≤ 1000
  simp only [List.length_take, List.length_drop]
  omega
 ·show 0 ≤ gi s.l0 s.k ∧ gi s.l0 s.k < _
  rw [h4]
  exact h6 _ (gi_mem h0 hk)
 ·have hj : j ∈ List.take _ (List.drop (IntKind.i64.wrap (s.k + 1)).toNat s.od) := hj
  have hj := List.mem_of_mem_take hj
  rw [ew] at hj
  show p6a s.s_Chargers s.al s.mo s.x (gi s.l0 s.k) j
  rw [h4]
  exact h7 s.k h0 hk j hj
theorem l6a_da (s : L_l6a) (hI : I_l6a s) : allR (fun s' => I_l6a s' ∧ mu_l6a s' < mu_l6a s) (fun x s' => Q_l6a x s s') (f_l6a s) := by
 unfold f_l6a t_l6a
 dsimp only [T.rd, T.rl]
 obtain ⟨⟨h0, h1⟩, h2, h3, h4, h5, h6, h7⟩ := hI
 have hin := fun c1 => l6a_in s ⟨⟨h0, h1⟩, h2, h3, h4, h5, h6, h7⟩ c1
 refine allR_ite (fun c1 => ?_) (fun c1 => ?_)
 ·refine allR_ite (fun c2 => ?_) (fun c2 => ?_)
  ·have c1 : s.k < s.n := by simpa using c1
   obtain ⟨_, _, q1⟩ := l6b_fin _ (hin c1)
   have e1 : isEx (exn_l6b (st15_l6b s)) .ret = false := by rw [show exn_l6b (st15_l6b s) = _ from q1]; rfl
   first | exact absurd (e1.symm.trans c2) (by decide)
  ·have c1 : s.k < s.n := by simpa using c1
   rw [wrapS (x := s.k + 1) (by omega) (by omega)]
   exact ⟨⟨⟨by simp only; omega, by simp only; omega⟩, h2, h3, h4, h5, h6, h7⟩, by simp only [mu_l6a]; omega⟩
 ·exact rfl
def D_l6a : LpD L_l6a := ⟨0, 140, [1, 2, 3, 4, 8, 9, 10, 44, 45, 46], [], A_l6a, B_l6a, fun v b => ⟨gXl (.int .i64) (v.getD 0 .junk), gXl (.int .i64) (v.getD 1 .junk), gXl (.int .i64) (v.getD 2 .junk), gBo (v.getD 4 .junk), gBo (v.getD 5 .junk), gXl (.int .i64) (v.getD 6 .junk), gXl (.int .i64) (v.getD 7 .junk), gI (v.getD 8 .junk), gI (v.getD 9 .junk), gXl tCd (gCe (gBk b 0) 0), gXl .str (gCe (gBk b 0) 1), gXl tKo (gCe (gBk b 0) 2), gXl tCh (gCe (gBk b 0) 3), gXl tBa (gCe (gBk b 0) 4)⟩, t_l6a, fun s r => { r with al := s.al, mo := s.mo, od := s.od, up_ := s.up_, x := s.x, l0 := s.l0, n := s.n, s_Conductors := s.s_Conductors, s_Owners := s.s_Owners, s_Contracts := s.s_Contracts, s_Chargers := s.s_Chargers, s_Bays := s.s_Bays }, fun s => s, fun _ s => s, [.ret, .exit 0], E_l6a, I_l6a, mu_l6a⟩
abbrev run_l6a := D_l6a.run
abbrev exn_l6a := D_l6a.exn
abbrev E_l6aq := D_l6a.q
theorem rq_l6a (s : L_l6a) (hI : I_l6a s) : (t_l6a s).all (fun _ => True) := by
 refine ⟨fun c1 => ⟨?_, ?_, ?_, fun _ => trivial, fun _ => trivial⟩, fun _ => trivial⟩
 all_goals ((obtain ⟨⟨h0, h1⟩, h2, h3, h4, h5, h6, h7⟩ := hI; simp only [decide_eq_true_eq] at c1; (have hw : IntKind.i64.wrap (s.k + 1) = s.k + 1 := wrapS (by omega) (by omega); have hl : s.l0.length = s.od.length := congrArg List.length h4; first | omega | exact ⟨l6a_in s ⟨⟨h0, h1⟩, h2, h3, h4, h5, h6, h7⟩ c1, rfl, rfl⟩)))
theorem ok_l6a : D_l6a.Ok := ⟨fun s => by kernel_rfl, fun s => by kernel_rfl, fun s => rfl, fun s t r => rfl, fun s => rfl, fun s => by kernel_rfl⟩
theorem pf_l6a : D_l6a.Pf (Q_l6a) := ⟨l6a_E, fun _ _ => rfl, l6a_da, rq_l6a⟩
theorem snd_l6a : SoundA Try.prog noGlobs (AN 0) (.loop body_l6a) D_l6a.lp := LpD.snd ok_l6a pf_l6a (code_sound (Γ := gam70) (K := noK) (L := (fun i => if i = 11 then D_l6b.lp else noLoops i)) gok70 noK_sound body_l6a (fun b hb => by
 rw [show loopsIn _ = [body_l6b] by kernel_rfl] at hb
 simp only [List.mem_cons, List.not_mem_nil, or_false] at hb
 subst hb
 exact snd_l6b)) (fun s => by kernel_rfl)
theorem l6a_fin (s : L_l6a) (hE : E_l6a s) : ∃ s', I_l6a s' ∧ Q_l6a (exn_l6a s) s' (run_l6a s) := LpD.fin ok_l6a pf_l6a s hE
def S0_l6 : List LV → T LV
 | [.agg [.xl (.pair .str (.pair (.int .i64) (.pair (.int .i64) (.pair (.int .i64) (.pair (.pair (.int .i64) (.int .i64)) (.pair (.int .i64) (.pair (.int .i64) (.pair (.int .i64) (.pair (.int .i64) (.int .i64)))))))))) cs, .xl (.str) os, .xl (.pair .str (.pair (.int .i64) (.pair (.int .i64) (.int .i64)))) ks, .xl (.pair .str (.pair (.int .i64) (.pair (.int .i64) (.pair (.int .i64) (.pair (.int .i64) (.pair (.int .i64) (.pair (.int .i64) (.int .i64)))))))) gs, .xl (.pair .str (.int .i64)) bs], .xl (.int .i64) _, .xl (.int .i64) _, .xl (.int .i64) _] => .req (nmR (nmsOf cs os ks gs bs)) (.ok (.v (.bool true)))
 | _ => .no
noncomputable def S_l6 : List LV → T LV := upS Try.prog Try.f8.params.toList S0_l6
theorem nf_l6 (cs : List (ByteArray × (Int × (Int × (Int × ((Int × Int) × (Int × (Int × (Int × (Int × Int)))))))))) (os : List ByteArray) (ks : List (ByteArray × (Int × (Int × Int)))) (gs : List (ByteArray × (Int × (Int × (Int × (Int × (Int × (Int × Int)))))))) (bs : List (ByteArray × Int)) (al mo od : List Int) : funu Try.prog noGlobs (gam70) noK (fun i => if i = 8 then D_l6a.lp else noLoops i) Try.f8 [.agg [.xl tCd cs, .xl .str os, .xl tKo ks, .xl tCh gs, .xl tBa bs], .xl (.int .i64) al, .xl (.int .i64) mo, .xl (.int .i64) od] = .req (nmR (nmsOf cs os ks gs bs)) (.br (!(useB cs os ks gs bs al mo od)) (.ok (.v (.bool true))) (.br (((shE cs os ks gs bs al mo od) != 0) || ((List.length (shL cs os ks gs bs al mo od) : Int) != (List.length mo : Int))) (.ok (.v (.bool false))) (.req (E_l6aq (⟨al, mo, od, false, true, (shL cs os ks gs bs al mo od), od, (List.length od : Int), (0 : Int), cs, os, ks, gs, bs⟩ : L_l6a)) (.br (isEx (exn_l6a (⟨al, mo, od, false, true, (shL cs os ks gs bs al mo od), od, (List.length od : Int), (0 : Int), cs, os, ks, gs, bs⟩ : L_l6a)) (.ret)) (.ok (.v (.bool (run_l6a (⟨al, mo, od, false, true, (shL cs os ks gs bs al mo od), od, (List.length od : Int), (0 : Int), cs, os, ks, gs, bs⟩ : L_l6a)).r))) (.ok (.v (.bool true))))))) := by kernel_rfl
theorem v_l6 : Valid Try.prog noGlobs 8 S_l6 := valid_ofu Try.func8 rfl gok70 noK_sound (L := (fun i => if i = 8 then D_l6a.lp else noLoops i)) (fun b hb => by
 rw [show loopsIn _ = [body_l6a] by kernel_rfl] at hb
 simp only [List.mem_cons, List.not_mem_nil, or_false] at hb
 subst hb
 exact snd_l6a) (fun args lv h => by
 unfold S0_l6 at h
 split at h
 ·simp only [canL, canX]
  rw [nf_l6]
  rename_i cs os ks gs bs al mo od
  obtain ⟨hn, rfl⟩ := h
  refine ⟨hn, fun c => rfl, fun c => ?_⟩
  have hk := useB_sh (nf c)
  have H := sh_ok hk
  obtain ⟨r1, r2, r3⟩ := row_sh hk
  have ex := shL_lv hk
  have xl : (shL cs os ks gs bs al mo od).length = gs.length := by rw [ex, amsL_len]
  have gl := H.gl
  rw [shE_0 hk, xl, H.mol]
  refine ⟨fun c2 => absurd c2 (by simp), fun _ => ?_⟩
  have ol := (isOrd_iff.1 (shOk_iff.1 hk).2.2.2.2.2).1
  have hE : E_l6a ⟨al, mo, od, false, true, shL cs os ks gs bs al mo od, od, (List.length od : Int), 0, cs, os, ks, gs, bs⟩ := ⟨rfl, rfl, by simp only; omega, rfl, ⟨H.all, H.mol, xl⟩, H.ord, fun k k0 k1 j hj => by
   show p6a gs al mo (shL cs os ks gs bs al mo od) (gi od k) j
   rw [ex]
   exact p6a_of H (l1 := od.take k.toNat) (by rw [← (gi_step k0 k1).1, List.take_append_drop]) hj⟩
  obtain ⟨_, _, q1⟩ := l6a_fin _ hE
  exact ⟨⟨hE, rfl, rfl⟩, fun c3 => (by rw [show exn_l6a ⟨al, mo, od, false, true, shL cs os ks gs bs al mo od, od, (List.length od : Int), 0, cs, os, ks, gs, bs⟩ = _ from q1] at c3; cases c3), fun _ => rfl⟩
 ·cases h)
end Go.Proofs.Ytihbikkkmoaljaa
