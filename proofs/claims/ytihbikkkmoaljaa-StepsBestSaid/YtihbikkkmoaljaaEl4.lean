/- StepsBest: what it computes. -/
import Derived.Test.YtihbikkkmoaljaaEi
import Derived.Test.YtihbikkkmoaljaaEw
namespace Go.Proofs.Ytihbikkkmoaljaa
open Go.Sx
structure L_lvl where
 am : List Int
 r : Bool
 gs : List (ByteArray × (Int × (Int × (Int × (Int × (Int × (Int × Int)))))))
 n : Int
 i : Int
 out : List Int
def A_lvl (s : L_lvl) : List LV := [.xl (.int .i64) s.am, .v (.slice none 0 0), .v (.bool s.r), .os 0 1 0 (List.length s.out), .xl tCh s.gs, .v (.int .i64 s.n), .v (.int .i64 s.i)]
def B_lvl (s : L_lvl) : List Blk := [⟨[], 3, .vec (.int .i64) s.out, false⟩]
noncomputable def body_lvl : Code := ((loopsIn (Try.f24.body.getD .skip))[0]?).getD .skip
def t_lvl (s : L_lvl) : T (Rd L_lvl) :=
 .br (decide (s.i < s.n)) (.req (0 ≤ s.i ∧ s.i < (List.length s.gs : Int)) (.br (decide (s.i ≥ (List.length s.am : Int))) (.rl s.out (.ok (.stop (.ret) { s with r := false }))) (.req (0 ≤ s.i ∧ s.i < (List.length s.am : Int)) (.req ((gi s.am s.i) ≤ 9223372036854775807) (.br ((amE (gCh s.gs s.i).2.2.2.1 (gCh s.gs s.i).2.2.2.2.1 (gCh s.gs s.i).2.2.2.2.2.1 (lev (gCh s.gs s.i).2.2.2.1 (gCh s.gs s.i).2.2.2.2.1 (gCh s.gs s.i).2.2.2.2.2.1 (gi s.am s.i))) != 0) (.rl s.out (.ok (.stop (.ret) { s with r := false }))) (.req (0 ≤ s.i ∧ s.i < (List.length s.am : Int)) (.br ((amA (gCh s.gs s.i).2.2.2.1 (gCh s.gs s.i).2.2.2.2.1 (gCh s.gs s.i).2.2.2.2.2.1 (lev (gCh s.gs s.i).2.2.2.1 (gCh s.gs s.i).2.2.2.2.1 (gCh s.gs s.i).2.2.2.2.2.1 (gi s.am s.i))) != (gi s.am s.i)) (.rl s.out (.ok (.stop (.ret) { s with r := false }))) (.req (0 + (List.length s.out) = List.length s.out ∧ ((List.length s.out + List.length ([(lev (gCh s.gs s.i).2.2.2.1 (gCh s.gs s.i).2.2.2.2.1 (gCh s.gs s.i).2.2.2.2.2.1 (gi s.am s.i))]) : Nat) : Int) * 8 ≤ 2 ^ 47 ∧ ((List.length s.out + List.length ([(lev (gCh s.gs s.i).2.2.2.1 (gCh s.gs s.i).2.2.2.2.1 (gCh s.gs s.i).2.2.2.2.2.1 (gi s.am s.i))]) : Nat) : Int) < 2 ^ 62) (.req (0 = 0 ∧ (List.length s.out + List.length ([(lev (gCh s.gs s.i).2.2.2.1 (gCh s.gs s.i).2.2.2.2.1 (gCh s.gs s.i).2.2.2.2.2.1 (gi s.am s.i))])) = List.length (s.out ++ ([(lev (gCh s.gs s.i).2.2.2.1 (gCh s.gs s.i).2.2.2.2.1 (gCh s.gs s.i).2.2.2.2.2.1 (gi s.am s.i))]))) (.ok (.next { s with i := (IntKind.i64.wrap (s.i + 1)), out := (s.out ++ ([(lev (gCh s.gs s.i).2.2.2.1 (gCh s.gs s.i).2.2.2.2.1 (gCh s.gs s.i).2.2.2.2.2.1 (gi s.am s.i))])) }))))))))))) (.rl s.out (.ok (.stop (.exit 0) s)))
abbrev f_lvl (s : L_lvl) := (t_lvl s).rd s
def E_lvl (s : L_lvl) : Prop := s.i = 0 ∧ s.out = [] ∧ s.n = (List.length s.gs : Int) ∧ s.n ≤ 1000 ∧ s.am.length = s.gs.length ∧ p4a s.gs s.am
def I_lvl (s : L_lvl) : Prop := (0 ≤ s.i ∧ s.i ≤ s.n) ∧ s.out = lvN s.gs s.am s.i.toNat ∧ s.n = (List.length s.gs : Int) ∧ s.n ≤ 1000 ∧ s.am.length = s.gs.length ∧ p4a s.gs s.am
def mu_lvl (s : L_lvl) : Nat := (s.n - s.i).toNat
def Q_lvl (x : Ex) (_ s' : L_lvl) : Prop := x = .exit 0 ∧ s'.out = lvN s'.gs s'.am s'.gs.length
theorem lvl_E : ∀ s, E_lvl s → I_lvl s := by
 intro s h
 obtain ⟨h0, hA, h2, h3, h4, h5⟩ := h
 exact ⟨by omega, by rw [hA, h0]; rfl, h2, h3, h4, h5⟩
theorem lvl_da (s : L_lvl) (hI : I_lvl s) : allR (fun s' => I_lvl s' ∧ mu_lvl s' < mu_lvl s) (fun x s' => Q_lvl x s s') (f_lvl s) := by
 unfold f_lvl t_lvl
 dsimp only [T.rd, T.rl]
 obtain ⟨⟨h0, h1⟩, hA, h2, h3, h4, h5⟩ := hI
 refine allR_ite (fun c1 => ?_) (fun c1 => ?_)
 ·refine allR_ite (fun c2 => ?_) (fun c2 => ?_)
  ·have c1 : s.i < s.n := by simpa using c1
   obtain ⟨e1, e2, _⟩ := h5 s.i h0 (by omega)
   have e0 : decide (s.i ≥ (List.length s.am : Int)) = false := decide_eq_false (by omega)
   first | exact absurd (e0.symm.trans c2) (by decide) | exact absurd (e1.symm.trans c2) (by decide) | exact absurd (e2.symm.trans c2) (by decide)
  ·refine allR_ite (fun c3 => ?_) (fun c3 => ?_)
   ·have c1 : s.i < s.n := by simpa using c1
    obtain ⟨e1, e2, _⟩ := h5 s.i h0 (by omega)
    have e0 : decide (s.i ≥ (List.length s.am : Int)) = false := decide_eq_false (by omega)
    first | exact absurd (e0.symm.trans c3) (by decide) | exact absurd (e1.symm.trans c3) (by decide) | exact absurd (e2.symm.trans c3) (by decide)
   ·refine allR_ite (fun c4 => ?_) (fun c4 => ?_)
    ·have c1 : s.i < s.n := by simpa using c1
     obtain ⟨e1, e2, _⟩ := h5 s.i h0 (by omega)
     have e0 : decide (s.i ≥ (List.length s.am : Int)) = false := decide_eq_false (by omega)
     first | exact absurd (e0.symm.trans c4) (by decide) | exact absurd (e1.symm.trans c4) (by decide) | exact absurd (e2.symm.trans c4) (by decide)
    ·have c1 : s.i < s.n := by simpa using c1
     obtain ⟨e1, e2, _⟩ := h5 s.i h0 (by omega)
     have e0 : decide (s.i ≥ (List.length s.am : Int)) = false := decide_eq_false (by omega)
     rw [wrapS (x := s.i + 1) (by omega) (by omega)]
     exact ⟨⟨⟨by simp only; omega, by simp only; omega⟩, by simp only; rw [show (s.i + 1).toNat = s.i.toNat + 1 by omega, lvN_succ, Int.toNat_of_nonneg h0, hA]; rfl, h2, h3, h4, h5⟩, by simp only [mu_lvl]; omega⟩
 ·have c1 : s.n ≤ s.i := by simpa using c1
  exact ⟨rfl, by rw [hA, show s.i.toNat = s.gs.length by omega]⟩
def D_lvl : LpD L_lvl := ⟨0, 52, [1, 4, 5, 6, 13, 14, 15], [.nl 6 3 (.int .i64)], A_lvl, B_lvl, fun v b => ⟨gXl (.int .i64) (v.getD 0 .junk), gBo (v.getD 2 .junk), gXl tCh (v.getD 4 .junk), gI (v.getD 5 .junk), gI (v.getD 6 .junk), gVe (.int .i64) (gBk b 0)⟩, t_lvl, fun s r => { r with am := s.am, gs := s.gs, n := s.n }, fun s => s, fun _ s => s, [.ret, .exit 0], E_lvl, I_lvl, mu_lvl⟩
abbrev run_lvl := D_lvl.run
abbrev exn_lvl := D_lvl.exn
abbrev E_lvlq := D_lvl.q
theorem rq_lvl (s : L_lvl) (hI : I_lvl s) : (t_lvl s).all (fun _ => True) := by
 refine ⟨fun c1 => ⟨?_, fun c2 => ⟨⟨rfl, rfl⟩, trivial⟩, fun c2 => ⟨?_, ?_, fun c3 => ⟨⟨rfl, rfl⟩, trivial⟩, fun c3 => ⟨?_, fun c4 => ⟨⟨rfl, rfl⟩, trivial⟩, fun c4 => ⟨?_, ?_, trivial⟩⟩⟩⟩, fun c1 => ⟨⟨rfl, rfl⟩, trivial⟩⟩
 all_goals ((obtain ⟨⟨h0, h1⟩, hA, h2, h3, h4, h5⟩ := hI; simp only [decide_eq_true_eq] at c1; have hl := lvN_len (gs := s.gs) (am := s.am) (n := s.i.toNat); rw [← hA] at hl; have := (h5 s.i h0 (by omega)).2.2; first | omega | exact ⟨rfl, by simp⟩ | (refine ⟨by omega, ?_, ?_⟩ <;> simp only [List.length_cons, List.length_nil] <;> omega)))
noncomputable def gam71 : Specs := specsOf [(12, S_ampsE), (19, S_levl)]
theorem gok71 : ∀ g S, gam71 g = some S → Valid Try.prog noGlobs g S := specs_ok (l := [(12, S_ampsE), (19, S_levl)]) ⟨v_ampsE, v_levl, trivial⟩
theorem ok_lvl : D_lvl.Ok := ⟨fun s => by kernel_rfl, fun s => by kernel_rfl, fun s => rfl, fun s t r => rfl, fun s => rfl, fun s => by kernel_rfl⟩
theorem pf_lvl : D_lvl.Pf (Q_lvl) := ⟨lvl_E, fun _ _ => rfl, lvl_da, rq_lvl⟩
theorem snd_lvl : SoundA Try.prog noGlobs (AN 0) (.loop body_lvl) D_lvl.lp := LpD.snd ok_lvl pf_lvl (code_sound (Γ := gam71) (K := noK) (L := noLoops) gok71 noK_sound body_lvl (fun b hb => by rw [show loopsIn body_lvl = [] by kernel_rfl] at hb; cases hb)) (fun s => by kernel_rfl)
theorem lvl_fin (s : L_lvl) (hE : E_lvl s) : ∃ s', I_lvl s' ∧ Q_lvl (exn_lvl s) s' (run_lvl s) := LpD.fin ok_lvl pf_lvl s hE
structure L_btb where
 x : List Int
 y : List Int
 od : List Int
 v : Int
 level : Int
 l : List Int
 n : Int
 k : Int
def A_btb (s : L_btb) : List LV := [.xl (.int .i64) s.x, .xl (.int .i64) s.y, .xl (.int .i64) s.od, .v (.int .i64 s.v), .v (.int .i64 s.level), .xl (.int .i64) s.l, .v (.int .i64 s.n), .v (.int .i64 s.k)]
def B_btb (_ : L_btb) : List Blk := []
noncomputable def body_btb : Code := ((loopsIn (((loopsIn (Try.f26.body.getD .skip))[0]?).getD .skip))[0]?).getD .skip
def t_btb (s : L_btb) : T (Rd L_btb) :=
 .br (decide (s.k < s.n)) (.req (0 ≤ s.k ∧ s.k < (List.length s.l : Int)) (.req (0 ≤ (gi s.l s.k) ∧ (gi s.l s.k) < (List.length s.x : Int)) (.req (0 ≤ (gi s.l s.k) ∧ (gi s.l s.k) < (List.length s.y : Int)) (.br (!((decide ((gi s.x (gi s.l s.k)) ≥ s.level)) == (decide ((gi s.y (gi s.l s.k)) ≥ s.level)))) (.br (decide ((gi s.x (gi s.l s.k)) ≥ s.level)) (.ok (.stop (.ret) { s with v := (1 : Int) })) (.ok (.stop (.ret) { s with v := (-1 : Int) }))) (.ok (.next { s with k := (IntKind.i64.wrap (s.k + 1)) })))))) (.ok (.stop (.exit 2) s))
abbrev f_btb (s : L_btb) := (t_btb s).rd s
def E_btb (s : L_btb) : Prop := s.k = 0 ∧ s.n = (List.length s.l : Int) ∧ s.n ≤ 1000 ∧ (∀ i ∈ s.l, 0 ≤ i ∧ i < (List.length s.x : Int) ∧ i < (List.length s.y : Int))
def I_btb (s : L_btb) : Prop := (0 ≤ s.k ∧ s.k ≤ s.n) ∧ s.n = (List.length s.l : Int) ∧ s.n ≤ 1000 ∧ (∀ i ∈ s.l, 0 ≤ i ∧ i < (List.length s.x : Int) ∧ i < (List.length s.y : Int))
def mu_btb (s : L_btb) : Nat := (s.n - s.k).toNat
def Q_btb (_ : Ex) (_ _ : L_btb) : Prop := True
theorem btb_E : ∀ s, E_btb s → I_btb s := by
 intro s h
 obtain ⟨h0, h2, h3, h4⟩ := h
 exact ⟨by omega, h2, h3, h4⟩
theorem btb_da (s : L_btb) (hI : I_btb s) : allR (fun s' => I_btb s' ∧ mu_btb s' < mu_btb s) (fun x s' => Q_btb x s s') (f_btb s) := by
 unfold f_btb t_btb
 dsimp only [T.rd, T.rl]
 obtain ⟨⟨h0, h1⟩, h2, h3, h4⟩ := hI
 refine allR_ite (fun c1 => ?_) (fun c1 => ?_)
 ·refine allR_ite (fun c2 => ?_) (fun c2 => ?_)
  ·refine allR_ite (fun c3 => ?_) (fun c3 => ?_)
   ·exact trivial
   ·exact trivial
  ·have c1 : s.k < s.n := by simpa using c1
   rw [wrapS (x := s.k + 1) (by omega) (by omega)]
   exact ⟨⟨⟨by simp only; omega, by simp only; omega⟩, h2, h3, h4⟩, by simp only [mu_btb]; omega⟩
 ·exact trivial
def D_btb : LpD L_btb := ⟨0, 39, [0, 1, 2, 6, 7, 16, 17, 18], [], A_btb, B_btb, fun v _ => ⟨gXl (.int .i64) (v.getD 0 .junk), gXl (.int .i64) (v.getD 1 .junk), gXl (.int .i64) (v.getD 2 .junk), gI (v.getD 3 .junk), gI (v.getD 4 .junk), gXl (.int .i64) (v.getD 5 .junk), gI (v.getD 6 .junk), gI (v.getD 7 .junk)⟩, t_btb, fun s r => { r with x := s.x, y := s.y, od := s.od, level := s.level, l := s.l, n := s.n }, fun s => s, fun _ s => s, [.ret, .exit 2], E_btb, I_btb, mu_btb⟩
abbrev run_btb := D_btb.run
abbrev exn_btb := D_btb.exn
abbrev E_btbq := D_btb.q
theorem rq_btb (s : L_btb) (hI : I_btb s) : (t_btb s).all (fun _ => True) := by
 refine ⟨fun c1 => ⟨?_, ?_, ?_, fun c2 => ⟨fun _ => trivial, fun _ => trivial⟩, fun _ => trivial⟩, fun _ => trivial⟩
 all_goals ((obtain ⟨⟨h0, h1⟩, h2, h3, h4⟩ := hI; simp only [decide_eq_true_eq] at c1; have hm := h4 _ (gi_mem h0 (show s.k < (s.l.length : Int) by omega)); omega))
noncomputable def gam72 : Specs := specsOf []
theorem gok72 : ∀ g S, gam72 g = some S → Valid Try.prog noGlobs g S := specs_ok (l := []) trivial
theorem ok_btb : D_btb.Ok := ⟨fun s => by kernel_rfl, fun s => by kernel_rfl, fun s => rfl, fun s t r => rfl, fun s => rfl, fun s => by kernel_rfl⟩
theorem pf_btb : D_btb.Pf (Q_btb) := ⟨btb_E, fun _ _ => rfl, btb_da, rq_btb⟩
theorem snd_btb : SoundA Try.prog noGlobs (AN 0) (.loop body_btb) D_btb.lp := LpD.snd ok_btb pf_btb (code_sound (Γ := gam72) (K := noK) (L := noLoops) gok72 noK_sound body_btb (fun b hb => by rw [show loopsIn body_btb = [] by kernel_rfl] at hb; cases hb)) (fun s => by kernel_rfl)
theorem btb_fin (s : L_btb) (hE : E_btb s) : ∃ s', I_btb s' ∧ Q_btb (exn_btb s) s' (run_btb s) := LpD.fin ok_btb pf_btb s hE
theorem btb_res (s : L_btb) (hE : E_btb s) : (fun (x : Ex) (s' : L_btb) (v : Int) => (x = .exit 2 ∧ v = 0) ∨ (x = .ret ∧ s'.v = v ∧ v ≠ 0)) (exn_btb s) (run_btb s) ((fun s : L_btb => betS s.x s.y s.level (s.l.drop s.k.toNat)) s) := by
 exact LpD.finV ok_btb pf_btb (fun s : L_btb => betS s.x s.y s.level (s.l.drop s.k.toNat)) (fun x s' v => (x = .exit 2 ∧ v = 0) ∨ (x = .ret ∧ s'.v = v ∧ v ≠ 0)) (fun s hI => by
  show allR _ _ (f_btb s)
  unfold f_btb t_btb
  dsimp only [T.rd, T.rl]
  obtain ⟨⟨h0, h1⟩, h2, h3, h4⟩ := hI
  refine allR_ite (fun c1 => ?_) (fun c1 => ?_)
  ·have c1 : s.k < s.n := by simpa using c1
   have e : s.l.drop s.k.toNat = gi s.l s.k :: s.l.drop (s.k + 1).toNat := (gi_step h0 (show s.k < (List.length s.l : Int) by omega)).1
   rw [wrapS (x := s.k + 1) (by omega) (by omega)]
   refine allR_ite (fun c2 => allR_ite (fun c3 => ?_) (fun c3 => ?_)) (fun c2 => ?_)
   ·refine .inr ⟨rfl, ?_, ?_⟩ <;> (try simp only) <;> rw [e, betS, if_neg (by rw [nt c2]; simp), if_pos c3]
    decide
   ·refine .inr ⟨rfl, ?_, ?_⟩ <;> (try simp only) <;> rw [e, betS, if_neg (by rw [nt c2]; simp), if_neg (by rw [c3]; simp)]
    decide
   ·show betS _ _ _ _ = betS _ _ _ _
    simp only
    rw [e, betS, if_pos (nf c2)]
  ·have c1 : s.n ≤ s.k := by simpa using c1
   refine .inl ⟨rfl, ?_⟩
   rw [List.drop_eq_nil_of_le (by omega)]
   rfl) s hE
structure L_bta where
 x : List Int
 y : List Int
 od : List Int
 v : Int
 level : Int
def A_bta (s : L_bta) : List LV := [.xl (.int .i64) s.x, .xl (.int .i64) s.y, .xl (.int .i64) s.od, .v (.int .i64 s.v), .v (.int .i64 s.level)]
def B_bta (_ : L_bta) : List Blk := []
noncomputable def body_bta : Code := ((loopsIn (Try.f26.body.getD .skip))[0]?).getD .skip
def st16_btb (s : L_bta) : L_btb := (⟨s.x, s.y, s.od, s.v, s.level, s.od, (List.length s.od : Int), (0 : Int)⟩ : L_btb)
def t_bta (s : L_bta) : T (Rd L_bta) :=
 .br (decide (s.level ≤ 80)) (.req (E_btbq (st16_btb s)) (.br (isEx (exn_btb (st16_btb s)) (.ret)) (.ok (.stop (.ret) { s with v := (run_btb (st16_btb s)).v })) (.ok (.next { s with v := (run_btb (st16_btb s)).v, level := (IntKind.i64.wrap (s.level + 1)) })))) (.ok (.stop (.exit 0) s))
abbrev f_bta (s : L_bta) := (t_bta s).rd s
def S0_lvsx : List LV → T LV
 | [.agg [.xl (.pair .str (.pair (.int .i64) (.pair (.int .i64) (.pair (.int .i64) (.pair (.pair (.int .i64) (.int .i64)) (.pair (.int .i64) (.pair (.int .i64) (.pair (.int .i64) (.pair (.int .i64) (.int .i64)))))))))) _, .xl (.str) _, .xl (.pair .str (.pair (.int .i64) (.pair (.int .i64) (.int .i64)))) _, .xl (.pair .str (.pair (.int .i64) (.pair (.int .i64) (.pair (.int .i64) (.pair (.int .i64) (.pair (.int .i64) (.pair (.int .i64) (.int .i64)))))))) gs, .xl (.pair .str (.int .i64)) _], .xl (.int .i64) am] => .req (((List.length gs : Int) ≤ 1000 ∧ am.length = gs.length) ∧ p4a gs am) (.ok (.tup [.xl (.int .i64) (lvN gs am gs.length), .v (.bool true)]))
 | _ => .no
noncomputable def S_lvsx : List LV → T LV := upS Try.prog Try.f24.params.toList S0_lvsx
theorem nf_lvsx (cs : List (ByteArray × (Int × (Int × (Int × ((Int × Int) × (Int × (Int × (Int × (Int × Int)))))))))) (os : List ByteArray) (ks : List (ByteArray × (Int × (Int × Int)))) (gs : List (ByteArray × (Int × (Int × (Int × (Int × (Int × (Int × Int)))))))) (bs : List (ByteArray × Int)) (am : List Int) : funu Try.prog noGlobs (gam71) noK (fun i => if i = 3 then D_lvl.lp else noLoops i) Try.f24 [.agg [.xl tCd cs, .xl .str os, .xl tKo ks, .xl tCh gs, .xl tBa bs], .xl (.int .i64) am] = .req (0 = 0 ∧ 0 = List.length ([] : List Int)) (.req (E_lvlq (⟨am, false, gs, (List.length gs : Int), (0 : Int), ([] : List Int)⟩ : L_lvl)) (.br (isEx (exn_lvl (⟨am, false, gs, (List.length gs : Int), (0 : Int), ([] : List Int)⟩ : L_lvl)) (.ret)) (.ok (.tup [.xl (.int .i64) ([] : List Int), .v (.bool (run_lvl (⟨am, false, gs, (List.length gs : Int), (0 : Int), ([] : List Int)⟩ : L_lvl)).r)])) (.req (0 + (List.length (run_lvl (⟨am, false, gs, (List.length gs : Int), (0 : Int), ([] : List Int)⟩ : L_lvl)).out) ≤ List.length (run_lvl (⟨am, false, gs, (List.length gs : Int), (0 : Int), ([] : List Int)⟩ : L_lvl)).out) (.ok (.tup [.xl (.int .i64) (((run_lvl (⟨am, false, gs, (List.length gs : Int), (0 : Int), ([] : List Int)⟩ : L_lvl)).out.drop 0).take (List.length (run_lvl (⟨am, false, gs, (List.length gs : Int), (0 : Int), ([] : List Int)⟩ : L_lvl)).out)), .v (.bool true)]))))) := by kernel_rfl
theorem v_lvsx : Valid Try.prog noGlobs 24 S_lvsx := valid_ofu Try.func24 rfl gok71 noK_sound (L := (fun i => if i = 3 then D_lvl.lp else noLoops i)) (fun b hb => by
 rw [show loopsIn _ = [body_lvl] by kernel_rfl] at hb
 simp only [List.mem_cons, List.not_mem_nil, or_false] at hb
 subst hb
 exact snd_lvl) (fun args lv h => by
 unfold S0_lvsx at h
 split at h
 ·simp only [canL, canX]
  rw [nf_lvsx]
  rename_i gs _ am
  obtain ⟨⟨⟨hg, hl⟩, hp⟩, rfl⟩ := h
  have hE : E_lvl ⟨am, false, gs, (List.length gs : Int), 0, []⟩ := ⟨rfl, rfl, rfl, hg, hl, hp⟩
  obtain ⟨_, _, q1, q2⟩ := lvl_fin _ hE
  have q2 : (run_lvl ⟨am, false, gs, (List.length gs : Int), 0, []⟩).out = lvN gs am gs.length := q2
  refine ⟨⟨rfl, rfl⟩, ⟨hE, rfl, rfl⟩, fun c => (by rw [show exn_lvl ⟨am, false, gs, (List.length gs : Int), 0, []⟩ = _ from q1] at c; cases c), fun _ => ⟨by omega, ?_⟩⟩
  show LV.tup [LV.xl _ _, _] = _
  rw [List.drop_zero, List.take_length, q2]
 ·cases h)
def E_bta (s : L_bta) : Prop := s.level = 1 ∧ (List.length s.od : Int) ≤ 1000 ∧ (∀ i ∈ s.od, 0 ≤ i ∧ i < (List.length s.x : Int) ∧ i < (List.length s.y : Int))
def I_bta (s : L_bta) : Prop := (1 ≤ s.level ∧ s.level ≤ 81) ∧ (List.length s.od : Int) ≤ 1000 ∧ (∀ i ∈ s.od, 0 ≤ i ∧ i < (List.length s.x : Int) ∧ i < (List.length s.y : Int))
def mu_bta (s : L_bta) : Nat := (81 - s.level).toNat
def Q_bta (_ : Ex) (_ _ : L_bta) : Prop := True
theorem bta_E : ∀ s, E_bta s → I_bta s := by
 intro s h
 obtain ⟨h0, h2, h3⟩ := h
 exact ⟨by omega, h2, h3⟩
theorem bta_da (s : L_bta) (hI : I_bta s) : allR (fun s' => I_bta s' ∧ mu_bta s' < mu_bta s) (fun x s' => Q_bta x s s') (f_bta s) := by
 unfold f_bta t_bta
 dsimp only [T.rd, T.rl]
 obtain ⟨⟨h0, h1⟩, h2, h3⟩ := hI
 refine allR_ite (fun c1 => ?_) (fun c1 => ?_)
 ·refine allR_ite (fun c2 => ?_) (fun c2 => ?_)
  ·exact trivial
  ·have c1 : s.level ≤ 80 := by simpa using c1
   rw [wrapS (x := s.level + 1) (by omega) (by omega)]
   exact ⟨⟨⟨by simp only; omega, by simp only; omega⟩, h2, h3⟩, by simp only [mu_bta]; omega⟩
 ·exact trivial
def D_bta : LpD L_bta := ⟨0, 39, [0, 1, 2, 6, 7], [], A_bta, B_bta, fun v _ => ⟨gXl (.int .i64) (v.getD 0 .junk), gXl (.int .i64) (v.getD 1 .junk), gXl (.int .i64) (v.getD 2 .junk), gI (v.getD 3 .junk), gI (v.getD 4 .junk)⟩, t_bta, fun s r => { r with x := s.x, y := s.y, od := s.od }, fun s => s, fun _ s => s, [.ret, .exit 0], E_bta, I_bta, mu_bta⟩
abbrev run_bta := D_bta.run
abbrev exn_bta := D_bta.exn
abbrev E_btaq := D_bta.q
theorem rq_bta (s : L_bta) (hI : I_bta s) : (t_bta s).all (fun _ => True) := by
 refine ⟨fun c1 => ⟨?_, fun _ => trivial, fun _ => trivial⟩, fun _ => trivial⟩
 ·exact ⟨⟨rfl, rfl, hI.2⟩, rfl, rfl⟩
theorem ok_bta : D_bta.Ok := ⟨fun s => by kernel_rfl, fun s => by kernel_rfl, fun s => rfl, fun s t r => rfl, fun s => rfl, fun s => by kernel_rfl⟩
theorem pf_bta : D_bta.Pf (Q_bta) := ⟨bta_E, fun _ _ => rfl, bta_da, rq_bta⟩
theorem snd_bta : SoundA Try.prog noGlobs (AN 0) (.loop body_bta) D_bta.lp := LpD.snd ok_bta pf_bta (code_sound (Γ := gam72) (K := noK) (L := (fun i => if i = 5 then D_btb.lp else noLoops i)) gok72 noK_sound body_bta (fun b hb => by
 rw [show loopsIn _ = [body_btb] by kernel_rfl] at hb
 simp only [List.mem_cons, List.not_mem_nil, or_false] at hb
 subst hb
 exact snd_btb)) (fun s => by kernel_rfl)
theorem bta_fin (s : L_bta) (hE : E_bta s) : ∃ s', I_bta s' ∧ Q_bta (exn_bta s) s' (run_bta s) := LpD.fin ok_bta pf_bta s hE
theorem bta_res (s : L_bta) (hE : E_bta s) : (fun (x : Ex) (s' : L_bta) (v : Int) => (x = .exit 0 ∧ v = 0) ∨ (x = .ret ∧ s'.v = v)) (exn_bta s) (run_bta s) ((fun s : L_bta => betN s.x s.y s.od (81 - s.level).toNat s.level) s) := by
 exact LpD.finV ok_bta pf_bta (fun s : L_bta => betN s.x s.y s.od (81 - s.level).toNat s.level) (fun x s' v => (x = .exit 0 ∧ v = 0) ∨ (x = .ret ∧ s'.v = v)) (fun s hI => by
  show allR _ _ (f_bta s)
  unfold f_bta t_bta
  dsimp only [T.rd, T.rl]
  obtain ⟨⟨h0, h1⟩, h2, h3⟩ := hI
  refine allR_ite (fun c1 => ?_) (fun c1 => ?_)
  ·have c1 : s.level ≤ 80 := by simpa using c1
   have hq : (exn_btb (st16_btb s) = .exit 2 ∧ betS s.x s.y s.level s.od = 0) ∨ (exn_btb (st16_btb s) = .ret ∧ (run_btb (st16_btb s)).v = betS s.x s.y s.level s.od ∧ betS s.x s.y s.level s.od ≠ 0) := btb_res (st16_btb s) ⟨rfl, rfl, h2, h3⟩
   rw [wrapS (x := s.level + 1) (by omega) (by omega)]
   rcases hq with ⟨q1, q2⟩ | ⟨q1, q2, q3⟩ <;> rw [q1]
   ·refine allR_ite (fun c => by cases c) (fun _ => ?_)
    show betN _ _ _ _ _ = betN _ _ _ _ _
    simp only
    rw [show (81 - s.level).toNat = (81 - (s.level + 1)).toNat + 1 by omega, betN, if_pos q2]
   ·refine allR_ite (fun _ => .inr ⟨rfl, ?_⟩) (fun c => by cases c)
    simp only
    rw [show (81 - s.level).toNat = (81 - (s.level + 1)).toNat + 1 by omega, betN, if_neg q3]
    exact q2
  ·have c1 : 80 < s.level := by simpa using c1
   refine .inl ⟨rfl, ?_⟩
   rw [show (81 - s.level).toNat = 0 by omega]
   rfl) s hE
def S0_bet : List LV → T LV
 | [.xl (.int .i64) x, .xl (.int .i64) y, .xl (.int .i64) od] => .req ((List.length od : Int) ≤ 1000 ∧ ∀ i ∈ od, 0 ≤ i ∧ i < (List.length x : Int) ∧ i < (List.length y : Int)) (.ok (.v (.int .i64 (betI x y od))))
 | _ => .no
noncomputable def S_bet : List LV → T LV := upS Try.prog Try.f26.params.toList S0_bet
theorem nf_bet (x y od : List Int) : funu Try.prog noGlobs (gam72) noK (fun i => if i = 2 then D_bta.lp else noLoops i) Try.f26 [.xl (.int .i64) x, .xl (.int .i64) y, .xl (.int .i64) od] = .req (E_btaq (⟨x, y, od, (0 : Int), (1 : Int)⟩ : L_bta)) (.br (isEx (exn_bta (⟨x, y, od, (0 : Int), (1 : Int)⟩ : L_bta)) (.ret)) (.ok (.v (.int .i64 (run_bta (⟨x, y, od, (0 : Int), (1 : Int)⟩ : L_bta)).v))) (.ok (.v (.int .i64 0)))) := by kernel_rfl
theorem v_bet : Valid Try.prog noGlobs 26 S_bet := valid_ofu Try.func26 rfl gok72 noK_sound (L := (fun i => if i = 2 then D_bta.lp else noLoops i)) (fun b hb => by
 rw [show loopsIn _ = [body_bta] by kernel_rfl] at hb
 simp only [List.mem_cons, List.not_mem_nil, or_false] at hb
 subst hb
 exact snd_bta) (fun args lv h => by
 unfold S0_bet at h
 split at h
 ·simp only [canL, canX]
  rw [nf_bet]
  rename_i x y od
  obtain ⟨hr, rfl⟩ := h
  have hE : E_bta ⟨x, y, od, 0, 1⟩ := ⟨rfl, hr⟩
  refine ⟨⟨hE, rfl, rfl⟩, ?_⟩
  rcases bta_res _ hE with ⟨q1, q2⟩ | ⟨q1, q2⟩ <;> rw [q1]
  ·refine ⟨fun h => (by cases h), fun _ => congrArg (fun z => LV.v (.int .i64 z)) ?_⟩
   exact q2.symm
  ·refine ⟨fun _ => congrArg (fun z => LV.v (.int .i64 z)) ?_, fun h => by cases h⟩
   exact q2
 ·cases h)
structure L_l4a where
 al : List Int
 mo : List Int
 od : List Int
 other : List Int
 r : Bool
 up_ : Bool
 rows : List (Int × (List Int))
 a : List Int
 gs : List (ByteArray × (Int × (Int × (Int × (Int × (Int × (Int × Int)))))))
 n : Int
 i : Int
 b : List Int
 amps : List Int
def A_l4a (s : L_l4a) : List LV := [.xl (.int .i64) s.al, .xl (.int .i64) s.mo, .xl (.int .i64) s.od, .xl (.int .u8) s.other, .v (.bool s.r), .v (.bool s.up_), .xl tRw s.rows, .xl (.int .i64) s.a, .os 0 1 0 (List.length s.b), .os 1 1 0 (List.length s.amps), .xl tCh s.gs, .v (.int .i64 s.n), .v (.int .i64 s.i)]
def B_l4a (s : L_l4a) : List Blk := [⟨[], 3, .vec (.int .i64) s.b, false⟩, ⟨[], 3, .vec (.int .i64) s.amps, false⟩]
noncomputable def body_l4a : Code := ((loopsIn (Try.f6.body.getD .skip))[0]?).getD .skip
def l4x (s : L_l4a) : Int := ((IntKind.i64.wrap (gi s.other s.i)).tmod (lvs (gCh s.gs s.i).2.2.2.1 (gCh s.gs s.i).2.2.2.2.1 (gCh s.gs s.i).2.2.2.2.2.1))
def l4y (s : L_l4a) : Int := (if (0 : Int) < (if (IntKind.i64.wrap ((IntKind.i64.wrap ((gi s.a s.i) - 1)) + ((IntKind.i64.wrap (gi s.other s.i)).tmod 3))) < (IntKind.i64.wrap ((lvs (gCh s.gs s.i).2.2.2.1 (gCh s.gs s.i).2.2.2.2.1 (gCh s.gs s.i).2.2.2.2.2.1) - 1)) then IntKind.i64.wrap ((IntKind.i64.wrap ((gi s.a s.i) - 1)) + ((IntKind.i64.wrap (gi s.other s.i)).tmod 3)) else IntKind.i64.wrap ((lvs (gCh s.gs s.i).2.2.2.1 (gCh s.gs s.i).2.2.2.2.1 (gCh s.gs s.i).2.2.2.2.2.1) - 1)) then if (IntKind.i64.wrap ((IntKind.i64.wrap ((gi s.a s.i) - 1)) + ((IntKind.i64.wrap (gi s.other s.i)).tmod 3))) < (IntKind.i64.wrap ((lvs (gCh s.gs s.i).2.2.2.1 (gCh s.gs s.i).2.2.2.2.1 (gCh s.gs s.i).2.2.2.2.2.1) - 1)) then IntKind.i64.wrap ((IntKind.i64.wrap ((gi s.a s.i) - 1)) + ((IntKind.i64.wrap (gi s.other s.i)).tmod 3)) else IntKind.i64.wrap ((lvs (gCh s.gs s.i).2.2.2.1 (gCh s.gs s.i).2.2.2.2.1 (gCh s.gs s.i).2.2.2.2.2.1) - 1) else 0)
def l4p (s : L_l4a) : List Int := (s.b.set s.i.toNat (gi s.a s.i))
def l4q (s : L_l4a) : List Int := ((l4p s).set s.i.toNat (l4x s))
def l4s (s : L_l4a) : List Int := ((l4q s).set s.i.toNat (l4y s))
def t_l4a (s : L_l4a) : T (Rd L_l4a) :=
 .br (decide (s.i < s.n)) (.req (0 ≤ s.i ∧ s.i < (List.length s.gs : Int)) (.req (0 ≤ s.i ∧ s.i < (List.length s.a : Int)) (.req (0 ≤ s.i ∧ s.i < ((List.length s.b : Nat) : Int)) (.req (s.i.toNat < List.length s.b) (.br (decide (s.i < (List.length s.other : Int))) (.br (decide ((lvs (gCh s.gs s.i).2.2.2.1 (gCh s.gs s.i).2.2.2.2.1 (gCh s.gs s.i).2.2.2.2.2.1) ≤ 0)) (.req (0 = 0 ∧ (List.length s.b) = List.length (l4p s)) (.rl s.amps (.ok (.stop (.ret) { s with r := false, b := (l4p s) })))) (.req (0 ≤ s.i ∧ s.i < (List.length s.other : Int)) (.req ((lvs (gCh s.gs s.i).2.2.2.1 (gCh s.gs s.i).2.2.2.2.1 (gCh s.gs s.i).2.2.2.2.2.1) ≠ 0) (.req (0 ≤ s.i ∧ s.i < ((List.length s.b : Nat) : Int)) (.req (s.i.toNat < List.length (l4p s)) (.req (0 ≤ s.i ∧ s.i < (List.length s.other : Int)) (.br (decide ((gi s.other s.i) ≥ 128)) (.req (0 ≤ s.i ∧ s.i < (List.length s.a : Int)) (.req (0 ≤ s.i ∧ s.i < (List.length s.other : Int)) (.req ((3 : Int) ≠ 0) (.req (0 ≤ s.i ∧ s.i < ((List.length s.b : Nat) : Int)) (.req (s.i.toNat < List.length (l4q s)) (.req (0 ≤ s.i ∧ s.i < ((List.length s.b : Nat) : Int)) (.req (s.i.toNat < List.length (l4s s)) (.br ((amE (gCh s.gs s.i).2.2.2.1 (gCh s.gs s.i).2.2.2.2.1 (gCh s.gs s.i).2.2.2.2.2.1 ((l4s s).getD s.i.toNat (Ty.dflt (.int .i64)))) != 0) (.req (0 = 0 ∧ (List.length s.b) = List.length (l4s s)) (.rl s.amps (.ok (.stop (.ret) { s with r := false, b := (l4s s) })))) (.req (0 ≤ s.i ∧ s.i < ((List.length s.amps : Nat) : Int)) (.req (s.i.toNat < List.length s.amps) (.req (0 ≤ s.i ∧ s.i < (List.length s.mo : Int)) (.br (decide ((amA (gCh s.gs s.i).2.2.2.1 (gCh s.gs s.i).2.2.2.2.1 (gCh s.gs s.i).2.2.2.2.2.1 ((l4s s).getD s.i.toNat (Ty.dflt (.int .i64)))) > (gi s.mo s.i))) (.req (0 = 0 ∧ (List.length s.b) = List.length (l4s s)) (.req (0 = 0 ∧ (List.length s.amps) = List.length (s.amps.set s.i.toNat (amA (gCh s.gs s.i).2.2.2.1 (gCh s.gs s.i).2.2.2.2.1 (gCh s.gs s.i).2.2.2.2.2.1 ((l4s s).getD s.i.toNat (Ty.dflt (.int .i64)))))) (.ok (.stop (.ret) { s with r := s.up_, b := (l4s s), amps := (s.amps.set s.i.toNat (amA (gCh s.gs s.i).2.2.2.1 (gCh s.gs s.i).2.2.2.2.1 (gCh s.gs s.i).2.2.2.2.2.1 ((l4s s).getD s.i.toNat (Ty.dflt (.int .i64))))) })))) (.req (0 = 0 ∧ (List.length s.b) = List.length (l4s s)) (.req (0 = 0 ∧ (List.length s.amps) = List.length (s.amps.set s.i.toNat (amA (gCh s.gs s.i).2.2.2.1 (gCh s.gs s.i).2.2.2.2.1 (gCh s.gs s.i).2.2.2.2.2.1 ((l4s s).getD s.i.toNat (Ty.dflt (.int .i64)))))) (.ok (.next { s with i := (IntKind.i64.wrap (s.i + 1)), b := (l4s s), amps := (s.amps.set s.i.toNat (amA (gCh s.gs s.i).2.2.2.1 (gCh s.gs s.i).2.2.2.2.1 (gCh s.gs s.i).2.2.2.2.2.1 ((l4s s).getD s.i.toNat (Ty.dflt (.int .i64))))) })))))))))))))))) (.req (0 ≤ s.i ∧ s.i < ((List.length s.b : Nat) : Int)) (.req (s.i.toNat < List.length (l4q s)) (.br ((amE (gCh s.gs s.i).2.2.2.1 (gCh s.gs s.i).2.2.2.2.1 (gCh s.gs s.i).2.2.2.2.2.1 ((l4q s).getD s.i.toNat (Ty.dflt (.int .i64)))) != 0) (.req (0 = 0 ∧ (List.length s.b) = List.length (l4q s)) (.rl s.amps (.ok (.stop (.ret) { s with r := false, b := (l4q s) })))) (.req (0 ≤ s.i ∧ s.i < ((List.length s.amps : Nat) : Int)) (.req (s.i.toNat < List.length s.amps) (.req (0 ≤ s.i ∧ s.i < (List.length s.mo : Int)) (.br (decide ((amA (gCh s.gs s.i).2.2.2.1 (gCh s.gs s.i).2.2.2.2.1 (gCh s.gs s.i).2.2.2.2.2.1 ((l4q s).getD s.i.toNat (Ty.dflt (.int .i64)))) > (gi s.mo s.i))) (.req (0 = 0 ∧ (List.length s.b) = List.length (l4q s)) (.req (0 = 0 ∧ (List.length s.amps) = List.length (s.amps.set s.i.toNat (amA (gCh s.gs s.i).2.2.2.1 (gCh s.gs s.i).2.2.2.2.1 (gCh s.gs s.i).2.2.2.2.2.1 ((l4q s).getD s.i.toNat (Ty.dflt (.int .i64)))))) (.ok (.stop (.ret) { s with r := s.up_, b := (l4q s), amps := (s.amps.set s.i.toNat (amA (gCh s.gs s.i).2.2.2.1 (gCh s.gs s.i).2.2.2.2.1 (gCh s.gs s.i).2.2.2.2.2.1 ((l4q s).getD s.i.toNat (Ty.dflt (.int .i64))))) })))) (.req (0 = 0 ∧ (List.length s.b) = List.length (l4q s)) (.req (0 = 0 ∧ (List.length s.amps) = List.length (s.amps.set s.i.toNat (amA (gCh s.gs s.i).2.2.2.1 (gCh s.gs s.i).2.2.2.2.1 (gCh s.gs s.i).2.2.2.2.2.1 ((l4q s).getD s.i.toNat (Ty.dflt (.int .i64)))))) (.ok (.next { s with i := (IntKind.i64.wrap (s.i + 1)), b := (l4q s), amps := (s.amps.set s.i.toNat (amA (gCh s.gs s.i).2.2.2.1 (gCh s.gs s.i).2.2.2.2.1 (gCh s.gs s.i).2.2.2.2.2.1 ((l4q s).getD s.i.toNat (Ty.dflt (.int .i64))))) })))))))))))))))))) (.req (0 ≤ s.i ∧ s.i < ((List.length s.b : Nat) : Int)) (.req (s.i.toNat < List.length (l4p s)) (.br ((amE (gCh s.gs s.i).2.2.2.1 (gCh s.gs s.i).2.2.2.2.1 (gCh s.gs s.i).2.2.2.2.2.1 ((l4p s).getD s.i.toNat (Ty.dflt (.int .i64)))) != 0) (.req (0 = 0 ∧ (List.length s.b) = List.length (l4p s)) (.rl s.amps (.ok (.stop (.ret) { s with r := false, b := (l4p s) })))) (.req (0 ≤ s.i ∧ s.i < ((List.length s.amps : Nat) : Int)) (.req (s.i.toNat < List.length s.amps) (.req (0 ≤ s.i ∧ s.i < (List.length s.mo : Int)) (.br (decide ((amA (gCh s.gs s.i).2.2.2.1 (gCh s.gs s.i).2.2.2.2.1 (gCh s.gs s.i).2.2.2.2.2.1 ((l4p s).getD s.i.toNat (Ty.dflt (.int .i64)))) > (gi s.mo s.i))) (.req (0 = 0 ∧ (List.length s.b) = List.length (l4p s)) (.req (0 = 0 ∧ (List.length s.amps) = List.length (s.amps.set s.i.toNat (amA (gCh s.gs s.i).2.2.2.1 (gCh s.gs s.i).2.2.2.2.1 (gCh s.gs s.i).2.2.2.2.2.1 ((l4p s).getD s.i.toNat (Ty.dflt (.int .i64)))))) (.ok (.stop (.ret) { s with r := s.up_, b := (l4p s), amps := (s.amps.set s.i.toNat (amA (gCh s.gs s.i).2.2.2.1 (gCh s.gs s.i).2.2.2.2.1 (gCh s.gs s.i).2.2.2.2.2.1 ((l4p s).getD s.i.toNat (Ty.dflt (.int .i64))))) })))) (.req (0 = 0 ∧ (List.length s.b) = List.length (l4p s)) (.req (0 = 0 ∧ (List.length s.amps) = List.length (s.amps.set s.i.toNat (amA (gCh s.gs s.i).2.2.2.1 (gCh s.gs s.i).2.2.2.2.1 (gCh s.gs s.i).2.2.2.2.2.1 ((l4p s).getD s.i.toNat (Ty.dflt (.int .i64)))))) (.ok (.next { s with i := (IntKind.i64.wrap (s.i + 1)), b := (l4p s), amps := (s.amps.set s.i.toNat (amA (gCh s.gs s.i).2.2.2.1 (gCh s.gs s.i).2.2.2.2.1 (gCh s.gs s.i).2.2.2.2.2.1 ((l4p s).getD s.i.toNat (Ty.dflt (.int .i64))))) })))))))))))))))) (.rl s.b (.rl s.amps (.ok (.stop (.exit 0) s))))
abbrev f_l4a (s : L_l4a) := (t_l4a s).rd s
def E_l4a (s : L_l4a) : Prop := s.i = 0 ∧ s.n = (List.length s.gs : Int) ∧ s.n ≤ 1000 ∧ B4 s.gs s.mo s.a ∧ s.b.length = s.gs.length ∧ s.amps.length = s.gs.length ∧ (∀ o ∈ s.other, 0 ≤ o ∧ o ≤ 255) ∧ s.up_ = true
def I_l4a (s : L_l4a) : Prop := (0 ≤ s.i ∧ s.i ≤ s.n) ∧ s.n = (List.length s.gs : Int) ∧ s.n ≤ 1000 ∧ B4 s.gs s.mo s.a ∧ s.b.length = s.gs.length ∧ s.amps.length = s.gs.length ∧ (∀ o ∈ s.other, 0 ≤ o ∧ o ≤ 255) ∧ s.up_ = true ∧ ∀ j, 0 ≤ j → j < s.i → g4 s.gs s.mo s.b s.amps j
def mu_l4a (s : L_l4a) : Nat := (s.n - s.i).toNat
def Q_l4a (x : Ex) (_ s' : L_l4a) : Prop := (x = .exit 0 ∧ s'.amps.length = s'.gs.length ∧ s'.b.length = s'.gs.length ∧ ∀ j, 0 ≤ j → j < (List.length s'.gs : Int) → g4 s'.gs s'.mo s'.b s'.amps j) ∨ (x = .ret ∧ s'.r = true)
theorem l4a_E : ∀ s, E_l4a s → I_l4a s := by
 intro s h
 obtain ⟨h0, h2, h3, h4, h5, h6, h7, h8⟩ := h
 exact ⟨by omega, h2, h3, h4, h5, h6, h7, h8, fun j _ _ => by omega⟩
theorem l4_get {l : List Int} {k : Nat} {v : Int} (h : k < l.length) : (l.set k v).getD k (Ty.dflt (.int .i64)) = v := by simp [List.getD, h]
theorem l4_vals (s : L_l4a) (hI : I_l4a s) (c1 : s.i < s.n) (ho : s.i < (List.length s.other : Int)) : (0 ≤ l4x s ∧ l4x s < lvs (gCh s.gs s.i).2.2.2.1 (gCh s.gs s.i).2.2.2.2.1 (gCh s.gs s.i).2.2.2.2.2.1) ∧ 0 ≤ l4y s ∧ l4y s < lvs (gCh s.gs s.i).2.2.2.1 (gCh s.gs s.i).2.2.2.2.1 (gCh s.gs s.i).2.2.2.2.2.1 := by
 obtain ⟨⟨h0, h1⟩, h2, h3, h4, h5, h6, h7, h8, h9⟩ := hI
 have hi : s.i < (List.length s.gs : Int) := by omega
 ·have hl := lvs_pos (h4.has s.i h0 hi)
  have hb := lvs_bd (mi := (gCh s.gs s.i).2.2.2.1) (ma := (gCh s.gs s.i).2.2.2.2.1) (st := (gCh s.gs s.i).2.2.2.2.2.1)
  have ha := h4.a s.i h0 hi
  have hO := h7 _ (gi_mem h0 ho)
  have e : IntKind.i64.wrap (gi s.other s.i) = gi s.other s.i := wrapS (by omega) (by omega)
  unfold l4x l4y
  rw [e]
  generalize lvs (gCh s.gs s.i).2.2.2.1 (gCh s.gs s.i).2.2.2.2.1 (gCh s.gs s.i).2.2.2.2.2.1 = n at *
  generalize gi s.other s.i = o at *
  generalize gi s.a s.i = a at *
  rw [Int.tmod_eq_emod_of_nonneg hO.1, Int.tmod_eq_emod_of_nonneg hO.1]
  have m1 := Int.emod_nonneg o (show n ≠ 0 by omega)
  have m2 := Int.emod_lt_of_pos o (show 0 < n by omega)
  have m3 := Int.emod_nonneg o (show (3 : Int) ≠ 0 by omega)
  have m4 := Int.emod_lt_of_pos o (show (0 : Int) < 3 by omega)
  generalize o % n = p at *
  generalize o % 3 = q at *
  rw [wrapS (x := a - 1) (by omega) (by omega), wrapS (x := n - 1) (by omega) (by omega), wrapS (x := a - 1 + q) (by omega) (by omega)]
  refine ⟨⟨m1, m2⟩, ?_⟩
  split <;> split <;> omega
theorem l4a_da (s : L_l4a) (hI : I_l4a s) : allR (fun s' => I_l4a s' ∧ mu_l4a s' < mu_l4a s) (fun x s' => Q_l4a x s s') (f_l4a s) := by
 unfold f_l4a t_l4a
 dsimp only [T.rd, T.rl]
 have hv := fun c1 ho => l4_vals s hI c1 ho
 obtain ⟨⟨h0, h1⟩, h2, h3, h4, h5, h6, h7, h8, h9⟩ := hI
 refine allR_ite (fun c1 => ?_) (fun c1 => ?_)
 ·refine allR_ite (fun c2 => ?_) (fun c2 => ?_)
  ·refine allR_ite (fun c3 => ?_) (fun c3 => ?_)
   ·have := of_decide_eq_true c3
    have := lvs_pos (h4.has s.i h0 (by have c1 : s.i < s.n := (by simpa using c1); omega))
    omega
   ·refine allR_ite (fun c4 => ?_) (fun c4 => ?_)
    ·refine allR_ite (fun c5 => ?_) (fun c5 => ?_)
     ·have c1 : s.i < s.n := by simpa using c1
      have ho : s.i < (List.length s.other : Int) := of_decide_eq_true c2
      have eb : l4s s = s.b.set s.i.toNat (l4y s) := (congrArg (fun l => l.set s.i.toNat (l4y s)) (List.set_set ..)).trans (List.set_set ..)
      have hb : s.i.toNat < s.b.length := by omega
      obtain ⟨v0, v1⟩ := (hv c1 ho).2
      have hg := g4_set (v := l4y s) h4 h5 h6 h0 (by omega) v0 v1
      rw [eb, l4_get hb] at c5
      exact absurd (hg.1.symm.trans c5) (by decide)
     ·refine allR_ite (fun c6 => ?_) (fun c6 => ?_)
      ·have c1 : s.i < s.n := by simpa using c1
       have ho : s.i < (List.length s.other : Int) := of_decide_eq_true c2
       exact .inr ⟨rfl, h8⟩
      ·have c1 : s.i < s.n := by simpa using c1
       have ho : s.i < (List.length s.other : Int) := of_decide_eq_true c2
       have eb : l4s s = s.b.set s.i.toNat (l4y s) := (congrArg (fun l => l.set s.i.toNat (l4y s)) (List.set_set ..)).trans (List.set_set ..)
       have hb : s.i.toNat < s.b.length := by omega
       obtain ⟨v0, v1⟩ := (hv c1 ho).2
       have hg := g4_set (v := l4y s) h4 h5 h6 h0 (by omega) v0 v1
       rw [eb, l4_get hb] at c6 ⊢
       rw [wrapS (x := s.i + 1) (by omega) (by omega)]
       exact ⟨⟨⟨by simp only; omega, by simp only; omega⟩, h2, h3, h4, by simp only [List.length_set]; exact h5, by simp only [List.length_set]; exact h6, h7, h8, hg.2 c6 h9⟩, by simp only [mu_l4a]; omega⟩
    ·refine allR_ite (fun c5 => ?_) (fun c5 => ?_)
     ·have c1 : s.i < s.n := by simpa using c1
      have ho : s.i < (List.length s.other : Int) := of_decide_eq_true c2
      have eb : l4q s = s.b.set s.i.toNat (l4x s) := List.set_set ..
      have hb : s.i.toNat < s.b.length := by omega
      obtain ⟨v0, v1⟩ := (hv c1 ho).1
      have hg := g4_set (v := l4x s) h4 h5 h6 h0 (by omega) v0 v1
      rw [eb, l4_get hb] at c5
      exact absurd (hg.1.symm.trans c5) (by decide)
     ·refine allR_ite (fun c6 => ?_) (fun c6 => ?_)
      ·have c1 : s.i < s.n := by simpa using c1
       have ho : s.i < (List.length s.other : Int) := of_decide_eq_true c2
       exact .inr ⟨rfl, h8⟩
      ·have c1 : s.i < s.n := by simpa using c1
       have ho : s.i < (List.length s.other : Int) := of_decide_eq_true c2
       have eb : l4q s = s.b.set s.i.toNat (l4x s) := List.set_set ..
       have hb : s.i.toNat < s.b.length := by omega
       obtain ⟨v0, v1⟩ := (hv c1 ho).1
       have hg := g4_set (v := l4x s) h4 h5 h6 h0 (by omega) v0 v1
       rw [eb, l4_get hb] at c6 ⊢
       rw [wrapS (x := s.i + 1) (by omega) (by omega)]
       exact ⟨⟨⟨by simp only; omega, by simp only; omega⟩, h2, h3, h4, by simp only [List.length_set]; exact h5, by simp only [List.length_set]; exact h6, h7, h8, hg.2 c6 h9⟩, by simp only [mu_l4a]; omega⟩
  ·refine allR_ite (fun c3 => ?_) (fun c3 => ?_)
   ·have c1 : s.i < s.n := by simpa using c1
    have eb : l4p s = s.b.set s.i.toNat (gi s.a s.i) := rfl
    have hb : s.i.toNat < s.b.length := by omega
    obtain ⟨v0, v1⟩ := h4.a s.i h0 (by omega)
    have hg := g4_set (v := gi s.a s.i) h4 h5 h6 h0 (by omega) v0 v1
    rw [eb, l4_get hb] at c3
    exact absurd (hg.1.symm.trans c3) (by decide)
   ·refine allR_ite (fun c4 => ?_) (fun c4 => ?_)
    ·have c1 : s.i < s.n := by simpa using c1
     exact .inr ⟨rfl, h8⟩
    ·have c1 : s.i < s.n := by simpa using c1
     have eb : l4p s = s.b.set s.i.toNat (gi s.a s.i) := rfl
     have hb : s.i.toNat < s.b.length := by omega
     obtain ⟨v0, v1⟩ := h4.a s.i h0 (by omega)
     have hg := g4_set (v := gi s.a s.i) h4 h5 h6 h0 (by omega) v0 v1
     rw [eb, l4_get hb] at c4 ⊢
     rw [wrapS (x := s.i + 1) (by omega) (by omega)]
     exact ⟨⟨⟨by simp only; omega, by simp only; omega⟩, h2, h3, h4, by simp only [List.length_set]; exact h5, by simp only [List.length_set]; exact h6, h7, h8, hg.2 c4 h9⟩, by simp only [mu_l4a]; omega⟩
 ·have c1 : s.n ≤ s.i := by simpa using c1
  exact .inl ⟨rfl, h6, h5, fun j j0 j1 => h9 j j0 (by have j1 : j < (List.length s.gs : Int) := j1; omega)⟩
def D_l4a : LpD L_l4a := ⟨0, 190, [1, 2, 3, 4, 10, 11, 14, 16, 18, 19, 73, 74, 75], [], A_l4a, B_l4a, fun v b => ⟨gXl (.int .i64) (v.getD 0 .junk), gXl (.int .i64) (v.getD 1 .junk), gXl (.int .i64) (v.getD 2 .junk), gXl (.int .u8) (v.getD 3 .junk), gBo (v.getD 4 .junk), gBo (v.getD 5 .junk), gXl tRw (v.getD 6 .junk), gXl (.int .i64) (v.getD 7 .junk), gXl tCh (v.getD 10 .junk), gI (v.getD 11 .junk), gI (v.getD 12 .junk), gVe (.int .i64) (gBk b 0), gVe (.int .i64) (gBk b 1)⟩, t_l4a, fun s r => { r with al := s.al, mo := s.mo, od := s.od, other := s.other, up_ := s.up_, rows := s.rows, a := s.a, gs := s.gs, n := s.n }, fun s => s, fun _ s => s, [.ret, .exit 0], E_l4a, I_l4a, mu_l4a⟩
abbrev run_l4a := D_l4a.run
abbrev exn_l4a := D_l4a.exn
abbrev E_l4aq := D_l4a.q
set_option maxRecDepth 100000 in
set_option maxHeartbeats 4000000 in
theorem rq_l4a (s : L_l4a) (hI : I_l4a s) : (t_l4a s).all (fun _ => True) := by
 refine ⟨fun c1 => ⟨?_, ?_, ?_, ?_, fun c2 => ⟨fun c3 => ⟨?_, ⟨rfl, rfl⟩, trivial⟩, fun c3 => ⟨?_, ?_, ?_, ?_, ?_, fun c4 => ⟨?_, ?_, ?_, ?_, ?_, ?_, ?_, fun c5 => ⟨?_, ⟨rfl, rfl⟩, trivial⟩, fun c5 => ⟨?_, ?_, ?_, fun c6 => ⟨?_, ?_, trivial⟩, fun c6 => ⟨?_, ?_, trivial⟩⟩⟩, fun c4 => ⟨?_, ?_, fun c7 => ⟨?_, ⟨rfl, rfl⟩, trivial⟩, fun c7 => ⟨?_, ?_, ?_, fun c8 => ⟨?_, ?_, trivial⟩, fun c8 => ⟨?_, ?_, trivial⟩⟩⟩⟩⟩, fun c2 => ⟨?_, ?_, fun c9 => ⟨?_, ⟨rfl, rfl⟩, trivial⟩, fun c9 => ⟨?_, ?_, ?_, fun c10 => ⟨?_, ?_, trivial⟩, fun c10 => ⟨?_, ?_, trivial⟩⟩⟩⟩, fun c1 => ⟨⟨rfl, rfl⟩, ⟨rfl, rfl⟩, trivial⟩⟩
 all_goals ((obtain ⟨⟨h0, h1⟩, h2, h3, h4, h5, h6, h7, h8, h9⟩ := hI; simp only [decide_eq_true_eq] at c1; have hl := lvs_pos (h4.has s.i h0 (by omega)); have hal := h4.al; have hml := h4.ml; first | omega | exact ⟨rfl, by simp [l4s, l4q, l4p]⟩ | (simp only [l4s, l4q, l4p, List.length_set]; omega) | (simp only [decide_eq_true_eq] at c2; omega)))
noncomputable def gam73 : Specs := specsOf [(10, S_head), (12, S_ampsE), (14, S_shar), (17, S_lvls), (22, S_usab), (23, S_rows), (24, S_lvsx), (25, S_rperm), (26, S_bet)]
theorem gok73 : ∀ g S, gam73 g = some S → Valid Try.prog noGlobs g S := specs_ok (l := [(10, S_head), (12, S_ampsE), (14, S_shar), (17, S_lvls), (22, S_usab), (23, S_rows), (24, S_lvsx), (25, S_rperm), (26, S_bet)]) ⟨v_head, v_ampsE, v_shar, v_lvls, v_usab, v_rows, v_lvsx, v_rperm, v_bet, trivial⟩
theorem ok_l4a : D_l4a.Ok := ⟨fun s => by kernel_rfl, fun s => by kernel_rfl, fun s => rfl, fun s t r => rfl, fun s => rfl, fun s => by kernel_rfl⟩
theorem pf_l4a : D_l4a.Pf (Q_l4a) := ⟨l4a_E, fun _ _ => rfl, l4a_da, rq_l4a⟩
set_option maxRecDepth 100000 in
set_option maxHeartbeats 4000000 in
theorem snd_l4a : SoundA Try.prog noGlobs (AN 0) (.loop body_l4a) D_l4a.lp := LpD.snd ok_l4a pf_l4a (code_sound (Γ := gam73) (K := noK) (L := noLoops) gok73 noK_sound body_l4a (fun b hb => by rw [show loopsIn body_l4a = [] by kernel_rfl] at hb; cases hb)) (fun s => by kernel_rfl)
theorem l4a_fin (s : L_l4a) (hE : E_l4a s) : ∃ s', I_l4a s' ∧ Q_l4a (exn_l4a s) s' (run_l4a s) := LpD.fin ok_l4a pf_l4a s hE
structure L_l4c where
 al : List Int
 od : List Int
 r : Bool
 up_ : Bool
 rw0 : List (Int × (List Int))
 a : List Int
 rows : List (Int × (List Int))
 rn : Int
 k : Int
 ms : List Int
 n : Int
 i : Int
 b : List Int
 amps : List Int
def A_l4c (s : L_l4c) : List LV := [.xl (.int .i64) s.al, .xl (.int .i64) s.od, .v (.bool s.r), .v (.bool s.up_), .xl tRw s.rw0, .xl (.int .i64) s.a, .os 0 1 0 (List.length s.b), .os 1 1 0 (List.length s.amps), .xl tRw s.rows, .v (.int .i64 s.rn), .v (.int .i64 s.k), .xl (.int .i64) s.ms, .v (.int .i64 s.n), .v (.int .i64 s.i)]
def B_l4c (s : L_l4c) : List Blk := [⟨[], 3, .vec (.int .i64) s.b, false⟩, ⟨[], 3, .vec (.int .i64) s.amps, false⟩]
noncomputable def body_l4c : Code := ((loopsIn (((loopsIn (Try.f6.body.getD .skip))[1]?).getD .skip))[0]?).getD .skip
def t_l4c (s : L_l4c) : T (Rd L_l4c) :=
 .br (decide (s.i < s.n)) (.req (0 ≤ s.i ∧ s.i < (List.length s.ms : Int)) (.br ((decide ((gi s.ms s.i) < 0)) || (decide ((gi s.ms s.i) ≥ ((List.length s.amps : Nat) : Int)))) (.rl s.b (.rl s.amps (.ok (.stop (.ret) { s with r := false })))) (.rl s.b (.rl s.amps (.ok (.next { s with i := (IntKind.i64.wrap (s.i + 1)) })))))) (.rl s.b (.rl s.amps (.ok (.stop (.exit 4) s))))
abbrev f_l4c (s : L_l4c) := (t_l4c s).rd s
def E_l4c (s : L_l4c) : Prop := s.i = 0 ∧ s.n = (List.length s.ms : Int) ∧ s.n ≤ 1000 ∧ ∀ m ∈ s.ms, 0 ≤ m ∧ m < (List.length s.amps : Int)
def I_l4c (s : L_l4c) : Prop := (0 ≤ s.i ∧ s.i ≤ s.n) ∧ s.n = (List.length s.ms : Int) ∧ s.n ≤ 1000 ∧ ∀ m ∈ s.ms, 0 ≤ m ∧ m < (List.length s.amps : Int)
def mu_l4c (s : L_l4c) : Nat := (s.n - s.i).toNat
def Q_l4c (x : Ex) (_ _ : L_l4c) : Prop := x = .exit 4
theorem l4c_E : ∀ s, E_l4c s → I_l4c s := by
 intro s h
 obtain ⟨h0, h2, h3, h4⟩ := h
 exact ⟨by omega, h2, h3, h4⟩
theorem l4c_da (s : L_l4c) (hI : I_l4c s) : allR (fun s' => I_l4c s' ∧ mu_l4c s' < mu_l4c s) (fun x s' => Q_l4c x s s') (f_l4c s) := by
 unfold f_l4c t_l4c
 dsimp only [T.rd, T.rl]
 obtain ⟨⟨h0, h1⟩, h2, h3, h4⟩ := hI
 refine allR_ite (fun c1 => ?_) (fun c1 => ?_)
 ·refine allR_ite (fun c2 => ?_) (fun c2 => ?_)
  ·have c1 : s.i < s.n := by simpa using c1
   have hm := h4 (gi s.ms s.i) (gi_mem h0 (by omega))
   have e1 : (decide (gi s.ms s.i < 0) || decide (gi s.ms s.i ≥ (List.length s.amps : Int))) = false := by rw [decide_eq_false (by omega), decide_eq_false (by omega)]; rfl
   first | exact absurd (e1.symm.trans c2) (by decide)
  ·have c1 : s.i < s.n := by simpa using c1
   rw [wrapS (x := s.i + 1) (by omega) (by omega)]
   exact ⟨⟨⟨by simp only; omega, by simp only; omega⟩, h2, h3, h4⟩, by simp only [mu_l4c]; omega⟩
 ·exact rfl
def D_l4c : LpD L_l4c := ⟨0, 190, [1, 3, 10, 11, 14, 16, 18, 19, 152, 153, 154, 159, 160, 161], [], A_l4c, B_l4c, fun v b => ⟨gXl (.int .i64) (v.getD 0 .junk), gXl (.int .i64) (v.getD 1 .junk), gBo (v.getD 2 .junk), gBo (v.getD 3 .junk), gXl tRw (v.getD 4 .junk), gXl (.int .i64) (v.getD 5 .junk), gXl tRw (v.getD 8 .junk), gI (v.getD 9 .junk), gI (v.getD 10 .junk), gXl (.int .i64) (v.getD 11 .junk), gI (v.getD 12 .junk), gI (v.getD 13 .junk), gVe (.int .i64) (gBk b 0), gVe (.int .i64) (gBk b 1)⟩, t_l4c, fun s r => { r with al := s.al, od := s.od, up_ := s.up_, rw0 := s.rw0, a := s.a, rows := s.rows, rn := s.rn, k := s.k, ms := s.ms, n := s.n, b := s.b, amps := s.amps }, fun s => s, fun _ s => s, [.ret, .exit 4], E_l4c, I_l4c, mu_l4c⟩
abbrev run_l4c := D_l4c.run
abbrev exn_l4c := D_l4c.exn
abbrev E_l4cq := D_l4c.q
theorem rq_l4c (s : L_l4c) (hI : I_l4c s) : (t_l4c s).all (fun _ => True) := by
 refine ⟨fun c1 => ⟨?_, fun c2 => ⟨⟨rfl, rfl⟩, ⟨rfl, rfl⟩, trivial⟩, fun c2 => ⟨⟨rfl, rfl⟩, ⟨rfl, rfl⟩, trivial⟩⟩, fun c1 => ⟨⟨rfl, rfl⟩, ⟨rfl, rfl⟩, trivial⟩⟩
 ·(obtain ⟨⟨h0, h1⟩, h2, h3, h4⟩ := hI; simp only [decide_eq_true_eq] at c1; omega)
theorem ok_l4c : D_l4c.Ok := ⟨fun s => by kernel_rfl, fun s => by kernel_rfl, fun s => rfl, fun s t r => rfl, fun s => rfl, fun s => by kernel_rfl⟩
theorem pf_l4c : D_l4c.Pf (Q_l4c) := ⟨l4c_E, fun _ _ => rfl, l4c_da, rq_l4c⟩
theorem snd_l4c : SoundA Try.prog noGlobs (AN 0) (.loop body_l4c) D_l4c.lp := LpD.snd ok_l4c pf_l4c (code_sound (Γ := gam73) (K := noK) (L := noLoops) gok73 noK_sound body_l4c (fun b hb => by rw [show loopsIn body_l4c = [] by kernel_rfl] at hb; cases hb)) (fun s => by kernel_rfl)
theorem l4c_fin (s : L_l4c) (hE : E_l4c s) : ∃ s', I_l4c s' ∧ Q_l4c (exn_l4c s) s' (run_l4c s) := LpD.fin ok_l4c pf_l4c s hE
structure L_l4b where
 al : List Int
 od : List Int
 r : Bool
 up_ : Bool
 rw0 : List (Int × (List Int))
 a : List Int
 rows : List (Int × (List Int))
 n : Int
 k : Int
 b : List Int
 amps : List Int
def A_l4b (s : L_l4b) : List LV := [.xl (.int .i64) s.al, .xl (.int .i64) s.od, .v (.bool s.r), .v (.bool s.up_), .xl tRw s.rw0, .xl (.int .i64) s.a, .os 0 1 0 (List.length s.b), .os 1 1 0 (List.length s.amps), .xl tRw s.rows, .v (.int .i64 s.n), .v (.int .i64 s.k)]
def B_l4b (s : L_l4b) : List Blk := [⟨[], 3, .vec (.int .i64) s.b, false⟩, ⟨[], 3, .vec (.int .i64) s.amps, false⟩]
noncomputable def body_l4b : Code := ((loopsIn (Try.f6.body.getD .skip))[1]?).getD .skip
def st17_l4c (s : L_l4b) : L_l4c := (⟨s.al, s.od, s.r, s.up_, s.rw0, s.a, s.rows, s.n, s.k, (gRw s.rows s.k).2, (List.length (gRw s.rows s.k).2 : Int), (0 : Int), s.b, s.amps⟩ : L_l4c)
def t_l4b (s : L_l4b) : T (Rd L_l4b) :=
 .br (decide (s.k < s.n)) (.req (0 ≤ s.k ∧ s.k < (List.length s.rows : Int)) (.rl s.b (.rl s.amps (.req (E_l4cq (st17_l4c s)) (.br (isEx (exn_l4c (st17_l4c s)) (.ret)) (.rl s.b (.rl s.amps (.ok (.stop (.ret) { s with r := (run_l4c (st17_l4c s)).r })))) (.rl s.b (.rl s.amps (.ok (.next { s with r := (run_l4c (st17_l4c s)).r, k := (IntKind.i64.wrap (s.k + 1)) }))))))))) (.rl s.b (.rl s.amps (.ok (.stop (.exit 2) s))))
abbrev f_l4b (s : L_l4b) := (t_l4b s).rd s
def E_l4b (s : L_l4b) : Prop := s.k = 0 ∧ s.n = (List.length s.rows : Int) ∧ s.n ≤ 1000 ∧ ∀ r ∈ s.rows, (r.2.length : Int) ≤ 1000 ∧ ∀ m ∈ r.2, 0 ≤ m ∧ m < (List.length s.amps : Int)
def I_l4b (s : L_l4b) : Prop := (0 ≤ s.k ∧ s.k ≤ s.n) ∧ s.n = (List.length s.rows : Int) ∧ s.n ≤ 1000 ∧ ∀ r ∈ s.rows, (r.2.length : Int) ≤ 1000 ∧ ∀ m ∈ r.2, 0 ≤ m ∧ m < (List.length s.amps : Int)
def mu_l4b (s : L_l4b) : Nat := (s.n - s.k).toNat
def Q_l4b (x : Ex) (_ _ : L_l4b) : Prop := x = .exit 2
theorem l4b_E : ∀ s, E_l4b s → I_l4b s := by
 intro s h
 obtain ⟨h0, h2, h3, h4⟩ := h
 exact ⟨by omega, h2, h3, h4⟩
theorem l4b_da (s : L_l4b) (hI : I_l4b s) : allR (fun s' => I_l4b s' ∧ mu_l4b s' < mu_l4b s) (fun x s' => Q_l4b x s s') (f_l4b s) := by
 unfold f_l4b t_l4b
 dsimp only [T.rd, T.rl]
 obtain ⟨⟨h0, h1⟩, h2, h3, h4⟩ := hI
 refine allR_ite (fun c1 => ?_) (fun c1 => ?_)
 ·refine allR_ite (fun c2 => ?_) (fun c2 => ?_)
  ·have c1 : s.k < s.n := by simpa using c1
   have hin : E_l4c (st17_l4c s) := ⟨rfl, rfl, (h4 _ (gRw_mem h0 (by omega))).1, (h4 _ (gRw_mem h0 (by omega))).2⟩
   obtain ⟨_, _, q1⟩ := l4c_fin _ hin
   have e1 : isEx (exn_l4c (st17_l4c s)) .ret = false := by rw [show exn_l4c (st17_l4c s) = _ from q1]; rfl
   first | exact absurd (e1.symm.trans c2) (by decide)
  ·have c1 : s.k < s.n := by simpa using c1
   rw [wrapS (x := s.k + 1) (by omega) (by omega)]
   exact ⟨⟨⟨by simp only; omega, by simp only; omega⟩, h2, h3, h4⟩, by simp only [mu_l4b]; omega⟩
 ·exact rfl
def D_l4b : LpD L_l4b := ⟨0, 190, [1, 3, 10, 11, 14, 16, 18, 19, 152, 153, 154], [], A_l4b, B_l4b, fun v b => ⟨gXl (.int .i64) (v.getD 0 .junk), gXl (.int .i64) (v.getD 1 .junk), gBo (v.getD 2 .junk), gBo (v.getD 3 .junk), gXl tRw (v.getD 4 .junk), gXl (.int .i64) (v.getD 5 .junk), gXl tRw (v.getD 8 .junk), gI (v.getD 9 .junk), gI (v.getD 10 .junk), gVe (.int .i64) (gBk b 0), gVe (.int .i64) (gBk b 1)⟩, t_l4b, fun s r => { r with al := s.al, od := s.od, up_ := s.up_, rw0 := s.rw0, a := s.a, rows := s.rows, n := s.n, b := s.b, amps := s.amps }, fun s => s, fun _ s => s, [.ret, .exit 2], E_l4b, I_l4b, mu_l4b⟩
abbrev run_l4b := D_l4b.run
abbrev exn_l4b := D_l4b.exn
abbrev E_l4bq := D_l4b.q
theorem rq_l4b (s : L_l4b) (hI : I_l4b s) : (t_l4b s).all (fun _ => True) := by
 refine ⟨fun c1 => ⟨?_, ⟨rfl, rfl⟩, ⟨rfl, rfl⟩, ?_, fun c2 => ⟨⟨rfl, rfl⟩, ⟨rfl, rfl⟩, trivial⟩, fun c2 => ⟨⟨rfl, rfl⟩, ⟨rfl, rfl⟩, trivial⟩⟩, fun c1 => ⟨⟨rfl, rfl⟩, ⟨rfl, rfl⟩, trivial⟩⟩
 all_goals ((obtain ⟨⟨h0, h1⟩, h2, h3, h4⟩ := hI; simp only [decide_eq_true_eq] at c1; (first | omega | exact ⟨⟨rfl, rfl, (h4 _ (gRw_mem h0 (by omega))).1, (h4 _ (gRw_mem h0 (by omega))).2⟩, rfl, rfl⟩)))
theorem ok_l4b : D_l4b.Ok := ⟨fun s => by kernel_rfl, fun s => by kernel_rfl, fun s => rfl, fun s t r => rfl, fun s => rfl, fun s => by kernel_rfl⟩
theorem pf_l4b : D_l4b.Pf (Q_l4b) := ⟨l4b_E, fun _ _ => rfl, l4b_da, rq_l4b⟩
theorem snd_l4b : SoundA Try.prog noGlobs (AN 0) (.loop body_l4b) D_l4b.lp := LpD.snd ok_l4b pf_l4b (code_sound (Γ := gam73) (K := noK) (L := (fun i => if i = 32 then D_l4c.lp else noLoops i)) gok73 noK_sound body_l4b (fun b hb => by
 rw [show loopsIn _ = [body_l4c] by kernel_rfl] at hb
 simp only [List.mem_cons, List.not_mem_nil, or_false] at hb
 subst hb
 exact snd_l4c)) (fun s => by kernel_rfl)
theorem l4b_fin (s : L_l4b) (hE : E_l4b s) : ∃ s', I_l4b s' ∧ Q_l4b (exn_l4b s) s' (run_l4b s) := LpD.fin ok_l4b pf_l4b s hE
def S0_l4 : List LV → T LV
 | [.agg [.xl (.pair .str (.pair (.int .i64) (.pair (.int .i64) (.pair (.int .i64) (.pair (.pair (.int .i64) (.int .i64)) (.pair (.int .i64) (.pair (.int .i64) (.pair (.int .i64) (.pair (.int .i64) (.int .i64)))))))))) cs, .xl (.str) os, .xl (.pair .str (.pair (.int .i64) (.pair (.int .i64) (.int .i64)))) ks, .xl (.pair .str (.pair (.int .i64) (.pair (.int .i64) (.pair (.int .i64) (.pair (.int .i64) (.pair (.int .i64) (.pair (.int .i64) (.int .i64)))))))) gs, .xl (.pair .str (.int .i64)) bs], .xl (.int .i64) _, .xl (.int .i64) _, .xl (.int .i64) _, .xl (.int .u8) other] => .req (nmR (nmsOf cs os ks gs bs) ∧ ∀ o ∈ other, 0 ≤ o ∧ o ≤ 255) (.ok (.v (.bool true)))
 | _ => .no
noncomputable def S_l4 : List LV → T LV := upS Try.prog Try.f6.params.toList S0_l4
def st18_l4a (cs : List (ByteArray × (Int × (Int × (Int × ((Int × Int) × (Int × (Int × (Int × (Int × Int)))))))))) (os : List ByteArray) (ks : List (ByteArray × (Int × (Int × Int)))) (gs : List (ByteArray × (Int × (Int × (Int × (Int × (Int × (Int × Int)))))))) (bs : List (ByteArray × Int)) (al mo od other : List Int) : L_l4a := (⟨al, mo, od, other, false, true, (rowL cs os ks gs bs), (lvN gs (shL cs os ks gs bs al mo od) gs.length), gs, (List.length gs : Int), (0 : Int), (List.replicate (List.length (lvN gs (shL cs os ks gs bs al mo od) gs.length) : Int).toNat (0 : Int)), (List.replicate (List.length (lvN gs (shL cs os ks gs bs al mo od) gs.length) : Int).toNat (0 : Int))⟩ : L_l4a)
def st19_l4b (cs : List (ByteArray × (Int × (Int × (Int × ((Int × Int) × (Int × (Int × (Int × (Int × Int)))))))))) (os : List ByteArray) (ks : List (ByteArray × (Int × (Int × Int)))) (gs : List (ByteArray × (Int × (Int × (Int × (Int × (Int × (Int × Int)))))))) (bs : List (ByteArray × Int)) (al mo od other : List Int) : L_l4b := (⟨al, od, (run_l4a (st18_l4a cs os ks gs bs al mo od other)).r, true, (rowL cs os ks gs bs), (lvN gs (shL cs os ks gs bs al mo od) gs.length), (rowL cs os ks gs bs), (List.length (rowL cs os ks gs bs) : Int), (0 : Int), (run_l4a (st18_l4a cs os ks gs bs al mo od other)).b, (run_l4a (st18_l4a cs os ks gs bs al mo od other)).amps⟩ : L_l4b)
theorem nf_l4 (cs : List (ByteArray × (Int × (Int × (Int × ((Int × Int) × (Int × (Int × (Int × (Int × Int)))))))))) (os : List ByteArray) (ks : List (ByteArray × (Int × (Int × Int)))) (gs : List (ByteArray × (Int × (Int × (Int × (Int × (Int × (Int × Int)))))))) (bs : List (ByteArray × Int)) (al mo od other : List Int) : funu Try.prog noGlobs (gam73) noK (fun i => if i = 11 then D_l4a.lp else if i = 29 then D_l4b.lp else noLoops i) Try.f6 [.agg [.xl tCd cs, .xl .str os, .xl tKo ks, .xl tCh gs, .xl tBa bs], .xl (.int .i64) al, .xl (.int .i64) mo, .xl (.int .i64) od, .xl (.int .u8) other] = .req (nmR (nmsOf cs os ks gs bs)) (.br (!(useB cs os ks gs bs al mo od)) (.ok (.v (.bool true))) (.req (((List.length gs : Int) ≤ 1000 ∧ (shL cs os ks gs bs al mo od).length = gs.length) ∧ p4a gs (shL cs os ks gs bs al mo od)) (.br (((shE cs os ks gs bs al mo od) != 0) || (((rowE cs os ks gs bs) != 0) || (!true))) (.ok (.v (.bool false))) (.req (0 ≤ (List.length (lvN gs (shL cs os ks gs bs al mo od) gs.length) : Int) ∧ (List.length (lvN gs (shL cs os ks gs bs al mo od) gs.length) : Int) ≤ (List.length (lvN gs (shL cs os ks gs bs al mo od) gs.length) : Int) ∧ 8 * (List.length (lvN gs (shL cs os ks gs bs al mo od) gs.length) : Int) ≤ 2 ^ 48 ∧ (List.length (lvN gs (shL cs os ks gs bs al mo od) gs.length) : Int) < 2 ^ 63) (.req (0 ≤ (List.length (lvN gs (shL cs os ks gs bs al mo od) gs.length) : Int) ∧ (List.length (lvN gs (shL cs os ks gs bs al mo od) gs.length) : Int) ≤ (List.length (lvN gs (shL cs os ks gs bs al mo od) gs.length) : Int) ∧ 8 * (List.length (lvN gs (shL cs os ks gs bs al mo od) gs.length) : Int) ≤ 2 ^ 48 ∧ (List.length (lvN gs (shL cs os ks gs bs al mo od) gs.length) : Int) < 2 ^ 63) (.req (0 = 0 ∧ (List.length (lvN gs (shL cs os ks gs bs al mo od) gs.length) : Int).toNat = List.length (List.replicate (List.length (lvN gs (shL cs os ks gs bs al mo od) gs.length) : Int).toNat (0 : Int))) (.req (0 = 0 ∧ (List.length (lvN gs (shL cs os ks gs bs al mo od) gs.length) : Int).toNat = List.length (List.replicate (List.length (lvN gs (shL cs os ks gs bs al mo od) gs.length) : Int).toNat (0 : Int))) (.req (E_l4aq (st18_l4a cs os ks gs bs al mo od other)) (.br (isEx (exn_l4a (st18_l4a cs os ks gs bs al mo od other)) (.ret)) (.ok (.v (.bool (run_l4a (st18_l4a cs os ks gs bs al mo od other)).r))) (.rl (run_l4a (st18_l4a cs os ks gs bs al mo od other)).b (.rl (run_l4a (st18_l4a cs os ks gs bs al mo od other)).amps (.req (E_l4bq (st19_l4b cs os ks gs bs al mo od other)) (.br (isEx (exn_l4b (st19_l4b cs os ks gs bs al mo od other)) (.ret)) (.ok (.v (.bool (run_l4b (st19_l4b cs os ks gs bs al mo od other)).r))) (.br true (.req (0 + (List.length (run_l4a (st18_l4a cs os ks gs bs al mo od other)).amps) ≤ List.length (run_l4a (st18_l4a cs os ks gs bs al mo od other)).amps) (.req ((List.length (rowL cs os ks gs bs) : Int) ≤ 1000 ∧ ∀ r ∈ (rowL cs os ks gs bs), rowR al (((run_l4a (st18_l4a cs os ks gs bs al mo od other)).amps.drop 0).take (List.length (run_l4a (st18_l4a cs os ks gs bs al mo od other)).amps)) r) (.br (!(permB (rowL cs os ks gs bs) al (((run_l4a (st18_l4a cs os ks gs bs al mo od other)).amps.drop 0).take (List.length (run_l4a (st18_l4a cs os ks gs bs al mo od other)).amps)))) (.ok (.v (.bool true))) (.req (0 + (List.length (run_l4a (st18_l4a cs os ks gs bs al mo od other)).b) ≤ List.length (run_l4a (st18_l4a cs os ks gs bs al mo od other)).b) (.req ((List.length od : Int) ≤ 1000 ∧ ∀ i ∈ od, 0 ≤ i ∧ i < (List.length (((run_l4a (st18_l4a cs os ks gs bs al mo od other)).b.drop 0).take (List.length (run_l4a (st18_l4a cs os ks gs bs al mo od other)).b)) : Int) ∧ i < (List.length (lvN gs (shL cs os ks gs bs al mo od) gs.length) : Int)) (.ok (.v (.bool (decide ((betI (((run_l4a (st18_l4a cs os ks gs bs al mo od other)).b.drop 0).take (List.length (run_l4a (st18_l4a cs os ks gs bs al mo od other)).b)) (lvN gs (shL cs os ks gs bs al mo od) gs.length) od) ≤ 0)))))))))) (.ok (.v (.bool false))))))))))))))))) := by kernel_rfl
theorem v_l4 : Valid Try.prog noGlobs 6 S_l4 := valid_ofu Try.func6 rfl gok73 noK_sound (L := (fun i => if i = 11 then D_l4a.lp else if i = 29 then D_l4b.lp else noLoops i)) (fun b hb => by
 rw [show loopsIn _ = [body_l4a, body_l4b] by kernel_rfl] at hb
 simp only [List.mem_cons, List.not_mem_nil, or_false] at hb
 rcases hb with rfl | rfl
 ·exact snd_l4a
 ·exact snd_l4b) (fun args lv h => by
 unfold S0_l4 at h
 split at h
 ·simp only [canL, canX]
  rw [nf_l4]
  rename_i cs os ks gs bs al mo od other
  obtain ⟨⟨hn, hO⟩, rfl⟩ := h
  refine ⟨hn, fun c => rfl, fun c => ?_⟩
  have hk := useB_sh (nf c)
  have H := sh_ok hk
  obtain ⟨r1, r2, r3⟩ := row_sh hk
  have ex := shL_lv hk
  have xl : (shL cs os ks gs bs al mo od).length = gs.length := by rw [ex, amsL_len]
  have gl := H.gl
  have R := lvF_R H
  have hrr : ∀ r ∈ rowL cs os ks gs bs, rowR al (shL cs os ks gs bs al mo od) r := fun r hr => by rw [r1] at hr; rw [ex]; exact (rf_ok hk).rowR (ams_ok H R) r hr
  have lvl : (lvN gs (shL cs os ks gs bs al mo od) gs.length).length = gs.length := lvN_len
  have lvq : lvN gs (shL cs os ks gs bs al mo od) gs.length = lvF (rowN cs gs cs.length) gs al mo od := by rw [ex]; exact lvN_eq H
  refine ⟨⟨⟨by omega, xl⟩, by rw [ex]; exact p4a_of H⟩, ?_⟩
  rw [shE_0 hk, r2]
  refine ⟨fun c2 => absurd c2 (by simp), fun _ => ⟨⟨by omega, by omega, by omega, by omega⟩, ⟨by omega, by omega, by omega, by omega⟩, ⟨rfl, by simp⟩, ⟨rfl, by simp⟩, ?_⟩⟩
  have hE : E_l4a (st18_l4a cs os ks gs bs al mo od other) := ⟨rfl, rfl, by show (List.length gs : Int) ≤ 1000; omega, by
   show B4 gs mo (lvN gs (shL cs os ks gs bs al mo od) gs.length)
   rw [lvq]
   exact B4_of H, by
   show (List.replicate _ (0 : Int)).length = gs.length
   rw [List.length_replicate]
   omega, by
   show (List.replicate _ (0 : Int)).length = gs.length
   rw [List.length_replicate]
   omega, hO, rfl⟩
  obtain ⟨_, _, hq⟩ := l4a_fin _ hE
  rcases hq with ⟨q1, q2, q3, q4⟩ | ⟨q1, q2⟩
  rotate_left
  ·exact ⟨⟨hE, rfl, rfl⟩, fun _ => congrArg (fun z => LV.v (.bool z)) q2, fun c3 => by rw [show exn_l4a (st18_l4a cs os ks gs bs al mo od other) = _ from q1] at c3; cases c3⟩
  refine ⟨⟨hE, rfl, rfl⟩, fun c3 => (by rw [show exn_l4a (st18_l4a cs os ks gs bs al mo od other) = _ from q1] at c3; cases c3), fun _ => ⟨⟨rfl, rfl⟩, ⟨rfl, rfl⟩, ?_⟩⟩
  have q2 : (run_l4a (st18_l4a cs os ks gs bs al mo od other)).amps.length = gs.length := q2
  have q3 : (run_l4a (st18_l4a cs os ks gs bs al mo od other)).b.length = gs.length := q3
  have q4 : ∀ j, 0 ≤ j → j < (List.length gs : Int) → g4 gs mo (run_l4a (st18_l4a cs os ks gs bs al mo od other)).b (run_l4a (st18_l4a cs os ks gs bs al mo od other)).amps j := q4
  have hE2 : E_l4b (st19_l4b cs os ks gs bs al mo od other) := ⟨rfl, rfl, by show (List.length (rowL cs os ks gs bs) : Int) ≤ 1000; rw [r1]; omega, fun r hr => ⟨(hrr r hr).1, fun m hm => ⟨((hrr r hr).2.1 m hm).1, by
   have := ((hrr r hr).2.1 m hm).2.2
   show m < (List.length (run_l4a (st18_l4a cs os ks gs bs al mo od other)).amps : Int)
   omega⟩⟩⟩
  obtain ⟨_, _, p1⟩ := l4b_fin _ hE2
  refine ⟨⟨hE2, rfl, rfl⟩, fun c4 => (by rw [show exn_l4b (st19_l4b cs os ks gs bs al mo od other) = _ from p1] at c4; cases c4), fun _ => ⟨fun _ => ?_, fun h => by cases h⟩⟩
  have e1 : ((run_l4a (st18_l4a cs os ks gs bs al mo od other)).amps.drop 0).take (run_l4a (st18_l4a cs os ks gs bs al mo od other)).amps.length = (run_l4a (st18_l4a cs os ks gs bs al mo od other)).amps := by rw [List.drop_zero, List.take_length]
  have e2 : ((run_l4a (st18_l4a cs os ks gs bs al mo od other)).b.drop 0).take (run_l4a (st18_l4a cs os ks gs bs al mo od other)).b.length = (run_l4a (st18_l4a cs os ks gs bs al mo od other)).b := by rw [List.drop_zero, List.take_length]
  have ol := (isOrd_iff.1 (shOk_iff.1 hk).2.2.2.2.2).1
  have em : (run_l4a (st18_l4a cs os ks gs bs al mo od other)).amps = amsL gs (run_l4a (st18_l4a cs os ks gs bs al mo od other)).b := ams_ext q2 fun j h0 h1 => (q4 j h0 h1).2.1
  rw [e1, e2]
  refine ⟨by omega, ⟨by rw [r1]; omega, fun r hr => ?_⟩, fun c5 => rfl, fun c5 => ?_⟩
  ·rw [em]
   exact (rf_ok hk).rowR (ams_ok H ⟨q3, fun j h0 h1 => (q4 j h0 h1).1⟩) r (by rw [← r1]; exact hr)
  have c5 := nf c5
  rw [r1] at c5
  have hb := g4_best H q2 q4 c5
  rw [lvq]
  exact ⟨by omega, ⟨by omega, fun i hi => ⟨(H.ord i hi).1, by rw [q3]; exact (H.ord i hi).2, by rw [lvF_len]; exact (H.ord i hi).2⟩⟩, congrArg (fun z => LV.v (.bool z)) (decide_eq_true hb)⟩
 ·cases h)
end Go.Proofs.Ytihbikkkmoaljaa
