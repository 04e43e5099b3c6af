/- The reference: limits. -/
import Derived.Test.YtihbikkkmoaljaaEc
namespace Go.Proofs.Ytihbikkkmoaljaa
open Go.Sx
def S0_r7v : List LV → T LV
 | [.v (.agg ⟨[.int .i64 am, .int .i64 mo, .int .i64 ga, .int .i64 lo, .int .i64 de]⟩)] => .ok (.v (.bool (cbV (am, mo, ga, lo, de))))
 | _ => .no
noncomputable def S_r7v : List LV → T LV := upS Try.prog Try.f77.params.toList S0_r7v
noncomputable def gam50 : Specs := specsOf []
theorem gok50 : ∀ g S, gam50 g = some S → Valid Try.prog noGlobs g S := specs_ok (l := []) trivial
theorem nf_r7v (am mo ga lo de : Int) : funu Try.prog noGlobs (gam50) noK noLoops Try.f77 [.v (.agg #[.int .i64 am, .int .i64 mo, .int .i64 ga, .int .i64 lo, .int .i64 de])] = .ok (.v (.bool (((am == 0) && ((mo == 0) && ((ga == 0) && ((lo == 0) && (de == 0))))) || ((decide (am ≥ 0)) && ((decide (am < mo)) && ((decide (mo ≤ 200000)) && ((decide (ga ≥ 0)) && ((decide (ga ≤ 1000)) && ((decide (lo ≥ 0)) && ((decide (lo ≤ 1000)) && ((decide (de ≥ 1)) && (decide (de ≤ 1000000))))))))))))) := by kernel_rfl
theorem v_r7v : Valid Try.prog noGlobs 77 S_r7v := valid_ofu Try.func77 rfl gok50 noK_sound (no_loops (by kernel_rfl)) (fun args lv h => by
 unfold S0_r7v at h
 split at h
 ·simp only [canL, canX]
  rw [nf_r7v]
  rename_i am mo ga lo de
  obtain rfl := h
  refine congrArg (fun z => LV.v (.bool z)) ?_
  unfold cbV cbZ
  simp only
  congr 1
  rw [Bool.eq_iff_iff]
  simp only [Bool.and_eq_true, inB_iff, decide_eq_true_eq]
  omega
 ·cases h)
structure L_r7p where
 i : Int
 am : Int
 mo : Int
 ga : Int
 lo : Int
 de : Int
def A_r7p (s : L_r7p) : List LV := [.own 0 0, .v (.int .i64 s.i)]
def B_r7p (s : L_r7p) : List Blk := [⟨[.v (.int .i64 s.am), .v (.int .i64 s.mo), .v (.int .i64 s.ga), .v (.int .i64 s.lo), .v (.int .i64 s.de)], 79, .cl, false⟩]
noncomputable def body_r7p : Code := ((loopsIn (Try.f64.body.getD .skip))[0]?).getD .skip
def t_r7p (s : L_r7p) : T (Rd L_r7p) :=
 .br ((decide (s.i < 1000)) && (decide ((IntKind.i64.wrap ((IntKind.i64.wrap (s.ga * (IntKind.i64.wrap (s.i + 1)))) * (IntKind.i64.wrap (s.i + 1)))) ≤ (IntKind.i64.wrap ((if s.de < s.lo then s.de else s.lo) * (IntKind.i64.wrap (s.mo - s.am))))))) (.ok (.next { s with i := (IntKind.i64.wrap (s.i + 1)) })) (.ok (.stop (.exit 0) s))
abbrev f_r7p (s : L_r7p) := (t_r7p s).rd s
def E_r7p (s : L_r7p) : Prop := s.i = 0 ∧ (0 ≤ s.am ∧ s.am < s.mo ∧ s.mo ≤ 200000) ∧ (0 ≤ s.ga ∧ s.ga ≤ 1000) ∧ (0 ≤ s.lo ∧ s.lo ≤ 1000) ∧ 1 ≤ s.de ∧ s.de ≤ 1000000
def I_r7p (s : L_r7p) : Prop := (0 ≤ s.i ∧ s.i ≤ 1000) ∧ s.ga * s.i * s.i ≤ ((if s.de < s.lo then s.de else s.lo) * (s.mo - s.am)) ∧ (0 ≤ s.am ∧ s.am < s.mo ∧ s.mo ≤ 200000) ∧ (0 ≤ s.ga ∧ s.ga ≤ 1000) ∧ (0 ≤ s.lo ∧ s.lo ≤ 1000) ∧ 1 ≤ s.de ∧ s.de ≤ 1000000
def mu_r7p (s : L_r7p) : Nat := (1000 - s.i).toNat
def Q_r7p (x : Ex) (_ s' : L_r7p) : Prop := x = .exit 0 ∧ s'.i = prm s'.ga ((if s'.de < s'.lo then s'.de else s'.lo) * (s'.mo - s'.am))
theorem r7p_E : ∀ s, E_r7p s → I_r7p s := by
 intro s h
 obtain ⟨h0, h1, h2, h3, h4, h5⟩ := h
 refine ⟨by omega, ?_, h1, h2, h3, h4, h5⟩
 rw [h0]
 have : 0 ≤ (if s.de < s.lo then s.de else s.lo) * (s.mo - s.am) := Int.mul_nonneg (by split <;> omega) (by omega)
 simpa using this
theorem r7p_da (s : L_r7p) (hI : I_r7p s) : allR (fun s' => I_r7p s' ∧ mu_r7p s' < mu_r7p s) (fun x s' => Q_r7p x s s') (f_r7p s) := by
 unfold f_r7p t_r7p
 dsimp only [T.rd, T.rl]
 obtain ⟨⟨h0, h1⟩, h2, h3, ⟨h4, h5⟩, h6, h7, h8⟩ := hI
 have hm : 0 ≤ (if s.de < s.lo then s.de else s.lo) ∧ (if s.de < s.lo then s.de else s.lo) ≤ 1000 := by split <;> omega
 have em : IntKind.i64.wrap ((if s.de < s.lo then s.de else s.lo) * (IntKind.i64.wrap (s.mo - s.am))) = ((if s.de < s.lo then s.de else s.lo) * (s.mo - s.am)) := by
  rw [wrapS (x := s.mo - s.am) (by omega) (by omega)]
  have a1 : 0 ≤ (if s.de < s.lo then s.de else s.lo) * (s.mo - s.am) := Int.mul_nonneg hm.1 (by omega)
  have a2 : (if s.de < s.lo then s.de else s.lo) * (s.mo - s.am) ≤ 1000 * (s.mo - s.am) := Int.mul_le_mul_of_nonneg_right hm.2 (by omega)
  rw [wrapS (by omega) (by omega)]
 rw [em]
 generalize hRO : ((if s.de < s.lo then s.de else s.lo) * (s.mo - s.am)) = ro at h2 ⊢
 rw [wrapS (x := s.i + 1) (by omega) (by omega)]
 refine allR_ite (fun c1 => ?_) (fun c1 => ?_)
 ·rw [Bool.and_eq_true, decide_eq_true_eq, decide_eq_true_eq] at c1
  obtain ⟨c1, c2⟩ := c1
  obtain ⟨⟨b1, b2⟩, b3, b4⟩ := sq_bd h4 h5 (m := s.i + 1) (by omega) (by omega)
  rw [wrapS (x := s.ga * (s.i + 1)) (by omega) (by omega), wrapS (x := s.ga * (s.i + 1) * (s.i + 1)) (by omega) (by omega)] at c2
  refine ⟨⟨⟨by simp only; omega, by simp only; omega⟩, ?_, h3, ⟨h4, h5⟩, h6, h7, h8⟩, by simp only [mu_r7p]; omega⟩
  show s.ga * (s.i + 1) * (s.i + 1) ≤ ((if s.de < s.lo then s.de else s.lo) * (s.mo - s.am))
  rw [hRO]
  exact c2
 ·refine ⟨rfl, ?_⟩
  show s.i = prm s.ga ((if s.de < s.lo then s.de else s.lo) * (s.mo - s.am))
  rw [hRO]
  refine (prmN_eq (k := 1000) h0 (by omega) (.inr h2) (fun a ha hk => ?_)).symm
  obtain ⟨⟨b1, b2⟩, b3, b4⟩ := sq_bd h4 h5 (m := s.i + 1) (by omega) (by omega)
  rw [wrapS (x := s.ga * (s.i + 1)) (by omega) (by omega), wrapS (x := s.ga * (s.i + 1) * (s.i + 1)) (by omega) (by omega), decide_eq_true (show s.i < 1000 by omega), Bool.true_and, decide_eq_false_iff_not] at c1
  have := sq_mono h4 (a := s.i + 1) (b := a) (by omega) (by omega)
  omega
def D_r7p : LpD L_r7p := ⟨0, 38, [1, 4], [], A_r7p, B_r7p, fun v b => ⟨gI (v.getD 1 .junk), gI (gCe (gBk b 0) 0), gI (gCe (gBk b 0) 1), gI (gCe (gBk b 0) 2), gI (gCe (gBk b 0) 3), gI (gCe (gBk b 0) 4)⟩, t_r7p, fun s r => { r with am := s.am, mo := s.mo, ga := s.ga, lo := s.lo, de := s.de }, fun s => s, fun _ s => s, [.exit 0], E_r7p, I_r7p, mu_r7p⟩
abbrev run_r7p := D_r7p.run
abbrev exn_r7p := D_r7p.exn
abbrev E_r7pq := D_r7p.q
theorem rq_r7p (s : L_r7p) (_ : I_r7p s) : (t_r7p s).all (fun _ => True) := by
 exact ⟨fun _ => trivial, fun _ => trivial⟩
noncomputable def gam51 : Specs := specsOf [(77, S_r7v)]
theorem gok51 : ∀ g S, gam51 g = some S → Valid Try.prog noGlobs g S := specs_ok (l := [(77, S_r7v)]) ⟨v_r7v, trivial⟩
theorem ok_r7p : D_r7p.Ok := ⟨fun s => by kernel_rfl, fun s => by kernel_rfl, fun s => rfl, fun s t r => rfl, fun s => rfl, fun s => by kernel_rfl⟩
theorem pf_r7p : D_r7p.Pf (Q_r7p) := ⟨r7p_E, fun _ _ => rfl, r7p_da, rq_r7p⟩
theorem snd_r7p : SoundA Try.prog noGlobs (AN 0) (.loop body_r7p) D_r7p.lp := LpD.snd ok_r7p pf_r7p (code_sound (Γ := gam51) (K := noK) (L := noLoops) gok51 noK_sound body_r7p (fun b hb => by rw [show loopsIn body_r7p = [] by kernel_rfl] at hb; cases hb)) (fun s => by kernel_rfl)
theorem r7p_fin (s : L_r7p) (hE : E_r7p s) : ∃ s', I_r7p s' ∧ Q_r7p (exn_r7p s) s' (run_r7p s) := LpD.fin ok_r7p pf_r7p s hE
def S0_r7pm : List LV → T LV
 | [.v (.agg ⟨[.int .i64 am, .int .i64 mo, .int .i64 ga, .int .i64 lo, .int .i64 de]⟩)] => .ok (.v (.tuple #[.int .i64 (pmA (am, mo, ga, lo, de)), .int .i64 (pmE (am, mo, ga, lo, de))]))
 | _ => .no
noncomputable def S_r7pm : List LV → T LV := upS Try.prog Try.f64.params.toList S0_r7pm
theorem nf_r7pm (am mo ga lo de : Int) : funu Try.prog noGlobs (gam51) noK (fun i => if i = 6 then D_r7p.lp else noLoops i) Try.f64 [.v (.agg #[.int .i64 am, .int .i64 mo, .int .i64 ga, .int .i64 lo, .int .i64 de])] = .br (!(cbV (am, mo, ga, lo, de))) (.ok (.v (.tuple #[.int .i64 0, .int .i64 1]))) (.br ((am == 0) && ((mo == 0) && ((ga == 0) && ((lo == 0) && (de == 0))))) (.ok (.v (.tuple #[.int .i64 1000, .int .i64 0]))) (.req (E_r7pq (⟨(0 : Int), am, mo, ga, lo, de⟩ : L_r7p)) (.ok (.v (.tuple #[.int .i64 (run_r7p (⟨(0 : Int), am, mo, ga, lo, de⟩ : L_r7p)).i, .int .i64 0]))))) := by kernel_rfl
theorem v_r7pm : Valid Try.prog noGlobs 64 S_r7pm := valid_ofu Try.func64 rfl gok51 noK_sound (L := (fun i => if i = 6 then D_r7p.lp else noLoops i)) (fun b hb => by
 rw [show loopsIn _ = [body_r7p] by kernel_rfl] at hb
 simp only [List.mem_cons, List.not_mem_nil, or_false] at hb
 subst hb
 exact snd_r7p) (fun args lv h => by
 unfold S0_r7pm at h
 split at h
 ·simp only [canL, canX]
  rw [nf_r7pm]
  rename_i am mo ga lo de
  obtain rfl := h
  refine ⟨fun c => ?_, fun c => ⟨fun c2 => ?_, fun c2 => ?_⟩⟩
  ·have c : cbV (am, mo, ga, lo, de) = false := by simpa using c
   simp [T.all, pmA, pmE, c]
  ·have c : cbV (am, mo, ga, lo, de) = true := by simpa using c
   have c2 : cbZ (am, mo, ga, lo, de) = true := c2
   simp [T.all, pmA, pmE, c, c2]
  ·have c : cbV (am, mo, ga, lo, de) = true := by simpa using c
   have c2 : cbZ (am, mo, ga, lo, de) = false := c2
   obtain ⟨⟨h1, h2, h3⟩, ⟨h4, h5⟩, ⟨h6, h7⟩, h8, h9⟩ := cbV_bd c c2
   refine andI ⟨⟨rfl, ⟨h1, h2, h3⟩, ⟨h4, h5⟩, ⟨h6, h7⟩, h8, h9⟩, rfl, rfl⟩ (fun hE => ?_)
   obtain ⟨s', _, q1, q2⟩ := r7p_fin _ hE.1
   have e : pmA (am, mo, ga, lo, de) = prm ga ((if de < lo then de else lo) * (mo - am)) := by
    unfold pmA
    rw [if_pos c, if_neg (by rw [c2]; simp)]
   have e2 : pmE (am, mo, ga, lo, de) = 0 := by
    unfold pmE
    rw [if_pos c]
   rw [e, e2, q2]
   exact rfl
 ·cases h)
def S0_r9of : List LV → T LV
 | [.v (.agg ⟨[.string nm, .int .i64 up_, .int .i64 li, .int .i64 ne, .int .i64 ra, .int .i64 he, .int .i64 am, .int .i64 mo, .int .i64 ga, .int .i64 lo, .int .i64 de]⟩)] => .ok (.v (.int .i64 (limF (nm, up_, li, ne, (ra, he), am, mo, ga, lo, de))))
 | _ => .no
noncomputable def S_r9of : List LV → T LV := upS Try.prog Try.f48.params.toList S0_r9of
noncomputable def gam52 : Specs := specsOf [(64, S_r7pm)]
theorem gok52 : ∀ g S, gam52 g = some S → Valid Try.prog noGlobs g S := specs_ok (l := [(64, S_r7pm)]) ⟨v_r7pm, trivial⟩
theorem nf_r9of (nm : ByteArray) (up_ li ne ra he am mo ga lo de : Int) : funu Try.prog noGlobs (gam52) noK noLoops Try.f48 [.v (.agg #[.string nm, .int .i64 up_, .int .i64 li, .int .i64 ne, .int .i64 ra, .int .i64 he, .int .i64 am, .int .i64 mo, .int .i64 ga, .int .i64 lo, .int .i64 de])] = .br (ra != 0) (.ok (.v (.int .i64 (if ra < (if ne < (if li < (pmA (am, mo, ga, lo, de)) then li else pmA (am, mo, ga, lo, de)) then ne else if li < (pmA (am, mo, ga, lo, de)) then li else pmA (am, mo, ga, lo, de)) then ra else if ne < (if li < (pmA (am, mo, ga, lo, de)) then li else pmA (am, mo, ga, lo, de)) then ne else if li < (pmA (am, mo, ga, lo, de)) then li else pmA (am, mo, ga, lo, de))))) (.ok (.v (.int .i64 (if ne < (if li < (pmA (am, mo, ga, lo, de)) then li else pmA (am, mo, ga, lo, de)) then ne else if li < (pmA (am, mo, ga, lo, de)) then li else pmA (am, mo, ga, lo, de))))) := by kernel_rfl
theorem v_r9of : Valid Try.prog noGlobs 48 S_r9of := valid_ofu Try.func48 rfl gok52 noK_sound (no_loops (by kernel_rfl)) (fun args lv h => by
 unfold S0_r9of at h
 split at h
 ·simp only [canL, canX]
  rw [nf_r9of]
  rename_i nm up_ li ne ra he am mo ga lo de
  obtain rfl := h
  unfold limF lsF
  simp only [List.foldl]
  generalize pmA (am, mo, ga, lo, de) = w
  refine ⟨fun c => ?_, fun c => ?_⟩
  ·have c : ¬ ra = 0 := by simpa using c
   rw [if_neg c]
   refine congrArg (fun z => LV.v (.int .i64 z)) ?_
   repeat' split
   all_goals omega
  ·have c : ra = 0 := by simpa using c
   rw [if_pos c]
   refine congrArg (fun z => LV.v (.int .i64 z)) ?_
   repeat' split
   all_goals omega
 ·cases h)
structure L_r8o where
 o : Int
 c : Int
 r : Bool
 cs : List (ByteArray × (Int × (Int × (Int × ((Int × Int) × (Int × (Int × (Int × (Int × Int)))))))))
 os : List ByteArray
 ks : List (ByteArray × (Int × (Int × Int)))
 gs : List (ByteArray × (Int × (Int × (Int × (Int × (Int × (Int × Int)))))))
 bs : List (ByteArray × Int)
def A_r8o (s : L_r8o) : List LV := [.v (.int .i64 s.o), .v (.int .i64 s.c), .own 0 0, .v (.bool s.r)]
def B_r8o (s : L_r8o) : List Blk := [⟨[.xl tCd s.cs, .xl .str s.os, .xl tKo s.ks, .xl tCh s.gs, .xl tBa s.bs], 30, .cl, false⟩]
noncomputable def body_r8o : Code := ((loopsIn (Try.f49.body.getD .skip))[0]?).getD .skip
def t_r8o (s : L_r8o) : T (Rd L_r8o) :=
 .br (decide (s.c ≥ 0)) (.br (s.c == s.o) (.ok (.stop (.ret) { s with r := true })) (.req (0 ≤ s.c ∧ s.c < (List.length s.cs : Int)) (.ok (.next { s with c := (gCd s.cs s.c).2.1 })))) (.ok (.stop (.exit 0) s))
abbrev f_r8o (s : L_r8o) := (t_r8o s).rd s
def E_r8o (s : L_r8o) : Prop := upB s.cs = true ∧ s.c < (s.cs.length : Int)
def I_r8o (s : L_r8o) : Prop := upB s.cs = true ∧ s.c < (s.cs.length : Int)
def mu_r8o (s : L_r8o) : Nat := (s.c + 1).toNat
def Q_r8o (_ : Ex) (_ _ : L_r8o) : Prop := True
theorem r8o_E : ∀ s, E_r8o s → I_r8o s := by
 intro s h
 exact h
theorem r8o_da (s : L_r8o) (hI : I_r8o s) : allR (fun s' => I_r8o s' ∧ mu_r8o s' < mu_r8o s) (fun x s' => Q_r8o x s s') (f_r8o s) := by
 unfold f_r8o t_r8o
 dsimp only [T.rd, T.rl]
 obtain ⟨h1, h2⟩ := hI
 refine allR_ite (fun c1 => allR_ite (fun c2 => trivial) (fun c2 => ?_)) (fun c1 => trivial)
 have c1 : 0 ≤ s.c := by simpa using c1
 have := upB_lt h1 c1 h2
 exact ⟨⟨h1, by simp only; omega⟩, by simp only [mu_r8o]; omega⟩
def D_r8o : LpD L_r8o := ⟨0, 18, [1, 2, 3, 6], [], A_r8o, B_r8o, fun v b => ⟨gI (v.getD 0 .junk), gI (v.getD 1 .junk), gBo (v.getD 3 .junk), gXl tCd (gCe (gBk b 0) 0), gXl .str (gCe (gBk b 0) 1), gXl tKo (gCe (gBk b 0) 2), gXl tCh (gCe (gBk b 0) 3), gXl tBa (gCe (gBk b 0) 4)⟩, t_r8o, fun s r => { r with o := s.o, cs := s.cs, os := s.os, ks := s.ks, gs := s.gs, bs := s.bs }, fun s => s, fun _ s => s, [.ret, .exit 0], E_r8o, I_r8o, mu_r8o⟩
abbrev run_r8o := D_r8o.run
abbrev exn_r8o := D_r8o.exn
abbrev E_r8oq := D_r8o.q
theorem rq_r8o (s : L_r8o) (hI : I_r8o s) : (t_r8o s).all (fun _ => True) := by
 refine ⟨fun c1 => ⟨fun _ => trivial, fun c2 => ⟨?_, trivial⟩⟩, fun _ => trivial⟩
 ·(obtain ⟨h1, h2⟩ := hI; simp at c1; exact ⟨c1, h2⟩)
theorem ok_r8o : D_r8o.Ok := ⟨fun s => by kernel_rfl, fun s => by kernel_rfl, fun s => rfl, fun s t r => rfl, fun s => rfl, fun s => by kernel_rfl⟩
theorem pf_r8o : D_r8o.Pf (Q_r8o) := ⟨r8o_E, fun _ _ => rfl, r8o_da, rq_r8o⟩
theorem snd_r8o : SoundA Try.prog noGlobs (AN 0) (.loop body_r8o) D_r8o.lp := LpD.snd ok_r8o pf_r8o (code_sound (Γ := gam50) (K := noK) (L := noLoops) gok50 noK_sound body_r8o (fun b hb => by rw [show loopsIn body_r8o = [] by kernel_rfl] at hb; cases hb)) (fun s => by kernel_rfl)
theorem r8o_fin (s : L_r8o) (hE : E_r8o s) : ∃ s', I_r8o s' ∧ Q_r8o (exn_r8o s) s' (run_r8o s) := LpD.fin ok_r8o pf_r8o s hE
theorem r8o_res (s : L_r8o) (hE : E_r8o s) : (fun (x : Ex) (s' : L_r8o) (v : Bool) => (x = .ret ∧ s'.r = true ∧ v = true) ∨ (x = .exit 0 ∧ v = false)) (exn_r8o s) (run_r8o s) ((fun s : L_r8o => onP s.cs s.o s.c) s) := by
 exact LpD.finV ok_r8o pf_r8o (fun s : L_r8o => onP s.cs s.o s.c) (fun x s' v => (x = .ret ∧ s'.r = true ∧ v = true) ∨ (x = .exit 0 ∧ v = false)) (fun s hI => by
  show allR _ _ (f_r8o s)
  unfold f_r8o t_r8o
  dsimp only [T.rd, T.rl]
  obtain ⟨h1, h2⟩ := hI
  have hp := onP_eq (o := s.o) h1 h2
  refine allR_ite (fun c1 => allR_ite (fun c2 => ?_) (fun c2 => ?_)) (fun c1 => ?_)
  ·have c1 : 0 ≤ s.c := by simpa using c1
   exact .inl ⟨rfl, rfl, by rw [hp, if_pos c1, c2]; rfl⟩
  ·have c1 : 0 ≤ s.c := by simpa using c1
   show onP _ _ _ = onP _ _ _
   rw [hp, if_pos c1, c2, Bool.false_or]
  ·have c1 : ¬ (0 ≤ s.c) := by simpa using c1
   exact .inr ⟨rfl, by rw [hp, if_neg c1]⟩) s hE
def S0_r8on : List LV → T LV
 | [.agg [.xl (.pair .str (.pair (.int .i64) (.pair (.int .i64) (.pair (.int .i64) (.pair (.pair (.int .i64) (.int .i64)) (.pair (.int .i64) (.pair (.int .i64) (.pair (.int .i64) (.pair (.int .i64) (.int .i64)))))))))) cs, .xl (.str) _, .xl (.pair .str (.pair (.int .i64) (.pair (.int .i64) (.int .i64)))) _, .xl (.pair .str (.pair (.int .i64) (.pair (.int .i64) (.pair (.int .i64) (.pair (.int .i64) (.pair (.int .i64) (.pair (.int .i64) (.int .i64)))))))) _, .xl (.pair .str (.int .i64)) _], .v (.int .i64 o), .v (.int .i64 c)] => .req (upB cs = true ∧ c < (List.length cs : Int)) (.ok (.v (.bool (onP cs o c))))
 | _ => .no
noncomputable def S_r8on : List LV → T LV := upS Try.prog Try.f49.params.toList S0_r8on
theorem nf_r8on (cs : List (ByteArray × (Int × (Int × (Int × ((Int × Int) × (Int × (Int × (Int × (Int × Int)))))))))) (os : List ByteArray) (ks : List (ByteArray × (Int × (Int × Int)))) (gs : List (ByteArray × (Int × (Int × (Int × (Int × (Int × (Int × Int)))))))) (bs : List (ByteArray × Int)) (o c : Int) : funu Try.prog noGlobs (gam50) noK (fun i => if i = 1 then D_r8o.lp else noLoops i) Try.f49 [.agg [.xl tCd cs, .xl .str os, .xl tKo ks, .xl tCh gs, .xl tBa bs], .v (.int .i64 o), .v (.int .i64 c)] = .req (E_r8oq (⟨o, c, false, cs, os, ks, gs, bs⟩ : L_r8o)) (.br (isEx (exn_r8o (⟨o, c, false, cs, os, ks, gs, bs⟩ : L_r8o)) (.ret)) (.ok (.v (.bool (run_r8o (⟨o, c, false, cs, os, ks, gs, bs⟩ : L_r8o)).r))) (.ok (.v (.bool false)))) := by kernel_rfl
theorem v_r8on : Valid Try.prog noGlobs 49 S_r8on := valid_ofu Try.func49 rfl gok50 noK_sound (L := (fun i => if i = 1 then D_r8o.lp else noLoops i)) (fun b hb => by
 rw [show loopsIn _ = [body_r8o] by kernel_rfl] at hb
 simp only [List.mem_cons, List.not_mem_nil, or_false] at hb
 subst hb
 exact snd_r8o) (fun args lv h => by
 unfold S0_r8on at h
 split at h
 ·simp only [canL, canX]
  rw [nf_r8on]
  obtain ⟨⟨hu, hc⟩, rfl⟩ := h
  refine andI ⟨⟨hu, hc⟩, rfl, rfl⟩ (fun hE => ?_)
  rcases r8o_res _ hE.1 with ⟨h1, h2, h3⟩ | ⟨h1, h2⟩
  ·rw [h1, h2]
   exact ⟨fun _ => congrArg (fun z => LV.v (.bool z)) h3.symm, fun h => by cases h⟩
  ·rw [h1]
   exact ⟨fun h => (by cases h), fun _ => congrArg (fun z => LV.v (.bool z)) h2.symm⟩
 ·cases h)
def S0_r8us : List LV → T LV
 | [.v (.agg ⟨[.string _, .int .i64 _, .int .i64 ph, .int .i64 _, .int .i64 _, .int .i64 _, .int .i64 _, .int .i64 _]⟩), .v (.int .i64 p)] => .ok (.v (.bool (usR ph p)))
 | _ => .no
noncomputable def S_r8us : List LV → T LV := upS Try.prog Try.f50.params.toList S0_r8us
theorem nf_r8us (nm : ByteArray) (at_ ph mi ma st fb ow p : Int) : funu Try.prog noGlobs (gam50) noK noLoops Try.f50 [.v (.agg #[.string nm, .int .i64 at_, .int .i64 ph, .int .i64 mi, .int .i64 ma, .int .i64 st, .int .i64 fb, .int .i64 ow]), .v (.int .i64 p)] = .br (p == 0) (.req ((2 : Int) ≠ 0) (.ok (.v (.bool ((ph.tmod 2) == 1))))) (.br (p == 1) (.req ((2 : Int) ≠ 0) (.req ((2 : Int) ≠ 0) (.ok (.v (.bool (((IntKind.i64.wrap (ph.tdiv 2)).tmod 2) == 1)))))) (.req ((4 : Int) ≠ 0) (.req ((2 : Int) ≠ 0) (.ok (.v (.bool (((IntKind.i64.wrap (ph.tdiv 4)).tmod 2) == 1))))))) := by kernel_rfl
theorem v_r8us : Valid Try.prog noGlobs 50 S_r8us := valid_ofu Try.func50 rfl gok50 noK_sound (no_loops (by kernel_rfl)) (fun args lv h => by
 unfold S0_r8us at h
 split at h
 ·simp only [canL, canX]
  rw [nf_r8us]
  rename_i ph _ _ _ _ _ p
  obtain rfl := h
  unfold usR
  refine ⟨fun c => ⟨by decide, ?_⟩, fun c => ⟨fun c2 => ⟨by decide, by decide, ?_⟩, fun c2 => ⟨by decide, by decide, ?_⟩⟩⟩
  ·rw [if_pos (by simpa using c)]; exact rfl
  ·rw [if_neg (by simpa using c), if_pos (by simpa using c2)]; exact rfl
  ·rw [if_neg (by simpa using c), if_neg (by simpa using c2)]; exact rfl
 ·cases h)
structure L_r8c where
 l : List Int
 r : Bool
 i : Int
 s_Conductors : List (ByteArray × (Int × (Int × (Int × ((Int × Int) × (Int × (Int × (Int × (Int × Int)))))))))
 s_Owners : List ByteArray
 s_Contracts : List (ByteArray × (Int × (Int × Int)))
 s_Chargers : List (ByteArray × (Int × (Int × (Int × (Int × (Int × (Int × Int)))))))
 s_Bays : List (ByteArray × Int)
def A_r8c (s : L_r8c) : List LV := [.xl (.int .i64) s.l, .own 0 0, .v (.bool s.r), .v (.int .i64 s.i)]
def B_r8c (s : L_r8c) : List Blk := [⟨[.xl tCd s.s_Conductors, .xl .str s.s_Owners, .xl tKo s.s_Contracts, .xl tCh s.s_Chargers, .xl tBa s.s_Bays], 30, .cl, false⟩]
noncomputable def body_r8c : Code := ((loopsIn (Try.f37.body.getD .skip))[0]?).getD .skip
def t_r8c (s : L_r8c) : T (Rd L_r8c) :=
 .br (decide (s.i < (List.length s.l : Int))) (.req (0 ≤ s.i ∧ s.i < (List.length s.l : Int)) (.br (decide ((gi s.l s.i) < 0)) (.ok (.stop (.ret) { s with r := false })) (.req (0 ≤ s.i ∧ s.i < (List.length s.l : Int)) (.br (decide ((gi s.l s.i) > 80)) (.ok (.stop (.ret) { s with r := false })) (.ok (.next { s with i := (IntKind.i64.wrap (s.i + 1)) })))))) (.ok (.stop (.exit 0) s))
abbrev f_r8c (s : L_r8c) := (t_r8c s).rd s
def G_r8c (s : L_r8c) (j : Int) : Bool := curB (gi s.l j)
def E_r8c (s : L_r8c) : Prop := s.i = 0 ∧ 0 ≤ (List.length s.l : Int) ∧ (List.length s.l : Int) ≤ 1000 ∧ True
def I_r8c (s : L_r8c) : Prop := 0 ≤ s.i ∧ s.i ≤ (List.length s.l : Int) ∧ (List.length s.l : Int) ≤ 1000 ∧ (True) ∧ ∀ j : Nat, (j : Int) < s.i → G_r8c s j = true
def mu_r8c (s : L_r8c) : Nat := ((List.length s.l : Int) - s.i).toNat
def Q_r8c (x : Ex) (_ s' : L_r8c) : Prop := (x = .exit 0 ∧ ∀ j : Nat, (j : Int) < (List.length s'.l : Int) → G_r8c s' j = true) ∨ (x = .ret ∧ s'.r = false ∧ ∃ j : Nat, (j : Int) < (List.length s'.l : Int) ∧ G_r8c s' j = false)
theorem r8c_E : ∀ s, E_r8c s → I_r8c s := by
 intro s h
 obtain ⟨h0, h1, h2, h3⟩ := h
 exact ⟨by omega, by omega, h2, h3, fun j hj => by omega⟩
theorem r8c_da (s : L_r8c) (hI : I_r8c s) : allR (fun s' => I_r8c s' ∧ mu_r8c s' < mu_r8c s) (fun x s' => Q_r8c x s s') (f_r8c s) := by
 unfold f_r8c t_r8c
 dsimp only [T.rd, T.rl]
 obtain ⟨h0, h1, h2, h3, h4⟩ := hI
 refine allR_ite (fun c1 => allR_ite (fun c2 => ?_) (fun c2 => allR_ite (fun c3 => ?_) (fun c3 => ?_))) (fun c1 => ?_)
 ·have c1 : s.i < (List.length s.l : Int) := by simpa using c1
  refine .inr ⟨rfl, rfl, s.i.toNat, by simp only; omega, ?_⟩
  rw [Int.toNat_of_nonneg (by omega)]
  have hg : G_r8c s s.i = false := by unfold G_r8c; (unfold curB; simp only [decide_eq_true_eq] at *; first | (rw [Bool.and_eq_true, decide_eq_true_eq, decide_eq_true_eq]; omega) | (rw [Bool.and_eq_false_iff, decide_eq_false_iff_not, decide_eq_false_iff_not]; omega))
  exact hg
 ·have c1 : s.i < (List.length s.l : Int) := by simpa using c1
  refine .inr ⟨rfl, rfl, s.i.toNat, by simp only; omega, ?_⟩
  rw [Int.toNat_of_nonneg (by omega)]
  have hg : G_r8c s s.i = false := by unfold G_r8c; (unfold curB; simp only [decide_eq_true_eq, decide_eq_false_iff_not] at *; first | (rw [Bool.and_eq_true, decide_eq_true_eq, decide_eq_true_eq]; omega) | (rw [Bool.and_eq_false_iff, decide_eq_false_iff_not, decide_eq_false_iff_not]; omega))
  exact hg
 ·have c1 : s.i < (List.length s.l : Int) := by simpa using c1
  have hg : G_r8c s s.i = true := by unfold G_r8c; (unfold curB; simp only [decide_eq_true_eq, decide_eq_false_iff_not] at *; first | (rw [Bool.and_eq_true, decide_eq_true_eq, decide_eq_true_eq]; omega) | (rw [Bool.and_eq_false_iff, decide_eq_false_iff_not, decide_eq_false_iff_not]; omega))
  rw [wrapS (x := s.i + 1) (by omega) (by omega)]
  refine ⟨⟨by simp only; omega, by simp only; omega, h2, h3, fun j hj => ?_⟩, by simp only [mu_r8c]; omega⟩
  by_cases hji : (j : Int) < s.i
  ·exact h4 j hji
  ·have : (j : Int) = s.i := by simp only at hj; omega
   rw [this]; exact hg
 ·have c1 : (List.length s.l : Int) ≤ s.i := by simpa using c1
  exact .inl ⟨rfl, fun j hj => h4 j (by omega)⟩
def D_r8c : LpD L_r8c := ⟨0, 30, [1, 2, 4, 5], [], A_r8c, B_r8c, fun v b => ⟨gXl (.int .i64) (v.getD 0 .junk), gBo (v.getD 2 .junk), gI (v.getD 3 .junk), gXl tCd (gCe (gBk b 0) 0), gXl .str (gCe (gBk b 0) 1), gXl tKo (gCe (gBk b 0) 2), gXl tCh (gCe (gBk b 0) 3), gXl tBa (gCe (gBk b 0) 4)⟩, t_r8c, fun s r => { r with l := s.l, s_Conductors := s.s_Conductors, s_Owners := s.s_Owners, s_Contracts := s.s_Contracts, s_Chargers := s.s_Chargers, s_Bays := s.s_Bays }, fun s => s, fun _ s => s, [.ret, .exit 0], E_r8c, I_r8c, mu_r8c⟩
abbrev run_r8c := D_r8c.run
abbrev exn_r8c := D_r8c.exn
abbrev E_r8cq := D_r8c.q
theorem rq_r8c (s : L_r8c) (hI : I_r8c s) : (t_r8c s).all (fun _ => True) := by
 refine ⟨fun c1 => ⟨?_, fun _ => trivial, fun c2 => ⟨?_, fun _ => trivial, fun _ => trivial⟩⟩, fun _ => trivial⟩
 all_goals ((obtain ⟨h0, h1, h2, h3, h4⟩ := hI; simp at c1; omega))
theorem ok_r8c : D_r8c.Ok := ⟨fun s => by kernel_rfl, fun s => by kernel_rfl, fun s => rfl, fun s t r => rfl, fun s => rfl, fun s => by kernel_rfl⟩
theorem pf_r8c : D_r8c.Pf (Q_r8c) := ⟨r8c_E, fun _ _ => rfl, r8c_da, rq_r8c⟩
theorem snd_r8c : SoundA Try.prog noGlobs (AN 0) (.loop body_r8c) D_r8c.lp := LpD.snd ok_r8c pf_r8c (code_sound (Γ := gam50) (K := noK) (L := noLoops) gok50 noK_sound body_r8c (fun b hb => by rw [show loopsIn body_r8c = [] by kernel_rfl] at hb; cases hb)) (fun s => by kernel_rfl)
theorem r8c_fin (s : L_r8c) (hE : E_r8c s) : ∃ s', I_r8c s' ∧ Q_r8c (exn_r8c s) s' (run_r8c s) := LpD.fin ok_r8c pf_r8c s hE
def S0_r8cu : List LV → T LV
 | [.agg [.xl (.pair .str (.pair (.int .i64) (.pair (.int .i64) (.pair (.int .i64) (.pair (.pair (.int .i64) (.int .i64)) (.pair (.int .i64) (.pair (.int .i64) (.pair (.int .i64) (.pair (.int .i64) (.int .i64)))))))))) _, .xl (.str) _, .xl (.pair .str (.pair (.int .i64) (.pair (.int .i64) (.int .i64)))) _, .xl (.pair .str (.pair (.int .i64) (.pair (.int .i64) (.pair (.int .i64) (.pair (.int .i64) (.pair (.int .i64) (.pair (.int .i64) (.int .i64)))))))) gs, .xl (.pair .str (.int .i64)) _], .xl (.int .i64) l] => .req ((List.length l : Int) ≤ 1000) (.ok (.v (.bool (l.all curB && ((List.length l : Int) == (List.length gs : Int))))))
 | _ => .no
noncomputable def S_r8cu : List LV → T LV := upS Try.prog Try.f37.params.toList S0_r8cu
theorem nf_r8cu (cs : List (ByteArray × (Int × (Int × (Int × ((Int × Int) × (Int × (Int × (Int × (Int × Int)))))))))) (os : List ByteArray) (ks : List (ByteArray × (Int × (Int × Int)))) (gs : List (ByteArray × (Int × (Int × (Int × (Int × (Int × (Int × Int)))))))) (bs : List (ByteArray × Int)) (l : List Int) : funu Try.prog noGlobs (gam50) noK (fun i => if i = 2 then D_r8c.lp else noLoops i) Try.f37 [.agg [.xl tCd cs, .xl .str os, .xl tKo ks, .xl tCh gs, .xl tBa bs], .xl (.int .i64) l] = .req (E_r8cq (⟨l, false, (0 : Int), cs, os, ks, gs, bs⟩ : L_r8c)) (.br (isEx (exn_r8c (⟨l, false, (0 : Int), cs, os, ks, gs, bs⟩ : L_r8c)) (.ret)) (.ok (.v (.bool (run_r8c (⟨l, false, (0 : Int), cs, os, ks, gs, bs⟩ : L_r8c)).r))) (.ok (.v (.bool ((List.length l : Int) == (List.length gs : Int)))))) := by kernel_rfl
theorem v_r8cu : Valid Try.prog noGlobs 37 S_r8cu := valid_ofu Try.func37 rfl gok50 noK_sound (L := (fun i => if i = 2 then D_r8c.lp else noLoops i)) (fun b hb => by
 rw [show loopsIn _ = [body_r8c] by kernel_rfl] at hb
 simp only [List.mem_cons, List.not_mem_nil, or_false] at hb
 subst hb
 exact snd_r8c) (fun args lv h => by
 unfold S0_r8cu at h
 split at h
 ·simp only [canL, canX]
  rw [nf_r8cu]
  rename_i cs os ks gs bs l
  obtain ⟨hl, rfl⟩ := h
  refine andI ⟨⟨rfl, Int.natCast_nonneg _, hl, trivial⟩, rfl, rfl⟩ (fun hE => ?_)
  obtain ⟨s', _, hq⟩ := r8c_fin _ hE.1
  rcases hq with ⟨q1, q2⟩ | ⟨q1, q2, j, q3, q4⟩
  ·have e : l.all curB = true := (all_iff (d := (0 : Int))).1 fun j hj => q2 j hj
   rw [q1, e, Bool.true_and]
   exact ⟨fun h => (by cases h), fun _ => rfl⟩
  ·have e : l.all curB = false := by
    rw [Bool.eq_false_iff]
    intro hx
    have := (all_iff (d := (0 : Int))).2 hx j q3
    exact Bool.noConfusion (this.symm.trans q4)
   rw [q1, q2, e]
   exact ⟨fun _ => rfl, fun h => by cases h⟩
 ·cases h)
end Go.Proofs.Ytihbikkkmoaljaa
