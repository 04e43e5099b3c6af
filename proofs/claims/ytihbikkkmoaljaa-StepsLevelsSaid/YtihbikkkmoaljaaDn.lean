/- Cables: what is computed, by the executor. -/
import Derived.Test.YtihbikkkmoaljaaDm
namespace Go.Proofs.Ytihbikkkmoaljaa
open Go.Sx
def S0_cval : List LV → T LV
 | [.v (.agg ⟨[.int .i64 am, .int .i64 mo, .int .i64 ga, .int .i64 lo, .int .i64 de]⟩)] => .ok (.v (.bool (cbV (am, mo, ga, lo, de))))
 | _ => .no
noncomputable def S_cval : List LV → T LV := upS Try.prog Try.f72.params.toList S0_cval
noncomputable def gam20 : Specs := specsOf []
theorem gok20 : ∀ g S, gam20 g = some S → Valid Try.prog noGlobs g S := specs_ok (l := []) trivial
noncomputable def hnd21 : Hand := inl Try.prog noGlobs gam20 (unrL Try.prog noGlobs (gam20) 20 2) 9
theorem hok21 : KSound Try.prog noGlobs hnd21 := inl_sound gok20 (unrL_ok gok20) 9
theorem nf_cval (am mo ga lo de : Int) : funu Try.prog noGlobs (gam20) hnd21 noLoops Try.f72 [.v (.agg #[.int .i64 am, .int .i64 mo, .int .i64 ga, .int .i64 lo, .int .i64 de])] = .br ((am == 0) && ((mo == 0) && ((ga == 0) && ((lo == 0) && (de == 0))))) (.ok (.v (.bool true))) (.br ((decide (am ≥ 0)) && (decide (am ≤ 200000))) (.br (decide (mo > am)) (.br (decide (mo ≤ 200000)) (.br ((decide (ga ≥ 0)) && (decide (ga ≤ 1000))) (.br ((decide (lo ≥ 0)) && (decide (lo ≤ 1000))) (.ok (.v (.bool ((decide (de ≥ 1)) && (decide (de ≤ 1000000)))))) (.ok (.v (.bool false)))) (.ok (.v (.bool false)))) (.ok (.v (.bool false)))) (.ok (.v (.bool false)))) (.ok (.v (.bool false)))) := by kernel_rfl
theorem v_cval : Valid Try.prog noGlobs 72 S_cval := valid_ofu Try.func72 rfl gok20 hok21 (no_loops (by kernel_rfl)) (fun args lv h => by
 unfold S0_cval at h
 split at h
 ·simp only [canL, canX]
  rw [nf_cval]
  rename_i am mo ga lo de
  obtain rfl := h
  unfold cbV cbZ
  simp only
  refine ⟨fun c => by rw [c]; rfl, fun c => ?_⟩
  rw [c, Bool.false_or]
  unfold inB
  refine ⟨fun c1 => ⟨fun c2 => ⟨fun c3 => ⟨fun c4 => ⟨fun c5 => ?_, fun c5 => ?_⟩, fun c4 => ?_⟩, fun c3 => ?_⟩, fun c2 => ?_⟩, fun c1 => ?_⟩
  all_goals refine congrArg (fun z => LV.v (.bool z)) ?_
  all_goals
   rw [Bool.eq_iff_iff]
   simp only [Bool.and_eq_true, Bool.and_eq_false_iff, decide_eq_true_eq, decide_eq_false_iff_not, Bool.false_eq_true] at *
   constructor <;> intro hz <;> first | exact hz.elim | (exfalso; omega) | omega
 ·cases h)
def S0_wlos : List LV → T LV
 | [.xq 6 q0] => (match ([q0 0, q0 1, q0 2, q0 3, q0 4, q0 5] : List LV) with
  | [.v (.int .i64 _), .v (.int .i64 _), .v (.int .i64 _), .v (.int .i64 lo), .v (.int .i64 de), .v (.int .i64 _)] => .ok (.v (.int .i64 (if de < lo then de else lo)))
  | _ => .no)
 | _ => .no
noncomputable def S_wlos : List LV → T LV := upS Try.prog Try.f74.params.toList S0_wlos
theorem nf_wlos (am mo ga lo de now : Int) : funu Try.prog noGlobs (gam20) noK noLoops Try.f74 [.xq 6 (fun j => ([.v (.int .i64 am), .v (.int .i64 mo), .v (.int .i64 ga), .v (.int .i64 lo), .v (.int .i64 de), .v (.int .i64 now)] : List LV).getD j .junk)] = .ok (.v (.int .i64 (if de < lo then de else lo))) := by kernel_rfl
theorem v_wlos : Valid Try.prog noGlobs 74 S_wlos := valid_ofu Try.func74 rfl gok20 noK_sound (no_loops (by kernel_rfl)) (fun args lv h => by
 unfold S0_wlos at h
 split at h
 ·split at h
  case h_2 => cases h
  rename_i heq0
  simp only [canL, canX]
  rw [show (List.range 6).map _ = _ from heq0]
  rw [nf_wlos]
  exact h
 ·cases h)
def S0_wnon : List LV → T LV
 | [.xq 6 q0] => (match ([q0 0, q0 1, q0 2, q0 3, q0 4, q0 5] : List LV) with
  | [.v (.int .i64 am), .v (.int .i64 mo), .v (.int .i64 ga), .v (.int .i64 lo), .v (.int .i64 de), .v (.int .i64 _)] => .ok (.v (.bool (cbZ (am, mo, ga, lo, de))))
  | _ => .no)
 | _ => .no
noncomputable def S_wnon : List LV → T LV := upS Try.prog Try.f73.params.toList S0_wnon
theorem nf_wnon (am mo ga lo de now : Int) : funu Try.prog noGlobs (gam20) noK noLoops Try.f73 [.xq 6 (fun j => ([.v (.int .i64 am), .v (.int .i64 mo), .v (.int .i64 ga), .v (.int .i64 lo), .v (.int .i64 de), .v (.int .i64 now)] : List LV).getD j .junk)] = .ok (.v (.bool ((am == 0) && ((mo == 0) && ((ga == 0) && ((lo == 0) && (de == 0))))))) := by kernel_rfl
theorem v_wnon : Valid Try.prog noGlobs 73 S_wnon := valid_ofu Try.func73 rfl gok20 noK_sound (no_loops (by kernel_rfl)) (fun args lv h => by
 unfold S0_wnon at h
 split at h
 ·split at h
  case h_2 => cases h
  rename_i heq0
  simp only [canL, canX]
  rw [show (List.range 6).map _ = _ from heq0]
  rw [nf_wnon]
  exact h
 ·cases h)
structure L_gr where
 low : Int
 high : Int
 b0_Ambient : Int
 b0_Most : Int
 b0_Gain : Int
 b0_Loss : Int
 b0_Den : Int
 b1_Cable : Int
 b11 : Int
 b12 : Int
 b13 : Int
 b14 : Int
 b1_now : Int
 b3 : Int
def A_gr (s : L_gr) : List LV := [.v (.int .i64 s.low), .v (.int .i64 s.high), .fn 76 [.own 2 0, .own 3 0]]
def B_gr (s : L_gr) : List Blk := [⟨[.v (.int .i64 s.b0_Ambient), .v (.int .i64 s.b0_Most), .v (.int .i64 s.b0_Gain), .v (.int .i64 s.b0_Loss), .v (.int .i64 s.b0_Den)], 79, .cl, false⟩, ⟨[.v (.int .i64 s.b1_Cable), .v (.int .i64 s.b11), .v (.int .i64 s.b12), .v (.int .i64 s.b13), .v (.int .i64 s.b14), .v (.int .i64 s.b1_now)], 117, .cl, false⟩, ⟨[.own 1 0], 115, .cl, false⟩, ⟨[.v (.int .i64 s.b3)], 3, .cl, false⟩]
noncomputable def body_gr : Code := ((loopsIn (Try.f75.body.getD .skip))[0]?).getD .skip
def t_gr (s : L_gr) : T (Rd L_gr) :=
 .br (decide (s.low < s.high)) (.req ((2 : Int) ≠ 0) (.br (decide ((IntKind.i64.wrap ((IntKind.i64.wrap (s.b12 * (IntKind.i64.wrap (s.low + (IntKind.i64.wrap ((IntKind.i64.wrap ((IntKind.i64.wrap (s.high - s.low)) + 1)).tdiv 2)))))) * (IntKind.i64.wrap (s.low + (IntKind.i64.wrap ((IntKind.i64.wrap ((IntKind.i64.wrap (s.high - s.low)) + 1)).tdiv 2)))))) ≤ s.b3)) (.ok (.next { s with low := (IntKind.i64.wrap (s.low + (IntKind.i64.wrap ((IntKind.i64.wrap ((IntKind.i64.wrap (s.high - s.low)) + 1)).tdiv 2)))) })) (.ok (.next { s with high := (IntKind.i64.wrap ((IntKind.i64.wrap (s.low + (IntKind.i64.wrap ((IntKind.i64.wrap ((IntKind.i64.wrap (s.high - s.low)) + 1)).tdiv 2)))) - 1)) })))) (.ok (.stop (.exit 0) s))
abbrev f_gr (s : L_gr) := (t_gr s).rd s
def E_gr (s : L_gr) : Prop := s.low = 0 ∧ s.high = 1000 ∧ (0 ≤ s.b12 ∧ s.b12 ≤ 1000) ∧ 0 ≤ s.b3
def I_gr (s : L_gr) : Prop := (0 ≤ s.low ∧ s.low ≤ s.high ∧ s.high ≤ 1000) ∧ s.b12 * s.low * s.low ≤ s.b3 ∧ (∀ a : Int, s.high < a → a ≤ 1000 → ¬ s.b12 * a * a ≤ s.b3) ∧ (0 ≤ s.b12 ∧ s.b12 ≤ 1000) ∧ 0 ≤ s.b3
def mu_gr (s : L_gr) : Nat := (s.high - s.low).toNat
def Q_gr (x : Ex) (_ s' : L_gr) : Prop := x = .exit 0 ∧ s'.low = prm s'.b12 s'.b3
theorem gr_E : ∀ s, E_gr s → I_gr s := by
 intro s h
 obtain ⟨h0, h1, h2, h3⟩ := h
 exact ⟨by omega, by rw [h0]; simpa using h3, fun a h h2 => by omega, h2, h3⟩
theorem gr_da (s : L_gr) (hI : I_gr s) : allR (fun s' => I_gr s' ∧ mu_gr s' < mu_gr s) (fun x s' => Q_gr x s s') (f_gr s) := by
 unfold f_gr t_gr
 dsimp only [T.rd, T.rl]
 obtain ⟨⟨h0, h1, h2⟩, h3, h4, ⟨h5, h6⟩, h7⟩ := hI
 have em : s.low < s.high → IntKind.i64.wrap (s.low + IntKind.i64.wrap ((IntKind.i64.wrap (IntKind.i64.wrap (s.high - s.low) + 1)).tdiv 2)) = s.low + (s.high - s.low + 1) / 2 := fun c => by
  rw [wrapS (x := s.high - s.low) (by omega) (by omega), wrapS (x := s.high - s.low + 1) (by omega) (by omega), Int.tdiv_eq_ediv_of_nonneg (by omega), wrapS (x := (s.high - s.low + 1) / 2) (by omega) (by omega), wrapS (by omega) (by omega)]
 refine allR_ite (fun c1 => ?_) (fun c1 => ?_)
 ·have c1 : s.low < s.high := by simpa using c1
  rw [em c1]
  have hm1 : s.low < s.low + (s.high - s.low + 1) / 2 := by omega
  have hm2 : s.low + (s.high - s.low + 1) / 2 ≤ s.high := by omega
  generalize s.low + (s.high - s.low + 1) / 2 = m at hm1 hm2 ⊢
  obtain ⟨⟨b1, b2⟩, b3, b4⟩ := sq_bd h5 h6 (m := m) (by omega) (by omega)
  rw [wrapS (x := s.b12 * m) (by omega) (by omega), wrapS (x := s.b12 * m * m) (by omega) (by omega), wrapS (x := m - 1) (by omega) (by omega)]
  refine allR_ite (fun c2 => ?_) (fun c2 => ?_)
  ·have c2 : s.b12 * m * m ≤ s.b3 := by simpa using c2
   exact ⟨⟨⟨by simp only; omega, by simp only; omega, h2⟩, c2, h4, ⟨h5, h6⟩, h7⟩, by simp only [mu_gr]; omega⟩
  ·have c2 : ¬ s.b12 * m * m ≤ s.b3 := by simpa using c2
   refine ⟨⟨⟨h0, by simp only; omega, by simp only; omega⟩, h3, fun a ha hk => ?_, ⟨h5, h6⟩, h7⟩, by simp only [mu_gr]; omega⟩
   have := sq_mono h5 (a := m) (b := a) (by omega) (by simp only at ha; omega)
   simp only
   omega
 ·have c1 : s.high ≤ s.low := by simpa using c1
  refine ⟨rfl, (prmN_eq (k := 1000) h0 (by omega) (.inr h3) (fun a ha hk => h4 a (by omega) (by omega))).symm⟩
def D_gr : LpD L_gr := ⟨4, 25, [0, 1, 2], [], A_gr, B_gr, fun v b => ⟨gI (v.getD 0 .junk), gI (v.getD 1 .junk), gI (gCe (gBk b 0) 0), gI (gCe (gBk b 0) 1), gI (gCe (gBk b 0) 2), gI (gCe (gBk b 0) 3), gI (gCe (gBk b 0) 4), gI (gCe (gBk b 1) 0), gI (gCe (gBk b 1) 1), gI (gCe (gBk b 1) 2), gI (gCe (gBk b 1) 3), gI (gCe (gBk b 1) 4), gI (gCe (gBk b 1) 5), gI (gCe (gBk b 3) 0)⟩, t_gr, fun s r => { r with b0_Ambient := s.b0_Ambient, b0_Most := s.b0_Most, b0_Gain := s.b0_Gain, b0_Loss := s.b0_Loss, b0_Den := s.b0_Den, b1_Cable := s.b1_Cable, b11 := s.b11, b12 := s.b12, b13 := s.b13, b14 := s.b14, b1_now := s.b1_now, b3 := s.b3 }, fun s => s, fun _ s => s, [.exit 0], E_gr, I_gr, mu_gr⟩
abbrev run_gr := D_gr.run
abbrev exn_gr := D_gr.exn
abbrev E_grq := D_gr.q
noncomputable def gam22 : Specs := specsOf [(72, S_cval), (73, S_wnon), (74, S_wlos)]
theorem gok22 : ∀ g S, gam22 g = some S → Valid Try.prog noGlobs g S := specs_ok (l := [(72, S_cval), (73, S_wnon), (74, S_wlos)]) ⟨v_cval, v_wnon, v_wlos, trivial⟩
noncomputable def hnd23 : Hand := inl Try.prog noGlobs gam22 (unrL Try.prog noGlobs (gam22) 20 2) 9
theorem hok23 : KSound Try.prog noGlobs hnd23 := inl_sound gok22 (unrL_ok gok22) 9
theorem rq_gr (s : L_gr) (_ : I_gr s) : (t_gr s).all (fun _ => True) := by
 refine ⟨fun c1 => ⟨?_, fun _ => trivial, fun _ => trivial⟩, fun _ => trivial⟩
 ·(first | decide | omega)
theorem ok_gr : D_gr.Ok := ⟨fun s => by kernel_rfl, fun s => by kernel_rfl, fun s => rfl, fun s t r => rfl, fun s => rfl, fun s => by kernel_rfl⟩
theorem pf_gr : D_gr.Pf (Q_gr) := ⟨gr_E, fun _ _ => rfl, gr_da, rq_gr⟩
theorem snd_gr : SoundA Try.prog noGlobs (AN 4) (.loop body_gr) D_gr.lp := LpD.snd ok_gr pf_gr (code_soundA (Γ := gam22) (K := hnd23) (L := (unrC Try.prog noGlobs gam22 hnd23 20 2)) gok22 hok23 body_gr (fun b _ => unrC_sound gok22 hok23 20 2 b)) (fun s => by kernel_rfl)
theorem gr_fin (s : L_gr) (hE : E_gr s) : ∃ s', I_gr s' ∧ Q_gr (exn_gr s) s' (run_gr s) := LpD.fin ok_gr pf_gr s hE
def S0_perm : List LV → T LV
 | [.v (.agg ⟨[.int .i64 am, .int .i64 mo, .int .i64 ga, .int .i64 lo, .int .i64 de]⟩)] => .ok (.v (.tuple #[.int .i64 (pmA (am, mo, ga, lo, de)), .int .i64 (pmE (am, mo, ga, lo, de))]))
 | _ => .no
noncomputable def S_perm : List LV → T LV := upS Try.prog Try.f62.params.toList S0_perm
noncomputable def hnd24 : Hand := inl Try.prog noGlobs gam22 (addL 75 4 1 (D_gr.lp) (unrL Try.prog noGlobs (gam22) 20 2)) 9
theorem hok24 : KSound Try.prog noGlobs hnd24 := inl_sound gok22 (addL_ok Try.func75 rfl (by kernel_rfl) snd_gr (unrL_ok gok22)) 9
theorem nf_perm (am mo ga lo de : Int) : funu Try.prog noGlobs (gam22) hnd24 noLoops Try.f62 [.v (.agg #[.int .i64 am, .int .i64 mo, .int .i64 ga, .int .i64 lo, .int .i64 de])] = .br (!(cbV (am, mo, ga, lo, de))) (.ok (.v (.tuple #[.int .i64 0, .int .i64 1]))) (.br (cbZ (am, mo, ga, lo, de)) (.ok (.v (.tuple #[.int .i64 1000, .int .i64 0]))) (.req (E_grq (⟨(0 : Int), (1000 : Int), am, mo, ga, lo, de, am, mo, ga, lo, de, (0 : Int), (IntKind.i64.wrap ((if de < lo then de else lo) * (IntKind.i64.wrap (mo - am))))⟩ : L_gr)) (.ok (.v (.tuple #[.int .i64 (run_gr (⟨(0 : Int), (1000 : Int), am, mo, ga, lo, de, am, mo, ga, lo, de, (0 : Int), (IntKind.i64.wrap ((if de < lo then de else lo) * (IntKind.i64.wrap (mo - am))))⟩ : L_gr)).low, .int .i64 0]))))) := by kernel_rfl
theorem v_perm : Valid Try.prog noGlobs 62 S_perm := valid_ofu Try.func62 rfl gok22 hok24 (no_loops (by kernel_rfl)) (fun args lv h => by
 unfold S0_perm at h
 split at h
 ·simp only [canL, canX]
  rw [nf_perm]
  rename_i am mo ga lo de
  obtain rfl := h
  refine ⟨fun c => ?_, fun c => ⟨fun c2 => ?_, fun c2 => ?_⟩⟩
  ·have c : cbV (am, mo, ga, lo, de) = false := by simpa using c
   simp [T.all, pmA, pmE, c]
  ·have c : cbV (am, mo, ga, lo, de) = true := by simpa using c
   simp [T.all, pmA, pmE, c, c2]
  ·have c : cbV (am, mo, ga, lo, de) = true := by simpa using c
   obtain ⟨⟨h1, h2, h3⟩, ⟨h4, h5⟩, ⟨h6, h7⟩, h8, h9⟩ := cbV_bd c c2
   simp only at h1 h2 h3 h4 h5 h6 h7 h8 h9
   have hm : 0 ≤ (if de < lo then de else lo) ∧ (if de < lo then de else lo) ≤ 1000 := by split <;> omega
   have e : pmA (am, mo, ga, lo, de) = prm ga ((if de < lo then de else lo) * (mo - am)) := by
    unfold pmA
    rw [if_pos c, if_neg (by rw [c2]; simp)]
   have e2 : pmE (am, mo, ga, lo, de) = 0 := by
    unfold pmE
    rw [if_pos c]
   rw [e, e2, wrapS (x := mo - am) (by omega) (by omega)]
   generalize (if de < lo then de else lo) = mn at hm ⊢
   have a1 : 0 ≤ mn * (mo - am) := Int.mul_nonneg hm.1 (by omega)
   have a2 : mn * (mo - am) ≤ 1000 * (mo - am) := Int.mul_le_mul_of_nonneg_right hm.2 (by omega)
   rw [wrapS (x := mn * (mo - am)) (by omega) (by omega)]
   refine andI ⟨⟨rfl, rfl, ⟨h4, h5⟩, a1⟩, rfl, rfl⟩ (fun hE => ?_)
   obtain ⟨s', _, q1, q2⟩ := gr_fin _ hE.1
   show LV.v (.tuple #[.int .i64 _, _]) = _
   rw [q2]
   rfl
 ·cases h)
end Go.Proofs.Ytihbikkkmoaljaa
