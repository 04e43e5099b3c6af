/- The reference: levels, orders, rows. -/
import Derived.Test.YtihbikkkmoaljaaEe
import Derived.Test.YtihbikkkmoaljaaEr
namespace Go.Proofs.Ytihbikkkmoaljaa
open Go.Sx
def S0_rhas : List LV → T LV
 | [.v (.agg ⟨[.string _, .int .i64 _, .int .i64 _, .int .i64 mi, .int .i64 ma, .int .i64 st, .int .i64 _, .int .i64 _]⟩)] => .ok (.v (.bool (hasL mi ma st)))
 | _ => .no
noncomputable def S_rhas : List LV → T LV := upS Try.prog Try.f21.params.toList S0_rhas
noncomputable def gam54 : Specs := specsOf []
theorem gok54 : ∀ g S, gam54 g = some S → Valid Try.prog noGlobs g S := specs_ok (l := []) trivial
theorem nf_rhas (nm : ByteArray) (at_ ph mi ma st fb ow : Int) : funu Try.prog noGlobs (gam54) noK noLoops Try.f21 [.v (.agg #[.string nm, .int .i64 at_, .int .i64 ph, .int .i64 mi, .int .i64 ma, .int .i64 st, .int .i64 fb, .int .i64 ow])] = .ok (.v (.bool ((decide (mi ≥ 1)) && ((decide (mi ≤ ma)) && ((decide (ma ≤ 80)) && ((decide (st ≥ 1)) && (decide (st ≤ 80)))))))) := by kernel_rfl
theorem v_rhas : Valid Try.prog noGlobs 21 S_rhas := valid_ofu Try.func21 rfl gok54 noK_sound (no_loops (by kernel_rfl)) (fun args lv h => by
 unfold S0_rhas at h
 split at h
 ·simp only [canL, canX]
  rw [nf_rhas]
  exact h
 ·cases h)
def S0_rlvl : List LV → T LV
 | [.v (.agg ⟨[.string _, .int .i64 _, .int .i64 _, .int .i64 mi, .int .i64 ma, .int .i64 st, .int .i64 _, .int .i64 _]⟩)] => .ok (.v (.int .i64 (lvs mi ma st)))
 | _ => .no
noncomputable def S_rlvl : List LV → T LV := upS Try.prog Try.f18.params.toList S0_rlvl
noncomputable def gam55 : Specs := specsOf [(21, S_rhas)]
theorem gok55 : ∀ g S, gam55 g = some S → Valid Try.prog noGlobs g S := specs_ok (l := [(21, S_rhas)]) ⟨v_rhas, trivial⟩
theorem nf_rlvl (nm : ByteArray) (at_ ph mi ma st fb ow : Int) : funu Try.prog noGlobs (gam55) noK noLoops Try.f18 [.v (.agg #[.string nm, .int .i64 at_, .int .i64 ph, .int .i64 mi, .int .i64 ma, .int .i64 st, .int .i64 fb, .int .i64 ow])] = .br (!(hasL mi ma st)) (.ok (.v (.int .i64 0))) (.req (st ≠ 0) (.ok (.v (.int .i64 (IntKind.i64.wrap (2 + (IntKind.i64.wrap ((IntKind.i64.wrap (ma - mi)).tdiv st)))))))) := by kernel_rfl
theorem v_rlvl : Valid Try.prog noGlobs 18 S_rlvl := valid_ofu Try.func18 rfl gok55 noK_sound (no_loops (by kernel_rfl)) (fun args lv h => by
 unfold S0_rlvl at h
 split at h
 ·simp only [canL, canX]
  rw [nf_rlvl]
  rename_i mi ma st _ _
  obtain rfl := h
  refine ⟨fun c => congrArg (fun z => LV.v (.int .i64 z)) ?_, fun c => ?_⟩
  ·rw [lvs_zero (by simpa using c)]
  ·have hh : hasL mi ma st = true := by simpa using c
   obtain ⟨h1, h2, h3, h4, h5⟩ := hasL_iff.1 hh
   have := div_bd (x := ma - mi) (st := st) (by omega) (by omega)
   refine ⟨by omega, congrArg (fun z => LV.v (.int .i64 z)) ?_⟩
   rw [wrapS (x := ma - mi) (by omega) (by omega), Int.tdiv_eq_ediv_of_nonneg (by omega), wrapS (x := (ma - mi) / st) (by omega) (by omega), wrapS (by omega) (by omega)]
   simp [lvs, hh]
   omega
 ·cases h)
def S0_ramp : List LV → T LV
 | [.v (.agg ⟨[.string _, .int .i64 _, .int .i64 _, .int .i64 mi, .int .i64 ma, .int .i64 st, .int .i64 _, .int .i64 _]⟩), .v (.int .i64 k)] => .ok (.v (.tuple #[.int .i64 (amA mi ma st k), .int .i64 (amE mi ma st k)]))
 | _ => .no
noncomputable def S_ramp : List LV → T LV := upS Try.prog Try.f13.params.toList S0_ramp
noncomputable def gam56 : Specs := specsOf [(18, S_rlvl)]
theorem gok56 : ∀ g S, gam56 g = some S → Valid Try.prog noGlobs g S := specs_ok (l := [(18, S_rlvl)]) ⟨v_rlvl, trivial⟩
theorem nf_ramp (nm : ByteArray) (at_ ph mi ma st fb ow k : Int) : funu Try.prog noGlobs (gam56) noK noLoops Try.f13 [.v (.agg #[.string nm, .int .i64 at_, .int .i64 ph, .int .i64 mi, .int .i64 ma, .int .i64 st, .int .i64 fb, .int .i64 ow]), .v (.int .i64 k)] = .br ((decide (k < 0)) || (decide (k ≥ (lvs mi ma st)))) (.ok (.v (.tuple #[.int .i64 0, .int .i64 1]))) (.br (k == 0) (.ok (.v (.tuple #[.int .i64 0, .int .i64 0]))) (.ok (.v (.tuple #[.int .i64 (IntKind.i64.wrap (mi + (IntKind.i64.wrap ((IntKind.i64.wrap (k - 1)) * st)))), .int .i64 0])))) := by kernel_rfl
theorem v_ramp : Valid Try.prog noGlobs 13 S_ramp := valid_ofu Try.func13 rfl gok56 noK_sound (no_loops (by kernel_rfl)) (fun args lv h => by
 unfold S0_ramp at h
 split at h
 ·simp only [canL, canX]
  rw [nf_ramp]
  rename_i mi ma st _ _ k
  obtain rfl := h
  have hb := lvs_bd (mi := mi) (ma := ma) (st := st)
  refine ⟨fun c => ?_, fun c => ?_⟩
  ·have c : k < 0 ∨ lvs mi ma st ≤ k := by simpa using c
   simp [T.all, amA, amE, c]
  ·have c : ¬ (k < 0 ∨ lvs mi ma st ≤ k) := by simpa using c
   have hh := hasL_iff.1 (has_of (mi := mi) (ma := ma) (st := st) (k := k) (by omega) (by omega))
   refine ⟨fun c2 => ?_, fun c2 => ?_⟩
   ·have c2 : k = 0 := by simpa using c2
    subst c2
    have c3 : 0 < lvs mi ma st := by omega
    simp [T.all, amA, amE, amL, c3]
   ·have c2 : k ≠ 0 := by simpa using c2
    have := mul_bd (a := k - 1) (b := st) (by omega) (by omega) (by omega) (by omega)
    rw [wrapS (x := k - 1) (by omega) (by omega), wrapS (x := (k - 1) * st) (by omega) (by omega), wrapS (by omega) (by omega)]
    simp [T.all, amA, amE, c, amL, c2]
 ·cases h)
structure L_rl where
 a : Int
 level : Int
 k : Int
 c_Name : ByteArray
 c_At : Int
 c_Phases : Int
 mi : Int
 ma : Int
 st : Int
 c_Fallback : Int
 c_Owner : Int
def A_rl (s : L_rl) : List LV := [.v (.int .i64 s.a), .own 0 0, .v (.int .i64 s.level), .v (.int .i64 s.k)]
def B_rl (s : L_rl) : List Blk := [⟨[.v (.string s.c_Name), .v (.int .i64 s.c_At), .v (.int .i64 s.c_Phases), .v (.int .i64 s.mi), .v (.int .i64 s.ma), .v (.int .i64 s.st), .v (.int .i64 s.c_Fallback), .v (.int .i64 s.c_Owner)], 23, .cl, false⟩]
noncomputable def body_rl : Code := ((loopsIn (Try.f20.body.getD .skip))[0]?).getD .skip
def t_rl (s : L_rl) : T (Rd L_rl) :=
 .br (decide (s.k < (lvs s.mi s.ma s.st))) (.br (decide ((amA s.mi s.ma s.st s.k) ≤ s.a)) (.ok (.next { s with level := s.k, k := (IntKind.i64.wrap (s.k + 1)) })) (.ok (.next { s with k := (IntKind.i64.wrap (s.k + 1)) }))) (.ok (.stop (.exit 0) s))
abbrev f_rl (s : L_rl) := (t_rl s).rd s
def E_rl (s : L_rl) : Prop := s.k = 1 ∧ s.level = 0 ∧ hasL s.mi s.ma s.st = true ∧ 0 ≤ s.a
def I_rl (s : L_rl) : Prop := (1 ≤ s.k ∧ s.k ≤ lvs s.mi s.ma s.st) ∧ s.level = min (s.k - 1) (lev s.mi s.ma s.st s.a) ∧ hasL s.mi s.ma s.st = true ∧ 0 ≤ s.a
def mu_rl (s : L_rl) : Nat := (lvs s.mi s.ma s.st - s.k).toNat
def Q_rl (x : Ex) (_ s' : L_rl) : Prop := x = .exit 0 ∧ s'.level = lev s'.mi s'.ma s'.st s'.a
theorem rl_E : ∀ s, E_rl s → I_rl s := by
 intro s h
 obtain ⟨h0, h1, h2, h3⟩ := h
 have := lvs_pos h2
 have := lev_nonneg h2 h3
 exact ⟨by omega, by omega, h2, h3⟩
theorem rl_da (s : L_rl) (hI : I_rl s) : allR (fun s' => I_rl s' ∧ mu_rl s' < mu_rl s) (fun x s' => Q_rl x s s') (f_rl s) := by
 unfold f_rl t_rl
 dsimp only [T.rd, T.rl]
 obtain ⟨⟨h0, h1⟩, h2, h3, h4⟩ := hI
 have hb := lvs_bd (mi := s.mi) (ma := s.ma) (st := s.st)
 have hlt := lev_lt (a := s.a) h3
 refine allR_ite (fun c1 => ?_) (fun c1 => ?_)
 ·have c1 : s.k < lvs s.mi s.ma s.st := by simpa using c1
  have hi := lev_iff h3 h4 (k := s.k) (by omega) c1
  have ea : amA s.mi s.ma s.st s.k = amL s.mi s.st s.k := by unfold amA; rw [if_neg (by omega)]
  rw [ea, wrapS (x := s.k + 1) (by omega) (by omega)]
  refine allR_ite (fun c2 => ?_) (fun c2 => ?_)
  ·have c2 := hi.1 (by simpa using c2)
   exact ⟨⟨⟨by simp only; omega, by simp only; omega⟩, by simp only; omega, h3, h4⟩, by simp only [mu_rl]; omega⟩
  ·have c2 : ¬ s.k ≤ lev s.mi s.ma s.st s.a := fun h => by
    have := hi.2 h
    simp at c2
    omega
   exact ⟨⟨⟨by simp only; omega, by simp only; omega⟩, by simp only; omega, h3, h4⟩, by simp only [mu_rl]; omega⟩
 ·have c1 : lvs s.mi s.ma s.st ≤ s.k := by simpa using c1
  exact ⟨rfl, by omega⟩
def D_rl : LpD L_rl := ⟨0, 33, [1, 2, 5, 6], [], A_rl, B_rl, fun v b => ⟨gI (v.getD 0 .junk), gI (v.getD 2 .junk), gI (v.getD 3 .junk), gSr (gCe (gBk b 0) 0), gI (gCe (gBk b 0) 1), gI (gCe (gBk b 0) 2), gI (gCe (gBk b 0) 3), gI (gCe (gBk b 0) 4), gI (gCe (gBk b 0) 5), gI (gCe (gBk b 0) 6), gI (gCe (gBk b 0) 7)⟩, t_rl, fun s r => { r with a := s.a, c_Name := s.c_Name, c_At := s.c_At, c_Phases := s.c_Phases, mi := s.mi, ma := s.ma, st := s.st, c_Fallback := s.c_Fallback, c_Owner := s.c_Owner }, fun s => s, fun _ s => s, [.exit 0], E_rl, I_rl, mu_rl⟩
abbrev run_rl := D_rl.run
abbrev exn_rl := D_rl.exn
abbrev E_rlq := D_rl.q
theorem rq_rl (s : L_rl) (_ : I_rl s) : (t_rl s).all (fun _ => True) := by
 exact ⟨fun c1 => ⟨fun _ => trivial, fun _ => trivial⟩, fun _ => trivial⟩
noncomputable def gam57 : Specs := specsOf [(13, S_ramp), (18, S_rlvl), (21, S_rhas)]
theorem gok57 : ∀ g S, gam57 g = some S → Valid Try.prog noGlobs g S := specs_ok (l := [(13, S_ramp), (18, S_rlvl), (21, S_rhas)]) ⟨v_ramp, v_rlvl, v_rhas, trivial⟩
theorem ok_rl : D_rl.Ok := ⟨fun s => by kernel_rfl, fun s => by kernel_rfl, fun s => rfl, fun s t r => rfl, fun s => rfl, fun s => by kernel_rfl⟩
theorem pf_rl : D_rl.Pf (Q_rl) := ⟨rl_E, fun _ _ => rfl, rl_da, rq_rl⟩
theorem snd_rl : SoundA Try.prog noGlobs (AN 0) (.loop body_rl) D_rl.lp := LpD.snd ok_rl pf_rl (code_sound (Γ := gam57) (K := noK) (L := noLoops) gok57 noK_sound body_rl (fun b hb => by rw [show loopsIn body_rl = [] by kernel_rfl] at hb; cases hb)) (fun s => by kernel_rfl)
theorem rl_fin (s : L_rl) (hE : E_rl s) : ∃ s', I_rl s' ∧ Q_rl (exn_rl s) s' (run_rl s) := LpD.fin ok_rl pf_rl s hE
def S0_rlev : List LV → T LV
 | [.v (.agg ⟨[.string _, .int .i64 _, .int .i64 _, .int .i64 mi, .int .i64 ma, .int .i64 st, .int .i64 _, .int .i64 _]⟩), .v (.int .i64 a)] => .ok (.v (.int .i64 (lev mi ma st a)))
 | _ => .no
noncomputable def S_rlev : List LV → T LV := upS Try.prog Try.f20.params.toList S0_rlev
def st10_rl (nm : ByteArray) (at_ ph mi ma st fb ow a : Int) : L_rl := (⟨a, (0 : Int), (1 : Int), nm, at_, ph, mi, ma, st, fb, ow⟩ : L_rl)
theorem nf_rlev (nm : ByteArray) (at_ ph mi ma st fb ow a : Int) : funu Try.prog noGlobs (gam57) noK (fun i => if i = 5 then D_rl.lp else noLoops i) Try.f20 [.v (.agg #[.string nm, .int .i64 at_, .int .i64 ph, .int .i64 mi, .int .i64 ma, .int .i64 st, .int .i64 fb, .int .i64 ow]), .v (.int .i64 a)] = .br ((!(hasL mi ma st)) || (decide (a < 0))) (.ok (.v (.int .i64 (-1)))) (.req (E_rlq (st10_rl nm at_ ph mi ma st fb ow a)) (.ok (.v (.int .i64 (run_rl (st10_rl nm at_ ph mi ma st fb ow a)).level)))) := by kernel_rfl
theorem v_rlev : Valid Try.prog noGlobs 20 S_rlev := valid_ofu Try.func20 rfl gok57 noK_sound (L := (fun i => if i = 5 then D_rl.lp else noLoops i)) (fun b hb => by
 rw [show loopsIn _ = [body_rl] by kernel_rfl] at hb
 simp only [List.mem_cons, List.not_mem_nil, or_false] at hb
 subst hb
 exact snd_rl) (fun args lv h => by
 unfold S0_rlev at h
 split at h
 ·simp only [canL, canX]
  rw [nf_rlev]
  rename_i mi ma st _ _ a
  obtain rfl := h
  refine ⟨fun c => congrArg (fun z => LV.v (.int .i64 z)) ?_, fun c => ?_⟩
  ·have c : hasL mi ma st = false ∨ a < 0 := by
    cases e : hasL mi ma st with
    | false => exact .inl rfl
    | true => rw [e] at c; simp at c; exact .inr c
   unfold lev
   rw [if_pos c]
  ·have c : hasL mi ma st = true ∧ 0 ≤ a := by
    cases e : hasL mi ma st with
    | false => rw [e] at c; simp at c
    | true => rw [e] at c; simp at c; exact ⟨rfl, c⟩
   refine andI ⟨⟨rfl, rfl, c.1, c.2⟩, rfl, rfl⟩ (fun hE => ?_)
   obtain ⟨s', _, q1, q2⟩ := rl_fin _ hE.1
   rw [q2]
   exact rfl
 ·cases h)
structure L_rob where
 l : List Int
 n : Int
 r : Bool
 i : Int
 found : Bool
 k : Int
def A_rob (s : L_rob) : List LV := [.xl (.int .i64) s.l, .v (.int .i64 s.n), .v (.bool s.r), .v (.int .i64 s.i), .v (.bool s.found), .v (.int .i64 s.k)]
def B_rob (_ : L_rob) : List Blk := []
noncomputable def body_rob : Code := ((loopsIn (((loopsIn (Try.f38.body.getD .skip))[0]?).getD .skip))[0]?).getD .skip
def t_rob (s : L_rob) : T (Rd L_rob) :=
 .br (decide (s.k < s.n)) (.br s.found (.ok (.next { s with found := true, k := (IntKind.i64.wrap (s.k + 1)) })) (.req (0 ≤ s.k ∧ s.k < (List.length s.l : Int)) (.ok (.next { s with found := ((gi s.l s.k) == s.i), k := (IntKind.i64.wrap (s.k + 1)) })))) (.ok (.stop (.exit 2) s))
abbrev f_rob (s : L_rob) := (t_rob s).rd s
def E_rob (s : L_rob) : Prop := s.k = 0 ∧ s.n ≤ 1000 ∧ s.n = (List.length s.l : Int)
def I_rob (s : L_rob) : Prop := 0 ≤ s.k ∧ s.k ≤ s.n ∧ s.n ≤ 1000 ∧ s.n = (List.length s.l : Int)
def mu_rob (s : L_rob) : Nat := (s.n - s.k).toNat
def Q_rob (_ : Ex) (_ _ : L_rob) : Prop := True
theorem rob_E : ∀ s, E_rob s → I_rob s := by
 intro s h
 obtain ⟨h0, h1, h2⟩ := h
 exact ⟨by omega, by omega, h1, h2⟩
theorem rob_da (s : L_rob) (hI : I_rob s) : allR (fun s' => I_rob s' ∧ mu_rob s' < mu_rob s) (fun x s' => Q_rob x s s') (f_rob s) := by
 unfold f_rob t_rob
 dsimp only [T.rd, T.rl]
 obtain ⟨h0, h1, h2, h3⟩ := hI
 refine allR_ite (fun c1 => ?_) (fun c1 => ?_)
 ·refine allR_ite (fun c2 => ?_) (fun c2 => ?_)
  ·have c1 : s.k < s.n := by simpa using c1
   rw [wrapS (x := s.k + 1) (by omega) (by omega)]
   exact ⟨⟨by simp only; omega, by simp only; omega, h2, h3⟩, by simp only [mu_rob]; omega⟩
  ·have c1 : s.k < s.n := by simpa using c1
   rw [wrapS (x := s.k + 1) (by omega) (by omega)]
   exact ⟨⟨by simp only; omega, by simp only; omega, h2, h3⟩, by simp only [mu_rob]; omega⟩
 ·trivial
def D_rob : LpD L_rob := ⟨0, 33, [0, 1, 4, 5, 6, 7], [], A_rob, B_rob, fun v _ => ⟨gXl (.int .i64) (v.getD 0 .junk), gI (v.getD 1 .junk), gBo (v.getD 2 .junk), gI (v.getD 3 .junk), gBo (v.getD 4 .junk), gI (v.getD 5 .junk)⟩, t_rob, fun s r => { r with l := s.l, n := s.n, r := s.r, i := s.i }, fun s => s, fun _ s => s, [.exit 2], E_rob, I_rob, mu_rob⟩
abbrev run_rob := D_rob.run
abbrev exn_rob := D_rob.exn
abbrev E_robq := D_rob.q
theorem rq_rob (s : L_rob) (hI : I_rob s) : (t_rob s).all (fun _ => True) := by
 refine ⟨fun c1 => ⟨fun _ => trivial, fun c2 => ⟨?_, trivial⟩⟩, fun _ => trivial⟩
 ·(obtain ⟨h0, h1, h2, h3⟩ := hI; simp only [decide_eq_true_eq] at c1; omega)
theorem ok_rob : D_rob.Ok := ⟨fun s => by kernel_rfl, fun s => by kernel_rfl, fun s => rfl, fun s t r => rfl, fun s => rfl, fun s => by kernel_rfl⟩
theorem pf_rob : D_rob.Pf (Q_rob) := ⟨rob_E, fun _ _ => rfl, rob_da, rq_rob⟩
theorem snd_rob : SoundA Try.prog noGlobs (AN 0) (.loop body_rob) D_rob.lp := LpD.snd ok_rob pf_rob (code_sound (Γ := gam54) (K := noK) (L := noLoops) gok54 noK_sound body_rob (fun b hb => by rw [show loopsIn body_rob = [] by kernel_rfl] at hb; cases hb)) (fun s => by kernel_rfl)
theorem rob_fin (s : L_rob) (hE : E_rob s) : ∃ s', I_rob s' ∧ Q_rob (exn_rob s) s' (run_rob s) := LpD.fin ok_rob pf_rob s hE
theorem rob_res (s : L_rob) (hE : E_rob s) : (fun (x : Ex) (s' : L_rob) (v : Bool) => x = .exit 2 ∧ s'.found = v) (exn_rob s) (run_rob s) ((fun s : L_rob => s.found || (s.l.drop s.k.toNat).contains s.i) s) := by
 exact LpD.finV ok_rob pf_rob (fun s : L_rob => s.found || (s.l.drop s.k.toNat).contains s.i) (fun x s' v => x = .exit 2 ∧ s'.found = v) (fun s hI => by
  show allR _ _ (f_rob s)
  unfold f_rob t_rob
  dsimp only [T.rd, T.rl]
  obtain ⟨h0, h1, h2, h3⟩ := hI
  refine allR_ite (fun c1 => ?_) (fun c1 => ?_)
  ·have c1 : s.k < s.n := by simpa using c1
   rw [wrapS (x := s.k + 1) (by omega) (by omega)]
   refine allR_ite (fun c2 => ?_) (fun c2 => ?_)
   ·show (true || _) = (s.found || _)
    rw [c2]
    rfl
   ·show ((gi s.l s.k == s.i) || _) = (s.found || _)
    rw [c2, Bool.false_or, (gi_step h0 (show s.k < s.l.length by omega)).1, List.contains_cons, Bool.beq_comm]
  ·have c1 : s.n ≤ s.k := by simpa using c1
   refine ⟨rfl, ?_⟩
   rw [List.drop_eq_nil_of_le (by omega)]
   simp) s hE
structure L_roa where
 l : List Int
 n : Int
 r : Bool
 i : Int
def A_roa (s : L_roa) : List LV := [.xl (.int .i64) s.l, .v (.int .i64 s.n), .v (.bool s.r), .v (.int .i64 s.i)]
def B_roa (_ : L_roa) : List Blk := []
noncomputable def body_roa : Code := ((loopsIn (Try.f38.body.getD .skip))[0]?).getD .skip
def t_roa (s : L_roa) : T (Rd L_roa) :=
 .br (decide (s.i < s.n)) (.req (E_robq (⟨s.l, s.n, s.r, s.i, false, (0 : Int)⟩ : L_rob)) (.br (!(run_rob (⟨s.l, s.n, s.r, s.i, false, (0 : Int)⟩ : L_rob)).found) (.ok (.stop (.ret) { s with r := false })) (.ok (.next { s with i := (IntKind.i64.wrap (s.i + 1)) })))) (.ok (.stop (.exit 0) s))
abbrev f_roa (s : L_roa) := (t_roa s).rd s
def G_roa (s : L_roa) (j : Int) : Bool := s.l.contains j
def E_roa (s : L_roa) : Prop := s.i = 0 ∧ 0 ≤ s.n ∧ s.n ≤ 1000 ∧ s.n = (List.length s.l : Int)
def I_roa (s : L_roa) : Prop := 0 ≤ s.i ∧ s.i ≤ s.n ∧ s.n ≤ 1000 ∧ (s.n = (List.length s.l : Int)) ∧ ∀ j : Nat, (j : Int) < s.i → G_roa s j = true
def mu_roa (s : L_roa) : Nat := (s.n - s.i).toNat
def Q_roa (x : Ex) (_ s' : L_roa) : Prop := (x = .exit 0 ∧ ∀ j : Nat, (j : Int) < s'.n → G_roa s' j = true) ∨ (x = .ret ∧ s'.r = false ∧ ∃ j : Nat, (j : Int) < s'.n ∧ G_roa s' j = false)
theorem roa_E : ∀ s, E_roa s → I_roa s := by
 intro s h
 obtain ⟨h0, h1, h2, h3⟩ := h
 exact ⟨by omega, by omega, h2, h3, fun j hj => by omega⟩
theorem roa_da (s : L_roa) (hI : I_roa s) : allR (fun s' => I_roa s' ∧ mu_roa s' < mu_roa s) (fun x s' => Q_roa x s s') (f_roa s) := by
 unfold f_roa t_roa
 dsimp only [T.rd, T.rl]
 obtain ⟨h0, h1, h2, h3, h4⟩ := hI
 refine allR_ite (fun c1 => allR_ite (fun c2 => ?_) (fun c2 => ?_)) (fun c1 => ?_)
 ·have c1 : s.i < s.n := by simpa using c1
  refine .inr ⟨rfl, rfl, s.i.toNat, by simp only; omega, ?_⟩
  rw [Int.toNat_of_nonneg (by omega)]
  have hg : G_roa s s.i = false := by unfold G_roa; (have hin : E_rob (⟨s.l, s.n, s.r, s.i, false, (0 : Int)⟩) := ⟨rfl, h2, h3⟩; have hr := (rob_res _ hin).2; have hr : (run_rob (⟨s.l, s.n, s.r, s.i, false, (0 : Int)⟩)).found = (false || s.l.contains s.i) := hr; rw [Bool.false_or] at hr; rw [hr] at c2; simpa using c2)
  exact hg
 ·have c1 : s.i < s.n := by simpa using c1
  have hg : G_roa s s.i = true := by unfold G_roa; (have hin : E_rob (⟨s.l, s.n, s.r, s.i, false, (0 : Int)⟩) := ⟨rfl, h2, h3⟩; have hr := (rob_res _ hin).2; have hr : (run_rob (⟨s.l, s.n, s.r, s.i, false, (0 : Int)⟩)).found = (false || s.l.contains s.i) := hr; rw [Bool.false_or] at hr; rw [hr] at c2; simpa using c2)
  rw [wrapS (x := s.i + 1) (by omega) (by omega)]
  refine ⟨⟨by simp only; omega, by simp only; omega, h2, h3, fun j hj => ?_⟩, by simp only [mu_roa]; omega⟩
  by_cases hji : (j : Int) < s.i
  ·exact h4 j hji
  ·have : (j : Int) = s.i := by simp only at hj; omega
   rw [this]; exact hg
 ·have c1 : s.n ≤ s.i := by simpa using c1
  exact .inl ⟨rfl, fun j hj => h4 j (by omega)⟩
def D_roa : LpD L_roa := ⟨0, 33, [0, 1, 4, 5], [], A_roa, B_roa, fun v _ => ⟨gXl (.int .i64) (v.getD 0 .junk), gI (v.getD 1 .junk), gBo (v.getD 2 .junk), gI (v.getD 3 .junk)⟩, t_roa, fun s r => { r with l := s.l, n := s.n }, fun s => s, fun _ s => s, [.ret, .exit 0], E_roa, I_roa, mu_roa⟩
abbrev run_roa := D_roa.run
abbrev exn_roa := D_roa.exn
abbrev E_roaq := D_roa.q
theorem rq_roa (s : L_roa) (hI : I_roa s) : (t_roa s).all (fun _ => True) := by
 refine ⟨fun c1 => ⟨?_, fun _ => trivial, fun _ => trivial⟩, fun _ => trivial⟩
 ·(obtain ⟨h0, h1, h2, h3, h4⟩ := hI; exact ⟨⟨rfl, h2, h3⟩, rfl, rfl⟩)
theorem ok_roa : D_roa.Ok := ⟨fun s => by kernel_rfl, fun s => by kernel_rfl, fun s => rfl, fun s t r => rfl, fun s => rfl, fun s => by kernel_rfl⟩
theorem pf_roa : D_roa.Pf (Q_roa) := ⟨roa_E, fun _ _ => rfl, roa_da, rq_roa⟩
theorem snd_roa : SoundA Try.prog noGlobs (AN 0) (.loop body_roa) D_roa.lp := LpD.snd ok_roa pf_roa (code_sound (Γ := gam54) (K := noK) (L := (fun i => if i = 8 then D_rob.lp else noLoops i)) gok54 noK_sound body_roa (fun b hb => by
 rw [show loopsIn _ = [body_rob] by kernel_rfl] at hb
 simp only [List.mem_cons, List.not_mem_nil, or_false] at hb
 subst hb
 exact snd_rob)) (fun s => by kernel_rfl)
theorem roa_fin (s : L_roa) (hE : E_roa s) : ∃ s', I_roa s' ∧ Q_roa (exn_roa s) s' (run_roa s) := LpD.fin ok_roa pf_roa s hE
def S0_rord : List LV → T LV
 | [.xl (.int .i64) l, .v (.int .i64 n)] => .req (n ≤ 1000) (.ok (.v (.bool (ordR l n))))
 | _ => .no
noncomputable def S_rord : List LV → T LV := upS Try.prog Try.f38.params.toList S0_rord
theorem nf_rord (l : List Int) (n : Int) : funu Try.prog noGlobs (gam54) noK (fun i => if i = 4 then D_roa.lp else noLoops i) Try.f38 [.xl (.int .i64) l, .v (.int .i64 n)] = .br ((List.length l : Int) != n) (.ok (.v (.bool false))) (.req (E_roaq (⟨l, n, false, (0 : Int)⟩ : L_roa)) (.br (isEx (exn_roa (⟨l, n, false, (0 : Int)⟩ : L_roa)) (.ret)) (.ok (.v (.bool (run_roa (⟨l, n, false, (0 : Int)⟩ : L_roa)).r))) (.ok (.v (.bool true))))) := by kernel_rfl
theorem v_rord : Valid Try.prog noGlobs 38 S_rord := valid_ofu Try.func38 rfl gok54 noK_sound (L := (fun i => if i = 4 then D_roa.lp else noLoops i)) (fun b hb => by
 rw [show loopsIn _ = [body_roa] by kernel_rfl] at hb
 simp only [List.mem_cons, List.not_mem_nil, or_false] at hb
 subst hb
 exact snd_roa) (fun args lv h => by
 unfold S0_rord at h
 split at h
 ·simp only [canL, canX]
  rw [nf_rord]
  rename_i l n
  obtain ⟨hn, rfl⟩ := h
  refine ⟨fun c => congrArg (fun z => LV.v (.bool z)) ?_, fun c => ?_⟩
  ·have c : ¬ (List.length l : Int) = n := by simpa using c
   unfold ordR
   rw [decide_eq_false c]
   rfl
  ·have c : (List.length l : Int) = n := by simpa using c
   unfold ordR
   rw [decide_eq_true c, Bool.true_and]
   refine andI ⟨⟨rfl, by simp only; omega, hn, c.symm⟩, rfl, rfl⟩ (fun hE => ?_)
   obtain ⟨s', _, hq⟩ := roa_fin _ hE.1
   rcases hq with ⟨q1, q2⟩ | ⟨q1, q2, j, q3, q4⟩
   ·have e : rgA n.toNat (fun i => l.contains i) = true := rgA_iff.2 (fun j hj => q2 j (by show (j : Int) < n; omega))
    rw [q1, e]
    exact ⟨fun h => (by cases h), fun _ => rfl⟩
   ·have e : rgA n.toNat (fun i => l.contains i) = false := rgA_no j (by have q3 : (j : Int) < n := q3; omega) q4
    rw [q1, q2, e]
    exact ⟨fun _ => rfl, fun h => by cases h⟩
 ·cases h)
structure L_rrw where
 al : List Int
 am : List Int
 sum : Int
 none : Bool
 i : Int
 cap : Int
 ms : List Int
def A_rrw (s : L_rrw) : List LV := [.xl (.int .i64) s.al, .xl (.int .i64) s.am, .own 0 0, .v (.int .i64 s.sum), .v (.bool s.none), .v (.int .i64 s.i)]
def B_rrw (s : L_rrw) : List Blk := [⟨[.v (.int .i64 s.cap), .xl (.int .i64) s.ms], 49, .cl, false⟩]
noncomputable def body_rrw : Code := ((loopsIn (Try.f46.body.getD .skip))[0]?).getD .skip
def t_rrw (s : L_rrw) : T (Rd L_rrw) :=
 .br (decide (s.i < (List.length s.ms : Int))) (.req (0 ≤ s.i ∧ s.i < (List.length s.ms : Int)) (.req (0 ≤ (gi s.ms s.i) ∧ (gi s.ms s.i) < (List.length s.al : Int)) (.req (0 ≤ (gi s.ms s.i) ∧ (gi s.ms s.i) < (List.length s.am : Int)) (.br s.none (.req (0 ≤ (gi s.ms s.i) ∧ (gi s.ms s.i) < (List.length s.am : Int)) (.ok (.next { s with sum := (IntKind.i64.wrap (s.sum + (if (gi s.al (gi s.ms s.i)) < (gi s.am (gi s.ms s.i)) then (gi s.am (gi s.ms s.i)) else (gi s.al (gi s.ms s.i))))), none := ((gi s.am (gi s.ms s.i)) == 0), i := (IntKind.i64.wrap (s.i + 1)) }))) (.ok (.next { s with sum := (IntKind.i64.wrap (s.sum + (if (gi s.al (gi s.ms s.i)) < (gi s.am (gi s.ms s.i)) then (gi s.am (gi s.ms s.i)) else (gi s.al (gi s.ms s.i))))), none := false, i := (IntKind.i64.wrap (s.i + 1)) })))))) (.ok (.stop (.exit 0) s))
abbrev f_rrw (s : L_rrw) := (t_rrw s).rd s
def E_rrw (s : L_rrw) : Prop := s.i = 0 ∧ s.sum = 0 ∧ rowR s.al s.am (s.cap, s.ms)
def I_rrw (s : L_rrw) : Prop := (0 ≤ s.i ∧ s.i ≤ (List.length s.ms : Int)) ∧ (0 ≤ s.sum ∧ s.sum ≤ 1000000 * s.i) ∧ rowR s.al s.am (s.cap, s.ms)
def mu_rrw (s : L_rrw) : Nat := ((List.length s.ms : Int) - s.i).toNat
def Q_rrw (_ : Ex) (_ _ : L_rrw) : Prop := True
theorem rrw_E : ∀ s, E_rrw s → I_rrw s := by
 intro s h
 obtain ⟨h0, h1, h2⟩ := h
 exact ⟨by omega, by omega, h2⟩
theorem rrw_m (s : L_rrw) (hI : I_rrw s) (c1 : s.i < (List.length s.ms : Int)) : 0 ≤ mx (gi s.al (gi s.ms s.i)) (gi s.am (gi s.ms s.i)) ∧ mx (gi s.al (gi s.ms s.i)) (gi s.am (gi s.ms s.i)) ≤ 1000000 := by
 obtain ⟨h0, h2, h3, h4, h5, h6⟩ := hI
 have hm := h4 (gi s.ms s.i) (gi_mem (by omega) c1)
 exact mx_bd (h5 _ (gi_mem hm.1 hm.2.1)) (h6 _ (gi_mem hm.1 hm.2.2))
theorem rrw_da (s : L_rrw) (hI : I_rrw s) : allR (fun s' => I_rrw s' ∧ mu_rrw s' < mu_rrw s) (fun x s' => Q_rrw x s s') (f_rrw s) := by
 unfold f_rrw t_rrw
 dsimp only [T.rd, T.rl]
 have hm := fun c1 => rrw_m s hI c1
 obtain ⟨⟨h0, h1⟩, ⟨h2, h3⟩, h4⟩ := hI
 have hl := h4.1
 simp only at hl
 refine allR_ite (fun c1 => ?_) (fun c1 => trivial)
 have c1 : s.i < (List.length s.ms : Int) := by simpa using c1
 obtain ⟨m1, m2⟩ := hm c1
 have e : (if (gi s.al (gi s.ms s.i)) < (gi s.am (gi s.ms s.i)) then (gi s.am (gi s.ms s.i)) else (gi s.al (gi s.ms s.i))) = mx (gi s.al (gi s.ms s.i)) (gi s.am (gi s.ms s.i)) := rfl
 rw [e, wrapS (x := s.i + 1) (by omega) (by omega), wrapS (x := s.sum + mx (gi s.al (gi s.ms s.i)) (gi s.am (gi s.ms s.i))) (by omega) (by omega)]
 refine allR_ite (fun c2 => ?_) (fun c2 => ?_)
 all_goals exact ⟨⟨⟨by simp only; omega, by simp only; omega⟩, ⟨by simp only; omega, by simp only; omega⟩, h4⟩, by simp only [mu_rrw]; omega⟩
def D_rrw : LpD L_rrw := ⟨0, 49, [1, 2, 3, 7, 8, 9], [], A_rrw, B_rrw, fun v b => ⟨gXl (.int .i64) (v.getD 0 .junk), gXl (.int .i64) (v.getD 1 .junk), gI (v.getD 3 .junk), gBo (v.getD 4 .junk), gI (v.getD 5 .junk), gI (gCe (gBk b 0) 0), gXl (.int .i64) (gCe (gBk b 0) 1)⟩, t_rrw, fun s r => { r with al := s.al, am := s.am, cap := s.cap, ms := s.ms }, fun s => s, fun _ s => s, [.exit 0], E_rrw, I_rrw, mu_rrw⟩
abbrev run_rrw := D_rrw.run
abbrev exn_rrw := D_rrw.exn
abbrev E_rrwq := D_rrw.q
theorem rq_rrw (s : L_rrw) (hI : I_rrw s) : (t_rrw s).all (fun _ => True) := by
 refine ⟨fun c1 => ⟨?_, ?_, ?_, fun c2 => ⟨?_, trivial⟩, fun _ => trivial⟩, fun _ => trivial⟩
 all_goals ((obtain ⟨h0, h2, h3, h4, h5⟩ := hI; simp only [decide_eq_true_eq] at c1; have hm := h4 (gi s.ms s.i) (gi_mem (by omega) c1); omega))
theorem ok_rrw : D_rrw.Ok := ⟨fun s => by kernel_rfl, fun s => by kernel_rfl, fun s => rfl, fun s t r => rfl, fun s => rfl, fun s => by kernel_rfl⟩
theorem pf_rrw : D_rrw.Pf (Q_rrw) := ⟨rrw_E, fun _ _ => rfl, rrw_da, rq_rrw⟩
theorem snd_rrw : SoundA Try.prog noGlobs (AN 0) (.loop body_rrw) D_rrw.lp := LpD.snd ok_rrw pf_rrw (code_sound (Γ := gam54) (K := noK) (L := noLoops) gok54 noK_sound body_rrw (fun b hb => by rw [show loopsIn body_rrw = [] by kernel_rfl] at hb; cases hb)) (fun s => by kernel_rfl)
theorem rrw_fin (s : L_rrw) (hE : E_rrw s) : ∃ s', I_rrw s' ∧ Q_rrw (exn_rrw s) s' (run_rrw s) := LpD.fin ok_rrw pf_rrw s hE
theorem rrw_res (s : L_rrw) (hE : E_rrw s) : (fun (x : Ex) (s' : L_rrw) (v : Int × Bool) => x = .exit 0 ∧ (s'.sum, s'.none) = v) (exn_rrw s) (run_rrw s) ((fun s : L_rrw => (s.sum + smM s.al s.am (s.ms.drop s.i.toNat), s.none && (s.ms.drop s.i.toNat).all (fun m => gi s.am m == 0))) s) := by
 exact LpD.finV ok_rrw pf_rrw (fun s : L_rrw => (s.sum + smM s.al s.am (s.ms.drop s.i.toNat), s.none && (s.ms.drop s.i.toNat).all (fun m => gi s.am m == 0))) (fun x s' v => x = .exit 0 ∧ (s'.sum, s'.none) = v) (fun s hI => by
  show allR _ _ (f_rrw s)
  unfold f_rrw t_rrw
  dsimp only [T.rd, T.rl]
  have hm := fun c1 => rrw_m s hI c1
  obtain ⟨⟨h0, h1⟩, ⟨h2, h3⟩, h4⟩ := hI
  have hl := h4.1
  simp only at hl
  refine allR_ite (fun c1 => ?_) (fun c1 => ?_)
  ·have c1 : s.i < (List.length s.ms : Int) := by simpa using c1
   obtain ⟨m1, m2⟩ := hm c1
   have e : (if (gi s.al (gi s.ms s.i)) < (gi s.am (gi s.ms s.i)) then (gi s.am (gi s.ms s.i)) else (gi s.al (gi s.ms s.i))) = mx (gi s.al (gi s.ms s.i)) (gi s.am (gi s.ms s.i)) := rfl
   rw [e, wrapS (x := s.i + 1) (by omega) (by omega), wrapS (x := s.sum + mx (gi s.al (gi s.ms s.i)) (gi s.am (gi s.ms s.i))) (by omega) (by omega)]
   refine allR_ite (fun c2 => ?_) (fun c2 => ?_)
   ·show (_, _) = (_, _)
    simp only
    rw [(gi_step h0 c1).1, smM_cons, List.all_cons, c2, Bool.true_and]
    simp only [Prod.mk.injEq, and_true]
    omega
   ·show (_, _) = (_, _)
    simp only
    rw [(gi_step h0 c1).1, smM_cons, List.all_cons, c2]
    simp only [Bool.false_and, Prod.mk.injEq, and_true]
    omega
  ·have c1 : (List.length s.ms : Int) ≤ s.i := by simpa using c1
   refine ⟨rfl, ?_⟩
   rw [List.drop_eq_nil_of_le (by omega)]
   simp [smM]) s hE
def S0_rrow : List LV → T LV
 | [.agg [.v (.int .i64 cap), .xl (.int .i64) ms], .xl (.int .i64) al, .xl (.int .i64) am] => .req (rowR al am (cap, ms)) (.ok (.v (.bool (rowB al am (cap, ms)))))
 | _ => .no
noncomputable def S_rrow : List LV → T LV := upS Try.prog Try.f46.params.toList S0_rrow
theorem nf_rrow (cap : Int) (ms al am : List Int) : funu Try.prog noGlobs (gam54) noK (fun i => if i = 4 then D_rrw.lp else noLoops i) Try.f46 [.agg [.v (.int .i64 cap), .xl (.int .i64) ms], .xl (.int .i64) al, .xl (.int .i64) am] = .req (E_rrwq (⟨al, am, (0 : Int), true, (0 : Int), cap, ms⟩ : L_rrw)) (.ok (.v (.bool ((run_rrw (⟨al, am, (0 : Int), true, (0 : Int), cap, ms⟩ : L_rrw)).none || (decide ((run_rrw (⟨al, am, (0 : Int), true, (0 : Int), cap, ms⟩ : L_rrw)).sum ≤ cap)))))) := by kernel_rfl
theorem v_rrow : Valid Try.prog noGlobs 46 S_rrow := valid_ofu Try.func46 rfl gok54 noK_sound (L := (fun i => if i = 4 then D_rrw.lp else noLoops i)) (fun b hb => by
 rw [show loopsIn _ = [body_rrw] by kernel_rfl] at hb
 simp only [List.mem_cons, List.not_mem_nil, or_false] at hb
 subst hb
 exact snd_rrw) (fun args lv h => by
 unfold S0_rrow at h
 split at h
 ·simp only [canL, canX]
  rw [nf_rrow]
  rename_i cap ms al am
  obtain ⟨hr, rfl⟩ := h
  refine andI ⟨⟨rfl, rfl, hr⟩, rfl, rfl⟩ (fun hE => ?_)
  obtain ⟨q1, q2⟩ := rrw_res _ hE.1
  have e1 := congrArg Prod.fst q2
  have e2 := congrArg Prod.snd q2
  simp only at e1 e2
  rw [e1, e2]
  simp only [Int.toNat_zero, List.drop_zero, Int.zero_add, Bool.true_and]
  exact rfl
 ·cases h)
structure L_rpm where
 rows : List (Int × (List Int))
 al : List Int
 am : List Int
 r : Bool
 i : Int
def A_rpm (s : L_rpm) : List LV := [.xl tRw s.rows, .xl (.int .i64) s.al, .xl (.int .i64) s.am, .v (.bool s.r), .v (.int .i64 s.i)]
def B_rpm (_ : L_rpm) : List Blk := []
noncomputable def body_rpm : Code := ((loopsIn (Try.f25.body.getD .skip))[0]?).getD .skip
def t_rpm (s : L_rpm) : T (Rd L_rpm) :=
 .br (decide (s.i < (List.length s.rows : Int))) (.req (0 ≤ s.i ∧ s.i < (List.length s.rows : Int)) (.req (rowR s.al s.am (gRw s.rows s.i)) (.br (!(rowB s.al s.am (gRw s.rows s.i))) (.ok (.stop (.ret) { s with r := false })) (.ok (.next { s with i := (IntKind.i64.wrap (s.i + 1)) }))))) (.ok (.stop (.exit 0) s))
abbrev f_rpm (s : L_rpm) := (t_rpm s).rd s
def G_rpm (s : L_rpm) (j : Int) : Bool := rowB s.al s.am (gRw s.rows j)
def E_rpm (s : L_rpm) : Prop := s.i = 0 ∧ 0 ≤ (List.length s.rows : Int) ∧ (List.length s.rows : Int) ≤ 1000 ∧ ∀ r ∈ s.rows, rowR s.al s.am r
def I_rpm (s : L_rpm) : Prop := 0 ≤ s.i ∧ s.i ≤ (List.length s.rows : Int) ∧ (List.length s.rows : Int) ≤ 1000 ∧ (∀ r ∈ s.rows, rowR s.al s.am r) ∧ ∀ j : Nat, (j : Int) < s.i → G_rpm s j = true
def mu_rpm (s : L_rpm) : Nat := ((List.length s.rows : Int) - s.i).toNat
def Q_rpm (x : Ex) (_ s' : L_rpm) : Prop := (x = .exit 0 ∧ ∀ j : Nat, (j : Int) < (List.length s'.rows : Int) → G_rpm s' j = true) ∨ (x = .ret ∧ s'.r = false ∧ ∃ j : Nat, (j : Int) < (List.length s'.rows : Int) ∧ G_rpm s' j = false)
theorem rpm_E : ∀ s, E_rpm s → I_rpm s := by
 intro s h
 obtain ⟨h0, h1, h2, h3⟩ := h
 exact ⟨by omega, by omega, h2, h3, fun j hj => by omega⟩
theorem rpm_da (s : L_rpm) (hI : I_rpm s) : allR (fun s' => I_rpm s' ∧ mu_rpm s' < mu_rpm s) (fun x s' => Q_rpm x s s') (f_rpm s) := by
 unfold f_rpm t_rpm
 dsimp only [T.rd, T.rl]
 obtain ⟨h0, h1, h2, h3, h4⟩ := hI
 refine allR_ite (fun c1 => allR_ite (fun c2 => ?_) (fun c2 => ?_)) (fun c1 => ?_)
 ·have c1 : s.i < (List.length s.rows : Int) := by simpa using c1
  refine .inr ⟨rfl, rfl, s.i.toNat, by simp only; omega, ?_⟩
  rw [Int.toNat_of_nonneg (by omega)]
  have hg : G_rpm s s.i = false := by unfold G_rpm; (first | (have c2 : (!(rowB s.al s.am (gRw s.rows s.i))) = false := c2; simpa using c2) | (have c2 : (!(rowB s.al s.am (gRw s.rows s.i))) = true := c2; simpa using c2))
  exact hg
 ·have c1 : s.i < (List.length s.rows : Int) := by simpa using c1
  have hg : G_rpm s s.i = true := by unfold G_rpm; (first | (have c2 : (!(rowB s.al s.am (gRw s.rows s.i))) = false := c2; simpa using c2) | (have c2 : (!(rowB s.al s.am (gRw s.rows s.i))) = true := c2; simpa using c2))
  rw [wrapS (x := s.i + 1) (by omega) (by omega)]
  refine ⟨⟨by simp only; omega, by simp only; omega, h2, h3, fun j hj => ?_⟩, by simp only [mu_rpm]; omega⟩
  by_cases hji : (j : Int) < s.i
  ·exact h4 j hji
  ·have : (j : Int) = s.i := by simp only at hj; omega
   rw [this]; exact hg
 ·have c1 : (List.length s.rows : Int) ≤ s.i := by simpa using c1
  exact .inl ⟨rfl, fun j hj => h4 j (by omega)⟩
def D_rpm : LpD L_rpm := ⟨0, 22, [0, 1, 2, 6, 7], [], A_rpm, B_rpm, fun v _ => ⟨gXl tRw (v.getD 0 .junk), gXl (.int .i64) (v.getD 1 .junk), gXl (.int .i64) (v.getD 2 .junk), gBo (v.getD 3 .junk), gI (v.getD 4 .junk)⟩, t_rpm, fun s r => { r with rows := s.rows, al := s.al, am := s.am }, fun s => s, fun _ s => s, [.ret, .exit 0], E_rpm, I_rpm, mu_rpm⟩
abbrev run_rpm := D_rpm.run
abbrev exn_rpm := D_rpm.exn
abbrev E_rpmq := D_rpm.q
theorem rq_rpm (s : L_rpm) (hI : I_rpm s) : (t_rpm s).all (fun _ => True) := by
 refine ⟨fun c1 => ⟨?_, ?_, fun _ => trivial, fun _ => trivial⟩, fun _ => trivial⟩
 all_goals ((obtain ⟨h0, h1, h2, h3, h4⟩ := hI; simp only [decide_eq_true_eq] at c1; first | omega | exact h3 _ (by rw [gRw_eq (by omega)]; exact List.getElem_mem _)))
noncomputable def gam58 : Specs := specsOf [(46, S_rrow)]
theorem gok58 : ∀ g S, gam58 g = some S → Valid Try.prog noGlobs g S := specs_ok (l := [(46, S_rrow)]) ⟨v_rrow, trivial⟩
theorem ok_rpm : D_rpm.Ok := ⟨fun s => by kernel_rfl, fun s => by kernel_rfl, fun s => rfl, fun s t r => rfl, fun s => rfl, fun s => by kernel_rfl⟩
theorem pf_rpm : D_rpm.Pf (Q_rpm) := ⟨rpm_E, fun _ _ => rfl, rpm_da, rq_rpm⟩
theorem snd_rpm : SoundA Try.prog noGlobs (AN 0) (.loop body_rpm) D_rpm.lp := LpD.snd ok_rpm pf_rpm (code_sound (Γ := gam58) (K := noK) (L := noLoops) gok58 noK_sound body_rpm (fun b hb => by rw [show loopsIn body_rpm = [] by kernel_rfl] at hb; cases hb)) (fun s => by kernel_rfl)
theorem rpm_fin (s : L_rpm) (hE : E_rpm s) : ∃ s', I_rpm s' ∧ Q_rpm (exn_rpm s) s' (run_rpm s) := LpD.fin ok_rpm pf_rpm s hE
def S0_rperm : List LV → T LV
 | [.xl (.pair (.int .i64) (.sl (.int .i64))) rows, .xl (.int .i64) al, .xl (.int .i64) am] => .req ((List.length rows : Int) ≤ 1000 ∧ ∀ r ∈ rows, rowR al am r) (.ok (.v (.bool (permB rows al am))))
 | _ => .no
noncomputable def S_rperm : List LV → T LV := upS Try.prog Try.f25.params.toList S0_rperm
theorem nf_rperm (rows : List (Int × (List Int))) (al am : List Int) : funu Try.prog noGlobs (gam58) noK (fun i => if i = 2 then D_rpm.lp else noLoops i) Try.f25 [.xl tRw rows, .xl (.int .i64) al, .xl (.int .i64) am] = .req (E_rpmq (⟨rows, al, am, false, (0 : Int)⟩ : L_rpm)) (.br (isEx (exn_rpm (⟨rows, al, am, false, (0 : Int)⟩ : L_rpm)) (.ret)) (.ok (.v (.bool (run_rpm (⟨rows, al, am, false, (0 : Int)⟩ : L_rpm)).r))) (.ok (.v (.bool true)))) := by kernel_rfl
theorem v_rperm : Valid Try.prog noGlobs 25 S_rperm := valid_ofu Try.func25 rfl gok58 noK_sound (L := (fun i => if i = 2 then D_rpm.lp else noLoops i)) (fun b hb => by
 rw [show loopsIn _ = [body_rpm] by kernel_rfl] at hb
 simp only [List.mem_cons, List.not_mem_nil, or_false] at hb
 subst hb
 exact snd_rpm) (fun args lv h => by
 unfold S0_rperm at h
 split at h
 ·simp only [canL, canX]
  rw [nf_rperm]
  rename_i rows al am
  obtain ⟨⟨hl, hr⟩, rfl⟩ := h
  refine andI ⟨⟨rfl, Int.natCast_nonneg _, hl, hr⟩, rfl, rfl⟩ (fun hE => ?_)
  obtain ⟨s', _, hq⟩ := rpm_fin _ hE.1
  unfold permB
  rcases hq with ⟨q1, q2⟩ | ⟨q1, q2, j, q3, q4⟩
  ·have e : rows.all (rowB al am) = true := (all_iff (d := ((0, []) : Rw))).1 fun j hj => q2 j hj
   rw [q1, e]
   exact ⟨fun h => (by cases h), fun _ => rfl⟩
  ·have e : rows.all (rowB al am) = false := by
    rw [Bool.eq_false_iff]
    intro hx
    have := (all_iff (d := ((0, []) : Rw))).2 hx j q3
    exact Bool.noConfusion (this.symm.trans q4)
   rw [q1, q2, e]
   exact ⟨fun _ => rfl, fun h => by cases h⟩
 ·cases h)
structure L_rint where
 a : List Int
 b : List Int
 r : Bool
 i : Int
def A_rint (s : L_rint) : List LV := [.xl (.int .i64) s.a, .xl (.int .i64) s.b, .v (.bool s.r), .v (.int .i64 s.i)]
def B_rint (_ : L_rint) : List Blk := []
noncomputable def body_rint : Code := ((loopsIn (Try.f16.body.getD .skip))[0]?).getD .skip
def t_rint (s : L_rint) : T (Rd L_rint) :=
 .br (decide (s.i < (List.length s.a : Int))) (.req (0 ≤ s.i ∧ s.i < (List.length s.a : Int)) (.req (0 ≤ s.i ∧ s.i < (List.length s.b : Int)) (.br ((gi s.a s.i) != (gi s.b s.i)) (.ok (.stop (.ret) { s with r := false })) (.ok (.next { s with i := (IntKind.i64.wrap (s.i + 1)) }))))) (.ok (.stop (.exit 0) s))
abbrev f_rint (s : L_rint) := (t_rint s).rd s
def G_rint (s : L_rint) (j : Int) : Bool := gi s.a j == gi s.b j
def E_rint (s : L_rint) : Prop := s.i = 0 ∧ 0 ≤ (List.length s.a : Int) ∧ (List.length s.a : Int) ≤ 1000 ∧ s.a.length = s.b.length
def I_rint (s : L_rint) : Prop := 0 ≤ s.i ∧ s.i ≤ (List.length s.a : Int) ∧ (List.length s.a : Int) ≤ 1000 ∧ (s.a.length = s.b.length) ∧ ∀ j : Nat, (j : Int) < s.i → G_rint s j = true
def mu_rint (s : L_rint) : Nat := ((List.length s.a : Int) - s.i).toNat
def Q_rint (x : Ex) (_ s' : L_rint) : Prop := (x = .exit 0 ∧ ∀ j : Nat, (j : Int) < (List.length s'.a : Int) → G_rint s' j = true) ∨ (x = .ret ∧ s'.r = false ∧ ∃ j : Nat, (j : Int) < (List.length s'.a : Int) ∧ G_rint s' j = false)
theorem rint_E : ∀ s, E_rint s → I_rint s := by
 intro s h
 obtain ⟨h0, h1, h2, h3⟩ := h
 exact ⟨by omega, by omega, h2, h3, fun j hj => by omega⟩
theorem rint_da (s : L_rint) (hI : I_rint s) : allR (fun s' => I_rint s' ∧ mu_rint s' < mu_rint s) (fun x s' => Q_rint x s s') (f_rint s) := by
 unfold f_rint t_rint
 dsimp only [T.rd, T.rl]
 obtain ⟨h0, h1, h2, h3, h4⟩ := hI
 refine allR_ite (fun c1 => allR_ite (fun c2 => ?_) (fun c2 => ?_)) (fun c1 => ?_)
 ·have c1 : s.i < (List.length s.a : Int) := by simpa using c1
  refine .inr ⟨rfl, rfl, s.i.toNat, by simp only; omega, ?_⟩
  rw [Int.toNat_of_nonneg (by omega)]
  have hg : G_rint s s.i = false := by unfold G_rint; (simpa using c2)
  exact hg
 ·have c1 : s.i < (List.length s.a : Int) := by simpa using c1
  have hg : G_rint s s.i = true := by unfold G_rint; (simpa using c2)
  rw [wrapS (x := s.i + 1) (by omega) (by omega)]
  refine ⟨⟨by simp only; omega, by simp only; omega, h2, h3, fun j hj => ?_⟩, by simp only [mu_rint]; omega⟩
  by_cases hji : (j : Int) < s.i
  ·exact h4 j hji
  ·have : (j : Int) = s.i := by simp only at hj; omega
   rw [this]; exact hg
 ·have c1 : (List.length s.a : Int) ≤ s.i := by simpa using c1
  exact .inl ⟨rfl, fun j hj => h4 j (by omega)⟩
def D_rint : LpD L_rint := ⟨0, 26, [0, 1, 4, 5], [], A_rint, B_rint, fun v _ => ⟨gXl (.int .i64) (v.getD 0 .junk), gXl (.int .i64) (v.getD 1 .junk), gBo (v.getD 2 .junk), gI (v.getD 3 .junk)⟩, t_rint, fun s r => { r with a := s.a, b := s.b }, fun s => s, fun _ s => s, [.ret, .exit 0], E_rint, I_rint, mu_rint⟩
abbrev run_rint := D_rint.run
abbrev exn_rint := D_rint.exn
abbrev E_rintq := D_rint.q
theorem rq_rint (s : L_rint) (hI : I_rint s) : (t_rint s).all (fun _ => True) := by
 refine ⟨fun c1 => ⟨?_, ?_, fun _ => trivial, fun _ => trivial⟩, fun _ => trivial⟩
 all_goals ((obtain ⟨h0, h1, h2, h3, h4⟩ := hI; simp at c1; omega))
theorem ok_rint : D_rint.Ok := ⟨fun s => by kernel_rfl, fun s => by kernel_rfl, fun s => rfl, fun s t r => rfl, fun s => rfl, fun s => by kernel_rfl⟩
theorem pf_rint : D_rint.Pf (Q_rint) := ⟨rint_E, fun _ _ => rfl, rint_da, rq_rint⟩
theorem snd_rint : SoundA Try.prog noGlobs (AN 0) (.loop body_rint) D_rint.lp := LpD.snd ok_rint pf_rint (code_sound (Γ := gam54) (K := noK) (L := noLoops) gok54 noK_sound body_rint (fun b hb => by rw [show loopsIn body_rint = [] by kernel_rfl] at hb; cases hb)) (fun s => by kernel_rfl)
theorem rint_fin (s : L_rint) (hE : E_rint s) : ∃ s', I_rint s' ∧ Q_rint (exn_rint s) s' (run_rint s) := LpD.fin ok_rint pf_rint s hE
def S0_rints : List LV → T LV
 | [.xl (.int .i64) a, .xl (.int .i64) b] => .req ((List.length a : Int) ≤ 1000) (.ok (.v (.bool (a == b))))
 | _ => .no
noncomputable def S_rints : List LV → T LV := upS Try.prog Try.f16.params.toList S0_rints
theorem nf_rints (a b : List Int) : funu Try.prog noGlobs (gam54) noK (fun i => if i = 4 then D_rint.lp else noLoops i) Try.f16 [.xl (.int .i64) a, .xl (.int .i64) b] = .br ((List.length a : Int) != (List.length b : Int)) (.ok (.v (.bool false))) (.req (E_rintq (⟨a, b, false, (0 : Int)⟩ : L_rint)) (.br (isEx (exn_rint (⟨a, b, false, (0 : Int)⟩ : L_rint)) (.ret)) (.ok (.v (.bool (run_rint (⟨a, b, false, (0 : Int)⟩ : L_rint)).r))) (.ok (.v (.bool true))))) := by kernel_rfl
theorem v_rints : Valid Try.prog noGlobs 16 S_rints := valid_ofu Try.func16 rfl gok54 noK_sound (L := (fun i => if i = 4 then D_rint.lp else noLoops i)) (fun b hb => by
 rw [show loopsIn _ = [body_rint] by kernel_rfl] at hb
 simp only [List.mem_cons, List.not_mem_nil, or_false] at hb
 subst hb
 exact snd_rint) (fun args lv h => by
 unfold S0_rints at h
 split at h
 ·simp only [canL, canX]
  rw [nf_rints]
  rename_i a b
  obtain ⟨hl, rfl⟩ := h
  refine ⟨fun c => congrArg (fun z => LV.v (.bool z)) ?_, fun c => ?_⟩
  ·have c : ¬ a.length = b.length := by simp at c; omega
   rw [eq_comm, beq_eq_false_iff_ne]
   exact fun e => c (by rw [e])
  ·have c : a.length = b.length := by simp at c; omega
   refine andI ⟨⟨rfl, Int.natCast_nonneg _, hl, c⟩, rfl, rfl⟩ (fun hE => ?_)
   obtain ⟨s', _, hq⟩ := rint_fin _ hE.1
   rcases hq with ⟨q1, q2⟩ | ⟨q1, q2, j, q3, q4⟩
   ·have e : (a == b) = true := by
     rw [beq_iff_eq]
     refine List.ext_getElem c fun j h1 h2 => ?_
     have : (gi a j == gi b j) = true := q2 j (by show (j : Int) < (a.length : Int); omega)
     rw [gi_eq (by simpa using h1), gi_eq (by simpa using h2)] at this
     simpa using this
    rw [q1, e]
    exact ⟨fun h => (by cases h), fun _ => rfl⟩
   ·have e : (a == b) = false := by
     rw [beq_eq_false_iff_ne]
     rintro rfl
     have q4 : (gi a j == gi a j) = false := q4
     simp at q4
    rw [q1, q2, e]
    exact ⟨fun _ => rfl, fun h => by cases h⟩
 ·cases h)
end Go.Proofs.Ytihbikkkmoaljaa
