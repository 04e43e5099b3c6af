/- The reference: sites. -/
import Derived.Test.YtihbikkkmoaljaaEa
namespace Go.Proofs.Ytihbikkkmoaljaa
open Go.Sx
def S0_rins : List LV → T LV
 | [.v (.int .i64 n), .v (.int .i64 a), .v (.int .i64 b)] => .ok (.v (.bool (inB n a b)))
 | _ => .no
noncomputable def S_rins : List LV → T LV := upS Try.prog Try.f51.params.toList S0_rins
noncomputable def gam46 : Specs := specsOf []
theorem gok46 : ∀ g S, gam46 g = some S → Valid Try.prog noGlobs g S := specs_ok (l := []) trivial
theorem nf_rins (n a b : Int) : funu Try.prog noGlobs (gam46) noK noLoops Try.f51 [.v (.int .i64 n), .v (.int .i64 a), .v (.int .i64 b)] = .ok (.v (.bool ((decide (n ≥ a)) && (decide (n ≤ b))))) := by kernel_rfl
theorem v_rins : Valid Try.prog noGlobs 51 S_rins := valid_ofu Try.func51 rfl gok46 noK_sound (no_loops (by kernel_rfl)) (fun args lv h => by
 unfold S0_rins at h
 split at h
 ·simp only [canL, canX]
  rw [nf_rins]
  exact h
 ·cases h)
def S0_rcha : List LV → T LV
 | [.v (.agg ⟨[.string nm, .int .i64 at_, .int .i64 ph, .int .i64 mi, .int .i64 ma, .int .i64 st, .int .i64 fb, .int .i64 ow]⟩)] => .ok (.v (.bool (chW (nm, at_, ph, mi, ma, st, fb, ow))))
 | _ => .no
noncomputable def S_rcha : List LV → T LV := upS Try.prog Try.f54.params.toList S0_rcha
noncomputable def gam47 : Specs := specsOf [(51, S_rins)]
theorem gok47 : ∀ g S, gam47 g = some S → Valid Try.prog noGlobs g S := specs_ok (l := [(51, S_rins)]) ⟨v_rins, trivial⟩
theorem nf_rcha (nm : ByteArray) (at_ ph mi ma st fb ow : Int) : funu Try.prog noGlobs (gam47) noK noLoops Try.f54 [.v (.agg #[.string nm, .int .i64 at_, .int .i64 ph, .int .i64 mi, .int .i64 ma, .int .i64 st, .int .i64 fb, .int .i64 ow])] = .ok (.v (.bool ((inB ph (1 : Int) (7 : Int)) && ((inB mi (1 : Int) (80 : Int)) && ((inB ma mi (80 : Int)) && ((inB st (1 : Int) (80 : Int)) && ((fb == 0) || (inB fb mi ma)))))))) := by kernel_rfl
theorem v_rcha : Valid Try.prog noGlobs 54 S_rcha := valid_ofu Try.func54 rfl gok47 noK_sound (no_loops (by kernel_rfl)) (fun args lv h => by
 unfold S0_rcha at h
 split at h
 ·simp only [canL, canX]
  rw [nf_rcha]
  exact h
 ·cases h)
def S0_rfew : List LV → T LV
 | [.agg [.xl (.pair .str (.pair (.int .i64) (.pair (.int .i64) (.pair (.int .i64) (.pair (.pair (.int .i64) (.int .i64)) (.pair (.int .i64) (.pair (.int .i64) (.pair (.int .i64) (.pair (.int .i64) (.int .i64)))))))))) cs, .xl (.str) os, .xl (.pair .str (.pair (.int .i64) (.pair (.int .i64) (.int .i64)))) ks, .xl (.pair .str (.pair (.int .i64) (.pair (.int .i64) (.pair (.int .i64) (.pair (.int .i64) (.pair (.int .i64) (.pair (.int .i64) (.int .i64)))))))) gs, .xl (.pair .str (.int .i64)) bs]] => .ok (.v (.bool (decide (List.length cs ≤ 40 ∧ List.length os ≤ 40 ∧ List.length ks ≤ 40 ∧ List.length gs ≤ 40 ∧ List.length bs ≤ 40))))
 | _ => .no
noncomputable def S_rfew : List LV → T LV := upS Try.prog Try.f29.params.toList S0_rfew
theorem nf_rfew (cs : List (ByteArray × (Int × (Int × (Int × ((Int × Int) × (Int × (Int × (Int × (Int × Int)))))))))) (os : List ByteArray) (ks : List (ByteArray × (Int × (Int × Int)))) (gs : List (ByteArray × (Int × (Int × (Int × (Int × (Int × (Int × Int)))))))) (bs : List (ByteArray × Int)) : funu Try.prog noGlobs (gam46) noK noLoops Try.f29 [.agg [.xl tCd cs, .xl .str os, .xl tKo ks, .xl tCh gs, .xl tBa bs]] = .ok (.v (.bool ((decide ((List.length cs : Int) ≤ 40)) && ((decide ((List.length os : Int) ≤ 40)) && ((decide ((List.length ks : Int) ≤ 40)) && ((decide ((List.length gs : Int) ≤ 40)) && (decide ((List.length bs : Int) ≤ 40)))))))) := by kernel_rfl
theorem v_rfew : Valid Try.prog noGlobs 29 S_rfew := valid_ofu Try.func29 rfl gok46 noK_sound (no_loops (by kernel_rfl)) (fun args lv h => by
 unfold S0_rfew at h
 split at h
 ·simp only [canL, canX]
  rw [nf_rfew]
  obtain rfl := h
  refine congrArg (fun z => LV.v (.bool z)) ?_
  rw [Bool.eq_iff_iff]
  simp only [Bool.and_eq_true, decide_eq_true_eq]
  omega
 ·cases h)
def S0_rcon : List LV → T LV
 | [.v (.agg ⟨[.string nm, .int .i64 up_, .int .i64 li, .int .i64 ne, .int .i64 ra, .int .i64 he, .int .i64 am, .int .i64 mo, .int .i64 ga, .int .i64 lo, .int .i64 de]⟩), .v (.int .i64 i)] => .req (0 ≤ i ∧ i ≤ 1000) (.ok (.v (.bool (cdV i (nm, up_, li, ne, (ra, he), am, mo, ga, lo, de)))))
 | _ => .no
noncomputable def S_rcon : List LV → T LV := upS Try.prog Try.f53.params.toList S0_rcon
theorem nf_rcon (nm : ByteArray) (up_ li ne ra he am mo ga lo de i : Int) : funu Try.prog noGlobs (gam47) noK noLoops Try.f53 [.v (.agg #[.string nm, .int .i64 up_, .int .i64 li, .int .i64 ne, .int .i64 ra, .int .i64 he, .int .i64 am, .int .i64 mo, .int .i64 ga, .int .i64 lo, .int .i64 de]), .v (.int .i64 i)] = .br ((!(inB li (1 : Int) (1000 : Int))) || ((!(inB ne (1 : Int) (1000 : Int))) || (if i == 0 then (up_ != (-1)) || ((decide (i > 0)) && (!(inB up_ (0 : Int) (IntKind.i64.wrap (i - 1))))) else (decide (i > 0)) && (!(inB up_ (0 : Int) (IntKind.i64.wrap (i - 1))))))) (.ok (.v (.bool false))) (.br ((!((ra == 0) && (he == 0))) && ((!(inB ra (1 : Int) (1000 : Int))) || (!(inB he (0 : Int) (1000000 : Int))))) (.ok (.v (.bool false))) (.ok (.v (.bool (((am == 0) && ((mo == 0) && ((ga == 0) && ((lo == 0) && (de == 0))))) || ((inB am (0 : Int) (200000 : Int)) && ((inB mo (IntKind.i64.wrap (am + 1)) (200000 : Int)) && ((inB ga (0 : Int) (1000 : Int)) && ((inB lo (0 : Int) (1000 : Int)) && (inB de (1 : Int) (1000000 : Int))))))))))) := by kernel_rfl
theorem v_rcon : Valid Try.prog noGlobs 53 S_rcon := valid_ofu Try.func53 rfl gok47 noK_sound (no_loops (by kernel_rfl)) (fun args lv h => by
 unfold S0_rcon at h
 split at h
 ·simp only [canL, canX]
  rw [nf_rcon]
  rename_i nm up_ li ne ra he am mo ga lo de i
  obtain ⟨⟨h0, h1⟩, rfl⟩ := h
  have hw : IntKind.i64.wrap (i - 1) = i - 1 := wrapS (by omega) (by omega)
  rw [hw]
  have hU : (if i == 0 then (up_ != (-1)) || ((decide (i > 0)) && (!(inB up_ (0 : Int) (i - 1)))) else (decide (i > 0)) && (!(inB up_ (0 : Int) (i - 1)))) = !(if i = 0 then up_ == -1 else inB up_ 0 (i - 1)) := by
   by_cases e : i = 0
   ·subst e
    simp
    rfl
   ·rw [if_neg (by simpa using e), if_neg e, decide_eq_true (by omega), Bool.true_and]
  rw [hU]
  unfold cdV
  simp only
  generalize (if i = 0 then up_ == -1 else inB up_ 0 (i - 1)) = u
  generalize inB li 1 1000 = a
  generalize inB ne 1 1000 = b
  have hC : ((((am == 0) && ((mo == 0) && ((ga == 0) && ((lo == 0) && (de == 0))))) || ((inB am (0 : Int) (200000 : Int)) && ((inB mo (IntKind.i64.wrap (am + 1)) (200000 : Int)) && ((inB ga (0 : Int) (1000 : Int)) && ((inB lo (0 : Int) (1000 : Int)) && (inB de (1 : Int) (1000000 : Int)))))))) = cbV (am, mo, ga, lo, de) := by
   unfold cbV cbZ
   simp only
   congr 1
   by_cases ha : inB am 0 200000 = true
   ·have := inB_iff.1 ha
    rw [wrapS (x := am + 1) (by omega) (by omega), ha, Bool.true_and, Bool.eq_iff_iff]
    simp only [Bool.and_eq_true, inB_iff, decide_eq_true_eq]
    omega
   ·have ha : inB am 0 200000 = false := by simpa using ha
    rw [ha, Bool.false_and, eq_comm, Bool.eq_false_iff]
    have := inB_no.1 ha
    simp only [ne_eq, Bool.and_eq_true, inB_iff, decide_eq_true_eq]
    omega
  rw [hC]
  generalize cbV (am, mo, ga, lo, de) = z
  generalize ((ra == 0) && (he == 0)) = f
  generalize inB ra 1 1000 = r
  generalize inB he 0 1000000 = q
  cases u <;> cases a <;> cases b <;> cases z <;> cases f <;> cases r <;> cases q <;> simp [T.all]
 ·cases h)
structure L_rh where
 l : List ByteArray
 w : ByteArray
 r : Bool
 i : Int
def A_rh (s : L_rh) : List LV := [.xl .str s.l, .v (.string s.w), .v (.bool s.r), .v (.int .i64 s.i)]
def B_rh (_ : L_rh) : List Blk := []
noncomputable def body_rh : Code := ((loopsIn (Try.f66.body.getD .skip))[0]?).getD .skip
def t_rh (s : L_rh) : T (Rd L_rh) :=
 .br (decide (s.i < (List.length s.l : Int))) (.req (0 ≤ s.i ∧ s.i < (List.length s.l : Int)) (.br ((gS s.l s.i).toList == s.w.toList) (.ok (.stop (.ret) { s with r := true })) (.ok (.next { s with i := (IntKind.i64.wrap (s.i + 1)) })))) (.ok (.stop (.exit 0) s))
abbrev f_rh (s : L_rh) := (t_rh s).rd s
def E_rh (s : L_rh) : Prop := s.i = 0 ∧ (List.length s.l : Int) ≤ 1000 ∧ True
def I_rh (s : L_rh) : Prop := 0 ≤ s.i ∧ s.i ≤ (List.length s.l : Int) ∧ (List.length s.l : Int) ≤ 1000 ∧ True
def mu_rh (s : L_rh) : Nat := ((List.length s.l : Int) - s.i).toNat
def Q_rh (_ : Ex) (_ _ : L_rh) : Prop := True
theorem rh_E : ∀ s, E_rh s → I_rh s := by
 intro s h
 obtain ⟨h0, h1, h2⟩ := h
 exact ⟨by omega, by omega, h1, h2⟩
theorem rh_da (s : L_rh) (hI : I_rh s) : allR (fun s' => I_rh s' ∧ mu_rh s' < mu_rh s) (fun x s' => Q_rh x s s') (f_rh s) := by
 unfold f_rh t_rh
 dsimp only [T.rd, T.rl]
 obtain ⟨h0, h1, h2, h3⟩ := hI
 refine allR_ite (fun c1 => ?_) (fun c1 => ?_)
 ·refine allR_ite (fun c2 => ?_) (fun c2 => ?_)
  ·trivial
  ·have c1 : s.i < (List.length s.l : Int) := by simpa using c1
   rw [wrapS (x := s.i + 1) (by omega) (by omega)]
   exact ⟨⟨by simp only; omega, by simp only; omega, h2, h3⟩, by simp only [mu_rh]; omega⟩
 ·trivial
def D_rh : LpD L_rh := ⟨0, 18, [0, 1, 4, 5], [], A_rh, B_rh, fun v _ => ⟨gXl .str (v.getD 0 .junk), gSr (v.getD 1 .junk), gBo (v.getD 2 .junk), gI (v.getD 3 .junk)⟩, t_rh, fun s r => { r with l := s.l, w := s.w }, fun s => s, fun _ s => s, [.ret, .exit 0], E_rh, I_rh, mu_rh⟩
abbrev run_rh := D_rh.run
abbrev exn_rh := D_rh.exn
abbrev E_rhq := D_rh.q
theorem rq_rh (s : L_rh) (hI : I_rh s) : (t_rh s).all (fun _ => True) := by
 refine ⟨fun c1 => ⟨?_, fun _ => trivial, fun _ => trivial⟩, fun _ => trivial⟩
 ·(obtain ⟨h0, h1, h2, h3⟩ := hI; simp only [decide_eq_true_eq] at c1; omega)
theorem ok_rh : D_rh.Ok := ⟨fun s => by kernel_rfl, fun s => by kernel_rfl, fun s => rfl, fun s t r => rfl, fun s => rfl, fun s => by kernel_rfl⟩
theorem pf_rh : D_rh.Pf (Q_rh) := ⟨rh_E, fun _ _ => rfl, rh_da, rq_rh⟩
theorem snd_rh : SoundA Try.prog noGlobs (AN 0) (.loop body_rh) D_rh.lp := LpD.snd ok_rh pf_rh (code_sound (Γ := gam46) (K := noK) (L := noLoops) gok46 noK_sound body_rh (fun b hb => by rw [show loopsIn body_rh = [] by kernel_rfl] at hb; cases hb)) (fun s => by kernel_rfl)
theorem rh_fin (s : L_rh) (hE : E_rh s) : ∃ s', I_rh s' ∧ Q_rh (exn_rh s) s' (run_rh s) := LpD.fin ok_rh pf_rh s hE
theorem rh_res (s : L_rh) (hE : E_rh s) : (fun (x : Ex) (s' : L_rh) (v : Bool) => (x = .ret ∧ s'.r = true ∧ v = true) ∨ (x = .exit 0 ∧ v = false)) (exn_rh s) (run_rh s) ((fun s : L_rh => isIn (s.l.drop s.i.toNat) s.w) s) := by
 exact LpD.finV ok_rh pf_rh (fun s : L_rh => isIn (s.l.drop s.i.toNat) s.w) (fun x s' v => (x = .ret ∧ s'.r = true ∧ v = true) ∨ (x = .exit 0 ∧ v = false)) (fun s hI => by
  show allR _ _ (f_rh s)
  unfold f_rh t_rh
  dsimp only [T.rd, T.rl]
  obtain ⟨h0, h1, h2, h3⟩ := hI
  have ic : ∀ (x : ByteArray) xs, isIn (x :: xs) s.w = (s.w == x || isIn xs s.w) := fun _ _ => rfl
  refine allR_ite (fun c1 => allR_ite (fun c2 => ?_) (fun c2 => ?_)) (fun c1 => ?_)
  ·have c1 : s.i < (List.length s.l : Int) := by simpa using c1
   rw [tl_beq] at c2
   have c2 : s.w == gS s.l s.i := by simpa using (eq_of_beq c2).symm
   refine .inl ⟨rfl, rfl, ?_⟩
   try simp only
   rw [(gS_step h0 c1).1, ic, c2]
   rfl
  ·have c1 : s.i < (List.length s.l : Int) := by simpa using c1
   rw [tl_beq] at c2
   have c2 : (s.w == gS s.l s.i) = false := by
    have : ¬ gS s.l s.i = s.w := by simpa using c2
    simpa using fun e => this e.symm
   rw [wrapS (x := s.i + 1) (by omega) (by omega)]
   show isIn _ _ = isIn _ _
   rw [(gS_step h0 c1).1, ic, c2, Bool.false_or]
  ·have c1 : (List.length s.l : Int) ≤ s.i := by simpa using c1
   refine .inr ⟨rfl, ?_⟩
   rw [List.drop_eq_nil_of_le (by omega)]
   rfl) s hE
def S0_rhs : List LV → T LV
 | [.xl (.str) l, .v (.string w)] => .req ((List.length l : Int) ≤ 1000) (.ok (.v (.bool (isIn l w))))
 | _ => .no
noncomputable def S_rhs : List LV → T LV := upS Try.prog Try.f66.params.toList S0_rhs
theorem nf_rhs (l : List ByteArray) (w : ByteArray) : funu Try.prog noGlobs (gam46) noK (fun i => if i = 2 then D_rh.lp else noLoops i) Try.f66 [.xl .str l, .v (.string w)] = .req (E_rhq (⟨l, w, false, (0 : Int)⟩ : L_rh)) (.br (isEx (exn_rh (⟨l, w, false, (0 : Int)⟩ : L_rh)) (.ret)) (.ok (.v (.bool (run_rh (⟨l, w, false, (0 : Int)⟩ : L_rh)).r))) (.ok (.v (.bool false)))) := by kernel_rfl
theorem v_rhs : Valid Try.prog noGlobs 66 S_rhs := valid_ofu Try.func66 rfl gok46 noK_sound (L := (fun i => if i = 2 then D_rh.lp else noLoops i)) (fun b hb => by
 rw [show loopsIn _ = [body_rh] by kernel_rfl] at hb
 simp only [List.mem_cons, List.not_mem_nil, or_false] at hb
 subst hb
 exact snd_rh) (fun args lv h => by
 unfold S0_rhs at h
 split at h
 ·simp only [canL, canX]
  rw [nf_rhs]
  obtain ⟨hl, rfl⟩ := h
  refine andI ⟨⟨rfl, hl, trivial⟩, rfl, rfl⟩ (fun hE => ?_)
  rcases rh_res _ hE.1 with ⟨q1, q2, q3⟩ | ⟨q1, q2⟩
  ·rw [q1, q2]
   exact ⟨fun _ => congrArg (fun z => LV.v (.bool z)) q3.symm, fun h => by cases h⟩
  ·rw [q1]
   exact ⟨fun h => (by cases h), fun _ => congrArg (fun z => LV.v (.bool z)) q2.symm⟩
 ·cases h)
structure L_rn0 where
 r : Bool
 i : Int
 s_Conductors : List (ByteArray × (Int × (Int × (Int × ((Int × Int) × (Int × (Int × (Int × (Int × Int)))))))))
 s_Owners : List ByteArray
 s_Contracts : List (ByteArray × (Int × (Int × Int)))
 s_Chargers : List (ByteArray × (Int × (Int × (Int × (Int × (Int × (Int × Int)))))))
 s_Bays : List (ByteArray × Int)
 l : List ByteArray
def A_rn0 (s : L_rn0) : List LV := [.own 0 0, .v (.bool s.r), .os 1 1 0 (List.length s.l), .v (.int .i64 s.i)]
def B_rn0 (s : L_rn0) : List Blk := [⟨[.xl tCd s.s_Conductors, .xl .str s.s_Owners, .xl tKo s.s_Contracts, .xl tCh s.s_Chargers, .xl tBa s.s_Bays], 30, .cl, false⟩, ⟨[], 9, .vec .str s.l, false⟩]
noncomputable def body_rn0 : Code := ((loopsIn (Try.f52.body.getD .skip))[0]?).getD .skip
def t_rn0 (s : L_rn0) : T (Rd L_rn0) :=
 .br (decide (s.i < (List.length s.s_Conductors : Int))) (.req (0 ≤ s.i ∧ s.i < (List.length s.s_Conductors : Int)) (.req (0 + (List.length s.l) = List.length s.l ∧ ((List.length s.l + List.length ([(gCd s.s_Conductors s.i).1]) : Nat) : Int) * 16 ≤ 2 ^ 47 ∧ ((List.length s.l + List.length ([(gCd s.s_Conductors s.i).1]) : Nat) : Int) < 2 ^ 62) (.req (0 = 0 ∧ (List.length s.l + List.length ([(gCd s.s_Conductors s.i).1])) = List.length (s.l ++ ([(gCd s.s_Conductors s.i).1]))) (.ok (.next { s with i := (IntKind.i64.wrap (s.i + 1)), l := (s.l ++ ([(gCd s.s_Conductors s.i).1])) }))))) (.rl s.l (.ok (.stop (.exit 0) s)))
abbrev f_rn0 (s : L_rn0) := (t_rn0 s).rd s
def E_rn0 (s : L_rn0) : Prop := s.i = 0 ∧ (List.length s.s_Conductors : Int) ≤ 1000 ∧ (s.l.length : Int) ≤ 5000 + s.i
def I_rn0 (s : L_rn0) : Prop := 0 ≤ s.i ∧ s.i ≤ (List.length s.s_Conductors : Int) ∧ (List.length s.s_Conductors : Int) ≤ 1000 ∧ (s.l.length : Int) ≤ 5000 + s.i
def mu_rn0 (s : L_rn0) : Nat := ((List.length s.s_Conductors : Int) - s.i).toNat
def Q_rn0 (_ : Ex) (_ _ : L_rn0) : Prop := True
theorem rn0_E : ∀ s, E_rn0 s → I_rn0 s := by
 intro s h
 obtain ⟨h0, h1, h2⟩ := h
 exact ⟨by omega, by omega, h1, h2⟩
theorem rn0_da (s : L_rn0) (hI : I_rn0 s) : allR (fun s' => I_rn0 s' ∧ mu_rn0 s' < mu_rn0 s) (fun x s' => Q_rn0 x s s') (f_rn0 s) := by
 unfold f_rn0 t_rn0
 dsimp only [T.rd, T.rl]
 obtain ⟨h0, h1, h2, h3⟩ := hI
 refine allR_ite (fun c1 => ?_) (fun c1 => ?_)
 ·have c1 : s.i < (List.length s.s_Conductors : Int) := by simpa using c1
  rw [wrapS (x := s.i + 1) (by omega) (by omega)]
  exact ⟨⟨by simp only; omega, by simp only; omega, h2, by simp only [List.length_append, List.length_cons, List.length_nil]; omega⟩, by simp only [mu_rn0]; omega⟩
 ·trivial
def D_rn0 : LpD L_rn0 := ⟨0, 112, [1, 2, 3, 4], [.nl 3 9 .str], A_rn0, B_rn0, fun v b => ⟨gBo (v.getD 1 .junk), gI (v.getD 3 .junk), gXl tCd (gCe (gBk b 0) 0), gXl .str (gCe (gBk b 0) 1), gXl tKo (gCe (gBk b 0) 2), gXl tCh (gCe (gBk b 0) 3), gXl tBa (gCe (gBk b 0) 4), gVe .str (gBk b 1)⟩, t_rn0, fun s r => { r with r := s.r, s_Conductors := s.s_Conductors, s_Owners := s.s_Owners, s_Contracts := s.s_Contracts, s_Chargers := s.s_Chargers, s_Bays := s.s_Bays }, fun s => s, fun _ s => s, [.exit 0], E_rn0, I_rn0, mu_rn0⟩
abbrev run_rn0 := D_rn0.run
abbrev exn_rn0 := D_rn0.exn
abbrev E_rn0q := D_rn0.q
theorem rq_rn0 (s : L_rn0) (hI : I_rn0 s) : (t_rn0 s).all (fun _ => True) := by
 refine ⟨fun c1 => ⟨?_, ?_, ?_, trivial⟩, fun c1 => ⟨⟨rfl, rfl⟩, trivial⟩⟩
 iterate 2 · (obtain ⟨h0, h1, h2, h3⟩ := hI; simp only [decide_eq_true_eq] at c1; first | omega | (refine ⟨by omega, ?_, ?_⟩ <;> simp only [List.length_cons, List.length_nil] <;> omega))
 ·exact ⟨rfl, by simp⟩
noncomputable def gam48 : Specs := specsOf [(65, S_rname), (66, S_rhs)]
theorem gok48 : ∀ g S, gam48 g = some S → Valid Try.prog noGlobs g S := specs_ok (l := [(65, S_rname), (66, S_rhs)]) ⟨v_rname, v_rhs, trivial⟩
theorem ok_rn0 : D_rn0.Ok := ⟨fun s => by kernel_rfl, fun s => by kernel_rfl, fun s => rfl, fun s t r => rfl, fun s => rfl, fun s => by kernel_rfl⟩
theorem pf_rn0 : D_rn0.Pf (Q_rn0) := ⟨rn0_E, fun _ _ => rfl, rn0_da, rq_rn0⟩
theorem snd_rn0 : SoundA Try.prog noGlobs (AN 0) (.loop body_rn0) D_rn0.lp := LpD.snd ok_rn0 pf_rn0 (code_sound (Γ := gam48) (K := noK) (L := noLoops) gok48 noK_sound body_rn0 (fun b hb => by rw [show loopsIn body_rn0 = [] by kernel_rfl] at hb; cases hb)) (fun s => by kernel_rfl)
theorem rn0_fin (s : L_rn0) (hE : E_rn0 s) : ∃ s', I_rn0 s' ∧ Q_rn0 (exn_rn0 s) s' (run_rn0 s) := LpD.fin ok_rn0 pf_rn0 s hE
theorem rn0_res (s : L_rn0) (hE : E_rn0 s) : (fun (x : Ex) (s' : L_rn0) (v : List ByteArray) => x = .exit 0 ∧ s'.l = v) (exn_rn0 s) (run_rn0 s) ((fun s : L_rn0 => s.l ++ (s.s_Conductors.drop s.i.toNat).map (·.1)) s) := by
 exact LpD.finV ok_rn0 pf_rn0 (fun s : L_rn0 => s.l ++ (s.s_Conductors.drop s.i.toNat).map (·.1)) (fun x s' v => x = .exit 0 ∧ s'.l = v) (fun s hI => by
  show allR _ _ (f_rn0 s)
  unfold f_rn0 t_rn0
  dsimp only [T.rd, T.rl]
  obtain ⟨h0, h1, h2, h3⟩ := hI
  refine allR_ite (fun c1 => ?_) (fun c1 => ?_)
  ·have c1 : s.i < (List.length s.s_Conductors : Int) := by simpa using c1
   rw [wrapS (x := s.i + 1) (by omega) (by omega)]
   show _ ++ _ = _ ++ _
   try simp only
   rw [(gCd_step h0 c1).1]
   simp
  ·have c1 : (List.length s.s_Conductors : Int) ≤ s.i := by simpa using c1
   refine ⟨rfl, ?_⟩
   rw [List.drop_eq_nil_of_le (by omega)]
   simp) s hE
structure L_rn1 where
 r : Bool
 i : Int
 s_Conductors : List (ByteArray × (Int × (Int × (Int × ((Int × Int) × (Int × (Int × (Int × (Int × Int)))))))))
 s_Owners : List ByteArray
 s_Contracts : List (ByteArray × (Int × (Int × Int)))
 s_Chargers : List (ByteArray × (Int × (Int × (Int × (Int × (Int × (Int × Int)))))))
 s_Bays : List (ByteArray × Int)
 l : List ByteArray
def A_rn1 (s : L_rn1) : List LV := [.own 0 0, .v (.bool s.r), .os 1 1 0 (List.length s.l), .v (.int .i64 s.i)]
def B_rn1 (s : L_rn1) : List Blk := [⟨[.xl tCd s.s_Conductors, .xl .str s.s_Owners, .xl tKo s.s_Contracts, .xl tCh s.s_Chargers, .xl tBa s.s_Bays], 30, .cl, false⟩, ⟨[], 9, .vec .str s.l, false⟩]
noncomputable def body_rn1 : Code := ((loopsIn (Try.f52.body.getD .skip))[1]?).getD .skip
def t_rn1 (s : L_rn1) : T (Rd L_rn1) :=
 .br (decide (s.i < (List.length s.s_Owners : Int))) (.req (0 ≤ s.i ∧ s.i < (List.length s.s_Owners : Int)) (.req (0 + (List.length s.l) = List.length s.l ∧ ((List.length s.l + List.length ([(gS s.s_Owners s.i)]) : Nat) : Int) * 16 ≤ 2 ^ 47 ∧ ((List.length s.l + List.length ([(gS s.s_Owners s.i)]) : Nat) : Int) < 2 ^ 62) (.req (0 = 0 ∧ (List.length s.l + List.length ([(gS s.s_Owners s.i)])) = List.length (s.l ++ ([(gS s.s_Owners s.i)]))) (.ok (.next { s with i := (IntKind.i64.wrap (s.i + 1)), l := (s.l ++ ([(gS s.s_Owners s.i)])) }))))) (.rl s.l (.ok (.stop (.exit 2) s)))
abbrev f_rn1 (s : L_rn1) := (t_rn1 s).rd s
def E_rn1 (s : L_rn1) : Prop := s.i = 0 ∧ (List.length s.s_Owners : Int) ≤ 1000 ∧ (s.l.length : Int) ≤ 5000 + s.i
def I_rn1 (s : L_rn1) : Prop := 0 ≤ s.i ∧ s.i ≤ (List.length s.s_Owners : Int) ∧ (List.length s.s_Owners : Int) ≤ 1000 ∧ (s.l.length : Int) ≤ 5000 + s.i
def mu_rn1 (s : L_rn1) : Nat := ((List.length s.s_Owners : Int) - s.i).toNat
def Q_rn1 (_ : Ex) (_ _ : L_rn1) : Prop := True
theorem rn1_E : ∀ s, E_rn1 s → I_rn1 s := by
 intro s h
 obtain ⟨h0, h1, h2⟩ := h
 exact ⟨by omega, by omega, h1, h2⟩
theorem rn1_da (s : L_rn1) (hI : I_rn1 s) : allR (fun s' => I_rn1 s' ∧ mu_rn1 s' < mu_rn1 s) (fun x s' => Q_rn1 x s s') (f_rn1 s) := by
 unfold f_rn1 t_rn1
 dsimp only [T.rd, T.rl]
 obtain ⟨h0, h1, h2, h3⟩ := hI
 refine allR_ite (fun c1 => ?_) (fun c1 => ?_)
 ·have c1 : s.i < (List.length s.s_Owners : Int) := by simpa using c1
  rw [wrapS (x := s.i + 1) (by omega) (by omega)]
  exact ⟨⟨by simp only; omega, by simp only; omega, h2, by simp only [List.length_append, List.length_cons, List.length_nil]; omega⟩, by simp only [mu_rn1]; omega⟩
 ·trivial
def D_rn1 : LpD L_rn1 := ⟨0, 112, [1, 2, 3, 5], [], A_rn1, B_rn1, fun v b => ⟨gBo (v.getD 1 .junk), gI (v.getD 3 .junk), gXl tCd (gCe (gBk b 0) 0), gXl .str (gCe (gBk b 0) 1), gXl tKo (gCe (gBk b 0) 2), gXl tCh (gCe (gBk b 0) 3), gXl tBa (gCe (gBk b 0) 4), gVe .str (gBk b 1)⟩, t_rn1, fun s r => { r with r := s.r, s_Conductors := s.s_Conductors, s_Owners := s.s_Owners, s_Contracts := s.s_Contracts, s_Chargers := s.s_Chargers, s_Bays := s.s_Bays }, fun s => s, fun _ s => s, [.exit 2], E_rn1, I_rn1, mu_rn1⟩
abbrev run_rn1 := D_rn1.run
abbrev exn_rn1 := D_rn1.exn
abbrev E_rn1q := D_rn1.q
theorem rq_rn1 (s : L_rn1) (hI : I_rn1 s) : (t_rn1 s).all (fun _ => True) := by
 refine ⟨fun c1 => ⟨?_, ?_, ?_, trivial⟩, fun c1 => ⟨⟨rfl, rfl⟩, trivial⟩⟩
 iterate 2 · (obtain ⟨h0, h1, h2, h3⟩ := hI; simp only [decide_eq_true_eq] at c1; first | omega | (refine ⟨by omega, ?_, ?_⟩ <;> simp only [List.length_cons, List.length_nil] <;> omega))
 ·exact ⟨rfl, by simp⟩
theorem ok_rn1 : D_rn1.Ok := ⟨fun s => by kernel_rfl, fun s => by kernel_rfl, fun s => rfl, fun s t r => rfl, fun s => rfl, fun s => by kernel_rfl⟩
theorem pf_rn1 : D_rn1.Pf (Q_rn1) := ⟨rn1_E, fun _ _ => rfl, rn1_da, rq_rn1⟩
theorem snd_rn1 : SoundA Try.prog noGlobs (AN 0) (.loop body_rn1) D_rn1.lp := LpD.snd ok_rn1 pf_rn1 (code_sound (Γ := gam48) (K := noK) (L := noLoops) gok48 noK_sound body_rn1 (fun b hb => by rw [show loopsIn body_rn1 = [] by kernel_rfl] at hb; cases hb)) (fun s => by kernel_rfl)
theorem rn1_fin (s : L_rn1) (hE : E_rn1 s) : ∃ s', I_rn1 s' ∧ Q_rn1 (exn_rn1 s) s' (run_rn1 s) := LpD.fin ok_rn1 pf_rn1 s hE
theorem rn1_res (s : L_rn1) (hE : E_rn1 s) : (fun (x : Ex) (s' : L_rn1) (v : List ByteArray) => x = .exit 2 ∧ s'.l = v) (exn_rn1 s) (run_rn1 s) ((fun s : L_rn1 => s.l ++ (s.s_Owners.drop s.i.toNat)) s) := by
 exact LpD.finV ok_rn1 pf_rn1 (fun s : L_rn1 => s.l ++ (s.s_Owners.drop s.i.toNat)) (fun x s' v => x = .exit 2 ∧ s'.l = v) (fun s hI => by
  show allR _ _ (f_rn1 s)
  unfold f_rn1 t_rn1
  dsimp only [T.rd, T.rl]
  obtain ⟨h0, h1, h2, h3⟩ := hI
  refine allR_ite (fun c1 => ?_) (fun c1 => ?_)
  ·have c1 : s.i < (List.length s.s_Owners : Int) := by simpa using c1
   rw [wrapS (x := s.i + 1) (by omega) (by omega)]
   show _ ++ _ = _ ++ _
   try simp only
   rw [(gS_step h0 c1).1]
   simp
  ·have c1 : (List.length s.s_Owners : Int) ≤ s.i := by simpa using c1
   refine ⟨rfl, ?_⟩
   rw [List.drop_eq_nil_of_le (by omega)]
   simp) s hE
structure L_rn2 where
 r : Bool
 i : Int
 s_Conductors : List (ByteArray × (Int × (Int × (Int × ((Int × Int) × (Int × (Int × (Int × (Int × Int)))))))))
 s_Owners : List ByteArray
 s_Contracts : List (ByteArray × (Int × (Int × Int)))
 s_Chargers : List (ByteArray × (Int × (Int × (Int × (Int × (Int × (Int × Int)))))))
 s_Bays : List (ByteArray × Int)
 l : List ByteArray
def A_rn2 (s : L_rn2) : List LV := [.own 0 0, .v (.bool s.r), .os 1 1 0 (List.length s.l), .v (.int .i64 s.i)]
def B_rn2 (s : L_rn2) : List Blk := [⟨[.xl tCd s.s_Conductors, .xl .str s.s_Owners, .xl tKo s.s_Contracts, .xl tCh s.s_Chargers, .xl tBa s.s_Bays], 30, .cl, false⟩, ⟨[], 9, .vec .str s.l, false⟩]
noncomputable def body_rn2 : Code := ((loopsIn (Try.f52.body.getD .skip))[2]?).getD .skip
def t_rn2 (s : L_rn2) : T (Rd L_rn2) :=
 .br (decide (s.i < (List.length s.s_Contracts : Int))) (.req (0 ≤ s.i ∧ s.i < (List.length s.s_Contracts : Int)) (.req (0 + (List.length s.l) = List.length s.l ∧ ((List.length s.l + List.length ([(gKo s.s_Contracts s.i).1]) : Nat) : Int) * 16 ≤ 2 ^ 47 ∧ ((List.length s.l + List.length ([(gKo s.s_Contracts s.i).1]) : Nat) : Int) < 2 ^ 62) (.req (0 = 0 ∧ (List.length s.l + List.length ([(gKo s.s_Contracts s.i).1])) = List.length (s.l ++ ([(gKo s.s_Contracts s.i).1]))) (.ok (.next { s with i := (IntKind.i64.wrap (s.i + 1)), l := (s.l ++ ([(gKo s.s_Contracts s.i).1])) }))))) (.rl s.l (.ok (.stop (.exit 4) s)))
abbrev f_rn2 (s : L_rn2) := (t_rn2 s).rd s
def E_rn2 (s : L_rn2) : Prop := s.i = 0 ∧ (List.length s.s_Contracts : Int) ≤ 1000 ∧ (s.l.length : Int) ≤ 5000 + s.i
def I_rn2 (s : L_rn2) : Prop := 0 ≤ s.i ∧ s.i ≤ (List.length s.s_Contracts : Int) ∧ (List.length s.s_Contracts : Int) ≤ 1000 ∧ (s.l.length : Int) ≤ 5000 + s.i
def mu_rn2 (s : L_rn2) : Nat := ((List.length s.s_Contracts : Int) - s.i).toNat
def Q_rn2 (_ : Ex) (_ _ : L_rn2) : Prop := True
theorem rn2_E : ∀ s, E_rn2 s → I_rn2 s := by
 intro s h
 obtain ⟨h0, h1, h2⟩ := h
 exact ⟨by omega, by omega, h1, h2⟩
theorem rn2_da (s : L_rn2) (hI : I_rn2 s) : allR (fun s' => I_rn2 s' ∧ mu_rn2 s' < mu_rn2 s) (fun x s' => Q_rn2 x s s') (f_rn2 s) := by
 unfold f_rn2 t_rn2
 dsimp only [T.rd, T.rl]
 obtain ⟨h0, h1, h2, h3⟩ := hI
 refine allR_ite (fun c1 => ?_) (fun c1 => ?_)
 ·have c1 : s.i < (List.length s.s_Contracts : Int) := by simpa using c1
  rw [wrapS (x := s.i + 1) (by omega) (by omega)]
  exact ⟨⟨by simp only; omega, by simp only; omega, h2, by simp only [List.length_append, List.length_cons, List.length_nil]; omega⟩, by simp only [mu_rn2]; omega⟩
 ·trivial
def D_rn2 : LpD L_rn2 := ⟨0, 112, [1, 2, 3, 6], [], A_rn2, B_rn2, fun v b => ⟨gBo (v.getD 1 .junk), gI (v.getD 3 .junk), gXl tCd (gCe (gBk b 0) 0), gXl .str (gCe (gBk b 0) 1), gXl tKo (gCe (gBk b 0) 2), gXl tCh (gCe (gBk b 0) 3), gXl tBa (gCe (gBk b 0) 4), gVe .str (gBk b 1)⟩, t_rn2, fun s r => { r with r := s.r, s_Conductors := s.s_Conductors, s_Owners := s.s_Owners, s_Contracts := s.s_Contracts, s_Chargers := s.s_Chargers, s_Bays := s.s_Bays }, fun s => s, fun _ s => s, [.exit 4], E_rn2, I_rn2, mu_rn2⟩
abbrev run_rn2 := D_rn2.run
abbrev exn_rn2 := D_rn2.exn
abbrev E_rn2q := D_rn2.q
theorem rq_rn2 (s : L_rn2) (hI : I_rn2 s) : (t_rn2 s).all (fun _ => True) := by
 refine ⟨fun c1 => ⟨?_, ?_, ?_, trivial⟩, fun c1 => ⟨⟨rfl, rfl⟩, trivial⟩⟩
 iterate 2 · (obtain ⟨h0, h1, h2, h3⟩ := hI; simp only [decide_eq_true_eq] at c1; first | omega | (refine ⟨by omega, ?_, ?_⟩ <;> simp only [List.length_cons, List.length_nil] <;> omega))
 ·exact ⟨rfl, by simp⟩
theorem ok_rn2 : D_rn2.Ok := ⟨fun s => by kernel_rfl, fun s => by kernel_rfl, fun s => rfl, fun s t r => rfl, fun s => rfl, fun s => by kernel_rfl⟩
theorem pf_rn2 : D_rn2.Pf (Q_rn2) := ⟨rn2_E, fun _ _ => rfl, rn2_da, rq_rn2⟩
theorem snd_rn2 : SoundA Try.prog noGlobs (AN 0) (.loop body_rn2) D_rn2.lp := LpD.snd ok_rn2 pf_rn2 (code_sound (Γ := gam48) (K := noK) (L := noLoops) gok48 noK_sound body_rn2 (fun b hb => by rw [show loopsIn body_rn2 = [] by kernel_rfl] at hb; cases hb)) (fun s => by kernel_rfl)
theorem rn2_fin (s : L_rn2) (hE : E_rn2 s) : ∃ s', I_rn2 s' ∧ Q_rn2 (exn_rn2 s) s' (run_rn2 s) := LpD.fin ok_rn2 pf_rn2 s hE
theorem rn2_res (s : L_rn2) (hE : E_rn2 s) : (fun (x : Ex) (s' : L_rn2) (v : List ByteArray) => x = .exit 4 ∧ s'.l = v) (exn_rn2 s) (run_rn2 s) ((fun s : L_rn2 => s.l ++ (s.s_Contracts.drop s.i.toNat).map (·.1)) s) := by
 exact LpD.finV ok_rn2 pf_rn2 (fun s : L_rn2 => s.l ++ (s.s_Contracts.drop s.i.toNat).map (·.1)) (fun x s' v => x = .exit 4 ∧ s'.l = v) (fun s hI => by
  show allR _ _ (f_rn2 s)
  unfold f_rn2 t_rn2
  dsimp only [T.rd, T.rl]
  obtain ⟨h0, h1, h2, h3⟩ := hI
  refine allR_ite (fun c1 => ?_) (fun c1 => ?_)
  ·have c1 : s.i < (List.length s.s_Contracts : Int) := by simpa using c1
   rw [wrapS (x := s.i + 1) (by omega) (by omega)]
   show _ ++ _ = _ ++ _
   try simp only
   rw [(gKo_step h0 c1).1]
   simp
  ·have c1 : (List.length s.s_Contracts : Int) ≤ s.i := by simpa using c1
   refine ⟨rfl, ?_⟩
   rw [List.drop_eq_nil_of_le (by omega)]
   simp) s hE
structure L_rn3 where
 r : Bool
 i : Int
 s_Conductors : List (ByteArray × (Int × (Int × (Int × ((Int × Int) × (Int × (Int × (Int × (Int × Int)))))))))
 s_Owners : List ByteArray
 s_Contracts : List (ByteArray × (Int × (Int × Int)))
 s_Chargers : List (ByteArray × (Int × (Int × (Int × (Int × (Int × (Int × Int)))))))
 s_Bays : List (ByteArray × Int)
 l : List ByteArray
def A_rn3 (s : L_rn3) : List LV := [.own 0 0, .v (.bool s.r), .os 1 1 0 (List.length s.l), .v (.int .i64 s.i)]
def B_rn3 (s : L_rn3) : List Blk := [⟨[.xl tCd s.s_Conductors, .xl .str s.s_Owners, .xl tKo s.s_Contracts, .xl tCh s.s_Chargers, .xl tBa s.s_Bays], 30, .cl, false⟩, ⟨[], 9, .vec .str s.l, false⟩]
noncomputable def body_rn3 : Code := ((loopsIn (Try.f52.body.getD .skip))[3]?).getD .skip
def t_rn3 (s : L_rn3) : T (Rd L_rn3) :=
 .br (decide (s.i < (List.length s.s_Chargers : Int))) (.req (0 ≤ s.i ∧ s.i < (List.length s.s_Chargers : Int)) (.req (0 + (List.length s.l) = List.length s.l ∧ ((List.length s.l + List.length ([(gCh s.s_Chargers s.i).1]) : Nat) : Int) * 16 ≤ 2 ^ 47 ∧ ((List.length s.l + List.length ([(gCh s.s_Chargers s.i).1]) : Nat) : Int) < 2 ^ 62) (.req (0 = 0 ∧ (List.length s.l + List.length ([(gCh s.s_Chargers s.i).1])) = List.length (s.l ++ ([(gCh s.s_Chargers s.i).1]))) (.ok (.next { s with i := (IntKind.i64.wrap (s.i + 1)), l := (s.l ++ ([(gCh s.s_Chargers s.i).1])) }))))) (.rl s.l (.ok (.stop (.exit 6) s)))
abbrev f_rn3 (s : L_rn3) := (t_rn3 s).rd s
def E_rn3 (s : L_rn3) : Prop := s.i = 0 ∧ (List.length s.s_Chargers : Int) ≤ 1000 ∧ (s.l.length : Int) ≤ 5000 + s.i
def I_rn3 (s : L_rn3) : Prop := 0 ≤ s.i ∧ s.i ≤ (List.length s.s_Chargers : Int) ∧ (List.length s.s_Chargers : Int) ≤ 1000 ∧ (s.l.length : Int) ≤ 5000 + s.i
def mu_rn3 (s : L_rn3) : Nat := ((List.length s.s_Chargers : Int) - s.i).toNat
def Q_rn3 (_ : Ex) (_ _ : L_rn3) : Prop := True
theorem rn3_E : ∀ s, E_rn3 s → I_rn3 s := by
 intro s h
 obtain ⟨h0, h1, h2⟩ := h
 exact ⟨by omega, by omega, h1, h2⟩
theorem rn3_da (s : L_rn3) (hI : I_rn3 s) : allR (fun s' => I_rn3 s' ∧ mu_rn3 s' < mu_rn3 s) (fun x s' => Q_rn3 x s s') (f_rn3 s) := by
 unfold f_rn3 t_rn3
 dsimp only [T.rd, T.rl]
 obtain ⟨h0, h1, h2, h3⟩ := hI
 refine allR_ite (fun c1 => ?_) (fun c1 => ?_)
 ·have c1 : s.i < (List.length s.s_Chargers : Int) := by simpa using c1
  rw [wrapS (x := s.i + 1) (by omega) (by omega)]
  exact ⟨⟨by simp only; omega, by simp only; omega, h2, by simp only [List.length_append, List.length_cons, List.length_nil]; omega⟩, by simp only [mu_rn3]; omega⟩
 ·trivial
def D_rn3 : LpD L_rn3 := ⟨0, 112, [1, 2, 3, 7], [], A_rn3, B_rn3, fun v b => ⟨gBo (v.getD 1 .junk), gI (v.getD 3 .junk), gXl tCd (gCe (gBk b 0) 0), gXl .str (gCe (gBk b 0) 1), gXl tKo (gCe (gBk b 0) 2), gXl tCh (gCe (gBk b 0) 3), gXl tBa (gCe (gBk b 0) 4), gVe .str (gBk b 1)⟩, t_rn3, fun s r => { r with r := s.r, s_Conductors := s.s_Conductors, s_Owners := s.s_Owners, s_Contracts := s.s_Contracts, s_Chargers := s.s_Chargers, s_Bays := s.s_Bays }, fun s => s, fun _ s => s, [.exit 6], E_rn3, I_rn3, mu_rn3⟩
abbrev run_rn3 := D_rn3.run
abbrev exn_rn3 := D_rn3.exn
abbrev E_rn3q := D_rn3.q
theorem rq_rn3 (s : L_rn3) (hI : I_rn3 s) : (t_rn3 s).all (fun _ => True) := by
 refine ⟨fun c1 => ⟨?_, ?_, ?_, trivial⟩, fun c1 => ⟨⟨rfl, rfl⟩, trivial⟩⟩
 iterate 2 · (obtain ⟨h0, h1, h2, h3⟩ := hI; simp only [decide_eq_true_eq] at c1; first | omega | (refine ⟨by omega, ?_, ?_⟩ <;> simp only [List.length_cons, List.length_nil] <;> omega))
 ·exact ⟨rfl, by simp⟩
theorem ok_rn3 : D_rn3.Ok := ⟨fun s => by kernel_rfl, fun s => by kernel_rfl, fun s => rfl, fun s t r => rfl, fun s => rfl, fun s => by kernel_rfl⟩
theorem pf_rn3 : D_rn3.Pf (Q_rn3) := ⟨rn3_E, fun _ _ => rfl, rn3_da, rq_rn3⟩
theorem snd_rn3 : SoundA Try.prog noGlobs (AN 0) (.loop body_rn3) D_rn3.lp := LpD.snd ok_rn3 pf_rn3 (code_sound (Γ := gam48) (K := noK) (L := noLoops) gok48 noK_sound body_rn3 (fun b hb => by rw [show loopsIn body_rn3 = [] by kernel_rfl] at hb; cases hb)) (fun s => by kernel_rfl)
theorem rn3_fin (s : L_rn3) (hE : E_rn3 s) : ∃ s', I_rn3 s' ∧ Q_rn3 (exn_rn3 s) s' (run_rn3 s) := LpD.fin ok_rn3 pf_rn3 s hE
theorem rn3_res (s : L_rn3) (hE : E_rn3 s) : (fun (x : Ex) (s' : L_rn3) (v : List ByteArray) => x = .exit 6 ∧ s'.l = v) (exn_rn3 s) (run_rn3 s) ((fun s : L_rn3 => s.l ++ (s.s_Chargers.drop s.i.toNat).map (·.1)) s) := by
 exact LpD.finV ok_rn3 pf_rn3 (fun s : L_rn3 => s.l ++ (s.s_Chargers.drop s.i.toNat).map (·.1)) (fun x s' v => x = .exit 6 ∧ s'.l = v) (fun s hI => by
  show allR _ _ (f_rn3 s)
  unfold f_rn3 t_rn3
  dsimp only [T.rd, T.rl]
  obtain ⟨h0, h1, h2, h3⟩ := hI
  refine allR_ite (fun c1 => ?_) (fun c1 => ?_)
  ·have c1 : s.i < (List.length s.s_Chargers : Int) := by simpa using c1
   rw [wrapS (x := s.i + 1) (by omega) (by omega)]
   show _ ++ _ = _ ++ _
   try simp only
   rw [(gCh_step h0 c1).1]
   simp
  ·have c1 : (List.length s.s_Chargers : Int) ≤ s.i := by simpa using c1
   refine ⟨rfl, ?_⟩
   rw [List.drop_eq_nil_of_le (by omega)]
   simp) s hE
structure L_rn4 where
 r : Bool
 i : Int
 s_Conductors : List (ByteArray × (Int × (Int × (Int × ((Int × Int) × (Int × (Int × (Int × (Int × Int)))))))))
 s_Owners : List ByteArray
 s_Contracts : List (ByteArray × (Int × (Int × Int)))
 s_Chargers : List (ByteArray × (Int × (Int × (Int × (Int × (Int × (Int × Int)))))))
 s_Bays : List (ByteArray × Int)
 l : List ByteArray
def A_rn4 (s : L_rn4) : List LV := [.own 0 0, .v (.bool s.r), .os 1 1 0 (List.length s.l), .v (.int .i64 s.i)]
def B_rn4 (s : L_rn4) : List Blk := [⟨[.xl tCd s.s_Conductors, .xl .str s.s_Owners, .xl tKo s.s_Contracts, .xl tCh s.s_Chargers, .xl tBa s.s_Bays], 30, .cl, false⟩, ⟨[], 9, .vec .str s.l, false⟩]
noncomputable def body_rn4 : Code := ((loopsIn (Try.f52.body.getD .skip))[4]?).getD .skip
def t_rn4 (s : L_rn4) : T (Rd L_rn4) :=
 .br (decide (s.i < (List.length s.s_Bays : Int))) (.req (0 ≤ s.i ∧ s.i < (List.length s.s_Bays : Int)) (.req (0 + (List.length s.l) = List.length s.l ∧ ((List.length s.l + List.length ([(gBa s.s_Bays s.i).1]) : Nat) : Int) * 16 ≤ 2 ^ 47 ∧ ((List.length s.l + List.length ([(gBa s.s_Bays s.i).1]) : Nat) : Int) < 2 ^ 62) (.req (0 = 0 ∧ (List.length s.l + List.length ([(gBa s.s_Bays s.i).1])) = List.length (s.l ++ ([(gBa s.s_Bays s.i).1]))) (.ok (.next { s with i := (IntKind.i64.wrap (s.i + 1)), l := (s.l ++ ([(gBa s.s_Bays s.i).1])) }))))) (.rl s.l (.ok (.stop (.exit 8) s)))
abbrev f_rn4 (s : L_rn4) := (t_rn4 s).rd s
def E_rn4 (s : L_rn4) : Prop := s.i = 0 ∧ (List.length s.s_Bays : Int) ≤ 1000 ∧ (s.l.length : Int) ≤ 5000 + s.i
def I_rn4 (s : L_rn4) : Prop := 0 ≤ s.i ∧ s.i ≤ (List.length s.s_Bays : Int) ∧ (List.length s.s_Bays : Int) ≤ 1000 ∧ (s.l.length : Int) ≤ 5000 + s.i
def mu_rn4 (s : L_rn4) : Nat := ((List.length s.s_Bays : Int) - s.i).toNat
def Q_rn4 (_ : Ex) (_ _ : L_rn4) : Prop := True
theorem rn4_E : ∀ s, E_rn4 s → I_rn4 s := by
 intro s h
 obtain ⟨h0, h1, h2⟩ := h
 exact ⟨by omega, by omega, h1, h2⟩
theorem rn4_da (s : L_rn4) (hI : I_rn4 s) : allR (fun s' => I_rn4 s' ∧ mu_rn4 s' < mu_rn4 s) (fun x s' => Q_rn4 x s s') (f_rn4 s) := by
 unfold f_rn4 t_rn4
 dsimp only [T.rd, T.rl]
 obtain ⟨h0, h1, h2, h3⟩ := hI
 refine allR_ite (fun c1 => ?_) (fun c1 => ?_)
 ·have c1 : s.i < (List.length s.s_Bays : Int) := by simpa using c1
  rw [wrapS (x := s.i + 1) (by omega) (by omega)]
  exact ⟨⟨by simp only; omega, by simp only; omega, h2, by simp only [List.length_append, List.length_cons, List.length_nil]; omega⟩, by simp only [mu_rn4]; omega⟩
 ·trivial
def D_rn4 : LpD L_rn4 := ⟨0, 112, [1, 2, 3, 8], [], A_rn4, B_rn4, fun v b => ⟨gBo (v.getD 1 .junk), gI (v.getD 3 .junk), gXl tCd (gCe (gBk b 0) 0), gXl .str (gCe (gBk b 0) 1), gXl tKo (gCe (gBk b 0) 2), gXl tCh (gCe (gBk b 0) 3), gXl tBa (gCe (gBk b 0) 4), gVe .str (gBk b 1)⟩, t_rn4, fun s r => { r with r := s.r, s_Conductors := s.s_Conductors, s_Owners := s.s_Owners, s_Contracts := s.s_Contracts, s_Chargers := s.s_Chargers, s_Bays := s.s_Bays }, fun s => s, fun _ s => s, [.exit 8], E_rn4, I_rn4, mu_rn4⟩
abbrev run_rn4 := D_rn4.run
abbrev exn_rn4 := D_rn4.exn
abbrev E_rn4q := D_rn4.q
theorem rq_rn4 (s : L_rn4) (hI : I_rn4 s) : (t_rn4 s).all (fun _ => True) := by
 refine ⟨fun c1 => ⟨?_, ?_, ?_, trivial⟩, fun c1 => ⟨⟨rfl, rfl⟩, trivial⟩⟩
 iterate 2 · (obtain ⟨h0, h1, h2, h3⟩ := hI; simp only [decide_eq_true_eq] at c1; first | omega | (refine ⟨by omega, ?_, ?_⟩ <;> simp only [List.length_cons, List.length_nil] <;> omega))
 ·exact ⟨rfl, by simp⟩
theorem ok_rn4 : D_rn4.Ok := ⟨fun s => by kernel_rfl, fun s => by kernel_rfl, fun s => rfl, fun s t r => rfl, fun s => rfl, fun s => by kernel_rfl⟩
theorem pf_rn4 : D_rn4.Pf (Q_rn4) := ⟨rn4_E, fun _ _ => rfl, rn4_da, rq_rn4⟩
theorem snd_rn4 : SoundA Try.prog noGlobs (AN 0) (.loop body_rn4) D_rn4.lp := LpD.snd ok_rn4 pf_rn4 (code_sound (Γ := gam48) (K := noK) (L := noLoops) gok48 noK_sound body_rn4 (fun b hb => by rw [show loopsIn body_rn4 = [] by kernel_rfl] at hb; cases hb)) (fun s => by kernel_rfl)
theorem rn4_fin (s : L_rn4) (hE : E_rn4 s) : ∃ s', I_rn4 s' ∧ Q_rn4 (exn_rn4 s) s' (run_rn4 s) := LpD.fin ok_rn4 pf_rn4 s hE
theorem rn4_res (s : L_rn4) (hE : E_rn4 s) : (fun (x : Ex) (s' : L_rn4) (v : List ByteArray) => x = .exit 8 ∧ s'.l = v) (exn_rn4 s) (run_rn4 s) ((fun s : L_rn4 => s.l ++ (s.s_Bays.drop s.i.toNat).map (·.1)) s) := by
 exact LpD.finV ok_rn4 pf_rn4 (fun s : L_rn4 => s.l ++ (s.s_Bays.drop s.i.toNat).map (·.1)) (fun x s' v => x = .exit 8 ∧ s'.l = v) (fun s hI => by
  show allR _ _ (f_rn4 s)
  unfold f_rn4 t_rn4
  dsimp only [T.rd, T.rl]
  obtain ⟨h0, h1, h2, h3⟩ := hI
  refine allR_ite (fun c1 => ?_) (fun c1 => ?_)
  ·have c1 : s.i < (List.length s.s_Bays : Int) := by simpa using c1
   rw [wrapS (x := s.i + 1) (by omega) (by omega)]
   show _ ++ _ = _ ++ _
   try simp only
   rw [(gBa_step h0 c1).1]
   simp
  ·have c1 : (List.length s.s_Bays : Int) ≤ s.i := by simpa using c1
   refine ⟨rfl, ?_⟩
   rw [List.drop_eq_nil_of_le (by omega)]
   simp) s hE
structure L_rn5 where
 r : Bool
 i : Int
 l : List ByteArray
def A_rn5 (s : L_rn5) : List LV := [.v (.bool s.r), .os 0 1 0 (List.length s.l), .v (.int .i64 s.i)]
def B_rn5 (s : L_rn5) : List Blk := [⟨[], 9, .vec .str s.l, false⟩]
noncomputable def body_rn5 : Code := ((loopsIn (Try.f52.body.getD .skip))[5]?).getD .skip
def t_rn5 (s : L_rn5) : T (Rd L_rn5) :=
 .br (decide (s.i < ((List.length s.l : Nat) : Int))) (.req (0 ≤ s.i ∧ s.i < ((List.length s.l : Nat) : Int)) (.req (s.i.toNat < List.length s.l) (.req (((s.l.getD s.i.toNat (Ty.dflt .str)).size : Int) ≤ 9223372036854775807) (.br (!(nameB (s.l.getD s.i.toNat (Ty.dflt .str)))) (.rl s.l (.ok (.stop (.ret) { s with r := false }))) (.req (0 ≤ (0 : Int) ∧ (0 : Int) ≤ s.i ∧ s.i ≤ ((List.length s.l : Nat) : Int)) (.req (0 ≤ s.i ∧ s.i < ((List.length s.l : Nat) : Int)) (.req (s.i.toNat < List.length s.l) (.req ((0 + (0 : Int).toNat) + (s.i.toNat - (0 : Int).toNat) ≤ List.length s.l) (.req ((List.length ((s.l.drop (0 + (0 : Int).toNat)).take (s.i.toNat - (0 : Int).toNat)) : Int) ≤ 1000) (.br (isIn ((s.l.drop (0 + (0 : Int).toNat)).take (s.i.toNat - (0 : Int).toNat)) (s.l.getD s.i.toNat (Ty.dflt .str))) (.rl s.l (.ok (.stop (.ret) { s with r := false }))) (.rl s.l (.ok (.next { s with i := (IntKind.i64.wrap (s.i + 1)) }))))))))))))) (.rl s.l (.ok (.stop (.exit 10) s)))
abbrev f_rn5 (s : L_rn5) := (t_rn5 s).rd s
def G_rn5 (s : L_rn5) (j : Int) : Bool := nameB (gS s.l j) && !(((s.l.take j.toNat).map id).contains (id (gS s.l j)))
theorem rn5_g (s : L_rn5) (_ : 0 ≤ s.i) : G_rn5 s s.i = (nameB (s.l.getD s.i.toNat (Ty.dflt .str)) && !(isIn ((s.l.drop (0 + (0 : Int).toNat)).take (s.i.toNat - (0 : Int).toNat)) (s.l.getD s.i.toNat (Ty.dflt .str)))) := by
 unfold G_rn5
 rw [List.map_id, isIn_contains]
 rfl
def E_rn5 (s : L_rn5) : Prop := s.i = 0 ∧ (List.length s.l : Int) ≤ 1000 ∧ nmR s.l
def I_rn5 (s : L_rn5) : Prop := (0 ≤ s.i ∧ s.i ≤ (List.length s.l : Int)) ∧ (∀ j : Nat, (j : Int) < s.i → G_rn5 s j = true) ∧ (List.length s.l : Int) ≤ 1000 ∧ nmR s.l
def mu_rn5 (s : L_rn5) : Nat := ((List.length s.l : Int) - s.i).toNat
def Q_rn5 (x : Ex) (_ s' : L_rn5) : Prop := (x = .exit 10 ∧ ∀ j : Nat, (j : Int) < (List.length s'.l : Int) → G_rn5 s' j = true) ∨ (x = .ret ∧ s'.r = false ∧ ∃ j : Nat, (j : Int) < (List.length s'.l : Int) ∧ G_rn5 s' j = false)
theorem rn5_E : ∀ s, E_rn5 s → I_rn5 s := by
 intro s h
 obtain ⟨h0, h1, h2⟩ := h
 exact ⟨by omega, fun j hj => by omega, h1, h2⟩
theorem rn5_da (s : L_rn5) (hI : I_rn5 s) : allR (fun s' => I_rn5 s' ∧ mu_rn5 s' < mu_rn5 s) (fun x s' => Q_rn5 x s s') (f_rn5 s) := by
 unfold f_rn5 t_rn5
 dsimp only [T.rd, T.rl]
 obtain ⟨⟨h0, h1⟩, h2, h3, h4⟩ := hI
 have hg := rn5_g s h0
 refine allR_ite (fun c1 => ?_) (fun c1 => ?_)
 rotate_left
 ·have c1 : (List.length s.l : Int) ≤ s.i := by simpa using c1
  exact .inl ⟨rfl, fun j hj => h2 j (by omega)⟩
 have c1 : s.i < (List.length s.l : Int) := by simpa using c1
 have bad : G_rn5 s s.i = false → Q_rn5 .ret s { s with r := false } := fun hg => .inr ⟨rfl, rfl, s.i.toNat, by simp only; omega, by rw [Int.toNat_of_nonneg h0]; exact hg⟩
 refine allR_ite (fun c2 => bad ?_) (fun c2 => allR_ite (fun c3 => bad ?_) (fun c3 => ?_))
 ·rw [hg]
  simp only [Bool.not_eq_true'] at c2
  rw [c2]
  rfl
 ·rw [hg, c3]
  simp
 ·rw [c3] at hg
  simp only [Bool.not_eq_false'] at c2
  rw [c2] at hg
  rw [wrapS (x := s.i + 1) (by omega) (by omega)]
  refine ⟨⟨⟨by simp only; omega, by simp only; omega⟩, fun j hj => ?_, h3, h4⟩, by simp only [mu_rn5]; omega⟩
  by_cases hji : (j : Int) < s.i
  ·exact h2 j hji
  ·have : (j : Int) = s.i := by simp only at hj; omega
   rw [this]; exact hg
def D_rn5 : LpD L_rn5 := ⟨0, 112, [2, 3, 9], [], A_rn5, B_rn5, fun v b => ⟨gBo (v.getD 0 .junk), gI (v.getD 2 .junk), gVe .str (gBk b 0)⟩, t_rn5, fun s r => { r with l := s.l }, fun s => s, fun _ s => s, [.ret, .exit 10], E_rn5, I_rn5, mu_rn5⟩
abbrev run_rn5 := D_rn5.run
abbrev exn_rn5 := D_rn5.exn
abbrev E_rn5q := D_rn5.q
theorem rq_rn5 (s : L_rn5) (hI : I_rn5 s) : (t_rn5 s).all (fun _ => True) := by
 refine ⟨fun c1 => ⟨?_, ?_, ?_, fun c2 => ⟨⟨rfl, rfl⟩, trivial⟩, fun c2 => ⟨?_, ?_, ?_, ?_, ?_, fun c3 => ⟨⟨rfl, rfl⟩, trivial⟩, fun c3 => ⟨⟨rfl, rfl⟩, trivial⟩⟩⟩, fun c1 => ⟨⟨rfl, rfl⟩, trivial⟩⟩
 iterate 2 · (obtain ⟨⟨h0, h1⟩, h2, h3, h4⟩ := hI; simp only [decide_eq_true_eq] at c1; first | omega | (simp only [List.length_take, List.length_drop]; omega))
 ·(obtain ⟨⟨h0, h1⟩, h2, h3, h4⟩ := hI; simp only [decide_eq_true_eq] at c1; have hm : gS s.l s.i ∈ s.l := (by rw [gS_eq (by omega)]; exact List.getElem_mem _); exact h4 _ hm)
 iterate 5 · (obtain ⟨⟨h0, h1⟩, h2, h3, h4⟩ := hI; simp only [decide_eq_true_eq] at c1; first | omega | (simp only [List.length_take, List.length_drop]; omega))
theorem ok_rn5 : D_rn5.Ok := ⟨fun s => by kernel_rfl, fun s => by kernel_rfl, fun s => rfl, fun s t r => rfl, fun s => rfl, fun s => by kernel_rfl⟩
theorem pf_rn5 : D_rn5.Pf (Q_rn5) := ⟨rn5_E, fun _ _ => rfl, rn5_da, rq_rn5⟩
theorem snd_rn5 : SoundA Try.prog noGlobs (AN 0) (.loop body_rn5) D_rn5.lp := LpD.snd ok_rn5 pf_rn5 (code_sound (Γ := gam48) (K := noK) (L := noLoops) gok48 noK_sound body_rn5 (fun b hb => by rw [show loopsIn body_rn5 = [] by kernel_rfl] at hb; cases hb)) (fun s => by kernel_rfl)
theorem rn5_fin (s : L_rn5) (hE : E_rn5 s) : ∃ s', I_rn5 s' ∧ Q_rn5 (exn_rn5 s) s' (run_rn5 s) := LpD.fin ok_rn5 pf_rn5 s hE
def S0_rnms : List LV → T LV
 | [.agg [.xl (.pair .str (.pair (.int .i64) (.pair (.int .i64) (.pair (.int .i64) (.pair (.pair (.int .i64) (.int .i64)) (.pair (.int .i64) (.pair (.int .i64) (.pair (.int .i64) (.pair (.int .i64) (.int .i64)))))))))) cs, .xl (.str) os, .xl (.pair .str (.pair (.int .i64) (.pair (.int .i64) (.int .i64)))) ks, .xl (.pair .str (.pair (.int .i64) (.pair (.int .i64) (.pair (.int .i64) (.pair (.int .i64) (.pair (.int .i64) (.pair (.int .i64) (.int .i64)))))))) gs, .xl (.pair .str (.int .i64)) bs]] => .req (((List.length cs : Int) ≤ 100 ∧ (List.length os : Int) ≤ 100 ∧ (List.length ks : Int) ≤ 100 ∧ (List.length gs : Int) ≤ 100 ∧ (List.length bs : Int) ≤ 100) ∧ nmR (nmsOf cs os ks gs bs)) (.ok (.v (.bool (nmB (nmsOf cs os ks gs bs)))))
 | _ => .no
noncomputable def S_rnms : List LV → T LV := upS Try.prog Try.f52.params.toList S0_rnms
theorem nf_rnms (cs : List (ByteArray × (Int × (Int × (Int × ((Int × Int) × (Int × (Int × (Int × (Int × Int)))))))))) (os : List ByteArray) (ks : List (ByteArray × (Int × (Int × Int)))) (gs : List (ByteArray × (Int × (Int × (Int × (Int × (Int × (Int × Int)))))))) (bs : List (ByteArray × Int)) : funu Try.prog noGlobs (gam48) noK (fun i => if i = 3 then D_rn0.lp else if i = 7 then D_rn1.lp else if i = 11 then D_rn2.lp else if i = 15 then D_rn3.lp else if i = 19 then D_rn4.lp else if i = 23 then D_rn5.lp else noLoops i) Try.f52 [.agg [.xl tCd cs, .xl .str os, .xl tKo ks, .xl tCh gs, .xl tBa bs]] = .req (0 = 0 ∧ 0 = List.length ([] : List ByteArray)) (.req (E_rn0q (⟨false, (0 : Int), cs, os, ks, gs, bs, ([] : List ByteArray)⟩ : L_rn0)) (.rl (run_rn0 (⟨false, (0 : Int), cs, os, ks, gs, bs, ([] : List ByteArray)⟩ : L_rn0)).l (.req (E_rn1q (⟨false, (0 : Int), cs, os, ks, gs, bs, (run_rn0 (⟨false, (0 : Int), cs, os, ks, gs, bs, ([] : List ByteArray)⟩ : L_rn0)).l⟩ : L_rn1)) (.rl (run_rn1 (⟨false, (0 : Int), cs, os, ks, gs, bs, (run_rn0 (⟨false, (0 : Int), cs, os, ks, gs, bs, ([] : List ByteArray)⟩ : L_rn0)).l⟩ : L_rn1)).l (.req (E_rn2q (⟨false, (0 : Int), cs, os, ks, gs, bs, (run_rn1 (⟨false, (0 : Int), cs, os, ks, gs, bs, (run_rn0 (⟨false, (0 : Int), cs, os, ks, gs, bs, ([] : List ByteArray)⟩ : L_rn0)).l⟩ : L_rn1)).l⟩ : L_rn2)) (.rl (run_rn2 (⟨false, (0 : Int), cs, os, ks, gs, bs, (run_rn1 (⟨false, (0 : Int), cs, os, ks, gs, bs, (run_rn0 (⟨false, (0 : Int), cs, os, ks, gs, bs, ([] : List ByteArray)⟩ : L_rn0)).l⟩ : L_rn1)).l⟩ : L_rn2)).l (.req (E_rn3q (⟨false, (0 : Int), cs, os, ks, gs, bs, (run_rn2 (⟨false, (0 : Int), cs, os, ks, gs, bs, (run_rn1 (⟨false, (0 : Int), cs, os, ks, gs, bs, (run_rn0 (⟨false, (0 : Int), cs, os, ks, gs, bs, ([] : List ByteArray)⟩ : L_rn0)).l⟩ : L_rn1)).l⟩ : L_rn2)).l⟩ : L_rn3)) (.rl (run_rn3 (⟨false, (0 : Int), cs, os, ks, gs, bs, (run_rn2 (⟨false, (0 : Int), cs, os, ks, gs, bs, (run_rn1 (⟨false, (0 : Int), cs, os, ks, gs, bs, (run_rn0 (⟨false, (0 : Int), cs, os, ks, gs, bs, ([] : List ByteArray)⟩ : L_rn0)).l⟩ : L_rn1)).l⟩ : L_rn2)).l⟩ : L_rn3)).l (.req (E_rn4q (⟨false, (0 : Int), cs, os, ks, gs, bs, (run_rn3 (⟨false, (0 : Int), cs, os, ks, gs, bs, (run_rn2 (⟨false, (0 : Int), cs, os, ks, gs, bs, (run_rn1 (⟨false, (0 : Int), cs, os, ks, gs, bs, (run_rn0 (⟨false, (0 : Int), cs, os, ks, gs, bs, ([] : List ByteArray)⟩ : L_rn0)).l⟩ : L_rn1)).l⟩ : L_rn2)).l⟩ : L_rn3)).l⟩ : L_rn4)) (.rl (run_rn4 (⟨false, (0 : Int), cs, os, ks, gs, bs, (run_rn3 (⟨false, (0 : Int), cs, os, ks, gs, bs, (run_rn2 (⟨false, (0 : Int), cs, os, ks, gs, bs, (run_rn1 (⟨false, (0 : Int), cs, os, ks, gs, bs, (run_rn0 (⟨false, (0 : Int), cs, os, ks, gs, bs, ([] : List ByteArray)⟩ : L_rn0)).l⟩ : L_rn1)).l⟩ : L_rn2)).l⟩ : L_rn3)).l⟩ : L_rn4)).l (.req (E_rn5q (⟨false, (0 : Int), (run_rn4 (⟨false, (0 : Int), cs, os, ks, gs, bs, (run_rn3 (⟨false, (0 : Int), cs, os, ks, gs, bs, (run_rn2 (⟨false, (0 : Int), cs, os, ks, gs, bs, (run_rn1 (⟨false, (0 : Int), cs, os, ks, gs, bs, (run_rn0 (⟨false, (0 : Int), cs, os, ks, gs, bs, ([] : List ByteArray)⟩ : L_rn0)).l⟩ : L_rn1)).l⟩ : L_rn2)).l⟩ : L_rn3)).l⟩ : L_rn4)).l⟩ : L_rn5)) (.br (isEx (exn_rn5 (⟨false, (0 : Int), (run_rn4 (⟨false, (0 : Int), cs, os, ks, gs, bs, (run_rn3 (⟨false, (0 : Int), cs, os, ks, gs, bs, (run_rn2 (⟨false, (0 : Int), cs, os, ks, gs, bs, (run_rn1 (⟨false, (0 : Int), cs, os, ks, gs, bs, (run_rn0 (⟨false, (0 : Int), cs, os, ks, gs, bs, ([] : List ByteArray)⟩ : L_rn0)).l⟩ : L_rn1)).l⟩ : L_rn2)).l⟩ : L_rn3)).l⟩ : L_rn4)).l⟩ : L_rn5)) (.ret)) (.ok (.v (.bool (run_rn5 (⟨false, (0 : Int), (run_rn4 (⟨false, (0 : Int), cs, os, ks, gs, bs, (run_rn3 (⟨false, (0 : Int), cs, os, ks, gs, bs, (run_rn2 (⟨false, (0 : Int), cs, os, ks, gs, bs, (run_rn1 (⟨false, (0 : Int), cs, os, ks, gs, bs, (run_rn0 (⟨false, (0 : Int), cs, os, ks, gs, bs, ([] : List ByteArray)⟩ : L_rn0)).l⟩ : L_rn1)).l⟩ : L_rn2)).l⟩ : L_rn3)).l⟩ : L_rn4)).l⟩ : L_rn5)).r))) (.ok (.v (.bool true))))))))))))))) := by kernel_rfl
theorem v_rnms : Valid Try.prog noGlobs 52 S_rnms := valid_ofu Try.func52 rfl gok48 noK_sound (L := (fun i => if i = 3 then D_rn0.lp else if i = 7 then D_rn1.lp else if i = 11 then D_rn2.lp else if i = 15 then D_rn3.lp else if i = 19 then D_rn4.lp else if i = 23 then D_rn5.lp else noLoops i)) (fun b hb => by
 rw [show loopsIn _ = [body_rn0, body_rn1, body_rn2, body_rn3, body_rn4, body_rn5] by kernel_rfl] at hb
 simp only [List.mem_cons, List.not_mem_nil, or_false] at hb
 rcases hb with rfl | rfl | rfl | rfl | rfl | rfl
 ·exact snd_rn0
 ·exact snd_rn1
 ·exact snd_rn2
 ·exact snd_rn3
 ·exact snd_rn4
 ·exact snd_rn5) (fun args lv h => by
 unfold S0_rnms at h
 split at h
 ·simp only [canL, canX]
  rw [nf_rnms]
  rename_i cs os ks gs bs
  obtain ⟨⟨⟨hc, ho, hk, hg, hb⟩, hn⟩, rfl⟩ := h
  refine ⟨⟨rfl, rfl⟩, andI ⟨⟨rfl, by simp only; omega, by simp only; decide⟩, rfl, rfl⟩ (fun hE0 => ?_)⟩
  have o0 := (rn0_res _ hE0.1).2
  generalize (run_rn0 ⟨false, (0 : Int), cs, os, ks, gs, bs, ([] : List ByteArray)⟩).l = r0 at o0 ⊢
  have o0 : r0 = ([] : List ByteArray) ++ cs.map (·.1) := o0
  have l0 : (List.length r0 : Int) ≤ 100 := by rw [o0]; simp only [List.length_append, List.length_map, List.length_nil]; omega
  refine ⟨⟨rfl, rfl⟩, andI ⟨⟨rfl, by simp only; omega, by simp only; omega⟩, rfl, rfl⟩ (fun hE1 => ?_)⟩
  have o1 := (rn1_res _ hE1.1).2
  generalize (run_rn1 ⟨false, (0 : Int), cs, os, ks, gs, bs, r0⟩).l = r1 at o1 ⊢
  have o1 : r1 = r0 ++ os := o1
  have l1 : (List.length r1 : Int) ≤ 200 := by rw [o1]; simp only [List.length_append]; omega
  refine ⟨⟨rfl, rfl⟩, andI ⟨⟨rfl, by simp only; omega, by simp only; omega⟩, rfl, rfl⟩ (fun hE2 => ?_)⟩
  have o2 := (rn2_res _ hE2.1).2
  generalize (run_rn2 ⟨false, (0 : Int), cs, os, ks, gs, bs, r1⟩).l = r2 at o2 ⊢
  have o2 : r2 = r1 ++ ks.map (·.1) := o2
  have l2 : (List.length r2 : Int) ≤ 300 := by rw [o2]; simp only [List.length_append, List.length_map]; omega
  refine ⟨⟨rfl, rfl⟩, andI ⟨⟨rfl, by simp only; omega, by simp only; omega⟩, rfl, rfl⟩ (fun hE3 => ?_)⟩
  have o3 := (rn3_res _ hE3.1).2
  generalize (run_rn3 ⟨false, (0 : Int), cs, os, ks, gs, bs, r2⟩).l = r3 at o3 ⊢
  have o3 : r3 = r2 ++ gs.map (·.1) := o3
  have l3 : (List.length r3 : Int) ≤ 400 := by rw [o3]; simp only [List.length_append, List.length_map]; omega
  refine ⟨⟨rfl, rfl⟩, andI ⟨⟨rfl, by simp only; omega, by simp only; omega⟩, rfl, rfl⟩ (fun hE4 => ?_)⟩
  have o4 := (rn4_res _ hE4.1).2
  generalize (run_rn4 ⟨false, (0 : Int), cs, os, ks, gs, bs, r3⟩).l = r4 at o4 ⊢
  have o4 : r4 = r3 ++ bs.map (·.1) := o4
  have l4 : (List.length r4 : Int) ≤ 500 := by rw [o4]; simp only [List.length_append, List.length_map]; omega
  have e : r4 = nmsOf cs os ks gs bs := by rw [o4, o3, o2, o1, o0, List.nil_append]; rfl
  subst e
  refine ⟨⟨rfl, rfl⟩, andI ⟨⟨rfl, by simp only; omega, hn⟩, rfl, rfl⟩ (fun hE => ?_)⟩
  obtain ⟨s', _, hq⟩ := rn5_fin _ hE.1
  unfold nmB
  generalize nmsOf cs os ks gs bs = l at *
  rcases hq with ⟨q1, q2⟩ | ⟨q1, q2, j, q3, q4⟩
  ·rw [q1]
   have hk := (keys_iff (d := emp) (p := nameB) (k := id)).1 q2
   rw [List.map_id] at hk
   rw [show (l.all nameB && once l) = true from hk]
   exact ⟨fun h => (by cases h), fun _ => rfl⟩
  ·rw [q1, q2]
   refine ⟨fun _ => congrArg (fun z => LV.v (.bool z)) ?_, fun h => by cases h⟩
   rw [eq_comm, Bool.eq_false_iff]
   intro hx
   have := (keys_iff (d := emp) (p := nameB) (k := id)).2 (by rw [List.map_id]; exact hx) j q3
   exact Bool.noConfusion (this.symm.trans q4)
 ·cases h)
end Go.Proofs.Ytihbikkkmoaljaa
