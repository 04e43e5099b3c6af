/- Limits: what is computed, by the executor. -/
import Derived.Test.YtihbikkkmoaljaaDn
import Derived.Test.YtihbikkkmoaljaaDv
namespace Go.Proofs.Ytihbikkkmoaljaa
open Go.Sx
structure L_lst where
 first : Int
 l : List Int
 n : Int
 i : Int
def A_lst (s : L_lst) : List LV := [.v (.int .i64 s.first), .xl (.int .i64) s.l, .v (.int .i64 s.n), .v (.int .i64 s.i)]
def B_lst (_ : L_lst) : List Blk := []
noncomputable def body_lst : Code := ((loopsIn (Try.f63.body.getD .skip))[0]?).getD .skip
def t_lst (s : L_lst) : T (Rd L_lst) :=
 .br (decide (s.i < s.n)) (.req (0 ≤ s.i ∧ s.i < (List.length s.l : Int)) (.ok (.next { s with first := (if (gi s.l s.i) < s.first then (gi s.l s.i) else s.first), i := (IntKind.i64.wrap (s.i + 1)) }))) (.ok (.stop (.exit 0) s))
abbrev f_lst (s : L_lst) := (t_lst s).rd s
def E_lst (s : L_lst) : Prop := s.i = 0 ∧ s.n = (s.l.length : Int) ∧ s.n ≤ 1000
def I_lst (s : L_lst) : Prop := 0 ≤ s.i ∧ s.i ≤ s.n ∧ s.n = (s.l.length : Int) ∧ s.n ≤ 1000
def mu_lst (s : L_lst) : Nat := (s.n - s.i).toNat
def Q_lst (x : Ex) (_ s' : L_lst) : Prop := x = .exit 0 ∧ s'.i = s'.n
theorem lst_E : ∀ s, E_lst s → I_lst s := by
 intro s h
 obtain ⟨h0, h1, h2⟩ := h
 exact ⟨by omega, by omega, h1, h2⟩
theorem lst_da (s : L_lst) (hI : I_lst s) : allR (fun s' => I_lst s' ∧ mu_lst s' < mu_lst s) (fun x s' => Q_lst x s s') (f_lst s) := by
 unfold f_lst t_lst
 dsimp only [T.rd, T.rl]
 obtain ⟨h0, h1, h2, h3⟩ := hI
 refine allR_ite (fun c1 => ?_) (fun c1 => ?_)
 ·have c1 : s.i < s.n := by simpa using c1
  rw [wrapS (x := s.i + 1) (by omega) (by omega)]
  exact ⟨⟨by simp only; omega, by simp only; omega, h2, h3⟩, by simp only [mu_lst]; omega⟩
 ·have c1 : s.n ≤ s.i := by simpa using c1
  exact ⟨rfl, by omega⟩
def D_lst : LpD L_lst := ⟨0, 18, [0, 7, 8, 9], [], A_lst, B_lst, fun v _ => ⟨gI (v.getD 0 .junk), gXl (.int .i64) (v.getD 1 .junk), gI (v.getD 2 .junk), gI (v.getD 3 .junk)⟩, t_lst, fun s r => { r with l := s.l, n := s.n }, fun s => s, fun _ s => s, [.exit 0], E_lst, I_lst, mu_lst⟩
abbrev run_lst := D_lst.run
abbrev exn_lst := D_lst.exn
abbrev E_lstq := D_lst.q
theorem rq_lst (s : L_lst) (hI : I_lst s) : (t_lst s).all (fun _ => True) := by
 refine ⟨fun c1 => ⟨?_, trivial⟩, fun _ => trivial⟩
 ·(obtain ⟨h0, h1, h2, h3⟩ := hI; simp at c1; omega)
noncomputable def gam25 : Specs := specsOf []
theorem gok25 : ∀ g S, gam25 g = some S → Valid Try.prog noGlobs g S := specs_ok (l := []) trivial
theorem ok_lst : D_lst.Ok := ⟨fun s => by kernel_rfl, fun s => by kernel_rfl, fun s => rfl, fun s t r => rfl, fun s => rfl, fun s => by kernel_rfl⟩
theorem pf_lst : D_lst.Pf (Q_lst) := ⟨lst_E, fun _ _ => rfl, lst_da, rq_lst⟩
theorem snd_lst : SoundA Try.prog noGlobs (AN 0) (.loop body_lst) D_lst.lp := LpD.snd ok_lst pf_lst (code_sound (Γ := gam25) (K := noK) (L := noLoops) gok25 noK_sound body_lst (fun b hb => by rw [show loopsIn body_lst = [] by kernel_rfl] at hb; cases hb)) (fun s => by kernel_rfl)
theorem lst_fin (s : L_lst) (hE : E_lst s) : ∃ s', I_lst s' ∧ Q_lst (exn_lst s) s' (run_lst s) := LpD.fin ok_lst pf_lst s hE
theorem lst_keep (s : L_lst) (hE : E_lst s) : (fun s : L_lst => lsF s.first (s.l.drop s.i.toNat)) (run_lst s) = (fun s : L_lst => lsF s.first (s.l.drop s.i.toNat)) s := by
 exact LpD.keepV ok_lst pf_lst (fun s : L_lst => lsF s.first (s.l.drop s.i.toNat)) (fun s hI => by
  show allR _ _ (f_lst s)
  unfold f_lst t_lst
  dsimp only [T.rd, T.rl]
  obtain ⟨h0, h1, h2, h3⟩ := hI
  refine allR_ite (fun c1 => ?_) (fun c1 => rfl)
  have c1 : s.i < s.n := by simpa using c1
  rw [wrapS (x := s.i + 1) (by omega) (by omega)]
  show lsF _ _ = lsF _ _
  rw [(gi_step h0 (show s.i < s.l.length by omega)).1]
  rfl) s hE
def S0_leas : List LV → T LV
 | [.v (.int .i64 f), .xl (.int .i64) l] => .req ((List.length l : Int) ≤ 1000) (.ok (.v (.int .i64 (lsF f l))))
 | _ => .no
noncomputable def S_leas : List LV → T LV := upS Try.prog Try.f63.params.toList S0_leas
theorem nf_leas (f : Int) (l : List Int) : funu Try.prog noGlobs (gam25) noK (fun i => if i = 2 then D_lst.lp else noLoops i) Try.f63 [.v (.int .i64 f), .xl (.int .i64) l] = .req (E_lstq (⟨f, l, (List.length l : Int), (0 : Int)⟩ : L_lst)) (.ok (.v (.int .i64 (run_lst (⟨f, l, (List.length l : Int), (0 : Int)⟩ : L_lst)).first))) := by kernel_rfl
theorem v_leas : Valid Try.prog noGlobs 63 S_leas := valid_ofu Try.func63 rfl gok25 noK_sound (L := (fun i => if i = 2 then D_lst.lp else noLoops i)) (fun b hb => by
 rw [show loopsIn _ = [body_lst] by kernel_rfl] at hb
 simp only [List.mem_cons, List.not_mem_nil, or_false] at hb
 subst hb
 exact snd_lst) (fun args lv h => by
 unfold S0_leas at h
 split at h
 ·simp only [canL, canX]
  rw [nf_leas]
  rename_i f l
  obtain ⟨hl, rfl⟩ := h
  refine andI ⟨⟨rfl, rfl, hl⟩, rfl, rfl⟩ (fun hE => ?_)
  obtain ⟨s', _, q1, q2⟩ := lst_fin _ hE.1
  have q3 := lst_keep _ hE.1
  simp only at q3
  rw [q2] at q3
  have e : (run_lst ⟨f, l, (List.length l : Int), (0 : Int)⟩).n = (List.length l : Int) := rfl
  have e2 : (run_lst ⟨f, l, (List.length l : Int), (0 : Int)⟩).l = l := rfl
  rw [e, e2, List.drop_eq_nil_of_le (by omega)] at q3
  exact congrArg (fun z => LV.v (.int .i64 z)) q3
 ·cases h)
def S0_limt : List LV → T LV
 | [.v (.agg ⟨[.string nm, .int .i64 up_, .int .i64 li, .int .i64 ne, .int .i64 ra, .int .i64 he, .int .i64 am, .int .i64 mo, .int .i64 ga, .int .i64 lo, .int .i64 de]⟩)] => .ok (.v (.int .i64 (limF (nm, up_, li, ne, (ra, he), am, mo, ga, lo, de))))
 | _ => .no
noncomputable def S_limt : List LV → T LV := upS Try.prog Try.f45.params.toList S0_limt
noncomputable def gam26 : Specs := specsOf [(62, S_perm), (63, S_leas)]
theorem gok26 : ∀ g S, gam26 g = some S → Valid Try.prog noGlobs g S := specs_ok (l := [(62, S_perm), (63, S_leas)]) ⟨v_perm, v_leas, trivial⟩
theorem nf_limt (nm : ByteArray) (up_ li ne ra he am mo ga lo de : Int) : funu Try.prog noGlobs (gam26) noK noLoops Try.f45 [.v (.agg #[.string nm, .int .i64 up_, .int .i64 li, .int .i64 ne, .int .i64 ra, .int .i64 he, .int .i64 am, .int .i64 mo, .int .i64 ga, .int .i64 lo, .int .i64 de])] = .br ((pmE (am, mo, ga, lo, de)) != 0) (.br (ra == 0) (.req ((List.length ([ne, (0 : Int)]) : Int) ≤ 1000) (.ok (.v (.int .i64 (lsF li ([ne, (0 : Int)])))))) (.req ((List.length ([ne, (0 : Int), ra]) : Int) ≤ 1000) (.ok (.v (.int .i64 (lsF li ([ne, (0 : Int), ra]))))))) (.br (ra == 0) (.req ((List.length ([ne, (pmA (am, mo, ga, lo, de))]) : Int) ≤ 1000) (.ok (.v (.int .i64 (lsF li ([ne, (pmA (am, mo, ga, lo, de))])))))) (.req ((List.length ([ne, (pmA (am, mo, ga, lo, de)), ra]) : Int) ≤ 1000) (.ok (.v (.int .i64 (lsF li ([ne, (pmA (am, mo, ga, lo, de)), ra]))))))) := by kernel_rfl
theorem v_limt : Valid Try.prog noGlobs 45 S_limt := valid_ofu Try.func45 rfl gok26 noK_sound (no_loops (by kernel_rfl)) (fun args lv h => by
 unfold S0_limt at h
 split at h
 ·simp only [canL, canX]
  rw [nf_limt]
  rename_i nm up_ li ne ra he am mo ga lo de
  obtain rfl := h
  unfold limF
  simp only
  refine ⟨fun c => ?_, fun c => ?_⟩
  ·have e : pmA (am, mo, ga, lo, de) = 0 := by
    rw [pmE_iff] at c
    have c : cbV (am, mo, ga, lo, de) = false := by simpa using c
    unfold pmA
    rw [c]
    rfl
   rw [e]
   refine ⟨fun c2 => ⟨by simp, ?_⟩, fun c2 => ⟨by simp, ?_⟩⟩
   ·rw [if_pos (by simpa using c2)]; rfl
   ·rw [if_neg (by simpa using c2)]; rfl
  ·refine ⟨fun c2 => ⟨by simp, ?_⟩, fun c2 => ⟨by simp, ?_⟩⟩
   ·rw [if_pos (by simpa using c2)]; rfl
   ·rw [if_neg (by simpa using c2)]; rfl
 ·cases h)
def S0_rowu : List LV → T LV
 | [.v (.int .i64 k), .xq 5 q0, .xq 2 q1] => (match ([q0 0, q0 1, q0 2, q0 3, q0 4] : List LV) with
  | [.xl (.pair .str (.pair (.int .i64) (.pair (.int .i64) (.pair (.int .i64) (.pair (.pair (.int .i64) (.int .i64)) (.pair (.int .i64) (.pair (.int .i64) (.pair (.int .i64) (.pair (.int .i64) (.int .i64)))))))))) _, .xl (.str) _, .xl (.pair .str (.pair (.int .i64) (.pair (.int .i64) (.int .i64)))) _, .xl (.pair .str (.pair (.int .i64) (.pair (.int .i64) (.pair (.int .i64) (.pair (.int .i64) (.pair (.int .i64) (.pair (.int .i64) (.int .i64)))))))) gs, .xl (.pair .str (.int .i64)) _] => (match ([q1 0, q1 1] : List LV) with
  | [.v (.int .i64 _), .v (.int .i64 p)] => .req ((0 ≤ k ∧ k < (List.length gs : Int)) ∧ 0 ≤ p) (.ok (.v (.bool (usA (gCh gs k).2.2.1 p))))
  | _ => .no)
  | _ => .no)
 | _ => .no
noncomputable def S_rowu : List LV → T LV := upS Try.prog Try.f44.params.toList S0_rowu
theorem nf_rowu (k : Int) (cs : List (ByteArray × (Int × (Int × (Int × ((Int × Int) × (Int × (Int × (Int × (Int × Int)))))))))) (os : List ByteArray) (ks : List (ByteArray × (Int × (Int × Int)))) (gs : List (ByteArray × (Int × (Int × (Int × (Int × (Int × (Int × Int)))))))) (bs : List (ByteArray × Int)) (c p : Int) : funu Try.prog noGlobs (gam25) noK noLoops Try.f44 [.v (.int .i64 k), .xq 5 (fun j => ([.xl tCd cs, .xl .str os, .xl tKo ks, .xl tCh gs, .xl tBa bs] : List LV).getD j .junk), .xq 2 (fun j => ([.v (.int .i64 c), .v (.int .i64 p)] : List LV).getD j .junk)] = .req (0 ≤ k ∧ k < (List.length gs : Int)) (.req (0 ≤ p) (.ok (.v (.bool ((andK .i64 (gCh gs k).2.2.1 (IntKind.i64.wrap ((1 : Int) * 2 ^ (min p.toNat 64)))) != 0))))) := by kernel_rfl
theorem v_rowu : Valid Try.prog noGlobs 44 S_rowu := valid_ofu Try.func44 rfl gok25 noK_sound (no_loops (by kernel_rfl)) (fun args lv h => by
 unfold S0_rowu at h
 split at h
 ·split at h
  case h_2 => cases h
  rename_i heq0
  split at h
  case h_2 => cases h
  rename_i heq1
  simp only [canL, canX]
  rw [show (List.range 5).map _ = _ from heq0]
  rw [show (List.range 2).map _ = _ from heq1]
  rw [nf_rowu]
  obtain ⟨⟨h1, h2⟩, h3⟩ := h
  exact ⟨h1, h2, h3⟩
 ·cases h)
structure L_chs where
 cs : List (ByteArray × (Int × (Int × (Int × ((Int × Int) × (Int × (Int × (Int × (Int × Int)))))))))
 os : List ByteArray
 ks : List (ByteArray × (Int × (Int × Int)))
 gs : List (ByteArray × (Int × (Int × (Int × (Int × (Int × (Int × Int)))))))
 bs : List (ByteArray × Int)
 c : Int
 p : Int
 l : List Int
 n : Int
 i : Int
 out : List Int
def A_chs (s : L_chs) : List LV := [.fn 44 [.xq 5 (fun j => ([.xl tCd s.cs, .xl .str s.os, .xl tKo s.ks, .xl tCh s.gs, .xl tBa s.bs] : List LV).getD j .junk), .xq 2 (fun j => ([.v (.int .i64 s.c), .v (.int .i64 s.p)] : List LV).getD j .junk)], .os 0 1 0 (List.length s.out), .xl (.int .i64) s.l, .v (.int .i64 s.n), .v (.int .i64 s.i)]
def B_chs (s : L_chs) : List Blk := [⟨[], 3, .vec (.int .i64) s.out, false⟩]
noncomputable def body_chs : Code := ((loopsIn (Try.f43.body.getD .skip))[0]?).getD .skip
def t_chs (s : L_chs) : T (Rd L_chs) :=
 .br (decide (s.i < s.n)) (.req (0 ≤ s.i ∧ s.i < (List.length s.l : Int)) (.req ((0 ≤ (gi s.l s.i) ∧ (gi s.l s.i) < (List.length s.gs : Int)) ∧ 0 ≤ s.p) (.br (usA (gCh s.gs (gi s.l s.i)).2.2.1 s.p) (.req (0 + (List.length s.out) = List.length s.out ∧ ((List.length s.out + List.length ([(gi s.l s.i)]) : Nat) : Int) * 8 ≤ 2 ^ 47 ∧ ((List.length s.out + List.length ([(gi s.l s.i)]) : Nat) : Int) < 2 ^ 62) (.req (0 = 0 ∧ (List.length s.out + List.length ([(gi s.l s.i)])) = List.length (s.out ++ ([(gi s.l s.i)]))) (.ok (.next { s with i := (IntKind.i64.wrap (s.i + 1)), out := (s.out ++ ([(gi s.l s.i)])) })))) (.rl s.out (.ok (.next { s with i := (IntKind.i64.wrap (s.i + 1)) })))))) (.rl s.out (.ok (.stop (.exit 0) s)))
abbrev f_chs (s : L_chs) := (t_chs s).rd s
def E_chs (s : L_chs) : Prop := s.i = 0 ∧ s.out = [] ∧ s.n = (s.l.length : Int) ∧ s.n ≤ 1000 ∧ 0 ≤ s.p ∧ ∀ k ∈ s.l, 0 ≤ k ∧ k < (s.gs.length : Int)
def I_chs (s : L_chs) : Prop := (0 ≤ s.i ∧ s.i ≤ s.n) ∧ (s.out.length : Int) ≤ s.i ∧ s.n = (s.l.length : Int) ∧ s.n ≤ 1000 ∧ 0 ≤ s.p ∧ ∀ k ∈ s.l, 0 ≤ k ∧ k < (s.gs.length : Int)
def mu_chs (s : L_chs) : Nat := (s.n - s.i).toNat
def Q_chs (x : Ex) (_ s' : L_chs) : Prop := x = .exit 0 ∧ s'.i = s'.n
theorem chs_E : ∀ s, E_chs s → I_chs s := by
 intro s h
 obtain ⟨h0, h1, h2, h3, h4, h5⟩ := h
 exact ⟨by omega, by rw [h1]; simp; omega, h2, h3, h4, h5⟩
theorem chs_da (s : L_chs) (hI : I_chs s) : allR (fun s' => I_chs s' ∧ mu_chs s' < mu_chs s) (fun x s' => Q_chs x s s') (f_chs s) := by
 unfold f_chs t_chs
 dsimp only [T.rd, T.rl]
 obtain ⟨⟨h0, h1⟩, h2, h3, h4, h5, h6⟩ := hI
 refine allR_ite (fun c1 => ?_) (fun c1 => ?_)
 ·have c1 : s.i < s.n := by simpa using c1
  rw [wrapS (x := s.i + 1) (by omega) (by omega)]
  refine allR_ite (fun c2 => ?_) (fun c2 => ?_)
  ·exact ⟨⟨⟨by simp only; omega, by simp only; omega⟩, by simp only [List.length_append, List.length_cons, List.length_nil]; omega, h3, h4, h5, h6⟩, by simp only [mu_chs]; omega⟩
  ·exact ⟨⟨⟨by simp only; omega, by simp only; omega⟩, by simp only; omega, h3, h4, h5, h6⟩, by simp only [mu_chs]; omega⟩
 ·have c1 : s.n ≤ s.i := by simpa using c1
  exact ⟨rfl, by omega⟩
def D_chs : LpD L_chs := ⟨0, 23, [1, 5, 8, 9, 10], [.nl 5 3 (.int .i64)], A_chs, B_chs, fun v b => ⟨gXl tCd (gXq (gFn (v.getD 0 .junk) 0) 0), gXl .str (gXq (gFn (v.getD 0 .junk) 0) 1), gXl tKo (gXq (gFn (v.getD 0 .junk) 0) 2), gXl tCh (gXq (gFn (v.getD 0 .junk) 0) 3), gXl tBa (gXq (gFn (v.getD 0 .junk) 0) 4), gI (gXq (gFn (v.getD 0 .junk) 1) 0), gI (gXq (gFn (v.getD 0 .junk) 1) 1), gXl (.int .i64) (v.getD 2 .junk), gI (v.getD 3 .junk), gI (v.getD 4 .junk), gVe (.int .i64) (gBk b 0)⟩, t_chs, fun s r => { r with cs := s.cs, os := s.os, ks := s.ks, gs := s.gs, bs := s.bs, c := s.c, p := s.p, l := s.l, n := s.n }, fun s => s, fun _ s => s, [.exit 0], E_chs, I_chs, mu_chs⟩
abbrev run_chs := D_chs.run
abbrev exn_chs := D_chs.exn
abbrev E_chsq := D_chs.q
theorem rq_chs (s : L_chs) (hI : I_chs s) : (t_chs s).all (fun _ => True) := by
 refine ⟨fun c1 => ⟨?_, ?_, fun c2 => ⟨?_, ?_, trivial⟩, fun c2 => ⟨⟨rfl, rfl⟩, trivial⟩⟩, fun c1 => ⟨⟨rfl, rfl⟩, trivial⟩⟩
 all_goals ((obtain ⟨⟨h0, h1⟩, h2, h3, h4, h5, h6⟩ := hI; (try simp only [decide_eq_true_eq] at c1); first | omega | (refine ⟨h6 _ ?_, h5⟩; rw [gi_eq (by omega)]; exact List.getElem_mem _) | (refine ⟨by omega, ?_, ?_⟩ <;> simp only [List.length_cons, List.length_nil] <;> omega) | exact ⟨rfl, by simp⟩ | exact ⟨rfl, rfl⟩))
noncomputable def gam27 : Specs := specsOf [(44, S_rowu)]
theorem gok27 : ∀ g S, gam27 g = some S → Valid Try.prog noGlobs g S := specs_ok (l := [(44, S_rowu)]) ⟨v_rowu, trivial⟩
theorem ok_chs : D_chs.Ok := ⟨fun s => by kernel_rfl, fun s => by kernel_rfl, fun s => rfl, fun s t r => rfl, fun s => rfl, fun s => by kernel_rfl⟩
theorem pf_chs : D_chs.Pf (Q_chs) := ⟨chs_E, fun _ _ => rfl, chs_da, rq_chs⟩
theorem snd_chs : SoundA Try.prog noGlobs (AN 0) (.loop body_chs) D_chs.lp := LpD.snd ok_chs pf_chs (code_sound (Γ := gam27) (K := noK) (L := noLoops) gok27 noK_sound body_chs (fun b hb => by rw [show loopsIn body_chs = [] by kernel_rfl] at hb; cases hb)) (fun s => by kernel_rfl)
theorem chs_fin (s : L_chs) (hE : E_chs s) : ∃ s', I_chs s' ∧ Q_chs (exn_chs s) s' (run_chs s) := LpD.fin ok_chs pf_chs s hE
theorem chs_keep (s : L_chs) (hE : E_chs s) : (fun s : L_chs => s.out ++ chz s.gs s.p (s.l.drop s.i.toNat)) (run_chs s) = (fun s : L_chs => s.out ++ chz s.gs s.p (s.l.drop s.i.toNat)) s := by
 exact LpD.keepV ok_chs pf_chs (fun s : L_chs => s.out ++ chz s.gs s.p (s.l.drop s.i.toNat)) (fun s hI => by
  show allR _ _ (f_chs s)
  unfold f_chs t_chs
  dsimp only [T.rd, T.rl]
  obtain ⟨⟨h0, h1⟩, h2, h3, h4, h5, h6⟩ := hI
  refine allR_ite (fun c1 => ?_) (fun c1 => rfl)
  have c1 : s.i < s.n := by simpa using c1
  rw [wrapS (x := s.i + 1) (by omega) (by omega)]
  refine allR_ite (fun c2 => ?_) (fun c2 => ?_)
  ·show _ ++ chz _ _ _ = _ ++ chz _ _ _
   rw [(gi_step h0 (show s.i < s.l.length by omega)).1]
   simp [chz, c2]
  ·show _ ++ chz _ _ _ = _ ++ chz _ _ _
   rw [(gi_step h0 (show s.i < s.l.length by omega)).1]
   simp [chz, c2]) s hE
theorem chs_res (s : L_chs) (hE : E_chs s) : (run_chs s).out = chz s.gs s.p s.l := by
 obtain ⟨s', _, q1, q2⟩ := chs_fin s hE
 have q3 := chs_keep s hE
 obtain ⟨h0, h1, h2, h3⟩ := hE
 simp only at q3
 rw [q2, show (run_chs s).n = s.n from rfl, show (run_chs s).l = s.l from rfl, List.drop_eq_nil_of_le (by omega), h0, h1] at q3
 simpa [chz] using q3
def S0_chos : List LV → T LV
 | [.xl (.int .i64) l, .fn 44 [.xq 5 q0, .xq 2 q1]] => (match ([q0 0, q0 1, q0 2, q0 3, q0 4] : List LV) with
  | [.xl (.pair .str (.pair (.int .i64) (.pair (.int .i64) (.pair (.int .i64) (.pair (.pair (.int .i64) (.int .i64)) (.pair (.int .i64) (.pair (.int .i64) (.pair (.int .i64) (.pair (.int .i64) (.int .i64)))))))))) _, .xl (.str) _, .xl (.pair .str (.pair (.int .i64) (.pair (.int .i64) (.int .i64)))) _, .xl (.pair .str (.pair (.int .i64) (.pair (.int .i64) (.pair (.int .i64) (.pair (.int .i64) (.pair (.int .i64) (.pair (.int .i64) (.int .i64)))))))) gs, .xl (.pair .str (.int .i64)) _] => (match ([q1 0, q1 1] : List LV) with
  | [.v (.int .i64 _), .v (.int .i64 p)] => .req (chzR gs p l) (.ok (.xl (.int .i64) (chz gs p l)))
  | _ => .no)
  | _ => .no)
 | _ => .no
noncomputable def S_chos : List LV → T LV := upS Try.prog Try.f43.params.toList S0_chos
theorem nf_chos (l : List Int) (cs : List (ByteArray × (Int × (Int × (Int × ((Int × Int) × (Int × (Int × (Int × (Int × Int)))))))))) (os : List ByteArray) (ks : List (ByteArray × (Int × (Int × Int)))) (gs : List (ByteArray × (Int × (Int × (Int × (Int × (Int × (Int × Int)))))))) (bs : List (ByteArray × Int)) (c p : Int) : funu Try.prog noGlobs (gam27) noK (fun i => if i = 3 then D_chs.lp else noLoops i) Try.f43 [.xl (.int .i64) l, .fn 44 [.xq 5 (fun j => ([.xl tCd cs, .xl .str os, .xl tKo ks, .xl tCh gs, .xl tBa bs] : List LV).getD j .junk), .xq 2 (fun j => ([.v (.int .i64 c), .v (.int .i64 p)] : List LV).getD j .junk)]] = .req (0 = 0 ∧ 0 = List.length ([] : List Int)) (.req (E_chsq (⟨cs, os, ks, gs, bs, c, p, l, (List.length l : Int), (0 : Int), ([] : List Int)⟩ : L_chs)) (.req (0 + (List.length (run_chs (⟨cs, os, ks, gs, bs, c, p, l, (List.length l : Int), (0 : Int), ([] : List Int)⟩ : L_chs)).out) ≤ List.length (run_chs (⟨cs, os, ks, gs, bs, c, p, l, (List.length l : Int), (0 : Int), ([] : List Int)⟩ : L_chs)).out) (.ok (.xl (.int .i64) (((run_chs (⟨cs, os, ks, gs, bs, c, p, l, (List.length l : Int), (0 : Int), ([] : List Int)⟩ : L_chs)).out.drop 0).take (List.length (run_chs (⟨cs, os, ks, gs, bs, c, p, l, (List.length l : Int), (0 : Int), ([] : List Int)⟩ : L_chs)).out)))))) := by kernel_rfl
theorem v_chos : Valid Try.prog noGlobs 43 S_chos := valid_ofu Try.func43 rfl gok27 noK_sound (L := (fun i => if i = 3 then D_chs.lp else noLoops i)) (fun b hb => by
 rw [show loopsIn _ = [body_chs] by kernel_rfl] at hb
 simp only [List.mem_cons, List.not_mem_nil, or_false] at hb
 subst hb
 exact snd_chs) (fun args lv h => by
 unfold S0_chos at h
 split at h
 ·split at h
  case h_2 => cases h
  rename_i heq0
  split at h
  case h_2 => cases h
  rename_i heq1
  simp only [canL, canX]
  rw [show (List.range 5).map _ = _ from heq0]
  rw [show (List.range 2).map _ = _ from heq1]
  rw [nf_chos]
  obtain ⟨⟨hp, hl, hm⟩, rfl⟩ := h
  refine ⟨⟨rfl, rfl⟩, andI ⟨⟨rfl, rfl, rfl, by simp only; omega, hp, hm⟩, rfl, rfl⟩ (fun hE => ⟨by omega, ?_⟩)⟩
  show LV.xl _ _ = _
  rw [List.drop_zero, List.take_length, chs_res _ hE.1]
 ·cases h)
end Go.Proofs.Ytihbikkkmoaljaa
