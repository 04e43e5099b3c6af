/- The reference: rows. -/
import Derived.Test.YtihbikkkmoaljaaEd
namespace Go.Proofs.Ytihbikkkmoaljaa
open Go.Sx
structure L_r9c where
 i : Int
 p : Int
 k : Int
 cs : List (ByteArray × (Int × (Int × (Int × ((Int × Int) × (Int × (Int × (Int × (Int × Int)))))))))
 os : List ByteArray
 ks : List (ByteArray × (Int × (Int × Int)))
 gs : List (ByteArray × (Int × (Int × (Int × (Int × (Int × (Int × Int)))))))
 bs : List (ByteArray × Int)
 out : List (Int × (List Int))
 row_Cap : Int
 mem : List Int
def A_r9c (s : L_r9c) : List LV := [.own 0 0, .os 1 2 0 (List.length s.out), .v (.int .i64 s.i), .v (.int .i64 s.p), .own 2 0, .v (.int .i64 s.k)]
def B_r9c (s : L_r9c) : List Blk := [⟨[.xl tCd s.cs, .xl .str s.os, .xl tKo s.ks, .xl tCh s.gs, .xl tBa s.bs], 30, .cl, false⟩, ⟨[], 49, .vec tRw s.out, false⟩, ⟨[.v (.int .i64 s.row_Cap), .os 3 1 0 (List.length s.mem)], 49, .cl, false⟩, ⟨[], 3, .vec (.int .i64) s.mem, false⟩]
noncomputable def body_r9c : Code := ((loopsIn (((loopsIn (((loopsIn (Try.f36.body.getD .skip))[0]?).getD .skip))[0]?).getD .skip))[0]?).getD .skip
def t_r9c (s : L_r9c) : T (Rd L_r9c) :=
 .br (decide (s.k < (List.length s.gs : Int))) (.req (0 ≤ s.k ∧ s.k < (List.length s.gs : Int)) (.req (upB s.cs = true ∧ (gCh s.gs s.k).2.1 < (List.length s.cs : Int)) (.req (0 ≤ s.k ∧ s.k < (List.length s.gs : Int)) (.br ((onP s.cs s.i (gCh s.gs s.k).2.1) && (usR (gCh s.gs s.k).2.2.1 s.p)) (.req (0 + (List.length s.mem) = List.length s.mem ∧ ((List.length s.mem + List.length ([s.k]) : Nat) : Int) * 8 ≤ 2 ^ 47 ∧ ((List.length s.mem + List.length ([s.k]) : Nat) : Int) < 2 ^ 62) (.rl s.out (.req (0 = 0 ∧ (List.length s.mem + List.length ([s.k])) = List.length (s.mem ++ ([s.k]))) (.ok (.next { s with k := (IntKind.i64.wrap (s.k + 1)), mem := (s.mem ++ ([s.k])) }))))) (.rl s.out (.rl s.mem (.ok (.next { s with k := (IntKind.i64.wrap (s.k + 1)) })))))))) (.rl s.out (.rl s.mem (.ok (.stop (.exit 4) s))))
abbrev f_r9c (s : L_r9c) := (t_r9c s).rd s
def E_r9c (s : L_r9c) : Prop := s.k = 0 ∧ s.mem = [] ∧ siteV s.cs s.os s.ks s.gs s.bs = true
def I_r9c (s : L_r9c) : Prop := (0 ≤ s.k ∧ s.k ≤ (List.length s.gs : Int)) ∧ s.mem = memN s.cs s.gs s.i s.p s.k.toNat ∧ siteV s.cs s.os s.ks s.gs s.bs = true
def mu_r9c (s : L_r9c) : Nat := ((List.length s.gs : Int) - s.k).toNat
def Q_r9c (x : Ex) (_ s' : L_r9c) : Prop := x = .exit 4 ∧ s'.mem = memN s'.cs s'.gs s'.i s'.p s'.gs.length
theorem r9c_E : ∀ s, E_r9c s → I_r9c s := by
 intro s h
 obtain ⟨h0, h1, h2⟩ := h
 exact ⟨by omega, by rw [h0, h1]; rfl, h2⟩
theorem r9c_da (s : L_r9c) (hI : I_r9c s) : allR (fun s' => I_r9c s' ∧ mu_r9c s' < mu_r9c s) (fun x s' => Q_r9c x s s') (f_r9c s) := by
 unfold f_r9c t_r9c
 dsimp only [T.rd, T.rl]
 obtain ⟨⟨h0, h1⟩, h2, h3⟩ := hI
 have hl := (siteV_iff.1 h3).1
 refine allR_ite (fun c1 => ?_) (fun c1 => ?_)
 ·have c1 : s.k < (List.length s.gs : Int) := by simpa using c1
  have hs := memN_succ (cs := s.cs) (gs := s.gs) (o := s.i) (p := s.p) (k := s.k.toNat)
  rw [show s.k.toNat + 1 = (s.k + 1).toNat by omega, Int.toNat_of_nonneg h0] at hs
  rw [wrapS (x := s.k + 1) (by omega) (by omega)]
  refine allR_ite (fun c2 => ?_) (fun c2 => ?_)
  ·refine ⟨⟨⟨by simp only; omega, by simp only; omega⟩, ?_, h3⟩, by simp only [mu_r9c]; omega⟩
   simp only
   rw [hs, if_pos c2, h2]
  ·refine ⟨⟨⟨by simp only; omega, by simp only; omega⟩, ?_, h3⟩, by simp only [mu_r9c]; omega⟩
   simp only
   rw [hs, if_neg (by rw [c2]; simp), h2, List.append_nil]
 ·have c1 : (List.length s.gs : Int) ≤ s.k := by simpa using c1
  exact ⟨rfl, by rw [h2, show s.k.toNat = s.gs.length by omega]⟩
def D_r9c : LpD L_r9c := ⟨0, 76, [1, 5, 6, 7, 8, 9], [.ns 8 1 3 (.int .i64)], A_r9c, B_r9c, fun v b => ⟨gI (v.getD 2 .junk), gI (v.getD 3 .junk), gI (v.getD 5 .junk), gXl tCd (gCe (gBk b 0) 0), gXl .str (gCe (gBk b 0) 1), gXl tKo (gCe (gBk b 0) 2), gXl tCh (gCe (gBk b 0) 3), gXl tBa (gCe (gBk b 0) 4), gVe tRw (gBk b 1), gI (gCe (gBk b 2) 0), gVe (.int .i64) (gBk b 3)⟩, t_r9c, fun s r => { r with i := s.i, p := s.p, cs := s.cs, os := s.os, ks := s.ks, gs := s.gs, bs := s.bs, out := s.out, row_Cap := s.row_Cap }, fun s => s, fun _ s => s, [.exit 4], E_r9c, I_r9c, mu_r9c⟩
abbrev run_r9c := D_r9c.run
abbrev exn_r9c := D_r9c.exn
abbrev E_r9cq := D_r9c.q
theorem rq_r9c (s : L_r9c) (hI : I_r9c s) : (t_r9c s).all (fun _ => True) := by
 refine ⟨fun c1 => ⟨?_, ?_, ?_, fun c2 => ⟨?_, ⟨rfl, rfl⟩, ?_, trivial⟩, fun c2 => ⟨⟨rfl, rfl⟩, ⟨rfl, rfl⟩, trivial⟩⟩, fun c1 => ⟨⟨rfl, rfl⟩, ⟨rfl, rfl⟩, trivial⟩⟩
 ·(obtain ⟨⟨h0, h1⟩, h2, h3⟩ := hI; have hl := (siteV_iff.1 h3).1; have hm : s.mem.length ≤ s.k.toNat := (by rw [h2]; exact memN_len); simp only [decide_eq_true_eq] at c1; first | omega | (refine ⟨by omega, ?_, ?_⟩ <;> simp only [List.length_cons, List.length_nil] <;> omega))
 ·exact ⟨siteV_up hI.2.2, atB_lt (siteV_at hI.2.2) hI.1.1 (by simpa using c1)⟩
 iterate 2 · (obtain ⟨⟨h0, h1⟩, h2, h3⟩ := hI; have hl := (siteV_iff.1 h3).1; have hm : s.mem.length ≤ s.k.toNat := (by rw [h2]; exact memN_len); simp only [decide_eq_true_eq] at c1; first | omega | (refine ⟨by omega, ?_, ?_⟩ <;> simp only [List.length_cons, List.length_nil] <;> omega))
 ·exact ⟨rfl, by simp⟩
noncomputable def gam53 : Specs := specsOf [(39, S_rval), (48, S_r9of), (49, S_r8on), (50, S_r8us)]
theorem gok53 : ∀ g S, gam53 g = some S → Valid Try.prog noGlobs g S := specs_ok (l := [(39, S_rval), (48, S_r9of), (49, S_r8on), (50, S_r8us)]) ⟨v_rval, v_r9of, v_r8on, v_r8us, trivial⟩
theorem ok_r9c : D_r9c.Ok := ⟨fun s => by kernel_rfl, fun s => by kernel_rfl, fun s => rfl, fun s t r => rfl, fun s => rfl, fun s => by kernel_rfl⟩
theorem pf_r9c : D_r9c.Pf (Q_r9c) := ⟨r9c_E, fun _ _ => rfl, r9c_da, rq_r9c⟩
theorem snd_r9c : SoundA Try.prog noGlobs (AN 0) (.loop body_r9c) D_r9c.lp := LpD.snd ok_r9c pf_r9c (code_sound (Γ := gam53) (K := noK) (L := noLoops) gok53 noK_sound body_r9c (fun b hb => by rw [show loopsIn body_r9c = [] by kernel_rfl] at hb; cases hb)) (fun s => by kernel_rfl)
theorem r9c_fin (s : L_r9c) (hE : E_r9c s) : ∃ s', I_r9c s' ∧ Q_r9c (exn_r9c s) s' (run_r9c s) := LpD.fin ok_r9c pf_r9c s hE
structure L_r9b where
 i : Int
 p : Int
 cs : List (ByteArray × (Int × (Int × (Int × ((Int × Int) × (Int × (Int × (Int × (Int × Int)))))))))
 os : List ByteArray
 ks : List (ByteArray × (Int × (Int × Int)))
 gs : List (ByteArray × (Int × (Int × (Int × (Int × (Int × (Int × Int)))))))
 bs : List (ByteArray × Int)
 out : List (Int × (List Int))
def A_r9b (s : L_r9b) : List LV := [.own 0 0, .os 1 2 0 (List.length s.out), .v (.int .i64 s.i), .v (.int .i64 s.p)]
def B_r9b (s : L_r9b) : List Blk := [⟨[.xl tCd s.cs, .xl .str s.os, .xl tKo s.ks, .xl tCh s.gs, .xl tBa s.bs], 30, .cl, false⟩, ⟨[], 49, .vec tRw s.out, false⟩]
noncomputable def body_r9b : Code := ((loopsIn (((loopsIn (Try.f36.body.getD .skip))[0]?).getD .skip))[0]?).getD .skip
def st8_r9c (s : L_r9b) : L_r9c := (⟨s.i, s.p, (0 : Int), s.cs, s.os, s.ks, s.gs, s.bs, s.out, (limF (gCd s.cs s.i)), ([] : List Int)⟩ : L_r9c)
def t_r9b (s : L_r9b) : T (Rd L_r9b) :=
 .br (decide (s.p < 3)) (.req (0 ≤ s.i ∧ s.i < (List.length s.cs : Int)) (.rl s.out (.req (0 = 0 ∧ 0 = List.length ([] : List Int)) (.req (E_r9cq (st8_r9c s)) (.br (decide (((List.length (run_r9c (st8_r9c s)).mem : Nat) : Int) > 0)) (.req (0 + (List.length (run_r9c (st8_r9c s)).mem) ≤ List.length (run_r9c (st8_r9c s)).mem) (.req (0 + (List.length s.out) = List.length s.out ∧ ((List.length s.out + List.length ([((limF (gCd s.cs s.i)), ((run_r9c (st8_r9c s)).mem.drop 0).take (List.length (run_r9c (st8_r9c s)).mem))]) : Nat) : Int) * 32 ≤ 2 ^ 47 ∧ ((List.length s.out + List.length ([((limF (gCd s.cs s.i)), ((run_r9c (st8_r9c s)).mem.drop 0).take (List.length (run_r9c (st8_r9c s)).mem))]) : Nat) : Int) < 2 ^ 62) (.req (0 = 0 ∧ (List.length s.out + List.length ([((limF (gCd s.cs s.i)), ((run_r9c (st8_r9c s)).mem.drop 0).take (List.length (run_r9c (st8_r9c s)).mem))])) = List.length (s.out ++ ([((limF (gCd s.cs s.i)), ((run_r9c (st8_r9c s)).mem.drop 0).take (List.length (run_r9c (st8_r9c s)).mem))]))) (.ok (.next { s with p := (IntKind.i64.wrap (s.p + 1)), out := (s.out ++ ([((limF (gCd s.cs s.i)), ((run_r9c (st8_r9c s)).mem.drop 0).take (List.length (run_r9c (st8_r9c s)).mem))])) }))))) (.rl s.out (.ok (.next { s with p := (IntKind.i64.wrap (s.p + 1)) })))))))) (.rl s.out (.ok (.stop (.exit 2) s)))
abbrev f_r9b (s : L_r9b) := (t_r9b s).rd s
def E_r9b (s : L_r9b) : Prop := s.p = 0 ∧ (s.out.length : Int) ≤ 1000 ∧ siteV s.cs s.os s.ks s.gs s.bs = true ∧ 0 ≤ s.i ∧ s.i < (List.length s.cs : Int)
def I_r9b (s : L_r9b) : Prop := (0 ≤ s.p ∧ s.p ≤ 3) ∧ (s.out.length : Int) ≤ 1000 + s.p ∧ siteV s.cs s.os s.ks s.gs s.bs = true ∧ 0 ≤ s.i ∧ s.i < (List.length s.cs : Int)
def mu_r9b (s : L_r9b) : Nat := (3 - s.p).toNat
def Q_r9b (_ : Ex) (_ _ : L_r9b) : Prop := True
theorem r9b_E : ∀ s, E_r9b s → I_r9b s := by
 intro s h
 obtain ⟨h0, h1, h2⟩ := h
 exact ⟨by omega, by omega, h2⟩
theorem r9b_in (s : L_r9b) (hI : I_r9b s) : E_r9c (st8_r9c s) := ⟨rfl, rfl, hI.2.2.1⟩
theorem r9b_m (s : L_r9b) (hI : I_r9b s) (c1 : s.p < 3) : (run_r9c (st8_r9c s)).mem = chz s.gs s.p (belN s.cs s.gs s.i s.gs.length) := by
 obtain ⟨s', _, q1, q2⟩ := r9c_fin _ (r9b_in s hI)
 rw [← memN_eq hI.2.2.1 (by have := hI.1; omega)]
 exact q2
theorem r9b_da (s : L_r9b) (hI : I_r9b s) : allR (fun s' => I_r9b s' ∧ mu_r9b s' < mu_r9b s) (fun x s' => Q_r9b x s s') (f_r9b s) := by
 unfold f_r9b t_r9b
 dsimp only [T.rd, T.rl]
 obtain ⟨⟨h0, h1⟩, h2, h3⟩ := hI
 refine allR_ite (fun c1 => ?_) (fun c1 => trivial)
 have c1 : s.p < 3 := by simpa using c1
 rw [wrapS (x := s.p + 1) (by omega) (by omega)]
 refine allR_ite (fun c2 => ?_) (fun c2 => ?_)
 ·exact ⟨⟨⟨by simp only; omega, by simp only; omega⟩, by simp only [List.length_append, List.length_cons, List.length_nil]; omega, h3⟩, by simp only [mu_r9b]; omega⟩
 ·exact ⟨⟨⟨by simp only; omega, by simp only; omega⟩, by simp only; omega, h3⟩, by simp only [mu_r9b]; omega⟩
def D_r9b : LpD L_r9b := ⟨0, 76, [1, 5, 6, 7], [], A_r9b, B_r9b, fun v b => ⟨gI (v.getD 2 .junk), gI (v.getD 3 .junk), gXl tCd (gCe (gBk b 0) 0), gXl .str (gCe (gBk b 0) 1), gXl tKo (gCe (gBk b 0) 2), gXl tCh (gCe (gBk b 0) 3), gXl tBa (gCe (gBk b 0) 4), gVe tRw (gBk b 1)⟩, t_r9b, fun s r => { r with i := s.i, cs := s.cs, os := s.os, ks := s.ks, gs := s.gs, bs := s.bs }, fun s => s, fun _ s => s, [.exit 2], E_r9b, I_r9b, mu_r9b⟩
abbrev run_r9b := D_r9b.run
abbrev exn_r9b := D_r9b.exn
abbrev E_r9bq := D_r9b.q
theorem rq_r9b (s : L_r9b) (hI : I_r9b s) : (t_r9b s).all (fun _ => True) := by
 refine ⟨fun c1 => ⟨?_, ⟨rfl, rfl⟩, ?_, ?_, fun c2 => ⟨?_, ?_, ?_, trivial⟩, fun c2 => ⟨⟨rfl, rfl⟩, trivial⟩⟩, fun c1 => ⟨⟨rfl, rfl⟩, trivial⟩⟩
 ·(obtain ⟨h0, h2, h3, h4, h5⟩ := hI; first | omega | (refine ⟨by omega, ?_, ?_⟩ <;> simp only [List.length_cons, List.length_nil] <;> omega))
 ·exact ⟨rfl, by simp⟩
 ·exact ⟨r9b_in s hI, rfl, rfl⟩
 iterate 2 · (obtain ⟨h0, h2, h3, h4, h5⟩ := hI; first | omega | (refine ⟨by omega, ?_, ?_⟩ <;> simp only [List.length_cons, List.length_nil] <;> omega))
 ·exact ⟨rfl, by simp⟩
theorem ok_r9b : D_r9b.Ok := ⟨fun s => by kernel_rfl, fun s => by kernel_rfl, fun s => rfl, fun s t r => rfl, fun s => rfl, fun s => by kernel_rfl⟩
theorem pf_r9b : D_r9b.Pf (Q_r9b) := ⟨r9b_E, fun _ _ => rfl, r9b_da, rq_r9b⟩
theorem snd_r9b : SoundA Try.prog noGlobs (AN 0) (.loop body_r9b) D_r9b.lp := LpD.snd ok_r9b pf_r9b (code_sound (Γ := gam53) (K := noK) (L := (fun i => if i = 13 then D_r9c.lp else noLoops i)) gok53 noK_sound body_r9b (fun b hb => by
 rw [show loopsIn _ = [body_r9c] by kernel_rfl] at hb
 simp only [List.mem_cons, List.not_mem_nil, or_false] at hb
 subst hb
 exact snd_r9c)) (fun s => by kernel_rfl)
theorem r9b_fin (s : L_r9b) (hE : E_r9b s) : ∃ s', I_r9b s' ∧ Q_r9b (exn_r9b s) s' (run_r9b s) := LpD.fin ok_r9b pf_r9b s hE
theorem r9b_res (s : L_r9b) (hE : E_r9b s) : (fun (x : Ex) (s' : L_r9b) (v : List Rw) => x = .exit 2 ∧ s'.out = v) (exn_r9b s) (run_r9b s) ((fun s : L_r9b => s.out ++ rowT s.cs s.gs s.i (3 - s.p).toNat) s) := by
 exact LpD.finV ok_r9b pf_r9b (fun s : L_r9b => s.out ++ rowT s.cs s.gs s.i (3 - s.p).toNat) (fun x s' v => x = .exit 2 ∧ s'.out = v) (fun s hI => by
  show allR _ _ (f_r9b s)
  unfold f_r9b t_r9b
  dsimp only [T.rd, T.rl]
  have hm := fun c1 => r9b_m s hI c1
  obtain ⟨⟨h0, h1⟩, h2, h3⟩ := hI
  refine allR_ite (fun c1 => ?_) (fun c1 => ?_)
  ·have c1 : s.p < 3 := by simpa using c1
   have e : (3 - s.p).toNat = (3 - (s.p + 1)).toNat + 1 := by omega
   rw [wrapS (x := s.p + 1) (by omega) (by omega), hm c1, List.drop_zero, List.take_length]
   have er : rowT s.cs s.gs s.i (3 - s.p).toNat = rowP s.cs s.gs s.i s.p ++ rowT s.cs s.gs s.i (3 - (s.p + 1)).toNat := by
    rw [e, rowT]
    congr 2
    omega
   refine allR_ite (fun c2 => ?_) (fun c2 => ?_)
   ·simp only [decide_eq_true_eq] at c2
    show _ ++ _ = _ ++ _
    simp only
    rw [er, rowP, if_pos (by omega), List.append_assoc]
   ·simp only [decide_eq_false_iff_not] at c2
    show _ ++ _ = _ ++ _
    simp only
    rw [er, rowP, if_neg (by omega), List.nil_append]
  ·have c1 : 3 ≤ s.p := by simpa using c1
   refine ⟨rfl, ?_⟩
   rw [show (3 - s.p).toNat = 0 by omega, rowT, List.append_nil]) s hE
structure L_r9a where
 i : Int
 cs : List (ByteArray × (Int × (Int × (Int × ((Int × Int) × (Int × (Int × (Int × (Int × Int)))))))))
 os : List ByteArray
 ks : List (ByteArray × (Int × (Int × Int)))
 gs : List (ByteArray × (Int × (Int × (Int × (Int × (Int × (Int × Int)))))))
 bs : List (ByteArray × Int)
 out : List (Int × (List Int))
def A_r9a (s : L_r9a) : List LV := [.own 0 0, .os 1 2 0 (List.length s.out), .v (.int .i64 s.i)]
def B_r9a (s : L_r9a) : List Blk := [⟨[.xl tCd s.cs, .xl .str s.os, .xl tKo s.ks, .xl tCh s.gs, .xl tBa s.bs], 30, .cl, false⟩, ⟨[], 49, .vec tRw s.out, false⟩]
noncomputable def body_r9a : Code := ((loopsIn (Try.f36.body.getD .skip))[0]?).getD .skip
def st9_r9b (s : L_r9a) : L_r9b := (⟨s.i, (0 : Int), s.cs, s.os, s.ks, s.gs, s.bs, s.out⟩ : L_r9b)
def t_r9a (s : L_r9a) : T (Rd L_r9a) :=
 .br (decide (s.i < (List.length s.cs : Int))) (.rl s.out (.req (E_r9bq (st9_r9b s)) (.rl (run_r9b (st9_r9b s)).out (.ok (.next { s with i := (IntKind.i64.wrap (s.i + 1)), out := (run_r9b (st9_r9b s)).out }))))) (.rl s.out (.ok (.stop (.exit 0) s)))
abbrev f_r9a (s : L_r9a) := (t_r9a s).rd s
def E_r9a (s : L_r9a) : Prop := s.i = 0 ∧ s.out = [] ∧ siteV s.cs s.os s.ks s.gs s.bs = true
def I_r9a (s : L_r9a) : Prop := (0 ≤ s.i ∧ s.i ≤ (List.length s.cs : Int)) ∧ s.out = rowN s.cs s.gs s.i.toNat ∧ siteV s.cs s.os s.ks s.gs s.bs = true
def mu_r9a (s : L_r9a) : Nat := ((List.length s.cs : Int) - s.i).toNat
def Q_r9a (x : Ex) (_ s' : L_r9a) : Prop := x = .exit 0 ∧ s'.out = rowN s'.cs s'.gs s'.cs.length
theorem r9a_E : ∀ s, E_r9a s → I_r9a s := by
 intro s h
 obtain ⟨h0, h1, h2⟩ := h
 exact ⟨by omega, by rw [h0, h1]; rfl, h2⟩
theorem r9a_in (s : L_r9a) (hI : I_r9a s) (c1 : s.i < (List.length s.cs : Int)) : E_r9b (st9_r9b s) := by
 obtain ⟨⟨h0, h1⟩, h2, h3⟩ := hI
 have hl := (siteV_iff.1 h3).1
 have hr := rowN_len (cs := s.cs) (gs := s.gs) (k := s.i.toNat)
 refine ⟨rfl, ?_, h3, h0, c1⟩
 show (s.out.length : Int) ≤ 1000
 rw [h2]
 omega
theorem r9a_da (s : L_r9a) (hI : I_r9a s) : allR (fun s' => I_r9a s' ∧ mu_r9a s' < mu_r9a s) (fun x s' => Q_r9a x s s') (f_r9a s) := by
 unfold f_r9a t_r9a
 dsimp only [T.rd, T.rl]
 have hin := fun c1 => r9a_in s hI c1
 obtain ⟨⟨h0, h1⟩, h2, h3⟩ := hI
 have hl := (siteV_iff.1 h3).1
 refine allR_ite (fun c1 => ?_) (fun c1 => ?_)
 ·have c1 : s.i < (List.length s.cs : Int) := by simpa using c1
  obtain ⟨q1, q2⟩ := r9b_res _ (hin c1)
  have q2 : (run_r9b (st9_r9b s)).out = s.out ++ rowT s.cs s.gs s.i 3 := q2
  rw [wrapS (x := s.i + 1) (by omega) (by omega)]
  refine ⟨⟨⟨by simp only; omega, by simp only; omega⟩, ?_, h3⟩, by simp only [mu_r9a]; omega⟩
  simp only
  rw [q2, rowT_3, show (s.i + 1).toNat = s.i.toNat + 1 by omega, rowN, Int.toNat_of_nonneg h0, h2]
 ·have c1 : (List.length s.cs : Int) ≤ s.i := by simpa using c1
  exact ⟨rfl, by rw [h2, show s.i.toNat = s.cs.length by omega]⟩
def D_r9a : LpD L_r9a := ⟨0, 76, [1, 5, 6], [.nl 5 49 tRw], A_r9a, B_r9a, fun v b => ⟨gI (v.getD 2 .junk), gXl tCd (gCe (gBk b 0) 0), gXl .str (gCe (gBk b 0) 1), gXl tKo (gCe (gBk b 0) 2), gXl tCh (gCe (gBk b 0) 3), gXl tBa (gCe (gBk b 0) 4), gVe tRw (gBk b 1)⟩, t_r9a, fun s r => { r with cs := s.cs, os := s.os, ks := s.ks, gs := s.gs, bs := s.bs }, fun s => s, fun _ s => s, [.exit 0], E_r9a, I_r9a, mu_r9a⟩
abbrev run_r9a := D_r9a.run
abbrev exn_r9a := D_r9a.exn
abbrev E_r9aq := D_r9a.q
theorem rq_r9a (s : L_r9a) (hI : I_r9a s) : (t_r9a s).all (fun _ => True) := by
 refine ⟨fun c1 => ⟨⟨rfl, rfl⟩, ?_, ⟨rfl, rfl⟩, trivial⟩, fun c1 => ⟨⟨rfl, rfl⟩, trivial⟩⟩
 ·exact ⟨r9a_in s hI (by simpa using c1), rfl, rfl⟩
theorem ok_r9a : D_r9a.Ok := ⟨fun s => by kernel_rfl, fun s => by kernel_rfl, fun s => rfl, fun s t r => rfl, fun s => rfl, fun s => by kernel_rfl⟩
theorem pf_r9a : D_r9a.Pf (Q_r9a) := ⟨r9a_E, fun _ _ => rfl, r9a_da, rq_r9a⟩
theorem snd_r9a : SoundA Try.prog noGlobs (AN 0) (.loop body_r9a) D_r9a.lp := LpD.snd ok_r9a pf_r9a (code_sound (Γ := gam53) (K := noK) (L := (fun i => if i = 9 then D_r9b.lp else noLoops i)) gok53 noK_sound body_r9a (fun b hb => by
 rw [show loopsIn _ = [body_r9b] by kernel_rfl] at hb
 simp only [List.mem_cons, List.not_mem_nil, or_false] at hb
 subst hb
 exact snd_r9b)) (fun s => by kernel_rfl)
theorem r9a_fin (s : L_r9a) (hE : E_r9a s) : ∃ s', I_r9a s' ∧ Q_r9a (exn_r9a s) s' (run_r9a s) := LpD.fin ok_r9a pf_r9a s hE
def S0_r9rw : List LV → T LV
 | [.agg [.xl (.pair .str (.pair (.int .i64) (.pair (.int .i64) (.pair (.int .i64) (.pair (.pair (.int .i64) (.int .i64)) (.pair (.int .i64) (.pair (.int .i64) (.pair (.int .i64) (.pair (.int .i64) (.int .i64)))))))))) cs, .xl (.str) os, .xl (.pair .str (.pair (.int .i64) (.pair (.int .i64) (.int .i64)))) ks, .xl (.pair .str (.pair (.int .i64) (.pair (.int .i64) (.pair (.int .i64) (.pair (.int .i64) (.pair (.int .i64) (.pair (.int .i64) (.int .i64)))))))) gs, .xl (.pair .str (.int .i64)) bs]] => .req (nmR (nmsOf cs os ks gs bs)) (.ok (.tup [.xl tRw (rowL cs os ks gs bs), .v (.int .i64 (rowE cs os ks gs bs))]))
 | _ => .no
noncomputable def S_r9rw : List LV → T LV := upS Try.prog Try.f36.params.toList S0_r9rw
theorem nf_r9rw (cs : List (ByteArray × (Int × (Int × (Int × ((Int × Int) × (Int × (Int × (Int × (Int × Int)))))))))) (os : List ByteArray) (ks : List (ByteArray × (Int × (Int × Int)))) (gs : List (ByteArray × (Int × (Int × (Int × (Int × (Int × (Int × Int)))))))) (bs : List (ByteArray × Int)) : funu Try.prog noGlobs (gam53) noK (fun i => if i = 6 then D_r9a.lp else noLoops i) Try.f36 [.agg [.xl tCd cs, .xl .str os, .xl tKo ks, .xl tCh gs, .xl tBa bs]] = .req (nmR (nmsOf cs os ks gs bs)) (.br (!(siteV cs os ks gs bs)) (.ok (.tup [.xl tRw ([] : List (Int × (List Int))), .v (.int .i64 1)])) (.req (0 = 0 ∧ 0 = List.length ([] : List (Int × (List Int)))) (.req (E_r9aq (⟨(0 : Int), cs, os, ks, gs, bs, ([] : List (Int × (List Int)))⟩ : L_r9a)) (.req (0 + (List.length (run_r9a (⟨(0 : Int), cs, os, ks, gs, bs, ([] : List (Int × (List Int)))⟩ : L_r9a)).out) ≤ List.length (run_r9a (⟨(0 : Int), cs, os, ks, gs, bs, ([] : List (Int × (List Int)))⟩ : L_r9a)).out) (.ok (.tup [.xl tRw (((run_r9a (⟨(0 : Int), cs, os, ks, gs, bs, ([] : List (Int × (List Int)))⟩ : L_r9a)).out.drop 0).take (List.length (run_r9a (⟨(0 : Int), cs, os, ks, gs, bs, ([] : List (Int × (List Int)))⟩ : L_r9a)).out)), .v (.int .i64 0)])))))) := by kernel_rfl
theorem v_r9rw : Valid Try.prog noGlobs 36 S_r9rw := valid_ofu Try.func36 rfl gok53 noK_sound (L := (fun i => if i = 6 then D_r9a.lp else noLoops i)) (fun b hb => by
 rw [show loopsIn _ = [body_r9a] by kernel_rfl] at hb
 simp only [List.mem_cons, List.not_mem_nil, or_false] at hb
 subst hb
 exact snd_r9a) (fun args lv h => by
 unfold S0_r9rw at h
 split at h
 ·simp only [canL, canX]
  rw [nf_r9rw]
  rename_i cs os ks gs bs
  obtain ⟨hn, rfl⟩ := h
  refine ⟨hn, fun c => ?_, fun c => ?_⟩
  ·have c : siteV cs os ks gs bs = false := by simpa using c
   show LV.tup _ = _
   unfold rowL rowE
   rw [c]
   rfl
  ·have c : siteV cs os ks gs bs = true := by simpa using c
   have hE : E_r9a ⟨(0 : Int), cs, os, ks, gs, bs, ([] : List (Int × (List Int)))⟩ := ⟨rfl, rfl, c⟩
   obtain ⟨s', _, q1, q2⟩ := r9a_fin _ hE
   have q2 : (run_r9a ⟨(0 : Int), cs, os, ks, gs, bs, ([] : List (Int × (List Int)))⟩).out = rowN cs gs cs.length := q2
   refine ⟨⟨rfl, rfl⟩, ⟨hE, rfl, rfl⟩, by omega, ?_⟩
   show LV.tup [LV.xl _ _, _] = _
   rw [List.drop_zero, List.take_length, q2]
   unfold rowL rowE
   rw [if_pos c, if_pos c]
 ·cases h)
end Go.Proofs.Ytihbikkkmoaljaa
