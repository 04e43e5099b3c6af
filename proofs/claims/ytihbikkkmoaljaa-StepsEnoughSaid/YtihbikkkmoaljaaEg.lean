/- The reference: sharing. -/
import Derived.Test.YtihbikkkmoaljaaEf
namespace Go.Proofs.Ytihbikkkmoaljaa
open Go.Sx
def S0_rfw3 : List LV → T LV
 | [.agg [.xl (.pair .str (.pair (.int .i64) (.pair (.int .i64) (.pair (.int .i64) (.pair (.pair (.int .i64) (.int .i64)) (.pair (.int .i64) (.pair (.int .i64) (.pair (.int .i64) (.pair (.int .i64) (.int .i64)))))))))) cs, .xl (.str) os, .xl (.pair .str (.pair (.int .i64) (.pair (.int .i64) (.int .i64)))) ks, .xl (.pair .str (.pair (.int .i64) (.pair (.int .i64) (.pair (.int .i64) (.pair (.int .i64) (.pair (.int .i64) (.pair (.int .i64) (.int .i64)))))))) gs, .xl (.pair .str (.int .i64)) bs], .xl (.int .i64) a, .xl (.int .i64) b, .xl (.int .i64) c] => .ok (.v (.bool (fewB cs os ks gs bs a b c)))
 | _ => .no
noncomputable def S_rfw3 : List LV → T LV := upS Try.prog Try.f11.params.toList S0_rfw3
noncomputable def gam59 : Specs := specsOf [(29, S_rfew)]
theorem gok59 : ∀ g S, gam59 g = some S → Valid Try.prog noGlobs g S := specs_ok (l := [(29, S_rfew)]) ⟨v_rfew, trivial⟩
theorem nf_rfw3 (cs : List (ByteArray × (Int × (Int × (Int × ((Int × Int) × (Int × (Int × (Int × (Int × Int)))))))))) (os : List ByteArray) (ks : List (ByteArray × (Int × (Int × Int)))) (gs : List (ByteArray × (Int × (Int × (Int × (Int × (Int × (Int × Int)))))))) (bs : List (ByteArray × Int)) (a b c : List Int) : funu Try.prog noGlobs (gam59) noK noLoops Try.f11 [.agg [.xl tCd cs, .xl .str os, .xl tKo ks, .xl tCh gs, .xl tBa bs], .xl (.int .i64) a, .xl (.int .i64) b, .xl (.int .i64) c] = .ok (.v (.bool ((decide (List.length cs ≤ 40 ∧ List.length os ≤ 40 ∧ List.length ks ≤ 40 ∧ List.length gs ≤ 40 ∧ List.length bs ≤ 40)) && ((decide ((List.length a : Int) ≤ 40)) && ((decide ((List.length b : Int) ≤ 40)) && (decide ((List.length c : Int) ≤ 40))))))) := by kernel_rfl
theorem v_rfw3 : Valid Try.prog noGlobs 11 S_rfw3 := valid_ofu Try.func11 rfl gok59 noK_sound (no_loops (by kernel_rfl)) (fun args lv h => by
 unfold S0_rfw3 at h
 split at h
 ·simp only [canL, canX]
  rw [nf_rfw3]
  exact h
 ·cases h)
structure L_rsb where
 al : List Int
 mo : List Int
 od : List Int
 rows : List (Int × (List Int))
 level : Int
 k : Int
 cs : List (ByteArray × (Int × (Int × (Int × ((Int × Int) × (Int × (Int × (Int × (Int × Int)))))))))
 os : List ByteArray
 ks : List (ByteArray × (Int × (Int × Int)))
 gs : List (ByteArray × (Int × (Int × (Int × (Int × (Int × (Int × Int)))))))
 bs : List (ByteArray × Int)
 out : List Int
def A_rsb (s : L_rsb) : List LV := [.xl (.int .i64) s.al, .xl (.int .i64) s.mo, .xl (.int .i64) s.od, .own 0 0, .xl tRw s.rows, .os 1 1 0 (List.length s.out), .v (.int .i64 s.level), .v (.int .i64 s.k)]
def B_rsb (s : L_rsb) : List Blk := [⟨[.xl tCd s.cs, .xl .str s.os, .xl tKo s.ks, .xl tCh s.gs, .xl tBa s.bs], 30, .cl, false⟩, ⟨[], 3, .vec (.int .i64) s.out, false⟩]
noncomputable def body_rsb : Code := ((loopsIn (((loopsIn (Try.f15.body.getD .skip))[0]?).getD .skip))[0]?).getD .skip
def t_rsb (s : L_rsb) : T (Rd L_rsb) :=
 .br (decide (s.k < (List.length s.od : Int))) (.req (0 ≤ s.k ∧ s.k < (List.length s.od : Int)) (.req (0 ≤ (gi s.od s.k) ∧ (gi s.od s.k) < (List.length s.gs : Int)) (.req (0 ≤ (gi s.od s.k) ∧ (gi s.od s.k) < ((List.length s.out : Nat) : Int)) (.req ((gi s.od s.k).toNat < List.length s.out) (.br ((amE (gCh s.gs (gi s.od s.k)).2.2.2.1 (gCh s.gs (gi s.od s.k)).2.2.2.2.1 (gCh s.gs (gi s.od s.k)).2.2.2.2.2.1 s.level) != 0) (.rl s.out (.ok (.next { s with k := (IntKind.i64.wrap (s.k + 1)) }))) (.req (0 ≤ (gi s.od s.k) ∧ (gi s.od s.k) < (List.length s.mo : Int)) (.br ((decide ((amA (gCh s.gs (gi s.od s.k)).2.2.2.1 (gCh s.gs (gi s.od s.k)).2.2.2.2.1 (gCh s.gs (gi s.od s.k)).2.2.2.2.2.1 s.level) > (gi s.mo (gi s.od s.k)))) || ((s.out.getD (gi s.od s.k).toNat (Ty.dflt (.int .i64))) != (amA (gCh s.gs (gi s.od s.k)).2.2.2.1 (gCh s.gs (gi s.od s.k)).2.2.2.2.1 (gCh s.gs (gi s.od s.k)).2.2.2.2.2.1 (IntKind.i64.wrap (s.level - 1))))) (.rl s.out (.ok (.next { s with k := (IntKind.i64.wrap (s.k + 1)) }))) (.req (0 ≤ (gi s.od s.k) ∧ (gi s.od s.k) < ((List.length s.out : Nat) : Int)) (.req ((gi s.od s.k).toNat < List.length s.out) (.req (0 + (List.length s.out) ≤ List.length (s.out.set (gi s.od s.k).toNat (amA (gCh s.gs (gi s.od s.k)).2.2.2.1 (gCh s.gs (gi s.od s.k)).2.2.2.2.1 (gCh s.gs (gi s.od s.k)).2.2.2.2.2.1 s.level))) (.req ((List.length s.rows : Int) ≤ 1000 ∧ ∀ r ∈ s.rows, rowR s.al (((s.out.set (gi s.od s.k).toNat (amA (gCh s.gs (gi s.od s.k)).2.2.2.1 (gCh s.gs (gi s.od s.k)).2.2.2.2.1 (gCh s.gs (gi s.od s.k)).2.2.2.2.2.1 s.level)).drop 0).take (List.length s.out)) r) (.br (!(permB s.rows s.al (((s.out.set (gi s.od s.k).toNat (amA (gCh s.gs (gi s.od s.k)).2.2.2.1 (gCh s.gs (gi s.od s.k)).2.2.2.2.1 (gCh s.gs (gi s.od s.k)).2.2.2.2.2.1 s.level)).drop 0).take (List.length s.out)))) (.req (0 ≤ (gi s.od s.k) ∧ (gi s.od s.k) < ((List.length s.out : Nat) : Int)) (.req ((gi s.od s.k).toNat < List.length (s.out.set (gi s.od s.k).toNat (amA (gCh s.gs (gi s.od s.k)).2.2.2.1 (gCh s.gs (gi s.od s.k)).2.2.2.2.1 (gCh s.gs (gi s.od s.k)).2.2.2.2.2.1 s.level))) (.req (0 = 0 ∧ (List.length s.out) = List.length ((s.out.set (gi s.od s.k).toNat (amA (gCh s.gs (gi s.od s.k)).2.2.2.1 (gCh s.gs (gi s.od s.k)).2.2.2.2.1 (gCh s.gs (gi s.od s.k)).2.2.2.2.2.1 s.level)).set (gi s.od s.k).toNat (s.out.getD (gi s.od s.k).toNat (Ty.dflt (.int .i64))))) (.ok (.next { s with k := (IntKind.i64.wrap (s.k + 1)), out := ((s.out.set (gi s.od s.k).toNat (amA (gCh s.gs (gi s.od s.k)).2.2.2.1 (gCh s.gs (gi s.od s.k)).2.2.2.2.1 (gCh s.gs (gi s.od s.k)).2.2.2.2.2.1 s.level)).set (gi s.od s.k).toNat (s.out.getD (gi s.od s.k).toNat (Ty.dflt (.int .i64)))) }))))) (.req (0 = 0 ∧ (List.length s.out) = List.length (s.out.set (gi s.od s.k).toNat (amA (gCh s.gs (gi s.od s.k)).2.2.2.1 (gCh s.gs (gi s.od s.k)).2.2.2.2.1 (gCh s.gs (gi s.od s.k)).2.2.2.2.2.1 s.level))) (.ok (.next { s with k := (IntKind.i64.wrap (s.k + 1)), out := (s.out.set (gi s.od s.k).toNat (amA (gCh s.gs (gi s.od s.k)).2.2.2.1 (gCh s.gs (gi s.od s.k)).2.2.2.2.1 (gCh s.gs (gi s.od s.k)).2.2.2.2.2.1 s.level)) }))))))))))))))) (.rl s.out (.ok (.stop (.exit 2) s)))
abbrev f_rsb (s : L_rsb) := (t_rsb s).rd s
def E_rsb (s : L_rsb) : Prop := s.k = 0 ∧ (1 ≤ s.level ∧ s.level ≤ 80) ∧ RfOk s.rows s.gs s.al s.mo s.od ∧ OuOk s.gs s.out
def I_rsb (s : L_rsb) : Prop := (0 ≤ s.k ∧ s.k ≤ (List.length s.od : Int)) ∧ (1 ≤ s.level ∧ s.level ≤ 80) ∧ RfOk s.rows s.gs s.al s.mo s.od ∧ OuOk s.gs s.out
def mu_rsb (s : L_rsb) : Nat := ((List.length s.od : Int) - s.k).toNat
def Q_rsb (_ : Ex) (_ _ : L_rsb) : Prop := True
theorem rsb_E : ∀ s, E_rsb s → I_rsb s := by
 intro s h
 obtain ⟨h0, h1⟩ := h
 exact ⟨by omega, h1⟩
theorem rsb_da (s : L_rsb) (hI : I_rsb s) : allR (fun s' => I_rsb s' ∧ mu_rsb s' < mu_rsb s) (fun x s' => Q_rsb x s s') (f_rsb s) := by
 unfold f_rsb t_rsb
 dsimp only [T.rd, T.rl]
 obtain ⟨⟨h0, h1⟩, hl, hR, hO⟩ := hI
 have hol := hR.ol
 refine allR_ite (fun c1 => ?_) (fun c1 => trivial)
 have c1 : s.k < (List.length s.od : Int) := by simpa using c1
 have hi := hR.ord _ (gi_mem h0 c1)
 have hlen := hO.len
 have hb := amA_bd (mi := (gCh s.gs (gi s.od s.k)).2.2.2.1) (ma := (gCh s.gs (gi s.od s.k)).2.2.2.2.1) (st := (gCh s.gs (gi s.od s.k)).2.2.2.2.2.1) (k := s.level)
 rw [wrapS (x := s.k + 1) (by omega) (by omega)]
 refine allR_ite (fun c2 => ?_) (fun c2 => allR_ite (fun c3 => ?_) (fun c3 => allR_ite (fun c4 => ?_) (fun c4 => ?_)))
 ·exact ⟨⟨⟨by simp only; omega, by simp only; omega⟩, hl, hR, hO⟩, by simp only [mu_rsb]; omega⟩
 ·exact ⟨⟨⟨by simp only; omega, by simp only; omega⟩, hl, hR, hO⟩, by simp only [mu_rsb]; omega⟩
 ·refine ⟨⟨⟨by simp only; omega, by simp only; omega⟩, hl, hR, ?_⟩, by simp only [mu_rsb]; omega⟩
  simp only
  exact (put_back (v := amAC s.gs (gi s.od s.k) s.level) (show (gi s.od s.k).toNat < s.out.length by omega)).symm ▸ hO
 ·exact ⟨⟨⟨by simp only; omega, by simp only; omega⟩, hl, hR, hO.put (by omega)⟩, by simp only [mu_rsb]; omega⟩
def D_rsb : LpD L_rsb := ⟨0, 118, [1, 2, 3, 4, 10, 12, 13, 14], [], A_rsb, B_rsb, fun v b => ⟨gXl (.int .i64) (v.getD 0 .junk), gXl (.int .i64) (v.getD 1 .junk), gXl (.int .i64) (v.getD 2 .junk), gXl tRw (v.getD 4 .junk), gI (v.getD 6 .junk), gI (v.getD 7 .junk), gXl tCd (gCe (gBk b 0) 0), gXl .str (gCe (gBk b 0) 1), gXl tKo (gCe (gBk b 0) 2), gXl tCh (gCe (gBk b 0) 3), gXl tBa (gCe (gBk b 0) 4), gVe (.int .i64) (gBk b 1)⟩, t_rsb, fun s r => { r with al := s.al, mo := s.mo, od := s.od, rows := s.rows, level := s.level, cs := s.cs, os := s.os, ks := s.ks, gs := s.gs, bs := s.bs }, fun s => s, fun _ s => s, [.exit 2], E_rsb, I_rsb, mu_rsb⟩
abbrev run_rsb := D_rsb.run
abbrev exn_rsb := D_rsb.exn
abbrev E_rsbq := D_rsb.q
theorem rq_rsb (s : L_rsb) (hI : I_rsb s) : (t_rsb s).all (fun _ => True) := by
 refine ⟨fun c1 => ⟨?_, ?_, ?_, ?_, fun c2 => ⟨⟨rfl, rfl⟩, trivial⟩, fun c2 => ⟨?_, fun c3 => ⟨⟨rfl, rfl⟩, trivial⟩, fun c3 => ⟨?_, ?_, ?_, ?_, fun c4 => ⟨?_, ?_, ?_, trivial⟩, fun c4 => ⟨?_, trivial⟩⟩⟩⟩, fun c1 => ⟨⟨rfl, rfl⟩, trivial⟩⟩
 iterate 8 · (obtain ⟨⟨h0, h1⟩, hl, hR, hO⟩ := hI; simp only [decide_eq_true_eq] at c1; have hi := hR.ord _ (gi_mem h0 c1); have hlen := hO.len; have hml := hR.mol; first | omega | (simp only [List.length_set]; omega))
 ·(obtain ⟨⟨h0, h1⟩, hl, hR, hO⟩ := hI; exact ⟨hR.rl, fun r hr => hR.rowR (show OuOk s.gs _ by (rw [List.drop_zero, List.take_of_length_le (by rw [List.length_set]; exact Nat.le_refl _)]; exact hO.put (by have := amA_bd (mi := (gCh s.gs (gi s.od s.k)).2.2.2.1) (ma := (gCh s.gs (gi s.od s.k)).2.2.2.2.1) (st := (gCh s.gs (gi s.od s.k)).2.2.2.2.2.1) (k := s.level); omega))) r hr⟩)
 iterate 2 · (obtain ⟨⟨h0, h1⟩, hl, hR, hO⟩ := hI; simp only [decide_eq_true_eq] at c1; have hi := hR.ord _ (gi_mem h0 c1); have hlen := hO.len; have hml := hR.mol; first | omega | (simp only [List.length_set]; omega))
 iterate 2 · exact ⟨rfl, by simp⟩
noncomputable def gam60 : Specs := specsOf [(13, S_ramp), (25, S_rperm), (36, S_r9rw), (37, S_r8cu), (38, S_rord)]
theorem gok60 : ∀ g S, gam60 g = some S → Valid Try.prog noGlobs g S := specs_ok (l := [(13, S_ramp), (25, S_rperm), (36, S_r9rw), (37, S_r8cu), (38, S_rord)]) ⟨v_ramp, v_rperm, v_r9rw, v_r8cu, v_rord, trivial⟩
theorem ok_rsb : D_rsb.Ok := ⟨fun s => by kernel_rfl, fun s => by kernel_rfl, fun s => rfl, fun s t r => rfl, fun s => rfl, fun s => by kernel_rfl⟩
theorem pf_rsb : D_rsb.Pf (Q_rsb) := ⟨rsb_E, fun _ _ => rfl, rsb_da, rq_rsb⟩
theorem snd_rsb : SoundA Try.prog noGlobs (AN 0) (.loop body_rsb) D_rsb.lp := LpD.snd ok_rsb pf_rsb (code_sound (Γ := gam60) (K := noK) (L := noLoops) gok60 noK_sound body_rsb (fun b hb => by rw [show loopsIn body_rsb = [] by kernel_rfl] at hb; cases hb)) (fun s => by kernel_rfl)
theorem rsb_fin (s : L_rsb) (hE : E_rsb s) : ∃ s', I_rsb s' ∧ Q_rsb (exn_rsb s) s' (run_rsb s) := LpD.fin ok_rsb pf_rsb s hE
theorem rsb_res (s : L_rsb) (hE : E_rsb s) : (fun (x : Ex) (s' : L_rsb) (v : List Int) => x = .exit 2 ∧ s'.out = v) (exn_rsb s) (run_rsb s) ((fun s : L_rsb => rfW s.rows s.gs s.al s.mo s.level s.out (s.od.drop s.k.toNat)) s) := by
 exact LpD.finV ok_rsb pf_rsb (fun s : L_rsb => rfW s.rows s.gs s.al s.mo s.level s.out (s.od.drop s.k.toNat)) (fun x s' v => x = .exit 2 ∧ s'.out = v) (fun s hI => by
  show allR _ _ (f_rsb s)
  unfold f_rsb t_rsb
  dsimp only [T.rd, T.rl]
  obtain ⟨⟨h0, h1⟩, hl, hR, hO⟩ := hI
  have hol := hR.ol
  refine allR_ite (fun c1 => ?_) (fun c1 => ?_)
  ·have c1 : s.k < (List.length s.od : Int) := by simpa using c1
   have hi := hR.ord _ (gi_mem h0 c1)
   have hlen := hO.len
   have e1 : ((s.out.set (gi s.od s.k).toNat (amAC s.gs (gi s.od s.k) s.level)).drop 0).take s.out.length = s.out.set (gi s.od s.k).toNat (amAC s.gs (gi s.od s.k) s.level) := by
    rw [List.drop_zero, List.take_of_length_le (by rw [List.length_set]; exact Nat.le_refl _)]
   rw [wrapS (x := s.k + 1) (by omega) (by omega), wrapS (x := s.level - 1) (by omega) (by omega)]
   have hst := (gi_step h0 c1).1
   refine allR_ite (fun c2 => ?_) (fun c2 => allR_ite (fun c3 => ?_) (fun c3 => allR_ite (fun c4 => ?_) (fun c4 => ?_)))
   ·have c2 : (amEC s.gs (gi s.od s.k) s.level != 0) = true := c2
    show rfW _ _ _ _ _ _ _ = rfW _ _ _ _ _ _ _
    rw [hst, rfW_cons, rfS, if_pos c2]
   ·have c2 : (amEC s.gs (gi s.od s.k) s.level != 0) = false := c2
    have c3 : (decide (amAC s.gs (gi s.od s.k) s.level > gi s.mo (gi s.od s.k)) || (s.out.getD (gi s.od s.k).toNat 0 != amAC s.gs (gi s.od s.k) (s.level - 1))) = true := c3
    show rfW _ _ _ _ _ _ _ = rfW _ _ _ _ _ _ _
    rw [hst, rfW_cons, rfS, if_neg (by rw [c2]; simp), if_pos c3]
   ·have c2 : (amEC s.gs (gi s.od s.k) s.level != 0) = false := c2
    have c3 : (decide (amAC s.gs (gi s.od s.k) s.level > gi s.mo (gi s.od s.k)) || (s.out.getD (gi s.od s.k).toNat 0 != amAC s.gs (gi s.od s.k) (s.level - 1))) = false := c3
    have c4 : permB s.rows s.al (s.out.set (gi s.od s.k).toNat (amAC s.gs (gi s.od s.k) s.level)) = false := by rw [← e1]; exact nt c4
    show rfW _ _ _ _ _ _ _ = rfW _ _ _ _ _ _ _
    rw [hst, rfW_cons, rfS, if_neg (by rw [c2]; simp), if_neg (by rw [c3]; simp), if_neg (by rw [c4]; simp)]
    exact congrArg (fun o => rfW _ _ _ _ _ o _) (put_back (v := amAC s.gs (gi s.od s.k) s.level) (show (gi s.od s.k).toNat < s.out.length by omega))
   ·have c2 : (amEC s.gs (gi s.od s.k) s.level != 0) = false := c2
    have c3 : (decide (amAC s.gs (gi s.od s.k) s.level > gi s.mo (gi s.od s.k)) || (s.out.getD (gi s.od s.k).toNat 0 != amAC s.gs (gi s.od s.k) (s.level - 1))) = false := c3
    have c4 : permB s.rows s.al (s.out.set (gi s.od s.k).toNat (amAC s.gs (gi s.od s.k) s.level)) = true := by rw [← e1]; exact nf c4
    show rfW _ _ _ _ _ _ _ = rfW _ _ _ _ _ _ _
    rw [hst, rfW_cons, rfS, if_neg (by rw [c2]; simp), if_neg (by rw [c3]; simp), if_pos c4]
    rfl
  ·have c1 : (List.length s.od : Int) ≤ s.k := by simpa using c1
   refine ⟨rfl, ?_⟩
   rw [List.drop_eq_nil_of_le (by omega)]
   rfl) s hE
structure L_rsa where
 al : List Int
 mo : List Int
 od : List Int
 rows : List (Int × (List Int))
 level : Int
 cs : List (ByteArray × (Int × (Int × (Int × ((Int × Int) × (Int × (Int × (Int × (Int × Int)))))))))
 os : List ByteArray
 ks : List (ByteArray × (Int × (Int × Int)))
 gs : List (ByteArray × (Int × (Int × (Int × (Int × (Int × (Int × Int)))))))
 bs : List (ByteArray × Int)
 out : List Int
def A_rsa (s : L_rsa) : List LV := [.xl (.int .i64) s.al, .xl (.int .i64) s.mo, .xl (.int .i64) s.od, .own 0 0, .xl tRw s.rows, .os 1 1 0 (List.length s.out), .v (.int .i64 s.level)]
def B_rsa (s : L_rsa) : List Blk := [⟨[.xl tCd s.cs, .xl .str s.os, .xl tKo s.ks, .xl tCh s.gs, .xl tBa s.bs], 30, .cl, false⟩, ⟨[], 3, .vec (.int .i64) s.out, false⟩]
noncomputable def body_rsa : Code := ((loopsIn (Try.f15.body.getD .skip))[0]?).getD .skip
def st11_rsb (s : L_rsa) : L_rsb := (⟨s.al, s.mo, s.od, s.rows, s.level, (0 : Int), s.cs, s.os, s.ks, s.gs, s.bs, s.out⟩ : L_rsb)
def t_rsa (s : L_rsa) : T (Rd L_rsa) :=
 .br (decide (s.level ≤ 80)) (.rl s.out (.req (E_rsbq (st11_rsb s)) (.rl (run_rsb (st11_rsb s)).out (.ok (.next { s with level := (IntKind.i64.wrap (s.level + 1)), out := (run_rsb (st11_rsb s)).out }))))) (.rl s.out (.ok (.stop (.exit 0) s)))
abbrev f_rsa (s : L_rsa) := (t_rsa s).rd s
def E_rsa (s : L_rsa) : Prop := s.level = 1 ∧ RfOk s.rows s.gs s.al s.mo s.od ∧ OuOk s.gs s.out
def I_rsa (s : L_rsa) : Prop := (1 ≤ s.level ∧ s.level ≤ 81) ∧ RfOk s.rows s.gs s.al s.mo s.od ∧ OuOk s.gs s.out
def mu_rsa (s : L_rsa) : Nat := (81 - s.level).toNat
def Q_rsa (_ : Ex) (_ _ : L_rsa) : Prop := True
theorem rsa_E : ∀ s, E_rsa s → I_rsa s := by
 intro s h
 obtain ⟨h0, h1⟩ := h
 exact ⟨by omega, h1⟩
theorem rsa_in (s : L_rsa) (hI : I_rsa s) (c1 : s.level ≤ 80) : E_rsb (st11_rsb s) := ⟨rfl, ⟨hI.1.1, c1⟩, hI.2.1, hI.2.2⟩
theorem rsa_da (s : L_rsa) (hI : I_rsa s) : allR (fun s' => I_rsa s' ∧ mu_rsa s' < mu_rsa s) (fun x s' => Q_rsa x s s') (f_rsa s) := by
 unfold f_rsa t_rsa
 dsimp only [T.rd, T.rl]
 have hin := fun c1 => rsa_in s hI c1
 obtain ⟨⟨h0, h1⟩, hR, hO⟩ := hI
 refine allR_ite (fun c1 => ?_) (fun c1 => trivial)
 have c1 : s.level ≤ 80 := by simpa using c1
 have q2 := (rsb_res _ (hin c1)).2
 have q2 : (run_rsb (st11_rsb s)).out = rfW s.rows s.gs s.al s.mo s.level s.out s.od := q2
 rw [wrapS (x := s.level + 1) (by omega) (by omega)]
 refine ⟨⟨⟨by simp only; omega, by simp only; omega⟩, hR, ?_⟩, by simp only [mu_rsa]; omega⟩
 simp only
 rw [q2]
 exact rfW_ok hO
def D_rsa : LpD L_rsa := ⟨0, 118, [1, 2, 3, 4, 10, 12, 13], [], A_rsa, B_rsa, fun v b => ⟨gXl (.int .i64) (v.getD 0 .junk), gXl (.int .i64) (v.getD 1 .junk), gXl (.int .i64) (v.getD 2 .junk), gXl tRw (v.getD 4 .junk), gI (v.getD 6 .junk), gXl tCd (gCe (gBk b 0) 0), gXl .str (gCe (gBk b 0) 1), gXl tKo (gCe (gBk b 0) 2), gXl tCh (gCe (gBk b 0) 3), gXl tBa (gCe (gBk b 0) 4), gVe (.int .i64) (gBk b 1)⟩, t_rsa, fun s r => { r with al := s.al, mo := s.mo, od := s.od, rows := s.rows, cs := s.cs, os := s.os, ks := s.ks, gs := s.gs, bs := s.bs }, fun s => s, fun _ s => s, [.exit 0], E_rsa, I_rsa, mu_rsa⟩
abbrev run_rsa := D_rsa.run
abbrev exn_rsa := D_rsa.exn
abbrev E_rsaq := D_rsa.q
theorem rq_rsa (s : L_rsa) (hI : I_rsa s) : (t_rsa s).all (fun _ => True) := by
 refine ⟨fun c1 => ⟨⟨rfl, rfl⟩, ?_, ⟨rfl, rfl⟩, trivial⟩, fun c1 => ⟨⟨rfl, rfl⟩, trivial⟩⟩
 ·exact ⟨rsa_in s hI (by simpa using c1), rfl, rfl⟩
theorem ok_rsa : D_rsa.Ok := ⟨fun s => by kernel_rfl, fun s => by kernel_rfl, fun s => rfl, fun s t r => rfl, fun s => rfl, fun s => by kernel_rfl⟩
theorem pf_rsa : D_rsa.Pf (Q_rsa) := ⟨rsa_E, fun _ _ => rfl, rsa_da, rq_rsa⟩
theorem snd_rsa : SoundA Try.prog noGlobs (AN 0) (.loop body_rsa) D_rsa.lp := LpD.snd ok_rsa pf_rsa (code_sound (Γ := gam60) (K := noK) (L := (fun i => if i = 9 then D_rsb.lp else noLoops i)) gok60 noK_sound body_rsa (fun b hb => by
 rw [show loopsIn _ = [body_rsb] by kernel_rfl] at hb
 simp only [List.mem_cons, List.not_mem_nil, or_false] at hb
 subst hb
 exact snd_rsb)) (fun s => by kernel_rfl)
theorem rsa_fin (s : L_rsa) (hE : E_rsa s) : ∃ s', I_rsa s' ∧ Q_rsa (exn_rsa s) s' (run_rsa s) := LpD.fin ok_rsa pf_rsa s hE
theorem rsa_res (s : L_rsa) (hE : E_rsa s) : (fun (x : Ex) (s' : L_rsa) (v : List Int) => x = .exit 0 ∧ s'.out = v) (exn_rsa s) (run_rsa s) ((fun s : L_rsa => rfL s.rows s.gs s.al s.mo s.od (81 - s.level).toNat s.level s.out) s) := by
 exact LpD.finV ok_rsa pf_rsa (fun s : L_rsa => rfL s.rows s.gs s.al s.mo s.od (81 - s.level).toNat s.level s.out) (fun x s' v => x = .exit 0 ∧ s'.out = v) (fun s hI => by
  show allR _ _ (f_rsa s)
  unfold f_rsa t_rsa
  dsimp only [T.rd, T.rl]
  have hin := fun c1 => rsa_in s hI c1
  obtain ⟨⟨h0, h1⟩, hR, hO⟩ := hI
  refine allR_ite (fun c1 => ?_) (fun c1 => ?_)
  ·have c1 : s.level ≤ 80 := by simpa using c1
   have q2 := (rsb_res _ (hin c1)).2
   have q2 : (run_rsb (st11_rsb s)).out = rfW s.rows s.gs s.al s.mo s.level s.out s.od := q2
   rw [wrapS (x := s.level + 1) (by omega) (by omega)]
   show rfL _ _ _ _ _ _ _ _ = rfL _ _ _ _ _ _ _ _
   simp only
   rw [q2, show (81 - s.level).toNat = (81 - (s.level + 1)).toNat + 1 by omega, rfL]
  ·have c1 : 80 < s.level := by simpa using c1
   refine ⟨rfl, ?_⟩
   rw [show (81 - s.level).toNat = 0 by omega]
   rfl) s hE
def S0_rshar : List LV → T LV
 | [.agg [.xl (.pair .str (.pair (.int .i64) (.pair (.int .i64) (.pair (.int .i64) (.pair (.pair (.int .i64) (.int .i64)) (.pair (.int .i64) (.pair (.int .i64) (.pair (.int .i64) (.pair (.int .i64) (.int .i64)))))))))) cs, .xl (.str) os, .xl (.pair .str (.pair (.int .i64) (.pair (.int .i64) (.int .i64)))) ks, .xl (.pair .str (.pair (.int .i64) (.pair (.int .i64) (.pair (.int .i64) (.pair (.int .i64) (.pair (.int .i64) (.pair (.int .i64) (.int .i64)))))))) gs, .xl (.pair .str (.int .i64)) bs], .xl (.int .i64) al, .xl (.int .i64) mo, .xl (.int .i64) od] => .req (nmR (nmsOf cs os ks gs bs) ∧ (List.length al : Int) ≤ 1000 ∧ (List.length mo : Int) ≤ 1000 ∧ (List.length gs : Int) ≤ 1000) (.ok (.tup [.xl (.int .i64) (shLR cs os ks gs bs al mo od), .v (.int .i64 (shE cs os ks gs bs al mo od))]))
 | _ => .no
noncomputable def S_rshar : List LV → T LV := upS Try.prog Try.f15.params.toList S0_rshar
theorem nf_rshar (cs : List (ByteArray × (Int × (Int × (Int × ((Int × Int) × (Int × (Int × (Int × (Int × Int)))))))))) (os : List ByteArray) (ks : List (ByteArray × (Int × (Int × Int)))) (gs : List (ByteArray × (Int × (Int × (Int × (Int × (Int × (Int × Int)))))))) (bs : List (ByteArray × Int)) (al mo od : List Int) : funu Try.prog noGlobs (gam60) noK (fun i => if i = 6 then D_rsa.lp else noLoops i) Try.f15 [.agg [.xl tCd cs, .xl .str os, .xl tKo ks, .xl tCh gs, .xl tBa bs], .xl (.int .i64) al, .xl (.int .i64) mo, .xl (.int .i64) od] = .req (nmR (nmsOf cs os ks gs bs)) (.br ((rowE cs os ks gs bs) != 0) (.ok (.tup [.xl (.int .i64) ([] : List Int), .v (.int .i64 1)])) (.req ((List.length al : Int) ≤ 1000) (.br (!(al.all curB && ((List.length al : Int) == (List.length gs : Int)))) (.ok (.tup [.xl (.int .i64) ([] : List Int), .v (.int .i64 1)])) (.req ((List.length mo : Int) ≤ 1000) (.br (!(mo.all curB && ((List.length mo : Int) == (List.length gs : Int)))) (.ok (.tup [.xl (.int .i64) ([] : List Int), .v (.int .i64 1)])) (.req ((List.length gs : Int) ≤ 1000) (.br (!(ordR od (List.length gs : Int))) (.ok (.tup [.xl (.int .i64) ([] : List Int), .v (.int .i64 1)])) (.req (0 ≤ (List.length gs : Int) ∧ (List.length gs : Int) ≤ (List.length gs : Int) ∧ 8 * (List.length gs : Int) ≤ 2 ^ 48 ∧ (List.length gs : Int) < 2 ^ 63) (.req (0 = 0 ∧ (List.length gs : Int).toNat = List.length (List.replicate (List.length gs : Int).toNat (0 : Int))) (.req (E_rsaq (⟨al, mo, od, (rowL cs os ks gs bs), (1 : Int), cs, os, ks, gs, bs, (List.replicate (List.length gs : Int).toNat (0 : Int))⟩ : L_rsa)) (.req (0 + (List.length (run_rsa (⟨al, mo, od, (rowL cs os ks gs bs), (1 : Int), cs, os, ks, gs, bs, (List.replicate (List.length gs : Int).toNat (0 : Int))⟩ : L_rsa)).out) ≤ List.length (run_rsa (⟨al, mo, od, (rowL cs os ks gs bs), (1 : Int), cs, os, ks, gs, bs, (List.replicate (List.length gs : Int).toNat (0 : Int))⟩ : L_rsa)).out) (.ok (.tup [.xl (.int .i64) (((run_rsa (⟨al, mo, od, (rowL cs os ks gs bs), (1 : Int), cs, os, ks, gs, bs, (List.replicate (List.length gs : Int).toNat (0 : Int))⟩ : L_rsa)).out.drop 0).take (List.length (run_rsa (⟨al, mo, od, (rowL cs os ks gs bs), (1 : Int), cs, os, ks, gs, bs, (List.replicate (List.length gs : Int).toNat (0 : Int))⟩ : L_rsa)).out)), .v (.int .i64 0)]))))))))))))) := by kernel_rfl
theorem v_rshar : Valid Try.prog noGlobs 15 S_rshar := valid_ofu Try.func15 rfl gok60 noK_sound (L := (fun i => if i = 6 then D_rsa.lp else noLoops i)) (fun b hb => by
 rw [show loopsIn _ = [body_rsa] by kernel_rfl] at hb
 simp only [List.mem_cons, List.not_mem_nil, or_false] at hb
 subst hb
 exact snd_rsa) (fun args lv h => by
 unfold S0_rshar at h
 split at h
 ·simp only [canL, canX]
  rw [nf_rshar]
  rename_i cs os ks gs bs al mo od
  obtain ⟨⟨hn, hal, hml, hgl⟩, rfl⟩ := h
  have no : shOk cs os ks gs bs al mo od = false → LV.tup [.xl (.int .i64) ([] : List Int), .v (.int .i64 1)] = LV.tup [.xl (.int .i64) (shLR cs os ks gs bs al mo od), .v (.int .i64 (shE cs os ks gs bs al mo od))] := fun h => by
   unfold shLR shE
   rw [h]
   rfl
  refine ⟨hn, fun c1 => no ?_, fun c1 => ⟨hal, fun c2 => no ?_, fun c2 => ⟨hml, fun c3 => no ?_, fun c3 => ⟨hgl, fun c4 => no ?_, fun c4 => ?_⟩⟩⟩⟩
  ·rw [Bool.eq_false_iff]
   intro h
   have := (shOk_iff.1 h).1
   unfold rowE at c1
   rw [if_pos this] at c1
   cases c1
  ·rw [Bool.eq_false_iff]
   intro h
   obtain ⟨_, h1, h2, h3, h4, h5⟩ := shOk_iff.1 h
   rw [h3, h1] at c2
   simp at c2
  ·rw [Bool.eq_false_iff]
   intro h
   obtain ⟨_, h1, h2, h3, h4, h5⟩ := shOk_iff.1 h
   rw [h4, h2] at c3
   simp at c3
  ·rw [Bool.eq_false_iff]
   intro h
   obtain ⟨_, h1, h2, h3, h4, h5⟩ := shOk_iff.1 h
   rw [ordR_eq, h5] at c4
   cases c4
  ·have hv : siteV cs os ks gs bs = true := by
    cases e : siteV cs os ks gs bs with
    | true => rfl
    | false => unfold rowE at c1; rw [e] at c1; cases c1
   have c2 := nf c2
   have c3 := nf c3
   have c4 := nf c4
   rw [ordR_eq] at c4
   rw [Bool.and_eq_true, beq_iff_eq] at c2 c3
   have hk : shOk cs os ks gs bs al mo od = true := shOk_iff.2 ⟨hv, by omega, by omega, c2.1, c3.1, c4⟩
   have hR : RfOk (rowL cs os ks gs bs) gs al mo od := by unfold rowL; rw [if_pos hv]; exact rf_ok hk
   have hE : E_rsa ⟨al, mo, od, (rowL cs os ks gs bs), (1 : Int), cs, os, ks, gs, bs, (List.replicate (List.length gs : Int).toNat (0 : Int))⟩ := ⟨rfl, hR, by rw [Int.toNat_natCast]; exact rep_ok⟩
   obtain ⟨q1, q2⟩ := rsa_res _ hE
   have q2 : (run_rsa ⟨al, mo, od, (rowL cs os ks gs bs), (1 : Int), cs, os, ks, gs, bs, (List.replicate (List.length gs : Int).toNat (0 : Int))⟩).out = shLR cs os ks gs bs al mo od := by
    rw [q2]
    unfold shLR rfO rowL
    rw [if_pos hk]
    simp only
    rw [if_pos hv, Int.toNat_natCast]
    rfl
   refine ⟨⟨by omega, by omega, by omega, by omega⟩, ⟨rfl, by rw [List.length_replicate]⟩, ⟨hE, rfl, rfl⟩, by omega, ?_⟩
   show LV.tup [LV.xl _ _, _] = _
   rw [List.drop_zero, List.take_length, q2]
   unfold shE
   rw [if_pos hk]
 ·cases h)
end Go.Proofs.Ytihbikkkmoaljaa
