/- The reference: names. -/
import Derived.Test.YtihbikkkmoaljaaEp
namespace Go.Proofs.Ytihbikkkmoaljaa
open Go.Sx
structure L_inr where
 l : List ByteArray
 w : ByteArray
 r : Int
 i : Int
def A_inr (s : L_inr) : List LV := [.xl .str s.l, .v (.string s.w), .v (.int .i64 s.r), .v (.int .i64 s.i)]
def B_inr (_ : L_inr) : List Blk := []
noncomputable def body_inr : Code := ((loopsIn (Try.f78.body.getD .skip))[0]?).getD .skip
def t_inr (s : L_inr) : T (Rd L_inr) :=
 .br (decide (s.i < (List.length s.l : Int))) (.req (0 ≤ s.i ∧ s.i < (List.length s.l : Int)) (.br ((gS s.l s.i).toList == s.w.toList) (.ok (.stop (.ret) { s with r := s.i })) (.ok (.next { s with i := (IntKind.i64.wrap (s.i + 1)) })))) (.ok (.stop (.exit 0) s))
abbrev f_inr (s : L_inr) := (t_inr s).rd s
def E_inr (s : L_inr) : Prop := s.i = 0 ∧ (List.length s.l : Int) ≤ 1000 ∧ True
def I_inr (s : L_inr) : Prop := 0 ≤ s.i ∧ s.i ≤ (List.length s.l : Int) ∧ (List.length s.l : Int) ≤ 1000 ∧ True
def mu_inr (s : L_inr) : Nat := ((List.length s.l : Int) - s.i).toNat
def Q_inr (_ : Ex) (_ _ : L_inr) : Prop := True
theorem inr_E : ∀ s, E_inr s → I_inr s := by
 intro s h
 obtain ⟨h0, h1, h2⟩ := h
 exact ⟨by omega, by omega, h1, h2⟩
theorem inr_da (s : L_inr) (hI : I_inr s) : allR (fun s' => I_inr s' ∧ mu_inr s' < mu_inr s) (fun x s' => Q_inr x s s') (f_inr s) := by
 unfold f_inr t_inr
 dsimp only [T.rd, T.rl]
 obtain ⟨h0, h1, h2, h3⟩ := hI
 refine allR_ite (fun c1 => ?_) (fun c1 => ?_)
 ·refine allR_ite (fun c2 => ?_) (fun c2 => ?_)
  ·trivial
  ·have c1 : s.i < (List.length s.l : Int) := by simpa using c1
   rw [wrapS (x := s.i + 1) (by omega) (by omega)]
   exact ⟨⟨by simp only; omega, by simp only; omega, h2, h3⟩, by simp only [mu_inr]; omega⟩
 ·trivial
def D_inr : LpD L_inr := ⟨0, 19, [0, 1, 4, 5], [], A_inr, B_inr, fun v _ => ⟨gXl .str (v.getD 0 .junk), gSr (v.getD 1 .junk), gI (v.getD 2 .junk), gI (v.getD 3 .junk)⟩, t_inr, fun s r => { r with l := s.l, w := s.w }, fun s => s, fun _ s => s, [.ret, .exit 0], E_inr, I_inr, mu_inr⟩
abbrev run_inr := D_inr.run
abbrev exn_inr := D_inr.exn
abbrev E_inrq := D_inr.q
theorem rq_inr (s : L_inr) (hI : I_inr s) : (t_inr s).all (fun _ => True) := by
 refine ⟨fun c1 => ⟨?_, fun _ => trivial, fun _ => trivial⟩, fun _ => trivial⟩
 ·(obtain ⟨h0, h1, h2, h3⟩ := hI; simp only [decide_eq_true_eq] at c1; omega)
noncomputable def gam44 : Specs := specsOf []
theorem gok44 : ∀ g S, gam44 g = some S → Valid Try.prog noGlobs g S := specs_ok (l := []) trivial
theorem ok_inr : D_inr.Ok := ⟨fun s => by kernel_rfl, fun s => by kernel_rfl, fun s => rfl, fun s t r => rfl, fun s => rfl, fun s => by kernel_rfl⟩
theorem pf_inr : D_inr.Pf (Q_inr) := ⟨inr_E, fun _ _ => rfl, inr_da, rq_inr⟩
theorem snd_inr : SoundA Try.prog noGlobs (AN 0) (.loop body_inr) D_inr.lp := LpD.snd ok_inr pf_inr (code_sound (Γ := gam44) (K := noK) (L := noLoops) gok44 noK_sound body_inr (fun b hb => by rw [show loopsIn body_inr = [] by kernel_rfl] at hb; cases hb)) (fun s => by kernel_rfl)
theorem inr_fin (s : L_inr) (hE : E_inr s) : ∃ s', I_inr s' ∧ Q_inr (exn_inr s) s' (run_inr s) := LpD.fin ok_inr pf_inr s hE
theorem inr_res (s : L_inr) (hE : E_inr s) : (fun (x : Ex) (s' : L_inr) (v : Int) => (x = .ret ∧ s'.r = v) ∨ (x = .exit 0 ∧ v = -1)) (exn_inr s) (run_inr s) ((fun s : L_inr => inG s.i (s.l.drop s.i.toNat) s.w) s) := by
 exact LpD.finV ok_inr pf_inr (fun s : L_inr => inG s.i (s.l.drop s.i.toNat) s.w) (fun x s' v => (x = .ret ∧ s'.r = v) ∨ (x = .exit 0 ∧ v = -1)) (fun s hI => by
  show allR _ _ (f_inr s)
  unfold f_inr t_inr
  dsimp only [T.rd, T.rl]
  obtain ⟨h0, h1, h2, h3⟩ := hI
  refine allR_ite (fun c1 => allR_ite (fun c2 => ?_) (fun c2 => ?_)) (fun c1 => ?_)
  ·have c1 : s.i < (List.length s.l : Int) := by simpa using c1
   rw [tl_beq] at c2
   refine .inl ⟨rfl, ?_⟩
   try simp only
   rw [(gS_step h0 c1).1, inG, if_pos c2]
  ·have c1 : s.i < (List.length s.l : Int) := by simpa using c1
   rw [tl_beq] at c2
   rw [wrapS (x := s.i + 1) (by omega) (by omega)]
   show inG _ _ _ = inG _ _ _
   rw [(gS_step h0 c1).1, inG, if_neg (by rw [c2]; simp)]
  ·have c1 : (List.length s.l : Int) ≤ s.i := by simpa using c1
   refine .inr ⟨rfl, ?_⟩
   rw [List.drop_eq_nil_of_le (by omega)]
   rfl) s hE
def S0_rin : List LV → T LV
 | [.xl (.str) l, .v (.string w)] => .req ((List.length l : Int) ≤ 1000) (.ok (.v (.int .i64 (inI l w))))
 | _ => .no
noncomputable def S_rin : List LV → T LV := upS Try.prog Try.f78.params.toList S0_rin
theorem nf_rin (l : List ByteArray) (w : ByteArray) : funu Try.prog noGlobs (gam44) noK (fun i => if i = 2 then D_inr.lp else noLoops i) Try.f78 [.xl .str l, .v (.string w)] = .req (E_inrq (⟨l, w, (0 : Int), (0 : Int)⟩ : L_inr)) (.br (isEx (exn_inr (⟨l, w, (0 : Int), (0 : Int)⟩ : L_inr)) (.ret)) (.ok (.v (.int .i64 (run_inr (⟨l, w, (0 : Int), (0 : Int)⟩ : L_inr)).r))) (.ok (.v (.int .i64 (-1))))) := by kernel_rfl
theorem v_rin : Valid Try.prog noGlobs 78 S_rin := valid_ofu Try.func78 rfl gok44 noK_sound (L := (fun i => if i = 2 then D_inr.lp else noLoops i)) (fun b hb => by
 rw [show loopsIn _ = [body_inr] by kernel_rfl] at hb
 simp only [List.mem_cons, List.not_mem_nil, or_false] at hb
 subst hb
 exact snd_inr) (fun args lv h => by
 unfold S0_rin at h
 split at h
 ·simp only [canL, canX]
  rw [nf_rin]
  obtain ⟨hl, rfl⟩ := h
  refine andI ⟨⟨rfl, hl, trivial⟩, rfl, rfl⟩ (fun hE => ?_)
  rcases inr_res _ hE.1 with ⟨q1, q2⟩ | ⟨q1, q2⟩
  ·rw [q1, q2]
   exact ⟨fun _ => rfl, fun h => by cases h⟩
  ·rw [q1]
   refine ⟨fun h => (by cases h), fun _ => congrArg (fun z => LV.v (.int .i64 z)) ?_⟩
   exact q2.symm
 ·cases h)
def S0_rkinds : List LV → T LV
 | [] => .ok (.xl .str kinds)
 | _ => .no
noncomputable def S_rkinds : List LV → T LV := upS Try.prog Try.f79.params.toList S0_rkinds
theorem nf_rkinds  : funu Try.prog noGlobs (gam44) noK noLoops Try.f79 [] = .ok (.xl .str ([(ByteArray.mk #[102, 101, 101, 100, 101, 114]), (ByteArray.mk #[99, 97, 98, 108, 101]), (ByteArray.mk #[111, 119, 110, 101, 114]), (ByteArray.mk #[99, 111, 110, 116, 114, 97, 99, 116]), (ByteArray.mk #[99, 104, 97, 114, 103, 101, 114]), (ByteArray.mk #[98, 97, 121]), (ByteArray.mk #[116, 97, 114, 105, 102, 102])])) := by kernel_rfl
theorem v_rkinds : Valid Try.prog noGlobs 79 S_rkinds := valid_ofu Try.func79 rfl gok44 noK_sound (no_loops (by kernel_rfl)) (fun args lv h => by
 unfold S0_rkinds at h
 split at h
 ·simp only [canL]
  rw [nf_rkinds]
  exact h
 ·cases h)
def S0_rattrs : List LV → T LV
 | [] => .ok (.xl .str attrs)
 | _ => .no
noncomputable def S_rattrs : List LV → T LV := upS Try.prog Try.f80.params.toList S0_rattrs
theorem nf_rattrs  : funu Try.prog noGlobs (gam44) noK noLoops Try.f80 [] = .ok (.xl .str ([(ByteArray.mk #[108, 105, 109, 105, 116]), (ByteArray.mk #[110, 101, 117, 116, 114, 97, 108]), (ByteArray.mk #[102, 117, 115, 101]), (ByteArray.mk #[116, 104, 101, 114, 109, 97, 108]), (ByteArray.mk #[102, 114, 111, 109]), (ByteArray.mk #[97, 116]), (ByteArray.mk #[112, 104, 97, 115, 101, 115]), (ByteArray.mk #[97, 109, 112, 115]), (ByteArray.mk #[102, 97, 108, 108, 98, 97, 99, 107]), (ByteArray.mk #[111, 119, 110, 101, 114]), (ByteArray.mk #[99, 97, 114, 100]), (ByteArray.mk #[114, 97, 110, 107]), (ByteArray.mk #[99, 104, 97, 114, 103, 101, 114])])) := by kernel_rfl
theorem v_rattrs : Valid Try.prog noGlobs 80 S_rattrs := valid_ofu Try.func80 rfl gok44 noK_sound (no_loops (by kernel_rfl)) (fun args lv h => by
 unfold S0_rattrs at h
 split at h
 ·simp only [canL]
  rw [nf_rattrs]
  exact h
 ·cases h)
def S0_rarticles : List LV → T LV
 | [] => .ok (.xl .str articles)
 | _ => .no
noncomputable def S_rarticles : List LV → T LV := upS Try.prog Try.f81.params.toList S0_rarticles
theorem nf_rarticles  : funu Try.prog noGlobs (gam44) noK noLoops Try.f81 [] = .ok (.xl .str ([(ByteArray.mk #[115, 116, 97, 114, 116]), (ByteArray.mk #[101, 110, 101, 114, 103, 121]), (ByteArray.mk #[116, 105, 109, 101]), (ByteArray.mk #[105, 100, 108, 101]), (ByteArray.mk #[99, 97, 112]), (ByteArray.mk #[116, 97, 120])])) := by kernel_rfl
theorem v_rarticles : Valid Try.prog noGlobs 81 S_rarticles := valid_ofu Try.func81 rfl gok44 noK_sound (no_loops (by kernel_rfl)) (fun args lv h => by
 unfold S0_rarticles at h
 split at h
 ·simp only [canL]
  rw [nf_rarticles]
  exact h
 ·cases h)
def S0_rwords : List LV → T LV
 | [] => .ok (.xl .str words)
 | _ => .no
noncomputable def S_rwords : List LV → T LV := upS Try.prog Try.f82.params.toList S0_rwords
theorem nf_rwords  : funu Try.prog noGlobs (gam44) noK noLoops Try.f82 [] = .ok (.xl .str ([(ByteArray.mk #[111, 110]), (ByteArray.mk #[119, 111, 114, 107]), (ByteArray.mk #[115, 97, 116, 117, 114, 100, 97, 121]), (ByteArray.mk #[115, 117, 110, 100, 97, 121]), (ByteArray.mk #[98, 101, 116, 119, 101, 101, 110]), (ByteArray.mk #[112, 101, 114]), (ByteArray.mk #[102, 114, 101, 101])])) := by kernel_rfl
theorem v_rwords : Valid Try.prog noGlobs 82 S_rwords := valid_ofu Try.func82 rfl gok44 noK_sound (no_loops (by kernel_rfl)) (fun args lv h => by
 unfold S0_rwords at h
 split at h
 ·simp only [canL]
  rw [nf_rwords]
  exact h
 ·cases h)
structure L_rnm where
 w : ByteArray
 r : Bool
 i : Int
def A_rnm (s : L_rnm) : List LV := [.v (.string s.w), .v (.bool s.r), .v (.int .i64 s.i)]
def B_rnm (_ : L_rnm) : List Blk := []
noncomputable def body_rnm : Code := ((loopsIn (Try.f65.body.getD .skip))[0]?).getD .skip
def t_rnm (s : L_rnm) : T (Rd L_rnm) :=
 .br (decide (s.i < (s.w.size : Int))) (.req (0 ≤ s.i ∧ s.i < (s.w.size : Int)) (.br (if decide ((byI s.w s.i) < 97) then (s.i == 0) || (if decide ((byI s.w s.i) < 48) then (byI s.w s.i) != 95 else (decide ((byI s.w s.i) > 57)) && ((byI s.w s.i) != 95)) else (decide ((byI s.w s.i) > 122)) && ((s.i == 0) || (if decide ((byI s.w s.i) < 48) then (byI s.w s.i) != 95 else (decide ((byI s.w s.i) > 57)) && ((byI s.w s.i) != 95)))) (.ok (.stop (.ret) { s with r := false })) (.ok (.next { s with i := (IntKind.i64.wrap (s.i + 1)) })))) (.ok (.stop (.exit 0) s))
abbrev f_rnm (s : L_rnm) := (t_rnm s).rd s
def G_rnm (s : L_rnm) (j : Int) : Bool := goodC (byI s.w j) j
def E_rnm (s : L_rnm) : Prop := s.i = 0 ∧ 0 ≤ (s.w.size : Int) ∧ (s.w.size : Int) ≤ 9223372036854775807 ∧ True
def I_rnm (s : L_rnm) : Prop := 0 ≤ s.i ∧ s.i ≤ (s.w.size : Int) ∧ (s.w.size : Int) ≤ 9223372036854775807 ∧ (True) ∧ ∀ j : Nat, (j : Int) < s.i → G_rnm s j = true
def mu_rnm (s : L_rnm) : Nat := ((s.w.size : Int) - s.i).toNat
def Q_rnm (x : Ex) (_ s' : L_rnm) : Prop := (x = .exit 0 ∧ ∀ j : Nat, (j : Int) < (s'.w.size : Int) → G_rnm s' j = true) ∨ (x = .ret ∧ s'.r = false ∧ ∃ j : Nat, (j : Int) < (s'.w.size : Int) ∧ G_rnm s' j = false)
theorem rnm_E : ∀ s, E_rnm s → I_rnm s := by
 intro s h
 obtain ⟨h0, h1, h2, h3⟩ := h
 exact ⟨by omega, by omega, h2, h3, fun j hj => by omega⟩
theorem rnm_da (s : L_rnm) (hI : I_rnm s) : allR (fun s' => I_rnm s' ∧ mu_rnm s' < mu_rnm s) (fun x s' => Q_rnm x s s') (f_rnm s) := by
 unfold f_rnm t_rnm
 dsimp only [T.rd, T.rl]
 obtain ⟨h0, h1, h2, h3, h4⟩ := hI
 refine allR_ite (fun c1 => allR_ite (fun c2 => ?_) (fun c2 => ?_)) (fun c1 => ?_)
 ·have c1 : s.i < (s.w.size : Int) := by simpa using c1
  refine .inr ⟨rfl, rfl, s.i.toNat, by simp only; omega, ?_⟩
  rw [Int.toNat_of_nonneg (by omega)]
  have hg : G_rnm s s.i = false := by unfold G_rnm; (revert c2; unfold goodC chA; generalize byI s.w s.i = b; intro c2; by_cases h1 : b < 97 <;> by_cases h2 : b ≤ 122 <;> by_cases h3 : b < 48 <;> by_cases h4 : b ≤ 57 <;> by_cases h5 : b = 95 <;> by_cases h6 : s.i = 0 <;> simp_all <;> omega)
  exact hg
 ·have c1 : s.i < (s.w.size : Int) := by simpa using c1
  have hg : G_rnm s s.i = true := by unfold G_rnm; (revert c2; unfold goodC chA; generalize byI s.w s.i = b; intro c2; by_cases h1 : b < 97 <;> by_cases h2 : b ≤ 122 <;> by_cases h3 : b < 48 <;> by_cases h4 : b ≤ 57 <;> by_cases h5 : b = 95 <;> by_cases h6 : s.i = 0 <;> simp_all <;> omega)
  rw [wrapS (x := s.i + 1) (by omega) (by omega)]
  refine ⟨⟨by simp only; omega, by simp only; omega, h2, h3, fun j hj => ?_⟩, by simp only [mu_rnm]; omega⟩
  by_cases hji : (j : Int) < s.i
  ·exact h4 j hji
  ·have : (j : Int) = s.i := by simp only at hj; omega
   rw [this]; exact hg
 ·have c1 : (s.w.size : Int) ≤ s.i := by simpa using c1
  exact .inl ⟨rfl, fun j hj => h4 j (by omega)⟩
def D_rnm : LpD L_rnm := ⟨0, 71, [0, 2, 3], [], A_rnm, B_rnm, fun v _ => ⟨gSr (v.getD 0 .junk), gBo (v.getD 1 .junk), gI (v.getD 2 .junk)⟩, t_rnm, fun s r => { r with w := s.w }, fun s => s, fun _ s => s, [.ret, .exit 0], E_rnm, I_rnm, mu_rnm⟩
abbrev run_rnm := D_rnm.run
abbrev exn_rnm := D_rnm.exn
abbrev E_rnmq := D_rnm.q
theorem rq_rnm (s : L_rnm) (hI : I_rnm s) : (t_rnm s).all (fun _ => True) := by
 refine ⟨fun c1 => ⟨?_, fun _ => trivial, fun _ => trivial⟩, fun _ => trivial⟩
 ·(obtain ⟨h0, h1, h2, h3, h4⟩ := hI; simp at c1; omega)
noncomputable def gam45 : Specs := specsOf [(78, S_rin), (79, S_rkinds), (80, S_rattrs), (81, S_rarticles), (82, S_rwords)]
theorem gok45 : ∀ g S, gam45 g = some S → Valid Try.prog noGlobs g S := specs_ok (l := [(78, S_rin), (79, S_rkinds), (80, S_rattrs), (81, S_rarticles), (82, S_rwords)]) ⟨v_rin, v_rkinds, v_rattrs, v_rarticles, v_rwords, trivial⟩
theorem ok_rnm : D_rnm.Ok := ⟨fun s => by kernel_rfl, fun s => by kernel_rfl, fun s => rfl, fun s t r => rfl, fun s => rfl, fun s => by kernel_rfl⟩
theorem pf_rnm : D_rnm.Pf (Q_rnm) := ⟨rnm_E, fun _ _ => rfl, rnm_da, rq_rnm⟩
theorem snd_rnm : SoundA Try.prog noGlobs (AN 0) (.loop body_rnm) D_rnm.lp := LpD.snd ok_rnm pf_rnm (code_sound (Γ := gam45) (K := noK) (L := noLoops) gok45 noK_sound body_rnm (fun b hb => by rw [show loopsIn body_rnm = [] by kernel_rfl] at hb; cases hb)) (fun s => by kernel_rfl)
theorem rnm_fin (s : L_rnm) (hE : E_rnm s) : ∃ s', I_rnm s' ∧ Q_rnm (exn_rnm s) s' (run_rnm s) := LpD.fin ok_rnm pf_rnm s hE
def S0_rname : List LV → T LV
 | [.v (.string w)] => .req ((w.size : Int) ≤ 9223372036854775807) (.ok (.v (.bool (nameB w))))
 | _ => .no
noncomputable def S_rname : List LV → T LV := upS Try.prog Try.f65.params.toList S0_rname
theorem nf_rname (w : ByteArray) : funu Try.prog noGlobs (gam45) noK (fun i => if i = 2 then D_rnm.lp else noLoops i) Try.f65 [.v (.string w)] = .req (E_rnmq (⟨w, false, (0 : Int)⟩ : L_rnm)) (.br (isEx (exn_rnm (⟨w, false, (0 : Int)⟩ : L_rnm)) (.ret)) (.ok (.v (.bool (run_rnm (⟨w, false, (0 : Int)⟩ : L_rnm)).r))) (.req ((List.length kinds : Int) ≤ 1000) (.br (decide ((inI kinds w) ≥ 0)) (.ok (.v (.bool false))) (.req ((List.length attrs : Int) ≤ 1000) (.br (decide ((inI attrs w) ≥ 0)) (.ok (.v (.bool false))) (.req ((List.length articles : Int) ≤ 1000) (.br (decide ((inI articles w) ≥ 0)) (.ok (.v (.bool false))) (.req ((List.length words : Int) ≤ 1000) (.ok (.v (.bool ((decide ((w.size : Int) ≥ 1)) && ((decide ((w.size : Int) ≤ 12)) && (!(decide ((inI words w) ≥ 0)))))))))))))))) := by kernel_rfl
theorem v_rname : Valid Try.prog noGlobs 65 S_rname := valid_ofu Try.func65 rfl gok45 noK_sound (L := (fun i => if i = 2 then D_rnm.lp else noLoops i)) (fun b hb => by
 rw [show loopsIn _ = [body_rnm] by kernel_rfl] at hb
 simp only [List.mem_cons, List.not_mem_nil, or_false] at hb
 subst hb
 exact snd_rnm) (fun args lv h => by
 unfold S0_rname at h
 split at h
 ·simp only [canL, canX]
  rw [nf_rname]
  rename_i w
  obtain ⟨hl, rfl⟩ := h
  refine andI ⟨⟨rfl, Int.natCast_nonneg _, hl, trivial⟩, rfl, rfl⟩ (fun hE => ?_)
  obtain ⟨s', _, hq⟩ := rnm_fin _ hE.1
  rw [nameB_of]
  rcases hq with ⟨q1, q2⟩ | ⟨q1, q2, j, q3, q4⟩
  ·have q2 : rgA w.size (fun j => goodC (byI w j) j) = true := rgA_iff.2 q2
   rw [q1, q2, Bool.true_and]
   have k1 := inI_iff (l := kinds) (w := w)
   have k2 := inI_iff (l := attrs) (w := w)
   have k3 := inI_iff (l := articles) (w := w)
   have k4 := inI_iff (l := words) (w := w)
   refine ⟨fun h => (by cases h), fun _ => ⟨by decide, fun c1 => ?_, fun c1 => ⟨by decide, fun c2 => ?_, fun c2 => ⟨by decide, fun c3 => ?_, fun c3 => ⟨by decide, ?_⟩⟩⟩⟩⟩
   ·have : keyB w = true := by unfold keyB; rw [← k1, c1]; rfl
    rw [this]
    simp
    exact rfl
   ·have : keyB w = true := by unfold keyB; rw [← k1, c1, ← k2, c2]; rfl
    rw [this]
    simp
    exact rfl
   ·have : keyB w = true := by unfold keyB; rw [← k1, c1, ← k2, c2, ← k3, c3]; rfl
    rw [this]
    simp
    exact rfl
   ·have : keyB w = decide (inI words w ≥ 0) := by unfold keyB; rw [← k1, c1, ← k2, c2, ← k3, c3, ← k4]; rfl
    rw [this]
    exact rfl
  ·rw [q1, q2]
   refine ⟨fun _ => congrArg (fun z => LV.v (.bool z)) ?_, fun h => by cases h⟩
   rw [rgA_no (n := w.size) (f := fun j => goodC (byI w j) j) j q3 q4]
   rfl
 ·cases h)
end Go.Proofs.Ytihbikkkmoaljaa
