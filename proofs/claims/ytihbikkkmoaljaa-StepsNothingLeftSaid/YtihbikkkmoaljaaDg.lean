/- Names: what is computed, by the executor. -/
import Derived.Test.YtihbikkkmoaljaaDf
namespace Go.Proofs.Ytihbikkkmoaljaa
open Go.Sx
def S0_isAttr : List LV → T LV
 | [.v (.string w)] => .ok (.v (.bool (isIn attrs w)))
 | _ => .no
noncomputable def S_isAttr : List LV → T LV := upS Try.prog Try.f91.params.toList S0_isAttr
noncomputable def gam4 : Specs := specsOf []
theorem gok4 : ∀ g S, gam4 g = some S → Valid Try.prog noGlobs g S := specs_ok (l := []) trivial
theorem nf_isAttr (w : ByteArray) : funu Try.prog noGlobs (gam4) noK noLoops Try.f91 [.v (.string w)] = .br (w.toList == (ByteArray.mk #[108, 105, 109, 105, 116]).toList) (.ok (.v (.bool true))) (.br (w.toList == (ByteArray.mk #[110, 101, 117, 116, 114, 97, 108]).toList) (.ok (.v (.bool true))) (.br (w.toList == (ByteArray.mk #[102, 117, 115, 101]).toList) (.ok (.v (.bool true))) (.br (w.toList == (ByteArray.mk #[116, 104, 101, 114, 109, 97, 108]).toList) (.ok (.v (.bool true))) (.br (w.toList == (ByteArray.mk #[102, 114, 111, 109]).toList) (.ok (.v (.bool true))) (.br (w.toList == (ByteArray.mk #[97, 116]).toList) (.ok (.v (.bool true))) (.br (w.toList == (ByteArray.mk #[112, 104, 97, 115, 101, 115]).toList) (.ok (.v (.bool true))) (.br (w.toList == (ByteArray.mk #[97, 109, 112, 115]).toList) (.ok (.v (.bool true))) (.br (w.toList == (ByteArray.mk #[102, 97, 108, 108, 98, 97, 99, 107]).toList) (.ok (.v (.bool true))) (.br (w.toList == (ByteArray.mk #[111, 119, 110, 101, 114]).toList) (.ok (.v (.bool true))) (.br (w.toList == (ByteArray.mk #[99, 97, 114, 100]).toList) (.ok (.v (.bool true))) (.br (w.toList == (ByteArray.mk #[114, 97, 110, 107]).toList) (.ok (.v (.bool true))) (.br (w.toList == (ByteArray.mk #[99, 104, 97, 114, 103, 101, 114]).toList) (.ok (.v (.bool true))) (.ok (.v (.bool false))))))))))))))) := by kernel_rfl
theorem v_isAttr : Valid Try.prog noGlobs 91 S_isAttr := valid_ofu Try.func91 rfl gok4 noK_sound (no_loops (by kernel_rfl)) (fun args lv h => by
 unfold S0_isAttr at h
 split at h
 ·simp only [canL, canX]
  rw [nf_isAttr]
  obtain rfl := h
  simp only [tl_beq]
  unfold isIn attrs
  simp only [List.any_cons, List.any_nil]
  refine ⟨fun c0 => by simp [c0, T.all], fun c0 => ?_⟩
  rw [c0, Bool.false_or]
  refine ⟨fun c1 => by simp [c1, T.all], fun c1 => ?_⟩
  rw [c1, Bool.false_or]
  refine ⟨fun c2 => by simp [c2, T.all], fun c2 => ?_⟩
  rw [c2, Bool.false_or]
  refine ⟨fun c3 => by simp [c3, T.all], fun c3 => ?_⟩
  rw [c3, Bool.false_or]
  refine ⟨fun c4 => by simp [c4, T.all], fun c4 => ?_⟩
  rw [c4, Bool.false_or]
  refine ⟨fun c5 => by simp [c5, T.all], fun c5 => ?_⟩
  rw [c5, Bool.false_or]
  refine ⟨fun c6 => by simp [c6, T.all], fun c6 => ?_⟩
  rw [c6, Bool.false_or]
  refine ⟨fun c7 => by simp [c7, T.all], fun c7 => ?_⟩
  rw [c7, Bool.false_or]
  refine ⟨fun c8 => by simp [c8, T.all], fun c8 => ?_⟩
  rw [c8, Bool.false_or]
  refine ⟨fun c9 => by simp [c9, T.all], fun c9 => ?_⟩
  rw [c9, Bool.false_or]
  refine ⟨fun c10 => by simp [c10, T.all], fun c10 => ?_⟩
  rw [c10, Bool.false_or]
  refine ⟨fun c11 => by simp [c11, T.all], fun c11 => ?_⟩
  rw [c11, Bool.false_or]
  refine ⟨fun c12 => by simp [c12, T.all], fun c12 => ?_⟩
  rw [c12, Bool.false_or]
  rfl
 ·cases h)
def S0_isArt : List LV → T LV
 | [.v (.string w)] => .ok (.v (.bool (isIn articles w)))
 | _ => .no
noncomputable def S_isArt : List LV → T LV := upS Try.prog Try.f92.params.toList S0_isArt
theorem nf_isArt (w : ByteArray) : funu Try.prog noGlobs (gam4) noK noLoops Try.f92 [.v (.string w)] = .br (w.toList == (ByteArray.mk #[115, 116, 97, 114, 116]).toList) (.ok (.v (.bool true))) (.br (w.toList == (ByteArray.mk #[101, 110, 101, 114, 103, 121]).toList) (.ok (.v (.bool true))) (.br (w.toList == (ByteArray.mk #[116, 105, 109, 101]).toList) (.ok (.v (.bool true))) (.br (w.toList == (ByteArray.mk #[105, 100, 108, 101]).toList) (.ok (.v (.bool true))) (.br (w.toList == (ByteArray.mk #[99, 97, 112]).toList) (.ok (.v (.bool true))) (.br (w.toList == (ByteArray.mk #[116, 97, 120]).toList) (.ok (.v (.bool true))) (.ok (.v (.bool false)))))))) := by kernel_rfl
theorem v_isArt : Valid Try.prog noGlobs 92 S_isArt := valid_ofu Try.func92 rfl gok4 noK_sound (no_loops (by kernel_rfl)) (fun args lv h => by
 unfold S0_isArt at h
 split at h
 ·simp only [canL, canX]
  rw [nf_isArt]
  obtain rfl := h
  simp only [tl_beq]
  unfold isIn articles
  simp only [List.any_cons, List.any_nil]
  refine ⟨fun c0 => by simp [c0, T.all], fun c0 => ?_⟩
  rw [c0, Bool.false_or]
  refine ⟨fun c1 => by simp [c1, T.all], fun c1 => ?_⟩
  rw [c1, Bool.false_or]
  refine ⟨fun c2 => by simp [c2, T.all], fun c2 => ?_⟩
  rw [c2, Bool.false_or]
  refine ⟨fun c3 => by simp [c3, T.all], fun c3 => ?_⟩
  rw [c3, Bool.false_or]
  refine ⟨fun c4 => by simp [c4, T.all], fun c4 => ?_⟩
  rw [c4, Bool.false_or]
  refine ⟨fun c5 => by simp [c5, T.all], fun c5 => ?_⟩
  rw [c5, Bool.false_or]
  rfl
 ·cases h)
def S0_isWrd : List LV → T LV
 | [.v (.string w)] => .ok (.v (.bool (isIn words w)))
 | _ => .no
noncomputable def S_isWrd : List LV → T LV := upS Try.prog Try.f95.params.toList S0_isWrd
theorem nf_isWrd (w : ByteArray) : funu Try.prog noGlobs (gam4) noK noLoops Try.f95 [.v (.string w)] = .br (w.toList == (ByteArray.mk #[111, 110]).toList) (.ok (.v (.bool true))) (.br (w.toList == (ByteArray.mk #[119, 111, 114, 107]).toList) (.ok (.v (.bool true))) (.br (w.toList == (ByteArray.mk #[115, 97, 116, 117, 114, 100, 97, 121]).toList) (.ok (.v (.bool true))) (.br (w.toList == (ByteArray.mk #[115, 117, 110, 100, 97, 121]).toList) (.ok (.v (.bool true))) (.br (w.toList == (ByteArray.mk #[98, 101, 116, 119, 101, 101, 110]).toList) (.ok (.v (.bool true))) (.br (w.toList == (ByteArray.mk #[112, 101, 114]).toList) (.ok (.v (.bool true))) (.br (w.toList == (ByteArray.mk #[102, 114, 101, 101]).toList) (.ok (.v (.bool true))) (.ok (.v (.bool false))))))))) := by kernel_rfl
theorem v_isWrd : Valid Try.prog noGlobs 95 S_isWrd := valid_ofu Try.func95 rfl gok4 noK_sound (no_loops (by kernel_rfl)) (fun args lv h => by
 unfold S0_isWrd at h
 split at h
 ·simp only [canL, canX]
  rw [nf_isWrd]
  obtain rfl := h
  simp only [tl_beq]
  unfold isIn words
  simp only [List.any_cons, List.any_nil]
  refine ⟨fun c0 => by simp [c0, T.all], fun c0 => ?_⟩
  rw [c0, Bool.false_or]
  refine ⟨fun c1 => by simp [c1, T.all], fun c1 => ?_⟩
  rw [c1, Bool.false_or]
  refine ⟨fun c2 => by simp [c2, T.all], fun c2 => ?_⟩
  rw [c2, Bool.false_or]
  refine ⟨fun c3 => by simp [c3, T.all], fun c3 => ?_⟩
  rw [c3, Bool.false_or]
  refine ⟨fun c4 => by simp [c4, T.all], fun c4 => ?_⟩
  rw [c4, Bool.false_or]
  refine ⟨fun c5 => by simp [c5, T.all], fun c5 => ?_⟩
  rw [c5, Bool.false_or]
  refine ⟨fun c6 => by simp [c6, T.all], fun c6 => ?_⟩
  rw [c6, Bool.false_or]
  rfl
 ·cases h)
def S0_kind : List LV → T LV
 | [.v (.string w)] => .ok (.v (.int .i64 (kiOf 1 kinds w)))
 | _ => .no
noncomputable def S_kind : List LV → T LV := upS Try.prog Try.f94.params.toList S0_kind
theorem nf_kind (w : ByteArray) : funu Try.prog noGlobs (gam4) noK noLoops Try.f94 [.v (.string w)] = .br (w.toList == (ByteArray.mk #[102, 101, 101, 100, 101, 114]).toList) (.ok (.v (.int .i64 1))) (.br (w.toList == (ByteArray.mk #[99, 97, 98, 108, 101]).toList) (.ok (.v (.int .i64 2))) (.br (w.toList == (ByteArray.mk #[111, 119, 110, 101, 114]).toList) (.ok (.v (.int .i64 3))) (.br (w.toList == (ByteArray.mk #[99, 111, 110, 116, 114, 97, 99, 116]).toList) (.ok (.v (.int .i64 4))) (.br (w.toList == (ByteArray.mk #[99, 104, 97, 114, 103, 101, 114]).toList) (.ok (.v (.int .i64 5))) (.br (w.toList == (ByteArray.mk #[98, 97, 121]).toList) (.ok (.v (.int .i64 6))) (.br (w.toList == (ByteArray.mk #[116, 97, 114, 105, 102, 102]).toList) (.ok (.v (.int .i64 7))) (.ok (.v (.int .i64 0))))))))) := by kernel_rfl
theorem v_kind : Valid Try.prog noGlobs 94 S_kind := valid_ofu Try.func94 rfl gok4 noK_sound (no_loops (by kernel_rfl)) (fun args lv h => by
 unfold S0_kind at h
 split at h
 ·simp only [canL, canX]
  rw [nf_kind]
  obtain rfl := h
  simp only [tl_beq]
  simp only [kiOf, kinds]
  refine ⟨fun c0 => by rw [if_pos c0]; rfl, fun c0 => ?_⟩
  rw [if_neg (by simp [c0])]
  refine ⟨fun c1 => by rw [if_pos c1]; rfl, fun c1 => ?_⟩
  rw [if_neg (by simp [c1])]
  refine ⟨fun c2 => by rw [if_pos c2]; rfl, fun c2 => ?_⟩
  rw [if_neg (by simp [c2])]
  refine ⟨fun c3 => by rw [if_pos c3]; rfl, fun c3 => ?_⟩
  rw [if_neg (by simp [c3])]
  refine ⟨fun c4 => by rw [if_pos c4]; rfl, fun c4 => ?_⟩
  rw [if_neg (by simp [c4])]
  refine ⟨fun c5 => by rw [if_pos c5]; rfl, fun c5 => ?_⟩
  rw [if_neg (by simp [c5])]
  refine ⟨fun c6 => by rw [if_pos c6]; rfl, fun c6 => ?_⟩
  rw [if_neg (by simp [c6])]
  rfl
 ·cases h)
def S0_isKey : List LV → T LV
 | [.v (.string w)] => .ok (.v (.bool (keyB w)))
 | _ => .no
noncomputable def S_isKey : List LV → T LV := upS Try.prog Try.f90.params.toList S0_isKey
noncomputable def gam5 : Specs := specsOf [(91, S_isAttr), (92, S_isArt), (94, S_kind), (95, S_isWrd)]
theorem gok5 : ∀ g S, gam5 g = some S → Valid Try.prog noGlobs g S := specs_ok (l := [(91, S_isAttr), (92, S_isArt), (94, S_kind), (95, S_isWrd)]) ⟨v_isAttr, v_isArt, v_kind, v_isWrd, trivial⟩
theorem nf_isKey (w : ByteArray) : funu Try.prog noGlobs (gam5) noK noLoops Try.f90 [.v (.string w)] = .ok (.v (.bool (((kiOf 1 kinds w) != 0) || ((isIn attrs w) || ((isIn articles w) || (isIn words w)))))) := by kernel_rfl
theorem v_isKey : Valid Try.prog noGlobs 90 S_isKey := valid_ofu Try.func90 rfl gok5 noK_sound (no_loops (by kernel_rfl)) (fun args lv h => by
 unfold S0_isKey at h
 split at h
 ·simp only [canL, canX]
  rw [nf_isKey]
  obtain rfl := h
  show LV.v (.bool _) = _
  rw [kiOf_iff 1 kinds _ (by decide)]
  rfl
 ·cases h)
structure L_gw where
 text : ByteArray
 r : Bool
 i : Int
def A_gw (s : L_gw) : List LV := [.v (.string s.text), .v (.bool s.r), .v (.int .i64 s.i)]
def B_gw (_ : L_gw) : List Blk := []
noncomputable def body_gw : Code := ((loopsIn (Try.f89.body.getD .skip))[0]?).getD .skip
def t_gw (s : L_gw) : T (Rd L_gw) :=
 .br (decide (s.i < (s.text.size : Int))) (.req (0 ≤ s.i ∧ s.i < (s.text.size : Int)) (.br (if decide ((byI s.text s.i) ≥ 97) then !(decide ((byI s.text s.i) ≤ 122)) && (if decide ((byI s.text s.i) ≥ 48) then !(decide ((byI s.text s.i) ≤ 57)) && (!((byI s.text s.i) == 95)) else !((byI s.text s.i) == 95)) else if decide ((byI s.text s.i) ≥ 48) then !(decide ((byI s.text s.i) ≤ 57)) && (!((byI s.text s.i) == 95)) else !((byI s.text s.i) == 95)) (.ok (.stop (.ret) { s with r := false })) (.ok (.next { s with i := (IntKind.i64.wrap (s.i + 1)) })))) (.ok (.stop (.exit 0) s))
abbrev f_gw (s : L_gw) := (t_gw s).rd s
def G_gw (s : L_gw) (j : Int) : Bool := decide (j < 1) || (chB (byI s.text j))
def E_gw (s : L_gw) : Prop := s.i = 1 ∧ 1 ≤ (s.text.size : Int) ∧ (s.text.size : Int) ≤ 1000 ∧ True
def I_gw (s : L_gw) : Prop := 1 ≤ s.i ∧ s.i ≤ (s.text.size : Int) ∧ (s.text.size : Int) ≤ 1000 ∧ (True) ∧ ∀ j : Nat, (j : Int) < s.i → G_gw s j = true
def mu_gw (s : L_gw) : Nat := ((s.text.size : Int) - s.i).toNat
def Q_gw (x : Ex) (_ s' : L_gw) : Prop := (x = .exit 0 ∧ ∀ j : Nat, (j : Int) < (s'.text.size : Int) → G_gw s' j = true) ∨ (x = .ret ∧ s'.r = false ∧ ∃ j : Nat, (j : Int) < (s'.text.size : Int) ∧ G_gw s' j = false)
theorem gw_E : ∀ s, E_gw s → I_gw s := by
 intro s h
 obtain ⟨h0, h1, h2, h3⟩ := h
 exact ⟨by omega, by omega, h2, h3, fun j hj => by unfold G_gw; rw [decide_eq_true (by omega)]; rfl⟩
theorem gw_da (s : L_gw) (hI : I_gw s) : allR (fun s' => I_gw s' ∧ mu_gw s' < mu_gw s) (fun x s' => Q_gw x s s') (f_gw s) := by
 unfold f_gw t_gw
 dsimp only [T.rd, T.rl]
 obtain ⟨h0, h1, h2, h3, h4⟩ := hI
 refine allR_ite (fun c1 => allR_ite (fun c2 => ?_) (fun c2 => ?_)) (fun c1 => ?_)
 ·have c1 : s.i < (s.text.size : Int) := by simpa using c1
  refine .inr ⟨rfl, rfl, s.i.toNat, by simp only; omega, ?_⟩
  rw [Int.toNat_of_nonneg (by omega)]
  have hg : G_gw s s.i = false := by unfold G_gw; (simp only [show decide (s.i < 1) = false from decide_eq_false (by omega), Bool.false_or]; (simp only [chB, chA]; revert c2; generalize byI s.text s.i = b; intro c2; by_cases h1 : b ≥ 97 <;> by_cases h2 : b ≤ 122 <;> by_cases h3 : b ≥ 48 <;> by_cases h4 : b ≤ 57 <;> simp_all))
  exact hg
 ·have c1 : s.i < (s.text.size : Int) := by simpa using c1
  have hg : G_gw s s.i = true := by unfold G_gw; (simp only [show decide (s.i < 1) = false from decide_eq_false (by omega), Bool.false_or]; (simp only [chB, chA]; revert c2; generalize byI s.text s.i = b; intro c2; by_cases h1 : b ≥ 97 <;> by_cases h2 : b ≤ 122 <;> by_cases h3 : b ≥ 48 <;> by_cases h4 : b ≤ 57 <;> simp_all))
  rw [wrapS (x := s.i + 1) (by omega) (by omega)]
  refine ⟨⟨by simp only; omega, by simp only; omega, h2, h3, fun j hj => ?_⟩, by simp only [mu_gw]; omega⟩
  by_cases hji : (j : Int) < s.i
  ·exact h4 j hji
  ·have : (j : Int) = s.i := by simp only at hj; omega
   rw [this]; exact hg
 ·have c1 : (s.text.size : Int) ≤ s.i := by simpa using c1
  exact .inl ⟨rfl, fun j hj => h4 j (by omega)⟩
def D_gw : LpD L_gw := ⟨0, 51, [0, 2, 3], [], A_gw, B_gw, fun v _ => ⟨gSr (v.getD 0 .junk), gBo (v.getD 1 .junk), gI (v.getD 2 .junk)⟩, t_gw, fun s r => { r with text := s.text }, fun s => s, fun _ s => s, [.ret, .exit 0], E_gw, I_gw, mu_gw⟩
abbrev run_gw := D_gw.run
abbrev exn_gw := D_gw.exn
abbrev E_gwq := D_gw.q
theorem rq_gw (s : L_gw) (hI : I_gw s) : (t_gw s).all (fun _ => True) := by
 refine ⟨fun c1 => ⟨?_, fun _ => trivial, fun _ => trivial⟩, fun _ => trivial⟩
 ·(obtain ⟨h0, h1, h2, h3, h4⟩ := hI; simp at c1; omega)
theorem ok_gw : D_gw.Ok := ⟨fun s => by kernel_rfl, fun s => by kernel_rfl, fun s => rfl, fun s t r => rfl, fun s => rfl, fun s => by kernel_rfl⟩
theorem pf_gw : D_gw.Pf (Q_gw) := ⟨gw_E, fun _ _ => rfl, gw_da, rq_gw⟩
theorem snd_gw : SoundA Try.prog noGlobs (AN 0) (.loop body_gw) D_gw.lp := LpD.snd ok_gw pf_gw (code_sound (Γ := gam4) (K := noK) (L := noLoops) gok4 noK_sound body_gw (fun b hb => by rw [show loopsIn body_gw = [] by kernel_rfl] at hb; cases hb)) (fun s => by kernel_rfl)
theorem gw_fin (s : L_gw) (hE : E_gw s) : ∃ s', I_gw s' ∧ Q_gw (exn_gw s) s' (run_gw s) := LpD.fin ok_gw pf_gw s hE
def S0_gword : List LV → T LV
 | [.v (.string w)] => .ok (.v (.bool (gwB w)))
 | _ => .no
noncomputable def S_gword : List LV → T LV := upS Try.prog Try.f89.params.toList S0_gword
theorem nf_gword (w : ByteArray) : funu Try.prog noGlobs (gam4) noK (fun i => if i = 4 then D_gw.lp else noLoops i) Try.f89 [.v (.string w)] = .br (decide ((w.size : Int) < 1)) (.ok (.v (.bool false))) (.br (decide ((w.size : Int) > 12)) (.ok (.v (.bool false))) (.req (0 ≤ (0 : Int) ∧ (0 : Int) < (w.size : Int)) (.br (decide ((byI w (0 : Int)) < 97)) (.ok (.v (.bool false))) (.req (0 ≤ (0 : Int) ∧ (0 : Int) < (w.size : Int)) (.br (decide ((byI w (0 : Int)) > 122)) (.ok (.v (.bool false))) (.req (E_gwq (⟨w, false, (1 : Int)⟩ : L_gw)) (.br (isEx (exn_gw (⟨w, false, (1 : Int)⟩ : L_gw)) (.ret)) (.ok (.v (.bool (run_gw (⟨w, false, (1 : Int)⟩ : L_gw)).r))) (.ok (.v (.bool true)))))))))) := by kernel_rfl
theorem v_gword : Valid Try.prog noGlobs 89 S_gword := valid_ofu Try.func89 rfl gok4 noK_sound (L := (fun i => if i = 4 then D_gw.lp else noLoops i)) (fun b hb => by
 rw [show loopsIn _ = [body_gw] by kernel_rfl] at hb
 simp only [List.mem_cons, List.not_mem_nil, or_false] at hb
 subst hb
 exact snd_gw) (fun args lv h => by
 unfold S0_gword at h
 split at h
 ·simp only [canL, canX]
  rw [nf_gword]
  rename_i w
  obtain rfl := h
  have bad : ¬ (((1 ≤ w.size ∧ w.size ≤ 12) ∧ (97 ≤ byI w 0 ∧ byI w 0 ≤ 122))) → LV.v (.bool false) = LV.v (.bool (gwB w)) := fun hn => congrArg (fun z => LV.v (.bool z)) (by
   rw [eq_comm, Bool.eq_false_iff]; intro h
   simp only [gwB, chA, Bool.and_eq_true, decide_eq_true_eq] at h
   exact hn ⟨h.1, by omega, by omega⟩)
  refine ⟨fun c => bad (by simp at c; omega), fun c => ⟨fun c2 => bad (by simp at c2; omega), fun c2 => ⟨by simp at c; omega, fun c3 => bad (by simp at c3; omega), fun c3 => ⟨by simp at c; omega, fun c4 => bad (by simp at c4; omega), fun c4 => ?_⟩⟩⟩⟩
  simp only [decide_eq_false_iff_not] at c c2 c3 c4
  have hE : E_gw ⟨w, false, 1⟩ := ⟨rfl, by simp only; omega, by simp only; omega, trivial⟩
  have key : gwB w = (List.range w.size).all fun i => i == 0 || chB (byI w i) := by
   simp only [gwB, chA]
   rw [decide_eq_true (by omega), decide_eq_true (by omega), decide_eq_true (by omega)]
   rfl
  obtain ⟨s', _, hq⟩ := gw_fin _ hE
  refine ⟨⟨hE, rfl, rfl⟩, ?_⟩
  rw [key]
  rcases hq with ⟨h1, h2⟩ | ⟨h1, h2, j, h3, h4⟩
  ·rw [h1]
   refine ⟨fun h => (by cases h), fun _ => congrArg (fun z => LV.v (.bool z)) ?_⟩
   rw [eq_comm, List.all_eq_true]
   intro i hi
   have := h2 i (by show (i : Int) < (w.size : Int); have := List.mem_range.1 hi; omega)
   simp only [G_gw] at this
   rw [show (run_gw ⟨w, false, 1⟩).text = w from rfl] at this
   rw [Bool.or_eq_true] at this
   rcases this with h | h
   ·have : i = 0 := by simp at h; omega
    simp [this]
   ·rw [h]; simp
  ·rw [h1, h2]
   refine ⟨fun _ => congrArg (fun z => LV.v (.bool z)) ?_, fun h => by cases h⟩
   rw [eq_comm, Bool.eq_false_iff]
   intro hx
   rw [List.all_eq_true] at hx
   have h3 : (j : Int) < (w.size : Int) := h3
   have := hx j (List.mem_range.2 (by omega))
   simp only [G_gw] at h4
   rw [show (run_gw ⟨w, false, 1⟩).text = w from rfl] at h4
   rw [Bool.or_eq_false_iff] at h4
   have h5 := h4.1
   simp at h5
   rw [h4.2] at this
   simp at this
   omega
 ·cases h)
def S0_gname : List LV → T LV
 | [.v (.string w)] => .ok (.v (.bool (nameB w)))
 | _ => .no
noncomputable def S_gname : List LV → T LV := upS Try.prog Try.f87.params.toList S0_gname
noncomputable def gam6 : Specs := specsOf [(89, S_gword), (90, S_isKey)]
theorem gok6 : ∀ g S, gam6 g = some S → Valid Try.prog noGlobs g S := specs_ok (l := [(89, S_gword), (90, S_isKey)]) ⟨v_gword, v_isKey, trivial⟩
theorem nf_gname (w : ByteArray) : funu Try.prog noGlobs (gam6) noK noLoops Try.f87 [.v (.string w)] = .ok (.v (.bool ((gwB w) && (!(keyB w))))) := by kernel_rfl
theorem v_gname : Valid Try.prog noGlobs 87 S_gname := valid_ofu Try.func87 rfl gok6 noK_sound (no_loops (by kernel_rfl)) (fun args lv h => by
 unfold S0_gname at h
 split at h
 ·simp only [canL, canX]
  rw [nf_gname]
  exact h
 ·cases h)
def S0_gnam : List LV → T LV
 | [.v (.string w)] => .ok (.v (.bool (nameB w)))
 | _ => .no
noncomputable def S_gnam : List LV → T LV := upS Try.prog Try.f56.params.toList S0_gnam
noncomputable def gam7 : Specs := specsOf [(87, S_gname), (91, S_isAttr), (92, S_isArt), (95, S_isWrd)]
theorem gok7 : ∀ g S, gam7 g = some S → Valid Try.prog noGlobs g S := specs_ok (l := [(87, S_gname), (91, S_isAttr), (92, S_isArt), (95, S_isWrd)]) ⟨v_gname, v_isAttr, v_isArt, v_isWrd, trivial⟩
noncomputable def hnd8 : Hand := inl Try.prog noGlobs gam7 (unrL Try.prog noGlobs (gam7) 20 2) 9
theorem hok8 : KSound Try.prog noGlobs hnd8 := inl_sound gok7 (unrL_ok gok7) 9
theorem nf_gnam (w : ByteArray) : funu Try.prog noGlobs (gam7) hnd8 noLoops Try.f56 [.v (.string w)] = .br (((1 : Int) != 1) || ((!(ByteArray.empty.toList == (ByteArray.mk #[]).toList)) || ((0 : Int) != 0))) (.ok (.v (.bool false))) (.br (((2 : Int) != 2) || ((decide ((3 : Int) < 1)) || ((decide ((3 : Int) > 7)) || (!(nameB w))))) (.br (!false) (.ok (.v (.bool false))) (.ok (.v (.bool true)))) (.br (!true) (.ok (.v (.bool false))) (.ok (.v (.bool true))))) := by kernel_rfl
theorem v_gnam : Valid Try.prog noGlobs 56 S_gnam := valid_ofu Try.func56 rfl gok7 hok8 (no_loops (by kernel_rfl)) (fun args lv h => by
 unfold S0_gnam at h
 split at h
 ·simp only [canL, canX]
  rw [nf_gnam]
  rename_i w
  obtain rfl := h
  refine ⟨fun c => ?_, fun _ => ?_⟩
  ·exfalso
   rw [tl_beq] at c
   revert c
   decide
  ·cases nameB w <;> simp [T.all]
 ·cases h)
end Go.Proofs.Ytihbikkkmoaljaa
