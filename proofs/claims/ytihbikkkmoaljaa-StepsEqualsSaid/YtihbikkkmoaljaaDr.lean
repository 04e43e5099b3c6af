/- Orders: what is computed, by the executor. -/
import Derived.Test.YtihbikkkmoaljaaDq
import Derived.Test.YtihbikkkmoaljaaDw
namespace Go.Proofs.Ytihbikkkmoaljaa
open Go.Sx
structure L_iso where
 n : Int
 r : Bool
 l : List Int
 m : Int
 k : Int
 seen : List Bool
def A_iso (s : L_iso) : List LV := [.v (.int .i64 s.n), .v (.bool s.r), .os 0 1 0 (List.length s.seen), .xl (.int .i64) s.l, .v (.int .i64 s.m), .v (.int .i64 s.k)]
def B_iso (s : L_iso) : List Blk := [⟨[], 4, .vec .bool s.seen, false⟩]
noncomputable def body_iso : Code := ((loopsIn (Try.f33.body.getD .skip))[0]?).getD .skip
def t_iso (s : L_iso) : T (Rd L_iso) :=
 .br (decide (s.k < s.m)) (.req (0 ≤ s.k ∧ s.k < (List.length s.l : Int)) (.br (decide ((gi s.l s.k) < 0)) (.rl s.seen (.ok (.stop (.ret) { s with r := false }))) (.br (decide ((gi s.l s.k) ≥ s.n)) (.rl s.seen (.ok (.stop (.ret) { s with r := false }))) (.req (0 ≤ (gi s.l s.k) ∧ (gi s.l s.k) < ((List.length s.seen : Nat) : Int)) (.req ((gi s.l s.k).toNat < List.length s.seen) (.br (s.seen.getD (gi s.l s.k).toNat (Ty.dflt .bool)) (.rl s.seen (.ok (.stop (.ret) { s with r := false }))) (.req (0 ≤ (gi s.l s.k) ∧ (gi s.l s.k) < ((List.length s.seen : Nat) : Int)) (.req ((gi s.l s.k).toNat < List.length s.seen) (.req (0 = 0 ∧ (List.length s.seen) = List.length (s.seen.set (gi s.l s.k).toNat true)) (.ok (.next { s with k := (IntKind.i64.wrap (s.k + 1)), seen := (s.seen.set (gi s.l s.k).toNat true) }))))))))))) (.rl s.seen (.ok (.stop (.exit 0) s)))
abbrev f_iso (s : L_iso) := (t_iso s).rd s
def G_iso (s : L_iso) (j : Int) : Bool := rngB s.n (gi s.l j) && !(((s.l.take j.toNat).map id).contains (id (gi s.l j)))
def E_iso (s : L_iso) : Prop := s.k = 0 ∧ s.seen = List.replicate s.seen.length false ∧ s.m = (s.l.length : Int) ∧ s.m ≤ 1000 ∧ s.n = (s.seen.length : Int)
def I_iso (s : L_iso) : Prop := (0 ≤ s.k ∧ s.k ≤ s.m) ∧ (∀ j : Nat, j < s.seen.length → s.seen.getD j false = (s.l.take s.k.toNat).contains (j : Int)) ∧ (∀ j : Nat, (j : Int) < s.k → G_iso s j = true) ∧ s.m = (s.l.length : Int) ∧ s.m ≤ 1000 ∧ s.n = (s.seen.length : Int)
def mu_iso (s : L_iso) : Nat := (s.m - s.k).toNat
def Q_iso (x : Ex) (_ s' : L_iso) : Prop := (x = .exit 0 ∧ ∀ j : Nat, (j : Int) < s'.m → G_iso s' j = true) ∨ (x = .ret ∧ s'.r = false ∧ ∃ j : Nat, (j : Int) < s'.m ∧ G_iso s' j = false)
theorem iso_E : ∀ s, E_iso s → I_iso s := by
 intro s h
 obtain ⟨h0, h1, h2, h3, h4⟩ := h
 refine ⟨by omega, fun j hj => ?_, fun j hj => by omega, h2, h3, h4⟩
 rw [h1, h0]
 simp [List.getD, List.getElem?_replicate]
 split <;> rfl
theorem iso_da (s : L_iso) (hI : I_iso s) : allR (fun s' => I_iso s' ∧ mu_iso s' < mu_iso s) (fun x s' => Q_iso x s s') (f_iso s) := by
 unfold f_iso t_iso
 dsimp only [T.rd, T.rl]
 obtain ⟨⟨h0, h1⟩, h2, h3, h4, h5, h6⟩ := hI
 refine allR_ite (fun c1 => ?_) (fun c1 => ?_)
 rotate_left
 ·have c1 : s.m ≤ s.k := by simpa using c1
  exact .inl ⟨rfl, fun j hj => h3 j (by omega)⟩
 have c1 : s.k < s.m := by simpa using c1
 have bad : G_iso s s.k = false → Q_iso .ret s { s with r := false } := fun hg => .inr ⟨rfl, rfl, s.k.toNat, by simp only; omega, by rw [Int.toNat_of_nonneg h0]; exact hg⟩
 refine allR_ite (fun c2 => bad ?_) (fun c2 => allR_ite (fun c3 => bad ?_) (fun c3 => allR_ite (fun c4 => bad ?_) (fun c4 => ?_)))
 ·unfold G_iso rngB
  simp only [decide_eq_true_eq] at c2
  rw [decide_eq_false (by omega)]
  rfl
 ·unfold G_iso rngB
  simp only [decide_eq_true_eq] at c3
  rw [decide_eq_false (p := gi s.l s.k < s.n) (by omega), Bool.and_false]
  rfl
 all_goals
  have c2 : 0 ≤ gi s.l s.k := by simpa using c2
  have c3 : gi s.l s.k < s.n := by simpa using c3
  have e := h2 (gi s.l s.k).toNat (by omega)
  rw [Int.toNat_of_nonneg c2] at e
 ·have c4 : s.seen.getD (gi s.l s.k).toNat false = true := c4
  unfold G_iso
  rw [List.map_id, id, ← e, c4]
  simp
 ·have c4 : s.seen.getD (gi s.l s.k).toNat false = false := c4
  have hg : G_iso s s.k = true := by
   unfold G_iso
   rw [List.map_id, id, ← e, c4, rngB_iff.2 ⟨c2, c3⟩]
   rfl
  rw [wrapS (x := s.k + 1) (by omega) (by omega)]
  refine ⟨⟨⟨by simp only; omega, by simp only; omega⟩, fun j hj => ?_, fun j hj => ?_, h4, h5, by simp only [List.length_set]; exact h6⟩, by simp only [mu_iso]; omega⟩
  ·simp only [List.length_set] at hj
   simp only
   rw [(gi_step h0 (show s.k < s.l.length by omega)).2, List.contains_append, ← h2 j hj]
   by_cases hj2 : (gi s.l s.k).toNat = j
   ·subst hj2
    rw [Int.toNat_of_nonneg c2]
    simp [List.getD, hj]
   ·have : ¬ (j : Int) = gi s.l s.k := by omega
    simp [List.getD, List.getElem?_set_ne hj2, this]
  ·by_cases hji : (j : Int) < s.k
   ·exact h3 j hji
   ·have : (j : Int) = s.k := by simp only at hj; omega
    rw [this]; exact hg
def D_iso : LpD L_iso := ⟨0, 37, [1, 4, 5, 14, 15, 16], [], A_iso, B_iso, fun v b => ⟨gI (v.getD 0 .junk), gBo (v.getD 1 .junk), gXl (.int .i64) (v.getD 3 .junk), gI (v.getD 4 .junk), gI (v.getD 5 .junk), gVe .bool (gBk b 0)⟩, t_iso, fun s r => { r with n := s.n, l := s.l, m := s.m }, fun s => s, fun _ s => s, [.ret, .exit 0], E_iso, I_iso, mu_iso⟩
abbrev run_iso := D_iso.run
abbrev exn_iso := D_iso.exn
abbrev E_isoq := D_iso.q
theorem rq_iso (s : L_iso) (hI : I_iso s) : (t_iso s).all (fun _ => True) := by
 refine ⟨fun c1 => ⟨?_, fun c2 => ⟨⟨rfl, rfl⟩, trivial⟩, fun c2 => ⟨fun c3 => ⟨⟨rfl, rfl⟩, trivial⟩, fun c3 => ⟨?_, ?_, fun c4 => ⟨⟨rfl, rfl⟩, trivial⟩, fun c4 => ⟨?_, ?_, ?_, trivial⟩⟩⟩⟩, fun c1 => ⟨⟨rfl, rfl⟩, trivial⟩⟩
 iterate 5 · (obtain ⟨⟨h0, h1⟩, h2, h3, h4, h5, h6⟩ := hI; simp only [decide_eq_true_eq, decide_eq_false_iff_not] at *; omega)
 ·exact ⟨rfl, by simp⟩
noncomputable def gam31 : Specs := specsOf []
theorem gok31 : ∀ g S, gam31 g = some S → Valid Try.prog noGlobs g S := specs_ok (l := []) trivial
theorem ok_iso : D_iso.Ok := ⟨fun s => by kernel_rfl, fun s => by kernel_rfl, fun s => rfl, fun s t r => rfl, fun s => rfl, fun s => by kernel_rfl⟩
theorem pf_iso : D_iso.Pf (Q_iso) := ⟨iso_E, fun _ _ => rfl, iso_da, rq_iso⟩
theorem snd_iso : SoundA Try.prog noGlobs (AN 0) (.loop body_iso) D_iso.lp := LpD.snd ok_iso pf_iso (code_sound (Γ := gam31) (K := noK) (L := noLoops) gok31 noK_sound body_iso (fun b hb => by rw [show loopsIn body_iso = [] by kernel_rfl] at hb; cases hb)) (fun s => by kernel_rfl)
theorem iso_fin (s : L_iso) (hE : E_iso s) : ∃ s', I_iso s' ∧ Q_iso (exn_iso s) s' (run_iso s) := LpD.fin ok_iso pf_iso s hE
def S0_isor : List LV → T LV
 | [.xl (.int .i64) l, .v (.int .i64 n)] => .req (n ≤ 1000) (.ok (.v (.bool (isOrd l n))))
 | _ => .no
noncomputable def S_isor : List LV → T LV := upS Try.prog Try.f33.params.toList S0_isor
theorem nf_isor (l : List Int) (n : Int) : funu Try.prog noGlobs (gam31) noK (fun i => if i = 5 then D_iso.lp else noLoops i) Try.f33 [.xl (.int .i64) l, .v (.int .i64 n)] = .br ((List.length l : Int) != n) (.ok (.v (.bool false))) (.req (0 ≤ n ∧ n ≤ n ∧ 1 * n ≤ 2 ^ 48 ∧ n < 2 ^ 63) (.req (0 = 0 ∧ n.toNat = List.length (List.replicate n.toNat false)) (.req (E_isoq (⟨n, false, l, (List.length l : Int), (0 : Int), (List.replicate n.toNat false)⟩ : L_iso)) (.br (isEx (exn_iso (⟨n, false, l, (List.length l : Int), (0 : Int), (List.replicate n.toNat false)⟩ : L_iso)) (.ret)) (.ok (.v (.bool (run_iso (⟨n, false, l, (List.length l : Int), (0 : Int), (List.replicate n.toNat false)⟩ : L_iso)).r))) (.ok (.v (.bool true))))))) := by kernel_rfl
theorem v_isor : Valid Try.prog noGlobs 33 S_isor := valid_ofu Try.func33 rfl gok31 noK_sound (L := (fun i => if i = 5 then D_iso.lp else noLoops i)) (fun b hb => by
 rw [show loopsIn _ = [body_iso] by kernel_rfl] at hb
 simp only [List.mem_cons, List.not_mem_nil, or_false] at hb
 subst hb
 exact snd_iso) (fun args lv h => by
 unfold S0_isor at h
 split at h
 ·simp only [canL, canX]
  rw [nf_isor]
  rename_i l n
  obtain ⟨hl, rfl⟩ := h
  refine ⟨fun c => congrArg (fun z => LV.v (.bool z)) ?_, fun c => ?_⟩
  ·have c : ¬ (List.length l : Int) = n := by simpa using c
   unfold isOrd
   rw [decide_eq_false c]
   rfl
  ·have c : (List.length l : Int) = n := by simpa using c
   unfold isOrd
   rw [decide_eq_true c, Bool.true_and]
   refine ⟨by omega, ⟨rfl, by simp⟩, andI ⟨⟨rfl, by simp, rfl, by simp only; omega, by simp only [List.length_replicate]; omega⟩, rfl, rfl⟩ (fun hE => ?_)⟩
   obtain ⟨s', _, hq⟩ := iso_fin _ hE.1
   rcases hq with ⟨q1, q2⟩ | ⟨q1, q2, j, q3, q4⟩
   ·rw [q1]
    have hk := (keys_iff (d := (0 : Int)) (p := rngB n) (k := id)).1 q2
    rw [List.map_id] at hk
    rw [hk]
    exact ⟨fun h => (by cases h), fun _ => rfl⟩
   ·rw [q1, q2]
    refine ⟨fun _ => congrArg (fun z => LV.v (.bool z)) ?_, fun h => by cases h⟩
    rw [eq_comm, Bool.eq_false_iff]
    intro hx
    have := (keys_iff (d := (0 : Int)) (p := rngB n) (k := id)).2 (by rw [List.map_id]; exact hx) j q3
    exact Bool.noConfusion (this.symm.trans q4)
 ·cases h)
end Go.Proofs.Ytihbikkkmoaljaa
