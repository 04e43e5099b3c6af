/- Cards in plain Lean: revocations as finite maps. -/
import Derived.Test.YtcpadfehoaopaaaBp
namespace Go.Proofs.Ytcpadfehoaopaaa
open Go.Sx
/-- What a list says of a number. -/
def lk : List Vd → Int → Option Int
  | [], _ => none
  | x :: xs, n => if x.1 = n then some x.2 else lk xs n
def mn : Option Int → Option Int → Option Int
  | none, y => y
  | x, none => x
  | some a, some b => some (if b < a then b else a)
theorem mn_none (x : Option Int) : mn x none = x := by cases x <;> rfl
theorem mn_comm (x y : Option Int) : mn x y = mn y x := by
  cases x <;> cases y <;> simp [mn]
  split <;> split <;> omega
theorem mn_self (x : Option Int) : mn x x = x := by cases x <;> simp [mn]
theorem mn_assoc (x y z : Option Int) : mn (mn x y) z = mn x (mn y z) := by
  cases x <;> cases y <;> cases z <;> simp [mn]
  repeat' split
  all_goals omega
theorem lk_low : ∀ {b : Int} {l : List Vd} {n : Int}, ckV b l = true → n ≤ b → lk l n = none
  | _, [], _, _, _ => rfl
  | b, x :: xs, n, h, hn => by
    simp only [ckV, Bool.and_eq_true, decide_eq_true_eq] at h
    simp only [lk]
    rw [if_neg (by omega)]
    exact lk_low h.2.2.2 (by omega)
theorem ck_weak {b c : Int} {l : List Vd} (h : ckV b l = true) (hc : c ≤ b) : ckV c l = true := by
  cases l with
  | nil => rfl
  | cons x xs =>
    simp only [ckV, Bool.and_eq_true, decide_eq_true_eq] at h ⊢
    exact ⟨by omega, h.2⟩
theorem lk_ext : ∀ {b c : Int} {l m : List Vd}, ckV b l = true → ckV c m = true → (∀ n, lk l n = lk m n) → l = m
  | _, _, [], [], _, _, _ => rfl
  | _, _, [], y :: m, _, _, h => by have := h y.1; simp [lk] at this
  | _, _, x :: l, [], _, _, h => by have := h x.1; simp [lk] at this
  | b, c, x :: l, y :: m, h1, h2, h => by
    simp only [ckV, Bool.and_eq_true, decide_eq_true_eq] at h1 h2
    have hx := h x.1
    have hy := h y.1
    simp only [lk, if_true] at hx hy
    have e : x.1 = y.1 := by
      rcases Int.lt_trichotomy x.1 y.1 with q | q | q
      · rw [if_neg (by omega), lk_low h2.2.2.2 (by omega)] at hx; cases hx
      · exact q
      · rw [if_neg (by omega), lk_low h1.2.2.2 (by omega)] at hy; cases hy
    rw [if_pos e.symm] at hx
    have hxy : x = y := Prod.ext e (by simpa using hx)
    subst hxy
    congr 1
    refine lk_ext h1.2.2.2 h2.2.2.2 (fun n => ?_)
    by_cases hn : x.1 = n
    · rw [lk_low h1.2.2.2 (by omega), lk_low h2.2.2.2 (by omega)]
    · have := h n
      simpa [lk, hn] using this
theorem mrg_ck : ∀ (k : Nat) {b : Int} {x y : List Vd}, x.length + y.length ≤ k → ckV b x = true → ckV b y = true → ckV b (mrg x y) = true
  | _, b, [], y, _, _, h => by rw [mrg_nil]; exact h
  | _, b, x :: xs, [], _, h, _ => by rw [mrg_nil']; exact h
  | 0, _, x :: xs, y :: ys, hk, _, _ => by simp at hk
  | k + 1, b, x :: xs, y :: ys, hk, h1, h2 => by
    have g1 := h1
    have g2 := h2
    simp only [ckV, Bool.and_eq_true, decide_eq_true_eq] at g1 g2
    simp only [List.length_cons] at hk
    rw [mrg_cons]
    split
    · simp only [ckV, Bool.and_eq_true, decide_eq_true_eq]
      exact ⟨g1.1, g1.2.1, g1.2.2.1, mrg_ck k (by simp only [List.length_cons]; omega) g1.2.2.2 (by simp only [ckV, Bool.and_eq_true, decide_eq_true_eq]; exact ⟨by omega, g2.2⟩)⟩
    · split
      · simp only [ckV, Bool.and_eq_true, decide_eq_true_eq]
        exact ⟨g2.1, g2.2.1, g2.2.2.1, mrg_ck k (by simp only [List.length_cons]; omega) (by simp only [ckV, Bool.and_eq_true, decide_eq_true_eq]; exact ⟨by omega, g1.2⟩) g2.2.2.2⟩
      · have e : x.1 = y.1 := by omega
        simp only [ckV, Bool.and_eq_true, decide_eq_true_eq]
        split
        · exact ⟨g2.1, g2.2.1, g2.2.2.1, mrg_ck k (by omega) (ck_weak g1.2.2.2 (by omega)) g2.2.2.2⟩
        · exact ⟨g1.1, g1.2.1, g1.2.2.1, mrg_ck k (by omega) g1.2.2.2 (ck_weak g2.2.2.2 (by omega))⟩
theorem mrg_lk : ∀ (k : Nat) {b c : Int} {x y : List Vd} (n : Int), x.length + y.length ≤ k → ckV b x = true → ckV c y = true → lk (mrg x y) n = mn (lk x n) (lk y n)
  | _, _, _, [], y, n, _, _, _ => by rw [mrg_nil]; rfl
  | _, _, _, x :: xs, [], n, _, _, _ => by rw [mrg_nil', show lk [] n = none from rfl, mn_none]
  | 0, _, _, x :: xs, y :: ys, _, hk, _, _ => by simp at hk
  | k + 1, b, c, x :: xs, y :: ys, n, hk, h1, h2 => by
    have g1 := h1
    have g2 := h2
    simp only [ckV, Bool.and_eq_true, decide_eq_true_eq] at g1 g2
    simp only [List.length_cons] at hk
    rw [mrg_cons]
    split
    · simp only [lk]
      rw [mrg_lk k n (by simp only [List.length_cons]; omega) g1.2.2.2 h2]
      by_cases hn : x.1 = n
      · rw [if_pos hn, if_pos hn, if_neg (by omega), lk_low g2.2.2.2 (by omega)]; rfl
      · simp only [lk]; rw [if_neg hn, if_neg hn]
    · split
      · simp only [lk]
        rw [mrg_lk k n (by simp only [List.length_cons]; omega) h1 g2.2.2.2]
        by_cases hn : y.1 = n
        · rw [if_pos hn, if_pos hn, if_neg (by omega), lk_low g1.2.2.2 (by omega)]; rfl
        · simp only [lk]; rw [if_neg hn, if_neg hn]
      · have e : x.1 = y.1 := by omega
        have e1 : (if y.2 < x.2 then y else x).1 = y.1 := by split <;> omega
        simp only [lk, e1]
        rw [mrg_lk k n (by omega) g1.2.2.2 g2.2.2.2, e]
        by_cases hn : y.1 = n
        · rw [if_pos hn, if_pos hn, if_pos hn]
          simp only [mn]
          split <;> rfl
        · rw [if_neg hn, if_neg hn, if_neg hn]
theorem putT_id : ∀ {b : Int} {l : List Vd} {v : Vd}, ckV b l = true → v.1 ≤ b → putG true l v = l
  | _, [], _, _, _ => by simp [putG]
  | b, x :: xs, v, h, hv => by
    simp only [ckV, Bool.and_eq_true, decide_eq_true_eq] at h
    simp only [putG]
    rw [if_neg (by omega), if_neg (by simp), putT_id h.2.2.2 (by omega)]
theorem put_mrg : ∀ {b : Int} {l : List Vd} {v : Vd}, ckV b l = true → putF l v = mrg l [v]
  | _, [], v, _ => by simp [putF, putG, mrg_nil]
  | b, x :: xs, v, h => by
    simp only [ckV, Bool.and_eq_true, decide_eq_true_eq] at h
    have hi := put_mrg (v := v) h.2.2.2
    rw [mrg_cons]
    unfold putF at hi ⊢
    unfold putG
    by_cases h1 : x.1 = v.1
    · have h3 : ¬ x.1 < v.1 := by omega
      have h4 : ¬ v.1 < x.1 := by omega
      simp only [h1, if_true, if_false, Int.lt_irrefl, mrg_nil', putT_id h.2.2.2 (show v.1 ≤ x.1 by omega)]
      congr 1
      refine Prod.ext ?_ ?_
      · simp only; split <;> simp [h1]
      · simp only; split <;> split <;> omega
    · by_cases h2 : v.1 < x.1
      · have h3 : ¬ x.1 < v.1 := by omega
        simp only [h1, h2, h3, if_true, if_false, mrg_nil', putT_id h.2.2.2 (show v.1 ≤ x.1 by omega), and_self]
      · have h3 : x.1 < v.1 := by omega
        simp only [h1, h2, h3, if_true, if_false, hi, and_false]
theorem ck_one {b : Int} {x : Vd} {l : List Vd} (h : ckV b (x :: l) = true) : ckV b [x] = true := by
  simp only [ckV, Bool.and_eq_true, decide_eq_true_eq] at h ⊢
  exact ⟨h.1, h.2.1, h.2.2.1, trivial⟩
theorem lk_cons {b : Int} {x : Vd} {l : List Vd} (h : ckV b (x :: l) = true) (n : Int) : lk (x :: l) n = mn (lk [x] n) (lk l n) := by
  simp only [ckV, Bool.and_eq_true, decide_eq_true_eq] at h
  simp only [lk]
  by_cases hn : x.1 = n
  · rw [if_pos hn, if_pos hn, lk_low h.2.2.2 (by omega)]; rfl
  · rw [if_neg hn, if_neg hn]; rfl
theorem rjF_law : ∀ {b : Int} {y x : List Vd}, ckV b x = true → ckV b y = true → ckV b (rjF x y) = true ∧ ∀ n, lk (rjF x y) n = mn (lk x n) (lk y n)
  | b, [], x, h1, _ => ⟨h1, fun n => by rw [show lk [] n = none from rfl, mn_none]; rfl⟩
  | b, v :: y, x, h1, h2 => by
    have ho := ck_one h2
    have hy : ckV b y = true := by
      simp only [ckV, Bool.and_eq_true, decide_eq_true_eq] at h2
      exact ck_weak h2.2.2.2 (by omega)
    have hp : ckV b (putF x v) = true := by rw [put_mrg h1]; exact mrg_ck _ (Nat.le_refl _) h1 ho
    obtain ⟨q1, q2⟩ := rjF_law hp hy
    refine ⟨q1, fun n => ?_⟩
    have e := q2 n
    rw [put_mrg h1, mrg_lk _ n (Nat.le_refl _) h1 ho, mn_assoc, ← lk_cons h2] at e
    rw [← e]
    simp [rjF, put_mrg h1]
/-- The reference joins as the program does. -/
theorem rjF_mrg {b : Int} {x y : List Vd} (h1 : ckV b x = true) (h2 : ckV b y = true) : rjF x y = mrg x y := by
  obtain ⟨q1, q2⟩ := rjF_law h1 h2
  refine lk_ext q1 (mrg_ck _ (Nat.le_refl _) h1 h2) (fun n => ?_)
  rw [q2, mrg_lk _ n (Nat.le_refl _) h1 h2]
theorem mrg_comm {b : Int} {x y : List Vd} (h1 : ckV b x = true) (h2 : ckV b y = true) : mrg x y = mrg y x := by
  refine lk_ext (mrg_ck _ (Nat.le_refl _) h1 h2) (mrg_ck _ (Nat.le_refl _) h2 h1) (fun n => ?_)
  rw [mrg_lk _ n (Nat.le_refl _) h1 h2, mrg_lk _ n (Nat.le_refl _) h2 h1, mn_comm]
theorem mrg_self {b : Int} {x : List Vd} (h1 : ckV b x = true) : mrg x x = x := by
  refine lk_ext (mrg_ck _ (Nat.le_refl _) h1 h1) h1 (fun n => ?_)
  rw [mrg_lk _ n (Nat.le_refl _) h1 h1, mn_self]
theorem mrg_assoc {b : Int} {x y z : List Vd} (h1 : ckV b x = true) (h2 : ckV b y = true) (h3 : ckV b z = true) : mrg (mrg x y) z = mrg x (mrg y z) := by
  have g1 := mrg_ck _ (Nat.le_refl _) h1 h2
  have g2 := mrg_ck _ (Nat.le_refl _) h2 h3
  refine lk_ext (mrg_ck _ (Nat.le_refl _) g1 h3) (mrg_ck _ (Nat.le_refl _) h1 g2) (fun n => ?_)
  rw [mrg_lk _ n (Nat.le_refl _) g1 h3, mrg_lk _ n (Nat.le_refl _) h1 h2, mrg_lk _ n (Nat.le_refl _) h1 g2, mrg_lk _ n (Nat.le_refl _) h2 h3, mn_assoc]
theorem mrg_again {b : Int} {x y : List Vd} (h1 : ckV b x = true) (h2 : ckV b y = true) : mrg (mrg x y) y = mrg x y := by
  rw [mrg_assoc h1 h2 h2, mrg_self h2]
/-- What is revoked, by the lookup. -/
def le? : Option Int → Int → Bool
  | none, _ => false
  | some t, e => decide (t ≤ e)
theorem rvB_lk : ∀ (l : List Vd) (n e : Int), rvB l n e = le? (lk l n) e
  | [], _, _ => rfl
  | x :: xs, n, e => by
    have hi := rvB_lk xs n e
    unfold rvB hsV fnV at hi ⊢
    simp only [lk, List.find?_cons]
    by_cases hn : x.1 = n
    · simp [hn, le?]
    · have hb : (x.1 == n) = false := by simpa using hn
      simp only [hb, if_neg hn]
      exact hi
theorem le_mn (x y : Option Int) (e : Int) : le? (mn x y) e = (le? x e || le? y e) := by
  cases x <;> cases y <;> simp [mn, le?]
  rw [← Bool.decide_or]
  congr 1
  split <;> simp <;> omega
theorem rvB_mrg {b : Int} {x y : List Vd} (h1 : ckV b x = true) (h2 : ckV b y = true) (n e : Int) : rvB (mrg x y) n e = (rvB x n e || rvB y n e) := by
  rw [rvB_lk, rvB_lk, rvB_lk, mrg_lk _ n (Nat.le_refl _) h1 h2, le_mn]
end Go.Proofs.Ytcpadfehoaopaaa
