/- Ramps in plain Lean: what the functions of packages charger and ramp compute. -/
import Derived.Test.YtgghdejgfihkcaaDoorRows
import Derived.Test.YtgghdejgfihkcaaDoorSxM
namespace Go.Proofs.YtgghdejgfihkcaaDoor

def inB (n a b : Int) : Bool := decide (n ≥ a) && decide (n ≤ b)
def chB (ph mn mx st fb : Int) : Bool := inB ph 1 7 && (inB mn 1 80 && (inB mx 1 80 && (inB st 1 80 && (decide (mn ≤ mx) && (fb == 0 || inB fb mn mx)))))
theorem chB_iff {ph mn mx st fb : Int} : chB ph mn mx st fb = true ↔ 1 ≤ ph ∧ ph ≤ 7 ∧ 1 ≤ mn ∧ mn ≤ 80 ∧ 1 ≤ mx ∧ mx ≤ 80 ∧ 1 ≤ st ∧ st ≤ 80 ∧ mn ≤ mx ∧ (fb = 0 ∨ (mn ≤ fb ∧ fb ≤ mx)) := by
  simp [chB, inB]; omega
/-- The greatest level that is at most a current (of a valid charger). -/
def lvl (mn mx st a : Int) : Int := if a < mn then 0 else min a mx - (min a mx - mn) % st
theorem emod_le_self {x s : Int} (hx : 0 ≤ x) (hs : 1 ≤ s) : 0 ≤ x % s ∧ x % s ≤ x ∧ x % s < s := by
  have h1 := Int.mul_ediv_add_emod x s
  have h2 : 0 ≤ x / s := Int.ediv_nonneg hx (by omega)
  have h3 : 0 ≤ s * (x / s) := Int.mul_nonneg (by omega) h2
  have h4 := Int.emod_nonneg x (b := s) (by omega)
  have h5 := Int.emod_lt_of_pos x (b := s) (by omega)
  omega
theorem lvl_bounds {mn mx st a : Int} (h1 : 1 ≤ mn) (h2 : mn ≤ mx) (h3 : mx ≤ 80) (h4 : 1 ≤ st) : 0 ≤ lvl mn mx st a ∧ lvl mn mx st a ≤ 80 ∧ (a < mn → lvl mn mx st a = 0) ∧ (mn ≤ a → mn ≤ lvl mn mx st a ∧ lvl mn mx st a ≤ a ∧ lvl mn mx st a ≤ mx) := by
  unfold lvl
  split
  · omega
  · have e1 := emod_le_self (x := min a mx - mn) (s := st) (by omega) h4
    omega
/-- The bounds of a charger that has levels. -/
def chP (mn mx st : Int) : Prop := 1 ≤ mn ∧ mn ≤ mx ∧ mx ≤ 80 ∧ 1 ≤ st ∧ st ≤ 80
theorem chP_of {ph mn mx st fb : Int} (h : chB ph mn mx st fb = true) : chP mn mx st := by
  rw [chB_iff] at h; unfold chP; omega
def raB (ph mn mx st fb a s : Int) : Bool := chB ph mn mx st fb && (decide (0 ≤ s) && (decide (s ≤ 1000000) && (decide (0 ≤ a) && (lvl mn mx st a == a))))
def okB (ph mn mx st fb a s want : Int) : Bool := raB ph mn mx st fb a s && (decide (0 ≤ want) && decide (want ≤ 80))
def nE (ph mn mx st fb a s want : Int) : Int := if okB ph mn mx st fb a s want then 0 else 1
def nA (ph mn mx st fb a s want : Int) : Int :=
  if okB ph mn mx st fb a s want then (if a = 0 then (if lvl mn mx st want ≠ 0 ∧ 5 ≤ s then mn else 0) else if lvl mn mx st want = 0 then 0 else min (lvl mn mx st want) (a + st)) else 0
def nS (ph mn mx st fb a s want : Int) : Int :=
  if okB ph mn mx st fb a s want then (if a = 0 then (if lvl mn mx st want ≠ 0 ∧ 5 ≤ s then 0 else min (s + 1) 1000000) else if lvl mn mx st want = 0 then 0 else min (s + 1) 1000000) else 0
theorem wrapS {x : Int} (h1 : -9223372036854775808 ≤ x) (h2 : x ≤ 9223372036854775807) : IntKind.i64.wrap x = x := by
  simp [IntKind.wrap, IntKind.bits, IntKind.signed]
  omega
theorem ite_min (x y : Int) : (if y < x then y else x) = min x y := by omega
theorem below0 {mn mx st am : Int} (h : am < mn) : 0 = lvl mn mx st am := by rw [lvl, if_pos h]
theorem below1 {mn mx st am : Int} (hc : chP mn mx st) (h : mn ≤ am) : IntKind.i64.wrap ((if mx < am then mx else am) - (IntKind.i64.wrap ((if mx < am then mx else am) - mn)).tmod st) = lvl mn mx st am := by
  unfold chP at hc
  rw [ite_min]
  have e1 := emod_le_self (x := min am mx - mn) (s := st) (by omega) (by omega)
  rw [wrapS (x := min am mx - mn) (by omega) (by omega), Int.tmod_eq_emod_of_nonneg (by omega), wrapS (by omega) (by omega), lvl, if_neg (by omega)]
theorem rav0 {ph mn mx st fb a s : Int} (h : ((!chB ph mn mx st fb) || (decide (s < 0) || (decide (s > 1000000) || decide (a < 0)))) = true) : false = raB ph mn mx st fb a s := by
  cases hr : raB ph mn mx st fb a s
  · rfl
  · simp [raB] at hr h
    rw [hr.1] at h
    simp at h
    omega
theorem rav1 {ph mn mx st fb a s : Int} (h : ((!chB ph mn mx st fb) || (decide (s < 0) || (decide (s > 1000000) || decide (a < 0)))) = false) : chP mn mx st ∧ (lvl mn mx st a == a) = raB ph mn mx st fb a s := by
  simp at h
  obtain ⟨h1, h2, h3, h4⟩ := h
  exact ⟨chP_of h1, by simp [raB, h1, h2, h3, h4]⟩
theorem okB_use {ph mn mx st fb a s want : Int} (h : okB ph mn mx st fb a s want = true) : (!raB ph mn mx st fb a s || (decide (want < 0) || decide (want > 80))) = false ∧ chP mn mx st ∧ (0 ≤ s ∧ s ≤ 1000000) ∧ (0 ≤ want ∧ want ≤ 80) ∧ 0 ≤ a ∧ a ≤ 80 ∧ 1 ≤ st ∧ st ≤ 80 := by
  simp only [okB, raB, Bool.and_eq_true, decide_eq_true_eq, beq_iff_eq] at h
  obtain ⟨⟨h1, h2, h3, h4, h5⟩, h6, h7⟩ := h
  have hc := chP_of h1
  have hc' := hc
  unfold chP at hc'
  have := lvl_bounds (a := a) hc'.1 hc'.2.1 hc'.2.2.1 hc'.2.2.2.1
  refine ⟨?_, hc, ⟨h2, h3⟩, ⟨h6, h7⟩, h4, by omega, hc'.2.2.2.1, hc'.2.2.2.2⟩
  simp [raB, h1, h2, h3, h4, h5]; omega
theorem okB_not {ph mn mx st fb a s want : Int} (h : ¬ okB ph mn mx st fb a s want = true) : (!raB ph mn mx st fb a s || (decide (want < 0) || decide (want > 80))) = true := by
  cases hr : raB ph mn mx st fb a s
  · rfl
  · simp [okB, hr] at h ⊢; omega
theorem rch0 {ph mn mx st fb : Int} (h : (decide (ph < 1) || (decide (ph > 7) || (decide (mn < 1) || (decide (mx > 80) || (decide (mn > mx) || (decide (st < 1) || decide (st > 80))))))) = true) : false = chB ph mn mx st fb := by
  cases hc : chB ph mn mx st fb
  · rfl
  · rw [chB_iff] at hc; simp at h; omega
theorem rch1 {ph mn mx st fb : Int} (h : (decide (ph < 1) || (decide (ph > 7) || (decide (mn < 1) || (decide (mx > 80) || (decide (mn > mx) || (decide (st < 1) || decide (st > 80))))))) = false) : (fb == 0 || (decide (fb ≥ mn) && decide (fb ≤ mx))) = chB ph mn mx st fb := by
  simp at h
  cases hc : chB ph mn mx st fb
  · cases hf : (fb == 0 || (decide (fb ≥ mn) && decide (fb ≤ mx)))
    · rfl
    · have : chB ph mn mx st fb = true := chB_iff.2 (by simp at hf; omega)
      rw [this] at hc; cases hc
  · rw [chB_iff] at hc; simp; omega
/-- The loop of the reference's Level: what holds at its head. -/
def levI (mn mx st am lv x : Int) : Prop :=
  chP mn mx st ∧ mn ≤ x ∧ x ≤ mx + st ∧ (x - mn) % st = 0 ∧ ((lv = 0 ∧ (x = mn ∨ am < mn)) ∨ (mn ≤ lv ∧ lv ≤ am ∧ lv + st ≤ x ∧ (lv - mn) % st = 0 ∧ (lv + st = x ∨ am < lv + st)))
theorem levI_start {mn mx st am : Int} (h : chP mn mx st) : levI mn mx st am 0 mn := by
  unfold levI
  refine ⟨h, Int.le_refl _, by unfold chP at h; omega, by simp, .inl ⟨rfl, .inl rfl⟩⟩
theorem levI_step {mn mx st am lv x : Int} (h : levI mn mx st am lv x) (hx : x ≤ mx) : levI mn mx st am (if x ≤ am then x else lv) (x + st) := by
  unfold levI at h ⊢
  obtain ⟨h1, h2, h3, h4, h5⟩ := h
  have e : (x + st - mn) % st = 0 := by rw [show x + st - mn = (x - mn) + st by omega, Int.add_emod_right]; exact h4
  have h1' := h1
  unfold chP at h1'
  refine ⟨h1, by omega, by omega, e, ?_⟩
  split
  · exact .inr ⟨h2, by omega, by omega, h4, .inl rfl⟩
  · rcases h5 with h5 | h5
    · refine .inl ⟨h5.1, .inr (by omega)⟩
    · exact .inr ⟨h5.1, h5.2.1, by omega, h5.2.2.2.1, .inr (by omega)⟩
theorem levI_end {mn mx st am lv x : Int} (h : levI mn mx st am lv x) (hx : mx < x) : lv = lvl mn mx st am := by
  unfold levI chP at h
  obtain ⟨h1, h2, h3, h4, h5⟩ := h
  unfold lvl
  rcases h5 with ⟨h5, h6⟩ | ⟨h5, h6, h7, h8, h9⟩
  · rw [if_pos (by omega)]; exact h5
  · rw [if_neg (by omega)]
    have e : (min am mx - mn) % st = min am mx - lv := by
      rw [show min am mx - mn = (min am mx - lv) + (lv - mn) by omega, Int.add_emod, h8, Int.add_zero, Int.emod_emod_of_dvd _ (Int.dvd_refl _)]
      exact Int.emod_eq_of_lt (by omega) (by omega)
    rw [e]; omega
end Go.Proofs.YtgghdejgfihkcaaDoor
