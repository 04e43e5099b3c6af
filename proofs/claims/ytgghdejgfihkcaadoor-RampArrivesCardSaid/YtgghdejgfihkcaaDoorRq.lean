/- Levels and ramps in plain Lean: what the laws of ramps say. -/
import Derived.Test.YtgghdejgfihkcaaDoorRh
namespace Go.Proofs.YtgghdejgfihkcaaDoor

def isL (mn mx st a : Int) : Bool := a == 0 || (decide (mn ≤ a) && (decide (a ≤ mx) && ((a - mn) % st == 0)))
theorem isL_iff {mn mx st a : Int} : isL mn mx st a = true ↔ a = 0 ∨ (mn ≤ a ∧ a ≤ mx ∧ (a - mn) % st = 0) := by simp [isL]
theorem lvl_isL {mn mx st a : Int} (hc : chP mn mx st) : isL mn mx st (lvl mn mx st a) = true := by
  unfold chP at hc
  rw [isL_iff]
  unfold lvl
  split
  · exact .inl rfl
  · right
    have e1 := emod_le_self (x := min a mx - mn) (s := st) (by omega) (by omega)
    refine ⟨by omega, by omega, ?_⟩
    have h := Int.mul_ediv_add_emod (min a mx - mn) st
    rw [show min a mx - (min a mx - mn) % st - mn = st * ((min a mx - mn) / st) by omega]
    exact Int.mul_emod_right _ _
theorem lvl_le {mn mx st a : Int} (hc : chP mn mx st) (ha : 0 ≤ a) : lvl mn mx st a ≤ a := by
  have hc' := hc
  unfold chP at hc'
  have := lvl_bounds (a := a) hc'.1 hc'.2.1 hc'.2.2.1 hc'.2.2.2.1
  by_cases h : a < mn
  · omega
  · omega
theorem mult_le {x y s : Int} (hs : 1 ≤ s) (hy : y % s = 0) (h : y ≤ x) : y ≤ x - x % s := by
  have h1 := Int.mul_ediv_add_emod x s
  have h2 := Int.mul_ediv_add_emod y s
  have h3 := Int.emod_lt_of_pos x (b := s) (by omega)
  by_cases hq : y / s ≤ x / s
  · have := Int.mul_le_mul_of_nonneg_left hq (show 0 ≤ s by omega)
    omega
  · have := Int.mul_le_mul_of_nonneg_left (show x / s + 1 ≤ y / s by omega) (show 0 ≤ s by omega)
    rw [Int.mul_add, Int.mul_one] at this
    omega
theorem lvl_greatest {mn mx st a L : Int} (hc : chP mn mx st) (hL : isL mn mx st L = true) (h : L ≤ a) : L ≤ lvl mn mx st a := by
  have hc' := hc
  unfold chP at hc'
  rw [isL_iff] at hL
  rcases hL with rfl | ⟨h1, h2, h3⟩
  · exact (lvl_bounds (a := a) hc'.1 hc'.2.1 hc'.2.2.1 hc'.2.2.2.1).1
  · unfold lvl
    rw [if_neg (by omega)]
    have := mult_le (x := min a mx - mn) (y := L - mn) (s := st) (by omega) h3 (by omega)
    omega
theorem lvl_self {mn mx st a : Int} (hc : chP mn mx st) (h : isL mn mx st a = true) (ha : 0 ≤ a) : lvl mn mx st a = a := by
  have h1 := lvl_le hc ha
  have h2 := lvl_greatest hc h (Int.le_refl a)
  omega
theorem lvl_pred {mn mx st a : Int} (hc : chP mn mx st) (ha : 1 ≤ a) (h : ¬ isL mn mx st a = true) : lvl mn mx st a = lvl mn mx st (a - 1) := by
  have h1 := lvl_le hc (show 0 ≤ a by omega)
  have h2 : lvl mn mx st a ≠ a := fun e => h (by rw [← e]; exact lvl_isL hc)
  have h3 := lvl_greatest hc (lvl_isL (a := a) hc) (show lvl mn mx st a ≤ a - 1 by omega)
  have h4 := lvl_le hc (show 0 ≤ a - 1 by omega)
  have h5 := lvl_greatest hc (lvl_isL (a := a - 1) hc) (show lvl mn mx st (a - 1) ≤ a by omega)
  omega
/-- What follows a valid ramp. -/
theorem okB_more {ph mn mx st fb a s want : Int} (h : okB ph mn mx st fb a s want = true) : chP mn mx st ∧ 0 ≤ s ∧ s ≤ 1000000 ∧ 0 ≤ want ∧ want ≤ 80 ∧ 0 ≤ a ∧ a ≤ 80 ∧ isL mn mx st a = true ∧ a ≤ mx ∧ (a ≠ 0 → mn ≤ a) := by
  have h' := h
  simp only [okB, raB, Bool.and_eq_true, decide_eq_true_eq, beq_iff_eq] at h'
  obtain ⟨⟨_, _, _, _, h5⟩, _⟩ := h'
  obtain ⟨_, h2, h3, h4, h6, h7, _⟩ := okB_use h
  have hl : isL mn mx st a = true := by rw [← h5]; exact lvl_isL h2
  have hl' := isL_iff.1 hl
  have h2' := h2
  unfold chP at h2'
  exact ⟨h2, h3.1, h3.2, h4.1, h4.2, h6, h7, hl, by omega, by omega⟩
theorem okB_of {ph mn mx st fb a s want : Int} (hr : raB ph mn mx st fb a s = true) (h1 : 0 ≤ want) (h2 : want ≤ 80) : okB ph mn mx st fb a s want = true := by
  simp [okB, hr, h1, h2]
theorem nE_ok {ph mn mx st fb a s want : Int} (h : okB ph mn mx st fb a s want = true) : nE ph mn mx st fb a s want = 0 := by rw [nE, if_pos h]
theorem nA_ok {ph mn mx st fb a s want : Int} (h : okB ph mn mx st fb a s want = true) : nA ph mn mx st fb a s want = if a = 0 then (if lvl mn mx st want ≠ 0 ∧ 5 ≤ s then mn else 0) else if lvl mn mx st want = 0 then 0 else min (lvl mn mx st want) (a + st) := by rw [nA, if_pos h]
theorem nS_ok {ph mn mx st fb a s want : Int} (h : okB ph mn mx st fb a s want = true) : nS ph mn mx st fb a s want = if a = 0 then (if lvl mn mx st want ≠ 0 ∧ 5 ≤ s then 0 else min (s + 1) 1000000) else if lvl mn mx st want = 0 then 0 else min (s + 1) 1000000 := by rw [nS, if_pos h]
theorem isL_mn {mn mx st : Int} (hc : chP mn mx st) : isL mn mx st mn = true := by
  unfold chP at hc
  rw [isL_iff]; right; exact ⟨by omega, by omega, by simp⟩
theorem isL_add {mn mx st a : Int} (ha : isL mn mx st a = true) (h0 : a ≠ 0) (h1 : a + st ≤ mx) (hs : 1 ≤ st) : isL mn mx st (a + st) = true := by
  rw [isL_iff] at ha ⊢
  rcases ha with h | ⟨h2, h3, h4⟩
  · exact absurd h h0
  · right
    exact ⟨by omega, h1, by rw [show a + st - mn = (a - mn) + st by omega, Int.add_emod_right]; exact h4⟩
theorem lvl_mono {mn mx st a b : Int} (hc : chP mn mx st) (h0 : 0 ≤ a) (h : a ≤ b) : lvl mn mx st a ≤ lvl mn mx st b := by
  have h1 := lvl_le hc h0
  exact lvl_greatest hc (lvl_isL (a := a) hc) (by omega)
theorem lvl_le_mx {mn mx st a : Int} (hc : chP mn mx st) : lvl mn mx st a ≤ mx := by
  have h := isL_iff.1 (lvl_isL (a := a) hc)
  unfold chP at hc
  omega
/-- The rise by one step, at most up to a wanted current. -/
theorem rise_eq {mn mx st a want : Int} (hc : chP mn mx st) (ha : isL mn mx st a = true) (h0 : a ≠ 0) (ha0 : 0 ≤ a) (hw : 0 ≤ want) : (if lvl mn mx st want = 0 then 0 else min (lvl mn mx st want) (a + st)) = lvl mn mx st (min want (a + st)) := by
  have hc' := hc
  unfold chP at hc'
  have hla := isL_iff.1 ha
  by_cases h1 : want ≤ a + st
  · rw [show min want (a + st) = want by omega]
    have := lvl_le hc hw
    split <;> omega
  · rw [show min want (a + st) = a + st by omega]
    have hge : a ≤ lvl mn mx st want := lvl_greatest hc ha (by omega)
    rw [if_neg (by omega)]
    by_cases h2 : a + st ≤ mx
    · have hl := isL_add ha h0 h2 (by omega)
      rw [lvl_self hc hl (by omega)]
      have := lvl_greatest hc hl (show a + st ≤ want by omega)
      omega
    · have m1 := lvl_le_mx (a := want) hc
      have g1 := lvl_greatest hc (lvl_isL (a := want) hc) (show lvl mn mx st want ≤ a + st by omega)
      have g2 := lvl_mono hc (show 0 ≤ a + st by omega) (show a + st ≤ want by omega)
      omega
theorem nm_pure {ph mn mx st fb a s want most : Int} (hk : okB ph mn mx st fb a s want = true) (hm : most = if a = 0 then mn else a + st) :
    isL mn mx st (nA ph mn mx st fb a s want) = true ∧ nA ph mn mx st fb a s want ≤ want ∧ nA ph mn mx st fb a s want ≤ most ∧ (nA ph mn mx st fb a s want = lvl mn mx st (min want most) ∨ (a = 0 ∧ s < 5 ∧ nA ph mn mx st fb a s want = 0)) ∧ (a ≠ 0 ∨ 5 ≤ s ∨ nA ph mn mx st fb a s want = 0) := by
  obtain ⟨hc, h1, h2, h3, h4, h5, h6, h7, h8, h9⟩ := okB_more hk
  have hc' := hc
  unfold chP at hc'
  rw [nA_ok hk]
  have lw := lvl_le hc h3
  by_cases h0 : a = 0
  · rw [if_pos h0] at hm ⊢
    by_cases hh : lvl mn mx st want ≠ 0 ∧ 5 ≤ s
    · rw [if_pos hh]
      have hw : mn ≤ want := by
        apply Classical.byContradiction
        intro hn
        exact hh.1 (by rw [lvl, if_pos (by omega)])
      refine ⟨isL_mn hc, hw, by omega, .inl ?_, .inr (.inl hh.2)⟩
      rw [hm, show min want mn = mn by omega, lvl_self hc (isL_mn hc) (by omega)]
    · rw [if_neg hh]
      refine ⟨by simp [isL], h3, by omega, ?_, .inr (.inr rfl)⟩
      by_cases hs : s < 5
      · exact .inr ⟨h0, hs, rfl⟩
      · left
        have h10 : lvl mn mx st want = 0 := by
          apply Classical.byContradiction
          intro hn
          exact hh ⟨hn, by omega⟩
        have := lvl_mono hc (show 0 ≤ min want most by omega) (show min want most ≤ want by omega)
        have := (lvl_bounds (a := min want most) hc'.1 hc'.2.1 hc'.2.2.1 hc'.2.2.2.1).1
        omega
  · rw [if_neg h0] at hm ⊢
    rw [rise_eq hc h7 h0 h5 h3]
    have := lvl_le hc (show 0 ≤ min want (a + st) by omega)
    exact ⟨lvl_isL hc, by omega, by omega, .inl (by rw [hm]), .inl h0⟩
theorem okB_yes {ph mn mx st fb a s want : Int} (h : (!raB ph mn mx st fb a s || (decide (want < 0) || decide (want > 80))) = false) : okB ph mn mx st fb a s want = true := by
  apply Classical.byContradiction
  intro hn
  rw [okB_not hn] at h
  cases h
theorem nm_bool {mn mx st a s x want most g : Int} (h : isL mn mx st x = true ∧ x ≤ want ∧ x ≤ most ∧ (x = g ∨ (a = 0 ∧ s < 5 ∧ x = 0)) ∧ (a ≠ 0 ∨ 5 ≤ s ∨ x = 0)) :
    (isL mn mx st x && (decide (x ≤ want) && (decide (x ≤ most) && (if x == g then a != 0 || (decide (s ≥ 5) || x == 0) else (a == 0 && (decide (s < 5) && x == 0)) && (a != 0 || (decide (s ≥ 5) || x == 0)))))) = true := by
  obtain ⟨h1, h2, h3, h4, h5⟩ := h
  have h6 : (a != 0 || (decide (s ≥ 5) || x == 0)) = true := by simp; omega
  rw [h1, h6]
  by_cases hg : x = g
  · simp [h2, h3, hg]; omega
  · have := h4.resolve_left hg
    simp [h2, h3, hg, this]
    omega
theorem beq_iff' {x y : Int} : ((x == 0) = (y == 0)) ↔ (x = 0 ↔ y = 0) := by
  have e : ∀ z : Int, (z == 0) = decide (z = 0) := fun z => by by_cases h : z = 0 <;> simp [h]
  rw [e x, e y, decide_eq_decide]
theorem okB_nE {ph mn mx st fb a s want : Int} (h : nE ph mn mx st fb a s want = 0) : okB ph mn mx st fb a s want = true := by
  apply Classical.byContradiction
  intro hn
  rw [nE, if_neg hn] at h
  cases h
theorem ra_since {ph mn mx st fb a s : Int} (h : raB ph mn mx st fb a s = true) : 0 ≤ s ∧ s ≤ 1000000 := by
  simp [raB] at h; omega
theorem ra_pos {ph mn mx st fb a s : Int} (h : raB ph mn mx st fb a s = true) : 0 ≤ a := by
  simp [raB] at h; omega
theorem ra_ch {ph mn mx st fb a s : Int} (h : raB ph mn mx st fb a s = true) : chB ph mn mx st fb = true := by
  simp [raB] at h; exact h.1
theorem next_facts {ph mn mx st fb a s want : Int} (hk : okB ph mn mx st fb a s want = true) :
    0 ≤ nA ph mn mx st fb a s want ∧ (0 ≤ nS ph mn mx st fb a s want ∧ nS ph mn mx st fb a s want ≤ 1000000 ∧ nS ph mn mx st fb a s want ≤ s + 1) ∧ (a = 0 → nA ph mn mx st fb a s want ≠ 0 → 5 ≤ s) ∧ (a ≠ 0 → nA ph mn mx st fb a s want = 0 → nS ph mn mx st fb a s want = 0) ∧
    (¬ ((nA ph mn mx st fb a s want = 0) ↔ (a = 0)) → nS ph mn mx st fb a s want = 0) ∧ (((nA ph mn mx st fb a s want = 0) ↔ (a = 0)) → nS ph mn mx st fb a s want = min (s + 1) 1000000) := by
  obtain ⟨hc, h1, h2, h3, h4, h5, h6, h7, h8, h9⟩ := okB_more hk
  have hc' := hc
  unfold chP at hc'
  have hb := (lvl_bounds (a := want) hc'.1 hc'.2.1 hc'.2.2.1 hc'.2.2.2.1).1
  rw [nA_ok hk, nS_ok hk]
  by_cases h0 : a = 0
  · simp only [if_pos h0]
    by_cases hh : lvl mn mx st want ≠ 0 ∧ 5 ≤ s
    · simp only [if_pos hh]; exact ⟨by omega, ⟨by omega, by omega, by omega⟩, fun _ _ => by omega, fun _ _ => by omega, fun _ => trivial, fun h => absurd (h.2 h0) (by omega)⟩
    · simp only [if_neg hh]; exact ⟨by omega, ⟨by omega, by omega, by omega⟩, fun _ _ => by omega, fun _ _ => by omega, fun h => absurd ⟨fun _ => h0, fun _ => trivial⟩ h, fun _ => trivial⟩
  · simp only [if_neg h0]
    by_cases hh : lvl mn mx st want = 0
    · simp only [if_pos hh]; exact ⟨by omega, ⟨by omega, by omega, by omega⟩, fun _ _ => by omega, fun _ _ => by omega, fun _ => trivial, fun h => absurd (h.1 trivial) h0⟩
    · simp only [if_neg hh]; exact ⟨by omega, ⟨by omega, by omega, by omega⟩, fun _ _ => by omega, fun _ _ => by omega, fun h => absurd ⟨fun e => by omega, fun e => absurd e h0⟩ h, fun _ => trivial⟩
theorem ra_next {ph mn mx st fb a s want : Int} (hk : okB ph mn mx st fb a s want = true) : raB ph mn mx st fb (nA ph mn mx st fb a s want) (nS ph mn mx st fb a s want) = true := by
  obtain ⟨hc, _⟩ := okB_more hk
  obtain ⟨n1, n2, _⟩ := next_facts hk
  have hp := (nm_pure hk rfl).1
  have hl := lvl_self hc hp n1
  have hch : chB ph mn mx st fb = true := by
    have h' := hk
    simp only [okB, raB, Bool.and_eq_true] at h'
    exact h'.1.1
  simp [raB, hch, n1, n2, hl]
theorem nA_mono {ph mn mx st fb a s want want' : Int} (hk : okB ph mn mx st fb a s want = true) (hk' : okB ph mn mx st fb a s want' = true) (h : want ≤ want') : nA ph mn mx st fb a s want ≤ nA ph mn mx st fb a s want' := by
  obtain ⟨hc, h1, h2, h3, h4, h5, h6, h7, h8, h9⟩ := okB_more hk
  have hc' := hc
  unfold chP at hc'
  rw [nA_ok hk, nA_ok hk']
  have hm := lvl_mono hc h3 h
  have hb := (lvl_bounds (a := want) hc'.1 hc'.2.1 hc'.2.2.1 hc'.2.2.2.1).1
  by_cases h0 : a = 0
  · simp only [if_pos h0]
    split <;> split <;> omega
  · simp only [if_neg h0]
    rw [rise_eq hc h7 h0 h5 h3, rise_eq hc h7 h0 h5 (by omega)]
    exact lvl_mono hc (by omega) (by omega)
theorem lvl_between {mn mx st a w : Int} (hc : chP mn mx st) (ha : isL mn mx st a = true) (h0 : a ≠ 0) (h1 : a ≤ w) (h2 : w < a + st) (h3 : 0 ≤ a) : lvl mn mx st w = a := by
  have hc' := hc
  unfold chP at hc'
  have g1 := lvl_greatest hc ha h1
  have g2 := lvl_le hc (show 0 ≤ w by omega)
  have ha' := isL_iff.1 ha
  rcases isL_iff.1 (lvl_isL (a := w) hc) with g3 | ⟨g3, g4, g5⟩
  · omega
  · rcases ha' with ha' | ⟨a1, a2, a3⟩
    · omega
    · have hx : (a - mn + (st - 1)) % st = st - 1 := by
        have := Int.mul_ediv_add_emod (a - mn) st
        rw [a3, Int.add_zero] at this
        rw [← this, Int.add_comm, Int.add_mul_emod_self_left]
        exact Int.emod_eq_of_lt (by omega) (by omega)
      have := mult_le (x := a - mn + (st - 1)) (y := lvl mn mx st w - mn) (s := st) (by omega) g5 (by omega)
      omega
theorem nA_same {ph mn mx st fb a s w : Int} (hk : okB ph mn mx st fb a s w = true) (h0 : a ≠ 0) (h1 : a ≤ w) (h2 : w < a + st) : nA ph mn mx st fb a s w = a ∧ nS ph mn mx st fb a s w = min (s + 1) 1000000 := by
  obtain ⟨hc, e1, e2, h3, h4, h5, h6, h7, h8, h9⟩ := okB_more hk
  have hc' := hc
  unfold chP at hc'
  have hl := lvl_between hc h7 h0 h1 h2 h5
  rw [nA_ok hk, nS_ok hk]
  simp only [if_neg h0, hl]
  refine ⟨by omega, trivial⟩
theorem lvl_prev {mn mx st a : Int} (hc : chP mn mx st) (ha : isL mn mx st a = true) (h : mn < a) : lvl mn mx st (a - 1) = a - st := by
  have hc' := hc
  unfold chP at hc'
  rcases isL_iff.1 ha with h0 | ⟨a1, a2, a3⟩
  · omega
  · have hge : mn ≤ a - st := by
      have := mult_le (x := a - mn - 1) (y := 0) (s := st) (by omega) (by simp) (by omega)
      have h1 := Int.mul_ediv_add_emod (a - mn) st
      rw [a3, Int.add_zero] at h1
      have hq : 1 ≤ (a - mn) / st := by
        apply Classical.byContradiction
        intro hn
        have := Int.mul_le_mul_of_nonneg_left (show (a - mn) / st ≤ 0 by omega) (show 0 ≤ st by omega)
        rw [Int.mul_zero] at this
        omega
      have := Int.mul_le_mul_of_nonneg_left hq (show 0 ≤ st by omega)
      rw [Int.mul_one] at this
      omega
    have hl : isL mn mx st (a - st) = true := by
      rw [isL_iff]; right
      refine ⟨hge, by omega, ?_⟩
      have : (a - st - mn + st) % st = 0 := by rw [show a - st - mn + st = a - mn by omega]; exact a3
      rwa [Int.add_emod_right] at this
    exact lvl_between hc hl (by omega) (by omega) (by omega) (by omega)
theorem lvl_top {mn mx st a : Int} (hc : chP mn mx st) (h : mx ≤ a) : lvl mn mx st mx = lvl mn mx st a := by
  have hc' := hc
  unfold chP at hc'
  have h1 := lvl_mono hc (show 0 ≤ mx by omega) h
  have h2 := lvl_greatest hc (lvl_isL (a := a) hc) (lvl_le_mx hc)
  omega
/-- One tick on the way to the level below a wanted current. -/
theorem arrive_step {ph mn mx st fb a s want level i : Int} (hk : okB ph mn mx st fb a s want = true) (hl : level = lvl mn mx st want) (hi : 0 ≤ i) (h0 : i = 0 → a ≠ 0 ∨ 5 ≤ s) (h1 : i ≠ 0 → a ≤ level ∧ min level (mn + (i - 1) * st) ≤ a) :
    nA ph mn mx st fb a s want ≤ level ∧ min level (mn + i * st) ≤ nA ph mn mx st fb a s want := by
  obtain ⟨hc, e1, e2, h3, h4, h5, h6, h7, h8, h9⟩ := okB_more hk
  have hc' := hc
  unfold chP at hc'
  have hb := lvl_bounds (a := want) hc'.1 hc'.2.1 hc'.2.2.1 hc'.2.2.2.1
  rw [nA_ok hk, ← hl]
  rw [← hl] at hb
  have hlw : level ≠ 0 → mn ≤ level := fun h => by
    by_cases hw : want < mn
    · exact absurd (hb.2.2.1 hw) h
    · exact (hb.2.2.2 (by omega)).1
  by_cases hi0 : i = 0
  · subst hi0
    rw [Int.zero_mul, Int.add_zero]
    by_cases ha : a = 0
    · rw [if_pos ha]
      have := (h0 rfl).resolve_left (fun h => h ha)
      by_cases hz : level ≠ 0
      · have := hlw hz
        rw [if_pos ⟨hz, by assumption⟩]; omega
      · rw [if_neg (fun h => hz h.1)]; omega
    · rw [if_neg ha]
      have := h9 ha
      by_cases hz : level = 0
      · rw [if_pos hz]; omega
      · rw [if_neg hz]; omega
  · obtain ⟨g1, g2⟩ := h1 hi0
    have hexp : (i - 1) * st = i * st - st := by rw [Int.sub_mul, Int.one_mul]
    rw [hexp] at g2
    have hpos : st ≤ i * st := by
      have := Int.mul_le_mul_of_nonneg_right (show 1 ≤ i by omega) (show 0 ≤ st by omega)
      rwa [Int.one_mul] at this
    by_cases hz : level = 0
    · have ha : a = 0 := by omega
      rw [if_pos ha, if_neg (fun h => h.1 hz)]; omega
    · have := hlw hz
      rw [if_neg (show a ≠ 0 by omega), if_neg hz]; omega
end Go.Proofs.YtgghdejgfihkcaaDoor
