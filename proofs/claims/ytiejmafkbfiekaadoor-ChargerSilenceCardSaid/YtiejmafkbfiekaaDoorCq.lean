/- Chargers in plain Lean: what the laws of chargers say. -/
import Derived.Test.YtiejmafkbfiekaaDoorCh
namespace Go.Proofs.YtiejmafkbfiekaaDoor
theorem step_eqs {ph mn mx st fb sp sa sl : Int} {sw : Bool} {ek en em : Int} (h : nE ph mn mx st fb sp sa sl sw ek en em = 0) :
    nP ph mn mx st fb sp sa sl sw ek en em = phF sp sw ek en ∧ nA ph mn mx st fb sp sa sl sw ek en em = cA sa sl ek en ∧ nL ph mn mx st fb sp sa sl sw ek en em = cL sl ek em ∧ nW ph mn mx st fb sp sa sl sw ek en em = cW sw ek en := by
  unfold nP nA nL nW
  rw [h]
  exact ⟨rfl, rfl, rfl, rfl⟩
theorem step_zero {ph mn mx st fb sp sa sl : Int} {sw : Bool} {ek en em : Int} (h : nE ph mn mx st fb sp sa sl sw ek en em ≠ 0) :
    nP ph mn mx st fb sp sa sl sw ek en em = 0 ∧ nA ph mn mx st fb sp sa sl sw ek en em = 0 ∧ nL ph mn mx st fb sp sa sl sw ek en em = 0 ∧ nW ph mn mx st fb sp sa sl sw ek en em = false := by
  unfold nP nA nL nW
  simp only [if_neg h]
  exact ⟨trivial, trivial, trivial, trivial⟩
theorem nE_val {ph mn mx st fb sp sa sl : Int} {sw : Bool} {ek en em : Int} (h : stP ph mn mx st fb sp sa sl sw) : nE ph mn mx st fb sp sa sl sw ek en em = if inB ek 1 9 = true then (if evB mx ek en em = true then (if phF sp sw ek en < 0 then 6 else 0) else 1) else 9 := by
  rw [nE, if_pos (stB_iff.2 h)]
theorem alF_val {ph mn mx st fb sp sa sl : Int} {sw : Bool} (h : stP ph mn mx st fb sp sa sl sw) : alF ph mn mx st fb sp sa sl sw = if sw = true then mx else if sp ≠ 4 then 0 else if sl ≠ 0 then sa else fb := by
  rw [alF, if_pos (stB_iff.2 h)]
theorem alF_bound {ph mn mx st fb sp sa sl : Int} {sw : Bool} (h : stP ph mn mx st fb sp sa sl sw) : 0 ≤ alF ph mn mx st fb sp sa sl sw ∧ alF ph mn mx st fb sp sa sl sw ≤ mx := by
  rw [alF_val h]
  unfold stP at h
  obtain ⟨g1, g2, g3, g4, g5, g6, g7, g8, g9⟩ := h
  have := chB_iff.1 g1
  repeat' split
  all_goals omega
/-- Ticks and resets, and leases that fit, are accepted. -/
theorem accepted {ph mn mx st fb sp sa sl : Int} {sw : Bool} {ek en em : Int} (h : stP ph mn mx st fb sp sa sl sw) (he : ek = 8 ∨ ek = 9 ∨ (ek = 7 ∧ 0 ≤ en ∧ en ≤ mx ∧ 1 ≤ em ∧ em ≤ 1000000)) : nE ph mn mx st fb sp sa sl sw ek en em = 0 := by
  have h' := h
  unfold stP at h'
  refine nE_is h (by omega) (evB_of ⟨fun e => by omega, fun e => by omega, fun e => by omega⟩) ?_
  rcases he with rfl | rfl | ⟨rfl, _⟩
  · simp [phF]; omega
  · simp [phF]; split <;> omega
  · simp [phF]; omega
theorem same_lease {sa sl ek en em : Int} (h1 : 1 ≤ ek) (h2 : ek ≤ 6) : cA sa sl ek en = sa ∧ cL sl ek em = sl := by
  unfold cA cL
  rw [if_neg (by omega), if_neg (by omega), if_neg (by omega), if_neg (by omega), if_neg (by omega), if_neg (by omega)]
  exact ⟨rfl, rfl⟩
theorem same_phase {sp : Int} {sw : Bool} {bk bn : Int} (h : bk = 7 ∨ bk = 8) : phF sp sw bk bn = sp ∧ cW sw bk bn = sw := by
  rcases h with rfl | rfl <;> simp [phF, cW]
/-- What is done in a state: the last events that concern the phase. -/
def doneF (sp : Int) : Int := if 1 ≤ sp ∧ sp ≤ 4 then sp else 0
theorem doneF_four {sp : Int} (h : 0 ≤ sp) (h5 : sp ≤ 5) : ((sp == 4) == (doneF sp == 4)) = true := by
  rcases six h h5 with rfl | rfl | rfl | rfl | rfl | rfl <;> decide
theorem doneF_spec (x : Int) : (1 ≤ x ∧ x ≤ 4 ∧ doneF x = x) ∨ (¬ (1 ≤ x ∧ x ≤ 4) ∧ doneF x = 0) := by
  unfold doneF
  split
  · rename_i h; exact .inl ⟨h.1, h.2, rfl⟩
  · rename_i h; exact .inr ⟨h, rfl⟩
theorem ph_cases {sp : Int} {sw : Bool} {ek en : Int} (hw : sw = true → sp = 5) (h1 : 1 ≤ ek) (h2 : ek ≤ 9) (h : 0 ≤ phF sp sw ek en) :
    (ek = 1 → phF sp sw ek en = 1) ∧ (ek = 2 → phF sp sw ek en = 0 ∨ phF sp sw ek en = 5) ∧ (ek = 3 → sp = 1 ∧ phF sp sw ek en = 2) ∧ (ek = 4 → sp = 2 ∧ ((en = 1 ∧ phF sp sw ek en = 3) ∨ (en ≠ 1 ∧ phF sp sw ek en = 5))) ∧ (ek = 5 → sp = 3 ∧ phF sp sw ek en = 4) ∧ (ek = 6 → sp = 4 ∧ ((en = 0 ∧ phF sp sw ek en = 1) ∨ (en ≠ 0 ∧ phF sp sw ek en = 5))) ∧ (ek = 9 → phF sp sw ek en = 0 ∨ phF sp sw ek en = 5 ∨ phF sp sw ek en = 1) ∧ (ek = 7 ∨ ek = 8 → phF sp sw ek en = sp) := by
  rcases five h1 h2 with rfl | rfl | rfl | rfl | rfl | rfl | rfl | rfl | rfl <;> simp [phF] at h ⊢
  all_goals cases sw <;> simp at hw h ⊢
  all_goals (repeat' split at h)
  all_goals simp_all
  all_goals (try omega)
theorem lease_cases {mx sa sl ek en em : Int} (h : evB mx ek en em = true) :
    (ek = 7 → cL sl ek em = em ∧ cA sa sl ek en = en ∧ 1 ≤ em ∧ em ≤ 1000000) ∧ (ek = 8 → cL sl ek em = max 0 (sl - 1) ∧ (cL sl ek em ≠ 0 → cA sa sl ek en = sa)) ∧ (ek = 9 → cL sl ek em = 0) ∧ (ek ≠ 7 → ek ≠ 8 → ek ≠ 9 → cL sl ek em = sl ∧ cA sa sl ek en = sa) := by
  have he := evB_use h
  refine ⟨fun e => ?_, fun e => ?_, fun e => ?_, fun h7 h8 h9 => ?_⟩
  · subst e; have := he.2.2 rfl; simp [cL, cA]; omega
  · subst e
    simp only [cL, cA, tick_max]
    simp
    intro h h2
    omega
  · subst e; simp [cL]
  · simp [cL, cA, h7, h8, h9]
theorem on_allowed {ph mn mx st fb sp sa sl : Int} {sw : Bool} (h : stP ph mn mx st fb sp sa sl sw) (h4 : sp = 4) : (sl ≠ 0 → alF ph mn mx st fb sp sa sl sw = sa) ∧ (sl = 0 → alF ph mn mx st fb sp sa sl sw = fb) := by
  rw [alF_val h]
  have hw : sw = false := by
    cases sw with
    | false => rfl
    | true => have := h.2.2.2.2.2.2.2.2 rfl; omega
  subst hw
  refine ⟨fun e => by simp [h4, e], fun e => by simp [h4, e]⟩
theorem welded_allowed {ph mn mx st fb sp sa sl : Int} (h : stP ph mn mx st fb sp sa sl true) : alF ph mn mx st fb sp sa sl true = mx ∧ sp = 5 := by
  rw [alF_val h]
  exact ⟨rfl, h.2.2.2.2.2.2.2.2 rfl⟩
end Go.Proofs.YtiejmafkbfiekaaDoor
