/- Chargers in plain Lean: what the functions of package charger compute. -/
import Derived.Test.YtiejmafkbfiekaaDoorRows
import Derived.Test.YtiejmafkbfiekaaDoorSxM
namespace Go.Proofs.YtiejmafkbfiekaaDoor

def inB (n a b : Int) : Bool := decide (n ≥ a) && decide (n ≤ b)
theorem inB_iff {n a b : Int} : inB n a b = true ↔ a ≤ n ∧ n ≤ b := by simp [inB]
def chB (ph mn mx st fb : Int) : Bool := inB ph 1 7 && (inB mn 1 80 && (inB mx 1 80 && (inB st 1 80 && (decide (mn ≤ mx) && (fb == 0 || inB fb mn mx)))))
theorem chB_iff {ph mn mx st fb : Int} : chB ph mn mx st fb = true ↔ 1 ≤ ph ∧ ph ≤ 7 ∧ 1 ≤ mn ∧ mn ≤ 80 ∧ 1 ≤ mx ∧ mx ≤ 80 ∧ 1 ≤ st ∧ st ≤ 80 ∧ mn ≤ mx ∧ (fb = 0 ∨ (mn ≤ fb ∧ fb ≤ mx)) := by
  simp [chB, inB]; omega
/-- A valid state of a valid charger. -/
def stP (ph mn mx st fb sp sa sl : Int) (sw : Bool) : Prop := chB ph mn mx st fb = true ∧ 0 ≤ sp ∧ sp ≤ 5 ∧ 0 ≤ sl ∧ sl ≤ 1000000 ∧ 0 ≤ sa ∧ sa ≤ mx ∧ (sl = 0 → sa = 0) ∧ (sw = true → sp = 5)
def stB (ph mn mx st fb sp sa sl : Int) (sw : Bool) : Bool := chB ph mn mx st fb && (inB sp 0 5 && (inB sl 0 1000000 && (inB sa 0 mx && ((sl != 0 || sa == 0) && (!sw || sp == 5)))))
theorem stB_iff {ph mn mx st fb sp sa sl : Int} {sw : Bool} : stB ph mn mx st fb sp sa sl sw = true ↔ stP ph mn mx st fb sp sa sl sw := by
  unfold stB stP
  cases sw <;> simp [inB_iff] <;> omega
def evB (mx ek en em : Int) : Bool := if ek = 4 then inB en 0 1 else if ek = 6 then inB en 0 2 else if ek = 7 then inB em 1 1000000 && inB en 0 mx else true
/-- The phase behind an event (-1: it is not possible). -/
def phF (sp : Int) (sw : Bool) (ek en : Int) : Int :=
  if ek = 1 then (if sp = 0 then 1 else -1)
  else if ek = 2 then (if sp = 5 ∧ sw = true then 5 else if sp = 1 ∨ sp = 5 then 0 else -1)
  else if ek = 3 then (if sp = 1 then 2 else -1)
  else if ek = 4 then (if sp = 2 then (if en = 1 then 3 else 5) else -1)
  else if ek = 5 then (if sp = 3 then 4 else -1)
  else if ek = 6 then (if sp = 4 then (if en = 0 then 1 else 5) else -1)
  else if ek = 9 then (if sp = 0 ∨ sw = true then sp else 1)
  else sp
def tk (sl : Int) : Int := if 0 < sl - 1 then sl - 1 else 0
def cL (sl ek em : Int) : Int := if ek = 7 then em else if ek = 8 then tk sl else if ek = 9 then 0 else sl
def cA (sa sl ek en : Int) : Int := if ek = 7 then en else if ek = 8 then (if tk sl = 0 then 0 else sa) else if ek = 9 then 0 else sa
def cW (sw : Bool) (ek en : Int) : Bool := sw || (ek == 6 && en == 1)
def nE (ph mn mx st fb sp sa sl : Int) (sw : Bool) (ek en em : Int) : Int :=
  if stB ph mn mx st fb sp sa sl sw = true then (if inB ek 1 9 = true then (if evB mx ek en em = true then (if phF sp sw ek en < 0 then 6 else 0) else 1) else 9) else 1
def nP (ph mn mx st fb sp sa sl : Int) (sw : Bool) (ek en em : Int) : Int := if nE ph mn mx st fb sp sa sl sw ek en em = 0 then phF sp sw ek en else 0
def nA (ph mn mx st fb sp sa sl : Int) (sw : Bool) (ek en em : Int) : Int := if nE ph mn mx st fb sp sa sl sw ek en em = 0 then cA sa sl ek en else 0
def nL (ph mn mx st fb sp sa sl : Int) (sw : Bool) (ek en em : Int) : Int := if nE ph mn mx st fb sp sa sl sw ek en em = 0 then cL sl ek em else 0
def nW (ph mn mx st fb sp sa sl : Int) (sw : Bool) (ek en em : Int) : Bool := if nE ph mn mx st fb sp sa sl sw ek en em = 0 then cW sw ek en else false
def alF (ph mn mx st fb sp sa sl : Int) (sw : Bool) : Int := if stB ph mn mx st fb sp sa sl sw = true then (if sw = true then mx else if sp ≠ 4 then 0 else if sl ≠ 0 then sa else fb) else 0
/-- The table of the program. -/
def aftT (j : Nat) : Int := [-1, -1, -1, -1, -1, -1, 1, -1, -1, -1, -1, -1, -1, 0, -1, -1, -1, -3, -1, 2, -1, -1, -1, -1, -1, -1, -3, -1, -1, -1, -1, -1, -1, 4, -1, -1, -1, -1, -1, -1, -3, -1, -2, -2, -2, -2, -2, -2, -2, -2, -2, -2, -2, -2, 0, 1, 1, 1, 1, -3].getD j 0
def aftF (ek sp : Int) : Int :=
  if ek = 1 then (if sp = 0 then 1 else -1)
  else if ek = 2 then (if sp = 1 then 0 else if sp = 5 then -3 else -1)
  else if ek = 3 then (if sp = 1 then 2 else -1)
  else if ek = 4 then (if sp = 2 then -3 else -1)
  else if ek = 5 then (if sp = 3 then 4 else -1)
  else if ek = 6 then (if sp = 4 then -3 else -1)
  else if ek = 7 then -2
  else if ek = 8 then -2
  else if sp = 0 then 0 else if sp = 5 then -3 else 1
theorem aft_eq {ek sp : Int} (h1 : 1 ≤ ek) (h2 : ek ≤ 9) (h3 : 0 ≤ sp) (h4 : sp ≤ 5) : aftT (ek.toNat * 6 + (sp.toNat * 1 + 0)) = aftF ek sp := by
  have key : ∀ e : Fin 10, ∀ s : Fin 6, 1 ≤ e.val → aftT (e.val * 6 + (s.val * 1 + 0)) = aftF (e.val : Int) (s.val : Int) := by decide
  have := key ⟨ek.toNat, by omega⟩ ⟨sp.toNat, by omega⟩ (by simp only; omega)
  simp only at this
  rw [this, Int.toNat_of_nonneg (by omega), Int.toNat_of_nonneg h3]
theorem wrapS {x : Int} (h1 : -9223372036854775808 ≤ x) (h2 : x ≤ 9223372036854775807) : IntKind.i64.wrap x = x := by
  simp [IntKind.wrap, IntKind.bits, IntKind.signed]
  omega
def dP (sp : Int) (sw : Bool) (ek en : Int) : Int := if ek = 4 then (if en = 1 then 3 else 5) else if ek = 6 then (if en = 0 then 1 else 5) else if ek = 2 then (if sw = true then sp else 0) else if ek = 9 then (if sw = true then sp else 1) else sp
def dW (sw : Bool) (ek en : Int) : Bool := if ek = 6 then en == 1 else sw
theorem five {ek : Int} (h1 : 1 ≤ ek) (h2 : ek ≤ 9) : ek = 1 ∨ ek = 2 ∨ ek = 3 ∨ ek = 4 ∨ ek = 5 ∨ ek = 6 ∨ ek = 7 ∨ ek = 8 ∨ ek = 9 := by omega
theorem six {sp : Int} (h1 : 0 ≤ sp) (h2 : sp ≤ 5) : sp = 0 ∨ sp = 1 ∨ sp = 2 ∨ sp = 3 ∨ sp = 4 ∨ sp = 5 := by omega
theorem nE_ok {ph mn mx st fb sp sa sl : Int} {sw : Bool} {ek en em : Int} (h : nE ph mn mx st fb sp sa sl sw ek en em = 0) : stP ph mn mx st fb sp sa sl sw ∧ 1 ≤ ek ∧ ek ≤ 9 ∧ evB mx ek en em = true ∧ 0 ≤ phF sp sw ek en := by
  unfold nE at h
  repeat' split at h
  all_goals first | (exfalso; omega) | skip
  rename_i h1 h2 h3 h4
  have h2 := inB_iff.1 h2
  exact ⟨stB_iff.1 h1, h2.1, h2.2, h3, by omega⟩
theorem nE_is {ph mn mx st fb sp sa sl : Int} {sw : Bool} {ek en em : Int} (h1 : stP ph mn mx st fb sp sa sl sw) (h2 : 1 ≤ ek ∧ ek ≤ 9) (h3 : evB mx ek en em = true) (h4 : 0 ≤ phF sp sw ek en) : nE ph mn mx st fb sp sa sl sw ek en em = 0 := by
  unfold nE
  rw [if_pos (stB_iff.2 h1), if_pos (inB_iff.2 h2), if_pos h3, if_neg (by omega)]
theorem evB_use {mx ek en em : Int} (h : evB mx ek en em = true) : (ek = 4 → 0 ≤ en ∧ en ≤ 1) ∧ (ek = 6 → 0 ≤ en ∧ en ≤ 2) ∧ (ek = 7 → 1 ≤ em ∧ em ≤ 1000000 ∧ 0 ≤ en ∧ en ≤ mx) := by
  unfold evB at h
  refine ⟨fun e => ?_, fun e => ?_, fun e => ?_⟩
  · subst e; simpa [inB_iff] using h
  · subst e; simpa [inB_iff] using h
  · subst e; simp [inB_iff] at h; omega
theorem evB_of {mx ek en em : Int} (h : (ek = 4 → 0 ≤ en ∧ en ≤ 1) ∧ (ek = 6 → 0 ≤ en ∧ en ≤ 2) ∧ (ek = 7 → 1 ≤ em ∧ em ≤ 1000000 ∧ 0 ≤ en ∧ en ≤ mx)) : evB mx ek en em = true := by
  unfold evB
  obtain ⟨h1, h2, h3⟩ := h
  split
  · rename_i e; rw [inB_iff]; exact h1 e
  · split
    · rename_i e; rw [inB_iff]; exact h2 e
    · split
      · rename_i e; have := h3 e; simp [inB_iff]; omega
      · rfl
/-- A step leads to a valid state. -/
theorem st_next {ph mn mx st fb sp sa sl : Int} {sw : Bool} {ek en em : Int} (h : nE ph mn mx st fb sp sa sl sw ek en em = 0) : stP ph mn mx st fb (phF sp sw ek en) (cA sa sl ek en) (cL sl ek em) (cW sw ek en) := by
  obtain ⟨h1, h2, h3, h4, h5⟩ := nE_ok h
  have he := evB_use h4
  unfold stP at h1 ⊢
  obtain ⟨g1, g2, g3, g4, g5, g6, g7, g8, g9⟩ := h1
  have gc := chB_iff.1 g1
  have hp : phF sp sw ek en ≤ 5 := by
    unfold phF
    repeat' split
    all_goals omega
  have ht : 0 ≤ tk sl ∧ tk sl ≤ sl := by unfold tk; split <;> omega
  have hL : 0 ≤ cL sl ek em ∧ cL sl ek em ≤ 1000000 := by
    unfold cL
    repeat' split
    all_goals omega
  have hA : 0 ≤ cA sa sl ek en ∧ cA sa sl ek en ≤ mx := by
    unfold cA
    repeat' split
    all_goals omega
  refine ⟨g1, h5, hp, hL.1, hL.2, hA.1, hA.2, fun hl => ?_, fun hw => ?_⟩
  · unfold cL at hl
    unfold cA
    repeat' split
    all_goals repeat' split at hl
    all_goals omega
  · unfold cW at hw
    simp only [Bool.or_eq_true, Bool.and_eq_true, beq_iff_eq] at hw
    rcases hw with hw | ⟨e1, e2⟩
    · have hs := g9 hw
      subst hs
      unfold phF at h5 ⊢
      simp only [hw] at h5 ⊢
      rcases five h2 h3 with rfl | rfl | rfl | rfl | rfl | rfl | rfl | rfl | rfl <;> simp at h5 ⊢
    · subst e1 e2
      unfold phF at h5 ⊢
      simp at h5 ⊢
      split at h5
      · rename_i h4; simp [h4]
      · omega
/-- One event: those that are refused change nothing. -/
abbrev Sta := Int × Int × Int × Bool
def stepS (ph mn mx st fb : Int) (s : Sta) (e : Int × Int × Int) : Sta :=
  if nE ph mn mx st fb s.1 s.2.1 s.2.2.1 s.2.2.2 e.1 e.2.1 e.2.2 = 0 then (phF s.1 s.2.2.2 e.1 e.2.1, cA s.2.1 s.2.2.1 e.1 e.2.1, cL s.2.2.1 e.1 e.2.2, cW s.2.2.2 e.1 e.2.1) else s
def playS (ph mn mx st fb : Int) (s : Sta) (l : List (Int × Int × Int)) : Sta := l.foldl (stepS ph mn mx st fb) s
theorem tick_max (sl : Int) : tk sl = max 0 (sl - 1) := by unfold tk; split <;> omega
theorem rch0 {ph mn mx st fb : Int} (h : (decide (ph < 1) || (decide (ph > 7) || (decide (mn < 1) || (decide (mx > 80) || (decide (mn > mx) || (decide (st < 1) || decide (st > 80))))))) = true) : false = chB ph mn mx st fb := by
  cases hc : chB ph mn mx st fb
  · rfl
  · rw [chB_iff] at hc; simp at h; omega
theorem rch1 {ph mn mx st fb : Int} (h : (decide (ph < 1) || (decide (ph > 7) || (decide (mn < 1) || (decide (mx > 80) || (decide (mn > mx) || (decide (st < 1) || decide (st > 80))))))) = false) : (fb == 0 || (decide (fb ≥ mn) && decide (fb ≤ mx))) = chB ph mn mx st fb := by
  simp at h
  cases hc : chB ph mn mx st fb
  · cases hf : (fb == 0 || (decide (fb ≥ mn) && decide (fb ≤ mx)))
    · rfl
    · have : chB ph mn mx st fb = true := chB_iff.2 (by simp at hf; omega)
      rw [this] at hc; cases hc
  · rw [chB_iff] at hc; simp; omega
end Go.Proofs.YtiejmafkbfiekaaDoor
