/- The reference in plain Lean. -/
import Derived.Test.YtihbikkkmoaljaaDw
namespace Go.Proofs.Ytihbikkkmoaljaa
open Go.Sx
/-! Places of texts. -/
def inG (n : Int) : List ByteArray → ByteArray → Int
 | [], _ => -1
 | x :: xs, w => if (x == w) = true then n else inG (n + 1) xs w
def inI (l : List ByteArray) (w : ByteArray) : Int := inG 0 l w
theorem inG_iff {w : ByteArray} : ∀ {l : List ByteArray} {n : Int}, 0 ≤ n → (0 ≤ inG n l w ↔ isIn l w = true)
 | [], n, _ => by simp [inG, isIn]
 | x :: xs, n, h => by
  rw [inG]
  have e : isIn (x :: xs) w = (w == x || isIn xs w) := rfl
  rw [e]
  split
  ·rename_i hx
   have : x = w := by simpa using hx
   subst this
   simp [h]
  ·rename_i hx
   have hx : ¬ x = w := by simpa using hx
   have : (w == x) = false := by simpa using fun e => hx e.symm
   rw [this, Bool.false_or]
   exact inG_iff (by omega)
theorem inI_iff {l : List ByteArray} {w : ByteArray} : decide (inI l w ≥ 0) = isIn l w := by
 rw [Bool.eq_iff_iff, decide_eq_true_eq]
 exact inG_iff (Int.le_refl _)
theorem isIn_contains {l : List ByteArray} {w : ByteArray} : isIn l w = l.contains w := by
 unfold isIn
 rw [List.contains_eq_any_beq]
def goodC (b j : Int) : Bool := chA b || (!(j == 0) && ((decide (b ≥ 48) && decide (b ≤ 57)) || b == 95))
theorem goodC_0 {b : Int} : goodC b 0 = chA b := by simp [goodC]
theorem goodC_pos {b j : Int} (h : j ≠ 0) : goodC b j = chB b := by
 unfold goodC chB
 rw [show (j == 0) = false by simpa using h]
 rfl
theorem nameB_of {w : ByteArray} : nameB w = (rgA w.size (fun j => goodC (byI w j) j) && (decide ((w.size : Int) ≥ 1) && (decide ((w.size : Int) ≤ 12) && !keyB w))) := by
 unfold nameB gwB
 by_cases h1 : 1 ≤ w.size
 ·by_cases h2 : w.size ≤ 12
  ·rw [decide_eq_true (show 1 ≤ w.size ∧ w.size ≤ 12 from ⟨h1, h2⟩), decide_eq_true (show (w.size : Int) ≥ 1 by omega), decide_eq_true (show (w.size : Int) ≤ 12 by omega), Bool.true_and, Bool.true_and, Bool.true_and]
   congr 1
   rw [Bool.eq_iff_iff, Bool.and_eq_true, List.all_eq_true, rgA_iff]
   constructor
   ·rintro ⟨a, b⟩ j hj
    by_cases e : j = 0
    ·subst e; exact (goodC_0 (b := byI w 0)).trans a
    ·have := b j (List.mem_range.2 (by omega))
     rw [goodC_pos (by omega)]
     simpa [e] using this
   ·intro h
    refine ⟨(goodC_0 (b := byI w 0)).symm.trans (h 0 (by omega)), fun j hj => ?_⟩
    by_cases e : j = 0
    ·simp [e]
    ·have := h j (by have := List.mem_range.1 hj; omega)
     rw [goodC_pos (by omega)] at this
     simp [this]
  ·rw [decide_eq_false (show ¬ (1 ≤ w.size ∧ w.size ≤ 12) by omega), decide_eq_false (show ¬ (w.size : Int) ≤ 12 by omega)]
   simp
 ·rw [decide_eq_false (show ¬ (1 ≤ w.size ∧ w.size ≤ 12) by omega), decide_eq_false (show ¬ (w.size : Int) ≥ 1 by omega)]
  simp
def nmR (l : List ByteArray) : Prop := ∀ w ∈ l, (w.size : Int) ≤ 9223372036854775807
def nmB (l : List ByteArray) : Bool := l.all nameB && once l
theorem siteV_of {cs : List Cd} {os : List ByteArray} {ks : List Ko} {gs : List Ch} {bs : List Ba} (hd : 1 ≤ cs.length ∧ cs.length ≤ 16 ∧ os.length ≤ 8 ∧ ks.length ≤ 32 ∧ gs.length ≤ 16 ∧ bs.length ≤ 24) : siteV cs os ks gs bs = (nmB (nmsOf cs os ks gs bs) && vpB cs os ks gs bs) := by
 unfold siteV nmB
 rw [decide_eq_true hd, Bool.true_and, Bool.and_assoc]
theorem inB_no {n a b : Int} : inB n a b = false ↔ ¬ (a ≤ n ∧ n ≤ b) := by
 rw [← inB_iff]
 simp
theorem take_card {ks : List Ko} {i c : Int} (h0 : 0 ≤ i) (h : i ≤ (ks.length : Int)) : ((ks.take i.toNat).map (·.2.2.2)).contains c = true ↔ ∃ j : Nat, (j : Int) < i ∧ (gKo ks j).2.2.2 = c := by
 rw [List.contains_iff_mem, List.mem_map]
 constructor
 ·rintro ⟨x, hx, rfl⟩
  obtain ⟨j, hj, rfl⟩ := List.mem_iff_getElem.1 hx
  rw [List.length_take] at hj
  exact ⟨j, by omega, by rw [gKo_eq (by simp only [Int.toNat_natCast]; omega)]; simp⟩
 ·rintro ⟨j, hj, rfl⟩
  refine ⟨gKo ks j, ?_, rfl⟩
  rw [gKo_eq (by simp only [Int.toNat_natCast]; omega), List.mem_iff_getElem]
  exact ⟨j, by rw [List.length_take]; omega, by simp⟩
def usR (ph p : Int) : Bool := if p = 0 then ph.tmod 2 == 1 else if p = 1 then (IntKind.i64.wrap (ph.tdiv 2)).tmod 2 == 1 else (IntKind.i64.wrap (ph.tdiv 4)).tmod 2 == 1
theorem usR_eq {ph p : Int} (h1 : 1 ≤ ph ∧ ph ≤ 7) (h2 : p = 0 ∨ p = 1 ∨ p = 2) : usR ph p = usA ph p := by
 have : ph = 1 ∨ ph = 2 ∨ ph = 3 ∨ ph = 4 ∨ ph = 5 ∨ ph = 6 ∨ ph = 7 := by omega
 rcases this with rfl | rfl | rfl | rfl | rfl | rfl | rfl <;> rcases h2 with rfl | rfl | rfl <;> decide
/-! Rows. -/
def memN (cs : List Cd) (gs : List Ch) (o p : Int) (k : Nat) : List Int := ((List.range k).map (fun j : Nat => (j : Int))).filter (fun j => onP cs o (gCh gs j).2.1 && usR (gCh gs j).2.2.1 p)
theorem memN_succ {cs : List Cd} {gs : List Ch} {o p : Int} {k : Nat} : memN cs gs o p (k + 1) = memN cs gs o p k ++ (if (onP cs o (gCh gs k).2.1 && usR (gCh gs k).2.2.1 p) = true then [(k : Int)] else []) := by
 unfold memN
 rw [List.range_succ, List.map_append, List.filter_append]
 simp only [List.map_cons, List.map_nil, List.filter_cons, List.filter_nil]
theorem memN_len {cs : List Cd} {gs : List Ch} {o p : Int} {k : Nat} : (memN cs gs o p k).length ≤ k := by
 unfold memN
 exact Nat.le_trans (List.length_filter_le _ _) (by simp)
theorem memN_eq {cs : List Cd} {os : List ByteArray} {ks : List Ko} {gs : List Ch} {bs : List Ba} (hv : siteV cs os ks gs bs = true) {o p : Int} (hp : p = 0 ∨ p = 1 ∨ p = 2) : memN cs gs o p gs.length = chz gs p (belN cs gs o gs.length) := by
 unfold memN chz belN
 rw [List.filter_filter]
 refine List.filter_congr fun j hj => ?_
 obtain ⟨k, hk, rfl⟩ := List.mem_map.1 hj
 have hk := List.mem_range.1 hk
 have := siteV_ch hv (c := (k : Int)) (by omega) (by omega)
 unfold chV chW at this
 simp only [Bool.and_eq_true, inB_iff] at this
 rw [usR_eq (by omega) hp, Bool.and_comm]
def rowT (cs : List Cd) (gs : List Ch) (c : Int) : Nat → List Rw
 | 0 => []
 | n + 1 => rowP cs gs c (3 - ((n : Int) + 1)) ++ rowT cs gs c n
theorem rowT_3 {cs : List Cd} {gs : List Ch} {c : Int} : rowT cs gs c 3 = rowC cs gs c := by
 simp only [rowT, rowC, List.append_nil, List.append_assoc]
 rfl
end Go.Proofs.Ytihbikkkmoaljaa
