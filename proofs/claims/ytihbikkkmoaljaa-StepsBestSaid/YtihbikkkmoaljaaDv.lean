/- Ways up, in plain Lean. -/
import Derived.Test.YtihbikkkmoaljaaDp
namespace Go.Proofs.Ytihbikkkmoaljaa
open Go.Sx
/-! Ways up. -/
def upB (cs : List Cd) : Bool := rgA cs.length (fun j => decide ((gCd cs j).2.1 < j))
theorem upB_lt {cs : List Cd} (h : upB cs = true) {c : Int} (h0 : 0 ≤ c) (h1 : c < cs.length) : (gCd cs c).2.1 < c := by
 have := rgA_iff.1 h c.toNat (by omega)
 rw [Int.toNat_of_nonneg h0] at this
 simpa using this
def onW : Nat → List Cd → Int → Int → Bool
 | 0, _, _, _ => false
 | k + 1, cs, o, c => if c ≥ 0 then (c == o || onW k cs o (gCd cs c).2.1) else false
def onP (cs : List Cd) (o c : Int) : Bool := onW (c.toNat + 2) cs o c
theorem onW_eq {cs : List Cd} {o : Int} (hu : upB cs = true) : ∀ (k k' : Nat) (c : Int), c < cs.length → (c + 1).toNat < k → (c + 1).toNat < k' → onW k cs o c = onW k' cs o c
 | 0, _, _, _, h, _ => by omega
 | _ + 1, 0, _, _, _, h => by omega
 | k + 1, k' + 1, c, hc, h, h' => by
  simp only [onW]
  by_cases h0 : c ≥ 0
  ·rw [if_pos h0, if_pos h0]
   have := upB_lt hu h0 hc
   rw [onW_eq hu k k' (gCd cs c).2.1 (by omega) (by omega) (by omega)]
  ·rw [if_neg h0, if_neg h0]
theorem onP_eq {cs : List Cd} {o c : Int} (hu : upB cs = true) (hc : c < cs.length) : onP cs o c = if c ≥ 0 then (c == o || onP cs o (gCd cs c).2.1) else false := by
 unfold onP
 rw [onW]
 by_cases h0 : c ≥ 0
 ·rw [if_pos h0, if_pos h0]
  have := upB_lt hu h0 hc
  rw [onW_eq hu (c.toNat + 1) ((gCd cs c).2.1.toNat + 2) (gCd cs c).2.1 (by omega) (by omega) (by omega)]
 ·rw [if_neg h0, if_neg h0]
/-! What lies below. -/
def atB (cs : List Cd) (gs : List Ch) : Bool := rgA gs.length (fun j => decide ((gCh gs j).2.1 < (cs.length : Int)))
theorem atB_lt {cs : List Cd} {gs : List Ch} (h : atB cs gs = true) {c : Int} (h0 : 0 ≤ c) (h1 : c < gs.length) : (gCh gs c).2.1 < (cs.length : Int) := by
 have := rgA_iff.1 h c.toNat (by omega)
 rw [Int.toNat_of_nonneg h0] at this
 simpa using this
def belN (cs : List Cd) (gs : List Ch) (o : Int) (k : Nat) : List Int := ((List.range k).map (fun j : Nat => (j : Int))).filter (fun j => onP cs o (gCh gs j).2.1)
theorem belN_succ {cs : List Cd} {gs : List Ch} {o : Int} {k : Nat} : belN cs gs o (k + 1) = belN cs gs o k ++ (if onP cs o (gCh gs k).2.1 = true then [(k : Int)] else []) := by
 unfold belN
 rw [List.range_succ, List.map_append, List.filter_append]
 simp [List.filter_cons]
theorem belN_len {cs : List Cd} {gs : List Ch} {o : Int} {k : Nat} : (belN cs gs o k).length ≤ k := by
 unfold belN
 exact Nat.le_trans (List.length_filter_le _ _) (by simp)
theorem siteV_iff {cs : List Cd} {os : List ByteArray} {ks : List Ko} {gs : List Ch} {bs : List Ba} : siteV cs os ks gs bs = true ↔ (1 ≤ cs.length ∧ cs.length ≤ 16 ∧ os.length ≤ 8 ∧ ks.length ≤ 32 ∧ gs.length ≤ 16 ∧ bs.length ≤ 24) ∧ (nmsOf cs os ks gs bs).all nameB = true ∧ once (nmsOf cs os ks gs bs) = true ∧ rgA cs.length (fun j => cdV j (gCd cs j)) = true ∧ ks.all (koV os.length) = true ∧ once (ks.map (·.2.2.2)) = true ∧ gs.all (chV cs.length os.length) = true ∧ bs.all (fun b => inB b.2 0 ((gs.length : Int) - 1)) = true := by
 unfold siteV vpB
 simp only [Bool.and_eq_true, decide_eq_true_eq]
theorem siteV_cd {cs : List Cd} {os : List ByteArray} {ks : List Ko} {gs : List Ch} {bs : List Ba} (h : siteV cs os ks gs bs = true) {c : Int} (h0 : 0 ≤ c) (h1 : c < cs.length) : cdV c (gCd cs c) = true := by
 have := rgA_iff.1 (siteV_iff.1 h).2.2.2.1 c.toNat (by omega)
 rwa [Int.toNat_of_nonneg h0] at this
theorem siteV_ch {cs : List Cd} {os : List ByteArray} {ks : List Ko} {gs : List Ch} {bs : List Ba} (h : siteV cs os ks gs bs = true) {c : Int} (h0 : 0 ≤ c) (h1 : c < gs.length) : chV cs.length os.length (gCh gs c) = true := by
 have := List.all_eq_true.1 (siteV_iff.1 h).2.2.2.2.2.2.1 gs[c.toNat] (List.getElem_mem _)
 rwa [gCh_eq (by omega)]
theorem siteV_up {cs : List Cd} {os : List ByteArray} {ks : List Ko} {gs : List Ch} {bs : List Ba} (h : siteV cs os ks gs bs = true) : upB cs = true :=
 rgA_iff.2 fun j hj => by
  have := siteV_cd h (c := j) (by omega) hj
  unfold cdV at this
  rw [Bool.and_eq_true] at this
  have h1 := this.1
  rw [decide_eq_true_eq]
  split at h1
  ·rename_i h0; simp at h1; omega
  ·have := inB_iff.1 h1; omega
theorem siteV_at {cs : List Cd} {os : List ByteArray} {ks : List Ko} {gs : List Ch} {bs : List Ba} (h : siteV cs os ks gs bs = true) : atB cs gs = true :=
 rgA_iff.2 fun j hj => by
  have := siteV_ch h (c := j) (by omega) hj
  unfold chV at this
  rw [Bool.and_eq_true] at this
  have := inB_iff.1 this.1
  rw [decide_eq_true_eq]
  omega
def belE (cs : List Cd) (os : List ByteArray) (ks : List Ko) (gs : List Ch) (bs : List Ba) (o : Int) : Int := if siteV cs os ks gs bs = true ∧ 0 ≤ o ∧ o < cs.length then 0 else 1
def belL (cs : List Cd) (os : List ByteArray) (ks : List Ko) (gs : List Ch) (bs : List Ba) (o : Int) : List Int := if siteV cs os ks gs bs = true ∧ 0 ≤ o ∧ o < cs.length then belN cs gs o gs.length else []
/-! What a cable carries. -/
def prmN (ga ro : Int) : Nat → Int
 | 0 => 0
 | k + 1 => if ga * (k + 1) * (k + 1) ≤ ro then (k : Int) + 1 else prmN ga ro k
theorem sq_bd {ga m : Int} (h0 : 0 ≤ ga) (h1 : ga ≤ 1000) (m0 : 0 ≤ m) (m1 : m ≤ 1000) : (0 ≤ ga * m ∧ ga * m ≤ 1000000) ∧ 0 ≤ ga * m * m ∧ ga * m * m ≤ 1000000000 := by
 have a1 : ga * m ≤ 1000 * m := Int.mul_le_mul_of_nonneg_right h1 m0
 have a2 := Int.mul_nonneg h0 m0
 have a3 : ga * m * m ≤ 1000000 * m := Int.mul_le_mul_of_nonneg_right (by omega) m0
 exact ⟨⟨a2, by omega⟩, Int.mul_nonneg a2 m0, by omega⟩
theorem sq_mono {ga a b : Int} (h0 : 0 ≤ ga) (a0 : 0 ≤ a) (h : a ≤ b) : ga * a * a ≤ ga * b * b := by
 have h1 : ga * a ≤ ga * b := Int.mul_le_mul_of_nonneg_left h h0
 exact Int.le_trans (Int.mul_le_mul_of_nonneg_right h1 a0) (Int.mul_le_mul_of_nonneg_left h (Int.mul_nonneg h0 (by omega)))
theorem prmN_eq {ga ro r : Int} : ∀ {k : Nat}, 0 ≤ r → r ≤ k → (r = 0 ∨ ga * r * r ≤ ro) → (∀ a : Int, r < a → a ≤ k → ¬ ga * a * a ≤ ro) → prmN ga ro k = r
 | 0, h0, h1, _, _ => by simp only [prmN]; omega
 | k + 1, h0, h1, h2, h3 => by
  simp only [prmN]
  by_cases hr : r = (k : Int) + 1
  ·subst hr
   rw [if_pos (by rcases h2 with h | h; · omega
                  ·exact h)]
  ·rw [if_neg (h3 ((k : Int) + 1) (by omega) (by omega))]
   exact prmN_eq h0 (by omega) h2 (fun a ha hk => h3 a ha (by omega))
def prm (ga ro : Int) : Int := prmN ga ro 1000
def pmE (c : Cbl) : Int := if cbV c = true then 0 else 1
def pmA (c : Cbl) : Int := if cbV c = true then (if cbZ c = true then 1000 else prm c.2.2.1 ((if c.2.2.2.2 < c.2.2.2.1 then c.2.2.2.2 else c.2.2.2.1) * (c.2.1 - c.1))) else 0
theorem cbV_bd {c : Cbl} (h : cbV c = true) (hz : cbZ c = false) : (0 ≤ c.1 ∧ c.1 < c.2.1 ∧ c.2.1 ≤ 200000) ∧ (0 ≤ c.2.2.1 ∧ c.2.2.1 ≤ 1000) ∧ (0 ≤ c.2.2.2.1 ∧ c.2.2.2.1 ≤ 1000) ∧ 1 ≤ c.2.2.2.2 ∧ c.2.2.2.2 ≤ 1000000 := by
 unfold cbV at h
 rw [hz, Bool.false_or] at h
 simp only [Bool.and_eq_true, decide_eq_true_eq, inB_iff] at h
 omega
end Go.Proofs.Ytihbikkkmoaljaa
namespace Go.Proofs.Ytihbikkkmoaljaa
open Go.Sx
/-! Limits. -/
def lsF (f : Int) (l : List Int) : Int := l.foldl (fun a n => if n < a then n else a) f
def limF (c : Cd) : Int := if c.2.2.2.2.1.1 = 0 then lsF c.2.2.1 [c.2.2.2.1, pmA c.2.2.2.2.2] else lsF c.2.2.1 [c.2.2.2.1, pmA c.2.2.2.2.2, c.2.2.2.2.1.1]
theorem pmE_iff {c : Cbl} : (pmE c != 0) = !cbV c := by
 unfold pmE
 cases cbV c <;> rfl
/-! Rows. -/
abbrev tRw : Ty := .pair (.int .i64) (.sl (.int .i64))
abbrev Rw := Int × List Int
def gRw (l : List Rw) (n : Int) : Rw := l.getD n.toNat (0, [])
theorem gRw_eq {l : List Rw} {n : Int} (h : n.toNat < l.length) : gRw l n = l[n.toNat] := gx_eq h
theorem gRw_step {l : List Rw} {i : Int} (h0 : 0 ≤ i) (h : i < l.length) : l.drop i.toNat = gRw l i :: l.drop (i + 1).toNat ∧ l.take (i + 1).toNat = l.take i.toNat ++ [gRw l i] := gx_step h0 h
theorem gi_eq {l : List Int} {n : Int} (h : n.toNat < l.length) : gi l n = l[n.toNat] := gx_eq h
def usA (ph p : Int) : Bool := andK .i64 ph (IntKind.i64.wrap ((1 : Int) * 2 ^ (min p.toNat 64))) != 0
def chz (gs : List Ch) (p : Int) (l : List Int) : List Int := l.filter (fun k => usA (gCh gs k).2.2.1 p)
def chzR (gs : List Ch) (p : Int) (l : List Int) : Prop := 0 ≤ p ∧ l.length ≤ 1000 ∧ ∀ k ∈ l, 0 ≤ k ∧ k < (gs.length : Int)
theorem chz_len {gs : List Ch} {p : Int} {l : List Int} : (chz gs p l).length ≤ l.length := List.length_filter_le _ _
theorem belN_mem {cs : List Cd} {gs : List Ch} {o : Int} {k : Nat} {x : Int} (h : x ∈ belN cs gs o k) : 0 ≤ x ∧ x < (k : Int) := by
 unfold belN at h
 have := (List.mem_filter.1 h).1
 obtain ⟨j, h1, rfl⟩ := List.mem_map.1 this
 have := List.mem_range.1 h1
 omega
def rowP (cs : List Cd) (gs : List Ch) (c p : Int) : List Rw := if (chz gs p (belN cs gs c gs.length)).length > 0 then [(limF (gCd cs c), chz gs p (belN cs gs c gs.length))] else []
def rowC (cs : List Cd) (gs : List Ch) (c : Int) : List Rw := rowP cs gs c 0 ++ rowP cs gs c 1 ++ rowP cs gs c 2
def rowN (cs : List Cd) (gs : List Ch) : Nat → List Rw
 | 0 => []
 | k + 1 => rowN cs gs k ++ rowC cs gs k
theorem rowP_len {cs : List Cd} {gs : List Ch} {c p : Int} : (rowP cs gs c p).length ≤ 1 := by
 unfold rowP
 split <;> simp
theorem rowC_len {cs : List Cd} {gs : List Ch} {c : Int} : (rowC cs gs c).length ≤ 3 := by
 unfold rowC
 have h0 := rowP_len (cs := cs) (gs := gs) (c := c) (p := 0)
 have h1 := rowP_len (cs := cs) (gs := gs) (c := c) (p := 1)
 have h2 := rowP_len (cs := cs) (gs := gs) (c := c) (p := 2)
 simp only [List.length_append]
 omega
theorem rowN_len {cs : List Cd} {gs : List Ch} : ∀ {k : Nat}, (rowN cs gs k).length ≤ 3 * k
 | 0 => by simp [rowN]
 | k + 1 => by
  have := rowN_len (cs := cs) (gs := gs) (k := k)
  have h2 := rowC_len (cs := cs) (gs := gs) (c := k)
  simp only [rowN, List.length_append]
  omega
def rowE (cs : List Cd) (os : List ByteArray) (ks : List Ko) (gs : List Ch) (bs : List Ba) : Int := if siteV cs os ks gs bs = true then 0 else 1
def rowL (cs : List Cd) (os : List ByteArray) (ks : List Ko) (gs : List Ch) (bs : List Ba) : List Rw := if siteV cs os ks gs bs = true then rowN cs gs cs.length else []
end Go.Proofs.Ytihbikkkmoaljaa
