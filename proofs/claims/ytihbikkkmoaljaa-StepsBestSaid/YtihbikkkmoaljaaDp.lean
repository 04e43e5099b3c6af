/- Steps in plain Lean: what the functions compute. -/
import Derived.Test.YtihbikkkmoaljaaRows
import Derived.Test.YtihbikkkmoaljaaSxR
namespace Go.Proofs.Ytihbikkkmoaljaa
open Go.Sx
abbrev tCd : Ty := .pair .str (.pair (.int .i64) (.pair (.int .i64) (.pair (.int .i64) (.pair (.pair (.int .i64) (.int .i64)) (.pair (.int .i64) (.pair (.int .i64) (.pair (.int .i64) (.pair (.int .i64) (.int .i64)))))))))
abbrev tKo : Ty := .pair .str (.pair (.int .i64) (.pair (.int .i64) (.int .i64)))
abbrev tCh : Ty := .pair .str (.pair (.int .i64) (.pair (.int .i64) (.pair (.int .i64) (.pair (.int .i64) (.pair (.int .i64) (.pair (.int .i64) (.int .i64)))))))
abbrev tBa : Ty := .pair .str (.int .i64)
abbrev Cbl := Int × Int × Int × Int × Int
abbrev Cd := ByteArray × Int × Int × Int × (Int × Int) × Cbl
abbrev Ko := ByteArray × Int × Int × Int
abbrev Ch := ByteArray × Int × Int × Int × Int × Int × Int × Int
abbrev Ba := ByteArray × Int
theorem wrapS {x : Int} (h1 : -9223372036854775808 ≤ x) (h2 : x ≤ 9223372036854775807) : IntKind.i64.wrap x = x := by
 simp [IntKind.wrap, IntKind.bits, IntKind.signed]
 omega
def inB (n a b : Int) : Bool := decide (n ≥ a) && decide (n ≤ b)
theorem inB_iff {n a b : Int} : inB n a b = true ↔ a ≤ n ∧ n ≤ b := by simp [inB]
theorem gx_eq {α : Type} {l : List α} {d : α} {n : Int} (h : n.toNat < l.length) : l.getD n.toNat d = l[n.toNat] := by simp [List.getD, List.getElem?_eq_getElem h]
theorem gx_step {α : Type} {l : List α} {d : α} {i : Int} (h0 : 0 ≤ i) (h : i < l.length) : l.drop i.toNat = l.getD i.toNat d :: l.drop (i + 1).toNat ∧ l.take (i + 1).toNat = l.take i.toNat ++ [l.getD i.toNat d] := by
 have hlt : i.toNat < l.length := by omega
 rw [gx_eq hlt, show (i + 1).toNat = i.toNat + 1 by omega, List.take_add_one, List.getElem?_eq_getElem hlt, List.drop_eq_getElem_cons hlt]
 exact ⟨rfl, rfl⟩
def emp : ByteArray := ByteArray.mk #[]
def gCd (l : List Cd) (n : Int) : Cd := l.getD n.toNat (emp, 0, 0, 0, (0, 0), 0, 0, 0, 0, 0)
def gCh (l : List Ch) (n : Int) : Ch := l.getD n.toNat (emp, 0, 0, 0, 0, 0, 0, 0)
def gKo (l : List Ko) (n : Int) : Ko := l.getD n.toNat (emp, 0, 0, 0)
def gBa (l : List Ba) (n : Int) : Ba := l.getD n.toNat (emp, 0)
def gS (l : List ByteArray) (n : Int) : ByteArray := l.getD n.toNat emp
def gB (l : List Bool) (n : Int) : Bool := l.getD n.toNat false
theorem gi_step {l : List Int} {i : Int} (h0 : 0 ≤ i) (h : i < l.length) : l.drop i.toNat = gi l i :: l.drop (i + 1).toNat ∧ l.take (i + 1).toNat = l.take i.toNat ++ [gi l i] := by
 have hlt : i.toNat < l.length := by omega
 rw [gi_eq hlt, show (i + 1).toNat = i.toNat + 1 by omega, List.take_add_one, List.getElem?_eq_getElem hlt, List.drop_eq_getElem_cons hlt]
 exact ⟨rfl, rfl⟩
theorem gCd_eq {l : List Cd} {n : Int} (h : n.toNat < l.length) : gCd l n = l[n.toNat] := gx_eq h
theorem gCh_eq {l : List Ch} {n : Int} (h : n.toNat < l.length) : gCh l n = l[n.toNat] := gx_eq h
theorem gKo_eq {l : List Ko} {n : Int} (h : n.toNat < l.length) : gKo l n = l[n.toNat] := gx_eq h
theorem gBa_eq {l : List Ba} {n : Int} (h : n.toNat < l.length) : gBa l n = l[n.toNat] := gx_eq h
theorem gS_eq {l : List ByteArray} {n : Int} (h : n.toNat < l.length) : gS l n = l[n.toNat] := gx_eq h
theorem gCd_step {l : List Cd} {i : Int} (h0 : 0 ≤ i) (h : i < l.length) : l.drop i.toNat = gCd l i :: l.drop (i + 1).toNat ∧ l.take (i + 1).toNat = l.take i.toNat ++ [gCd l i] := gx_step h0 h
theorem gCh_step {l : List Ch} {i : Int} (h0 : 0 ≤ i) (h : i < l.length) : l.drop i.toNat = gCh l i :: l.drop (i + 1).toNat ∧ l.take (i + 1).toNat = l.take i.toNat ++ [gCh l i] := gx_step h0 h
theorem gKo_step {l : List Ko} {i : Int} (h0 : 0 ≤ i) (h : i < l.length) : l.drop i.toNat = gKo l i :: l.drop (i + 1).toNat ∧ l.take (i + 1).toNat = l.take i.toNat ++ [gKo l i] := gx_step h0 h
theorem gBa_step {l : List Ba} {i : Int} (h0 : 0 ≤ i) (h : i < l.length) : l.drop i.toNat = gBa l i :: l.drop (i + 1).toNat ∧ l.take (i + 1).toNat = l.take i.toNat ++ [gBa l i] := gx_step h0 h
theorem gS_step {l : List ByteArray} {i : Int} (h0 : 0 ≤ i) (h : i < l.length) : l.drop i.toNat = gS l i :: l.drop (i + 1).toNat ∧ l.take (i + 1).toNat = l.take i.toNat ++ [gS l i] := gx_step h0 h
/-! Levels. -/
def hasL (mi ma st : Int) : Bool := decide (1 ≤ mi) && (decide (mi ≤ ma) && (decide (ma ≤ 80) && (decide (1 ≤ st) && decide (st ≤ 80))))
theorem hasL_iff {mi ma st : Int} : hasL mi ma st = true ↔ 1 ≤ mi ∧ mi ≤ ma ∧ ma ≤ 80 ∧ 1 ≤ st ∧ st ≤ 80 := by simp [hasL]
def lvs (mi ma st : Int) : Int := if hasL mi ma st then (ma - mi) / st + 2 else 0
def amL (mi st k : Int) : Int := if k = 0 then 0 else mi + (k - 1) * st
def amE (mi ma st k : Int) : Int := if k < 0 ∨ lvs mi ma st ≤ k then 1 else 0
def amA (mi ma st k : Int) : Int := if k < 0 ∨ lvs mi ma st ≤ k then 0 else amL mi st k
def lev (mi ma st a : Int) : Int := if hasL mi ma st = false ∨ a < 0 then -1 else if a < mi then 0 else min (lvs mi ma st - 1) ((a - mi) / st + 1)
theorem div_bd {x st : Int} (h0 : 0 ≤ x) (h1 : 1 ≤ st) : 0 ≤ x / st ∧ x / st ≤ x := ⟨Int.ediv_nonneg h0 (by omega), Int.ediv_le_self _ h0⟩
theorem lvs_bd {mi ma st : Int} : 0 ≤ lvs mi ma st ∧ lvs mi ma st ≤ 81 := by
 unfold lvs
 split
 ·rename_i h
  have := hasL_iff.1 h
  have := div_bd (x := ma - mi) (st := st) (by omega) (by omega)
  omega
 ·omega
theorem lvs_pos {mi ma st : Int} (h : hasL mi ma st = true) : 2 ≤ lvs mi ma st := by
 unfold lvs
 rw [if_pos h]
 have := hasL_iff.1 h
 have := div_bd (x := ma - mi) (st := st) (by omega) (by omega)
 omega
theorem lvs_zero {mi ma st : Int} (h : hasL mi ma st = false) : lvs mi ma st = 0 := by simp [lvs, h]
theorem has_of {mi ma st k : Int} (h0 : 0 ≤ k) (h : k < lvs mi ma st) : hasL mi ma st = true := by
 cases e : hasL mi ma st with
 | true => rfl
 | false => rw [lvs_zero e] at h; omega
theorem mul_bd {a b : Int} (a0 : 0 ≤ a) (a1 : a ≤ 1000) (b0 : 0 ≤ b) (b1 : b ≤ 80) : 0 ≤ a * b ∧ a * b ≤ 80000 :=
 ⟨Int.mul_nonneg a0 b0, Int.le_trans (Int.mul_le_mul_of_nonneg_left b1 a0) (by omega)⟩
/-! Names. -/
theorem tl_loop (bs : ByteArray) : ∀ (n i : Nat) (r : List UInt8), bs.size - i = n → ByteArray.toList.loop bs i r = r.reverse ++ bs.data.toList.drop i
 | 0, i, r, h => by
  rw [ByteArray.toList.loop, if_neg (by omega), List.drop_eq_nil_of_le (by simp only [Array.length_toList]; show bs.size ≤ i; omega), List.append_nil]
 | n + 1, i, r, h => by
  have hi : i < bs.data.toList.length := by simp only [Array.length_toList]; show i < bs.size; omega
  rw [ByteArray.toList.loop, if_pos (by omega), tl_loop bs n (i + 1) _ (by omega), List.reverse_cons, List.append_assoc, List.drop_eq_getElem_cons hi]
  have : bs.get! i = bs.data.toList[i] := by
   have hi' : i < bs.data.size := by simpa using hi
   show bs.data[i]! = _
   rw [getElem!_pos bs.data i hi', Array.getElem_toList]
  rw [this]
  rfl
theorem tl_data (bs : ByteArray) : bs.toList = bs.data.toList := by
 rw [ByteArray.toList, tl_loop bs _ 0 [] rfl]
 rfl
theorem tl_inj {a b : ByteArray} (h : a.toList = b.toList) : a = b := by
 rw [tl_data, tl_data] at h
 cases a; cases b; simp at h; rw [h]
theorem ba_beq {a b : ByteArray} : (a == b) = true ↔ a = b := by
 show (a.data == b.data) = true ↔ _
 rw [beq_iff_eq]
 exact ⟨fun h => by cases a; cases b; simp at h; rw [h], fun h => by rw [h]⟩
instance : LawfulBEq ByteArray where
 eq_of_beq h := ba_beq.1 h
 rfl := ba_beq.2 rfl
theorem tl_beq (a b : ByteArray) : (a.toList == b.toList) = (a == b) := by
 rw [Bool.eq_iff_iff, beq_iff_eq, ba_beq]
 exact ⟨tl_inj, fun h => by rw [h]⟩
def kinds : List ByteArray := [(ByteArray.mk #[102, 101, 101, 100, 101, 114]), (ByteArray.mk #[99, 97, 98, 108, 101]), (ByteArray.mk #[111, 119, 110, 101, 114]), (ByteArray.mk #[99, 111, 110, 116, 114, 97, 99, 116]), (ByteArray.mk #[99, 104, 97, 114, 103, 101, 114]), (ByteArray.mk #[98, 97, 121]), (ByteArray.mk #[116, 97, 114, 105, 102, 102])]
def attrs : List ByteArray := [(ByteArray.mk #[108, 105, 109, 105, 116]), (ByteArray.mk #[110, 101, 117, 116, 114, 97, 108]), (ByteArray.mk #[102, 117, 115, 101]), (ByteArray.mk #[116, 104, 101, 114, 109, 97, 108]), (ByteArray.mk #[102, 114, 111, 109]), (ByteArray.mk #[97, 116]), (ByteArray.mk #[112, 104, 97, 115, 101, 115]), (ByteArray.mk #[97, 109, 112, 115]), (ByteArray.mk #[102, 97, 108, 108, 98, 97, 99, 107]), (ByteArray.mk #[111, 119, 110, 101, 114]), (ByteArray.mk #[99, 97, 114, 100]), (ByteArray.mk #[114, 97, 110, 107]), (ByteArray.mk #[99, 104, 97, 114, 103, 101, 114])]
def articles : List ByteArray := [(ByteArray.mk #[115, 116, 97, 114, 116]), (ByteArray.mk #[101, 110, 101, 114, 103, 121]), (ByteArray.mk #[116, 105, 109, 101]), (ByteArray.mk #[105, 100, 108, 101]), (ByteArray.mk #[99, 97, 112]), (ByteArray.mk #[116, 97, 120])]
def words : List ByteArray := [(ByteArray.mk #[111, 110]), (ByteArray.mk #[119, 111, 114, 107]), (ByteArray.mk #[115, 97, 116, 117, 114, 100, 97, 121]), (ByteArray.mk #[115, 117, 110, 100, 97, 121]), (ByteArray.mk #[98, 101, 116, 119, 101, 101, 110]), (ByteArray.mk #[112, 101, 114]), (ByteArray.mk #[102, 114, 101, 101])]
def isIn (l : List ByteArray) (w : ByteArray) : Bool := l.any (w == ·)
def kiOf : Int → List ByteArray → ByteArray → Int
 | _, [], _ => 0
 | n, x :: l, w => if w == x then n else kiOf (n + 1) l w
theorem kiOf_iff : ∀ (n : Int) (l : List ByteArray) (w : ByteArray), 0 < n → (kiOf n l w != 0) = isIn l w
 | _, [], _, _ => rfl
 | n, x :: l, w, h => by
  simp only [kiOf, isIn, List.any_cons]
  split
  ·rename_i c; simp [c]; omega
  ·rename_i c
   have := kiOf_iff (n + 1) l w (by omega)
   simp only [isIn] at this
   rw [this]
   simp [c]
def keyB (w : ByteArray) : Bool := isIn kinds w || (isIn attrs w || (isIn articles w || isIn words w))
def chA (b : Int) : Bool := decide (b ≥ 97) && decide (b ≤ 122)
def chB (b : Int) : Bool := chA b || ((decide (b ≥ 48) && decide (b ≤ 57)) || b == 95)
def gwB (w : ByteArray) : Bool := decide (1 ≤ w.size ∧ w.size ≤ 12) && (chA (byI w 0) && (List.range w.size).all fun i => i == 0 || chB (byI w i))
def nameB (w : ByteArray) : Bool := gwB w && !keyB w
/-! Sites. -/
theorem andI {p q : Prop} (h : p) (k : p → q) : p ∧ q := ⟨h, k h⟩
def rgA (n : Nat) (f : Int → Bool) : Bool := (List.range n).all fun j => f (j : Int)
theorem rgA_iff {n : Nat} {f : Int → Bool} : rgA n f = true ↔ ∀ j : Nat, (j : Int) < (n : Int) → f j = true := by
 unfold rgA
 rw [List.all_eq_true]
 exact ⟨fun h j hj => h j (List.mem_range.2 (by omega)), fun h j hj => h j (by have := List.mem_range.1 hj; omega)⟩
theorem rgA_no {n : Nat} {f : Int → Bool} (j : Nat) (h : (j : Int) < (n : Int)) (hf : f j = false) : rgA n f = false := by
 rw [Bool.eq_false_iff]
 intro hx
 rw [rgA_iff.1 hx j h] at hf
 cases hf
def cbZ (c : Cbl) : Bool := (c.1 == 0) && ((c.2.1 == 0) && ((c.2.2.1 == 0) && ((c.2.2.2.1 == 0) && (c.2.2.2.2 == 0))))
def cbV (c : Cbl) : Bool := cbZ c || (decide (0 ≤ c.1) && (decide (c.1 < c.2.1) && (decide (c.2.1 ≤ 200000) && (inB c.2.2.1 0 1000 && (inB c.2.2.2.1 0 1000 && inB c.2.2.2.2 1 1000000)))))
def cdV (i : Int) (c : Cd) : Bool := (if i = 0 then c.2.1 == -1 else inB c.2.1 0 (i - 1)) && (inB c.2.2.1 1 1000 && (inB c.2.2.2.1 1 1000 && (((c.2.2.2.2.1.1 == 0) && (c.2.2.2.2.1.2 == 0) || (inB c.2.2.2.2.1.1 1 1000 && inB c.2.2.2.2.1.2 0 1000000)) && cbV c.2.2.2.2.2)))
def chW (c : Ch) : Bool := inB c.2.2.1 1 7 && (inB c.2.2.2.1 1 80 && (inB c.2.2.2.2.1 c.2.2.2.1 80 && (inB c.2.2.2.2.2.1 1 80 && (c.2.2.2.2.2.2.1 == 0 || inB c.2.2.2.2.2.2.1 c.2.2.2.1 c.2.2.2.2.1))))
def chV (nc no : Int) (c : Ch) : Bool := inB c.2.1 0 (nc - 1) && (inB c.2.2.2.2.2.2.2 0 (no - 1) && chW c)
def koV (no : Int) (c : Ko) : Bool := inB c.2.1 0 (no - 1) && (inB c.2.2.1 1 9 && inB c.2.2.2 1 1000000)
def once {α : Type} [BEq α] (l : List α) : Bool := (List.range l.length).all fun j => match l[j]? with
 | some x => !((l.take j).contains x)
 | none => true
theorem once_iff {α : Type} [BEq α] [LawfulBEq α] {l : List α} : once l = true ↔ ∀ (j : Nat) (h : j < l.length), ¬ l[j] ∈ l.take j := by
 unfold once
 rw [List.all_eq_true]
 refine ⟨fun h j hj hm => ?_, fun h j hj => ?_⟩
 ·have := h j (List.mem_range.2 hj)
  rw [List.getElem?_eq_getElem hj] at this
  simp only [Bool.not_eq_true'] at this
  rw [List.contains_iff_mem.2 hm] at this
  cases this
 ·have hj := List.mem_range.1 hj
  rw [List.getElem?_eq_getElem hj]
  simp only [Bool.not_eq_true']
  rw [Bool.eq_false_iff]
  exact fun hc => h j hj (List.contains_iff_mem.1 hc)
def vpB (cs : List Cd) (os : List ByteArray) (ks : List Ko) (gs : List Ch) (bs : List Ba) : Bool :=
 rgA cs.length (fun j => cdV j (gCd cs j)) && (ks.all (koV os.length) && (once (ks.map (·.2.2.2)) && (gs.all (chV cs.length os.length) && bs.all (fun b => inB b.2 0 ((gs.length : Int) - 1)))))
def nmsOf (cs : List Cd) (os : List ByteArray) (ks : List Ko) (gs : List Ch) (bs : List Ba) : List ByteArray := cs.map (·.1) ++ os ++ ks.map (·.1) ++ gs.map (·.1) ++ bs.map (·.1)
def siteV (cs : List Cd) (os : List ByteArray) (ks : List Ko) (gs : List Ch) (bs : List Ba) : Bool :=
 decide (1 ≤ cs.length ∧ cs.length ≤ 16 ∧ os.length ≤ 8 ∧ ks.length ≤ 32 ∧ gs.length ≤ 16 ∧ bs.length ≤ 24) && ((nmsOf cs os ks gs bs).all nameB && (once (nmsOf cs os ks gs bs) && vpB cs os ks gs bs))
theorem cdV_of {nm : ByteArray} {i up li ne ra he am mo ga lo de : Int} (hi : 0 ≤ i) {K : Bool → Prop} (h : K (cdV i (nm, up, li, ne, (ra, he), am, mo, ga, lo, de))) :
  ((if i == 0 then (up != (-1)) || ((decide (i > 0)) && ((decide (up < 0)) || (decide (up ≥ i)))) else (decide (i > 0)) && ((decide (up < 0)) || (decide (up ≥ i)))) = true → K false) ∧
  ((if i == 0 then (up != (-1)) || ((decide (i > 0)) && ((decide (up < 0)) || (decide (up ≥ i)))) else (decide (i > 0)) && ((decide (up < 0)) || (decide (up ≥ i)))) = false →
   (((!(inB li (1 : Int) (1000 : Int))) || (!(inB ne (1 : Int) (1000 : Int)))) = true → K false) ∧
   (((!(inB li (1 : Int) (1000 : Int))) || (!(inB ne (1 : Int) (1000 : Int)))) = false →
    (((!((ra == 0) && (he == 0))) && (!(inB ra (1 : Int) (1000 : Int)) || (!(inB he (0 : Int) (1000000 : Int))))) = true → K false) ∧
    (((!((ra == 0) && (he == 0))) && (!(inB ra (1 : Int) (1000 : Int)) || (!(inB he (0 : Int) (1000000 : Int))))) = false →
     (((am == 0) && ((mo == 0) && ((ga == 0) && ((lo == 0) && (de == 0))))) = true → K true) ∧
     (((am == 0) && ((mo == 0) && ((ga == 0) && ((lo == 0) && (de == 0))))) = false → K ((inB am (0 : Int) (200000 : Int)) && ((inB mo (0 : Int) (200000 : Int)) && ((inB ga (0 : Int) (1000 : Int)) && ((inB lo (0 : Int) (1000 : Int)) && ((inB de (1 : Int) (1000000 : Int)) && (decide (mo > am))))))))))) := by
 have e1 : (if i == 0 then (up != (-1)) || ((decide (i > 0)) && ((decide (up < 0)) || (decide (up ≥ i)))) else (decide (i > 0)) && ((decide (up < 0)) || (decide (up ≥ i)))) = !(if i = 0 then up == -1 else inB up 0 (i - 1)) := by
  by_cases h0 : i = 0
  ·subst h0; simp [bne]
  ·have : (i == 0) = false := by simpa using h0
   rw [this, if_neg h0, Bool.eq_iff_iff]
   simp [inB]
   omega
 rw [e1]
 unfold cdV at h
 simp only at h
 generalize (if i = 0 then up == -1 else inB up 0 (i - 1)) = b1 at *
 refine ⟨fun c => ?_, fun c => ⟨fun c2 => ?_, fun c2 => ⟨fun c3 => ?_, fun c3 => ⟨fun c4 => ?_, fun c4 => ?_⟩⟩⟩⟩
 ·simp at c; rw [c] at h; exact h
 all_goals
  have c : b1 = true := by simpa using c
  rw [c, Bool.true_and] at h
 ·have : (inB li 1 1000 && inB ne 1 1000) = false := by simp at c2 ⊢; cases q : inB li 1 1000 <;> simp_all
  rw [← Bool.and_assoc, this] at h; exact h
 all_goals
  have c2 : inB li 1 1000 = true ∧ inB ne 1 1000 = true := by simpa using c2
  rw [c2.1, c2.2, Bool.true_and, Bool.true_and] at h
 ·have : ((ra == 0) && (he == 0) || (inB ra 1 1000 && inB he 0 1000000)) = false := by
   revert c3; cases ((ra == 0) && (he == 0)) <;> cases inB ra 1 1000 <;> cases inB he 0 1000000 <;> simp
  rw [this] at h; exact h
 all_goals
  have : ((ra == 0) && (he == 0) || (inB ra 1 1000 && inB he 0 1000000)) = true := by
   revert c3; cases ((ra == 0) && (he == 0)) <;> cases inB ra 1 1000 <;> cases inB he 0 1000000 <;> simp
  rw [this, Bool.true_and] at h
 ·unfold cbV cbZ at h
  simp only at h
  rw [c4] at h; exact h
 ·unfold cbV cbZ at h
  simp only at h
  rw [c4, Bool.false_or] at h
  have : ((inB am (0 : Int) (200000 : Int)) && ((inB mo (0 : Int) (200000 : Int)) && ((inB ga (0 : Int) (1000 : Int)) && ((inB lo (0 : Int) (1000 : Int)) && ((inB de (1 : Int) (1000000 : Int)) && (decide (mo > am))))))) = (decide (0 ≤ am) && (decide (am < mo) && (decide (mo ≤ 200000) && (inB ga 0 1000 && (inB lo 0 1000 && inB de 1 1000000))))) := by
   rw [Bool.eq_iff_iff]
   simp only [Bool.and_eq_true, inB_iff, decide_eq_true_eq]
   omega
  rw [this]; exact h
theorem keys_iff {α β : Type} [BEq β] [LawfulBEq β] {l : List α} {d : α} {p : α → Bool} {k : α → β} : (∀ j : Nat, (j : Int) < (l.length : Int) → (p (l.getD (j : Int).toNat d) && !(((l.take (j : Int).toNat).map k).contains (k (l.getD (j : Int).toNat d)))) = true) ↔ (l.all p && once (l.map k)) = true := by
 have hg : ∀ (j : Nat) (h : j < l.length), l.getD (j : Int).toNat d = l[j] := fun j h => gx_eq (n := (j : Int)) h
 rw [Bool.and_eq_true, List.all_eq_true, once_iff]
 constructor
 ·intro h
  refine ⟨fun x hx => ?_, fun j hj hm => ?_⟩
  ·obtain ⟨j, hj, rfl⟩ := List.getElem_of_mem hx
   have := h j (by omega)
   rw [hg j hj, Bool.and_eq_true] at this
   exact this.1
  ·have hj' : j < l.length := by simpa using hj
   have := h j (by omega)
   rw [hg j hj', Bool.and_eq_true, Bool.not_eq_true'] at this
   have h2 := this.2
   rw [Int.toNat_natCast, List.map_take, List.contains_iff_mem.2 (by simpa using hm)] at h2
   cases h2
 ·intro ⟨h1, h2⟩ j hj
  have hj' : j < l.length := by omega
  rw [hg j hj', Bool.and_eq_true, Bool.not_eq_true']
  refine ⟨h1 _ (List.getElem_mem _), ?_⟩
  rw [Bool.eq_false_iff, Int.toNat_natCast, List.map_take]
  intro hc
  exact h2 j (by simpa using hj') (by simpa using List.contains_iff_mem.1 hc)
theorem all_iff {α : Type} {l : List α} {d : α} {p : α → Bool} : (∀ j : Nat, (j : Int) < (l.length : Int) → p (l.getD (j : Int).toNat d) = true) ↔ l.all p = true := by
 have hg : ∀ (j : Nat) (h : j < l.length), l.getD (j : Int).toNat d = l[j] := fun j h => gx_eq (n := (j : Int)) h
 rw [List.all_eq_true]
 constructor
 ·intro h x hx
  obtain ⟨j, hj, rfl⟩ := List.getElem_of_mem hx
  have := h j (by omega)
  rw [hg j hj] at this
  exact this
 ·intro h j hj
  have hj' : j < l.length := by omega
  rw [hg j hj']
  exact h _ (List.getElem_mem _)
end Go.Proofs.Ytihbikkkmoaljaa
