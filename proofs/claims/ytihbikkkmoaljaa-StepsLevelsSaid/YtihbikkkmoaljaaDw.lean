/- What is tried, in plain Lean. -/
import Derived.Test.YtihbikkkmoaljaaDv
namespace Go.Proofs.Ytihbikkkmoaljaa
open Go.Sx
def curB (a : Int) : Bool := decide (a ≥ 0) && decide (a ≤ 80)
theorem curB_iff {a : Int} : curB a = true ↔ 0 ≤ a ∧ a ≤ 80 := by simp [curB]
def rngB (n i : Int) : Bool := decide (0 ≤ i) && decide (i < n)
theorem rngB_iff {n i : Int} : rngB n i = true ↔ 0 ≤ i ∧ i < n := by simp [rngB]
def isOrd (l : List Int) (n : Int) : Bool := decide ((l.length : Int) = n) && (l.all (rngB n) && once l)
/-! The rows of each charger, and the sums of the rows. -/
def smA (alive l : List Int) : Int := (l.map (fun m => gi alive m)).sum
def putO (i : Int) (o : List (List Int)) (l : List Int) : List (List Int) := l.foldl (fun o m => o.modify m.toNat (· ++ [i])) o
def trO (o : List (List Int)) (i : Int) : List Rw → List (List Int)
 | [] => o
 | r :: rs => trO (putO i o r.2) (i + 1) rs
def trS (alive sm : List Int) (i : Int) : List Rw → List Int
 | [] => sm
 | r :: rs => trS alive (sm.set i.toNat (sm.getD i.toNat 0 + smA alive r.2)) (i + 1) rs
theorem smA_cons {alive l : List Int} {m : Int} : smA alive (m :: l) = gi alive m + smA alive l := by simp [smA]
theorem putO_cons {i m : Int} {o : List (List Int)} {l : List Int} : putO i o (m :: l) = putO i (o.modify m.toNat (· ++ [i])) l := rfl
theorem putO_length {i : Int} : ∀ {l : List Int} {o : List (List Int)}, (putO i o l).length = o.length
 | [], o => rfl
 | m :: l, o => by rw [putO_cons, putO_length, List.length_modify]
theorem putO_bd {i : Int} : ∀ {l : List Int} {o : List (List Int)} {b : Int}, (∀ x ∈ o, (x.length : Int) ≤ b) → ∀ x ∈ putO i o l, (x.length : Int) ≤ b + l.length
 | [], o, b, h, x, hx => by have := h x hx; simp only [List.length_nil]; omega
 | m :: l, o, b, h, x, hx => by
  rw [putO_cons] at hx
  have := putO_bd (b := b + 1) (fun y hy => by
   obtain ⟨k, hk, rfl⟩ := List.mem_iff_getElem.1 hy
   rw [List.length_modify] at hk
   have := h o[k] (List.getElem_mem _)
   rw [List.getElem_modify]
   split
   ·simp only [List.length_append, List.length_cons, List.length_nil]; omega
   ·omega) x hx
  simp only [List.length_cons]
  omega
theorem set_getD {l : List Int} {i : Nat} (h : i < l.length) : l.set i (l.getD i 0 + 0) = l := by
 rw [Int.add_zero, List.getD_eq_getElem?_getD, List.getElem?_eq_getElem h, Option.getD_some, List.set_getElem_self]
theorem set_set_add {l : List Int} {i : Nat} {a b : Int} (h : i < l.length) : (l.set i (l.getD i 0 + a)).set i ((l.set i (l.getD i 0 + a)).getD i 0 + b) = l.set i (l.getD i 0 + (a + b)) := by
 have e : (l.set i (l.getD i 0 + a)).getD i 0 = l.getD i 0 + a := by simp [List.getD, h]
 rw [e, List.set_set]
 congr 1
 omega
/-! Levels rise. -/
def mx (a b : Int) : Int := if a < b then b else a
def amC (gs : List Ch) (i k : Int) : Int := amL (gCh gs i).2.2.2.1 (gCh gs i).2.2.2.2.2.1 k
def lvC (gs : List Ch) (i a : Int) : Int := lev (gCh gs i).2.2.2.1 (gCh gs i).2.2.2.2.1 (gCh gs i).2.2.2.2.2.1 a
def mor (gs : List Ch) (alive : List Int) (i k : Int) : Int := mx (gi alive i) (amC gs i k) - mx (gi alive i) (amC gs i (k - 1))
def fitB (rows : List Rw) (sm : List Int) (mo r : Int) : Bool := decide (sm.getD r.toNat 0 + mo ≤ (gRw rows r).1)
def addS (sm : List Int) (mo : Int) (l : List Int) : List Int := l.foldl (fun sm r => sm.set r.toNat (sm.getD r.toNat 0 + mo)) sm
abbrev Tr := List Int × List Int × Bool
def rsS (O : List (List Int)) (rows : List Rw) (gs : List Ch) (alive most : List Int) (level : Int) (t : Tr) (i : Int) : Tr :=
 if t.2.1.getD i.toNat 0 = level - 1 ∧ level ≤ lvC gs i (gi most i) then
  (if ((O.getD i.toNat []).all (fitB rows t.1 (mor gs alive i level))) = true then (addS t.1 (mor gs alive i level) (O.getD i.toNat []), t.2.1.set i.toNat level, true) else t)
 else t
def swp (O : List (List Int)) (rows : List Rw) (gs : List Ch) (alive most : List Int) (level : Int) (t : Tr) (l : List Int) : Tr := l.foldl (rsS O rows gs alive most level) t
def shl (O : List (List Int)) (rows : List Rw) (gs : List Ch) (alive most order : List Int) : Nat → Int → List Int → List Int → List Int
 | 0, _, _, lv => lv
 | f + 1, level, sm, lv => if (swp O rows gs alive most level (sm, lv, false) order).2.2 = true then shl O rows gs alive most order f (level + 1) (swp O rows gs alive most level (sm, lv, false) order).1 (swp O rows gs alive most level (sm, lv, false) order).2.1 else (swp O rows gs alive most level (sm, lv, false) order).2.1
theorem addS_cons {sm l : List Int} {mo r : Int} : addS sm mo (r :: l) = addS (sm.set r.toNat (sm.getD r.toNat 0 + mo)) mo l := rfl
theorem addS_length {mo : Int} : ∀ {l sm : List Int}, (addS sm mo l).length = sm.length
 | [], _ => rfl
 | r :: l, sm => by rw [addS_cons, addS_length, List.length_set]
theorem getD_set {sm : List Int} {i k : Nat} {v : Int} : (sm.set i v).getD k 0 = if i = k ∧ k < sm.length then v else sm.getD k 0 := by
 simp only [List.getD, List.getElem?_set]
 by_cases h : i = k
 ·subst h
  by_cases h2 : i < sm.length
  ·simp [h2]
  ·simp [h2]
 ·simp [h]
theorem addS_other {mo : Int} : ∀ {l sm : List Int} {k : Nat}, (∀ r ∈ l, r.toNat ≠ k) → (addS sm mo l).getD k 0 = sm.getD k 0
 | [], _, _, _ => rfl
 | r :: l, sm, k, h => by
  rw [addS_cons, addS_other (fun x hx => h x (by simp [hx])), getD_set, if_neg (fun e => h r (by simp) e.1)]
theorem addS_get {mo : Int} : ∀ {l sm : List Int} {k : Nat}, l.Nodup → (∀ r ∈ l, 0 ≤ r) → k < sm.length → (addS sm mo l).getD k 0 = sm.getD k 0 + (if (k : Int) ∈ l then mo else 0)
 | [], sm, k, _, _, _ => by simp [addS]
 | r :: l, sm, k, hn, h0, hk => by
  rw [addS_cons]
  obtain ⟨n1, n2⟩ := List.nodup_cons.1 hn
  have hr := h0 r (by simp)
  by_cases e : r.toNat = k
  ·rw [addS_other (fun x hx e2 => n1 (by
    have := h0 x (by simp [hx])
    have : r = x := by omega
    rw [this]; exact hx)), getD_set, if_pos ⟨e, hk⟩, if_pos (by simp; left; omega), e]
  ·rw [addS_get n2 (fun x hx => h0 x (by simp [hx])) (by rw [List.length_set]; exact hk), getD_set, if_neg (fun c => e c.1)]
   have : ¬ (k : Int) = r := by omega
   simp [this]
theorem runW_out {S Y : Type} {f : S → Rd S} {I : S → Prop} {μ : S → Nat} {V W : S → Y} (hd : ∀ s s', I s → f s = .next s' → I s' ∧ μ s' < μ s) (hv : ∀ s, I s → allR (fun s' => V s' = V s) (fun _ s' => W s' = V s) (f s)) : ∀ (k : Nat) (s : S), I s → μ s < k → W (runW f k s).2 = V s
 | 0, s, _, h => by omega
 | k + 1, s, h, hk => by
  have h2 := hv s h
  simp only [runW]
  cases e : f s with
  | next s' =>
   rw [e] at h2
   obtain ⟨d1, d2⟩ := hd s s' h e
   simp only
   rw [runW_out hd hv k s' d1 (by omega)]
   exact h2
  | stop x s' =>
   rw [e] at h2
   exact h2
theorem lev_bd {mi ma st a : Int} : lev mi ma st a ≤ 80 := by
 have := lvs_bd (mi := mi) (ma := ma) (st := st)
 unfold lev
 split
 ·omega
 ·split
  ·omega
  ·omega
structure OkT (O : List (List Int)) (rows : List Rw) (gs : List Ch) (alive most order : List Int) : Prop where
 ol : O.length = 16
 ord : ∀ i ∈ order, (0 ≤ i ∧ i < 16) ∧ i < (gs.length : Int) ∧ i < (alive.length : Int) ∧ i < (most.length : Int)
 al : ∀ a ∈ alive, 0 ≤ a ∧ a ≤ 80
 mo : ∀ a ∈ most, 0 ≤ a ∧ a ≤ 80
 has : ∀ i ∈ order, hasL (gCh gs i).2.2.2.1 (gCh gs i).2.2.2.2.1 (gCh gs i).2.2.2.2.2.1 = true
 row : ∀ o ∈ O, o.Nodup ∧ (o.length : Int) ≤ 1000 ∧ ∀ r ∈ o, 0 ≤ r ∧ r < (rows.length : Int)
 cap : ∀ r ∈ rows, r.1 ≤ 1000
structure OkS (rows : List Rw) (order sm lv : List Int) : Prop where
 len : sm.length = rows.length
 bd : ∀ k : Nat, 0 ≤ sm.getD k 0 ∧ sm.getD k 0 ≤ 2000
 lvl : ∀ i ∈ order, i < (lv.length : Int)
 lvb : ∀ k : Nat, 0 ≤ lv.getD k 0 ∧ lv.getD k 0 ≤ 80
theorem amL_bd {mi st k : Int} (h : 1 ≤ mi ∧ mi ≤ 80 ∧ 1 ≤ st ∧ st ≤ 80) (h0 : 0 ≤ k) (h1 : k ≤ 81) : 0 ≤ amL mi st k ∧ amL mi st k ≤ 6480 := by
 unfold amL
 split
 ·omega
 ·have a1 : 0 ≤ (k - 1) * st := Int.mul_nonneg (by omega) (by omega)
  have a2 : (k - 1) * st ≤ (k - 1) * 80 := Int.mul_le_mul_of_nonneg_left (by omega) (by omega)
  omega
theorem amL_mono {mi st j k : Int} (h : 1 ≤ mi ∧ 1 ≤ st) (h0 : 0 ≤ j) (h1 : j ≤ k) : amL mi st j ≤ amL mi st k := by
 unfold amL
 split
 ·split
  ·omega
  ·have a1 : 0 ≤ (k - 1) * st := Int.mul_nonneg (by omega) (by omega)
   omega
 ·rw [if_neg (by omega)]
  have : (j - 1) * st ≤ (k - 1) * st := Int.mul_le_mul_of_nonneg_right (by omega) (by omega)
  omega
theorem mor_bd {gs : List Ch} {alive : List Int} {i k : Int} (hh : hasL (gCh gs i).2.2.2.1 (gCh gs i).2.2.2.2.1 (gCh gs i).2.2.2.2.2.1 = true) (ha : 0 ≤ gi alive i ∧ gi alive i ≤ 80) (h0 : 1 ≤ k) (h1 : k ≤ 81) : 0 ≤ mor gs alive i k ∧ mor gs alive i k ≤ 10000 := by
 obtain ⟨g1, g2, g3, g4, g5⟩ := hasL_iff.1 hh
 have b1 := amL_bd (mi := (gCh gs i).2.2.2.1) (st := (gCh gs i).2.2.2.2.2.1) (k := k) ⟨g1, by omega, g4, g5⟩ (by omega) h1
 have b2 := amL_bd (mi := (gCh gs i).2.2.2.1) (st := (gCh gs i).2.2.2.2.2.1) (k := k - 1) ⟨g1, by omega, g4, g5⟩ (by omega) (by omega)
 have b3 := amL_mono (mi := (gCh gs i).2.2.2.1) (st := (gCh gs i).2.2.2.2.2.1) (j := k - 1) (k := k) ⟨g1, g4⟩ (by omega) (by omega)
 unfold mor mx amC
 split <;> split <;> omega
theorem gi_mem {l : List Int} {i : Int} (h0 : 0 ≤ i) (h : i < (l.length : Int)) : gi l i ∈ l := by
 rw [gi_eq (by omega)]; exact List.getElem_mem _
theorem rsS_ok {O : List (List Int)} {rows : List Rw} {gs : List Ch} {alive most order : List Int} {level : Int} {t : Tr} {i : Int} (hT : OkT O rows gs alive most order) (hS : OkS rows order t.1 t.2.1) (hi : i ∈ order) (h0 : 1 ≤ level) (h1 : level ≤ 81) : OkS rows order (rsS O rows gs alive most level t i).1 (rsS O rows gs alive most level t i).2.1 := by
 unfold rsS
 split
 ·split
  ·rename_i hc hf
   obtain ⟨⟨o0, o1⟩, o2, o3, o4⟩ := hT.ord i hi
   have hl80 := lev_bd (mi := (gCh gs i).2.2.2.1) (ma := (gCh gs i).2.2.2.2.1) (st := (gCh gs i).2.2.2.2.2.1) (a := gi most i)
   have hl81 := hc.2
   unfold lvC at hl81
   have hm := mor_bd (gs := gs) (alive := alive) (k := level) (hT.has i hi) (hT.al _ (gi_mem o0 o3)) h0 h1
   have ho : O.getD i.toNat [] ∈ O := by
    have hl := hT.ol
    rw [List.getD_eq_getElem?_getD, List.getElem?_eq_getElem (by omega), Option.getD_some]
    exact List.getElem_mem _
   obtain ⟨r1, r2, r3⟩ := hT.row _ ho
   refine ⟨by simp only; rw [addS_length]; exact hS.len, fun k => ?_, fun j hj => by simp only [List.length_set]; exact hS.lvl j hj, fun k => by
    have := hS.lvb k
    simp only
    rw [getD_set]
    split <;> omega⟩
   simp only
   by_cases hk : k < t.1.length
   ·rw [addS_get r1 (fun r hr => (r3 r hr).1) hk]
    have hb := hS.bd k
    split
    ·rename_i hkm
     have hfit := List.all_eq_true.1 hf _ hkm
     unfold fitB at hfit
     rw [decide_eq_true_eq, Int.toNat_natCast] at hfit
     have hk2 := hS.len
     have := hT.cap (gRw rows (k : Int)) (by rw [gRw_eq (by omega)]; exact List.getElem_mem _)
     omega
    ·omega
   ·rw [List.getD_eq_getElem?_getD, List.getElem?_eq_none (by rw [addS_length]; omega)]
    simp
  ·exact hS
 ·exact hS
theorem swp_ok {O : List (List Int)} {rows : List Rw} {gs : List Ch} {alive most order : List Int} {level : Int} (hT : OkT O rows gs alive most order) (h0 : 1 ≤ level) (h1 : level ≤ 81) : ∀ (l : List Int) (t : Tr), (∀ i ∈ l, i ∈ order) → OkS rows order t.1 t.2.1 → OkS rows order (swp O rows gs alive most level t l).1 (swp O rows gs alive most level t l).2.1
 | [], t, _, h => h
 | i :: l, t, hl, h => swp_ok hT h0 h1 l _ (fun j hj => hl j (by simp [hj])) (rsS_ok hT h (hl i (by simp)) h0 h1)
theorem swp_some {O : List (List Int)} {rows : List Rw} {gs : List Ch} {alive most : List Int} {level : Int} : ∀ (l : List Int) (t : Tr), (swp O rows gs alive most level t l).2.2 = true → t.2.2 = true ∨ level ≤ 80
 | [], t, h => .inl h
 | i :: l, t, h => by
  rcases swp_some l _ h with h2 | h2
  ·unfold rsS at h2
   split at h2
   ·rename_i hc
    have := lev_bd (mi := (gCh gs i).2.2.2.1) (ma := (gCh gs i).2.2.2.2.1) (st := (gCh gs i).2.2.2.2.2.1) (a := gi most i)
    have h3 := hc.2
    unfold lvC at h3
    exact .inr (by omega)
   ·exact .inl h2
  ·exact .inr h2
end Go.Proofs.Ytihbikkkmoaljaa
namespace Go.Proofs.Ytihbikkkmoaljaa
open Go.Sx
theorem rsS_length {O : List (List Int)} {rows : List Rw} {gs : List Ch} {alive most : List Int} {level : Int} {t : Tr} {i : Int} : (rsS O rows gs alive most level t i).2.1.length = t.2.1.length := by
 unfold rsS
 split
 ·split
  ·simp only [List.length_set]
  ·rfl
 ·rfl
theorem swp_length {O : List (List Int)} {rows : List Rw} {gs : List Ch} {alive most : List Int} {level : Int} : ∀ (l : List Int) (t : Tr), (swp O rows gs alive most level t l).2.1.length = t.2.1.length
 | [], _ => rfl
 | _ :: l, _ => (swp_length l _).trans rsS_length
theorem shl_ok {O : List (List Int)} {rows : List Rw} {gs : List Ch} {alive most order : List Int} (hT : OkT O rows gs alive most order) : ∀ (f : Nat) (level : Int) (sm lv : List Int), 1 ≤ level → level ≤ 81 → OkS rows order sm lv → (shl O rows gs alive most order f level sm lv).length = lv.length ∧ ∀ k : Nat, 0 ≤ (shl O rows gs alive most order f level sm lv).getD k 0 ∧ (shl O rows gs alive most order f level sm lv).getD k 0 ≤ 80
 | 0, _, _, lv, _, _, h => ⟨rfl, h.lvb⟩
 | f + 1, level, sm, lv, h0, h1, h => by
  have hk := swp_ok hT h0 h1 order (sm, lv, false) (fun _ h => h) h
  have hl := swp_length (O := O) (rows := rows) (gs := gs) (alive := alive) (most := most) (level := level) order (sm, lv, false)
  have hs := swp_some (O := O) (rows := rows) (gs := gs) (alive := alive) (most := most) (level := level) order (sm, lv, false)
  rw [shl]
  split
  ·rename_i hc
   have h80 : level ≤ 80 := by
    rcases hs hc with h | h
    ·cases h
    ·exact h
   obtain ⟨g1, g2⟩ := shl_ok hT f (level + 1) _ _ (by omega) (by omega) hk
   exact ⟨g1.trans hl, g2⟩
  ·exact ⟨hl, hk.lvb⟩
/-! The rows of each charger. -/
def ofF (i : Int) : List Rw → Int → List Int
 | [], _ => []
 | r :: rs, j => (if r.2.contains j then [i] else []) ++ ofF (i + 1) rs j
theorem modify_getD {o : List (List Int)} {f : List Int → List Int} {j k : Nat} (h : k < o.length) : (o.modify j f).getD k [] = if j = k then f (o.getD k []) else o.getD k [] := by
 simp only [List.getD, List.getElem?_modify, List.getElem?_eq_getElem h]
 split <;> simp_all
theorem putO_get {i : Int} : ∀ {l : List Int} {o : List (List Int)} {k : Nat}, l.Nodup → (∀ m ∈ l, 0 ≤ m) → k < o.length → (putO i o l).getD k [] = o.getD k [] ++ (if l.contains (k : Int) then [i] else [])
 | [], o, k, _, _, _ => by simp [putO]
 | m :: l, o, k, hn, h0, hk => by
  obtain ⟨n1, n2⟩ := List.nodup_cons.1 hn
  have hm := h0 m (by simp)
  rw [putO_cons, putO_get n2 (fun x hx => h0 x (by simp [hx])) (by rw [List.length_modify]; exact hk), modify_getD hk]
  by_cases e : m.toNat = k
  ·have e2 : (k : Int) = m := by omega
   have : ¬ (k : Int) ∈ l := by rw [e2]; exact n1
   rw [if_pos e]
   simp [e2, n1]
  ·rw [if_neg e]
   have : ¬ (k : Int) = m := by omega
   simp [this]
def memOk (r : Rw) : Prop := r.2.Nodup ∧ ∀ m ∈ r.2, 0 ≤ m
theorem trO_length : ∀ {rs : List Rw} {o : List (List Int)} {i : Int}, (trO o i rs).length = o.length
 | [], _, _ => rfl
 | r :: rs, o, i => by rw [trO, trO_length, putO_length]
theorem trO_get : ∀ {rs : List Rw} {o : List (List Int)} {i : Int} {k : Nat}, (∀ r ∈ rs, memOk r) → k < o.length → (trO o i rs).getD k [] = o.getD k [] ++ ofF i rs k
 | [], o, i, k, _, _ => by simp [trO, ofF]
 | r :: rs, o, i, k, h, hk => by
  obtain ⟨h1, h2⟩ := h r (by simp)
  rw [trO, trO_get (fun x hx => h x (by simp [hx])) (by rw [putO_length]; exact hk), putO_get h1 h2 hk, ofF, List.append_assoc]
theorem ofF_mem : ∀ {rs : List Rw} {i j x : Int}, x ∈ ofF i rs j ↔ i ≤ x ∧ x < i + rs.length ∧ (gRw rs (x - i)).2.contains j = true
 | [], i, j, x => by simp [ofF]; omega
 | r :: rs, i, j, x => by
  rw [ofF, List.mem_append, ofF_mem]
  by_cases e : x = i
  ·subst e
   have g0 : gRw (r :: rs) (x - x) = r := by simp [gRw]
   rw [g0]
   simp only [List.length_cons]
   constructor
   ·rintro (h | h)
    ·split at h
     ·rename_i hc
      exact ⟨by omega, by omega, hc⟩
     ·cases h
    ·omega
   ·rintro ⟨_, _, h⟩
    rw [if_pos h]
    simp
  ·have hn : ¬ x ∈ (if r.2.contains j then [i] else []) := by
    split
    ·simpa using e
    ·simp
   simp only [List.length_cons]
   constructor
   ·rintro (h | ⟨h1, h2, h3⟩)
    ·exact absurd h hn
    ·refine ⟨by omega, by omega, ?_⟩
     have : gRw (r :: rs) (x - i) = gRw rs (x - (i + 1)) := by
      unfold gRw
      rw [show (x - i).toNat = (x - (i + 1)).toNat + 1 by omega]
      simp
     rw [this]; exact h3
   ·rintro ⟨h1, h2, h3⟩
    refine .inr ⟨by omega, by omega, ?_⟩
    have : gRw (r :: rs) (x - i) = gRw rs (x - (i + 1)) := by
     unfold gRw
     rw [show (x - i).toNat = (x - (i + 1)).toNat + 1 by omega]
     simp
    rw [← this]; exact h3
theorem ofF_nodup : ∀ {rs : List Rw} {i j : Int}, (ofF i rs j).Nodup
 | [], _, _ => List.nodup_nil
 | r :: rs, i, j => by
  rw [ofF]
  split
  ·rw [List.singleton_append, List.nodup_cons]
   refine ⟨fun h => ?_, ofF_nodup⟩
   have := (ofF_mem.1 h).1
   omega
  ·rw [List.nil_append]; exact ofF_nodup
theorem ofF_len : ∀ {rs : List Rw} {i j : Int}, (ofF i rs j).length ≤ rs.length
 | [], _, _ => Nat.le_refl _
 | r :: rs, i, j => by
  have := ofF_len (rs := rs) (i := i + 1) (j := j)
  rw [ofF]
  split <;> simp only [List.length_append, List.length_cons, List.length_nil] <;> omega
theorem trS_length {alive : List Int} : ∀ {rs : List Rw} {sm : List Int} {i : Int}, (trS alive sm i rs).length = sm.length
 | [], _, _ => rfl
 | r :: rs, sm, i => by rw [trS, trS_length, List.length_set]
theorem trS_get {alive : List Int} : ∀ {rs : List Rw} {sm : List Int} {i : Int} {k : Nat}, 0 ≤ i → k < sm.length → (trS alive sm i rs).getD k 0 = sm.getD k 0 + (if i ≤ (k : Int) ∧ (k : Int) < i + rs.length then smA alive (gRw rs ((k : Int) - i)).2 else 0)
 | [], sm, i, k, _, _ => by
  rw [if_neg (by simp only [List.length_nil]; omega)]
  simp [trS]
 | r :: rs, sm, i, k, hi, hk => by
  rw [trS, trS_get (by omega) (by rw [List.length_set]; exact hk), getD_set]
  by_cases e : i.toNat = k
  ·have e2 : (k : Int) = i := by omega
   rw [if_pos ⟨e, hk⟩, if_neg (by omega), if_pos (by simp only [List.length_cons]; omega), e, e2]
   have : gRw (r :: rs) (i - i) = r := by simp [gRw]
   rw [this]
   omega
  ·rw [if_neg (fun c => e c.1)]
   by_cases c : i + 1 ≤ (k : Int) ∧ (k : Int) < i + 1 + rs.length
   ·rw [if_pos c, if_pos (by simp only [List.length_cons]; omega)]
    have : gRw (r :: rs) ((k : Int) - i) = gRw rs ((k : Int) - (i + 1)) := by
     unfold gRw
     rw [show ((k : Int) - i).toNat = ((k : Int) - (i + 1)).toNat + 1 by omega]
     simp
    rw [this]
   ·rw [if_neg c, if_neg (by simp only [List.length_cons]; omega)]
theorem smA_bd {alive : List Int} (ha : ∀ a ∈ alive, 0 ≤ a ∧ a ≤ 80) : ∀ {l : List Int}, (∀ m ∈ l, 0 ≤ m ∧ m < (alive.length : Int)) → 0 ≤ smA alive l ∧ smA alive l ≤ 80 * l.length
 | [], _ => by simp [smA]
 | m :: l, h => by
  have h1 := smA_bd ha (l := l) (fun x hx => h x (by simp [hx]))
  have hm := h m (by simp)
  have := ha (gi alive m) (gi_mem hm.1 hm.2)
  rw [smA_cons]
  simp only [List.length_cons]
  omega
/-! Rows of a site. -/
theorem nodup_filter {α : Type} {l : List α} (p : α → Bool) (h : l.Nodup) : (l.filter p).Nodup := List.Pairwise.filter p h
theorem belN_nodup {cs : List Cd} {gs : List Ch} {o : Int} {k : Nat} : (belN cs gs o k).Nodup := by
 unfold belN
 refine nodup_filter _ ?_
 exact List.Pairwise.map _ (fun a b h => by omega) List.nodup_range
theorem chz_mem {gs : List Ch} {p k : Int} {l : List Int} : k ∈ chz gs p l ↔ k ∈ l ∧ usA (gCh gs k).2.2.1 p = true := by simp [chz, List.mem_filter]
theorem rowP_mem {cs : List Cd} {gs : List Ch} {c p : Int} {r : Rw} (h : r ∈ rowP cs gs c p) : r = (limF (gCd cs c), chz gs p (belN cs gs c gs.length)) ∧ (chz gs p (belN cs gs c gs.length)).length > 0 := by
 unfold rowP at h
 split at h
 ·simp only [List.mem_singleton] at h; exact ⟨h, by assumption⟩
 ·cases h
theorem rowN_mem {cs : List Cd} {gs : List Ch} {r : Rw} : ∀ {k : Nat}, r ∈ rowN cs gs k → ∃ c p : Int, (0 ≤ c ∧ c < (k : Int)) ∧ (p = 0 ∨ p = 1 ∨ p = 2) ∧ r = (limF (gCd cs c), chz gs p (belN cs gs c gs.length)) ∧ r.2.length > 0
 | 0, h => by cases h
 | k + 1, h => by
  rw [rowN, List.mem_append] at h
  rcases h with h | h
  ·obtain ⟨c, p, h1, h2, h3⟩ := rowN_mem h
   exact ⟨c, p, ⟨h1.1, by omega⟩, h2, h3⟩
  ·unfold rowC at h
   rw [List.mem_append, List.mem_append] at h
   rcases h with (h | h) | h
   ·obtain ⟨h1, h2⟩ := rowP_mem h
    exact ⟨k, 0, ⟨by omega, by omega⟩, by simp, h1, by rw [h1]; exact h2⟩
   ·obtain ⟨h1, h2⟩ := rowP_mem h
    exact ⟨k, 1, ⟨by omega, by omega⟩, by simp, h1, by rw [h1]; exact h2⟩
   ·obtain ⟨h1, h2⟩ := rowP_mem h
    exact ⟨k, 2, ⟨by omega, by omega⟩, by simp, h1, by rw [h1]; exact h2⟩
theorem row_mem {cs : List Cd} {gs : List Ch} {r : Rw} {k : Nat} (h : r ∈ rowN cs gs k) : r.2.Nodup ∧ (∀ m ∈ r.2, 0 ≤ m ∧ m < (gs.length : Int)) ∧ r.2.length ≤ gs.length ∧ r.2.length > 0 := by
 obtain ⟨c, p, h1, h2, h3, h4⟩ := rowN_mem h
 subst h3
 refine ⟨nodup_filter _ belN_nodup, fun m hm => belN_mem (chz_mem.1 hm).1, Nat.le_trans chz_len belN_len, h4⟩
/-! What is shared. -/
def amsL (gs : List Ch) (lv : List Int) : List Int := (List.range gs.length).map (fun k : Nat => amC gs (k : Int) (lv.getD k 0))
def OL (rows : List Rw) : List (List Int) := trO (List.replicate 16 []) 0 rows
def SM (alive : List Int) (rows : List Rw) : List Int := trS alive (List.replicate rows.length 0) 0 rows
def shOk (cs : List Cd) (os : List ByteArray) (ks : List Ko) (gs : List Ch) (bs : List Ba) (al mo od : List Int) : Bool := siteV cs os ks gs bs && (decide (al.length = gs.length) && (decide (mo.length = gs.length) && (al.all curB && (mo.all curB && isOrd od gs.length))))
def shV (rows : List Rw) (gs : List Ch) (al mo od : List Int) : List Int := shl (OL rows) rows gs al mo od 81 1 (SM al rows) (List.replicate al.length 0)
def shE (cs : List Cd) (os : List ByteArray) (ks : List Ko) (gs : List Ch) (bs : List Ba) (al mo od : List Int) : Int := if shOk cs os ks gs bs al mo od = true then 0 else 1
def shL (cs : List Cd) (os : List ByteArray) (ks : List Ko) (gs : List Ch) (bs : List Ba) (al mo od : List Int) : List Int := if shOk cs os ks gs bs al mo od = true then amsL gs (shV (rowN cs gs cs.length) gs al mo od) else []
theorem shOk_iff {cs : List Cd} {os : List ByteArray} {ks : List Ko} {gs : List Ch} {bs : List Ba} {al mo od : List Int} : shOk cs os ks gs bs al mo od = true ↔ siteV cs os ks gs bs = true ∧ al.length = gs.length ∧ mo.length = gs.length ∧ al.all curB = true ∧ mo.all curB = true ∧ isOrd od gs.length = true := by
 simp [shOk]
theorem lsF_le : ∀ {l : List Int} {f : Int}, lsF f l ≤ f
 | [], f => Int.le_refl _
 | n :: l, f => by
  have : lsF f (n :: l) = lsF (if n < f then n else f) l := rfl
  rw [this]
  have := lsF_le (l := l) (f := if n < f then n else f)
  split at this <;> rename_i h
  ·rw [if_pos h]; omega
  ·rw [if_neg h]; exact this
theorem limF_le {c : Cd} : limF c ≤ c.2.2.1 := by
 unfold limF
 split <;> exact lsF_le
theorem OL_length {rows : List Rw} : (OL rows).length = 16 := by rw [OL, trO_length, List.length_replicate]
theorem OL_get {rows : List Rw} (h : ∀ r ∈ rows, memOk r) {k : Nat} (hk : k < 16) : (OL rows).getD k [] = ofF 0 rows k := by
 rw [OL, trO_get h (by simpa using hk)]
 have : (List.replicate 16 ([] : List Int)).getD k [] = [] := by
  rw [List.getD_eq_getElem?_getD, List.getElem?_replicate]
  split <;> rfl
 rw [this, List.nil_append]
theorem rowN_ok {cs : List Cd} {gs : List Ch} {k : Nat} : ∀ r ∈ rowN cs gs k, memOk r := fun _ hr => ⟨(row_mem hr).1, fun m hm => ((row_mem hr).2.1 m hm).1⟩
theorem SM_length {al : List Int} {rows : List Rw} : (SM al rows).length = rows.length := by rw [SM, trS_length, List.length_replicate]
theorem SM_get {al : List Int} {rows : List Rw} {k : Nat} (hk : k < rows.length) : (SM al rows).getD k 0 = smA al (gRw rows k).2 := by
 rw [SM, trS_get (Int.le_refl _) (by simpa using hk), if_pos (by omega), Int.sub_zero]
 simp [List.getD, hk]
theorem isOrd_mem {od : List Int} {n i : Int} (h : isOrd od n = true) (hi : i ∈ od) : 0 ≤ i ∧ i < n := by
 unfold isOrd at h
 simp only [Bool.and_eq_true, List.all_eq_true] at h
 exact rngB_iff.1 (h.2.1 i hi)
theorem ok_of {cs : List Cd} {os : List ByteArray} {ks : List Ko} {gs : List Ch} {bs : List Ba} {al mo od : List Int} (h : shOk cs os ks gs bs al mo od = true) : OkT (OL (rowN cs gs cs.length)) (rowN cs gs cs.length) gs al mo od ∧ OkS (rowN cs gs cs.length) od (SM al (rowN cs gs cs.length)) (List.replicate al.length 0) := by
 obtain ⟨hv, h1, h2, h3, h4, h5⟩ := shOk_iff.1 h
 have hl := (siteV_iff.1 hv).1
 have ha : ∀ a ∈ al, 0 ≤ a ∧ a ≤ 80 := fun a ha => curB_iff.1 (List.all_eq_true.1 h3 a ha)
 refine ⟨⟨OL_length, fun i hi => ?_, ha, fun a ha => curB_iff.1 (List.all_eq_true.1 h4 a ha), fun i hi => ?_, fun o ho => ?_, fun r hr => ?_⟩, ⟨SM_length, fun k => ?_, fun i hi => ?_, fun k => ?_⟩⟩
 ·have := isOrd_mem h5 hi
  omega
 ·have hi := isOrd_mem h5 hi
  have := siteV_ch hv hi.1 hi.2
  unfold chV chW at this
  simp only [Bool.and_eq_true, inB_iff] at this
  exact hasL_iff.2 (by omega)
 ·obtain ⟨k, hk, rfl⟩ := List.mem_iff_getElem.1 ho
  rw [OL_length] at hk
  have e := OL_get (rows := rowN cs gs cs.length) rowN_ok hk
  rw [List.getD_eq_getElem?_getD, List.getElem?_eq_getElem (by rw [OL_length]; exact hk), Option.getD_some] at e
  rw [e]
  have hln := ofF_len (rs := rowN cs gs cs.length) (i := 0) (j := k)
  have hrn := rowN_len (cs := cs) (gs := gs) (k := cs.length)
  refine ⟨ofF_nodup, by omega, fun r hr => ?_⟩
  have := ofF_mem.1 hr
  omega
 ·obtain ⟨c, p, hc, hp, rfl, _⟩ := rowN_mem hr
  have hcv := siteV_cd hv hc.1 hc.2
  unfold cdV at hcv
  simp only [Bool.and_eq_true, inB_iff] at hcv
  have := limF_le (c := gCd cs c)
  simp only
  omega
 ·by_cases hk : k < (rowN cs gs cs.length).length
  ·rw [SM_get hk]
   have hr : gRw (rowN cs gs cs.length) (k : Int) ∈ rowN cs gs cs.length := by rw [gRw_eq (by simpa using hk)]; exact List.getElem_mem _
   obtain ⟨m1, m2, m3, _⟩ := row_mem hr
   have := smA_bd ha (l := (gRw (rowN cs gs cs.length) (k : Int)).2) (fun m hm => by have := m2 m hm; omega)
   omega
  ·rw [List.getD_eq_getElem?_getD, List.getElem?_eq_none (by rw [SM_length]; omega)]
   simp
 ·have := isOrd_mem h5 hi
  rw [List.length_replicate]
  omega
 ·have : (List.replicate al.length (0 : Int)).getD k 0 = 0 := by
   simp only [List.getD, List.getElem?_replicate]
   split <;> rfl
  rw [this]
  omega
theorem set_rep {xs : List Int} {r : Nat} {v : Int} : (xs ++ List.replicate (r + 1) 0).set xs.length v = xs ++ [v] ++ List.replicate r 0 := by
 rw [List.set_append_right _ _ (Nat.le_refl _), Nat.sub_self, List.replicate_succ, List.set_cons_zero, List.append_assoc, List.singleton_append]
def amsN (gs : List Ch) (lv : List Int) (n : Nat) : List Int := (List.range n).map (fun k : Nat => amC gs (k : Int) (lv.getD k 0))
theorem amsN_succ {gs : List Ch} {lv : List Int} {n : Nat} : amsN gs lv (n + 1) = amsN gs lv n ++ [amC gs (n : Int) (lv.getD n 0)] := by
 simp [amsN, List.range_succ]
theorem amsN_length {gs : List Ch} {lv : List Int} {n : Nat} : (amsN gs lv n).length = n := by simp [amsN]
end Go.Proofs.Ytihbikkkmoaljaa
