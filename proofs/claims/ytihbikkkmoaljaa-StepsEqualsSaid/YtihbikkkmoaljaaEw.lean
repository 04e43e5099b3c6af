/- What the laws on steps need, in plain Lean. -/
import Derived.Test.YtihbikkkmoaljaaEv
namespace Go.Proofs.Ytihbikkkmoaljaa
open Go.Sx
section
variable {rows : List Rw} {gs : List Ch} {al mo od lv : List Int}
def lvR (gs : List Ch) (lv : List Int) : Prop := lv.length = gs.length ∧ ∀ j, 0 ≤ j → j < (gs.length : Int) → 0 ≤ gi lv j ∧ gi lv j < lvs (gCh gs j).2.2.2.1 (gCh gs j).2.2.2.2.1 (gCh gs j).2.2.2.2.2.1
theorem lvF_R (H : ShOk rows gs al mo od) : lvR gs (lvF rows gs al mo od) := ⟨lvF_len, fun j h0 h1 => ⟨lvF_nn H h0, by
 have := lvF_tp H h0 h1
 have := tpO_bd H h0 h1
 omega⟩⟩
theorem amC_top (H : ShOk rows gs al mo od) {j k : Int} (h0 : 0 ≤ j) (h1 : j < (gs.length : Int)) (k0 : 0 ≤ k) (k1 : k < lvs (gCh gs j).2.2.2.1 (gCh gs j).2.2.2.2.1 (gCh gs j).2.2.2.2.2.1) : (0 ≤ amC gs j k ∧ amC gs j k ≤ 80) ∧ amEC gs j k = 0 ∧ amAC gs j k = amC gs j k ∧ lvC gs j (amC gs j k) = k := by
 have hh := H.has j h0 h1
 obtain ⟨g1, g2, g3, g4, g5⟩ := hasL_iff.1 hh
 have h2 := amL_top hh k0 k1
 obtain ⟨e1, e2⟩ := amA_in k0 k1
 refine ⟨⟨amC_nn hh k0, ?_⟩, e2, e1, lev_amC hh k0 k1⟩
 unfold amC
 omega
theorem ams_at (H : ShOk rows gs al mo od) (R : lvR gs lv) {j : Int} (h0 : 0 ≤ j) (h1 : j < (gs.length : Int)) : lvC gs j (gi (amsL gs lv) j) = gi lv j ∧ amEC gs j (gi lv j) = 0 ∧ amAC gs j (gi lv j) = gi (amsL gs lv) j ∧ 0 ≤ gi (amsL gs lv) j ∧ gi (amsL gs lv) j ≤ 80 := by
 obtain ⟨r0, r1⟩ := R.2 j h0 h1
 obtain ⟨a1, a2, a3, a4⟩ := amC_top H h0 h1 r0 r1
 rw [gi_amsL h0 h1]
 exact ⟨a4, a2, a3, a1⟩
theorem ams_ok (H : ShOk rows gs al mo od) (R : lvR gs lv) : OuOk gs (amsL gs lv) := ⟨amsL_len, fun a ha => by
 obtain ⟨k, hk, rfl⟩ := List.mem_iff_getElem.1 ha
 rw [amsL_len] at hk
 have := ams_at H R (j := (k : Int)) (by omega) (by omega)
 rw [gi_eq (by rw [amsL_len]; simpa using hk)] at this
 simp only [Int.toNat_natCast] at this
 omega⟩
theorem tp_mo (H : ShOk rows gs al mo od) {j k : Int} (h0 : 0 ≤ j) (h1 : j < (gs.length : Int)) (k0 : 0 ≤ k) (k1 : k < lvs (gCh gs j).2.2.2.1 (gCh gs j).2.2.2.2.1 (gCh gs j).2.2.2.2.2.1) : amC gs j k ≤ gi mo j ↔ k ≤ tpO gs mo j :=
 lev_iff (H.has j h0 h1) (H.mo _ (gi_mem h0 (by rw [H.mol]; exact h1))).1 k0 k1
def p3a (gs : List Ch) (x mo : List Int) : Prop := ∀ j, 0 ≤ j → j < (gs.length : Int) → (amEC gs j (lvC gs j (gi x j)) != 0) = false ∧ (amAC gs j (lvC gs j (gi x j)) != gi x j) = false ∧ decide (amAC gs j (lvC gs j (gi x j)) > gi mo j) = false ∧ gi x j ≤ 9223372036854775807
theorem p3a_of (H : ShOk rows gs al mo od) : p3a gs (amsL gs (lvF rows gs al mo od)) mo := fun j h0 h1 => by
 have R := lvF_R H
 obtain ⟨e1, e2, e3, e4, e5⟩ := ams_at H R h0 h1
 have h2 := lvF_tp H h0 h1
 have h3 := (tp_mo H h0 h1 (R.2 j h0 h1).1 (R.2 j h0 h1).2).2 h2
 rw [e1, e2, e3, gi_amsL h0 h1]
 rw [gi_amsL h0 h1] at e5
 refine ⟨rfl, by simp, decide_eq_false (by omega), by omega⟩
def smX (x ms : List Int) : Int := (ms.map (fun m => gi x m)).sum
theorem smX_cons {x ms : List Int} {m : Int} : smX x (m :: ms) = gi x m + smX x ms := by simp [smX]
theorem smX_0 {x : List Int} : ∀ {ms : List Int}, ms.all (fun m => gi x m == 0) = true → smX x ms = 0
 | [], _ => rfl
 | m :: ms, h => by
  rw [List.all_cons, Bool.and_eq_true, beq_iff_eq] at h
  rw [smX_cons, h.1, smX_0 h.2]
  rfl
theorem row_fine {x : List Int} {r : Rw} (h : rowB al x r = true) : smM al x r.2 ≤ r.1 ∨ smX x r.2 = 0 := by
 unfold rowB at h
 rw [Bool.or_eq_true] at h
 rcases h with h | h
 ·exact .inr (smX_0 h)
 ·exact .inl (of_decide_eq_true h)
/-! Enough. -/
def topL (gs : List Ch) (mo : List Int) : List Int := (List.range gs.length).map (fun k : Nat => tpO gs mo (k : Int))
theorem topL_len : (topL gs mo).length = gs.length := by simp [topL]
theorem topL_gi {j : Int} (h0 : 0 ≤ j) (h1 : j < (gs.length : Int)) : gi (topL gs mo) j = tpO gs mo j := by
 rw [gi_eq (by rw [topL_len]; omega)]
 simp only [topL, List.getElem_map, List.getElem_range]
 rw [Int.toNat_of_nonneg h0]
theorem topL_R (H : ShOk rows gs al mo od) : lvR gs (topL gs mo) := ⟨topL_len, fun j h0 h1 => by
 rw [topL_gi h0 h1]
 have := tpO_bd H h0 h1
 exact ⟨this.1, this.2.2⟩⟩
theorem gi_ext {a b : List Int} (hl : a.length = b.length) (h : ∀ j : Int, 0 ≤ j → j < (b.length : Int) → gi a j = gi b j) : a = b := List.ext_getElem hl fun k h1 h2 => by
 have := h (k : Int) (by omega) (by omega)
 rw [gi_eq (by simpa using h1), gi_eq (by simpa using h2)] at this
 simpa using this
theorem ams_ext {l : List Int} (hl : l.length = gs.length) (h : ∀ j : Int, 0 ≤ j → j < (gs.length : Int) → gi l j = amC gs j (gi lv j)) : l = amsL gs lv := gi_ext (by rw [amsL_len]; exact hl) fun j h0 h1 => by
 rw [amsL_len] at h1
 rw [h j h0 h1, gi_amsL h0 h1]
def p5a (gs : List Ch) (mo : List Int) : Prop := ∀ j, 0 ≤ j → j < (gs.length : Int) → (amEC gs j (tpO gs mo j) != 0) = false ∧ amAC gs j (tpO gs mo j) = amC gs j (tpO gs mo j) ∧ gi mo j ≤ 9223372036854775807
theorem p5a_of (H : ShOk rows gs al mo od) : p5a gs mo := fun j h0 h1 => by
 have t := tpO_bd H h0 h1
 obtain ⟨a1, a2, a3, a4⟩ := amC_top H h0 h1 t.1 t.2.2
 have := (H.mo _ (gi_mem h0 (by rw [H.mol]; exact h1))).2
 rw [a2]
 exact ⟨rfl, a3, by omega⟩
theorem top_all (H : ShOk rows gs al mo od) (hp : permB rows al (amsL gs (topL gs mo)) = true) : lvF rows gs al mo od = topL gs mo := gi_ext (by rw [lvF_len, topL_len]) fun j h0 h1 => by
 rw [topL_len] at h1
 rw [topL_gi h0 h1]
 exact lvF_enough H (b := topL gs mo) (fun j h0 h1 => topL_gi h0 h1) hp h0 h1
/-! Nothing left. -/
def p7a (rows : List Rw) (gs : List Ch) (al mo x : List Int) : Prop := ∀ j, 0 ≤ j → j < (gs.length : Int) → gi x j ≤ 9223372036854775807 ∧ ((amEC gs j (IntKind.i64.wrap (lvC gs j (gi x j) + 1)) != 0) = false → decide (amAC gs j (IntKind.i64.wrap (lvC gs j (gi x j) + 1)) > gi mo j) = false → permB rows al (x.set j.toNat (amAC gs j (IntKind.i64.wrap (lvC gs j (gi x j) + 1)))) = false)
theorem p7a_of (H : ShOk rows gs al mo od) : p7a rows gs al mo (amsL gs (lvF rows gs al mo od)) := fun j h0 h1 => by
 have R := lvF_R H
 obtain ⟨e1, e2, e3, e4, e5⟩ := ams_at H R h0 h1
 obtain ⟨r0, r1⟩ := R.2 j h0 h1
 have hb := lvs_bd (mi := (gCh gs j).2.2.2.1) (ma := (gCh gs j).2.2.2.2.1) (st := (gCh gs j).2.2.2.2.2.1)
 rw [e1, wrapS (x := gi (lvF rows gs al mo od) j + 1) (by omega) (by omega)]
 refine ⟨by omega, fun c1 c2 => ?_⟩
 have k1 : gi (lvF rows gs al mo od) j + 1 < lvs (gCh gs j).2.2.2.1 (gCh gs j).2.2.2.2.1 (gCh gs j).2.2.2.2.2.1 := by
  by_cases h : gi (lvF rows gs al mo od) j + 1 < lvs (gCh gs j).2.2.2.1 (gCh gs j).2.2.2.2.1 (gCh gs j).2.2.2.2.2.1
  ·exact h
  ·unfold amEC amE at c1
   rw [if_pos (by omega)] at c1
   cases c1
 obtain ⟨a1, a2, a3, a4⟩ := amC_top H h0 h1 (show 0 ≤ gi (lvF rows gs al mo od) j + 1 by omega) k1
 rw [a3] at c2 ⊢
 have c2 := of_decide_eq_false c2
 rw [amsL_set R.1 h0 h1]
 exact lvF_more H h0 h1 ((tp_mo H h0 h1 (by omega) k1).1 (by omega))
theorem app_set {x : List Int} {k : Nat} {v : Int} : (((([] : List Int) ++ x).set k v).drop 0).take (0 + x.length) = x.set k v := by
 rw [List.nil_append, List.drop_zero, List.take_of_length_le (by rw [List.length_set]; omega)]
/-! Equals. -/
def p6a (gs : List Ch) (al mo x : List Int) (i j : Int) : Prop := (0 ≤ j ∧ j < (gs.length : Int)) ∧ ((gCh gs i).2.1 = (gCh gs j).2.1 → (gCh gs i).2.2.1 = (gCh gs j).2.2.1 → (gCh gs i).2.2.2.1 = (gCh gs j).2.2.2.1 → (gCh gs i).2.2.2.2.1 = (gCh gs j).2.2.2.2.1 → (gCh gs i).2.2.2.2.2.1 = (gCh gs j).2.2.2.2.2.1 → gi al i = gi al j → gi mo i = gi mo j → ¬ gi x i < gi x j)
theorem p6a_of {cs : List Cd} (H : ShOk (rowN cs gs cs.length) gs al mo od) {l1 l2 : List Int} {i j : Int} (ho : od = l1 ++ i :: l2) (hj : j ∈ l2) : p6a gs al mo (amsL gs (lvF (rowN cs gs cs.length) gs al mo od)) i j := by
 have hi := H.ord i (by rw [ho]; simp)
 have hjr := H.ord j (by rw [ho]; simp [hj])
 refine ⟨hjr, fun e1 e2 e3 e4 e5 e6 e7 => ?_⟩
 have hc : ∀ k, amC gs i k = amC gs j k := fun k => by unfold amC; rw [e3, e5]
 have ht : tpO gs mo i = tpO gs mo j := by unfold tpO lvC; rw [e3, e4, e5, e7]
 have h1 := lvF_equals H ho hj (row_alike hi.1 hi.2 hjr.1 hjr.2 e1 e2) hc e6 ht
 have h2 := amC_mono (H.has i hi.1 hi.2) (lvF_nn H hjr.1) h1
 rw [gi_amsL hi.1 hi.2, gi_amsL hjr.1 hjr.2, ← hc]
 omega
/-! Best. -/
def lvN (gs : List Ch) (am : List Int) (n : Nat) : List Int := (List.range n).map (fun k : Nat => lvC gs (k : Int) (gi am k))
theorem lvN_succ {am : List Int} {n : Nat} : lvN gs am (n + 1) = lvN gs am n ++ [lvC gs (n : Int) (gi am n)] := by simp [lvN, List.range_succ]
theorem lvN_len {am : List Int} {n : Nat} : (lvN gs am n).length = n := by simp [lvN]
theorem lvN_gi {am : List Int} {j : Int} {n : Nat} (h0 : 0 ≤ j) (h1 : j < (n : Int)) : gi (lvN gs am n) j = lvC gs j (gi am j) := by
 rw [gi_eq (by rw [lvN_len]; omega)]
 simp only [lvN, List.getElem_map, List.getElem_range]
 rw [Int.toNat_of_nonneg h0]
def p4a (gs : List Ch) (am : List Int) : Prop := ∀ j, 0 ≤ j → j < (gs.length : Int) → (amEC gs j (lvC gs j (gi am j)) != 0) = false ∧ (amAC gs j (lvC gs j (gi am j)) != gi am j) = false ∧ gi am j ≤ 9223372036854775807
theorem p4a_of (H : ShOk rows gs al mo od) : p4a gs (amsL gs (lvF rows gs al mo od)) := fun j h0 h1 => ⟨(p3a_of H j h0 h1).1, (p3a_of H j h0 h1).2.1, (p3a_of H j h0 h1).2.2.2⟩
theorem lvN_eq (H : ShOk rows gs al mo od) : lvN gs (amsL gs (lvF rows gs al mo od)) gs.length = lvF rows gs al mo od := gi_ext (by rw [lvN_len, lvF_len]) fun j h0 h1 => by
 rw [lvF_len] at h1
 rw [lvN_gi h0 h1]
 exact (ams_at H (lvF_R H) h0 h1).1
structure B4 (gs : List Ch) (mo a : List Int) : Prop where
 al : a.length = gs.length
 ml : mo.length = gs.length
 has : ∀ j, 0 ≤ j → j < (gs.length : Int) → hasL (gCh gs j).2.2.2.1 (gCh gs j).2.2.2.2.1 (gCh gs j).2.2.2.2.2.1 = true
 a : ∀ j, 0 ≤ j → j < (gs.length : Int) → 0 ≤ gi a j ∧ gi a j < lvs (gCh gs j).2.2.2.1 (gCh gs j).2.2.2.2.1 (gCh gs j).2.2.2.2.2.1
theorem B4_of (H : ShOk rows gs al mo od) : B4 gs mo (lvF rows gs al mo od) := ⟨lvF_len, H.mol, H.has, (lvF_R H).2⟩
def g4 (gs : List Ch) (mo b am : List Int) (j : Int) : Prop := (0 ≤ gi b j ∧ gi b j < lvs (gCh gs j).2.2.2.1 (gCh gs j).2.2.2.2.1 (gCh gs j).2.2.2.2.2.1) ∧ gi am j = amC gs j (gi b j) ∧ gi am j ≤ gi mo j
theorem g4_best (H : ShOk rows gs al mo od) {b am : List Int} (hm : am.length = gs.length) (h : ∀ j, 0 ≤ j → j < (gs.length : Int) → g4 gs mo b am j) (hp : permB rows al am = true) : betI b (lvF rows gs al mo od) od ≤ 0 := by
 have e : am = amsL gs b := ams_ext hm fun j h0 h1 => (h j h0 h1).2.1
 refine lvF_best H (fun j h0 h1 => ?_) (by rw [e] at hp; exact hp)
 obtain ⟨⟨b0, b1⟩, b2, b3⟩ := h j h0 h1
 rw [b2] at b3
 exact ⟨b0, (tp_mo H h0 h1 b0 b1).1 b3⟩
theorem g4_set {a b am : List Int} {i v : Int} (_ : B4 gs mo a) (bl : b.length = gs.length) (ml : am.length = gs.length) (h0 : 0 ≤ i) (h1 : i < (gs.length : Int)) (v0 : 0 ≤ v) (v1 : v < lvs (gCh gs i).2.2.2.1 (gCh gs i).2.2.2.2.1 (gCh gs i).2.2.2.2.2.1) :
  (amEC gs i v != 0) = false ∧ (decide (amAC gs i v > gi mo i) = false → (∀ j, 0 ≤ j → j < i → g4 gs mo b am j) → ∀ j, 0 ≤ j → j < i + 1 → g4 gs mo (b.set i.toNat v) (am.set i.toNat (amAC gs i v)) j) := by
 obtain ⟨e1, e2⟩ := amA_in (mi := (gCh gs i).2.2.2.1) (st := (gCh gs i).2.2.2.2.2.1) v0 v1
 refine ⟨by unfold amEC; rw [e2]; rfl, fun c hp j j0 j1 => ?_⟩
 have c := of_decide_eq_false c
 unfold g4
 rw [gi_set h0 (by rw [bl]; exact h1) j0, gi_set h0 (by rw [ml]; exact h1) j0]
 by_cases e : j = i
 ·subst e
  rw [if_pos rfl, if_pos rfl]
  exact ⟨⟨v0, v1⟩, e1, by omega⟩
 ·rw [if_neg e, if_neg e]
  exact hp j j0 (by omega)
end
section
variable {cs : List Cd} {os : List ByteArray} {ks : List Ko} {gs : List Ch} {bs : List Ba} {al mo od : List Int}
theorem shL_lv (h : shOk cs os ks gs bs al mo od = true) : shL cs os ks gs bs al mo od = amsL gs (lvF (rowN cs gs cs.length) gs al mo od) := by
 unfold shL
 rw [if_pos h, shV_eq (sh_ok h)]
theorem shE_0 (h : shOk cs os ks gs bs al mo od = true) : shE cs os ks gs bs al mo od = 0 := by unfold shE; rw [if_pos h]
theorem row_sh (h : shOk cs os ks gs bs al mo od = true) : rowL cs os ks gs bs = rowN cs gs cs.length ∧ rowE cs os ks gs bs = 0 ∧ (rowN cs gs cs.length).length ≤ 48 := by
 have hv := (shOk_iff.1 h).1
 have := rowN_len (cs := cs) (gs := gs) (k := cs.length)
 have := (siteV_iff.1 hv).1
 unfold rowL rowE
 rw [if_pos hv, if_pos hv]
 exact ⟨rfl, rfl, by omega⟩
theorem useB_sh (h : useB cs os ks gs bs al mo od = true) : shOk cs os ks gs bs al mo od = true := by
 unfold useB at h
 rw [Bool.and_eq_true] at h
 exact h.2
end
end Go.Proofs.Ytihbikkkmoaljaa
