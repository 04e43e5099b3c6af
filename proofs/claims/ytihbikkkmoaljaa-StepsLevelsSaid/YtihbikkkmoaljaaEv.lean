/- What is shared, in plain Lean: levels, what is permitted, the best, enough, equals, nothing left. -/
import Derived.Test.YtihbikkkmoaljaaEr
namespace Go.Proofs.Ytihbikkkmoaljaa
open Go.Sx
section
variable {rows : List Rw} {gs : List Ch} {al mo od : List Int}
theorem lvF_len : (lvF rows gs al mo od).length = gs.length := by
 unfold lvF
 rw [grd_len, List.length_replicate]
theorem ord_rep (H : ShOk rows gs al mo od) : rngO (List.replicate gs.length (0 : Int)).length od := by rw [List.length_replicate]; exact H.ord
theorem lvF_nn (H : ShOk rows gs al mo od) {j : Int} (hj : 0 ≤ j) : 0 ≤ gi (lvF rows gs al mo od) j := by
 have := grd_le (P := PP rows gs al) (tp := tpO gs mo) (f := 80) (L := 1) hj (ord_rep H)
 rw [gi_rep] at this
 exact this
theorem lvF_tp (H : ShOk rows gs al mo od) {j : Int} (h0 : 0 ≤ j) (h1 : j < (gs.length : Int)) : gi (lvF rows gs al mo od) j ≤ tpO gs mo j := by
 have h2 := grd_bd (P := PP rows gs al) (tp := tpO gs mo) (f := 80) (L := 1) h0 (ord_rep H)
 rw [gi_rep] at h2
 have h3 := tpO_bd H h0 h1
 unfold lvF
 omega
theorem lvF_pp (H : ShOk rows gs al mo od) : PP rows gs al (lvF rows gs al mo od) = true := grd_P (inv_0 H).pp
theorem lvF_stuck (H : ShOk rows gs al mo od) {l1 l2 : List Int} {i L : Int} (ho : od = l1 ++ i :: l2) (hL : 1 ≤ L) (hs : gi (lvF rows gs al mo od) i = L - 1) (ht : L ≤ tpO gs mo i) :
  ∃ cur : List Int, cur.length = gs.length ∧ PP rows gs al (cur.set i.toNat L) = false ∧ (∀ j, 0 ≤ j → 0 ≤ gi cur j ∧ gi cur j ≤ gi (lvF rows gs al mo od) j ∧ gi cur j ≤ L) ∧ ∀ j ∈ i :: l2, gi cur j ≤ L - 1 := by
 have hi := H.ord i (by rw [ho]; simp)
 have h3 := tpO_bd H hi.1 hi.2
 obtain ⟨cur, c1, c2, c3, c4⟩ := grd_stuck (P := PP rows gs al) (tp := tpO gs mo) H.nd ho (f := 80) (L0 := 1) (ord_rep H) (fun j _ => by rw [gi_rep]; omega) hL (by omega) hs ht
 refine ⟨cur, by rw [c1, List.length_replicate], c2, fun j hj => ?_, c4⟩
 have h4 := c3 j hj
 rw [gi_rep] at h4
 exact h4
theorem lvF_no (H : ShOk rows gs al mo od) {l1 l2 b : List Int} {i L : Int} (ho : od = l1 ++ i :: l2) (hL : 1 ≤ L) (hs : gi (lvF rows gs al mo od) i = L - 1) (ht : L ≤ tpO gs mo i) (hb : L ≤ gi b i)
  (h1 : ∀ j ∈ l1, ∀ v, v ≤ gi (lvF rows gs al mo od) j → v ≤ L → 1 ≤ v → v ≤ gi b j) (h2 : ∀ j ∈ l2, ∀ v, v ≤ gi (lvF rows gs al mo od) j → v ≤ L - 1 → 1 ≤ v → v ≤ gi b j) (hn : ∀ j, 0 ≤ j → j < (gs.length : Int) → 0 ≤ gi b j) : PP rows gs al b = false := by
 obtain ⟨cur, c1, c2, c3, c4⟩ := lvF_stuck H ho hL hs ht
 have hi := H.ord i (by rw [ho]; simp)
 cases hp : PP rows gs al b with
 | false => rfl
 | true =>
  rw [← c2]
  symm
  refine PP_down H (fun j j0 j1 => ?_) hp
  rw [gi_set hi.1 (by rw [c1]; exact hi.2) j0]
  split
  ·rename_i e; rw [e]; omega
  ·rename_i e
   have h3 := c3 j j0
   have h4 := hn j j0 j1
   have hm := H.cov j j0 j1
   rw [ho, List.mem_append, List.mem_cons] at hm
   refine ⟨h3.1, ?_⟩
   rcases hm with hm | hm | hm
   ·have := h1 j hm (gi cur j) h3.2.1 h3.2.2
    omega
   ·exact absurd hm e
   ·have := h2 j hm (gi cur j) h3.2.1 (c4 j (by simp [hm]))
    omega
theorem lvF_enough (H : ShOk rows gs al mo od) {b : List Int} (hb : ∀ j, 0 ≤ j → j < (gs.length : Int) → gi b j = tpO gs mo j) (hp : PP rows gs al b = true) {i : Int} (h0 : 0 ≤ i) (h1 : i < (gs.length : Int)) : gi (lvF rows gs al mo od) i = tpO gs mo i := by
 have h2 := lvF_tp H h0 h1
 by_cases e : gi (lvF rows gs al mo od) i = tpO gs mo i
 ·exact e
 ·obtain ⟨l1, l2, ho⟩ := List.append_of_mem (H.cov i h0 h1)
  have h3 := lvF_nn H h0
  have := lvF_no (b := b) H ho (L := gi (lvF rows gs al mo od) i + 1) (by omega) (by omega) (by omega) (by rw [hb i h0 h1]; omega) (fun j hj v v1 _ _ => by
   have hr := H.ord j (by rw [ho]; simp [hj])
   have := lvF_tp H hr.1 hr.2
   rw [hb j hr.1 hr.2]; omega) (fun j hj v v1 _ _ => by
   have hr := H.ord j (by rw [ho]; simp [hj])
   have := lvF_tp H hr.1 hr.2
   rw [hb j hr.1 hr.2]; omega) (fun j j0 j1 => by rw [hb j j0 j1]; exact (tpO_bd H j0 j1).1)
  rw [hp] at this
  cases this
theorem lvF_more (H : ShOk rows gs al mo od) {i : Int} (h0 : 0 ≤ i) (h1 : i < (gs.length : Int)) (ht : gi (lvF rows gs al mo od) i + 1 ≤ tpO gs mo i) : PP rows gs al ((lvF rows gs al mo od).set i.toNat (gi (lvF rows gs al mo od) i + 1)) = false := by
 obtain ⟨l1, l2, ho⟩ := List.append_of_mem (H.cov i h0 h1)
 have h3 := lvF_nn H h0
 have hl : i < ((lvF rows gs al mo od).length : Int) := by rw [lvF_len]; exact h1
 have hg : ∀ j, 0 ≤ j → gi (lvF rows gs al mo od) j ≤ gi ((lvF rows gs al mo od).set i.toNat (gi (lvF rows gs al mo od) i + 1)) j := fun j hj => by
  rw [gi_set h0 hl hj]
  split
  ·rename_i e; rw [e]; omega
  ·omega
 refine lvF_no H ho (L := gi (lvF rows gs al mo od) i + 1) (by omega) (by omega) ht (by rw [gi_set h0 hl h0, if_pos rfl]; omega) (fun j hj v v1 _ _ => ?_) (fun j hj v v1 _ _ => ?_) (fun j j0 _ => ?_)
 ·have := hg j (H.ord j (by rw [ho]; simp [hj])).1
  omega
 ·have := hg j (H.ord j (by rw [ho]; simp [hj])).1
  omega
 ·have := hg j j0
  have := lvF_nn H j0
  omega
/-! Comparing. -/
def betS (x y : List Int) (L : Int) : List Int → Int
 | [] => 0
 | i :: l => if (decide (gi x i ≥ L) == decide (gi y i ≥ L)) = true then betS x y L l else if decide (gi x i ≥ L) = true then 1 else -1
def betN (x y od : List Int) : Nat → Int → Int
 | 0, _ => 0
 | f + 1, L => if betS x y L od = 0 then betN x y od f (L + 1) else betS x y L od
def betI (x y od : List Int) : Int := betN x y od 80 1
theorem betS_bd {x y : List Int} {L : Int} : ∀ {l : List Int}, betS x y L l = 0 ∨ betS x y L l = 1 ∨ betS x y L l = -1
 | [] => .inl rfl
 | i :: l => by
  unfold betS
  split
  ·exact betS_bd
  ·split
   ·exact .inr (.inl rfl)
   ·exact .inr (.inr rfl)
theorem betS_0 {x y : List Int} {L : Int} : ∀ {l : List Int}, betS x y L l = 0 → ∀ i ∈ l, (L ≤ gi x i ↔ L ≤ gi y i)
 | [], _, i, hi => by cases hi
 | j :: l, h, i, hi => by
  unfold betS at h
  split at h
  ·rename_i hc
   rcases List.mem_cons.1 hi with e | hi
   ·subst e
    rw [beq_iff_eq, decide_eq_decide] at hc
    exact hc
   ·exact betS_0 h i hi
  ·split at h <;> omega
theorem betS_1 {x y : List Int} {L : Int} : ∀ {l : List Int}, betS x y L l = 1 → ∃ l1 i l2, l = l1 ++ i :: l2 ∧ (∀ j ∈ l1, (L ≤ gi x j ↔ L ≤ gi y j)) ∧ L ≤ gi x i ∧ gi y i < L
 | [], h => by cases h
 | j :: l, h => by
  unfold betS at h
  split at h
  ·rename_i hc
   rw [beq_iff_eq, decide_eq_decide] at hc
   obtain ⟨l1, i, l2, e, h1, h2⟩ := betS_1 h
   refine ⟨j :: l1, i, l2, by rw [e]; rfl, fun k hk => ?_, h2⟩
   rcases List.mem_cons.1 hk with e | hk
   ·subst e; exact hc
   ·exact h1 k hk
  ·rename_i hc
   split at h
   ·rename_i hd
    have hd : L ≤ gi x j := of_decide_eq_true hd
    refine ⟨[], j, l, rfl, fun k hk => (by cases hk), hd, ?_⟩
    by_cases h2 : L ≤ gi y j
    ·exact absurd (by rw [beq_iff_eq, decide_eq_decide]; exact ⟨fun _ => h2, fun _ => hd⟩) hc
    ·omega
   ·cases h
theorem betN_pos {x y od : List Int} : ∀ {f : Nat} {L0 : Int}, 0 < betN x y od f L0 → ∃ L, L0 ≤ L ∧ L < L0 + f ∧ (∀ v, L0 ≤ v → v < L → ∀ j ∈ od, (v ≤ gi x j ↔ v ≤ gi y j)) ∧ betS x y L od = 1
 | 0, L0, h => by simp [betN] at h
 | f + 1, L0, h => by
  unfold betN at h
  split at h
  ·rename_i h0
   obtain ⟨L, h1, h2, h3, h4⟩ := betN_pos h
   refine ⟨L, by omega, by omega, fun v v0 v1 => ?_, h4⟩
   by_cases e : v = L0
   ·rw [e]; exact betS_0 h0
   ·exact h3 v (by omega) v1
  ·refine ⟨L0, by omega, by omega, fun v v0 v1 => by omega, ?_⟩
   rcases betS_bd (x := x) (y := y) (L := L0) (l := od) with e | e | e
   ·omega
   ·exact e
   ·omega
theorem lvF_best (H : ShOk rows gs al mo od) {b : List Int} (hb : ∀ j, 0 ≤ j → j < (gs.length : Int) → 0 ≤ gi b j ∧ gi b j ≤ tpO gs mo j) (hp : PP rows gs al b = true) : betI b (lvF rows gs al mo od) od ≤ 0 := by
 by_cases hc : 0 < betI b (lvF rows gs al mo od) od
 ·obtain ⟨L, h1, h2, h3, h4⟩ := betN_pos hc
  obtain ⟨l1, i, l2, ho, h5, h6, h7⟩ := betS_1 h4
  have hi := H.ord i (by rw [ho]; simp)
  have hn := lvF_nn H hi.1
  have hs : gi (lvF rows gs al mo od) i = L - 1 := by
   by_cases e : L = 1
   ·omega
   ·have := (h3 (L - 1) (by omega) (by omega) i (by rw [ho]; simp)).1 (by omega)
    omega
  have := lvF_no (b := b) H ho (by omega) hs (by have := hb i hi.1 hi.2; omega) h6 (fun j hj v v1 v2 v3 => by
   by_cases e : v = L
   ·subst e; exact (h5 j hj).2 v1
   ·exact (h3 v (by omega) (by omega) j (by rw [ho]; simp [hj])).2 v1) (fun j hj v v1 v2 v3 => (h3 v (by omega) (by omega) j (by rw [ho]; simp [hj])).2 v1) (fun j j0 j1 => (hb j j0 j1).1)
  rw [hp] at this
  cases this
 ·omega
theorem PP_swap (H : ShOk rows gs al mo od) {a : List Int} {i j : Int} (hl : a.length = gs.length) (i0 : 0 ≤ i) (i1 : i < (gs.length : Int)) (j0 : 0 ≤ j) (j1 : j < (gs.length : Int)) (hij : i ≠ j) (hm : ∀ r ∈ rows, i ∈ r.2 ↔ j ∈ r.2) (hc : ∀ k, amC gs i k = amC gs j k) (ha : gi al i = gi al j) (hp : PP rows gs al a = true) :
  PP rows gs al ((a.set i.toNat (gi a j)).set j.toNat (gi a i)) = true := by
 have hl2 : (a.set i.toNat (gi a j)).length = gs.length := by rw [List.length_set]; exact hl
 have hg : ∀ m, 0 ≤ m → gi ((a.set i.toNat (gi a j)).set j.toNat (gi a i)) m = if m = j then gi a i else if m = i then gi a j else gi a m := fun m m0 => by
  rw [gi_set j0 (by rw [hl2]; exact j1) m0, gi_set i0 (by rw [hl]; exact i1) m0]
 unfold PP permB at *
 rw [List.all_eq_true] at *
 intro r hr
 have hr1 := hp r hr
 have hmem := (H.mem r hr).2
 by_cases hi : i ∈ r.2
 ·have hj := (hm r hr).1 hi
  obtain ⟨p1, p2⟩ := ams_put (L := gi a j) H hl i0 i1 hr
  obtain ⟨q1, q2⟩ := ams_put (L := gi a i) H hl2 j0 j1 hr
  have e1 := smM_put (al := al) (H.mem r hr).1 hi p1
  have e2 := smM_put (al := al) (H.mem r hr).1 hj q1
  have e3 : gi (amsL gs (a.set i.toNat (gi a j))) j = amC gs j (gi a j) := by rw [gi_amsL j0 j1, gi_set i0 (by rw [hl]; exact i1) j0, if_neg (Ne.symm hij)]
  rw [p2, gi_amsL i0 i1, hc, hc] at e1
  rw [q2, e3] at e2
  have e4 : smM al (amsL gs ((a.set i.toNat (gi a j)).set j.toNat (gi a i))) r.2 = smM al (amsL gs a) r.2 := by
   rw [e2, e1, ha]
   omega
  unfold rowB at *
  rw [e4]
  rw [Bool.or_eq_true, List.all_eq_true] at *
  rcases hr1 with h | h
  ·refine .inl (fun m hm' => ?_)
   obtain ⟨m0, m1⟩ := hmem m hm'
   have zi := h i hi
   have zj := h j hj
   have zm := h m hm'
   rw [beq_iff_eq, gi_amsL i0 i1] at zi
   rw [beq_iff_eq, gi_amsL j0 j1] at zj
   rw [beq_iff_eq, gi_amsL m0 m1] at zm
   rw [beq_iff_eq, gi_amsL m0 m1, hg m m0]
   split
   ·rename_i e; rw [e, ← hc]; exact zi
   ·split
    ·rename_i e; rw [e, hc]; exact zj
    ·exact zm
  ·exact .inr h
 ·have hj : j ∉ r.2 := fun h => hi ((hm r hr).2 h)
  rw [← rowB_congr (am := amsL gs a) (fun m hm' => ?_)]
  ·exact hr1
  ·obtain ⟨m0, m1⟩ := hmem m hm'
   rw [gi_amsL m0 m1, gi_amsL m0 m1, hg m m0, if_neg (fun e : m = j => hj (e ▸ hm')), if_neg (fun e : m = i => hi (e ▸ hm'))]
theorem lvF_equals (H : ShOk rows gs al mo od) {l1 l2 : List Int} {i j : Int} (ho : od = l1 ++ i :: l2) (hj : j ∈ l2) (hm : ∀ r ∈ rows, i ∈ r.2 ↔ j ∈ r.2) (hc : ∀ k, amC gs i k = amC gs j k) (ha : gi al i = gi al j) (ht : tpO gs mo i = tpO gs mo j) :
  gi (lvF rows gs al mo od) j ≤ gi (lvF rows gs al mo od) i := by
 by_cases hlt : gi (lvF rows gs al mo od) i < gi (lvF rows gs al mo od) j
 ·have hi := H.ord i (by rw [ho]; simp)
  have hjr := H.ord j (by rw [ho]; simp [hj])
  have hnd := H.nd
  rw [ho, List.nodup_append, List.nodup_cons] at hnd
  have hij : i ≠ j := fun e => hnd.2.1.1 (e ▸ hj)
  have hn := lvF_nn H hi.1
  have htj := lvF_tp H hjr.1 hjr.2
  have hl : (lvF rows gs al mo od).length = gs.length := lvF_len
  have hl2 : ((lvF rows gs al mo od).set i.toNat (gi (lvF rows gs al mo od) j)).length = gs.length := by rw [List.length_set]; exact hl
  have hg : ∀ m, 0 ≤ m → gi (((lvF rows gs al mo od).set i.toNat (gi (lvF rows gs al mo od) j)).set j.toNat (gi (lvF rows gs al mo od) i)) m = if m = j then gi (lvF rows gs al mo od) i else if m = i then gi (lvF rows gs al mo od) j else gi (lvF rows gs al mo od) m := fun m m0 => by
   rw [gi_set hjr.1 (by rw [hl2]; exact hjr.2) m0, gi_set hi.1 (by rw [hl]; exact hi.2) m0]
  have hp := PP_swap H hl hi.1 hi.2 hjr.1 hjr.2 hij hm hc ha (lvF_pp H)
  have := lvF_no H ho (L := gi (lvF rows gs al mo od) i + 1) (b := ((lvF rows gs al mo od).set i.toNat (gi (lvF rows gs al mo od) j)).set j.toNat (gi (lvF rows gs al mo od) i)) (by omega) (by omega) (by omega) (by rw [hg i hi.1, if_neg hij, if_pos rfl]; omega)
   (fun m hm' v v1 v2 v3 => by
    have hr := H.ord m (by rw [ho]; simp [hm'])
    have n1 : m ≠ i := hnd.2.2 m hm' i (by simp)
    have n2 : m ≠ j := hnd.2.2 m hm' j (by simp [hj])
    rw [hg m hr.1, if_neg n2, if_neg n1]; exact v1)
   (fun m hm' v v1 v2 v3 => by
    have hr := H.ord m (by rw [ho]; simp [hm'])
    have n1 : m ≠ i := fun e => hnd.2.1.1 (e ▸ hm')
    rw [hg m hr.1]
    split
    ·omega
    ·first | exact v1 | (rw [if_neg n1]; exact v1))
   (fun m m0 m1 => by
    have h1 := lvF_nn H m0
    have h2 := lvF_nn H hjr.1
    rw [hg m m0]
    split
    ·exact hn
    ·split
     ·exact h2
     ·exact h1)
  rw [hp] at this
  cases this
 ·omega
theorem belN_iff {cs : List Cd} {o x : Int} {k : Nat} : x ∈ belN cs gs o k ↔ (0 ≤ x ∧ x < (k : Int)) ∧ onP cs o (gCh gs x).2.1 = true := by
 constructor
 ·exact fun h => ⟨belN_mem h, (List.mem_filter.1 h).2⟩
 ·exact fun h => List.mem_filter.2 ⟨rngL_mem.2 h.1, h.2⟩
theorem row_alike {cs : List Cd} {i j : Int} {n : Nat} (i0 : 0 ≤ i) (i1 : i < (gs.length : Int)) (j0 : 0 ≤ j) (j1 : j < (gs.length : Int)) (h1 : (gCh gs i).2.1 = (gCh gs j).2.1) (h2 : (gCh gs i).2.2.1 = (gCh gs j).2.2.1) : ∀ r ∈ rowN cs gs n, i ∈ r.2 ↔ j ∈ r.2 := fun r hr => by
 obtain ⟨c, p, _, _, rfl, _⟩ := rowN_mem hr
 simp only
 rw [chz_mem, chz_mem, belN_iff, belN_iff, h1, h2]
 simp only [i0, i1, j0, j1, and_self, true_and]
theorem lev_amC {i k : Int} (hh : hasL (gCh gs i).2.2.2.1 (gCh gs i).2.2.2.2.1 (gCh gs i).2.2.2.2.2.1 = true) (h0 : 0 ≤ k) (h1 : k < lvs (gCh gs i).2.2.2.1 (gCh gs i).2.2.2.2.1 (gCh gs i).2.2.2.2.2.1) : lvC gs i (amC gs i k) = k := by
 have h2 := amC_nn hh h0
 have h3 := (lev_iff hh h2 h0 h1).1 (Int.le_refl _)
 have h4 := lev_lt (a := amC gs i k) hh
 have h5 := (lev_iff hh h2 (k := lev (gCh gs i).2.2.2.1 (gCh gs i).2.2.2.2.1 (gCh gs i).2.2.2.2.2.1 (amC gs i k)) (by omega) h4).2 (Int.le_refl _)
 by_cases e : k < lev (gCh gs i).2.2.2.1 (gCh gs i).2.2.2.2.1 (gCh gs i).2.2.2.2.2.1 (amC gs i k)
 ·have := amC_lt hh h0 e
  have h5 : amC gs i (lev (gCh gs i).2.2.2.1 (gCh gs i).2.2.2.2.1 (gCh gs i).2.2.2.2.2.1 (amC gs i k)) ≤ amC gs i k := h5
  omega
 ·unfold lvC
  omega
end
/-! Levels. -/
def lastL (mi st k : Int) : Int := if k = 0 then -1 else amL mi st (k - 1)
theorem amL_top {mi ma st k : Int} (hh : hasL mi ma st = true) (_ : 0 ≤ k) (h1 : k < lvs mi ma st) : amL mi st k ≤ ma := by
 obtain ⟨g1, g2, g3, g4, g5⟩ := hasL_iff.1 hh
 unfold amL
 split
 ·omega
 ·unfold lvs at h1
  rw [if_pos hh] at h1
  have h2 : (k - 1) ≤ (ma - mi) / st := by omega
  have := (Int.le_ediv_iff_mul_le (a := k - 1) (b := ma - mi) (c := st) (by omega)).1 h2
  omega
theorem amL_succ {mi ma st k : Int} (hh : hasL mi ma st = true) (h0 : 0 ≤ k) : amL mi st k < amL mi st (k + 1) ∧ (1 ≤ k → amL mi st (k + 1) = amL mi st k + st) := by
 obtain ⟨g1, g2, g3, g4, g5⟩ := hasL_iff.1 hh
 have h3 : 1 ≤ k → amL mi st (k + 1) = amL mi st k + st := fun h => by
  unfold amL
  rw [if_neg (by omega), if_neg (by omega), show k + 1 - 1 = (k - 1) + 1 by omega, Int.add_mul, Int.one_mul]
  omega
 refine ⟨?_, h3⟩
 by_cases e : k = 0
 ·subst e
  simp [amL]
  omega
 ·have := h3 (by omega)
  omega
theorem amA_in {mi ma st k : Int} (h0 : 0 ≤ k) (h1 : k < lvs mi ma st) : amA mi ma st k = amL mi st k ∧ amE mi ma st k = 0 := by
 unfold amA amE
 rw [if_neg (by omega), if_neg (by omega)]
 exact ⟨rfl, rfl⟩
theorem lev_amL {mi ma st k : Int} (hh : hasL mi ma st = true) (h0 : 0 ≤ k) (h1 : k < lvs mi ma st) : lev mi ma st (amL mi st k) = k := lev_amC (gs := [(emp, 0, 0, mi, ma, st, 0, 0)]) (i := 0) hh h0 h1
theorem lev_round {mi ma st k last : Int} (hh : hasL mi ma st = true) (h0 : 0 ≤ k) (h1 : k < lvs mi ma st) (hl : last = lastL mi st k) :
  (amE mi ma st k != 0) = false ∧ decide (amA mi ma st k ≤ last) = false ∧ decide (amA mi ma st k > ma) = false ∧ ((k == 0) = true → (amA mi ma st k != 0) = false) ∧ ((k == 1) = true → (amA mi ma st k != mi) = false) ∧ (decide (k > 1) = true → (amA mi ma st k != IntKind.i64.wrap (last + st)) = false) ∧ (lev mi ma st (amA mi ma st k) != k) = false := by
 obtain ⟨g1, g2, g3, g4, g5⟩ := hasL_iff.1 hh
 obtain ⟨e1, e2⟩ := amA_in h0 h1
 have ht := amL_top hh h0 h1
 rw [e1, e2, lev_amL hh h0 h1, hl]
 have hlt : lastL mi st k < amL mi st k := by
  unfold lastL
  split
  ·rename_i e; rw [e]; simp [amL]
  ·have := (amL_succ (k := k - 1) hh (by omega)).1
   rw [show k - 1 + 1 = k by omega] at this
   exact this
 have hn : -1 ≤ lastL mi st k := by
  unfold lastL
  split
  ·omega
  ·have := amL_mono (mi := mi) (st := st) (j := 0) (k := k - 1) ⟨g1, g4⟩ (by omega) (by omega)
   simp [amL] at this
   simp [amL]
   omega
 refine ⟨rfl, decide_eq_false (by omega), decide_eq_false (by omega), fun h => ?_, fun h => ?_, fun h => ?_, by simp⟩
 ·have h : k = 0 := by simpa using h
  rw [h]; rfl
 ·have h : k = 1 := by simpa using h
  rw [h]; simp [amL]
 ·have h : 1 < k := by simpa using h
  have h2 := (amL_succ (k := k - 1) hh (by omega)).2 (by omega)
  rw [show k - 1 + 1 = k by omega] at h2
  have h3 : lastL mi st k = amL mi st (k - 1) := by unfold lastL; rw [if_neg (by omega)]
  rw [wrapS (by omega) (by omega), h3, h2]
  simp
theorem lastL_succ {mi ma st k : Int} (_ : hasL mi ma st = true) (h0 : 0 ≤ k) (h1 : k < lvs mi ma st) : amA mi ma st k = lastL mi st (k + 1) := by
 rw [(amA_in h0 h1).1]
 unfold lastL
 rw [if_neg (by omega), show k + 1 - 1 = k by omega]
theorem lev_last {mi ma st a : Int} (hh : hasL mi ma st = true) (h0 : 0 ≤ a) (_ : a ≤ 255) : (true && (decide (lvs mi ma st ≥ 2) && (decide (IntKind.i64.wrap (lastL mi st (lvs mi ma st) + st) > ma) && ((amE mi ma st (lev mi ma st a) == 0) && (decide (amA mi ma st (lev mi ma st a) ≤ a) && (if (amE mi ma st (IntKind.i64.wrap (lev mi ma st a + 1)) != 0) = true then (lev mi ma st a == IntKind.i64.wrap (lvs mi ma st - 1)) || ((amE mi ma st (IntKind.i64.wrap (lev mi ma st a + 1)) == 0) && decide (amA mi ma st (IntKind.i64.wrap (lev mi ma st a + 1)) > a)) else (amE mi ma st (IntKind.i64.wrap (lev mi ma st a + 1)) == 0) && decide (amA mi ma st (IntKind.i64.wrap (lev mi ma st a + 1)) > a))))))) = true := by
 obtain ⟨g1, g2, g3, g4, g5⟩ := hasL_iff.1 hh
 have hb := lvs_bd (mi := mi) (ma := ma) (st := st)
 have h2 : lvs mi ma st = (ma - mi) / st + 2 := by unfold lvs; rw [if_pos hh]
 have h3 : 0 ≤ (ma - mi) / st := Int.ediv_nonneg (by omega) (by omega)
 have h4 : ma - mi < ((ma - mi) / st + 1) * st := Int.lt_ediv_add_one_mul_self _ (by omega)
 have h5 : lastL mi st (lvs mi ma st) + st = mi + ((ma - mi) / st + 1) * st := by
  unfold lastL amL
  rw [if_neg (by omega), if_neg (by omega), h2, Int.add_mul, show (ma - mi) / st + 2 - 1 - 1 = (ma - mi) / st by omega]
  omega
 have h6 := amL_top hh (show 0 ≤ lvs mi ma st - 1 by omega) (by omega)
 have h7 : lastL mi st (lvs mi ma st) = amL mi st (lvs mi ma st - 1) := by unfold lastL; rw [if_neg (by omega)]
 have l0 := lev_nonneg hh h0
 have l1 := lev_lt (a := a) hh
 obtain ⟨e1, e2⟩ := amA_in l0 l1
 have e3 := (lev_iff hh h0 l0 l1).2 (Int.le_refl _)
 rw [wrapS (x := lastL mi st (lvs mi ma st) + st) (by omega) (by omega), wrapS (x := lev mi ma st a + 1) (by omega) (by omega), wrapS (x := lvs mi ma st - 1) (by omega) (by omega), e1, e2, decide_eq_true (show lvs mi ma st ≥ 2 by omega), decide_eq_true (show lastL mi st (lvs mi ma st) + st > ma by omega), decide_eq_true e3]
 by_cases e : lev mi ma st a + 1 < lvs mi ma st
 ·obtain ⟨e4, e5⟩ := amA_in (show 0 ≤ lev mi ma st a + 1 by omega) e
  have e6 : amL mi st (lev mi ma st a + 1) > a := by
   by_cases h : amL mi st (lev mi ma st a + 1) ≤ a
   ·have := (lev_iff hh h0 (by omega) e).1 h
    omega
   ·omega
  rw [e4, e5, decide_eq_true e6]
  rfl
 ·have e5 : amE mi ma st (lev mi ma st a + 1) = 1 := by unfold amE; rw [if_pos (by omega)]
  rw [e5, show lev mi ma st a = lvs mi ma st - 1 by omega]
  simp
end Go.Proofs.Ytihbikkkmoaljaa
