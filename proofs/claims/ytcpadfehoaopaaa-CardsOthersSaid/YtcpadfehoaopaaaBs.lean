/- Cards in plain Lean: joined lists, lists with one element less, cards that are late. -/
import Derived.Test.YtcpadfehoaopaaaBr
namespace Go.Proofs.Ytcpadfehoaopaaa
open Go.Sx
theorem vV_iff {l : List Vd} : vlV l = true ↔ l.length ≤ 64 ∧ ckV 0 l = true := by simp [vlV]
theorem vC_iff {l : List Crd} : vlC l = true ↔ l.length ≤ 64 ∧ ckC 0 l = true := by simp [vlC]
theorem joL_len (a b : List Vd) : (joL a b).length ≤ 64 := by
  unfold joL
  split
  · split
    · simp
    · omega
  · simp
theorem ltM_len (l : List Crd) (o v : List Vd) (e : Int) : (ltM l o v e).length ≤ l.length := by
  unfold ltM
  split
  · unfold ltL; rw [List.length_map]; exact List.length_filter_le _ _
  · simp
theorem rjL_eq (a b : List Vd) : rjL a b = joL a b := by
  unfold rjL joL
  split
  · rename_i h
    simp only [Bool.and_eq_true, vV_iff] at h
    rw [rjF_mrg h.1.2 h.2.2]
  · rfl
theorem rjE_eq (a b : List Vd) : rjE a b = joE a b := by
  unfold rjE joE
  split
  · rename_i h
    simp only [Bool.and_eq_true, vV_iff] at h
    rw [rjF_mrg h.1.2 h.2.2]
  · rfl
theorem jo_comm {a b : List Vd} (ha : vlV a = true) (hb : vlV b = true) : joL a b = joL b a ∧ joE a b = joE b a := by
  have h1 := (vV_iff.1 ha).2
  have h2 := (vV_iff.1 hb).2
  unfold joL joE
  rw [mrg_comm h1 h2, ha, hb]
  exact ⟨rfl, rfl⟩
theorem jo_self {a : List Vd} (ha : vlV a = true) : joL a a = a ∧ joE a a = 0 := by
  have h1 := vV_iff.1 ha
  unfold joL joE
  have : ¬ (64 < (a.length : Int)) := by omega
  rw [mrg_self h1.2, ha]
  simp [this]
theorem jo_bad {a b : List Vd} (ha : vlV a = true) (hb : vlV b = true) (h : joE a b ≠ 0) : joL a b = [] ∧ joE a b = 2 := by
  unfold joL joE at *
  rw [ha, hb] at *
  simp only [Bool.and_self, if_true] at *
  split at h
  · rename_i c; simp [c]
  · exact absurd rfl h
theorem jo_good {a b : List Vd} (ha : vlV a = true) (hb : vlV b = true) (h : joE a b = 0) : joL a b = mrg a b ∧ vlV (mrg a b) = true := by
  have h1 := (vV_iff.1 ha).2
  have h2 := (vV_iff.1 hb).2
  unfold joL joE at *
  rw [ha, hb] at *
  simp only [Bool.and_self, if_true] at *
  split at h
  · cases h
  · rename_i c
    rw [if_neg c]
    exact ⟨rfl, vV_iff.2 ⟨by omega, mrg_ck _ (Nat.le_refl _) h1 h2⟩⟩
theorem jo_again {a b : List Vd} (ha : vlV a = true) (hb : vlV b = true) (h : joE a b = 0) : joL (joL a b) b = joL a b ∧ joE (joL a b) b = 0 ∧ vlV (joL a b) = true := by
  obtain ⟨e, hv⟩ := jo_good ha hb h
  rw [e]
  have h1 := (vV_iff.1 ha).2
  have h2 := (vV_iff.1 hb).2
  have h3 := (vV_iff.1 hv).1
  have : ¬ (64 < ((mrg a b).length : Int)) := by omega
  unfold joL joE
  rw [mrg_again h1 h2, hv, hb]
  simp [this]
theorem jo_assoc {a b c : List Vd} (ha : vlV a = true) (hb : vlV b = true) (hc : vlV c = true) (h : joE a b = 0) (h' : joE b c = 0) : joL (joL a b) c = joL a (joL b c) ∧ joE (joL a b) c = joE a (joL b c) := by
  obtain ⟨e, hv⟩ := jo_good ha hb h
  obtain ⟨e', hv'⟩ := jo_good hb hc h'
  rw [e, e']
  unfold joL joE
  rw [hv, hv', ha, hc, mrg_assoc (vV_iff.1 ha).2 (vV_iff.1 hb).2 (vV_iff.1 hc).2]
  exact ⟨rfl, rfl⟩
/-- Whether a card is accepted. -/
theorem acE_ok {l : List Crd} {v : List Vd} {n e : Int} (hl : vlC l = true) (hv : vlV v = true) (hn : inB n 1 1000000 = true) (he : inB e 0 1000000 = true) :
    acE l v n e = if hsC l n = false then 4 else if inB e (fnC l n).2.2.1 (fnC l n).2.2.2 = false then 15 else if rvB v n e = true then 12 else 0 := by
  unfold acE
  rw [if_neg (by simp [hl, hv, hn, he])]
theorem acE_zero {l : List Crd} {v : List Vd} {n e : Int} (hl : vlC l = true) (hv : vlV v = true) (hn : inB n 1 1000000 = true) (he : inB e 0 1000000 = true) :
    (acE l v n e == 0) = (hsC l n && (inB e (fnC l n).2.2.1 (fnC l n).2.2.2 && !rvB v n e)) := by
  rw [acE_ok hl hv hn he]
  cases hsC l n <;> cases inB e (fnC l n).2.2.1 (fnC l n).2.2.2 <;> cases rvB v n e <;> rfl
theorem acE_join {l : List Crd} {a b : List Vd} {n e : Int} (hl : vlC l = true) (ha : vlV a = true) (hb : vlV b = true) (hn : inB n 1 1000000 = true) (he : inB e 0 1000000 = true) (h : joE a b = 0) :
    (acE l (joL a b) n e == 0) = ((acE l a n e == 0) && (acE l b n e == 0)) := by
  obtain ⟨q, hv⟩ := jo_good ha hb h
  rw [q, acE_zero hl hv hn he, acE_zero hl ha hn he, acE_zero hl hb hn he, rvB_mrg (vV_iff.1 ha).2 (vV_iff.1 hb).2]
  cases hsC l n <;> cases inB e (fnC l n).2.2.1 (fnC l n).2.2.2 <;> cases rvB a n e <;> cases rvB b n e <;> rfl
/-- Where a card lies. -/
theorem hs_at {l : List Crd} (hl : vlC l = true) {k : Nat} (hk : k < l.length) : hsC l l[k].1 = true ∧ fnC l l[k].1 = l[k] ∧ inB l[k].1 1 1000000 = true := by
  have hc := (vC_iff.1 hl).2
  obtain ⟨h1, _, h3⟩ := first_at (l := l) (n := l[k].1) hk rfl (fun j hj hjk => by have := ckC_lt hc j k hj hk hjk; omega)
  exact ⟨h1, h3, (ckC_up hc k hk).2.1⟩
/-- Late. -/
def lateB (o v : List Vd) (e : Int) (c : Crd) : Bool := inB e c.2.2.1 c.2.2.2 && (!rvB o c.1 e && rvB v c.1 e)
theorem ltL_eq (l : List Crd) (o v : List Vd) (e : Int) : ltL l o v e = (l.filter (lateB o v e)).map (·.1) := rfl
theorem late_iff {l : List Crd} {o v : List Vd} {e : Int} (hl : vlC l = true) (ho : vlV o = true) (hv : vlV v = true) (he : inB e 0 1000000 = true) (h : joE o v = 0) {k : Nat} (hk : k < l.length) :
    ((acE l o l[k].1 e == 0) && !(acE l (joL o v) l[k].1 e == 0)) = lateB o v e l[k] := by
  obtain ⟨h1, h2, h3⟩ := hs_at hl hk
  obtain ⟨q, hj⟩ := jo_good ho hv h
  rw [q, acE_zero hl ho h3 he, acE_zero hl hj h3 he, rvB_mrg (vV_iff.1 ho).2 (vV_iff.1 hv).2, h1, h2]
  unfold lateB
  cases inB e l[k].2.2.1 l[k].2.2.2 <;> cases rvB o l[k].1 e <;> cases rvB v l[k].1 e <;> rfl
theorem late_none {l : List Crd} {o v : List Vd} {e : Int} (ho : vlV o = true) (hv : vlV v = true) (h : joE o v = 0) : ltL l (joL o v) v e = [] := by
  obtain ⟨q, hj⟩ := jo_good ho hv h
  rw [q, ltL_eq, List.map_eq_nil_iff, List.filter_eq_nil_iff]
  intro c _
  unfold lateB
  rw [rvB_mrg (vV_iff.1 ho).2 (vV_iff.1 hv).2]
  cases inB e c.2.2.1 c.2.2.2 <;> cases rvB o c.1 e <;> cases rvB v c.1 e <;> simp
theorem ltL_at {l : List Crd} {o v : List Vd} {e : Int} {k : Nat} (hk : k < l.length) : ltL l o v e = ltL (l.take k) o v e ++ ((if lateB o v e l[k] then [l[k].1] else []) ++ ltL (l.drop (k + 1)) o v e) := by
  have e1 : l = l.take k ++ (l[k] :: l.drop (k + 1)) := by rw [← List.drop_eq_getElem_cons hk, List.take_append_drop]
  conv => lhs; rw [e1]
  simp only [ltL_eq, List.filter_append, List.map_append, List.filter_cons]
  congr 1
  split <;> rfl
/-- Lists with one element less. -/
def era {α : Type} (l : List α) (k : Nat) : List α := l.take k ++ l.drop (k + 1)
theorem era_len {α : Type} {l : List α} {k : Nat} (h : k < l.length) : (era l k).length = l.length - 1 := by
  simp [era]; omega
theorem fnd_low {α : Type} {f : α → Int} {n : Int} : ∀ {l : List α}, (∀ x ∈ l, n < f x) → l.find? (fun x => f x == n) = none := fun h => by
  rw [List.find?_eq_none]
  intro x hx
  have := h x hx
  simp
  omega
theorem fnd_ne {α : Type} {f : α → Int} {n : Int} : ∀ {l : List α} {k : Nat} (hk : k < l.length), f l[k] ≠ n → (era l k).find? (fun x => f x == n) = l.find? (fun x => f x == n)
  | [], _, hk, _ => by simp at hk
  | x :: xs, 0, _, h => by
    have h : f x ≠ n := h
    simp [era, List.find?_cons, h]
  | x :: xs, k + 1, hk, h => by
    have hi := fnd_ne (f := f) (n := n) (l := xs) (k := k) (by simpa using hk) (by simpa using h)
    simp only [era, List.take_succ_cons, List.drop_succ_cons, List.cons_append, List.find?_cons] at hi ⊢
    rw [hi]
theorem fnd_eq {α : Type} {f : α → Int} {n : Int} {l : List α} {k : Nat} (hk : k < l.length) (h : f l[k] = n) (hs : ∀ (i j : Nat) (hi : i < l.length) (hj : j < l.length), i < j → f l[i] < f l[j]) : (era l k).find? (fun x => f x == n) = none := by
  rw [List.find?_eq_none]
  intro x hx
  simp only [era, List.mem_append] at hx
  rcases hx with hx | hx
  · obtain ⟨j, hj, rfl⟩ := List.getElem_of_mem hx
    simp only [List.length_take] at hj
    have := hs j k (by omega) hk (by omega)
    simp
    omega
  · obtain ⟨j, hj, rfl⟩ := List.getElem_of_mem hx
    simp only [List.length_drop] at hj
    have := hs k (k + 1 + j) hk (by omega) (by omega)
    simp
    omega
theorem ckC_weak {b c : Int} {l : List Crd} (h : ckC b l = true) (hc : c ≤ b) : ckC c l = true := by
  cases l with
  | nil => rfl
  | cons x xs =>
    simp only [ckC, Bool.and_eq_true, decide_eq_true_eq] at h ⊢
    exact ⟨by omega, h.2⟩
theorem ckC_era : ∀ {l : List Crd} {b : Int} {k : Nat}, ckC b l = true → ckC b (era l k) = true
  | [], _, _, _ => by simp [era, ckC]
  | x :: xs, b, 0, h => by
    simp only [ckC, Bool.and_eq_true, decide_eq_true_eq] at h
    simpa [era] using ckC_weak h.2.2.2 (by omega)
  | x :: xs, b, k + 1, h => by
    simp only [ckC, Bool.and_eq_true, decide_eq_true_eq] at h
    simp only [era, List.take_succ_cons, List.drop_succ_cons, List.cons_append, ckC, Bool.and_eq_true, decide_eq_true_eq]
    exact ⟨h.1, h.2.1, h.2.2.1, ckC_era (k := k) h.2.2.2⟩
theorem ckV_era : ∀ {l : List Vd} {b : Int} {k : Nat}, ckV b l = true → ckV b (era l k) = true
  | [], _, _, _ => by simp [era, ckV]
  | x :: xs, b, 0, h => by
    simp only [ckV, Bool.and_eq_true, decide_eq_true_eq] at h
    simpa [era] using ck_weak h.2.2.2 (by omega)
  | x :: xs, b, k + 1, h => by
    simp only [ckV, Bool.and_eq_true, decide_eq_true_eq] at h
    simp only [era, List.take_succ_cons, List.drop_succ_cons, List.cons_append, ckV, Bool.and_eq_true, decide_eq_true_eq]
    exact ⟨h.1, h.2.1, h.2.2.1, ckV_era (k := k) h.2.2.2⟩
theorem vlC_era {l : List Crd} {k : Nat} (hl : vlC l = true) (hk : k < l.length) : vlC (era l k) = true := by
  have h := vC_iff.1 hl
  exact vC_iff.2 ⟨by rw [era_len hk]; omega, ckC_era h.2⟩
theorem vlV_era {l : List Vd} {k : Nat} (hl : vlV l = true) (hk : k < l.length) : vlV (era l k) = true := by
  have h := vV_iff.1 hl
  exact vV_iff.2 ⟨by rw [era_len hk]; omega, ckV_era h.2⟩
theorem others_ne {l : List Crd} {v : List Vd} {k : Nat} {n e : Int} (hl : vlC l = true) (hk : k < l.length) (h : l[k].1 ≠ n) : acE (era l k) v n e = acE l v n e ∧ acK (era l k) v n e = acK l v n e := by
  have e1 : hsC (era l k) n = hsC l n := by unfold hsC; rw [fnd_ne (f := fun x => x.1) hk h]
  have e2 : fnC (era l k) n = fnC l n := by unfold fnC; rw [fnd_ne (f := fun x => x.1) hk h]
  have q : acE (era l k) v n e = acE l v n e := by unfold acE; rw [vlC_era hl hk, hl, e1, e2]
  exact ⟨q, by unfold acK; rw [q, e2]⟩
theorem others_eq {l : List Crd} {v : List Vd} {k : Nat} {n e : Int} (hl : vlC l = true) (hv : vlV v = true) (hn : inB n 1 1000000 = true) (he : inB e 0 1000000 = true) (hk : k < l.length) (h : l[k].1 = n) : acE (era l k) v n e = 4 := by
  rw [acE_ok (vlC_era hl hk) hv hn he]
  have e1 : hsC (era l k) n = false := by unfold hsC; rw [fnd_eq (f := fun x => x.1) hk h (ckC_lt (vC_iff.1 hl).2)]; rfl
  rw [if_pos e1]
theorem voids_ne {l : List Crd} {v : List Vd} {k : Nat} {n e : Int} (hv : vlV v = true) (hk : k < v.length) (h : v[k].1 ≠ n) : acE l (era v k) n e = acE l v n e ∧ acK l (era v k) n e = acK l v n e := by
  have e1 : rvB (era v k) n e = rvB v n e := by unfold rvB hsV fnV; rw [fnd_ne (f := fun x => x.1) hk h]
  have q : acE l (era v k) n e = acE l v n e := by unfold acE; rw [vlV_era hv hk, hv, e1]
  exact ⟨q, by unfold acK; rw [q]⟩
theorem voids_eq {l : List Crd} {v : List Vd} {k : Nat} {n e : Int} (hv : vlV v = true) (hk : k < v.length) (h : v[k].1 = n) : acE l (era v k) n e ≠ 12 := by
  have e1 : rvB (era v k) n e = false := by unfold rvB hsV fnV; rw [fnd_eq (f := fun x => x.1) hk h (ckV_lt (vV_iff.1 hv).2)]; rfl
  unfold acE
  rw [e1]
  repeat' split
  all_goals first | decide | contradiction
theorem era_of {α : Type} {l : List α} {k : Int} (h0 : 0 ≤ k) (h : k < l.length) : (l.drop (0 : Int).toNat).take (k.toNat - (0 : Int).toNat) ++ (l.drop (k + 1).toNat).take ((List.length l : Int).toNat - (k + 1).toNat) = era l k.toNat := by
  rw [show (0 : Int).toNat = 0 from rfl, List.drop_zero, Nat.sub_zero, show (k + 1).toNat = k.toNat + 1 by omega, Int.toNat_natCast, List.take_of_length_le (l := l.drop (k.toNat + 1)) (by simp)]
  rfl
theorem era_all {α : Type} {l : List α} {k : Int} (h0 : 0 ≤ k) (h : k < l.length) : List.length ((l.drop (0 : Int).toNat).take (k.toNat - (0 : Int).toNat)) + List.length ((l.drop (k + 1).toNat).take ((List.length l : Int).toNat - (k + 1).toNat)) = l.length - 1 ∧ (((([] : List α) ++ ((l.drop (0 : Int).toNat).take (k.toNat - (0 : Int).toNat))) ++ ((l.drop (k + 1).toNat).take ((List.length l : Int).toNat - (k + 1).toNat))).drop 0).take (0 + List.length ((l.drop (0 : Int).toNat).take (k.toNat - (0 : Int).toNat)) + List.length ((l.drop (k + 1).toNat).take ((List.length l : Int).toNat - (k + 1).toNat))) = era l k.toNat := by
  have e := era_of h0 h
  have hl := era_len (l := l) (k := k.toNat) (by omega)
  generalize (l.drop (0 : Int).toNat).take (k.toNat - (0 : Int).toNat) = A at *
  generalize (l.drop (k + 1).toNat).take ((List.length l : Int).toNat - (k + 1).toNat) = B at *
  rw [← e] at hl
  rw [List.length_append] at hl
  refine ⟨hl, ?_⟩
  rw [List.nil_append, List.drop_zero, List.take_of_length_le (by simp only [List.length_append]; omega)]
  exact e
/-- Numbers out of arguments. -/
theorem num_of {x : Int} (h0 : 0 ≤ x) (h1 : x ≤ 4294967295) : (IntKind.i64.wrap (1 + ((IntKind.i64.wrap x).tmod 1000000))) = 1 + x % 1000000 ∧ inB (1 + x % 1000000) 1 1000000 = true := by
  rw [wrapS (x := x) (by omega) (by omega), Int.tmod_eq_emod_of_nonneg h0, wrapS (by omega) (by omega)]
  exact ⟨rfl, inB_iff.2 ⟨by omega, by omega⟩⟩
theorem ep_of {x : Int} (h0 : 0 ≤ x) (h1 : x ≤ 4294967295) : (IntKind.i64.wrap x).tmod 1000001 = x % 1000001 ∧ inB (x % 1000001) 0 1000000 = true := by
  rw [wrapS (x := x) (by omega) (by omega), Int.tmod_eq_emod_of_nonneg h0]
  exact ⟨rfl, inB_iff.2 ⟨by omega, by omega⟩⟩
theorem pk_of {α : Type} {l : List α} {x : Int} (h0 : 0 ≤ x) (h1 : x ≤ 255) (hl : 0 < l.length) : ∃ k : Int, (IntKind.i64.wrap x).tmod (List.length l : Int) = k ∧ 0 ≤ k ∧ k < l.length := by
  refine ⟨_, rfl, ?_⟩
  rw [wrapS (x := x) (by omega) (by omega), Int.tmod_eq_emod_of_nonneg h0]
  exact ⟨Int.emod_nonneg _ (by omega), Int.emod_lt_of_pos _ (by omega)⟩
end Go.Proofs.Ytcpadfehoaopaaa
