/- Cards in plain Lean: what the functions of package cards compute. -/
import Derived.Test.YtcpadfehoaopaaaRows
import Derived.Test.YtcpadfehoaopaaaSxR
namespace Go.Proofs.Ytcpadfehoaopaaa
open Go.Sx

abbrev tC : Ty := .pair (.int .i64) (.pair (.int .i64) (.pair (.int .i64) (.int .i64)))
abbrev tV : Ty := .pair (.int .i64) (.int .i64)
abbrev Crd := Int × Int × Int × Int
abbrev Vd := Int × Int
theorem wrapS {x : Int} (h1 : -9223372036854775808 ≤ x) (h2 : x ≤ 9223372036854775807) : IntKind.i64.wrap x = x := by
  simp [IntKind.wrap, IntKind.bits, IntKind.signed]
  omega
def inB (n a b : Int) : Bool := decide (n ≥ a) && decide (n ≤ b)
theorem inB_iff {n a b : Int} : inB n a b = true ↔ a ≤ n ∧ n ≤ b := by simp [inB]
def cvB (co fi la : Int) : Bool := decide (co ≥ 0) && (decide (co < 32) && (inB fi 0 1000000 && (inB la 0 1000000 && decide (fi ≤ la))))
def gC (l : List Crd) (n : Int) : Crd := l.getD n.toNat (0, 0, 0, 0)
def gV (l : List Vd) (n : Int) : Vd := l.getD n.toNat (0, 0)
theorem gC_eq {l : List Crd} {n : Int} (h : n.toNat < l.length) : gC l n = l[n.toNat] := by simp [gC, List.getD, List.getElem?_eq_getElem h]
theorem gV_eq {l : List Vd} {n : Int} (h : n.toNat < l.length) : gV l n = l[n.toNat] := by simp [gV, List.getD, List.getElem?_eq_getElem h]
theorem gC_step {l : List Crd} {i : Int} (h0 : 0 ≤ i) (h : i < l.length) : l.drop i.toNat = gC l i :: l.drop (i + 1).toNat ∧ l.take (i + 1).toNat = l.take i.toNat ++ [gC l i] := by
  have hlt : i.toNat < l.length := by omega
  rw [gC_eq hlt, show (i + 1).toNat = i.toNat + 1 by omega, List.take_add_one, List.getElem?_eq_getElem hlt, List.drop_eq_getElem_cons hlt]
  exact ⟨rfl, rfl⟩
theorem gV_step {l : List Vd} {i : Int} (h0 : 0 ≤ i) (h : i < l.length) : l.drop i.toNat = gV l i :: l.drop (i + 1).toNat ∧ l.take (i + 1).toNat = l.take i.toNat ++ [gV l i] := by
  have hlt : i.toNat < l.length := by omega
  rw [gV_eq hlt, show (i + 1).toNat = i.toNat + 1 by omega, List.take_add_one, List.getElem?_eq_getElem hlt, List.drop_eq_getElem_cons hlt]
  exact ⟨rfl, rfl⟩
theorem gi_step {l : List Int} {i : Int} (h0 : 0 ≤ i) (h : i < l.length) : l.drop i.toNat = gi l i :: l.drop (i + 1).toNat ∧ l.take (i + 1).toNat = l.take i.toNat ++ [gi l i] := by
  have hlt : i.toNat < l.length := by omega
  rw [gi_eq hlt, show (i + 1).toNat = i.toNat + 1 by omega, List.take_add_one, List.getElem?_eq_getElem hlt, List.drop_eq_getElem_cons hlt]
  exact ⟨rfl, rfl⟩
/-- Valid lists: numbers increase. -/
def ckC : Int → List Crd → Bool
  | _, [] => true
  | b, x :: xs => decide (b < x.1) && (inB x.1 1 1000000 && (cvB x.2.1 x.2.2.1 x.2.2.2 && ckC x.1 xs))
def ckV : Int → List Vd → Bool
  | _, [] => true
  | b, x :: xs => decide (b < x.1) && (inB x.1 1 1000000 && (inB x.2 0 1000000 && ckV x.1 xs))
def vlC (l : List Crd) : Bool := decide (l.length ≤ 64) && ckC 0 l
def vlV (l : List Vd) : Bool := decide (l.length ≤ 64) && ckV 0 l
/-- Numbers increase. -/
theorem ckC_up : ∀ {b : Int} {l : List Crd}, ckC b l = true → ∀ (i : Nat) (h : i < l.length), b < l[i].1 ∧ inB l[i].1 1 1000000 = true ∧ cvB l[i].2.1 l[i].2.2.1 l[i].2.2.2 = true
  | b, [], _, i, h => by simp at h
  | b, x :: xs, hc, i, h => by
    simp only [ckC, Bool.and_eq_true, decide_eq_true_eq] at hc
    cases i with
    | zero => exact ⟨hc.1, hc.2.1, hc.2.2.1⟩
    | succ i =>
      obtain ⟨h1, h2, h3⟩ := ckC_up hc.2.2.2 i (by simpa using h)
      exact ⟨by simp only [List.getElem_cons_succ]; omega, h2, h3⟩
theorem ckC_lt : ∀ {b : Int} {l : List Crd}, ckC b l = true → ∀ (i j : Nat) (hi : i < l.length) (hj : j < l.length), i < j → l[i].1 < l[j].1
  | b, [], _, i, _, h, _, _ => by simp at h
  | b, x :: xs, hc, i, j, hi, hj, hij => by
    simp only [ckC, Bool.and_eq_true, decide_eq_true_eq] at hc
    cases j with
    | zero => omega
    | succ j =>
      cases i with
      | zero => exact (ckC_up hc.2.2.2 j (by simpa using hj)).1
      | succ i => exact ckC_lt hc.2.2.2 i j (by simpa using hi) (by simpa using hj) (by omega)
theorem ckV_up : ∀ {b : Int} {l : List Vd}, ckV b l = true → ∀ (i : Nat) (h : i < l.length), b < l[i].1 ∧ inB l[i].1 1 1000000 = true ∧ inB l[i].2 0 1000000 = true
  | b, [], _, i, h => by simp at h
  | b, x :: xs, hc, i, h => by
    simp only [ckV, Bool.and_eq_true, decide_eq_true_eq] at hc
    cases i with
    | zero => exact ⟨hc.1, hc.2.1, hc.2.2.1⟩
    | succ i =>
      obtain ⟨h1, h2, h3⟩ := ckV_up hc.2.2.2 i (by simpa using h)
      exact ⟨by simp only [List.getElem_cons_succ]; omega, h2, h3⟩
theorem ckV_lt : ∀ {b : Int} {l : List Vd}, ckV b l = true → ∀ (i j : Nat) (hi : i < l.length) (hj : j < l.length), i < j → l[i].1 < l[j].1
  | b, [], _, i, _, h, _, _ => by simp at h
  | b, x :: xs, hc, i, j, hi, hj, hij => by
    simp only [ckV, Bool.and_eq_true, decide_eq_true_eq] at hc
    cases j with
    | zero => omega
    | succ j =>
      cases i with
      | zero => exact (ckV_up hc.2.2.2 j (by simpa using hj)).1
      | succ i => exact ckV_lt hc.2.2.2 i j (by simpa using hi) (by simpa using hj) (by omega)
theorem ckC_of : ∀ {b : Int} {l : List Crd}, (∀ (j : Nat) (h : j < l.length), inB l[j].1 1 1000000 = true ∧ cvB l[j].2.1 l[j].2.2.1 l[j].2.2.2 = true) → (∀ h : 0 < l.length, b < l[0].1) → (∀ (j : Nat) (h : j + 1 < l.length), l[j].1 < l[j + 1].1) → ckC b l = true
  | _, [], _, _, _ => rfl
  | b, x :: xs, h1, h2, h3 => by
    simp only [ckC, Bool.and_eq_true, decide_eq_true_eq]
    obtain ⟨a1, a2⟩ := h1 0 (by simp)
    exact ⟨h2 (by simp), a1, a2, ckC_of (fun j h => h1 (j + 1) (by simpa using h)) (fun h => h3 0 (by simpa using h)) (fun j h => h3 (j + 1) (by simpa using h))⟩
theorem ckV_of : ∀ {b : Int} {l : List Vd}, (∀ (j : Nat) (h : j < l.length), inB l[j].1 1 1000000 = true ∧ inB l[j].2 0 1000000 = true) → (∀ h : 0 < l.length, b < l[0].1) → (∀ (j : Nat) (h : j + 1 < l.length), l[j].1 < l[j + 1].1) → ckV b l = true
  | _, [], _, _, _ => rfl
  | b, x :: xs, h1, h2, h3 => by
    simp only [ckV, Bool.and_eq_true, decide_eq_true_eq]
    obtain ⟨a1, a2⟩ := h1 0 (by simp)
    exact ⟨h2 (by simp), a1, a2, ckV_of (fun j h => h1 (j + 1) (by simpa using h)) (fun h => h3 0 (by simpa using h)) (fun j h => h3 (j + 1) (by simpa using h))⟩
/-- The element with a number. -/
def fnC (l : List Crd) (n : Int) : Crd := (l.find? (fun x => x.1 == n)).getD (0, 0, 0, 0)
def hsC (l : List Crd) (n : Int) : Bool := (l.find? (fun x => x.1 == n)).isSome
def fnV (l : List Vd) (n : Int) : Vd := (l.find? (fun x => x.1 == n)).getD (0, 0)
def hsV (l : List Vd) (n : Int) : Bool := (l.find? (fun x => x.1 == n)).isSome
theorem find_at {α : Type} {f : α → Int} {l : List α} {n : Int} {k : Nat} (hk : k < l.length) (h : f l[k] = n) (hlt : ∀ (j : Nat) (hj : j < l.length), j < k → f l[j] < n) : l.find? (fun x => f x == n) = some l[k] := by
  rw [List.find?_eq_some_iff_getElem]
  refine ⟨by simp [h], k, hk, rfl, fun j hj => ?_⟩
  have := hlt j (by omega) hj
  simp
  omega
theorem find_no {α : Type} {f : α → Int} {l : List α} {n : Int} {k : Nat} (hk : k ≤ l.length) (h : ∀ hk : k < l.length, f l[k] ≠ n) (hlt : ∀ (j : Nat) (hj : j < l.length), j < k → f l[j] < n) (hge : ∀ (j : Nat) (hj : j < l.length), k ≤ j → n ≤ f l[j])
    (hs : ∀ (i j : Nat) (hi : i < l.length) (hj : j < l.length), i < j → f l[i] < f l[j]) : l.find? (fun x => f x == n) = none := by
  rw [List.find?_eq_none]
  intro x hx
  obtain ⟨j, hj, rfl⟩ := List.getElem_of_mem hx
  simp
  intro e
  by_cases h1 : j < k
  · have := hlt j hj h1; omega
  · by_cases h2 : j = k
    · subst h2; exact h hj e
    · have hkl : k < l.length := by omega
      have g1 := hs k j hkl hj (by omega)
      have g2 := hge k hkl (Nat.le_refl _)
      omega
/-- What is revoked. -/
def rvB (l : List Vd) (n e : Int) : Bool := hsV l n && decide ((fnV l n).2 ≤ e)
/-- Two lists merged. -/
def mrgN : Nat → List Vd → List Vd → List Vd
  | 0, a, b => a ++ b
  | _ + 1, [], b => b
  | _ + 1, a, [] => a
  | k + 1, x :: a, y :: b => if x.1 < y.1 then x :: mrgN k a (y :: b) else if y.1 < x.1 then y :: mrgN k (x :: a) b else (if y.2 < x.2 then y else x) :: mrgN k a b
def mrg (a b : List Vd) : List Vd := mrgN (a.length + b.length) a b
theorem mrgN_more : ∀ (k j : Nat) (a b : List Vd), a.length + b.length ≤ k → a.length + b.length ≤ j → mrgN k a b = mrgN j a b
  | 0, j, [], [], _, _ => by cases j <;> rfl
  | 0, _, x :: a, b, h, _ => by simp at h
  | 0, _, [], y :: b, h, _ => by simp at h
  | k + 1, 0, [], [], _, _ => rfl
  | k + 1, 0, x :: a, b, _, h => by simp at h
  | k + 1, 0, [], y :: b, _, h => by simp at h
  | k + 1, j + 1, [], b, _, _ => by cases b <;> rfl
  | k + 1, j + 1, x :: a, [], _, _ => rfl
  | k + 1, j + 1, x :: a, y :: b, h1, h2 => by
    simp only [List.length_cons] at h1 h2
    simp only [mrgN]
    rw [mrgN_more k j a (y :: b) (by simp; omega) (by simp; omega), mrgN_more k j (x :: a) b (by simp; omega) (by simp; omega), mrgN_more k j a b (by omega) (by omega)]
theorem mrg_nil (b : List Vd) : mrg [] b = b := by
  cases b with
  | nil => rfl
  | cons y b => simp [mrg, mrgN]
theorem mrg_nil' (a : List Vd) : mrg a [] = a := by
  cases a with
  | nil => rfl
  | cons x a => simp [mrg, mrgN]
theorem mrg_cons (x y : Vd) (a b : List Vd) : mrg (x :: a) (y :: b) = if x.1 < y.1 then x :: mrg a (y :: b) else if y.1 < x.1 then y :: mrg (x :: a) b else (if y.2 < x.2 then y else x) :: mrg a b := by
  unfold mrg
  have e : (x :: a).length + (y :: b).length = (a.length + (y :: b).length) + 1 := by simp; omega
  rw [e]
  simp only [mrgN]
  rw [mrgN_more (a.length + (y :: b).length) ((x :: a).length + b.length) (x :: a) b (by simp only [List.length_cons]; omega) (Nat.le_refl _), mrgN_more (a.length + (y :: b).length) (a.length + b.length) a b (by simp only [List.length_cons]; omega) (Nat.le_refl _)]
/-- Whether, and for which contract, a card is accepted. -/
def acE (l : List Crd) (v : List Vd) (n e : Int) : Int :=
  if vlC l = false ∨ vlV v = false ∨ inB n 1 1000000 = false ∨ inB e 0 1000000 = false then 1 else if hsC l n = false then 4 else if inB e (fnC l n).2.2.1 (fnC l n).2.2.2 = false then 15 else if rvB v n e = true then 12 else 0
def acK (l : List Crd) (v : List Vd) (n e : Int) : Int := if acE l v n e = 0 then (fnC l n).2.1 else 0
/-- Cards that are still accepted. -/
def ltL (l : List Crd) (o v : List Vd) (e : Int) : List Int := (l.filter (fun c => inB e c.2.2.1 c.2.2.2 && (!rvB o c.1 e && rvB v c.1 e))).map (·.1)
/-- What the reference does. -/
def fiI (l : List Crd) (n : Int) : Int := if hsC l n = true then (l.findIdx (fun x => x.1 == n) : Int) else -1
def rvA (l : List Vd) (n e : Int) : Bool := l.any (fun v => v.1 == n && decide (v.2 ≤ e))
def putG : Bool → List Vd → Vd → List Vd
  | d, [], v => if d then [] else [v]
  | d, x :: xs, v => if x.1 = v.1 then (v.1, if x.2 < v.2 then x.2 else v.2) :: putG true xs v else if d = false ∧ v.1 < x.1 then v :: x :: putG true xs v else x :: putG d xs v
def putF (l : List Vd) (v : Vd) : List Vd := putG false l v
theorem putG_len1 : ∀ (l : List Vd) (v : Vd), (putG true l v).length ≤ l.length
  | [], v => by simp [putG]
  | x :: xs, v => by
    simp only [putG]
    have := putG_len1 xs v
    split
    · simp; omega
    · simp; omega
theorem putG_len : ∀ (d : Bool) (l : List Vd) (v : Vd), (putG d l v).length ≤ l.length + 1
  | d, [], v => by simp only [putG]; split <;> simp
  | d, x :: xs, v => by
    simp only [putG]
    have h2 := putG_len d xs v
    have h3 := putG_len1 xs v
    split
    · simp; omega
    · split
      · simp; omega
      · simp; omega
theorem first_at {l : List Crd} {n : Int} {k : Nat} (hk : k < l.length) (h : l[k].1 = n) (hne : ∀ (j : Nat) (hj : j < l.length), j < k → l[j].1 ≠ n) : hsC l n = true ∧ fiI l n = k ∧ fnC l n = l[k] := by
  have hf : l.find? (fun x => x.1 == n) = some l[k] := by
    rw [List.find?_eq_some_iff_getElem]
    exact ⟨by simp [h], k, hk, rfl, fun j hj => by simpa using hne j (by omega) hj⟩
  have hh : hsC l n = true := by simp [hsC, hf]
  refine ⟨hh, ?_, by simp [fnC, hf]⟩
  unfold fiI
  rw [if_pos hh]
  congr 1
  rw [List.findIdx_eq hk]
  exact ⟨by simp [h], fun j hj => by simpa using hne j (by omega) hj⟩
theorem first_no {l : List Crd} {n : Int} (hne : ∀ (j : Nat) (hj : j < l.length), l[j].1 ≠ n) : hsC l n = false ∧ fiI l n = -1 := by
  have hf : l.find? (fun x => x.1 == n) = none := by
    rw [List.find?_eq_none]
    intro x hx
    obtain ⟨j, hj, rfl⟩ := List.getElem_of_mem hx
    simpa using hne j hj
  have hh : hsC l n = false := by simp [hsC, hf]
  exact ⟨hh, by simp [fiI, hh]⟩
theorem fiI_at {l : List Crd} {n : Int} (h : hsC l n = true) : 0 ≤ fiI l n ∧ fiI l n < l.length ∧ gC l (fiI l n) = fnC l n := by
  have hx : ∃ x, l.find? (fun x => x.1 == n) = some x := by unfold hsC at h; exact Option.isSome_iff_exists.1 h
  obtain ⟨x, hx⟩ := hx
  obtain ⟨p, k, hk, hkx, hlt⟩ := List.find?_eq_some_iff_getElem.1 hx
  have p : x.1 = n := by simpa using p
  obtain ⟨h1, h2, h3⟩ := first_at (l := l) (n := n) hk (by rw [hkx]; exact p) (fun j hj hjk => by simpa using hlt j hjk)
  rw [h2, h3, gC_eq (by simpa using hk)]
  exact ⟨by omega, by omega, by simp⟩
theorem rvA_eq : ∀ {b : Int} {l : List Vd} {n e : Int}, ckV b l = true → rvA l n e = rvB l n e := fun {b l n e} hc => by
  unfold rvA rvB hsV fnV
  cases hf : l.find? (fun x => x.1 == n) with
  | none =>
    simp only [Option.isSome_none, Bool.false_and]
    rw [List.find?_eq_none] at hf
    rw [List.any_eq_false]
    intro x hx
    have := hf x hx
    simp at this ⊢
    intro h; exact absurd h this
  | some x =>
    obtain ⟨p, k, hk, hkx, hlt⟩ := List.find?_eq_some_iff_getElem.1 hf
    have p : x.1 = n := by simpa using p
    simp only [Option.isSome_some, Option.getD_some, Bool.true_and]
    by_cases he : x.2 ≤ e
    · simp only [he, decide_true]
      rw [List.any_eq_true]
      exact ⟨x, by rw [← hkx]; exact List.getElem_mem hk, by simp [p, he]⟩
    · simp only [he, decide_false]
      rw [List.any_eq_false]
      intro y hy
      obtain ⟨j, hj, rfl⟩ := List.getElem_of_mem hy
      simp
      intro hn
      have hjk : j = k := by
        rcases Nat.lt_trichotomy j k with h | h | h
        · have := ckV_lt hc j k hj hk h; rw [hkx] at this; omega
        · exact h
        · have := ckV_lt hc k j hk hj h; rw [hkx] at this; omega
      subst hjk
      rw [hkx]
      omega
/-- The reference's Join. -/
def rjF (a b : List Vd) : List Vd := b.foldl putF a
theorem rjF_len : ∀ (b a : List Vd), (rjF a b).length ≤ a.length + b.length
  | [], a => by simp [rjF]
  | x :: b, a => by
    have h1 := rjF_len b (putF a x)
    have h2 := putG_len false a x
    simp only [rjF, List.foldl_cons, putF] at *
    simp
    omega
theorem rjF_take {a b : List Vd} {i : Int} (h0 : 0 ≤ i) (h : i < b.length) : rjF a (b.take (i + 1).toNat) = putF (rjF a (b.take i.toNat)) (gV b i) := by
  rw [(gV_step h0 h).2]
  simp [rjF]
/-- Join and Late, each as one outcome. -/
def joL (a b : List Vd) : List Vd := if vlV a && vlV b then (if 64 < ((mrg a b).length : Int) then [] else mrg a b) else []
def joE (a b : List Vd) : Int := if vlV a && vlV b then (if 64 < ((mrg a b).length : Int) then 2 else 0) else 1
def rjL (a b : List Vd) : List Vd := if vlV a && vlV b then (if 64 < ((rjF a b).length : Int) then [] else rjF a b) else []
def rjE (a b : List Vd) : Int := if vlV a && vlV b then (if 64 < ((rjF a b).length : Int) then 2 else 0) else 1
def ltM (l : List Crd) (o v : List Vd) (e : Int) : List Int := if vlC l && (vlV o && (vlV v && inB e 0 1000000)) then ltL l o v e else []
def ltE (l : List Crd) (o v : List Vd) (e : Int) : Int := if vlC l && (vlV o && (vlV v && inB e 0 1000000)) then 0 else 1
theorem jo_of {a b : List Vd} {K : List Vd → Int → Prop} (h : K (joL a b) (joE a b)) : ((vlV a && vlV b) = true → (decide (64 < (List.length (mrg a b) : Int)) = true → K [] 2) ∧ (decide (64 < (List.length (mrg a b) : Int)) = false → K (mrg a b) 0)) ∧ ((vlV a && vlV b) = false → K [] 1) := by
  unfold joL joE at h
  refine ⟨fun c => ⟨fun d => ?_, fun d => ?_⟩, fun c => ?_⟩
  · have d := of_decide_eq_true d
    simpa [c, d] using h
  · have d := of_decide_eq_false d
    simpa [c, d] using h
  · simpa [c] using h
theorem rj_of {a b : List Vd} {K : List Vd → Int → Prop} (h : K (rjL a b) (rjE a b)) : ((vlV a && vlV b) = true → (decide (64 < (List.length (rjF a b) : Int)) = true → K [] 2) ∧ (decide (64 < (List.length (rjF a b) : Int)) = false → K (rjF a b) 0)) ∧ ((vlV a && vlV b) = false → K [] 1) := by
  unfold rjL rjE at h
  refine ⟨fun c => ⟨fun d => ?_, fun d => ?_⟩, fun c => ?_⟩
  · have d := of_decide_eq_true d
    simpa [c, d] using h
  · have d := of_decide_eq_false d
    simpa [c, d] using h
  · simpa [c] using h
theorem lt_of {l : List Crd} {o v : List Vd} {e : Int} {K : List Int → Int → Prop} (h : K (ltM l o v e) (ltE l o v e)) : ((vlC l && (vlV o && (vlV v && inB e 0 1000000))) = true → K (ltL l o v e) 0) ∧ ((vlC l && (vlV o && (vlV v && inB e 0 1000000))) = false → K [] 1) := by
  unfold ltM ltE at h
  exact ⟨fun c => by simpa only [c, if_true] using h, fun c => by simpa only [c, if_false, Bool.false_eq_true] using h⟩
end Go.Proofs.Ytcpadfehoaopaaa
