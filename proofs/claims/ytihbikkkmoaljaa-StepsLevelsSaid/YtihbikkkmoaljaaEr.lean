/- Levels, orders, rows of the reference, in plain Lean. -/
import Derived.Test.YtihbikkkmoaljaaEp
namespace Go.Proofs.Ytihbikkkmoaljaa
open Go.Sx
theorem lev_iff {mi ma st a k : Int} (hh : hasL mi ma st = true) (ha : 0 ≤ a) (h0 : 0 ≤ k) (h1 : k < lvs mi ma st) : amL mi st k ≤ a ↔ k ≤ lev mi ma st a := by
 obtain ⟨g1, g2, g3, g4, g5⟩ := hasL_iff.1 hh
 have hn : ¬ (hasL mi ma st = false ∨ a < 0) := by simp [hh]; omega
 unfold lev
 rw [if_neg hn]
 unfold amL
 by_cases e : k = 0
 ·subst e
  simp only [if_true]
  split
  ·omega
  ·have := div_bd (x := a - mi) (st := st) (by omega) (by omega)
   omega
 ·rw [if_neg e]
  have hp : 0 ≤ (k - 1) * st := Int.mul_nonneg (by omega) (by omega)
  split
  ·omega
  ·have := (Int.le_ediv_iff_mul_le (a := k - 1) (b := a - mi) (c := st) (by omega))
   omega
theorem lev_lt {mi ma st a : Int} (hh : hasL mi ma st = true) : lev mi ma st a < lvs mi ma st := by
 have := lvs_pos hh
 unfold lev
 split
 ·omega
 ·split <;> omega
theorem lev_nonneg {mi ma st a : Int} (hh : hasL mi ma st = true) (ha : 0 ≤ a) : 0 ≤ lev mi ma st a := by
 have := lvs_pos hh
 obtain ⟨g1, g2, g3, g4, g5⟩ := hasL_iff.1 hh
 have hn : ¬ (hasL mi ma st = false ∨ a < 0) := by simp [hh]; omega
 unfold lev
 rw [if_neg hn]
 split
 ·omega
 ·have := div_bd (x := a - mi) (st := st) (by omega) (by omega)
  omega
/-! Orders. -/
def ordR (l : List Int) (n : Int) : Bool := decide ((l.length : Int) = n) && rgA n.toNat (fun i => l.contains i)
theorem once_nodup {l : List Int} : once l = true ↔ l.Nodup := by
 rw [once_iff, List.nodup_iff_pairwise_ne, List.pairwise_iff_getElem]
 constructor
 ·intro h i j hi hj hij e
  exact h j hj (by rw [← e, List.mem_iff_getElem]; exact ⟨i, by rw [List.length_take]; omega, by simp⟩)
 ·intro h j hj hm
  obtain ⟨i, hi, e⟩ := List.mem_iff_getElem.1 hm
  rw [List.length_take] at hi
  have : l[i] = l[j] := by simpa using e
  exact h i j (by omega) hj (by omega) this
theorem nodup_of_cover : ∀ {r l : List Int}, r.Nodup → (∀ x ∈ r, x ∈ l) → r.length = l.length → l.Nodup ∧ ∀ x ∈ l, x ∈ r
 | [], l, _, _, h => by
  have : l = [] := List.length_eq_zero_iff.1 h.symm
  subst this
  simp
 | x :: r, l, hn, hs, h => by
  obtain ⟨n1, n2⟩ := List.nodup_cons.1 hn
  have hx := hs x (by simp)
  have hp := List.perm_cons_erase hx
  have hl : (l.erase x).length = l.length - 1 := List.length_erase_of_mem hx
  obtain ⟨i1, i2⟩ := nodup_of_cover (l := l.erase x) n2 (fun y hy => by
   have hy2 := hs y (by simp [hy])
   have hne : y ≠ x := fun e => n1 (e ▸ hy)
   exact (List.mem_erase_of_ne hne).2 hy2) (by rw [hl]; simp only [List.length_cons] at h; omega)
  refine ⟨hp.nodup_iff.2 (List.nodup_cons.2 ⟨fun hm => n1 (i2 x hm), i1⟩), fun y hy => ?_⟩
  by_cases e : y = x
  ·simp [e]
  ·exact List.mem_cons_of_mem _ (i2 y ((List.mem_erase_of_ne e).2 hy))
def rngL (n : Nat) : List Int := (List.range n).map (fun k : Nat => (k : Int))
theorem rngL_nodup {n : Nat} : (rngL n).Nodup := List.Pairwise.map _ (fun a b h => by omega) List.nodup_range
theorem rngL_mem {n : Nat} {x : Int} : x ∈ rngL n ↔ 0 ≤ x ∧ x < (n : Int) := by
 unfold rngL
 rw [List.mem_map]
 constructor
 ·rintro ⟨k, hk, rfl⟩
  have := List.mem_range.1 hk
  omega
 ·rintro ⟨h1, h2⟩
  exact ⟨x.toNat, List.mem_range.2 (by omega), by omega⟩
theorem rngL_length {n : Nat} : (rngL n).length = n := by simp [rngL]
theorem isOrd_iff {l : List Int} {n : Nat} : isOrd l n = true ↔ l.length = n ∧ l.Nodup ∧ ∀ i ∈ l, 0 ≤ i ∧ i < (n : Int) := by
 unfold isOrd
 simp only [Bool.and_eq_true, decide_eq_true_eq, List.all_eq_true, rngB_iff, once_nodup]
 constructor
 ·rintro ⟨h1, h2, h3⟩; exact ⟨by omega, h3, h2⟩
 ·rintro ⟨h1, h2, h3⟩; exact ⟨by omega, h3, h2⟩
theorem isOrd_all {l : List Int} {n : Nat} (h : isOrd l n = true) {i : Int} (h0 : 0 ≤ i) (h1 : i < (n : Int)) : i ∈ l := by
 obtain ⟨g1, g2, g3⟩ := isOrd_iff.1 h
 exact (nodup_of_cover g2 (l := rngL n) (fun x hx => rngL_mem.2 (g3 x hx)) (by rw [rngL_length]; exact g1)).2 i (rngL_mem.2 ⟨h0, h1⟩)
theorem ordR_eq {l : List Int} {n : Nat} : ordR l n = isOrd l n := by
 rw [Bool.eq_iff_iff, isOrd_iff]
 unfold ordR
 simp only [Bool.and_eq_true, decide_eq_true_eq, rgA_iff, Int.toNat_natCast, List.contains_iff_mem]
 constructor
 ·rintro ⟨h1, h2⟩
  have hl : l.length = n := by omega
  obtain ⟨c1, c2⟩ := nodup_of_cover rngL_nodup (l := l) (r := rngL n) (fun x hx => by
   have := rngL_mem.1 hx
   have h := h2 x.toNat (by omega)
   rwa [Int.toNat_of_nonneg this.1] at h) (by rw [rngL_length]; exact hl.symm)
  exact ⟨hl, c1, fun i hi => rngL_mem.1 (c2 i hi)⟩
 ·rintro ⟨h1, h2, h3⟩
  refine ⟨by omega, fun j hj => ?_⟩
  exact isOrd_all (isOrd_iff.2 ⟨h1, h2, h3⟩) (by omega) hj
/-! Rows. -/
def smM (al am ms : List Int) : Int := (ms.map (fun m => mx (gi al m) (gi am m))).sum
def rowB (al am : List Int) (r : Rw) : Bool := r.2.all (fun m => gi am m == 0) || decide (smM al am r.2 ≤ r.1)
def permB (rows : List Rw) (al am : List Int) : Bool := rows.all (rowB al am)
def rowR (al am : List Int) (r : Rw) : Prop := (r.2.length : Int) ≤ 1000 ∧ (∀ m ∈ r.2, 0 ≤ m ∧ m < (al.length : Int) ∧ m < (am.length : Int)) ∧ (∀ a ∈ al, 0 ≤ a ∧ a ≤ 1000000) ∧ ∀ a ∈ am, 0 ≤ a ∧ a ≤ 1000000
theorem smM_cons {al am ms : List Int} {m : Int} : smM al am (m :: ms) = mx (gi al m) (gi am m) + smM al am ms := by simp [smM]
theorem mx_bd {a b : Int} (ha : 0 ≤ a ∧ a ≤ 1000000) (hb : 0 ≤ b ∧ b ≤ 1000000) : 0 ≤ mx a b ∧ mx a b ≤ 1000000 := by
 unfold mx
 split <;> omega
end Go.Proofs.Ytihbikkkmoaljaa
namespace Go.Proofs.Ytihbikkkmoaljaa
open Go.Sx
theorem nt {b : Bool} (h : (!b) = true) : b = false := by cases b <;> simp_all
theorem nf {b : Bool} (h : (!b) = false) : b = true := by cases b <;> simp_all
def amAC (gs : List Ch) (i k : Int) : Int := amA (gCh gs i).2.2.2.1 (gCh gs i).2.2.2.2.1 (gCh gs i).2.2.2.2.2.1 k
def amEC (gs : List Ch) (i k : Int) : Int := amE (gCh gs i).2.2.2.1 (gCh gs i).2.2.2.2.1 (gCh gs i).2.2.2.2.2.1 k
theorem amA_bd {mi ma st k : Int} : 0 ≤ amA mi ma st k ∧ amA mi ma st k ≤ 6480 := by
 unfold amA
 split
 ·omega
 ·have hb := lvs_bd (mi := mi) (ma := ma) (st := st)
  have hh := hasL_iff.1 (has_of (mi := mi) (ma := ma) (st := st) (k := k) (by omega) (by omega))
  exact amL_bd (by omega) (by omega) (by omega)
structure RfOk (rows : List Rw) (gs : List Ch) (al mo od : List Int) : Prop where
 ol : (od.length : Int) ≤ 1000
 ord : ∀ i ∈ od, 0 ≤ i ∧ i < (gs.length : Int)
 rl : (rows.length : Int) ≤ 1000
 all : al.length = gs.length
 mol : mo.length = gs.length
 row : ∀ r ∈ rows, (r.2.length : Int) ≤ 1000 ∧ ∀ m ∈ r.2, 0 ≤ m ∧ m < (gs.length : Int)
 al : ∀ a ∈ al, 0 ≤ a ∧ a ≤ 1000000
structure OuOk (gs : List Ch) (out : List Int) : Prop where
 len : out.length = gs.length
 bd : ∀ a ∈ out, 0 ≤ a ∧ a ≤ 1000000
theorem RfOk.rowR {rows : List Rw} {gs : List Ch} {al mo od out : List Int} (h : RfOk rows gs al mo od) (ho : OuOk gs out) : ∀ r ∈ rows, rowR al out r := fun r hr =>
 ⟨(h.row r hr).1, fun m hm => by
  have := (h.row r hr).2 m hm
  have := h.all
  have := ho.len
  omega, h.al, ho.bd⟩
theorem OuOk.put {gs : List Ch} {out : List Int} (h : OuOk gs out) {k : Nat} {v : Int} (hv : 0 ≤ v ∧ v ≤ 1000000) : OuOk gs (out.set k v) :=
 ⟨by rw [List.length_set]; exact h.len, fun a ha => by
  rcases List.mem_or_eq_of_mem_set ha with h2 | h2
  ·exact h.bd a h2
  ·rw [h2]; exact hv⟩
def rfS (rows : List Rw) (gs : List Ch) (al mo : List Int) (level : Int) (out : List Int) (i : Int) : List Int :=
 if (amEC gs i level != 0) = true then out else
 if (decide (amAC gs i level > gi mo i) || (out.getD i.toNat 0 != amAC gs i (level - 1))) = true then out else
 if permB rows al (out.set i.toNat (amAC gs i level)) = true then out.set i.toNat (amAC gs i level) else out
theorem rfS_ok {rows : List Rw} {gs : List Ch} {al mo out : List Int} {level i : Int} (h : OuOk gs out) : OuOk gs (rfS rows gs al mo level out i) := by
 unfold rfS
 split
 ·exact h
 ·split
  ·exact h
  ·split
   ·have := amA_bd (mi := (gCh gs i).2.2.2.1) (ma := (gCh gs i).2.2.2.2.1) (st := (gCh gs i).2.2.2.2.2.1) (k := level)
    exact h.put (by unfold amAC; omega)
   ·exact h
def rfW (rows : List Rw) (gs : List Ch) (al mo : List Int) (level : Int) (out l : List Int) : List Int := l.foldl (rfS rows gs al mo level) out
theorem rfW_ok {rows : List Rw} {gs : List Ch} {al mo : List Int} {level : Int} : ∀ {l out : List Int}, OuOk gs out → OuOk gs (rfW rows gs al mo level out l)
 | [], _, h => h
 | _ :: l, _, h => rfW_ok (l := l) (rfS_ok h)
theorem rfW_cons {rows : List Rw} {gs : List Ch} {al mo out l : List Int} {level i : Int} : rfW rows gs al mo level out (i :: l) = rfW rows gs al mo level (rfS rows gs al mo level out i) l := rfl
def rfL (rows : List Rw) (gs : List Ch) (al mo od : List Int) : Nat → Int → List Int → List Int
 | 0, _, out => out
 | f + 1, level, out => rfL rows gs al mo od f (level + 1) (rfW rows gs al mo level out od)
def rfO (rows : List Rw) (gs : List Ch) (al mo od : List Int) : List Int := rfL rows gs al mo od 80 1 (List.replicate gs.length 0)
theorem put_back {out : List Int} {k : Nat} {v : Int} (h : k < out.length) : (out.set k v).set k (out.getD k 0) = out := by
 rw [List.set_set, List.getD_eq_getElem?_getD, List.getElem?_eq_getElem h, Option.getD_some, List.set_getElem_self]
theorem rep_ok {gs : List Ch} : OuOk gs (List.replicate gs.length 0) :=
 ⟨List.length_replicate, fun a ha => by rw [List.eq_of_mem_replicate ha]; omega⟩
def fewB (cs : List Cd) (os : List ByteArray) (ks : List Ko) (gs : List Ch) (bs : List Ba) (a b c : List Int) : Bool := decide (List.length cs ≤ 40 ∧ List.length os ≤ 40 ∧ List.length ks ≤ 40 ∧ List.length gs ≤ 40 ∧ List.length bs ≤ 40) && (decide ((List.length a : Int) ≤ 40) && (decide ((List.length b : Int) ≤ 40) && decide ((List.length c : Int) ≤ 40)))
def shLR (cs : List Cd) (os : List ByteArray) (ks : List Ko) (gs : List Ch) (bs : List Ba) (al mo od : List Int) : List Int := if shOk cs os ks gs bs al mo od = true then rfO (rowN cs gs cs.length) gs al mo od else []
theorem rf_ok {cs : List Cd} {os : List ByteArray} {ks : List Ko} {gs : List Ch} {bs : List Ba} {al mo od : List Int} (h : shOk cs os ks gs bs al mo od = true) : RfOk (rowN cs gs cs.length) gs al mo od := by
 obtain ⟨hv, h1, h2, h3, h4, h5⟩ := shOk_iff.1 h
 have hl := (siteV_iff.1 hv).1
 obtain ⟨o1, o2, o3⟩ := isOrd_iff.1 h5
 refine ⟨by omega, o3, ?_, h1, h2, fun r hr => ?_, fun a ha => ?_⟩
 ·have := rowN_len (cs := cs) (gs := gs) (k := cs.length)
  omega
 ·obtain ⟨m1, m2, m3, _⟩ := row_mem hr
  exact ⟨by omega, m2⟩
 ·have := curB_iff.1 (List.all_eq_true.1 h3 a ha)
  omega
end Go.Proofs.Ytihbikkkmoaljaa
namespace Go.Proofs.Ytihbikkkmoaljaa
open Go.Sx
def benC (i : Int) : Ch := (Utf8.encode (IntKind.i32.wrap (IntKind.i64.wrap (112 + i))), 0, 1, 6, 32, 2, 0, 0)
def benG (n : Nat) : List Ch := (List.range n).map (fun j : Nat => benC (j : Int))
theorem benG_succ {n : Nat} : benG (n + 1) = benG n ++ [benC (n : Int)] := by simp [benG, List.range_succ]
theorem benG_len {n : Nat} : (benG n).length = n := by simp [benG]
def benK (lim : Int) : List Cd := [(ByteArray.mk #[102], -1, lim, lim, (0, 0), 0, 0, 0, 0, 0)]
def benO : List ByteArray := [ByteArray.mk #[111]]
def givB (lim : Int) (al mo wa : List Int) : Bool := (shE (benK lim) benO [] (benG wa.length) [] al mo ([(0 : Int), 1, 2].take wa.length) == 0) && (shL (benK lim) benO [] (benG wa.length) [] al mo ([(0 : Int), 1, 2].take wa.length) == wa)
theorem shL_len {cs : List Cd} {os : List ByteArray} {ks : List Ko} {gs : List Ch} {bs : List Ba} {al mo od : List Int} : (shL cs os ks gs bs al mo od).length ≤ gs.length := by
 unfold shL amsL
 split
 ·simp
 ·simp
def useB (cs : List Cd) (os : List ByteArray) (ks : List Ko) (gs : List Ch) (bs : List Ba) (al mo od : List Int) : Bool := fewB cs os ks gs bs al mo od && shOk cs os ks gs bs al mo od
theorem fewB_len {cs : List Cd} {os : List ByteArray} {ks : List Ko} {gs : List Ch} {bs : List Ba} {a b c : List Int} (h : fewB cs os ks gs bs a b c = true) : (cs.length ≤ 40 ∧ os.length ≤ 40 ∧ ks.length ≤ 40 ∧ gs.length ≤ 40 ∧ bs.length ≤ 40) ∧ a.length ≤ 40 ∧ b.length ≤ 40 ∧ c.length ≤ 40 := by
 unfold fewB at h
 simp only [Bool.and_eq_true, decide_eq_true_eq] at h
 omega
theorem no_of {b : Bool} (h : b = true → False) : b = false := by
 cases b with
 | true => exact (h rfl).elim
 | false => rfl
end Go.Proofs.Ytihbikkkmoaljaa
namespace Go.Proofs.Ytihbikkkmoaljaa
open Go.Sx
section
variable {P : List Int → Bool} {tp : Int → Int}
def gst (P : List Int → Bool) (tp : Int → Int) (L : Int) (lv : List Int) (i : Int) : List Int :=
 if gi lv i = L - 1 ∧ L ≤ tp i then (if P (lv.set i.toNat L) = true then lv.set i.toNat L else lv) else lv
def gsw (P : List Int → Bool) (tp : Int → Int) (L : Int) (lv l : List Int) : List Int := l.foldl (gst P tp L) lv
def grd (P : List Int → Bool) (tp : Int → Int) (od : List Int) : Nat → Int → List Int → List Int
 | 0, _, lv => lv
 | f + 1, L, lv => grd P tp od f (L + 1) (gsw P tp L lv od)
theorem gi_set {l : List Int} {i j v : Int} (h0 : 0 ≤ i) (h1 : i < (l.length : Int)) (hj : 0 ≤ j) : gi (l.set i.toNat v) j = if j = i then v else gi l j := by
 unfold gi
 rw [getD_set]
 by_cases e : j = i
 ·subst e
  rw [if_pos ⟨rfl, by omega⟩, if_pos rfl]
 ·rw [if_neg (by omega), if_neg e]
def rngO (n : Nat) (l : List Int) : Prop := ∀ i ∈ l, 0 ≤ i ∧ i < (n : Int)
theorem gst_len {L i : Int} {lv : List Int} : (gst P tp L lv i).length = lv.length := by
 unfold gst
 split
 ·split
  ·rw [List.length_set]
  ·rfl
 ·rfl
theorem gst_le {L i j : Int} {lv : List Int} (h : 0 ≤ i ∧ i < (lv.length : Int)) (hj : 0 ≤ j) : gi lv j ≤ gi (gst P tp L lv i) j := by
 unfold gst
 split
 ·rename_i hc
  split
  ·rw [gi_set h.1 h.2 hj]
   split
   ·rename_i e; subst e; omega
   ·exact Int.le_refl _
  ·exact Int.le_refl _
 ·exact Int.le_refl _
theorem gst_other {L i j : Int} {lv : List Int} (h : 0 ≤ i ∧ i < (lv.length : Int)) (hj : 0 ≤ j) (hn : j ≠ i ∨ gi lv j ≠ L - 1) : gi (gst P tp L lv i) j = gi lv j := by
 unfold gst
 split
 ·rename_i hc
  split
  ·rw [gi_set h.1 h.2 hj]
   split
   ·rename_i e; subst e; rcases hn with hn | hn
    ·exact absurd rfl hn
    ·exact absurd hc.1 hn
   ·rfl
  ·rfl
 ·rfl
theorem gst_bd {L i j : Int} {lv : List Int} (h : 0 ≤ i ∧ i < (lv.length : Int)) (hj : 0 ≤ j) : gi (gst P tp L lv i) j ≤ gi lv j ∨ (gi (gst P tp L lv i) j = L ∧ L ≤ tp j) := by
 unfold gst
 split
 ·rename_i hc
  split
  ·rw [gi_set h.1 h.2 hj]
   split
   ·rename_i e; subst e; exact .inr ⟨rfl, hc.2⟩
   ·exact .inl (Int.le_refl _)
  ·exact .inl (Int.le_refl _)
 ·exact .inl (Int.le_refl _)
theorem gst_P {L i : Int} {lv : List Int} (h : P lv = true) : P (gst P tp L lv i) = true := by
 unfold gst
 split
 ·split
  ·rename_i hp; exact hp
  ·exact h
 ·exact h
theorem gsw_app {L : Int} {lv l1 l2 : List Int} : gsw P tp L lv (l1 ++ l2) = gsw P tp L (gsw P tp L lv l1) l2 := by simp [gsw]
theorem gsw_cons {L i : Int} {lv l : List Int} : gsw P tp L lv (i :: l) = gsw P tp L (gst P tp L lv i) l := rfl
theorem gsw_len {L : Int} : ∀ {l lv : List Int}, (gsw P tp L lv l).length = lv.length
 | [], _ => rfl
 | i :: l, lv => by rw [gsw_cons, gsw_len (l := l), gst_len]
theorem gsw_le {L j : Int} (hj : 0 ≤ j) : ∀ {l lv : List Int}, rngO lv.length l → gi lv j ≤ gi (gsw P tp L lv l) j
 | [], _, _ => Int.le_refl _
 | i :: l, lv, h => by
  rw [gsw_cons]
  have h1 := gst_le (P := P) (tp := tp) (L := L) (h i (by simp)) hj
  have h2 := gsw_le (L := L) hj (l := l) (lv := gst P tp L lv i) (by rw [gst_len]; exact fun x hx => h x (by simp [hx]))
  omega
theorem gsw_other {L j : Int} (hj : 0 ≤ j) : ∀ {l lv : List Int}, rngO lv.length l → (j ∉ l ∨ gi lv j ≠ L - 1) → gi (gsw P tp L lv l) j = gi lv j
 | [], _, _, _ => rfl
 | i :: l, lv, h, hn => by
  have e := gst_other (P := P) (tp := tp) (L := L) (h i (by simp)) hj (by
   rcases hn with hn | hn
   ·exact .inl (fun e => hn (by simp [e]))
   ·exact .inr hn)
  rw [gsw_cons, gsw_other hj (by rw [gst_len]; exact fun x hx => h x (by simp [hx])) (by
   rcases hn with hn | hn
   ·exact .inl (fun hm => hn (by simp [hm]))
   ·exact .inr (by rw [e]; exact hn)), e]
theorem gsw_bd {L j : Int} (hj : 0 ≤ j) : ∀ {l lv : List Int}, rngO lv.length l → gi (gsw P tp L lv l) j ≤ gi lv j ∨ (gi (gsw P tp L lv l) j ≤ L ∧ gi (gsw P tp L lv l) j ≤ tp j)
 | [], _, _ => .inl (Int.le_refl _)
 | i :: l, lv, h => by
  rw [gsw_cons]
  have h1 := gst_bd (P := P) (tp := tp) (L := L) (h i (by simp)) hj
  have h2 := gsw_bd (L := L) hj (l := l) (lv := gst P tp L lv i) (by rw [gst_len]; exact fun x hx => h x (by simp [hx]))
  omega
theorem gsw_P {L : Int} : ∀ {l lv : List Int}, P lv = true → P (gsw P tp L lv l) = true
 | [], _, h => h
 | i :: l, lv, h => by rw [gsw_cons]; exact gsw_P (l := l) (gst_P h)
theorem grd_len {od : List Int} : ∀ {f : Nat} {L : Int} {lv : List Int}, (grd P tp od f L lv).length = lv.length
 | 0, _, _ => rfl
 | f + 1, L, lv => by rw [grd, grd_len, gsw_len]
theorem grd_le {od : List Int} {j : Int} (hj : 0 ≤ j) : ∀ {f : Nat} {L : Int} {lv : List Int}, rngO lv.length od → gi lv j ≤ gi (grd P tp od f L lv) j
 | 0, _, _, _ => Int.le_refl _
 | f + 1, L, lv, h => by
  rw [grd]
  have h1 := gsw_le (P := P) (tp := tp) (L := L) hj h
  have h2 := grd_le (f := f) (L := L + 1) (lv := gsw P tp L lv od) hj (by rw [gsw_len]; exact h)
  omega
theorem grd_other {od : List Int} {j : Int} (hj : 0 ≤ j) : ∀ {f : Nat} {L : Int} {lv : List Int}, rngO lv.length od → gi lv j < L - 1 → gi (grd P tp od f L lv) j = gi lv j
 | 0, _, _, _, _ => rfl
 | f + 1, L, lv, h, hl => by
  have e := gsw_other (P := P) (tp := tp) (L := L) hj h (.inr (by omega))
  rw [grd, grd_other hj (by rw [gsw_len]; exact h) (by omega), e]
theorem grd_bd {od : List Int} {j : Int} (hj : 0 ≤ j) : ∀ {f : Nat} {L : Int} {lv : List Int}, rngO lv.length od → gi (grd P tp od f L lv) j ≤ gi lv j ∨ (gi (grd P tp od f L lv) j ≤ L + f - 1 ∧ gi (grd P tp od f L lv) j ≤ tp j)
 | 0, _, _, _ => .inl (Int.le_refl _)
 | f + 1, L, lv, h => by
  rw [grd]
  have h1 := gsw_bd (P := P) (tp := tp) (L := L) hj h
  have h2 := grd_bd (f := f) (L := L + 1) (lv := gsw P tp L lv od) hj (by rw [gsw_len]; exact h)
  omega
theorem grd_P {od : List Int} : ∀ {f : Nat} {L : Int} {lv : List Int}, P lv = true → P (grd P tp od f L lv) = true
 | 0, _, _, h => h
 | f + 1, L, lv, h => by rw [grd]; exact grd_P (gsw_P h)
theorem grd_succ {od : List Int} : ∀ {f : Nat} {L : Int} {lv : List Int}, grd P tp od (f + 1) L lv = gsw P tp (L + f) (grd P tp od f L lv) od
 | 0, L, lv => by simp [grd]
 | f + 1, L, lv => by
  rw [grd, grd_succ (f := f) (L := L + 1), grd, show L + 1 + (f : Int) = L + ((f + 1 : Nat) : Int) by omega]
theorem gsw_still {L : Int} : ∀ {l lv : List Int}, (∀ i ∈ l, gi lv i ≠ L - 1 ∨ tp i < L) → gsw P tp L lv l = lv
 | [], _, _ => rfl
 | i :: l, lv, h => by
  have e : gst P tp L lv i = lv := by
   unfold gst
   rw [if_neg (by have := h i (by simp); omega)]
  rw [gsw_cons, e, gsw_still (fun j hj => h j (by simp [hj]))]
theorem grd_still {od : List Int} : ∀ {f : Nat} {L : Int} {lv : List Int}, (∀ i ∈ od, gi lv i < L - 1) → grd P tp od f L lv = lv
 | 0, _, _, _ => rfl
 | f + 1, L, lv, h => by
  rw [grd, gsw_still (fun i hi => .inl (by have := h i hi; omega)), grd_still (fun i hi => by have := h i hi; omega)]
theorem grd_stuck {od : List Int} (hn : od.Nodup) {l1 l2 : List Int} {i : Int} (ho : od = l1 ++ i :: l2) : ∀ {f : Nat} {L0 : Int} {lv : List Int}, rngO lv.length od → (∀ j, 0 ≤ j → gi lv j ≤ L0 - 1) → ∀ {L : Int}, L0 ≤ L → L < L0 + f → gi (grd P tp od f L0 lv) i = L - 1 → L ≤ tp i →
  ∃ cur : List Int, cur.length = lv.length ∧ P (cur.set i.toNat L) = false ∧ (∀ j, 0 ≤ j → gi lv j ≤ gi cur j ∧ gi cur j ≤ gi (grd P tp od f L0 lv) j ∧ gi cur j ≤ L) ∧ ∀ j ∈ i :: l2, gi cur j ≤ L - 1
 | 0, L0, lv, _, _, L, h1, h2, _, _ => by omega
 | f + 1, L0, lv, hr, hb, L, h1, h2, hs, ht => by
  have hi : 0 ≤ i ∧ i < (lv.length : Int) := hr i (by rw [ho]; simp)
  have hr2 : rngO (gsw P tp L0 lv od).length od := by rw [gsw_len]; exact hr
  rw [grd] at hs ⊢
  by_cases e : L = L0
  ·subst e
   have hr1 : rngO lv.length l1 := fun x hx => hr x (by rw [ho]; simp [hx])
   have hrl : rngO (gsw P tp L lv l1).length (i :: l2) := by rw [gsw_len]; exact fun x hx => hr x (by rw [ho]; simp only [List.mem_append]; exact .inr hx)
   have hnd : ∀ j ∈ i :: l2, j ∉ l1 := by
    rw [ho] at hn
    intro j hj hj1
    exact (List.nodup_append.1 hn).2.2 j hj1 j hj rfl
   have hcur : ∀ j ∈ i :: l2, gi (gsw P tp L lv l1) j = gi lv j := fun j hj => gsw_other (hr j (by rw [ho]; simp only [List.mem_append]; exact .inr hj)).1 hr1 (.inl (hnd j hj))
   have happ : gsw P tp L lv od = gsw P tp L (gst P tp L (gsw P tp L lv l1) i) l2 := by rw [ho, gsw_app, gsw_cons]
   have hfin : ∀ j, 0 ≤ j → gi (gsw P tp L lv od) j ≤ gi (grd P tp od f (L + 1) (gsw P tp L lv od)) j := fun j hj => grd_le hj hr2
   have hst : ∀ j, 0 ≤ j → gi (gst P tp L (gsw P tp L lv l1) i) j ≤ gi (gsw P tp L lv od) j := fun j hj => by
    rw [happ]
    exact gsw_le hj (by rw [gst_len]; exact fun x hx => hrl x (by simp [hx]))
   have hci : gi (gsw P tp L lv l1) i = L - 1 := by
    have h3 := hcur i (by simp)
    have h4 := hb i hi.1
    by_cases h5 : gi lv i = L - 1
    ·omega
    ·have h6 := gsw_other (P := P) (tp := tp) (L := L) hi.1 hr (.inr h5)
     have h7 := grd_other (P := P) (tp := tp) (f := f) (L := L + 1) hi.1 hr2 (by omega)
     omega
   refine ⟨gsw P tp L lv l1, gsw_len, ?_, fun j hj => ⟨gsw_le hj hr1, ?_, ?_⟩, fun j hj => ?_⟩
   ·cases hp : P ((gsw P tp L lv l1).set i.toNat L) with
    | false => rfl
    | true =>
     have h3 : gi (gst P tp L (gsw P tp L lv l1) i) i = L := by
      unfold gst
      rw [if_pos ⟨hci, ht⟩, if_pos hp, gi_set hi.1 (by rw [gsw_len]; exact hi.2) hi.1, if_pos rfl]
     have h4 := hst i hi.1
     have h5 := hfin i hi.1
     omega
   ·have h3 := gst_le (P := P) (tp := tp) (L := L) (hrl i (by simp)) hj
    have h4 := hst j hj
    have h5 := hfin j hj
    omega
   ·have h3 := gsw_bd (P := P) (tp := tp) (L := L) hj hr1
    have h4 := hb j hj
    omega
   ·rw [hcur j hj]
    exact hb j (hr j (by rw [ho]; simp only [List.mem_append]; exact .inr hj)).1
  ·obtain ⟨cur, c1, c2, c3, c4⟩ := grd_stuck hn ho (f := f) (L0 := L0 + 1) (lv := gsw P tp L0 lv od) hr2 (fun j hj => by
    have h3 := gsw_bd (P := P) (tp := tp) (L := L0) hj hr
    have h4 := hb j hj
    omega) (L := L) (by omega) (by omega) hs ht
   refine ⟨cur, by rw [c1, gsw_len], c2, fun j hj => ?_, c4⟩
   have h3 := gsw_le (P := P) (tp := tp) (L := L0) hj hr
   have h4 := c3 j hj
   exact ⟨by omega, h4.2⟩
end
end Go.Proofs.Ytihbikkkmoaljaa
namespace Go.Proofs.Ytihbikkkmoaljaa
open Go.Sx
structure ShOk (rows : List Rw) (gs : List Ch) (al mo od : List Int) : Prop where
 mem : ∀ r ∈ rows, r.2.Nodup ∧ ∀ m ∈ r.2, 0 ≤ m ∧ m < (gs.length : Int)
 has : ∀ i : Int, 0 ≤ i → i < (gs.length : Int) → hasL (gCh gs i).2.2.2.1 (gCh gs i).2.2.2.2.1 (gCh gs i).2.2.2.2.2.1 = true
 gl : gs.length ≤ 16
 all : al.length = gs.length
 mol : mo.length = gs.length
 al : ∀ a ∈ al, 0 ≤ a ∧ a ≤ 80
 mo : ∀ a ∈ mo, 0 ≤ a ∧ a ≤ 80
 nd : od.Nodup
 ord : rngO gs.length od
 cov : ∀ i : Int, 0 ≤ i → i < (gs.length : Int) → i ∈ od
theorem sh_ok {cs : List Cd} {os : List ByteArray} {ks : List Ko} {gs : List Ch} {bs : List Ba} {al mo od : List Int} (h : shOk cs os ks gs bs al mo od = true) : ShOk (rowN cs gs cs.length) gs al mo od := by
 obtain ⟨hv, h1, h2, h3, h4, h5⟩ := shOk_iff.1 h
 have hl := (siteV_iff.1 hv).1
 obtain ⟨o1, o2, o3⟩ := isOrd_iff.1 h5
 refine ⟨fun r hr => ⟨(row_mem hr).1, (row_mem hr).2.1⟩, fun i h0 h1 => ?_, by omega, h1, h2, fun a ha => curB_iff.1 (List.all_eq_true.1 h3 a ha), fun a ha => curB_iff.1 (List.all_eq_true.1 h4 a ha), o2, o3, fun i h0 h1 => isOrd_all h5 h0 h1⟩
 have := siteV_ch hv h0 h1
 unfold chV chW at this
 simp only [Bool.and_eq_true, inB_iff] at this
 exact hasL_iff.2 (by omega)
def PP (rows : List Rw) (gs : List Ch) (al lv : List Int) : Bool := permB rows al (amsL gs lv)
def tpO (gs : List Ch) (mo : List Int) (i : Int) : Int := lvC gs i (gi mo i)
theorem amsL_len {gs : List Ch} {lv : List Int} : (amsL gs lv).length = gs.length := by simp [amsL]
theorem gi_amsL {gs : List Ch} {lv : List Int} {i : Int} (h0 : 0 ≤ i) (h1 : i < (gs.length : Int)) : gi (amsL gs lv) i = amC gs i (gi lv i) := by
 rw [gi_eq (by rw [amsL_len]; omega)]
 simp only [amsL, List.getElem_map, List.getElem_range]
 rw [Int.toNat_of_nonneg h0]
 rfl
theorem amC_0 {gs : List Ch} {i : Int} : amC gs i 0 = 0 := by simp [amC, amL]
theorem amC_mono {gs : List Ch} {i a b : Int} (hh : hasL (gCh gs i).2.2.2.1 (gCh gs i).2.2.2.2.1 (gCh gs i).2.2.2.2.2.1 = true) (h0 : 0 ≤ a) (h1 : a ≤ b) : amC gs i a ≤ amC gs i b := by
 obtain ⟨g1, g2, g3, g4, g5⟩ := hasL_iff.1 hh
 exact amL_mono ⟨g1, g4⟩ h0 h1
theorem amC_lt {gs : List Ch} {i a b : Int} (hh : hasL (gCh gs i).2.2.2.1 (gCh gs i).2.2.2.2.1 (gCh gs i).2.2.2.2.2.1 = true) (h0 : 0 ≤ a) (h1 : a < b) : amC gs i a < amC gs i b := by
 obtain ⟨g1, g2, g3, g4, g5⟩ := hasL_iff.1 hh
 have h2 := amC_mono hh (show 0 ≤ a + 1 by omega) (show a + 1 ≤ b by omega)
 have h3 : amC gs i a < amC gs i (a + 1) := by
  unfold amC amL
  rw [if_neg (show ¬ a + 1 = 0 by omega)]
  split
  ·rename_i e; subst e; simp; omega
  ·have : (a + 1 - 1) * (gCh gs i).2.2.2.2.2.1 = (a - 1) * (gCh gs i).2.2.2.2.2.1 + (gCh gs i).2.2.2.2.2.1 := by
    rw [show a + 1 - 1 = (a - 1) + 1 by omega, Int.add_mul, Int.one_mul]
   omega
 omega
theorem amC_inj {gs : List Ch} {i a b : Int} (hh : hasL (gCh gs i).2.2.2.1 (gCh gs i).2.2.2.2.1 (gCh gs i).2.2.2.2.2.1 = true) (h0 : 0 ≤ a) (h1 : 0 ≤ b) (e : amC gs i a = amC gs i b) : a = b := by
 by_cases h : a < b
 ·have := amC_lt hh h0 h; omega
 ·by_cases h2 : b < a
  ·have := amC_lt hh h1 h2; omega
  ·omega
theorem amC_nn {gs : List Ch} {i a : Int} (hh : hasL (gCh gs i).2.2.2.1 (gCh gs i).2.2.2.2.1 (gCh gs i).2.2.2.2.2.1 = true) (h0 : 0 ≤ a) : 0 ≤ amC gs i a := by
 have := amC_mono hh (Int.le_refl 0) h0
 rw [amC_0] at this
 exact this
theorem mx_mono {a b c : Int} (h : b ≤ c) : mx a b ≤ mx a c := by
 unfold mx
 split <;> split <;> omega
theorem smM_mono {al am bm : List Int} : ∀ {ms : List Int}, (∀ m ∈ ms, gi am m ≤ gi bm m) → smM al am ms ≤ smM al bm ms
 | [], _ => Int.le_refl _
 | m :: ms, h => by
  have h1 := smM_mono (al := al) (ms := ms) (fun x hx => h x (by simp [hx]))
  have h2 := mx_mono (a := gi al m) (h m (by simp))
  rw [smM_cons, smM_cons]
  omega
theorem smM_congr {al am bm : List Int} : ∀ {ms : List Int}, (∀ m ∈ ms, gi am m = gi bm m) → smM al am ms = smM al bm ms
 | [], _ => rfl
 | m :: ms, h => by rw [smM_cons, smM_cons, smM_congr (ms := ms) (fun x hx => h x (by simp [hx])), h m (by simp)]
theorem smM_put {al am bm : List Int} {i : Int} : ∀ {ms : List Int}, ms.Nodup → i ∈ ms → (∀ m ∈ ms, m ≠ i → gi am m = gi bm m) → smM al bm ms = smM al am ms + (mx (gi al i) (gi bm i) - mx (gi al i) (gi am i))
 | [], _, h, _ => by cases h
 | m :: ms, hn, hi, h => by
  obtain ⟨n1, n2⟩ := List.nodup_cons.1 hn
  rw [smM_cons, smM_cons]
  by_cases e : m = i
  ·subst e
   rw [smM_congr (am := am) (bm := bm) (fun x hx => h x (by simp [hx]) (fun e => n1 (e ▸ hx)))]
   omega
  ·have hi2 : i ∈ ms := by
    rcases List.mem_cons.1 hi with h | h
    ·exact absurd h.symm e
    ·exact h
   rw [smM_put n2 hi2 (fun x hx => h x (by simp [hx])), h m (by simp) e]
   omega
theorem rowB_congr {al am bm : List Int} {r : Rw} (h : ∀ m ∈ r.2, gi am m = gi bm m) : rowB al am r = rowB al bm r := by
 unfold rowB
 rw [smM_congr h]
 congr 1
 rw [Bool.eq_iff_iff, List.all_eq_true, List.all_eq_true]
 constructor
 ·intro g m hm; rw [← h m hm]; exact g m hm
 ·intro g m hm; rw [h m hm]; exact g m hm
theorem PP_down {rows : List Rw} {gs : List Ch} {al mo od : List Int} (H : ShOk rows gs al mo od) {a b : List Int} (h : ∀ j, 0 ≤ j → j < (gs.length : Int) → 0 ≤ gi a j ∧ gi a j ≤ gi b j) (hb : PP rows gs al b = true) : PP rows gs al a = true := by
 unfold PP permB at *
 rw [List.all_eq_true] at *
 intro r hr
 have hm := (H.mem r hr).2
 have hle : ∀ m ∈ r.2, gi (amsL gs a) m ≤ gi (amsL gs b) m := fun m hm' => by
  obtain ⟨m0, m1⟩ := hm m hm'
  rw [gi_amsL m0 m1, gi_amsL m0 m1]
  exact amC_mono (H.has m m0 m1) (h m m0 m1).1 (h m m0 m1).2
 have h1 := hb r hr
 unfold rowB at *
 rw [Bool.or_eq_true, List.all_eq_true, decide_eq_true_eq] at *
 rcases h1 with h1 | h1
 ·refine .inl (fun m hm' => ?_)
  obtain ⟨m0, m1⟩ := hm m hm'
  have h2 := h1 m hm'
  have h3 := hle m hm'
  have h4 : 0 ≤ gi (amsL gs a) m := by rw [gi_amsL m0 m1]; exact amC_nn (H.has m m0 m1) (h m m0 m1).1
  simp only [beq_iff_eq] at *
  omega
 ·exact .inr (Int.le_trans (smM_mono hle) h1)
/-! The program. -/
structure Inv (rows : List Rw) (gs : List Ch) (al sm lv : List Int) : Prop where
 sl : sm.length = rows.length
 sm : ∀ k : Nat, k < rows.length → sm.getD k 0 = smM al (amsL gs lv) (gRw rows k).2
 ll : lv.length = gs.length
 nn : ∀ j, 0 ≤ j → 0 ≤ gi lv j
 pp : PP rows gs al lv = true
theorem gRw_mem {rows : List Rw} {k : Int} (h0 : 0 ≤ k) (h1 : k < (rows.length : Int)) : gRw rows k ∈ rows := by
 rw [gRw_eq (by omega)]; exact List.getElem_mem _
theorem ams_put {rows : List Rw} {gs : List Ch} {al mo od lv : List Int} (H : ShOk rows gs al mo od) {i L : Int} (hl : lv.length = gs.length) (h0 : 0 ≤ i) (h1 : i < (gs.length : Int)) {r : Rw} (hr : r ∈ rows) :
  (∀ m ∈ r.2, m ≠ i → gi (amsL gs lv) m = gi (amsL gs (lv.set i.toNat L)) m) ∧ gi (amsL gs (lv.set i.toNat L)) i = amC gs i L := by
 refine ⟨fun m hm e => ?_, ?_⟩
 ·obtain ⟨m0, m1⟩ := (H.mem r hr).2 m hm
  rw [gi_amsL m0 m1, gi_amsL m0 m1, gi_set h0 (by omega) m0, if_neg e]
 ·rw [gi_amsL h0 h1, gi_set h0 (by omega) h0, if_pos rfl]
theorem sm_put {rows : List Rw} {gs : List Ch} {al mo od lv : List Int} (H : ShOk rows gs al mo od) {i L : Int} (hl : lv.length = gs.length) (h0 : 0 ≤ i) (h1 : i < (gs.length : Int)) {r : Rw} (hr : r ∈ rows) (hc : gi lv i = L - 1) :
  smM al (amsL gs (lv.set i.toNat L)) r.2 = smM al (amsL gs lv) r.2 + (if i ∈ r.2 then mor gs al i L else 0) := by
 obtain ⟨p1, p2⟩ := ams_put (L := L) H hl h0 h1 hr
 split
 ·rename_i hi
  rw [smM_put (am := amsL gs lv) (H.mem r hr).1 hi p1, p2, gi_amsL h0 h1, hc]
  rfl
 ·rename_i hi
  rw [← smM_congr (am := amsL gs lv) (fun m hm => p1 m hm (fun e => hi (e ▸ hm)))]
  omega
theorem fit_iff {rows : List Rw} {gs : List Ch} {al mo od sm lv : List Int} (H : ShOk rows gs al mo od) (hI : Inv rows gs al sm lv) {i L : Int} (h0 : 0 ≤ i) (h1 : i < (gs.length : Int)) (hL : 1 ≤ L) (hc : gi lv i = L - 1) :
  ((OL rows).getD i.toNat []).all (fitB rows sm (mor gs al i L)) = PP rows gs al (lv.set i.toNat L) := by
 have hg := H.gl
 rw [OL_get (fun r hr => ⟨(H.mem r hr).1, fun m hm => ((H.mem r hr).2 m hm).1⟩) (by omega), Bool.eq_iff_iff, List.all_eq_true]
 unfold PP permB
 rw [List.all_eq_true]
 have hpp := hI.pp
 unfold PP permB at hpp
 rw [List.all_eq_true] at hpp
 have hpos : 1 ≤ amC gs i L := by
  have := amC_lt (H.has i h0 h1) (Int.le_refl 0) (show 0 < L by omega)
  rw [amC_0] at this
  omega
 have hfit : ∀ k : Int, 0 ≤ k → k < (rows.length : Int) → i ∈ (gRw rows k).2 → (fitB rows sm (mor gs al i L) k = rowB al (amsL gs (lv.set i.toNat L)) (gRw rows k)) := fun k k0 k1 hk => by
  have hr := gRw_mem k0 k1
  have hs := hI.sm k.toNat (by omega)
  rw [Int.toNat_of_nonneg k0] at hs
  have hp := sm_put (L := L) H hI.ll h0 h1 hr hc
  rw [if_pos hk] at hp
  have hz : (gRw rows k).2.all (fun m => gi (amsL gs (lv.set i.toNat L)) m == 0) = false := by
   rw [Bool.eq_false_iff]
   intro hz
   have := List.all_eq_true.1 hz i hk
   rw [(ams_put (L := L) H hI.ll h0 h1 hr).2, beq_iff_eq] at this
   omega
  unfold fitB rowB
  rw [hz, Bool.false_or, hp, hs]
 constructor
 ·intro h r hr
  obtain ⟨k, hk, rfl⟩ := List.mem_iff_getElem.1 hr
  have ek : gRw rows (k : Int) = rows[k] := gRw_eq (by simpa using hk)
  by_cases hi : i ∈ rows[k].2
  ·have := h (k : Int) (ofF_mem.2 ⟨by omega, by omega, by
    rw [Int.sub_zero, ek, Int.toNat_of_nonneg h0]
    simpa using hi⟩)
   rw [hfit k (by omega) (by omega) (by rw [ek]; exact hi), ek] at this
   exact this
  ·rw [← rowB_congr (am := amsL gs lv) (fun m hm => (ams_put (L := L) H hI.ll h0 h1 hr).1 m hm (fun e => hi (e ▸ hm)))]
   exact hpp _ hr
 ·intro h x hx
  obtain ⟨x0, x1, x2⟩ := ofF_mem.1 hx
  rw [Int.sub_zero, Int.toNat_of_nonneg h0] at x2
  rw [hfit x x0 (by omega) (by simpa using x2)]
  exact h _ (gRw_mem x0 (by omega))
theorem rsS_gst {rows : List Rw} {gs : List Ch} {al mo od sm lv : List Int} {b : Bool} (H : ShOk rows gs al mo od) (hI : Inv rows gs al sm lv) {i L : Int} (h0 : 0 ≤ i) (h1 : i < (gs.length : Int)) (hL : 1 ≤ L) :
  (rsS (OL rows) rows gs al mo L (sm, lv, b) i).2.1 = gst (PP rows gs al) (tpO gs mo) L lv i ∧ Inv rows gs al (rsS (OL rows) rows gs al mo L (sm, lv, b) i).1 (rsS (OL rows) rows gs al mo L (sm, lv, b) i).2.1 ∧ ((rsS (OL rows) rows gs al mo L (sm, lv, b) i).2.2 = false → b = false ∧ (rsS (OL rows) rows gs al mo L (sm, lv, b) i).2.1 = lv) := by
 unfold rsS gst
 simp only
 by_cases hc : gi lv i = L - 1 ∧ L ≤ tpO gs mo i
 ·have hf := fit_iff H hI h0 h1 hL hc.1
  rw [if_pos (show lv.getD i.toNat 0 = L - 1 ∧ L ≤ lvC gs i (gi mo i) from hc), if_pos hc, hf]
  by_cases hp : PP rows gs al (lv.set i.toNat L) = true
  ·rw [if_pos hp, if_pos hp]
   have hg := H.gl
   refine ⟨rfl, ⟨by rw [addS_length]; exact hI.sl, fun k hk => ?_, by rw [List.length_set]; exact hI.ll, fun j hj => ?_, hp⟩, fun h => by cases h⟩
   ·have hr : gRw rows (k : Int) ∈ rows := gRw_mem (by omega) (by omega)
    simp only
    rw [OL_get (fun r hr => ⟨(H.mem r hr).1, fun m hm => ((H.mem r hr).2 m hm).1⟩) (by omega), addS_get ofF_nodup (fun r hr => (ofF_mem.1 hr).1) (by rw [hI.sl]; exact hk), hI.sm k hk, sm_put (L := L) H hI.ll h0 h1 hr hc.1]
    have : (k : Int) ∈ ofF 0 rows (i.toNat : Int) ↔ i ∈ (gRw rows (k : Int)).2 := by
     rw [ofF_mem, Int.sub_zero, Int.toNat_of_nonneg h0]
     simp only [List.contains_iff_mem]
     constructor
     ·exact fun h => h.2.2
     ·exact fun h => ⟨by omega, by omega, h⟩
    by_cases hm : i ∈ (gRw rows (k : Int)).2
    ·rw [if_pos (this.2 hm), if_pos hm]
    ·rw [if_neg (fun h => hm (this.1 h)), if_neg hm]
   ·simp only
    rw [gi_set h0 (by rw [hI.ll]; exact h1) hj]
    split
    ·omega
    ·exact hI.nn j hj
  ·rw [if_neg hp, if_neg hp]
   exact ⟨rfl, hI, fun h => ⟨h, rfl⟩⟩
 ·rw [if_neg (show ¬ (lv.getD i.toNat 0 = L - 1 ∧ L ≤ lvC gs i (gi mo i)) from hc), if_neg hc]
  exact ⟨rfl, hI, fun h => ⟨h, rfl⟩⟩
theorem swp_gsw {rows : List Rw} {gs : List Ch} {al mo od : List Int} (H : ShOk rows gs al mo od) {L : Int} (hL : 1 ≤ L) : ∀ {l sm lv : List Int} {b : Bool}, rngO gs.length l → Inv rows gs al sm lv →
  (swp (OL rows) rows gs al mo L (sm, lv, b) l).2.1 = gsw (PP rows gs al) (tpO gs mo) L lv l ∧ Inv rows gs al (swp (OL rows) rows gs al mo L (sm, lv, b) l).1 (swp (OL rows) rows gs al mo L (sm, lv, b) l).2.1 ∧ ((swp (OL rows) rows gs al mo L (sm, lv, b) l).2.2 = false → b = false ∧ (swp (OL rows) rows gs al mo L (sm, lv, b) l).2.1 = lv)
 | [], sm, lv, b, _, hI => ⟨rfl, hI, fun h => ⟨h, rfl⟩⟩
 | i :: l, sm, lv, b, hr, hI => by
  obtain ⟨i0, i1⟩ := hr i (by simp)
  obtain ⟨r1, r2, r3⟩ := rsS_gst (b := b) H hI i0 i1 hL
  obtain ⟨s1, s2, s3⟩ := swp_gsw H hL (l := l) (b := (rsS (OL rows) rows gs al mo L (sm, lv, b) i).2.2) (fun x hx => hr x (by simp [hx])) r2
  refine ⟨s1.trans (by rw [r1]; rfl), s2, fun h => ?_⟩
  obtain ⟨t1, t2⟩ := s3 h
  obtain ⟨t3, t4⟩ := r3 t1
  exact ⟨t3, t2.trans t4⟩
theorem shl_grd {rows : List Rw} {gs : List Ch} {al mo od : List Int} (H : ShOk rows gs al mo od) : ∀ {f : Nat} {L : Int} {sm lv : List Int}, 1 ≤ L → Inv rows gs al sm lv → (∀ i ∈ od, gi lv i ≤ L - 1) → shl (OL rows) rows gs al mo od f L sm lv = grd (PP rows gs al) (tpO gs mo) od f L lv
 | 0, _, _, _, _, _, _ => rfl
 | f + 1, L, sm, lv, hL, hI, hb => by
  obtain ⟨s1, s2, s3⟩ := swp_gsw (b := false) H hL H.ord hI
  rw [shl, grd]
  split
  ·rw [shl_grd H (by omega) s2 (fun i hi => by
    rw [s1]
    have h1 := gsw_bd (P := PP rows gs al) (tp := tpO gs mo) (L := L) (H.ord i hi).1 (l := od) (lv := lv) (by rw [hI.ll]; exact H.ord)
    have h2 := hb i hi
    omega), s1]
  ·rename_i hc
   have hc : (swp (OL rows) rows gs al mo L (sm, lv, false) od).2.2 = false := by simpa using hc
   have e := (s3 hc).2
   rw [← s1, e, grd_still (fun i hi => by have := hb i hi; omega)]
theorem gi_rep {n : Nat} {j : Int} : gi (List.replicate n 0) j = 0 := by
 unfold gi
 simp only [List.getD, List.getElem?_replicate]
 split <;> rfl
theorem inv_0 {rows : List Rw} {gs : List Ch} {al mo od : List Int} (H : ShOk rows gs al mo od) : Inv rows gs al (SM al rows) (List.replicate gs.length 0) := by
 have hz : ∀ r ∈ rows, ∀ m ∈ r.2, gi (amsL gs (List.replicate gs.length 0)) m = 0 := fun r hr m hm => by
  obtain ⟨m0, m1⟩ := (H.mem r hr).2 m hm
  rw [gi_amsL m0 m1, gi_rep, amC_0]
 refine ⟨SM_length, fun k hk => ?_, List.length_replicate, fun j _ => by rw [gi_rep]; omega, ?_⟩
 ·rw [SM_get hk]
  have hr : gRw rows (k : Int) ∈ rows := gRw_mem (by omega) (by omega)
  unfold smA smM
  congr 1
  refine List.map_congr_left (fun m hm => ?_)
  obtain ⟨m0, m1⟩ := (H.mem _ hr).2 m hm
  rw [hz _ hr m hm]
  have := H.al _ (gi_mem m0 (by rw [H.all]; exact m1))
  unfold mx
  rw [if_neg (by omega)]
 ·unfold PP permB
  rw [List.all_eq_true]
  intro r hr
  unfold rowB
  rw [Bool.or_eq_true, List.all_eq_true]
  exact .inl (fun m hm => by rw [hz r hr m hm]; rfl)
def lvF (rows : List Rw) (gs : List Ch) (al mo od : List Int) : List Int := grd (PP rows gs al) (tpO gs mo) od 80 1 (List.replicate gs.length 0)
theorem tpO_bd {rows : List Rw} {gs : List Ch} {al mo od : List Int} (H : ShOk rows gs al mo od) {i : Int} (h0 : 0 ≤ i) (h1 : i < (gs.length : Int)) : 0 ≤ tpO gs mo i ∧ tpO gs mo i ≤ 80 ∧ tpO gs mo i < lvs (gCh gs i).2.2.2.1 (gCh gs i).2.2.2.2.1 (gCh gs i).2.2.2.2.2.1 :=
 ⟨lev_nonneg (H.has i h0 h1) (H.mo _ (gi_mem h0 (by rw [H.mol]; exact h1))).1, lev_bd, lev_lt (H.has i h0 h1)⟩
theorem shV_eq {rows : List Rw} {gs : List Ch} {al mo od : List Int} (H : ShOk rows gs al mo od) : shV rows gs al mo od = lvF rows gs al mo od := by
 unfold shV lvF
 rw [H.all, shl_grd H (by omega) (inv_0 H) (fun i _ => by rw [gi_rep]; omega), grd_succ, gsw_still (fun i hi => .inr ?_)]
 have := tpO_bd H (H.ord i hi).1 (H.ord i hi).2
 omega
/-! The reference. -/
theorem amsL_set {gs : List Ch} {lv : List Int} {i L : Int} (hl : lv.length = gs.length) (h0 : 0 ≤ i) (h1 : i < (gs.length : Int)) : (amsL gs lv).set i.toNat (amC gs i L) = amsL gs (lv.set i.toNat L) := by
 refine List.ext_getElem (by rw [List.length_set, amsL_len, amsL_len]) (fun k k1 k2 => ?_)
 rw [amsL_len] at k2
 have e1 : (amsL gs (lv.set i.toNat L))[k] = gi (amsL gs (lv.set i.toNat L)) (k : Int) := by rw [gi_eq (by rw [amsL_len]; simpa using k2)]; rfl
 have e2 : ((amsL gs lv).set i.toNat (amC gs i L))[k] = gi ((amsL gs lv).set i.toNat (amC gs i L)) (k : Int) := by rw [gi_eq (by rw [List.length_set, amsL_len]; simpa using k2)]; rfl
 rw [e1, e2, gi_set h0 (by rw [amsL_len]; exact h1) (by omega), gi_amsL (by omega) (by omega), gi_amsL (by omega) (by omega), gi_set h0 (by omega) (by omega)]
 split
 ·rename_i e; rw [e]
 ·rfl
theorem rfS_gst {rows : List Rw} {gs : List Ch} {al mo od lv : List Int} (H : ShOk rows gs al mo od) (hl : lv.length = gs.length) (hn : ∀ j, 0 ≤ j → 0 ≤ gi lv j) {i L : Int} (h0 : 0 ≤ i) (h1 : i < (gs.length : Int)) (hL : 1 ≤ L) :
  rfS rows gs al mo L (amsL gs lv) i = amsL gs (gst (PP rows gs al) (tpO gs mo) L lv i) := by
 have hh := H.has i h0 h1
 have hm := (H.mo _ (gi_mem h0 (by rw [H.mol]; exact h1))).1
 unfold rfS gst
 by_cases hE : lvs (gCh gs i).2.2.2.1 (gCh gs i).2.2.2.2.1 (gCh gs i).2.2.2.2.2.1 ≤ L
 ·have e1 : amEC gs i L = 1 := by unfold amEC amE; rw [if_pos (.inr hE)]
  have := (tpO_bd H h0 h1).2.2
  rw [e1, if_pos (by decide), if_neg (by omega)]
 ·have e1 : amEC gs i L = 0 := by unfold amEC amE; rw [if_neg (by omega)]
  have e2 : amAC gs i L = amC gs i L := by unfold amAC amA amC; rw [if_neg (by omega)]
  have e3 : amAC gs i (L - 1) = amC gs i (L - 1) := by unfold amAC amA amC; rw [if_neg (by omega)]
  have hi : amC gs i L ≤ gi mo i ↔ L ≤ tpO gs mo i := lev_iff hh hm (by omega) (by omega)
  have e4 : (amsL gs lv).getD i.toNat 0 = amC gs i (gi lv i) := gi_amsL h0 h1
  rw [e1, if_neg (by simp), e2, e3, e4, amsL_set hl h0 h1]
  by_cases hc : gi lv i = L - 1 ∧ L ≤ tpO gs mo i
  ·rw [if_neg (by rw [hc.1]; have := hi.2 hc.2; simp; omega), if_pos hc]
   unfold PP
   split
   ·rfl
   ·rfl
  ·have hc2 : (decide (amC gs i L > gi mo i) || (amC gs i (gi lv i) != amC gs i (L - 1))) = true := by
    rw [Bool.or_eq_true, decide_eq_true_eq, bne_iff_ne]
    by_cases h : L ≤ tpO gs mo i
    ·exact .inr (fun e => hc ⟨amC_inj hh (hn i h0) (by omega) e, h⟩)
    ·exact .inl (by have := fun g => h (hi.1 g); omega)
   rw [if_pos hc2, if_neg hc]
theorem gst_nn {P : List Int → Bool} {tp : Int → Int} {L i : Int} {lv : List Int} (h : 0 ≤ i ∧ i < (lv.length : Int)) (hn : ∀ j, 0 ≤ j → 0 ≤ gi lv j) : ∀ j, 0 ≤ j → 0 ≤ gi (gst P tp L lv i) j := fun j hj => by
 have := gst_le (P := P) (tp := tp) (L := L) h hj
 have := hn j hj
 omega
theorem rfW_gsw {rows : List Rw} {gs : List Ch} {al mo od : List Int} (H : ShOk rows gs al mo od) {L : Int} (hL : 1 ≤ L) : ∀ {l lv : List Int}, rngO gs.length l → lv.length = gs.length → (∀ j, 0 ≤ j → 0 ≤ gi lv j) → rfW rows gs al mo L (amsL gs lv) l = amsL gs (gsw (PP rows gs al) (tpO gs mo) L lv l)
 | [], _, _, _, _ => rfl
 | i :: l, lv, hr, hl, hn => by
  obtain ⟨i0, i1⟩ := hr i (by simp)
  rw [rfW_cons, rfS_gst H hl hn i0 i1 hL, gsw_cons, rfW_gsw H hL (fun x hx => hr x (by simp [hx])) (by rw [gst_len]; exact hl) (gst_nn (by omega) hn)]
theorem rfL_grd {rows : List Rw} {gs : List Ch} {al mo od : List Int} (H : ShOk rows gs al mo od) : ∀ {f : Nat} {L : Int} {lv : List Int}, 1 ≤ L → lv.length = gs.length → (∀ j, 0 ≤ j → 0 ≤ gi lv j) → rfL rows gs al mo od f L (amsL gs lv) = amsL gs (grd (PP rows gs al) (tpO gs mo) od f L lv)
 | 0, _, _, _, _, _ => rfl
 | f + 1, L, lv, hL, hl, hn => by
  rw [rfL, rfW_gsw H hL H.ord hl hn, rfL_grd H (by omega) (by rw [gsw_len]; exact hl) (fun j hj => by
   have := gsw_le (P := PP rows gs al) (tp := tpO gs mo) (L := L) hj (l := od) (lv := lv) (by rw [hl]; exact H.ord)
   have := hn j hj
   omega), grd]
theorem rfO_eq {rows : List Rw} {gs : List Ch} {al mo od : List Int} (H : ShOk rows gs al mo od) : rfO rows gs al mo od = amsL gs (lvF rows gs al mo od) := by
 have e : List.replicate gs.length 0 = amsL gs (List.replicate gs.length 0) := by
  refine List.ext_getElem (by rw [List.length_replicate, amsL_len]) (fun k k1 k2 => ?_)
  rw [amsL_len] at k2
  have e1 : (amsL gs (List.replicate gs.length 0))[k] = gi (amsL gs (List.replicate gs.length 0)) (k : Int) := by rw [gi_eq (by rw [amsL_len]; simpa using k2)]; rfl
  rw [e1, gi_amsL (by omega) (by omega), gi_rep, amC_0, List.getElem_replicate]
 unfold rfO lvF
 rw [e, rfL_grd H (by omega) List.length_replicate (fun j _ => by rw [gi_rep]; omega), ← e]
theorem shL_eq {cs : List Cd} {os : List ByteArray} {ks : List Ko} {gs : List Ch} {bs : List Ba} {al mo od : List Int} : shL cs os ks gs bs al mo od = shLR cs os ks gs bs al mo od := by
 unfold shL shLR
 split
 ·rename_i h
  have H := sh_ok h
  rw [shV_eq H, rfO_eq H]
 ·rfl
end Go.Proofs.Ytihbikkkmoaljaa
