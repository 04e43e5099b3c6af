/- Arguments that a statement reads, opened to data with types. -/
import Derived.Test.YtihbikkkmoaljaaSxM
import Derived.OpenShut
import Derived.ChangeShapes
import Derived.WideShapes
import Derived.Carry
import Derived.ChangeOld
import Derived.FnData
namespace Go.Sx
open Go Go.RowKit Go.Proofs.Ytihbikkkmoaljaa
def wfD : (t : Ty) → t.D → Prop
 | .int k, n => (Lit.int k n).wf = true
 | .bool, _ => True
 | .str, s => s.size ≤ maxLen
 | .sl e, l => List.length l ≤ maxLen ∧ ∀ d, d ∈ l → wfD e d
 | .pair a b, d => wfD a d.1 ∧ wfD b d.2
def offsOk (P : Program) : Nat → List Field → Bool
 | _, [] => true
 | o, f :: fs => decide (f.offset = o) && offsOk P (o + P.cellsOf f.type) fs
def supp (P : Program) : Nat → TypeId → Bool
 | 0, _ => false
 | m + 1, t => match P.underlying t with
  | some (.int _) | some .bool | some .string => decide (P.cellsOf t = 1)
  | some (.struct fs) => offsOk P 0 fs.toList && decide (P.cellsOf t = ((fs.toList.map (·.type)).map P.cellsOf).sum) && fs.toList.all (fun f => supp P m f.type)
  | some (.array n e) => decide (P.cellsOf t = ((List.replicate n e).map P.cellsOf).sum) && supp P m e
  | some (.slice e) => decide (P.cellsOf t = 1) && decide (1 ≤ P.cellsOf e) && (tyOf P m e).any (fun ty => ty.n == P.cellsOf e) && supp P m e
  | _ => false
variable {H : Type} {enc : TypeId × Value → H} {P : Program} {w : World} {base : Nat} {spare : Nat → Bool} {held : Bool} {β : Nat → Loc}
def Good (enc : TypeId × Value → H) (P : Program) (w : World) (base : Nat) (spare : Nat → Bool) (held : Bool) (t : TypeId) (cs : List Value) : Prop := ∃ n x, DataW.trod enc P w base spare held n t cs = some x
theorem RL.append' {Z : Nat → Prop} : ∀ {l1 l2 : List LV} {y1 y2 : List Value}, RL β Z w l1 y1 → RL β Z w l2 y2 → RL β Z w (l1 ++ l2) (y1 ++ y2)
 | [], l2, y1, y2, h1, h2 => by simp only [RL] at h1; subst h1; exact h2
 | x :: xs, l2, y1, y2, h1, h2 => by
  simp only [RL, List.cons_append] at h1 ⊢
  obtain ⟨y, zs, rfl, h3, h4⟩ := h1
  exact ⟨y, zs ++ y2, rfl, h3, RL.append' h4 h2⟩
theorem enc_RD {Z : Nat → Prop} : ∀ (t : Ty) (d : t.D) (cs : List Value) (b o : Nat), RL β Z w (encL t d) cs → (∀ (j : Nat) v, cs[j]? = some v → w.cell? ⟨b, o + j, none⟩ = some v) → RD Z w t d b o
 | .int k, d, cs, b, o, h, hc => by
  simp only [encL, RL, R] at h
  obtain ⟨y, zs, rfl, rfl, _⟩ := h
  simp only [RD]; exact hc 0 _ rfl
 | .bool, d, cs, b, o, h, hc => by
  simp only [encL, RL, R] at h
  obtain ⟨y, zs, rfl, rfl, _⟩ := h
  simp only [RD]; exact hc 0 _ rfl
 | .str, d, cs, b, o, h, hc => by
  simp only [encL, RL, R] at h
  obtain ⟨y, zs, rfl, rfl, _⟩ := h
  simp only [RD]; exact hc 0 _ rfl
 | .sl e, d, cs, b, o, h, hc => by
  simp only [encL, RL, R] at h
  obtain ⟨y, zs, rfl, ⟨a, cap, rfl, h2, h3⟩, _⟩ := h
  simp only [RD]; exact ⟨a, cap, hc 0 _ rfl, h2, h3⟩
 | .pair p q, d, cs, b, o, h, hc => by
  simp only [encL] at h
  have hl := RL.length h
  simp only [List.length_append, encL_length] at hl
  have h1 := h.take_drop 0 p.n
  have h2 : RL β Z w ((encL p d.1 ++ encL q d.2).drop p.n) (cs.drop p.n) := by
   refine RL.of_get (by simp [hl, encL_length]) fun i z hz => ?_
   rw [List.getElem?_drop] at hz ⊢
   exact RL.get _ _ h hz
  have t1 : ((encL p d.1 ++ encL q d.2).drop 0).take p.n = encL p d.1 := by
   rw [List.drop_zero, List.take_append_of_le_length (by rw [encL_length]; exact Nat.le_refl _), List.take_of_length_le (by rw [encL_length]; exact Nat.le_refl _)]
  have t2 : (encL p d.1 ++ encL q d.2).drop p.n = encL q d.2 := by
   rw [List.drop_append_of_le_length (by rw [encL_length]; exact Nat.le_refl _), List.drop_eq_nil_of_le (by rw [encL_length]; exact Nat.le_refl _), List.nil_append]
  rw [t1, List.drop_zero] at h1
  rw [t2] at h2
  simp only [RD]
  refine ⟨enc_RD p d.1 _ b o h1 (fun j v hv => ?_), enc_RD q d.2 _ b (o + p.n) h2 (fun j v hv => ?_)⟩
  ·rw [List.getElem?_take] at hv
   split at hv
   ·exact hc j v hv
   ·cases hv
  ·rw [List.getElem?_drop] at hv
   have := hc (p.n + j) v hv
   rwa [← Nat.add_assoc] at this
theorem open_seq {Z : Nat → Prop} {r : TypeId → Option Ty} {sz : TypeId → Nat} {Gd : TypeId → List Value → Prop} : ∀ (ts : List TypeId) (ty : Ty) (cs : List Value), tyFs r ts = some ty →
  (∀ t ∈ ts, ∀ ty c, r t = some ty → Gd t c → ∃ d : ty.D, RL β Z w (encL ty d) c ∧ wfD ty d) → cs.length = (ts.map sz).sum → (∀ pre t post, ts = pre ++ t :: post → Gd t ((cs.drop (pre.map sz).sum).take (sz t))) → ∃ d : ty.D, RL β Z w (encL ty d) cs ∧ wfD ty d
 | [], ty, cs, h, _, _, _ => by simp [tyFs] at h
 | [t], ty, cs, h, ih, hl, hg => by
  simp only [tyFs] at h
  have := ih t (by simp) ty _ h (hg [] t [] rfl)
  have e : (cs.drop (List.map sz []).sum).take (sz t) = cs := by
   simp at hl ⊢
   exact List.take_of_length_le (by omega)
  rw [e] at this
  exact this
 | t :: u :: ts, ty, cs, h, ih, hl, hg => by
  simp only [tyFs] at h
  split at h
  ·rename_i a b ha hb
   simp only [Option.some.injEq] at h
   subst h
   obtain ⟨d1, a1, a2⟩ := ih t (by simp) a _ ha (hg [] t (u :: ts) rfl)
   obtain ⟨d2, b1, b2⟩ := open_seq (sz := sz) (Gd := Gd) (u :: ts) b (cs.drop (sz t)) hb (fun t' ht => ih t' (by simp at ht ⊢; exact .inr ht)) (by simp at hl ⊢; omega) (fun pre t' post e => by
    have := hg (t :: pre) t' post (by rw [e]; rfl)
    rw [List.drop_drop]
    simpa using this)
   refine ⟨(d1, d2), ?_, by simp only [wfD]; exact ⟨a2, b2⟩⟩
   have := RL.append' a1 b1
   simp only [encL]
   simpa using this
  ·cases h
theorem offs_at : ∀ (fs : List Field) (o : Nat), offsOk P o fs = true → ∀ pre f post, fs = pre ++ f :: post → f.offset = o + ((pre.map (·.type)).map P.cellsOf).sum
 | [], o, _, pre, f, post, e => by cases pre <;> cases e
 | g :: fs, o, h, [], f, post, e => by
  simp only [offsOk, Bool.and_eq_true, decide_eq_true_eq] at h
  simp only [List.nil_append, List.cons.injEq] at e
  rw [← e.1]; simpa using h.1
 | g :: fs, o, h, p :: pre, f, post, e => by
  simp only [offsOk, Bool.and_eq_true, decide_eq_true_eq] at h
  simp only [List.cons_append, List.cons.injEq] at e
  have := offs_at fs _ h.2 pre f post e.2
  rw [this, ← e.1]; simp; omega
theorem open_ty {Z : Nat → Prop} (hZ : ∀ b, b < w.heap.size → Z b) : ∀ (m : Nat) (t : TypeId) (ty : Ty), supp P m t = true → tyOf P m t = some ty → ∀ cs, Good enc P w base spare held t cs → ∃ d : ty.D, RL β Z w (encL ty d) cs ∧ wfD ty d
 | 0, t, _, h, _, _, _ => by cases h
 | m + 1, t, ty, h, hty, cs, ⟨n, x, hx⟩ => by
  simp only [supp] at h
  simp only [tyOf] at hty
  split at h
  ·rename_i k hu
   obtain ⟨z, rfl, _, hw⟩ := DataW.trod_int hu hx
   simp only [hu, Option.some.injEq] at hty
   subst hty
   exact ⟨z, by simp [encL, RL, R], hw⟩
  ·rename_i hu
   obtain ⟨z, rfl, _⟩ := DataW.trod_bool hu hx
   simp only [hu, Option.some.injEq] at hty
   subst hty
   exact ⟨z, by simp [encL, RL, R], trivial⟩
  ·rename_i hu
   obtain ⟨z, rfl, _, hs⟩ := DataW.trod_string hu hx
   simp only [hu, Option.some.injEq] at hty
   subst hty
   exact ⟨z, by simp [encL, RL, R], hs⟩
  ·rename_i fs hu
   simp only [Bool.and_eq_true, decide_eq_true_eq, List.all_eq_true] at h
   obtain ⟨⟨h1, h2⟩, h3⟩ := h
   obtain ⟨xs, n', _, _, hl, hxl, hf⟩ := DataW.trod_struct hu hx
   simp only [hu] at hty
   refine open_seq (Gd := Good enc P w base spare held) (sz := P.cellsOf) (fs.toList.map (·.type)) ty cs hty (fun t' ht ty' c hty' hc => ?_) (by rw [hl, h2]) (fun pre t' post e => ?_)
   ·obtain ⟨f, hf1, rfl⟩ := List.mem_map.1 ht
    exact open_ty hZ m f.type ty' (h3 f hf1) hty' c hc
   ·obtain ⟨fpre, frest, e1, e2, e3⟩ := List.map_eq_append_iff.1 e
    obtain ⟨f, fpost, rfl, e4, e5⟩ := List.map_eq_cons_iff.1 e3
    have ho := offs_at fs.toList 0 h1 fpre f fpost e1
    have hi : fs[fpre.length]? = some f := by
     have : fs.toList[fpre.length]? = some f := by rw [e1]; simp
     simpa using this
    have hg := hf _ f hi
    have hlt : fpre.length < fs.size := (Array.getElem?_eq_some_iff.1 hi).1
    rw [ho, Nat.zero_add] at hg
    refine ⟨n', xs[fpre.length]'(by omega), ?_⟩
    rw [← e2, ← e4, hg, List.getElem?_eq_getElem]
  ·rename_i n0 e hu
   simp only [Bool.and_eq_true, decide_eq_true_eq] at h
   obtain ⟨h2, h3⟩ := h
   obtain ⟨xs, n', _, _, hl, hxl, hf⟩ := DataW.trod_array hu hx
   simp only [hu] at hty
   refine open_seq (Gd := Good enc P w base spare held) (sz := P.cellsOf) (List.replicate n0 e) ty cs hty (fun t' ht ty' c hty' hc => ?_) (by rw [hl, h2]) (fun pre t' post e' => ?_)
   ·rw [(List.mem_replicate.1 ht).2] at hc hty'
    exact open_ty hZ m e ty' h3 hty' c hc
   ·obtain ⟨c1, c2, c3⟩ := List.replicate_eq_append_iff.1 e'
    have ht' : t' = e := by
     have : t' ∈ List.replicate n0 e := by rw [e']; simp
     exact (List.mem_replicate.1 this).2
    have hlen : pre.length < n0 := by
     have := congrArg List.length e'
     simp at this; omega
    have hg := hf pre.length hlen
    refine ⟨n', xs[pre.length]'(by omega), ?_⟩
    have hs : (pre.map P.cellsOf).sum = pre.length * P.cellsOf e := by rw [c2]; simp
    rw [hs, ht', hg, List.getElem?_eq_getElem]
  ·rename_i e hu
   simp only [Bool.and_eq_true, decide_eq_true_eq] at h
   obtain ⟨⟨⟨h1, h2⟩, h4⟩, h3⟩ := h
   simp only [hu, Option.map_eq_some_iff] at hty
   obtain ⟨te, hte, rfl⟩ := hty
   rw [hte] at h4
   simp only [Option.any_some, beq_iff_eq] at h4
   rcases DataW.trod_slice hu hx with ⟨rfl, _⟩ | ⟨a, len, cap, elems, rest, n', _, rfl, _, hb, hlc, hm, hlen, hel, _, _⟩
   ·refine ⟨([] : List te.D), ?_, Nat.zero_le _, fun d hd => by cases hd⟩
    simp only [encL, RL, R]
    exact ⟨_, [], rfl, ⟨none, 0, rfl, Nat.le_refl _, fun h => absurd h (Nat.lt_irrefl 0)⟩, rfl⟩
   ·have each : ∀ i, ∃ d : te.D, i < len → ∃ c, w.cells? base (a.add (i * P.cellsOf e)) (P.cellsOf e) = some c ∧ RL β Z w (encL te d) c ∧ wfD te d := fun i => by
     by_cases hi : i < len
     ·have he := hel i hi
      rw [List.getElem?_eq_getElem (by omega)] at he
      obtain ⟨c, hc, ht⟩ := Option.bind_eq_some_iff.1 he
      obtain ⟨d, l1, l2⟩ := open_ty hZ m e te h3 hte c ⟨n', _, ht⟩
      exact ⟨d, fun _ => ⟨c, hc, l1, l2⟩⟩
     ·exact ⟨te.dflt, fun h => absurd h hi⟩
    have ⟨g, hg⟩ := Classical.axiomOfChoice each
    have hlg : List.length ((List.range len).map g) = len := by simp
    refine ⟨(List.range len).map g, ?_, by rw [hlg]; omega, fun d hd => ?_⟩
    ·simp only [encL, RL, R]
     refine ⟨_, [], rfl, ⟨some a, cap, by rw [hlg], by rw [hlg]; omega, fun hn => ?_⟩, rfl⟩
     rw [hlg] at hn
     obtain ⟨c0, hc0, hr0, _⟩ := hg 0 hn
     obtain ⟨_, hcl0, hat0⟩ := World.cells?_some hc0
     have hcell0 : ∃ z, w.cell? ((a.add (0 * P.cellsOf e)).add 0) = some z := by
      rw [hat0 0 (by omega)]; exact ⟨_, List.getElem?_eq_getElem (by omega)⟩
     obtain ⟨z0, hz0⟩ := hcell0
     obtain ⟨b, off, spot⟩ := a
     have hsp : spot = none := by
      cases spot with
      | none => rfl
      | some q =>
       unfold World.cell? at hz0
       split at hz0
       ·simp [Addr.add] at hz0
       ·cases hz0
     subst hsp
     have hbl : b < w.heap.size := by
      simp only [addr_add] at hz0
      unfold World.cell? at hz0
      split at hz0
      ·rename_i hh; exact (Array.getElem?_eq_some_iff.1 hh).1
      ·cases hz0
     refine ⟨b, off, rfl, hZ b hbl, fun i d hd => ?_⟩
     have hi : i < len := by
      have := (List.getElem?_eq_some_iff.1 hd).1
      rwa [hlg] at this
     have hdd : d = g i := by
      rw [List.getElem?_map, List.getElem?_range hi] at hd
      simpa using hd.symm
     subst hdd
     obtain ⟨c, hc, hr, _⟩ := hg i hi
     obtain ⟨_, hcl, hat⟩ := World.cells?_some hc
     refine enc_RD te (g i) c b _ hr (fun j v hv => ?_)
     have hj : j < P.cellsOf e := by
      have := (List.getElem?_eq_some_iff.1 hv).1
      omega
     have := hat j hj
     rw [hv] at this
     rw [h4]
     simpa [addr_add, Nat.add_assoc] using this
    ·obtain ⟨i, hi, rfl⟩ := List.mem_map.1 hd
     obtain ⟨_, _, _, hw⟩ := hg i (by simpa using hi)
     exact hw
  ·cases h
def shp (P : Program) (m : Nat) (t : TypeId) (l : List LV) : Prop := ∃ (ty : Ty) (d : ty.D), tyOf P m t = some ty ∧ l = encL ty d ∧ wfD ty d
theorem shp_of {P : Program} {m : Nat} {t : TypeId} {l : List LV} {ty : Ty} (ht : tyOf P m t = some ty) (h : shp P m t l) : ∃ d : ty.D, l = encL ty d ∧ wfD ty d := by
 obtain ⟨ty', d, h1, h2, h3⟩ := h
 obtain rfl := Option.some.inj (ht.symm.trans h1)
 exact ⟨d, h2, h3⟩
theorem open_shp {Z : Nat → Prop} (hZ : ∀ b, b < w.heap.size → Z b) (m : Nat) (t : TypeId) (hs : supp P m t = true) (ht : (tyOf P m t).isSome = true) (cs : List Value) (hg : Good enc P w base spare held t cs) : ∃ l, RL β Z w l cs ∧ okL 0 l ∧ shp P m t l := by
 obtain ⟨ty, hty⟩ := Option.isSome_iff_exists.1 ht
 obtain ⟨d, h1, h2⟩ := open_ty (β := β) hZ m t ty hs hty cs hg
 exact ⟨encL ty d, h1, encL_ok 0 ty d, ty, d, hty, rfl, h2⟩
end Go.Sx
namespace Go.Sx
open Go Go.RowKit Go.Proofs.Ytihbikkkmoaljaa Go.ChangeShapes Go.WideShapes
variable {H : Type} {enc : TypeId × Value → H} {P : Program} {β : Nat → Loc} {Z : Nat → Prop}
theorem trodAll_stays (hl : laidOutB P = true) {W W' : World} (hb : Below W.heap.size W W') : ∀ (ts : List TypeId) (vs : List Value) (ds : List (DataW H)) (ps : List MemPlace), ts.all (fun t => P.readableRec t && decide (t < P.types.size)) = true →
  DataW.TrodAll enc P W 0 (fun _ => true) true ts vs ds ps → (∀ x ∈ ps, x.block < W.heap.size) → DataW.TrodAll enc P W' 0 (fun b => decide (b < W.heap.size)) true ts vs ds ps
 | [], vs, ds, ps, _, h, _ => by
  cases vs <;> cases ds <;> first | exact h | exact h.elim
 | t :: ts, vs, ds, ps, hr, h, hlt => by
  cases vs with
  | nil => cases ds <;> exact h.elim
  | cons v vs =>
   cases ds with
   | nil => exact h.elim
   | cons d ds =>
    obtain ⟨p, q, h1, h2, rfl⟩ := h
    simp only [List.all_cons, Bool.and_eq_true, decide_eq_true_eq] at hr
    refine ⟨p, q, Below.trod hl hr.1.1 hr.1.2 h1 hb (fun x hx => hlt x (by simp [hx])), ?_, rfl⟩
    exact trodAll_stays hl hb ts vs ds q (by simpa using hr.2) h2 (fun x hx => hlt x (by simp [hx]))
theorem law_post {fn : Func} {s : ChangeSpec} {tb : TypeId} {apart : Bool} {W W' : World} {args : Array Value} {ds gs : List (DataW H)} {before : List MemPlace}
  (hl : laidOutB P = true) (hr : fn.params.toList.all (fun t => P.readableRec t && decide (t < P.types.size)) = true) (hres : fn.resultTypes = #[tb]) (hb : P.underlying tb = some .bool) (hvars : s.vars = [])
  (hfn : (s.fn H ds).results = [.lit (.bool true)] ∧ (s.fn H ds).args = ds ∧ (s.fn H ds).vars = [])
  (hW : DataW.Whole enc P fn.params.toList s.vars apart W args.toList ds gs before) (hB : Below W.heap.size W W') : s.post enc P fn apart true false false W args (.bool true) W' := by
 have hW' := hW
 obtain ⟨p, q, hA, hV, rfl, hfz, hnd⟩ := hW
 have hg : gs = [] ∧ q = [] := by
  rw [hvars] at hV
  cases gs with
  | nil => exact ⟨rfl, hV⟩
  | cons g r => exact hV.elim
 obtain ⟨rfl, rfl⟩ := hg
 have hlt : ∀ x ∈ p, x.block < W.heap.size := fun x hx => hW'.lt x (by simp [hx])
 refine ⟨ds, [], p ++ [], [], p, [], hW', ?_, ?_, ?_, hB.frame _, fun h => by cases h⟩
 ·rw [List.append_nil, hfn.1, hres]
  exact trodAll_mk1 (shut_bool hb true)
 ·rw [List.append_nil, hfn.2.1]
  exact trodAll_stays hl hB _ _ _ _ hr hA hlt
 ·rw [List.append_nil, hfn.2.2, hvars]
  rfl
def pLV (P : Program) (t : TypeId) (l : List LV) : LV :=
 match P.underlying t with
 | some (.struct _) => mkAgg l
 | some (.array _ _) => .junk
 | _ => match l with
  | [x] => x
  | _ => .junk
theorem cell_of {w : World} {b0 : Nat} {r : Reach} {m : Nat} {t : TypeId} (hs : supp P m t = true) {v : Value} (hv : Value.okWide P w r b0 t v) (h1 : ∀ fs, P.underlying t = some (.struct fs) → False) (h2 : ∀ n e, P.underlying t = some (.array n e) → False) : v.cells.toList = [v] := by
 cases m with
 | zero => cases hs
 | succ m =>
  simp only [supp] at hs
  split at hs
  ·rename_i k hu
   obtain ⟨n, rfl⟩ := okWide_int hu hv
   rfl
  ·rename_i hu
   obtain ⟨n, rfl⟩ := okWide_bool hu hv
   rfl
  ·rename_i hu
   obtain ⟨n, rfl⟩ := okWide_string hu hv
   rfl
  ·rename_i fs hu
   exact (h1 fs hu).elim
  ·rename_i n e hu
   exact (h2 n e hu).elim
  ·rename_i e hu
   obtain ⟨a, l, c, rfl⟩ := okWide_slice hu hv
   rfl
  ·cases hs
theorem open_param {w : World} {base b0 : Nat} {spare : Nat → Bool} {held : Bool} {r : Reach} (hZ : ∀ b, b < w.heap.size → Z b) {m : Nat} {t : TypeId} (hs : supp P m t = true) (ht : (tyOf P m t).isSome = true) {v : Value} {d : DataW H} {p : List MemPlace} (hv : Value.okWide P w r b0 t v) (h : DataW.Trod enc P w base spare held t v d p) :
  ∃ l, okV 0 (pLV P t l) ∧ R β Z w (pLV P t l) v ∧ shp P m t l := by
 obtain ⟨fuel, hf⟩ := h
 obtain ⟨l, h1, h2, h3⟩ := open_shp (β := β) hZ m t hs ht v.cells.toList ⟨fuel, _, hf⟩
 refine ⟨l, ?_, ?_, h3⟩
 ·unfold pLV
  split
  ·exact mkAgg_ok h2
  ·trivial
  ·split
   ·exact h2.1
   ·trivial
 ·unfold pLV
  split
  ·rename_i fs hu
   obtain ⟨cs, rfl, _⟩ := okWide_struct hu hv
   exact mkAgg_R h1
  ·simp only [R]
  ·split
   ·rename_i x
    simp only [RL] at h1
    obtain ⟨y, zs, e1, e2, rfl⟩ := h1
    have hc := cell_of hs hv (by assumption) (by assumption)
    have : v = y := by rw [hc] at e1; simpa using e1
    rw [this]; exact e2
   ·simp only [R]
def pLVs (P : Program) : List TypeId → List (List LV) → List LV
 | t :: ts, l :: ls => pLV P t l :: pLVs P ts ls
 | _, _ => []
def shpAll (P : Program) (m : Nat) : List TypeId → List (List LV) → Prop
 | [], ls => ls = []
 | t :: ts, ls => ∃ l r, ls = l :: r ∧ shp P m t l ∧ shpAll P m ts r
theorem open_params {w : World} {base b0 : Nat} {spare : Nat → Bool} {held : Bool} {r : Reach} (hZ : ∀ b, b < w.heap.size → Z b) {m : Nat} : ∀ (ts : List TypeId) (vs : List Value) (ds : List (DataW H)) (ps : List MemPlace), ts.all (fun t => supp P m t && (tyOf P m t).isSome) = true →
  (∀ (j : Nat) t v, ts[j]? = some t → vs[j]? = some v → Value.okWide P w r b0 t v) → DataW.TrodAll enc P w base spare held ts vs ds ps → ∃ ls, okL 0 (pLVs P ts ls) ∧ RL β Z w (pLVs P ts ls) vs ∧ shpAll P m ts ls
 | [], vs, ds, ps, _, _, h => by
  cases vs with
  | nil => exact ⟨[], trivial, by simp [pLVs, RL], rfl⟩
  | cons _ _ => cases ds <;> exact h.elim
 | t :: ts, vs, ds, ps, hs, hv, h => by
  cases vs with
  | nil => cases ds <;> exact h.elim
  | cons v vs =>
   cases ds with
   | nil => exact h.elim
   | cons d ds =>
    obtain ⟨p, q, h1, h2, rfl⟩ := h
    simp only [List.all_cons, Bool.and_eq_true] at hs
    obtain ⟨l, a1, a2, a3⟩ := open_param (β := β) hZ hs.1.1 hs.1.2 (hv 0 t v rfl rfl) h1
    obtain ⟨ls, b1, b2, b3⟩ := open_params hZ ts vs ds q hs.2 (fun j t' v' e1 e2 => hv (j + 1) t' v' (by simpa using e1) (by simpa using e2)) h2
    exact ⟨l :: ls, ⟨a1, b1⟩, ⟨v, vs, rfl, a2, b2⟩, l, ls, rfl, a3, b3⟩
theorem law_contract {G : Globs} {f : FuncId} {fn : Func} {S : List LV → T LV} {s : ChangeSpec} {tb : TypeId} {apart : Bool} {m : Nat} {W : World} {base : Nat} {args : Array Value} {ds gs : List (DataW H)} {before : List MemPlace}
  (hv : Valid P G f S) (hl : laidOutB P = true) (hr : fn.params.toList.all (fun t => P.readableRec t && decide (t < P.types.size)) = true) (hres : fn.resultTypes = #[tb]) (hb : P.underlying tb = some .bool) (hvars : s.vars = [])
  (hfn : (s.fn H ds).results = [.lit (.bool true)] ∧ (s.fn H ds).args = ds ∧ (s.fn H ds).vars = []) (hs : fn.params.toList.all (fun t => supp P m t && (tyOf P m t).isSome) = true)
  (hS : ∀ ls, shpAll P m fn.params.toList ls → (S (pLVs P fn.params.toList ls)).all (fun x => x = .v (.bool true)))
  (hg : GlOk G (fun b => b < W.heap.size) W)
  (hval : ∀ (j : Nat) t v, fn.params[j]? = some t → args[j]? = some v → Value.okWide P W .any base t v)
  (hW : DataW.Whole enc P fn.params.toList s.vars apart W args.toList ds gs before) :
  Calls P f args W fun e W' => ∃ v, e = .returned v ∧ s.post enc P fn apart true false false W args v W' := by
 have hA : ∃ p, DataW.TrodAll enc P W 0 (fun _ => true) true fn.params.toList args.toList ds p := by
  obtain ⟨p, q, hA, _⟩ := hW
  exact ⟨p, hA⟩
 obtain ⟨p, hA⟩ := hA
 obtain ⟨ls, h1, h2, h3⟩ := open_params (β := β0) (Z := fun b => b < W.heap.size) (fun _ h => h) fn.params.toList args.toList ds p hs (fun j t v e1 e2 => hval j t v (by simpa using e1) (by simpa using e2)) hA
 refine (hv _ args W _ _ (fun _ h => h) hg h1 h2 (hS ls h3)).mono fun e W' ⟨hB, v, he, _, hR⟩ => ⟨v, he, ?_⟩
 simp only [R] at hR
 rw [hR]
 exact law_post hl hr hres hb hvars hfn hW hB
end Go.Sx
namespace Go.Sx
open Go Go.RowKit Go.Proofs.Ytihbikkkmoaljaa
variable {H : Type} {enc : TypeId × Value → H} {P : Program} {w : World} {base : Nat} {spare : Nat → Bool} {held : Bool}
def flatD {H : Type} : Nat → DataW H → List Value
 | 0, _ => []
 | _ + 1, .lit (.int k n) => [.int k n]
 | _ + 1, .lit (.bool b) => [.bool b]
 | m + 1, .agg l => l.flatMap (flatD m)
 | _, _ => []
def plainT (P : Program) : Nat → TypeId → Bool
 | 0, _ => false
 | m + 1, t => match P.underlying t with
  | some (.int _) | some .bool => true
  | some (.struct fs) => offsOk P 0 fs.toList && decide (P.cellsOf t = ((fs.toList.map (·.type)).map P.cellsOf).sum) && fs.toList.all (fun f => plainT P m f.type)
  | some (.array n e) => decide (P.cellsOf t = ((List.replicate n e).map P.cellsOf).sum) && plainT P m e
  | _ => false
theorem flat_seq {sz : TypeId → Nat} {g : DataW H → List Value} {Tr : TypeId → List Value → DataW H → Prop} : ∀ (ts : List TypeId) (cs : List Value) (ds : List (DataW H)),
  (∀ t ∈ ts, ∀ c d, Tr t c d → g d = c) → ds.length = ts.length → cs.length = (ts.map sz).sum → (∀ pre t post, ts = pre ++ t :: post → ∃ d, ds[pre.length]? = some d ∧ Tr t ((cs.drop (pre.map sz).sum).take (sz t)) d) → ds.flatMap g = cs
 | [], cs, ds, _, h0, hl, _ => by
  have : cs = [] := by simpa using hl
  have h2 : ds = [] := by simpa using h0
  rw [this, h2]; rfl
 | t :: ts, cs, [], _, h0, _, _ => by simp at h0
 | t :: ts, cs, d :: ds, ih, h0, hl, hg => by
  obtain ⟨d', e1, e2⟩ := hg [] t ts rfl
  simp at e1
  subst e1
  have r := flat_seq (sz := sz) (g := g) (Tr := Tr) ts (cs.drop (sz t)) ds (fun t' ht => ih t' (by simp [ht])) (by simpa using h0) (by simp at hl ⊢; omega) (fun pre t' post e => by
   obtain ⟨q, q1, q2⟩ := hg (t :: pre) t' post (by rw [e]; rfl)
   refine ⟨q, by simpa using q1, ?_⟩
   rw [List.drop_drop]
   simpa using q2)
  rw [List.flatMap_cons, r, ih t (by simp) _ _ e2]
  simp
theorem flat_of : ∀ (m : Nat) (t : TypeId), plainT P m t = true → ∀ (n : Nat) (cs : List Value) (x : DataW H × List MemPlace), DataW.trod enc P w base spare held n t cs = some x → flatD m x.1 = cs
 | 0, t, h, _, _, _, _ => by cases h
 | m + 1, t, h, n, cs, x, hx => by
  simp only [plainT] at h
  split at h
  ·rename_i k hu
   obtain ⟨z, rfl, rfl, hw⟩ := DataW.trod_int hu hx
   rfl
  ·rename_i hu
   obtain ⟨z, rfl, rfl⟩ := DataW.trod_bool hu hx
   rfl
  ·rename_i fs hu
   simp only [Bool.and_eq_true, decide_eq_true_eq, List.all_eq_true] at h
   obtain ⟨⟨h1, h2⟩, h3⟩ := h
   obtain ⟨xs, n', _, rfl, hl, hxl, hf⟩ := DataW.trod_struct hu hx
   simp only [flatD]
   refine flat_seq (sz := P.cellsOf) (Tr := fun t c d => ∃ y, DataW.trod enc P w base spare held n' t c = some y ∧ y.1 = d) (fs.toList.map (·.type)) cs _ (fun t' ht c d hc => ?_) (by simp [hxl]) (by rw [hl, h2]) (fun pre t' post e => ?_)
   ·obtain ⟨f, hf1, rfl⟩ := List.mem_map.1 ht
    obtain ⟨y, hy, rfl⟩ := hc
    exact flat_of m f.type (h3 f hf1) n' c y hy
   ·obtain ⟨fpre, frest, e1, e2, e3⟩ := List.map_eq_append_iff.1 e
    obtain ⟨f, fpost, rfl, e4, e5⟩ := List.map_eq_cons_iff.1 e3
    have ho := offs_at fs.toList 0 h1 fpre f fpost e1
    have hi : fs[fpre.length]? = some f := by
     have : fs.toList[fpre.length]? = some f := by rw [e1]; simp
     simpa using this
    have hg := hf _ f hi
    have hlt : fpre.length < fs.size := (Array.getElem?_eq_some_iff.1 hi).1
    rw [ho, Nat.zero_add] at hg
    refine ⟨(xs[fpre.length]'(by omega)).1, ?_, xs[fpre.length]'(by omega), ?_, rfl⟩
    ·rw [← e2, List.length_map, List.getElem?_map, List.getElem?_eq_getElem (by omega)]; rfl
    ·rw [← e2, ← e4, hg, List.getElem?_eq_getElem]
  ·rename_i n0 e hu
   simp only [Bool.and_eq_true, decide_eq_true_eq] at h
   obtain ⟨h2, h3⟩ := h
   obtain ⟨xs, n', _, rfl, hl, hxl, hf⟩ := DataW.trod_array hu hx
   simp only [flatD]
   refine flat_seq (sz := P.cellsOf) (Tr := fun t c d => ∃ y, DataW.trod enc P w base spare held n' t c = some y ∧ y.1 = d) (List.replicate n0 e) cs _ (fun t' ht c d hc => ?_) (by simp [hxl]) (by rw [hl, h2]) (fun pre t' post e' => ?_)
   ·rw [(List.mem_replicate.1 ht).2] at hc
    obtain ⟨y, hy, rfl⟩ := hc
    exact flat_of m e h3 n' c y hy
   ·obtain ⟨c1, c2, c3⟩ := List.replicate_eq_append_iff.1 e'
    have ht' : t' = e := by
     have : t' ∈ List.replicate n0 e := by rw [e']; simp
     exact (List.mem_replicate.1 this).2
    have hlen : pre.length < n0 := by
     have := congrArg List.length e'
     simp at this; omega
    have hg := hf pre.length hlen
    have hs : (pre.map P.cellsOf).sum = pre.length * P.cellsOf e := by rw [c2]; simp
    refine ⟨(xs[pre.length]'(by omega)).1, ?_, xs[pre.length]'(by omega), ?_, rfl⟩
    ·rw [List.getElem?_map, List.getElem?_eq_getElem (by omega)]; rfl
    ·rw [hs, ht', hg, List.getElem?_eq_getElem]
  ·cases h
theorem cells_of_head {W : World} {name : String} {d : DataW Unit} {rest : List (String × DataW Unit)} {g : Nat} {t : TypeId} {m : Nat} (hg : P.globalNamed name = some g) (hty : (P.globals[g]?).map (·.type) = some t) (hp : plainT P m t = true)
  (h : laidMet P ((name, d) :: rest) W) : (∀ i, W.cell? ⟨g, i, none⟩ = (flatD m d)[i]?) ∧ ((flatD m d) ≠ [] → g < W.heap.size) := by
 obtain ⟨ps, ⟨g', t', cs, fuel, p, q, hg', ht', hvar, hd, _, _⟩, _⟩ := h
 obtain rfl := Option.some.inj (hg.symm.trans hg')
 obtain rfl := Option.some.inj (hty.symm.trans ht')
 have hf := flat_of m t hp fuel _ _ hd
 simp only at hf
 have hcell : ∀ i, W.cell? ⟨g, i, none⟩ = (flatD m d)[i]? := fun i => by
  rw [World.var?_cell hg hvar i, hf]; simp
 refine ⟨hcell, fun hne => ?_⟩
 have h0 := hcell 0
 cases hh : (flatD m d)[0]? with
 | none => exact absurd (List.getElem?_eq_none_iff.1 hh) (by have := List.length_pos_iff.2 hne; omega)
 | some z =>
  rw [hh] at h0
  unfold World.cell? at h0
  split at h0
  ·rename_i hb; exact (Array.getElem?_eq_some_iff.1 hb).1
  ·cases h0
end Go.Sx
