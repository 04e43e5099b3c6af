/- Arguments that a statement reads, opened to data with types. -/
import Derived.Test.YtcpadfehoaopaaaSxM
import Derived.OpenShut
import Derived.ChangeShapes
import Derived.WideShapes
namespace Go.Sx
open Go Go.RowKit Go.Proofs.Ytcpadfehoaopaaa

/-- What is known of the data of arguments. -/
def wfD : (t : Ty) → t.D → Prop
  | .int k, n => (Lit.int k n).wf = true
  | .bool, _ => True
  | .str, s => s.size ≤ maxLen
  | .sl e, l => List.length l ≤ maxLen ∧ ∀ d, d ∈ l → wfD e d
  | .pair a b, d => wfD a d.1 ∧ wfD b d.2
def offsOk (P : Program) : Nat → List Field → Bool
  | _, [] => true
  | o, f :: fs => decide (f.offset = o) && offsOk P (o + P.cellsOf f.type) fs
/-- What is covered. -/
def supp (P : Program) : Nat → TypeId → Bool
  | 0, _ => false
  | m + 1, t => match P.underlying t with
    | some (.int _) | some .bool | some .string => decide (P.cellsOf t = 1)
    | some (.struct fs) => offsOk P 0 fs.toList && decide (P.cellsOf t = ((fs.toList.map (·.type)).map P.cellsOf).sum) && fs.toList.all (fun f => supp P m f.type)
    | some (.array n e) => decide (P.cellsOf t = ((List.replicate n e).map P.cellsOf).sum) && supp P m e
    | some (.slice e) => decide (P.cellsOf t = 1) && decide (1 ≤ P.cellsOf e) && (tyOf P m e).any (fun ty => ty.n == P.cellsOf e) && supp P m e
    | _ => false

variable {H : Type} {enc : TypeId × Value → H} {P : Program} {w : World} {base : Nat} {spare : Nat → Bool} {held : Bool} {β : Nat → Loc}

def Good (enc : TypeId × Value → H) (P : Program) (w : World) (base : Nat) (spare : Nat → Bool) (held : Bool) (t : TypeId) (cs : List Value) : Prop := ∃ n x, DataW.trod enc P w base spare held n t cs = some x
theorem RL.append' {Z : Nat → Prop} : ∀ {l1 l2 : List LV} {y1 y2 : List Value}, RL β Z w l1 y1 → RL β Z w l2 y2 → RL β Z w (l1 ++ l2) (y1 ++ y2)
  | [], l2, y1, y2, h1, h2 => by simp only [RL] at h1; subst h1; exact h2
  | x :: xs, l2, y1, y2, h1, h2 => by
    simp only [RL, List.cons_append] at h1 ⊢
    obtain ⟨y, zs, rfl, h3, h4⟩ := h1
    exact ⟨y, zs ++ y2, rfl, h3, RL.append' h4 h2⟩
/-- Data that lie in memory. -/
theorem enc_RD {Z : Nat → Prop} : ∀ (t : Ty) (d : t.D) (cs : List Value) (b o : Nat), RL β Z w (encL t d) cs → (∀ (j : Nat) v, cs[j]? = some v → w.cell? ⟨b, o + j, none⟩ = some v) → RD Z w t d b o
  | .int k, d, cs, b, o, h, hc => by
    simp only [encL, RL, R] at h
    obtain ⟨y, zs, rfl, rfl, _⟩ := h
    simp only [RD]; exact hc 0 _ rfl
  | .bool, d, cs, b, o, h, hc => by
    simp only [encL, RL, R] at h
    obtain ⟨y, zs, rfl, rfl, _⟩ := h
    simp only [RD]; exact hc 0 _ rfl
  | .str, d, cs, b, o, h, hc => by
    simp only [encL, RL, R] at h
    obtain ⟨y, zs, rfl, rfl, _⟩ := h
    simp only [RD]; exact hc 0 _ rfl
  | .sl e, d, cs, b, o, h, hc => by
    simp only [encL, RL, R] at h
    obtain ⟨y, zs, rfl, ⟨a, cap, rfl, h2, h3⟩, _⟩ := h
    simp only [RD]; exact ⟨a, cap, hc 0 _ rfl, h2, h3⟩
  | .pair p q, d, cs, b, o, h, hc => by
    simp only [encL] at h
    have hl := RL.length h
    simp only [List.length_append, encL_length] at hl
    have h1 := h.take_drop 0 p.n
    have h2 : RL β Z w ((encL p d.1 ++ encL q d.2).drop p.n) (cs.drop p.n) := by
      refine RL.of_get (by simp [hl, encL_length]) fun i z hz => ?_
      rw [List.getElem?_drop] at hz ⊢
      exact RL.get _ _ h hz
    have t1 : ((encL p d.1 ++ encL q d.2).drop 0).take p.n = encL p d.1 := by
      rw [List.drop_zero, List.take_append_of_le_length (by rw [encL_length]; exact Nat.le_refl _), List.take_of_length_le (by rw [encL_length]; exact Nat.le_refl _)]
    have t2 : (encL p d.1 ++ encL q d.2).drop p.n = encL q d.2 := by
      rw [List.drop_append_of_le_length (by rw [encL_length]; exact Nat.le_refl _), List.drop_eq_nil_of_le (by rw [encL_length]; exact Nat.le_refl _), List.nil_append]
    rw [t1, List.drop_zero] at h1
    rw [t2] at h2
    simp only [RD]
    refine ⟨enc_RD p d.1 _ b o h1 (fun j v hv => ?_), enc_RD q d.2 _ b (o + p.n) h2 (fun j v hv => ?_)⟩
    · rw [List.getElem?_take] at hv
      split at hv
      · exact hc j v hv
      · cases hv
    · rw [List.getElem?_drop] at hv
      have := hc (p.n + j) v hv
      rwa [← Nat.add_assoc] at this
theorem open_seq {Z : Nat → Prop} {r : TypeId → Option Ty} {sz : TypeId → Nat} {Gd : TypeId → List Value → Prop} : ∀ (ts : List TypeId) (ty : Ty) (cs : List Value), tyFs r ts = some ty →
    (∀ t ∈ ts, ∀ ty c, r t = some ty → Gd t c → ∃ d : ty.D, RL β Z w (encL ty d) c ∧ wfD ty d) → cs.length = (ts.map sz).sum → (∀ pre t post, ts = pre ++ t :: post → Gd t ((cs.drop (pre.map sz).sum).take (sz t))) → ∃ d : ty.D, RL β Z w (encL ty d) cs ∧ wfD ty d
  | [], ty, cs, h, _, _, _ => by simp [tyFs] at h
  | [t], ty, cs, h, ih, hl, hg => by
    simp only [tyFs] at h
    have := ih t (by simp) ty _ h (hg [] t [] rfl)
    have e : (cs.drop (List.map sz []).sum).take (sz t) = cs := by
      simp at hl ⊢
      exact List.take_of_length_le (by omega)
    rw [e] at this
    exact this
  | t :: u :: ts, ty, cs, h, ih, hl, hg => by
    simp only [tyFs] at h
    split at h
    · rename_i a b ha hb
      simp only [Option.some.injEq] at h
      subst h
      obtain ⟨d1, a1, a2⟩ := ih t (by simp) a _ ha (hg [] t (u :: ts) rfl)
      obtain ⟨d2, b1, b2⟩ := open_seq (sz := sz) (Gd := Gd) (u :: ts) b (cs.drop (sz t)) hb (fun t' ht => ih t' (by simp at ht ⊢; exact .inr ht)) (by simp at hl ⊢; omega) (fun pre t' post e => by
        have := hg (t :: pre) t' post (by rw [e]; rfl)
        rw [List.drop_drop]
        simpa using this)
      refine ⟨(d1, d2), ?_, by simp only [wfD]; exact ⟨a2, b2⟩⟩
      have := RL.append' a1 b1
      simp only [encL]
      simpa using this
    · cases h
theorem offs_at : ∀ (fs : List Field) (o : Nat), offsOk P o fs = true → ∀ pre f post, fs = pre ++ f :: post → f.offset = o + ((pre.map (·.type)).map P.cellsOf).sum
  | [], o, _, pre, f, post, e => by cases pre <;> cases e
  | g :: fs, o, h, [], f, post, e => by
    simp only [offsOk, Bool.and_eq_true, decide_eq_true_eq] at h
    simp only [List.nil_append, List.cons.injEq] at e
    rw [← e.1]; simpa using h.1
  | g :: fs, o, h, p :: pre, f, post, e => by
    simp only [offsOk, Bool.and_eq_true, decide_eq_true_eq] at h
    simp only [List.cons_append, List.cons.injEq] at e
    have := offs_at fs _ h.2 pre f post e.2
    rw [this, ← e.1]; simp; omega

theorem open_ty {Z : Nat → Prop} (hZ : ∀ b, b < w.heap.size → Z b) : ∀ (m : Nat) (t : TypeId) (ty : Ty), supp P m t = true → tyOf P m t = some ty → ∀ cs, Good enc P w base spare held t cs → ∃ d : ty.D, RL β Z w (encL ty d) cs ∧ wfD ty d
  | 0, t, _, h, _, _, _ => by cases h
  | m + 1, t, ty, h, hty, cs, ⟨n, x, hx⟩ => by
    simp only [supp] at h
    simp only [tyOf] at hty
    split at h
    · rename_i k hu
      obtain ⟨z, rfl, _, hw⟩ := DataW.trod_int hu hx
      simp only [hu, Option.some.injEq] at hty
      subst hty
      exact ⟨z, by simp [encL, RL, R], hw⟩
    · rename_i hu
      obtain ⟨z, rfl, _⟩ := DataW.trod_bool hu hx
      simp only [hu, Option.some.injEq] at hty
      subst hty
      exact ⟨z, by simp [encL, RL, R], trivial⟩
    · rename_i hu
      obtain ⟨z, rfl, _, hs⟩ := DataW.trod_string hu hx
      simp only [hu, Option.some.injEq] at hty
      subst hty
      exact ⟨z, by simp [encL, RL, R], hs⟩
    · rename_i fs hu
      simp only [Bool.and_eq_true, decide_eq_true_eq, List.all_eq_true] at h
      obtain ⟨⟨h1, h2⟩, h3⟩ := h
      obtain ⟨xs, n', _, _, hl, hxl, hf⟩ := DataW.trod_struct hu hx
      simp only [hu] at hty
      refine open_seq (Gd := Good enc P w base spare held) (sz := P.cellsOf) (fs.toList.map (·.type)) ty cs hty (fun t' ht ty' c hty' hc => ?_) (by rw [hl, h2]) (fun pre t' post e => ?_)
      · obtain ⟨f, hf1, rfl⟩ := List.mem_map.1 ht
        exact open_ty hZ m f.type ty' (h3 f hf1) hty' c hc
      · obtain ⟨fpre, frest, e1, e2, e3⟩ := List.map_eq_append_iff.1 e
        obtain ⟨f, fpost, rfl, e4, e5⟩ := List.map_eq_cons_iff.1 e3
        have ho := offs_at fs.toList 0 h1 fpre f fpost e1
        have hi : fs[fpre.length]? = some f := by
          have : fs.toList[fpre.length]? = some f := by rw [e1]; simp
          simpa using this
        have hg := hf _ f hi
        have hlt : fpre.length < fs.size := (Array.getElem?_eq_some_iff.1 hi).1
        rw [ho, Nat.zero_add] at hg
        refine ⟨n', xs[fpre.length]'(by omega), ?_⟩
        rw [← e2, ← e4, hg, List.getElem?_eq_getElem]
    · rename_i n0 e hu
      simp only [Bool.and_eq_true, decide_eq_true_eq] at h
      obtain ⟨h2, h3⟩ := h
      obtain ⟨xs, n', _, _, hl, hxl, hf⟩ := DataW.trod_array hu hx
      simp only [hu] at hty
      refine open_seq (Gd := Good enc P w base spare held) (sz := P.cellsOf) (List.replicate n0 e) ty cs hty (fun t' ht ty' c hty' hc => ?_) (by rw [hl, h2]) (fun pre t' post e' => ?_)
      · rw [(List.mem_replicate.1 ht).2] at hc hty'
        exact open_ty hZ m e ty' h3 hty' c hc
      · obtain ⟨c1, c2, c3⟩ := List.replicate_eq_append_iff.1 e'
        have ht' : t' = e := by
          have : t' ∈ List.replicate n0 e := by rw [e']; simp
          exact (List.mem_replicate.1 this).2
        have hlen : pre.length < n0 := by
          have := congrArg List.length e'
          simp at this; omega
        have hg := hf pre.length hlen
        refine ⟨n', xs[pre.length]'(by omega), ?_⟩
        have hs : (pre.map P.cellsOf).sum = pre.length * P.cellsOf e := by rw [c2]; simp
        rw [hs, ht', hg, List.getElem?_eq_getElem]
    · rename_i e hu
      simp only [Bool.and_eq_true, decide_eq_true_eq] at h
      obtain ⟨⟨⟨h1, h2⟩, h4⟩, h3⟩ := h
      simp only [hu, Option.map_eq_some_iff] at hty
      obtain ⟨te, hte, rfl⟩ := hty
      rw [hte] at h4
      simp only [Option.any_some, beq_iff_eq] at h4
      rcases DataW.trod_slice hu hx with ⟨rfl, _⟩ | ⟨a, len, cap, elems, rest, n', _, rfl, _, hb, hlc, hm, hlen, hel, _, _⟩
      · refine ⟨([] : List te.D), ?_, Nat.zero_le _, fun d hd => by cases hd⟩
        simp only [encL, RL, R]
        exact ⟨_, [], rfl, ⟨none, 0, rfl, Nat.le_refl _, fun h => absurd h (Nat.lt_irrefl 0)⟩, rfl⟩
      · have each : ∀ i, ∃ d : te.D, i < len → ∃ c, w.cells? base (a.add (i * P.cellsOf e)) (P.cellsOf e) = some c ∧ RL β Z w (encL te d) c ∧ wfD te d := fun i => by
          by_cases hi : i < len
          · have he := hel i hi
            rw [List.getElem?_eq_getElem (by omega)] at he
            obtain ⟨c, hc, ht⟩ := Option.bind_eq_some_iff.1 he
            obtain ⟨d, l1, l2⟩ := open_ty hZ m e te h3 hte c ⟨n', _, ht⟩
            exact ⟨d, fun _ => ⟨c, hc, l1, l2⟩⟩
          · exact ⟨te.dflt, fun h => absurd h hi⟩
        have ⟨g, hg⟩ := Classical.axiomOfChoice each
        have hlg : List.length ((List.range len).map g) = len := by simp
        refine ⟨(List.range len).map g, ?_, by rw [hlg]; omega, fun d hd => ?_⟩
        · simp only [encL, RL, R]
          refine ⟨_, [], rfl, ⟨some a, cap, by rw [hlg], by rw [hlg]; omega, fun hn => ?_⟩, rfl⟩
          rw [hlg] at hn
          obtain ⟨c0, hc0, hr0, _⟩ := hg 0 hn
          obtain ⟨_, hcl0, hat0⟩ := World.cells?_some hc0
          have hcell0 : ∃ z, w.cell? ((a.add (0 * P.cellsOf e)).add 0) = some z := by
            rw [hat0 0 (by omega)]; exact ⟨_, List.getElem?_eq_getElem (by omega)⟩
          obtain ⟨z0, hz0⟩ := hcell0
          obtain ⟨b, off, spot⟩ := a
          have hsp : spot = none := by
            cases spot with
            | none => rfl
            | some q =>
              unfold World.cell? at hz0
              split at hz0
              · simp [Addr.add] at hz0
              · cases hz0
          subst hsp
          have hbl : b < w.heap.size := by
            simp only [addr_add] at hz0
            unfold World.cell? at hz0
            split at hz0
            · rename_i hh; exact (Array.getElem?_eq_some_iff.1 hh).1
            · cases hz0
          refine ⟨b, off, rfl, hZ b hbl, fun i d hd => ?_⟩
          have hi : i < len := by
            have := (List.getElem?_eq_some_iff.1 hd).1
            rwa [hlg] at this
          have hdd : d = g i := by
            rw [List.getElem?_map, List.getElem?_range hi] at hd
            simpa using hd.symm
          subst hdd
          obtain ⟨c, hc, hr, _⟩ := hg i hi
          obtain ⟨_, hcl, hat⟩ := World.cells?_some hc
          refine enc_RD te (g i) c b _ hr (fun j v hv => ?_)
          have hj : j < P.cellsOf e := by
            have := (List.getElem?_eq_some_iff.1 hv).1
            omega
          have := hat j hj
          rw [hv] at this
          rw [h4]
          simpa [addr_add, Nat.add_assoc] using this
        · obtain ⟨i, hi, rfl⟩ := List.mem_map.1 hd
          obtain ⟨_, _, _, hw⟩ := hg i (by simpa using hi)
          exact hw
    · cases h
/-- A parameter: data of its type. -/
def shp (P : Program) (m : Nat) (t : TypeId) (l : List LV) : Prop := ∃ (ty : Ty) (d : ty.D), tyOf P m t = some ty ∧ l = encL ty d ∧ wfD ty d
theorem shp_of {P : Program} {m : Nat} {t : TypeId} {l : List LV} {ty : Ty} (ht : tyOf P m t = some ty) (h : shp P m t l) : ∃ d : ty.D, l = encL ty d ∧ wfD ty d := by
  obtain ⟨ty', d, h1, h2, h3⟩ := h
  obtain rfl := Option.some.inj (ht.symm.trans h1)
  exact ⟨d, h2, h3⟩
theorem open_shp {Z : Nat → Prop} (hZ : ∀ b, b < w.heap.size → Z b) (m : Nat) (t : TypeId) (hs : supp P m t = true) (ht : (tyOf P m t).isSome = true) (cs : List Value) (hg : Good enc P w base spare held t cs) : ∃ l, RL β Z w l cs ∧ okL 0 l ∧ shp P m t l := by
  obtain ⟨ty, hty⟩ := Option.isSome_iff_exists.1 ht
  obtain ⟨d, h1, h2⟩ := open_ty (β := β) hZ m t ty hs hty cs hg
  exact ⟨encL ty d, h1, encL_ok 0 ty d, ty, d, hty, rfl, h2⟩
end Go.Sx
