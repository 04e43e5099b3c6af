/- A listed variable of plain data: what its cells hold. -/
import Derived.Test.YtcpadfehoaopaaaSxP
import Derived.FnData
namespace Go.Sx
open Go Go.RowKit Go.Proofs.Ytcpadfehoaopaaa

variable {H : Type} {enc : TypeId × Value → H} {P : Program} {w : World} {base : Nat} {spare : Nat → Bool} {held : Bool}

def flatD {H : Type} : Nat → DataW H → List Value
  | 0, _ => []
  | _ + 1, .lit (.int k n) => [.int k n]
  | _ + 1, .lit (.bool b) => [.bool b]
  | m + 1, .agg l => l.flatMap (flatD m)
  | _, _ => []
def plainT (P : Program) : Nat → TypeId → Bool
  | 0, _ => false
  | m + 1, t => match P.underlying t with
    | some (.int _) | some .bool => true
    | some (.struct fs) => offsOk P 0 fs.toList && decide (P.cellsOf t = ((fs.toList.map (·.type)).map P.cellsOf).sum) && fs.toList.all (fun f => plainT P m f.type)
    | some (.array n e) => decide (P.cellsOf t = ((List.replicate n e).map P.cellsOf).sum) && plainT P m e
    | _ => false
theorem flat_seq {sz : TypeId → Nat} {g : DataW H → List Value} {Tr : TypeId → List Value → DataW H → Prop} : ∀ (ts : List TypeId) (cs : List Value) (ds : List (DataW H)),
    (∀ t ∈ ts, ∀ c d, Tr t c d → g d = c) → ds.length = ts.length → cs.length = (ts.map sz).sum → (∀ pre t post, ts = pre ++ t :: post → ∃ d, ds[pre.length]? = some d ∧ Tr t ((cs.drop (pre.map sz).sum).take (sz t)) d) → ds.flatMap g = cs
  | [], cs, ds, _, h0, hl, _ => by
    have : cs = [] := by simpa using hl
    have h2 : ds = [] := by simpa using h0
    rw [this, h2]; rfl
  | t :: ts, cs, [], _, h0, _, _ => by simp at h0
  | t :: ts, cs, d :: ds, ih, h0, hl, hg => by
    obtain ⟨d', e1, e2⟩ := hg [] t ts rfl
    simp at e1
    subst e1
    have r := flat_seq (sz := sz) (g := g) (Tr := Tr) ts (cs.drop (sz t)) ds (fun t' ht => ih t' (by simp [ht])) (by simpa using h0) (by simp at hl ⊢; omega) (fun pre t' post e => by
      obtain ⟨q, q1, q2⟩ := hg (t :: pre) t' post (by rw [e]; rfl)
      refine ⟨q, by simpa using q1, ?_⟩
      rw [List.drop_drop]
      simpa using q2)
    rw [List.flatMap_cons, r, ih t (by simp) _ _ e2]
    simp
theorem flat_of : ∀ (m : Nat) (t : TypeId), plainT P m t = true → ∀ (n : Nat) (cs : List Value) (x : DataW H × List MemPlace), DataW.trod enc P w base spare held n t cs = some x → flatD m x.1 = cs
  | 0, t, h, _, _, _, _ => by cases h
  | m + 1, t, h, n, cs, x, hx => by
    simp only [plainT] at h
    split at h
    · rename_i k hu
      obtain ⟨z, rfl, rfl, hw⟩ := DataW.trod_int hu hx
      rfl
    · rename_i hu
      obtain ⟨z, rfl, rfl⟩ := DataW.trod_bool hu hx
      rfl
    · rename_i fs hu
      simp only [Bool.and_eq_true, decide_eq_true_eq, List.all_eq_true] at h
      obtain ⟨⟨h1, h2⟩, h3⟩ := h
      obtain ⟨xs, n', _, rfl, hl, hxl, hf⟩ := DataW.trod_struct hu hx
      simp only [flatD]
      refine flat_seq (sz := P.cellsOf) (Tr := fun t c d => ∃ y, DataW.trod enc P w base spare held n' t c = some y ∧ y.1 = d) (fs.toList.map (·.type)) cs _ (fun t' ht c d hc => ?_) (by simp [hxl]) (by rw [hl, h2]) (fun pre t' post e => ?_)
      · obtain ⟨f, hf1, rfl⟩ := List.mem_map.1 ht
        obtain ⟨y, hy, rfl⟩ := hc
        exact flat_of m f.type (h3 f hf1) n' c y hy
      · obtain ⟨fpre, frest, e1, e2, e3⟩ := List.map_eq_append_iff.1 e
        obtain ⟨f, fpost, rfl, e4, e5⟩ := List.map_eq_cons_iff.1 e3
        have ho := offs_at fs.toList 0 h1 fpre f fpost e1
        have hi : fs[fpre.length]? = some f := by
          have : fs.toList[fpre.length]? = some f := by rw [e1]; simp
          simpa using this
        have hg := hf _ f hi
        have hlt : fpre.length < fs.size := (Array.getElem?_eq_some_iff.1 hi).1
        rw [ho, Nat.zero_add] at hg
        refine ⟨(xs[fpre.length]'(by omega)).1, ?_, xs[fpre.length]'(by omega), ?_, rfl⟩
        · rw [← e2, List.length_map, List.getElem?_map, List.getElem?_eq_getElem (by omega)]; rfl
        · rw [← e2, ← e4, hg, List.getElem?_eq_getElem]
    · rename_i n0 e hu
      simp only [Bool.and_eq_true, decide_eq_true_eq] at h
      obtain ⟨h2, h3⟩ := h
      obtain ⟨xs, n', _, rfl, hl, hxl, hf⟩ := DataW.trod_array hu hx
      simp only [flatD]
      refine flat_seq (sz := P.cellsOf) (Tr := fun t c d => ∃ y, DataW.trod enc P w base spare held n' t c = some y ∧ y.1 = d) (List.replicate n0 e) cs _ (fun t' ht c d hc => ?_) (by simp [hxl]) (by rw [hl, h2]) (fun pre t' post e' => ?_)
      · rw [(List.mem_replicate.1 ht).2] at hc
        obtain ⟨y, hy, rfl⟩ := hc
        exact flat_of m e h3 n' c y hy
      · obtain ⟨c1, c2, c3⟩ := List.replicate_eq_append_iff.1 e'
        have ht' : t' = e := by
          have : t' ∈ List.replicate n0 e := by rw [e']; simp
          exact (List.mem_replicate.1 this).2
        have hlen : pre.length < n0 := by
          have := congrArg List.length e'
          simp at this; omega
        have hg := hf pre.length hlen
        have hs : (pre.map P.cellsOf).sum = pre.length * P.cellsOf e := by rw [c2]; simp
        refine ⟨(xs[pre.length]'(by omega)).1, ?_, xs[pre.length]'(by omega), ?_, rfl⟩
        · rw [List.getElem?_map, List.getElem?_eq_getElem (by omega)]; rfl
        · rw [hs, ht', hg, List.getElem?_eq_getElem]
    · cases h
/-- The first variable on the list. -/
theorem cells_of_head {W : World} {name : String} {d : DataW Unit} {rest : List (String × DataW Unit)} {g : Nat} {t : TypeId} {m : Nat} (hg : P.globalNamed name = some g) (hty : (P.globals[g]?).map (·.type) = some t) (hp : plainT P m t = true)
    (h : laidMet P ((name, d) :: rest) W) : (∀ i, W.cell? ⟨g, i, none⟩ = (flatD m d)[i]?) ∧ ((flatD m d) ≠ [] → g < W.heap.size) := by
  obtain ⟨ps, ⟨g', t', cs, fuel, p, q, hg', ht', hvar, hd, _, _⟩, _⟩ := h
  obtain rfl := Option.some.inj (hg.symm.trans hg')
  obtain rfl := Option.some.inj (hty.symm.trans ht')
  have hf := flat_of m t hp fuel _ _ hd
  simp only at hf
  have hcell : ∀ i, W.cell? ⟨g, i, none⟩ = (flatD m d)[i]? := fun i => by
    rw [World.var?_cell hg hvar i, hf]; simp
  refine ⟨hcell, fun hne => ?_⟩
  have h0 := hcell 0
  cases hh : (flatD m d)[0]? with
  | none => exact absurd (List.getElem?_eq_none_iff.1 hh) (by have := List.length_pos_iff.2 hne; omega)
  | some z =>
    rw [hh] at h0
    unfold World.cell? at h0
    split at h0
    · rename_i hb; exact (Array.getElem?_eq_some_iff.1 hb).1
    · cases h0
end Go.Sx
