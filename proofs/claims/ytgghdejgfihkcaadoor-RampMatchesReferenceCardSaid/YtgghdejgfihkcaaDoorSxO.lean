/- Arguments that a statement reads, opened to logical values. -/
import Derived.Test.YtgghdejgfihkcaaDoorSxM
import Derived.OpenShut
import Derived.ChangeShapes
import Derived.WideShapes
namespace Go.Sx
open Go Go.RowKit Go.Proofs.YtgghdejgfihkcaaDoor

/- Lists of cells, type by type. -/
def fsP (r : TypeId → List LV → Prop) : List TypeId → List LV → Prop
  | [], l => l = []
  | t :: ts, l => ∃ l1 l2, l = l1 ++ l2 ∧ r t l1 ∧ fsP r ts l2
/-- The cells of a value of a type: ints, bools, strings, structs, arrays, slices. -/
def shp (P : Program) : Nat → TypeId → List LV → Prop
  | 0, _, _ => False
  | m + 1, t, l => match P.underlying t with
    | some (.int k) => ∃ n, l = [.v (.int k n)] ∧ (Lit.int k n).wf = true
    | some .bool => ∃ b, l = [.v (.bool b)]
    | some .string => ∃ s : ByteArray, l = [.v (.string s)] ∧ s.size ≤ maxLen
    | some (.struct fs) => fsP (shp P m) (fs.toList.map (·.type)) l
    | some (.array n e) => fsP (shp P m) (List.replicate n e) l
    | some (.slice e) => ∃ (n : Nat) (f : Nat → Nat → LV), l = [.xs n (P.cellsOf e) f] ∧ n ≤ maxLen ∧ ∀ i, i < n → shp P m e ((List.range (P.cellsOf e)).map (f i))
    | _ => False
def offsOk (P : Program) : Nat → List Field → Bool
  | _, [] => true
  | o, f :: fs => decide (f.offset = o) && offsOk P (o + P.cellsOf f.type) fs
/-- What is covered. -/
def supp (P : Program) : Nat → TypeId → Bool
  | 0, _ => false
  | m + 1, t => match P.underlying t with
    | some (.int _) | some .bool | some .string => decide (P.cellsOf t = 1)
    | some (.struct fs) => offsOk P 0 fs.toList && decide (P.cellsOf t = ((fs.toList.map (·.type)).map P.cellsOf).sum) && fs.toList.all (fun f => supp P m f.type)
    | some (.array n e) => decide (P.cellsOf t = ((List.replicate n e).map P.cellsOf).sum) && supp P m e
    | some (.slice e) => decide (P.cellsOf t = 1) && decide (1 ≤ P.cellsOf e) && supp P m e
    | _ => false

variable {H : Type} {enc : TypeId × Value → H} {P : Program} {w : World} {base : Nat} {spare : Nat → Bool} {held : Bool} {β : Nat → Nat}

def Good (enc : TypeId × Value → H) (P : Program) (w : World) (base : Nat) (spare : Nat → Bool) (held : Bool) (t : TypeId) (cs : List Value) : Prop := ∃ n x, DataW.trod enc P w base spare held n t cs = some x
theorem RL.append' {Z : Nat → Prop} : ∀ {l1 l2 : List LV} {y1 y2 : List Value}, RL β Z w l1 y1 → RL β Z w l2 y2 → RL β Z w (l1 ++ l2) (y1 ++ y2)
  | [], l2, y1, y2, h1, h2 => by simp only [RL] at h1; subst h1; exact h2
  | x :: xs, l2, y1, y2, h1, h2 => by
    simp only [RL, List.cons_append] at h1 ⊢
    obtain ⟨y, zs, rfl, h3, h4⟩ := h1
    exact ⟨y, zs ++ y2, rfl, h3, RL.append' h4 h2⟩
theorem okL.append' {n : Nat} : ∀ {l1 l2 : List LV}, okL n l1 → okL n l2 → okL n (l1 ++ l2)
  | [], _, _, h => h
  | x :: xs, _, h, h2 => by simp only [okL, List.cons_append] at h ⊢; exact ⟨h.1, okL.append' h.2 h2⟩
theorem open_seq {Z : Nat → Prop} {r : TypeId → List LV → Prop} {sz : TypeId → Nat} {Gd : TypeId → List Value → Prop} : ∀ (ts : List TypeId) (cs : List Value),
    (∀ t ∈ ts, ∀ c, Gd t c → ∃ l, RL β Z w l c ∧ okL 0 l ∧ r t l) → cs.length = (ts.map sz).sum → (∀ pre t post, ts = pre ++ t :: post → Gd t ((cs.drop (pre.map sz).sum).take (sz t))) → ∃ l, RL β Z w l cs ∧ okL 0 l ∧ fsP r ts l
  | [], cs, _, hl, _ => by
    have : cs = [] := by simpa using hl
    subst this
    exact ⟨[], by simp [RL], trivial, rfl⟩
  | t :: ts, cs, ih, hl, hg => by
    obtain ⟨l1, a1, a2, a3⟩ := ih t (by simp) _ (hg [] t ts rfl)
    obtain ⟨l2, b1, b2, b3⟩ := open_seq (sz := sz) (Gd := Gd) ts (cs.drop (sz t)) (fun t' ht c hc => ih t' (by simp [ht]) c hc) (by simp at hl ⊢; omega) (fun pre t' post e => by
      have := hg (t :: pre) t' post (by rw [e]; rfl)
      rw [List.drop_drop]
      simpa using this)
    refine ⟨l1 ++ l2, ?_, okL.append' a2 b2, l1, l2, rfl, a3, b3⟩
    have := RL.append' a1 b1
    simpa using this
theorem offs_at : ∀ (fs : List Field) (o : Nat), offsOk P o fs = true → ∀ pre f post, fs = pre ++ f :: post → f.offset = o + ((pre.map (·.type)).map P.cellsOf).sum
  | [], o, _, pre, f, post, e => by cases pre <;> cases e
  | g :: fs, o, h, [], f, post, e => by
    simp only [offsOk, Bool.and_eq_true, decide_eq_true_eq] at h
    simp only [List.nil_append, List.cons.injEq] at e
    rw [← e.1]; simpa using h.1
  | g :: fs, o, h, p :: pre, f, post, e => by
    simp only [offsOk, Bool.and_eq_true, decide_eq_true_eq] at h
    simp only [List.cons_append, List.cons.injEq] at e
    have := offs_at fs _ h.2 pre f post e.2
    rw [this, ← e.1]; simp; omega

theorem open_shp {Z : Nat → Prop} (hZ : ∀ b, b < w.heap.size → Z b) : ∀ (m : Nat) (t : TypeId), supp P m t = true → ∀ cs, Good enc P w base spare held t cs → ∃ l, RL β Z w l cs ∧ okL 0 l ∧ shp P m t l
  | 0, t, h, _, _ => by cases h
  | m + 1, t, h, cs, ⟨n, x, hx⟩ => by
    simp only [supp] at h
    simp only [shp]
    split at h
    · rename_i k hu
      obtain ⟨z, rfl, _, hw⟩ := DataW.trod_int hu hx
      try simp only [hu]
      exact ⟨[.v (.int k z)], by simp [RL, R], ⟨trivial, trivial⟩, z, rfl, hw⟩
    · rename_i hu
      obtain ⟨z, rfl, _⟩ := DataW.trod_bool hu hx
      try simp only [hu]
      exact ⟨[.v (.bool z)], by simp [RL, R], ⟨trivial, trivial⟩, z, rfl⟩
    · rename_i hu
      obtain ⟨z, rfl, _, hs⟩ := DataW.trod_string hu hx
      try simp only [hu]
      exact ⟨[.v (.string z)], by simp [RL, R], ⟨trivial, trivial⟩, z, rfl, hs⟩
    · rename_i fs hu
      simp only [Bool.and_eq_true, decide_eq_true_eq, List.all_eq_true] at h
      obtain ⟨⟨h1, h2⟩, h3⟩ := h
      obtain ⟨xs, n', _, _, hl, hxl, hf⟩ := DataW.trod_struct hu hx
      try simp only [hu]
      refine open_seq (Gd := Good enc P w base spare held) (sz := P.cellsOf) (fs.toList.map (·.type)) cs (fun t' ht c hc => ?_) (by rw [hl, h2]) (fun pre t' post e => ?_)
      · obtain ⟨f, hf1, rfl⟩ := List.mem_map.1 ht
        exact open_shp hZ m f.type (h3 f hf1) c hc
      · obtain ⟨fpre, frest, e1, e2, e3⟩ := List.map_eq_append_iff.1 e
        obtain ⟨f, fpost, rfl, e4, e5⟩ := List.map_eq_cons_iff.1 e3
        have ho := offs_at fs.toList 0 h1 fpre f fpost e1
        have hi : fs[fpre.length]? = some f := by
          have : fs.toList[fpre.length]? = some f := by rw [e1]; simp
          simpa using this
        have hg := hf _ f hi
        have hlt : fpre.length < fs.size := (Array.getElem?_eq_some_iff.1 hi).1
        rw [ho, Nat.zero_add] at hg
        refine ⟨n', xs[fpre.length]'(by omega), ?_⟩
        rw [← e2, ← e4, hg, List.getElem?_eq_getElem]
    · rename_i n0 e hu
      simp only [Bool.and_eq_true, decide_eq_true_eq] at h
      obtain ⟨h2, h3⟩ := h
      obtain ⟨xs, n', _, _, hl, hxl, hf⟩ := DataW.trod_array hu hx
      try simp only [hu]
      refine open_seq (Gd := Good enc P w base spare held) (sz := P.cellsOf) (List.replicate n0 e) cs (fun t' ht c hc => ?_) (by rw [hl, h2]) (fun pre t' post e' => ?_)
      · rw [(List.mem_replicate.1 ht).2] at hc ⊢
        exact open_shp hZ m e h3 c hc
      · obtain ⟨c1, c2, c3⟩ := List.replicate_eq_append_iff.1 e'
        have ht' : t' = e := by
          have : t' ∈ List.replicate n0 e := by rw [e']; simp
          exact (List.mem_replicate.1 this).2
        have hlen : pre.length < n0 := by
          have := congrArg List.length e'
          simp at this; omega
        have hg := hf pre.length hlen
        refine ⟨n', xs[pre.length]'(by omega), ?_⟩
        have hs : (pre.map P.cellsOf).sum = pre.length * P.cellsOf e := by rw [c2]; simp
        rw [hs, ht', hg, List.getElem?_eq_getElem]
    · rename_i e hu
      simp only [Bool.and_eq_true, decide_eq_true_eq] at h
      obtain ⟨⟨h1, h2⟩, h3⟩ := h
      try simp only [hu]
      rcases DataW.trod_slice hu hx with ⟨rfl, _⟩ | ⟨a, len, cap, elems, rest, n', _, rfl, _, hb, hlc, hm, hlen, hel, _, _⟩
      · refine ⟨[.xs 0 (P.cellsOf e) (fun _ _ => .junk)], ?_, ⟨fun _ _ => trivial, trivial⟩, 0, _, rfl, Nat.zero_le _, fun i hi => by omega⟩
        simp only [RL, R]
        exact ⟨_, [], rfl, ⟨none, 0, rfl, fun h => by omega⟩, rfl⟩
      · have each : ∀ i, ∃ l, i < len → ∃ c, w.cells? base (a.add (i * P.cellsOf e)) (P.cellsOf e) = some c ∧ RL β Z w l c ∧ okL 0 l ∧ shp P m e l := fun i => by
          by_cases hi : i < len
          · have he := hel i hi
            rw [List.getElem?_eq_getElem (by omega)] at he
            obtain ⟨c, hc, ht⟩ := Option.bind_eq_some_iff.1 he
            obtain ⟨l, l1, l2, l3⟩ := open_shp hZ m e h3 c ⟨n', _, ht⟩
            exact ⟨l, fun _ => ⟨c, hc, l1, l2, l3⟩⟩
          · exact ⟨[], fun h => absurd h hi⟩
        have ⟨g, hg⟩ := Classical.axiomOfChoice each
        refine ⟨[.xs len (P.cellsOf e) (fun i j => if i < len then (g i).getD j .junk else .junk)], ?_, ⟨fun i j => ?_, trivial⟩, len, _, rfl, by omega, fun i hi => ?_⟩
        · simp only [RL, R]
          refine ⟨_, [], rfl, ⟨some a, cap, rfl, fun hn => ?_⟩, rfl⟩
          obtain ⟨c0, hc0, hr0, _⟩ := hg 0 hn
          obtain ⟨_, hcl0, hat0⟩ := World.cells?_some hc0
          have hcell0 : ∃ z, w.cell? ((a.add (0 * P.cellsOf e)).add 0) = some z := by
            rw [hat0 0 (by omega)]; exact ⟨_, List.getElem?_eq_getElem (by omega)⟩
          obtain ⟨z0, hz0⟩ := hcell0
          obtain ⟨b, off, spot⟩ := a
          have hsp : spot = none := by
            cases spot with
            | none => rfl
            | some q =>
              unfold World.cell? at hz0
              split at hz0
              · simp [Addr.add] at hz0
              · cases hz0
          subst hsp
          have hbl : b < w.heap.size := by
            simp only [addr_add] at hz0
            unfold World.cell? at hz0
            split at hz0
            · rename_i hh; exact (Array.getElem?_eq_some_iff.1 hh).1
            · cases hz0
          refine ⟨b, off, rfl, hZ b hbl, fun i hi j hj => ?_⟩
          obtain ⟨c, hc, hr, _, _⟩ := hg i hi
          obtain ⟨_, hcl, hat⟩ := World.cells?_some hc
          have hj' := hat j hj
          have hlg := RL.length hr
          have hlj : j < (g i).length := by omega
          obtain ⟨y, hy1, hy2⟩ := RL.get j _ hr (List.getElem?_eq_getElem hlj)
          refine ⟨y, ?_, ?_⟩
          · rw [hy1] at hj'
            simpa [addr_add, Nat.add_assoc] using hj'
          · simp only [hi, if_true, List.getD, List.getElem?_eq_getElem hlj, Option.getD_some]
            exact hy2
        · show okV 0 (if i < len then (g i).getD j .junk else .junk)
          split
          · rename_i hi
            obtain ⟨c, _, _, hok, _⟩ := hg i hi
            cases hq : (g i)[j]? with
            | none => simp [List.getD, hq, okV]
            | some q => simp only [List.getD, hq, Option.getD_some]; exact okL.get _ _ hok hq
          · trivial
        · obtain ⟨c, hc, hr, _, hs⟩ := hg i hi
          obtain ⟨_, hcl, _⟩ := World.cells?_some hc
          have hlg := RL.length hr
          have : (List.range (P.cellsOf e)).map (fun j => if i < len then (g i).getD j .junk else .junk) = g i := by
            apply List.ext_getElem?
            intro j
            rw [List.getElem?_map]
            by_cases hj : j < P.cellsOf e
            · rw [List.getElem?_range hj]
              simp only [Option.map_some, hi, if_true, List.getD]
              rw [List.getElem?_eq_getElem (by omega)]
              simp
            · rw [List.getElem?_eq_none (by simpa using hj), List.getElem?_eq_none (by omega)]
              rfl
          rw [this]; exact hs
    · cases h
end Go.Sx
