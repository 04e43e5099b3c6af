/- A law that gives true and leaves the old memory: what its statement asks behind the call. -/
import Derived.Test.YtcpadfehoaopaaaSxO
import Derived.Carry
import Derived.ChangeOld
namespace Go.Sx
open Go Go.RowKit Go.Proofs.Ytcpadfehoaopaaa Go.ChangeShapes Go.WideShapes

variable {H : Type} {enc : TypeId × Value → H} {P : Program} {β : Nat → Loc} {Z : Nat → Prop}

theorem trodAll_stays (hl : laidOutB P = true) {W W' : World} (hb : Below W.heap.size W W') : ∀ (ts : List TypeId) (vs : List Value) (ds : List (DataW H)) (ps : List MemPlace), ts.all (fun t => P.readableRec t && decide (t < P.types.size)) = true →
    DataW.TrodAll enc P W 0 (fun _ => true) true ts vs ds ps → (∀ x ∈ ps, x.block < W.heap.size) → DataW.TrodAll enc P W' 0 (fun b => decide (b < W.heap.size)) true ts vs ds ps
  | [], vs, ds, ps, _, h, _ => by
    cases vs <;> cases ds <;> first | exact h | exact h.elim
  | t :: ts, vs, ds, ps, hr, h, hlt => by
    cases vs with
    | nil => cases ds <;> exact h.elim
    | cons v vs =>
      cases ds with
      | nil => exact h.elim
      | cons d ds =>
        obtain ⟨p, q, h1, h2, rfl⟩ := h
        simp only [List.all_cons, Bool.and_eq_true, decide_eq_true_eq] at hr
        refine ⟨p, q, Below.trod hl hr.1.1 hr.1.2 h1 hb (fun x hx => hlt x (by simp [hx])), ?_, rfl⟩
        exact trodAll_stays hl hb ts vs ds q (by simpa using hr.2) h2 (fun x hx => hlt x (by simp [hx]))

theorem law_post {fn : Func} {s : ChangeSpec} {tb : TypeId} {apart : Bool} {W W' : World} {args : Array Value} {ds gs : List (DataW H)} {before : List MemPlace}
    (hl : laidOutB P = true) (hr : fn.params.toList.all (fun t => P.readableRec t && decide (t < P.types.size)) = true) (hres : fn.resultTypes = #[tb]) (hb : P.underlying tb = some .bool) (hvars : s.vars = [])
    (hfn : (s.fn H ds).results = [.lit (.bool true)] ∧ (s.fn H ds).args = ds ∧ (s.fn H ds).vars = [])
    (hW : DataW.Whole enc P fn.params.toList s.vars apart W args.toList ds gs before) (hB : Below W.heap.size W W') : s.post enc P fn apart true false false W args (.bool true) W' := by
  have hW' := hW
  obtain ⟨p, q, hA, hV, rfl, hfz, hnd⟩ := hW
  have hg : gs = [] ∧ q = [] := by
    rw [hvars] at hV
    cases gs with
    | nil => exact ⟨rfl, hV⟩
    | cons g r => exact hV.elim
  obtain ⟨rfl, rfl⟩ := hg
  have hlt : ∀ x ∈ p, x.block < W.heap.size := fun x hx => hW'.lt x (by simp [hx])
  refine ⟨ds, [], p ++ [], [], p, [], hW', ?_, ?_, ?_, hB.frame _, fun h => by cases h⟩
  · rw [List.append_nil, hfn.1, hres]
    exact trodAll_mk1 (shut_bool hb true)
  · rw [List.append_nil, hfn.2.1]
    exact trodAll_stays hl hB _ _ _ _ hr hA hlt
  · rw [List.append_nil, hfn.2.2, hvars]
    rfl

/-- A parameter's logical value, out of its cells. -/
def pLV (P : Program) (t : TypeId) (l : List LV) : LV :=
  match P.underlying t with
  | some (.struct _) => mkAgg l
  | some (.array _ _) => .junk
  | _ => match l with
    | [x] => x
    | _ => .junk
theorem cell_of {w : World} {b0 : Nat} {r : Reach} {m : Nat} {t : TypeId} (hs : supp P m t = true) {v : Value} (hv : Value.okWide P w r b0 t v) (h1 : ∀ fs, P.underlying t = some (.struct fs) → False) (h2 : ∀ n e, P.underlying t = some (.array n e) → False) : v.cells.toList = [v] := by
  cases m with
  | zero => cases hs
  | succ m =>
    simp only [supp] at hs
    split at hs
    · rename_i k hu
      obtain ⟨n, rfl⟩ := okWide_int hu hv
      rfl
    · rename_i hu
      obtain ⟨n, rfl⟩ := okWide_bool hu hv
      rfl
    · rename_i hu
      obtain ⟨n, rfl⟩ := okWide_string hu hv
      rfl
    · rename_i fs hu
      exact (h1 fs hu).elim
    · rename_i n e hu
      exact (h2 n e hu).elim
    · rename_i e hu
      obtain ⟨a, l, c, rfl⟩ := okWide_slice hu hv
      rfl
    · cases hs
theorem open_param {w : World} {base b0 : Nat} {spare : Nat → Bool} {held : Bool} {r : Reach} (hZ : ∀ b, b < w.heap.size → Z b) {m : Nat} {t : TypeId} (hs : supp P m t = true) (ht : (tyOf P m t).isSome = true) {v : Value} {d : DataW H} {p : List MemPlace} (hv : Value.okWide P w r b0 t v) (h : DataW.Trod enc P w base spare held t v d p) :
    ∃ l, okV 0 (pLV P t l) ∧ R β Z w (pLV P t l) v ∧ shp P m t l := by
  obtain ⟨fuel, hf⟩ := h
  obtain ⟨l, h1, h2, h3⟩ := open_shp (β := β) hZ m t hs ht v.cells.toList ⟨fuel, _, hf⟩
  refine ⟨l, ?_, ?_, h3⟩
  · unfold pLV
    split
    · exact mkAgg_ok h2
    · trivial
    · split
      · exact h2.1
      · trivial
  · unfold pLV
    split
    · rename_i fs hu
      obtain ⟨cs, rfl, _⟩ := okWide_struct hu hv
      exact mkAgg_R h1
    · simp only [R]
    · split
      · rename_i x
        simp only [RL] at h1
        obtain ⟨y, zs, e1, e2, rfl⟩ := h1
        have hc := cell_of hs hv (by assumption) (by assumption)
        have : v = y := by rw [hc] at e1; simpa using e1
        rw [this]; exact e2
      · simp only [R]
def pLVs (P : Program) : List TypeId → List (List LV) → List LV
  | t :: ts, l :: ls => pLV P t l :: pLVs P ts ls
  | _, _ => []
def shpAll (P : Program) (m : Nat) : List TypeId → List (List LV) → Prop
  | [], ls => ls = []
  | t :: ts, ls => ∃ l r, ls = l :: r ∧ shp P m t l ∧ shpAll P m ts r
theorem open_params {w : World} {base b0 : Nat} {spare : Nat → Bool} {held : Bool} {r : Reach} (hZ : ∀ b, b < w.heap.size → Z b) {m : Nat} : ∀ (ts : List TypeId) (vs : List Value) (ds : List (DataW H)) (ps : List MemPlace), ts.all (fun t => supp P m t && (tyOf P m t).isSome) = true →
    (∀ (j : Nat) t v, ts[j]? = some t → vs[j]? = some v → Value.okWide P w r b0 t v) → DataW.TrodAll enc P w base spare held ts vs ds ps → ∃ ls, okL 0 (pLVs P ts ls) ∧ RL β Z w (pLVs P ts ls) vs ∧ shpAll P m ts ls
  | [], vs, ds, ps, _, _, h => by
    cases vs with
    | nil => exact ⟨[], trivial, by simp [pLVs, RL], rfl⟩
    | cons _ _ => cases ds <;> exact h.elim
  | t :: ts, vs, ds, ps, hs, hv, h => by
    cases vs with
    | nil => cases ds <;> exact h.elim
    | cons v vs =>
      cases ds with
      | nil => exact h.elim
      | cons d ds =>
        obtain ⟨p, q, h1, h2, rfl⟩ := h
        simp only [List.all_cons, Bool.and_eq_true] at hs
        obtain ⟨l, a1, a2, a3⟩ := open_param (β := β) hZ hs.1.1 hs.1.2 (hv 0 t v rfl rfl) h1
        obtain ⟨ls, b1, b2, b3⟩ := open_params hZ ts vs ds q hs.2 (fun j t' v' e1 e2 => hv (j + 1) t' v' (by simpa using e1) (by simpa using e2)) h2
        exact ⟨l :: ls, ⟨a1, b1⟩, ⟨v, vs, rfl, a2, b2⟩, l, ls, rfl, a3, b3⟩

/-- THE CONTRACT OF A LAW, out of its specification. -/
theorem law_contract {G : Globs} {f : FuncId} {fn : Func} {S : List LV → T LV} {s : ChangeSpec} {tb : TypeId} {apart : Bool} {m : Nat} {W : World} {base : Nat} {args : Array Value} {ds gs : List (DataW H)} {before : List MemPlace}
    (hv : Valid P G f S) (hl : laidOutB P = true) (hr : fn.params.toList.all (fun t => P.readableRec t && decide (t < P.types.size)) = true) (hres : fn.resultTypes = #[tb]) (hb : P.underlying tb = some .bool) (hvars : s.vars = [])
    (hfn : (s.fn H ds).results = [.lit (.bool true)] ∧ (s.fn H ds).args = ds ∧ (s.fn H ds).vars = []) (hs : fn.params.toList.all (fun t => supp P m t && (tyOf P m t).isSome) = true)
    (hS : ∀ ls, shpAll P m fn.params.toList ls → (S (pLVs P fn.params.toList ls)).all (fun x => x = .v (.bool true)))
    (hg : GlOk G (fun b => b < W.heap.size) W)
    (hval : ∀ (j : Nat) t v, fn.params[j]? = some t → args[j]? = some v → Value.okWide P W .any base t v)
    (hW : DataW.Whole enc P fn.params.toList s.vars apart W args.toList ds gs before) :
    Calls P f args W fun e W' => ∃ v, e = .returned v ∧ s.post enc P fn apart true false false W args v W' := by
  have hA : ∃ p, DataW.TrodAll enc P W 0 (fun _ => true) true fn.params.toList args.toList ds p := by
    obtain ⟨p, q, hA, _⟩ := hW
    exact ⟨p, hA⟩
  obtain ⟨p, hA⟩ := hA
  obtain ⟨ls, h1, h2, h3⟩ := open_params (β := β0) (Z := fun b => b < W.heap.size) (fun _ h => h) fn.params.toList args.toList ds p hs (fun j t v e1 e2 => hval j t v (by simpa using e1) (by simpa using e2)) hA
  refine (hv _ args W _ _ (fun _ h => h) hg h1 h2 (hS ls h3)).mono fun e W' ⟨hB, v, he, _, hR⟩ => ⟨v, he, ?_⟩
  simp only [R] at hR
  rw [hR]
  exact law_post hl hr hres hb hvars hfn hW hB
end Go.Sx
