/- The executor is right: values and operations. -/
import Derived.Test.YtihbikkkmoaljaaSxB
namespace Go.Sx
open Go Go.RowKit
structure Gz where
 z : Nat → Prop
 gh : List (LV × Value)
 mks : List Nat
variable {P : Program} {G : Globs} {Γ : Specs} {β : Nat → Loc} {Z : Nat → Prop} {Z0 : Gz} {w w0 : World} {F : List LV} {H : List Blk} {a : Act} {ds : List Deferred}
theorem pl_R {x : LV} {y z : Value} (h : pl x = some y) (hr : R β Z w x z) : z = y := by
 cases x with
 | v q => simp only [pl, Option.some.injEq] at h; simp only [R] at hr; rw [hr, h]
 | bl b => simp only [pl, Option.some.injEq] at h; simp only [R] at hr; rw [hr, h]
 | ki k n => simp only [pl, Option.some.injEq] at h; simp only [R] at hr; rw [hr, h]
 | fn f l =>
  cases l with
  | nil =>
   simp only [pl, Option.some.injEq] at h
   simp only [R, RL] at hr
   obtain ⟨ys, h1, h2⟩ := hr
   have : ys = #[] := by simpa using h2
   rw [h1, this, h]
  | cons _ _ => simp [pl] at h
 | _ => simp [pl] at h
theorem R_pl {x : LV} {y : Value} (h : pl x = some y) : R β Z w x y := by
 cases x with
 | v q => simp only [pl, Option.some.injEq] at h; simp only [R]; exact h.symm
 | bl b => simp only [pl, Option.some.injEq] at h; simp only [R]; exact h.symm
 | ki k n => simp only [pl, Option.some.injEq] at h; simp only [R]; exact h.symm
 | fn f l =>
  cases l with
  | nil => simp only [pl, Option.some.injEq] at h; simp only [R, RL]; exact ⟨#[], h.symm, rfl⟩
  | cons _ _ => simp [pl] at h
 | _ => simp [pl] at h
theorem plL_R : ∀ {l : List LV} {ys zs : List Value}, plL l = some ys → RL β Z w l zs → zs = ys
 | [], ys, zs, h, hr => by simp only [plL, Option.some.injEq] at h; simp only [RL] at hr; rw [hr, h]
 | x :: xs, ys, zs, h, hr => by
  simp only [plL] at h
  split at h
  ·rename_i y ys' h1 h2
   simp only [Option.some.injEq] at h
   simp only [RL] at hr
   obtain ⟨y', zs', e1, e2, e3⟩ := hr
   rw [e1, pl_R h1 e2, plL_R h2 e3, h]
  ·cases h
theorem norm_R {x : LV} {y : Value} (h : R β Z w x y) : R β Z w (norm x) y := by cases x <;> exact h
theorem norm_ok {n : Nat} {x : LV} (h : okV n x) : okV n (norm x) := by cases x <;> exact h
theorem normL_R : ∀ {l : List LV} {ys : List Value}, RL β Z w l ys → RL β Z w (l.map norm) ys
 | [], _, h => by simpa only [List.map_nil, RL] using h
 | x :: xs, ys, h => by
  simp only [List.map_cons, RL] at h ⊢
  obtain ⟨y, zs, h1, h2, h3⟩ := h
  exact ⟨y, zs, h1, norm_R h2, normL_R h3⟩
theorem normL_ok {n : Nat} : ∀ {l : List LV}, okL n l → okL n (l.map norm)
 | [], _ => trivial
 | x :: xs, h => by
  simp only [List.map_cons, okL] at h ⊢
  exact ⟨norm_ok h.1, normL_ok h.2⟩
theorem mkAgg_R {l : List LV} {ys : Array Value} (h : RL β Z w l ys.toList) : R β Z w (mkAgg l) (.agg ys) := by
 unfold mkAgg
 split
 ·rename_i zs hz
  simp only [R]
  have := plL_R hz h
  rw [← this]
 ·simp only [R]; exact ⟨ys, rfl, normL_R h⟩
theorem mkTup_R {l : List LV} {ys : Array Value} (h : RL β Z w l ys.toList) : R β Z w (mkTup l) (.tuple ys) := by
 unfold mkTup
 split
 ·rename_i zs hz
  simp only [R]
  have := plL_R hz h
  rw [← this]
 ·simp only [R]; exact ⟨ys, rfl, normL_R h⟩
theorem mkAgg_ok {n : Nat} {l : List LV} (h : okL n l) : okV n (mkAgg l) := by
 unfold mkAgg; split
 ·trivial
 ·simpa only [okV] using normL_ok h
theorem mkTup_ok {n : Nat} {l : List LV} (h : okL n l) : okV n (mkTup l) := by
 unfold mkTup; split
 ·trivial
 ·simpa only [okV] using normL_ok h
theorem okL_v (n : Nat) : ∀ (l : List Value), okL n (l.map .v)
 | [] => trivial
 | _ :: xs => ⟨trivial, okL_v n xs⟩
theorem RL_v : ∀ (l : List Value), RL β Z w (l.map .v) l
 | [] => by simp [RL]
 | x :: xs => by simp only [List.map_cons, RL, R]; exact ⟨x, xs, rfl, rfl, RL_v xs⟩
theorem isCell_one {x : LV} {y : Value} (h : isCell x = true) (hr : R β Z w x y) : oneB y = true := by
 cases x with
 | v q => simp only [R] at hr; rw [hr]; exact h
 | bl b => simp only [R] at hr; rw [hr]; rfl
 | ki k n => simp only [R] at hr; rw [hr]; rfl
 | own k off => simp only [R] at hr; rw [hr]; rfl
 | fn f l => simp only [R] at hr; obtain ⟨ys, h1, _⟩ := hr; rw [h1]; rfl
 | xq n f => simp only [R] at hr; obtain ⟨b, off, h1, _⟩ := hr; rw [h1]; rfl
 | os k es off n =>
  simp only [R] at hr
  split at hr
  ·rw [hr.2.2]; rfl
  ·obtain ⟨_, a, h1, _⟩ := hr; rw [h1]; rfl
 | op k es i j => simp only [R] at hr; rw [hr.2]; rfl
 | om k => simp only [R] at hr; rw [hr]; rfl
 | mp kd ks vs => simp only [R] at hr; obtain ⟨r, es, c, h1, _⟩ := hr; rw [h1]; rfl
 | oc k es off n c => simp only [R] at hr; obtain ⟨_, a, h1, _⟩ := hr; rw [h1]; rfl
 | yld k => simp only [R] at hr; rw [hr]; rfl
 | xl e l => simp only [R] at hr; obtain ⟨b, off, h1, _⟩ := hr; rw [h1]; rfl
 | agg l => simp [isCell] at h
 | tup l => simp [isCell] at h
 | junk => simp [isCell] at h
theorem one_cells {y : Value} (h : oneB y = true) : y.cells = #[y] := by cases y <;> first | rfl | (simp [oneB] at h)
theorem cellsL_R {x : LV} {y : Value} {cs : List LV} (h : cellsL x = some cs) (hr : R β Z w x y) : RL β Z w cs y.cells.toList ∧ (∀ z ∈ y.cells.toList, oneB z = true) := by
 have single : ∀ x : LV, isCell x = true → R β Z w x y → RL β Z w [x] y.cells.toList ∧ (∀ z ∈ y.cells.toList, oneB z = true) := fun x hx hr => by
  have h1 := isCell_one hx hr
  rw [one_cells h1]
  refine ⟨?_, ?_⟩
  ·simp only [RL]; exact ⟨y, [], rfl, hr, rfl⟩
  ·intro z hz
   have : z = y := by simpa using hz
   rw [this]; exact h1
 cases x with
 | v q =>
  simp only [cellsL] at h
  split at h
  ·rename_i ha
   simp only [Option.some.injEq] at h
   simp only [R] at hr
   subst h hr
   exact ⟨RL_v _, fun z hz => List.all_eq_true.1 ha z hz⟩
  ·cases h
 | agg l =>
  simp only [cellsL] at h
  split at h
  ·rename_i ha
   simp only [Option.some.injEq] at h
   simp only [R] at hr
   obtain ⟨ys, h1, h2⟩ := hr
   subst h h1
   refine ⟨h2, fun z hz => ?_⟩
   obtain ⟨i, hi, hz'⟩ := List.mem_iff_getElem.1 hz
   have hlen := RL.length h2
   have hl : l[i]? = some (l[i]'(by simp only [Value.cells] at hi; omega)) := List.getElem?_eq_getElem _
   obtain ⟨y', e1, e2⟩ := RL.get i _ h2 hl
   have : y' = z := by
    simp only [Value.cells] at hi hz'
    rw [List.getElem?_eq_getElem hi] at e1
    simpa [hz'] using e1.symm
   rw [← this]
   exact isCell_one (List.all_eq_true.1 ha _ (List.getElem_mem _)) e2
  ·cases h
 | bl b => simp only [cellsL, Option.some.injEq] at h; subst h; exact single _ rfl hr
 | ki k n => simp only [cellsL, Option.some.injEq] at h; subst h; exact single _ rfl hr
 | own k off => simp only [cellsL, Option.some.injEq] at h; subst h; exact single _ rfl hr
 | fn f l => simp only [cellsL, Option.some.injEq] at h; subst h; exact single _ rfl hr
 | xq n f => simp only [cellsL, Option.some.injEq] at h; subst h; exact single _ rfl hr
 | os k es off n => simp only [cellsL, Option.some.injEq] at h; subst h; exact single _ rfl hr
 | op k es i j => simp only [cellsL, Option.some.injEq] at h; subst h; exact single _ rfl hr
 | om k => simp only [cellsL, Option.some.injEq] at h; subst h; exact single _ rfl hr
 | mp kd ks vs => simp only [cellsL, Option.some.injEq] at h; subst h; exact single _ rfl hr
 | oc k es off n c => simp only [cellsL, Option.some.injEq] at h; subst h; exact single _ rfl hr
 | yld k => simp only [cellsL, Option.some.injEq] at h; subst h; exact single _ rfl hr
 | xl e l => simp only [cellsL, Option.some.injEq] at h; subst h; exact single _ rfl hr
 | tup l => simp [cellsL] at h
 | junk => simp [cellsL] at h
theorem cellsL_ok {n : Nat} {x : LV} {cs : List LV} (h : cellsL x = some cs) (hr : okV n x) : okL n cs := by
 cases x with
 | v q =>
  simp only [cellsL] at h
  split at h
  ·simp only [Option.some.injEq] at h; subst h; exact okL_v _ _
  ·cases h
 | agg l =>
  simp only [cellsL] at h
  split at h
  ·simp only [Option.some.injEq] at h; subst h; simpa only [okV] using hr
  ·cases h
 | bl b => simp only [cellsL, Option.some.injEq] at h; subst h; exact ⟨hr, trivial⟩
 | ki k n => simp only [cellsL, Option.some.injEq] at h; subst h; exact ⟨hr, trivial⟩
 | own k off => simp only [cellsL, Option.some.injEq] at h; subst h; exact ⟨hr, trivial⟩
 | fn f l => simp only [cellsL, Option.some.injEq] at h; subst h; exact ⟨hr, trivial⟩
 | xq n f => simp only [cellsL, Option.some.injEq] at h; subst h; exact ⟨hr, trivial⟩
 | os k es off n => simp only [cellsL, Option.some.injEq] at h; subst h; exact ⟨hr, trivial⟩
 | op k es i j => simp only [cellsL, Option.some.injEq] at h; subst h; exact ⟨hr, trivial⟩
 | om k => simp only [cellsL, Option.some.injEq] at h; subst h; exact ⟨hr, trivial⟩
 | mp kd ks vs => simp only [cellsL, Option.some.injEq] at h; subst h; exact ⟨hr, trivial⟩
 | oc k es off n c => simp only [cellsL, Option.some.injEq] at h; subst h; exact ⟨hr, trivial⟩
 | yld k => simp only [cellsL, Option.some.injEq] at h; subst h; exact ⟨hr, trivial⟩
 | xl e l => simp only [cellsL, Option.some.injEq] at h; subst h; exact ⟨trivial, trivial⟩
 | tup l => simp [cellsL] at h
 | junk => simp [cellsL] at h
def GlOk (G : Globs) (Z : Nat → Prop) (w : World) : Prop := ∀ g n f, G g = some (n, f) → Z g ∧ ∀ j, j < n → w.cell? ⟨g, j, none⟩ = some (f j)
def okB (n : Nat) (b : Blk) : Prop := okL n b.c ∧ (match b.k with | .mp _ _ vs => okL n vs | _ => True)
def live (β : Nat → Loc) (k : Nat) (b : Blk) : Prop :=
 match b.k with
 | .cl => True
 | .vec _ _ => (β k).cap ≠ none
 | .mp .. => True
 | .lrec .. => True
 | .st .. => True
 | .dead => False
def exCode : Ex → Option Code
 | .normal => none
 | .exit n => some (.exit n)
 | .ret => some .ret
def LsR : LS → Loop → Prop
 | .ready, r => r.state = .ready ∧ r.pending = none
 | .busy, r => r.state = .busy
 | .done x, r => r.state = .done ∧ r.pending = exCode x
def BlkR (β : Nat → Loc) (Z : Nat → Prop) (w : World) (k : Nat) (b : Blk) : Prop :=
 match b.k with
 | .cl => ∃ cs, w.heap[(β k).b]? = some (.cells cs b.t (0, 0)) ∧ RL β Z w b.c cs.toList
 | .vec e l => match (β k).cap with
  | none => l = []
  | some c => ∃ cs, w.heap[(β k).b]? = some (.cells cs b.t (0, 0)) ∧ (β k).o + c * e.n ≤ cs.size ∧ List.length l ≤ c ∧ ∀ (i : Nat) (d : e.D), l[i]? = some d → RD Z w e d (β k).b ((β k).o + i * e.n)
 | .mp kd ks vs => ∃ es clock, w.heap[(β k).b]? = some (.map es clock) ∧ es.toList.map (·.key) = ks.map (.int kd) ∧ RL β Z w vs (es.toList.map (·.val))
 | .lrec ps asg body st => ∃ r : Loop, w.heap[(β k).b]? = some (.loop r) ∧ r.params = ps ∧ r.assign = asg ∧ r.body = body ∧ LsR st r ∧ RL β Z w b.c r.tmps.toList
 | .st e l => ∃ es clock, w.heap[(β k).b]? = some (.map es clock) ∧ es.toList.map (·.key) = List.map (keyV e) l ∧ ∀ x, x ∈ es.toList → x.val = .bool true
 | .dead => True
abbrev markOf (D : Nat) : Deferred := { target := .collected D, args := #[] }
def MkAt (w : World) (D : Nat) : Prop := w.heap[D]? = some (.deferred (some []))
structure RW (G : Globs) (w0 : World) (Z0 : Gz) (Z : Nat → Prop) (β : Nat → Loc) (H : List Blk) (w : World) : Prop where
 below : Below w0.heap.size w0 w
 zlt : ∀ b, Z b → b < w.heap.size
 znew : ∀ b, Z b → Z0.z b ∨ w0.heap.size ≤ b
 zown : ∀ k b, H[k]? = some b → live β k b → b.p = false → ¬ Z (β k).b
 zpub : ∀ k b, H[k]? = some b → live β k b → b.p = true → Z (β k).b
 low : ∀ k b, H[k]? = some b → live β k b → w0.heap.size ≤ (β k).b
 inj : ∀ i j bi bj, H[i]? = some bi → H[j]? = some bj → live β i bi → live β j bj → bi.p = false → (β i).b = (β j).b → i = j
 blk : ∀ k b, H[k]? = some b → BlkR β Z w k b ∧ okB H.length b
 glob : GlOk G Z w
 gh : ∀ p, p ∈ Z0.gh → R β Z w p.1 p.2 ∧ okV H.length p.1
 mks : ∀ D, D ∈ Z0.mks → Z D ∧ MkAt w D
structure RF (ds : List Deferred) (β : Nat → Loc) (Z : Nat → Prop) (w : World) (n : Nat) (F : List LV) (a : Act) : Prop where
 size : a.tmps.size = F.length
 get : ∀ t x, F[t]? = some x → R β Z w x (a.tmps.getD t undef) ∧ okV n x
 defers : a.defers = ds ∧ ∀ d, d ∈ ds → ∃ D, d = markOf D ∧ Z D ∧ MkAt w D
theorem RF.eval (hF : RF ds β Z w H.length F a) (hg : GlOk G Z w) (x : Operand) : R β Z w (evalL G F x) (a.eval x) ∧ okV H.length (evalL G F x) := by
 cases x with
 | tmp t =>
  simp only [evalL, Act.eval]
  cases h : F[t]? with
  | none => simp [List.getD, h, R, okV]
  | some y => simp only [List.getD, h, Option.getD_some]; exact hF.get t y h
 | const x =>
  simp only [evalL, Act.eval]
  cases x <;> simp [R, okV]
 | global g =>
  simp only [evalL, Act.eval]
  split
  ·rename_i n f h
   obtain ⟨h1, h2⟩ := hg g n f h
   simp only [R, okV]
   refine ⟨⟨g, 0, rfl, h1, fun j hj => ⟨_, by rw [Nat.zero_add]; exact h2 j hj, rfl⟩⟩, fun _ => trivial⟩
  ·simp [R, okV]
 | func f => simp only [evalL, Act.eval, R, RL, okV, okL]; exact ⟨⟨#[], rfl, rfl⟩, trivial⟩
theorem T.pick {α : Type} {K : α → Prop} : ∀ {t : T α}, t.all K → ∃ x, K x ∧ t.all (fun y => y = x)
 | .ok x, h => ⟨x, h, rfl⟩
 | .br b t e, h => by
  cases b with
  | true => obtain ⟨x, h1, h2⟩ := T.pick (h.1 rfl); exact ⟨x, h1, fun _ => h2, fun hb => by cases hb⟩
  | false => obtain ⟨x, h1, h2⟩ := T.pick (h.2 rfl); exact ⟨x, h1, fun hb => (by cases hb), fun _ => h2⟩
 | .req p t, h => by obtain ⟨x, h1, h2⟩ := T.pick h.2; exact ⟨x, h1, h.1, h2⟩
 | .no, h => by cases h
/-! ### cells -/
theorem cell_of_block {b : Nat} {cs : Array Value} {t : TypeId} (h : w.heap[b]? = some (.cells cs t (0, 0))) (o : Nat) : w.cell? ⟨b, o, none⟩ = cs[o]? := by
 simp [World.cell?, h]
theorem frozen_of_block {b : Nat} {cs : Array Value} {t : TypeId} (h : w.heap[b]? = some (.cells cs t (0, 0))) (o : Nat) : w.frozen? ⟨b, o, none⟩ = false := by
 simp [World.frozen?, h]
theorem addr_add (b o i : Nat) : Addr.add ⟨b, o, none⟩ i = ⟨b, o + i, none⟩ := by
 unfold Addr.add
 split
 ·rename_i h; subst h; rfl
 ·rfl
theorem run_load_cell {ad : Addr} {z : Value} (h : w.cell? ad = some z) (P : Program) : (load ad).run P w = .ok z w := by
 simp [load, Sem.run, h]
/-! ### types -/
theorem run_isAgg {t : TypeId} {b : Bool} (h : aggT P t = some b) (w : World) : (isAgg t).run P w = .ok b w := by
 unfold aggT at h
 cases hu : P.underlying t with
 | none => simp [hu] at h
 | some d =>
  simp only [hu, Option.map_some, Option.some.injEq] at h
  unfold isAgg
  simp only [Sem.run_bind, run_underlying hu, Result.andThen_ok]
  cases d <;> simp_all
theorem run_sizeOf {t : TypeId} {n : Nat} (h : sizeT P t = some n) (w : World) : (sizeOf t).run P w = .ok n w := by
 unfold sizeT at h
 cases hu : P.info? t with
 | none => simp [hu] at h
 | some d =>
  simp only [hu, Option.map_some, Option.some.injEq] at h
  simp [sizeOf, typeInfo, hu, h]
theorem run_zero {t : TypeId} {z : Value} (h : zeroT P t = some z) (w : World) : (zeroValue t).run P w = .ok z w := by
 unfold zeroT at h
 cases hu : P.info? t with
 | none => simp [hu] at h
 | some d =>
  simp only [hu, Option.bind_some] at h
  simp [zeroValue, typeInfo, hu, h]
theorem RL.take_drop {l : List LV} {ys : List Value} (h : RL β Z w l ys) (off n : Nat) : RL β Z w ((l.drop off).take n) ((ys.drop off).take n) := by
 have hl := RL.length h
 refine RL.of_get (by simp [hl]) fun i x hx => ?_
 rw [List.getElem?_take] at hx ⊢
 split at hx
 ·rename_i hi
  rw [if_pos hi]
  rw [List.getElem?_drop] at hx ⊢
  exact RL.get _ _ h hx
 ·cases hx
theorem okL.take_drop {n : Nat} {l : List LV} (h : okL n l) (off m : Nat) : okL n ((l.drop off).take m) := by
 refine okL.of_get fun i x hx => ?_
 rw [List.getElem?_take] at hx
 split at hx
 ·rw [List.getElem?_drop] at hx; exact okL.get _ _ h hx
 ·cases hx
/-! ### the world -/
theorem RF.mono {β' : Nat → Loc} {Z' : Nat → Prop} {w' : World} {n m : Nat} (hF : RF ds β Z w n F a) (hn : n ≤ m) (hβ : ∀ k, k < n → β' k = β k) (hZ : ∀ b, Z b → Z' b)
  (hw : ∀ b, Z b → w'.heap[b]? = w.heap[b]?) : RF ds β' Z' w' m F a :=
 ⟨hF.size, fun t x hx => ⟨R.mono hβ hZ hw x _ (hF.get t x hx).2 (hF.get t x hx).1, okV.mono hn x (hF.get t x hx).2⟩, hF.defers.1, fun d hd => by
  obtain ⟨D, h1, h2, h3⟩ := hF.defers.2 d hd
  exact ⟨D, h1, hZ D h2, by unfold MkAt; rw [hw D h2]; exact h3⟩⟩
theorem okB.mono {n m : Nat} (h : n ≤ m) {b : Blk} (hb : okB n b) : okB m b := by
 unfold okB at *
 refine ⟨okL.mono h _ hb.1, ?_⟩
 have := hb.2
 split
 ·rename_i hk; rw [hk] at this; exact okL.mono h _ this
 ·trivial
theorem live_eq {β' : Nat → Loc} {k : Nat} {b : Blk} (h : β' k = β k) : live β' k b = live β k b := by
 unfold live; rw [h]
theorem BlkR.keep {β' : Nat → Loc} {Z' : Nat → Prop} {w' : World} {n k : Nat} {b : Blk} (hβ : ∀ k, k < n → β' k = β k) (hZ : ∀ b, Z b → Z' b) (hw : ∀ b, Z b → w'.heap[b]? = w.heap[b]?) (hk : β' k = β k)
  (hb : live β k b → w'.heap[(β k).b]? = w.heap[(β k).b]?) (hok : okB n b) (h : BlkR β Z w k b) : BlkR β' Z' w' k b := by
 unfold BlkR at *
 unfold live at hb
 unfold okB at hok
 rw [hk]
 split at h
 ·rename_i hbk
  simp only [hbk] at hb ⊢
  obtain ⟨cs, h1, h2⟩ := h
  exact ⟨cs, by rw [hb trivial]; exact h1, RL.mono hβ hZ hw _ _ hok.1 h2⟩
 ·rename_i e l hbk
  simp only [hbk] at hb ⊢
  split at h
  ·rename_i hc
   first | exact h | (simp only [hc]; exact h)
  ·rename_i c hc
   have hb' := hb (by rw [hc]; simp)
   try simp only [hc]
   obtain ⟨cs, h1, h2, h3, h4⟩ := h
   exact ⟨cs, by rw [hb']; exact h1, h2, h3, fun i d hd => RD.keep hZ hw e d _ _ hb' (h4 i d hd)⟩
 ·rename_i kd ks vs hbk
  simp only [hbk] at hb hok ⊢
  obtain ⟨es, clock, h1, h2, h3⟩ := h
  exact ⟨es, clock, by rw [hb trivial]; exact h1, h2, RL.mono hβ hZ hw _ _ hok.2 h3⟩
 ·rename_i ps asg body st hbk
  simp only [hbk] at hb hok ⊢
  obtain ⟨r, h1, h2, h3, h4, h5, h6⟩ := h
  exact ⟨r, by rw [hb trivial]; exact h1, h2, h3, h4, h5, RL.mono hβ hZ hw _ _ hok.1 h6⟩
 ·rename_i e l hbk
  simp only [hbk] at hb hok ⊢
  obtain ⟨es, clock, h1, h2, h3⟩ := h
  exact ⟨es, clock, by rw [hb trivial]; exact h1, h2, h3⟩
 ·rename_i hbk
  simp only
theorem RW.lt (hW : RW G w0 Z0 Z β H w) {k : Nat} {b : Blk} (hk : H[k]? = some b) (hl : live β k b) : (β k).b < w.heap.size := by
 have h := (hW.blk k b hk).1
 unfold BlkR at h
 unfold live at hl
 split at h
 ·obtain ⟨cs, h1, _⟩ := h
  exact (Array.getElem?_eq_some_iff.1 h1).1
 ·rename_i hbk
  simp only [hbk] at hl
  split at h
  ·rename_i hc; exact absurd hc hl
  ·obtain ⟨cs, h1, _⟩ := h
   exact (Array.getElem?_eq_some_iff.1 h1).1
 ·obtain ⟨es, clock, h1, _⟩ := h
  exact (Array.getElem?_eq_some_iff.1 h1).1
 ·obtain ⟨r, h1, _⟩ := h
  exact (Array.getElem?_eq_some_iff.1 h1).1
 ·obtain ⟨es, clock, h1, _⟩ := h
  exact (Array.getElem?_eq_some_iff.1 h1).1
 ·rename_i hbk
  simp only [hbk] at hl
theorem below_block {w w' : World} (hb : Below w.heap.size w w') {b : Nat} (h : b < w.heap.size) : w'.heap[b]? = w.heap[b]? := hb.block b h
theorem cell_lt' {w : World} {b o : Nat} {v : Value} (h : w.cell? ⟨b, o, none⟩ = some v) : b < w.heap.size := by
 unfold World.cell? at h
 split at h
 ·rename_i hh; exact (Array.getElem?_eq_some_iff.1 hh).1
 ·cases h
theorem below_cell {w w' : World} (hb : Below w.heap.size w w') {b o : Nat} {v : Value} (h : w.cell? ⟨b, o, none⟩ = some v) : w'.cell? ⟨b, o, none⟩ = some v := by
 rw [← h]; exact hb.cell (p := ⟨b, o, none⟩) (cell_lt' h)
theorem GlOk.mono {Z' : Nat → Prop} {w' : World} (h : GlOk G Z w) (hZ : ∀ b, Z b → Z' b) (hw : ∀ b, Z b → w'.heap[b]? = w.heap[b]?) : GlOk G Z' w' := fun g n f hg => by
 obtain ⟨h1, h2⟩ := h g n f hg
 exact ⟨hZ _ h1, fun j hj => by rw [cell_block (hw g h1)]; exact h2 j hj⟩
theorem RW.call {w' : World} (hW : RW G w0 Z0 Z β H w) (hb : Below w.heap.size w w') : RW G w0 Z0 (fun b => Z b ∨ (w.heap.size ≤ b ∧ b < w'.heap.size)) β H w' := by
 have hs := hb.size
 have h0 := hW.below.size
 have hw : ∀ b, Z b → w'.heap[b]? = w.heap[b]? := fun b hz => below_block hb (hW.zlt b hz)
 refine ⟨hW.below.trans (hb.mono h0), fun b hz => ?_, fun b hz => ?_, fun k b hk hl hp hz => ?_, fun k b hk hl hp => .inl (hW.zpub k b hk hl hp), hW.low, hW.inj, fun k b hk => ?_, hW.glob.mono (fun _ h => .inl h) hw, fun p hp => ⟨R.mono (n := H.length) (fun _ _ => rfl) (fun _ h => .inl h) hw _ _ (hW.gh p hp).2 (hW.gh p hp).1, (hW.gh p hp).2⟩, fun D hD => ⟨.inl (hW.mks D hD).1, by unfold MkAt; rw [hw D (hW.mks D hD).1]; exact (hW.mks D hD).2⟩⟩
 ·rcases hz with hz | hz
  ·have := hW.zlt b hz; omega
  ·exact hz.2
 ·rcases hz with hz | hz
  ·exact hW.znew b hz
  ·exact .inr (by omega)
 ·rcases hz with hz | hz
  ·exact hW.zown k b hk hl hp hz
  ·have := hW.lt hk hl; omega
 ·obtain ⟨h1, h2⟩ := hW.blk k b hk
  exact ⟨h1.keep (fun _ _ => rfl) (fun _ h => .inl h) hw rfl (fun hl => below_block hb (hW.lt hk hl)) h2, h2⟩
theorem RW.same {w' : World} (hW : RW G w0 Z0 Z β H w) (hb : Below w.heap.size w w') : RW G w0 Z0 Z β H w' := by
 have hs := hb.size
 have h0 := hW.below.size
 have hw : ∀ b, Z b → w'.heap[b]? = w.heap[b]? := fun b hz => below_block hb (hW.zlt b hz)
 refine ⟨hW.below.trans (hb.mono h0), fun b hz => ?_, hW.znew, hW.zown, hW.zpub, hW.low, hW.inj, fun k b hk => ?_, hW.glob.mono (fun _ h => h) hw, fun p hp => ⟨R.mono (n := H.length) (fun _ _ => rfl) (fun _ h => h) hw _ _ (hW.gh p hp).2 (hW.gh p hp).1, (hW.gh p hp).2⟩, fun D hD => ⟨(hW.mks D hD).1, by unfold MkAt; rw [hw D (hW.mks D hD).1]; exact (hW.mks D hD).2⟩⟩
 ·have := hW.zlt b hz; omega
 ·obtain ⟨h1, h2⟩ := hW.blk k b hk
  exact ⟨h1.keep (fun _ _ => rfl) (fun _ h => h) hw rfl (fun hl => below_block hb (hW.lt hk hl)) h2, h2⟩
theorem RW.adopt {ℓ : Loc} {nb : Blk} (hW : RW G w0 Z0 Z β H w) (hp : nb.p = false) (hok : okB (H.length + 1) nb)
  (hf : live (fun _ => ℓ) 0 nb → ¬ Z ℓ.b ∧ w0.heap.size ≤ ℓ.b ∧ ∀ j bj, H[j]? = some bj → live β j bj → (β j).b ≠ ℓ.b)
  (hB : ∀ β' : Nat → Loc, (∀ k, k < H.length → β' k = β k) → β' H.length = ℓ → BlkR β' Z w H.length nb) :
  ∃ β', (∀ k, k < H.length → β' k = β k) ∧ β' H.length = ℓ ∧ RW G w0 Z0 Z β' (H ++ [nb]) w := by
 let β' : Nat → Loc := fun k => if k = H.length then ℓ else β k
 have hb' : ∀ k, k < H.length → β' k = β k := fun k hk => by simp only [β']; rw [if_neg (by omega)]
 have hbn : β' H.length = ℓ := by simp [β']
 have hlive : live β' H.length nb = live (fun _ => ℓ) 0 nb := by unfold live; rw [hbn]
 have old : ∀ k b, (H ++ [nb])[k]? = some b → (k < H.length ∧ H[k]? = some b ∧ β' k = β k) ∨ (k = H.length ∧ b = nb) := fun k b h => by
  by_cases hk : k < H.length
  ·rw [List.getElem?_append_left hk] at h; exact .inl ⟨hk, h, hb' k hk⟩
  ·have hkl : k = H.length := by have := (List.getElem?_eq_some_iff.1 h).1; simp at this; omega
   subst hkl
   simp at h
   exact .inr ⟨rfl, h.symm⟩
 refine ⟨β', hb', hbn, hW.below, hW.zlt, hW.znew, fun k b hk hl hp' => ?_, fun k b hk hl hp' => ?_, fun k b hk hl => ?_, fun i j bi bj hi hj li lj hpi e => ?_, fun k b hk => ?_, hW.glob, fun p hp => ⟨R.mono hb' (fun _ h => h) (fun _ _ => rfl) _ _ (hW.gh p hp).2 (hW.gh p hp).1, okV.mono (by simp) _ (hW.gh p hp).2⟩, hW.mks⟩
 ·rcases old k b hk with ⟨h1, h2, h3⟩ | ⟨rfl, rfl⟩
  ·rw [h3]; rw [live_eq h3] at hl; exact hW.zown k b h2 hl hp'
  ·rw [hbn]; rw [hlive] at hl; exact (hf hl).1
 ·rcases old k b hk with ⟨h1, h2, h3⟩ | ⟨rfl, rfl⟩
  ·rw [h3]; rw [live_eq h3] at hl; exact hW.zpub k b h2 hl hp'
  ·rw [hp] at hp'; cases hp'
 ·rcases old k b hk with ⟨h1, h2, h3⟩ | ⟨rfl, rfl⟩
  ·rw [h3]; rw [live_eq h3] at hl; exact hW.low k b h2 hl
  ·rw [hbn]; rw [hlive] at hl; exact (hf hl).2.1
 ·rcases old i bi hi with ⟨h1, h2, h3⟩ | ⟨rfl, rfl⟩
  ·rw [live_eq h3] at li
   rcases old j bj hj with ⟨g1, g2, g3⟩ | ⟨rfl, rfl⟩
   ·rw [live_eq g3] at lj; rw [h3, g3] at e; exact hW.inj i j bi bj h2 g2 li lj hpi e
   ·rw [hlive] at lj; rw [h3, hbn] at e; exact absurd e ((hf lj).2.2 i bi h2 li)
  ·rw [hlive] at li
   rcases old j bj hj with ⟨g1, g2, g3⟩ | ⟨rfl, rfl⟩
   ·rw [live_eq g3] at lj; rw [hbn, g3] at e; exact absurd e.symm ((hf li).2.2 j bj g2 lj)
   ·rfl
 ·have hlen : (H ++ [nb]).length = H.length + 1 := by simp
  rw [hlen]
  rcases old k b hk with ⟨h1, h2, h3⟩ | ⟨rfl, rfl⟩
  ·obtain ⟨g1, g2⟩ := hW.blk k b h2
   exact ⟨g1.keep hb' (fun _ h => h) (fun _ _ => rfl) h3 (fun _ => rfl) g2, g2.mono (by omega)⟩
  ·exact ⟨hB β' hb' hbn, hok⟩
theorem RW.set {w' : World} {k : Nat} {b nb : Blk} (hW : RW G w0 Z0 Z β H w) (hk : H[k]? = some b) (hl : live β k b) (hp : b.p = false) (hnp : nb.p = false) (hok : okB H.length nb)
  (hsz : w'.heap.size = w.heap.size) (hos : w'.os = w.os ∧ w'.tape = w.tape ∧ w'.output = w.output) (hne : ∀ j, j ≠ (β k).b → w'.heap[j]? = w.heap[j]?) (hB : BlkR β Z w' k nb) : RW G w0 Z0 Z β (H.set k nb) w' := by
 have hkl : k < H.length := (List.getElem?_eq_some_iff.1 hk).1
 have hw : ∀ b', Z b' → w'.heap[b']? = w.heap[b']? := fun b' hz => hne b' (fun e => hW.zown k b hk hl hp (e ▸ hz))
 have old : ∀ i bi, (H.set k nb)[i]? = some bi → (i = k ∧ bi = nb) ∨ (i ≠ k ∧ H[i]? = some bi) := fun i bi h => by
  rw [List.getElem?_set] at h
  split at h
  ·rename_i e
   simp only [Option.some.injEq] at h
   exact .inl ⟨e.symm, h.symm⟩
  ·rename_i e; exact .inr ⟨fun x => e x.symm, h⟩
 refine ⟨?_, fun b' hz => by rw [hsz]; exact hW.zlt b' hz, hW.znew, fun i bi hi li pi => ?_, fun i bi hi li pi => ?_, fun i bi hi li => ?_, fun i j bi bj hi hj li lj pi e => ?_, fun i bi hi => ?_, hW.glob.mono (fun _ h => h) hw, fun p hp => ⟨R.mono (n := H.length) (fun _ _ => rfl) (fun _ h => h) hw _ _ (hW.gh p hp).2 (hW.gh p hp).1, by simpa using (hW.gh p hp).2⟩, fun D hD => ⟨(hW.mks D hD).1, by unfold MkAt; rw [hw D (hW.mks D hD).1]; exact (hW.mks D hD).2⟩⟩
 ·refine hW.below.trans ⟨hos.1, hos.2.1, hos.2.2, Nat.le_of_eq hsz.symm, fun i hi => hne i ?_⟩
  have := hW.low k b hk hl
  omega
 ·rcases old i bi hi with ⟨rfl, rfl⟩ | ⟨h1, h2⟩
  ·exact hW.zown _ b hk hl hp
  ·exact hW.zown i bi h2 li pi
 ·rcases old i bi hi with ⟨rfl, rfl⟩ | ⟨h1, h2⟩
  ·rw [hnp] at pi; cases pi
  ·exact hW.zpub i bi h2 li pi
 ·rcases old i bi hi with ⟨rfl, rfl⟩ | ⟨h1, h2⟩
  ·exact hW.low _ b hk hl
  ·exact hW.low i bi h2 li
 ·rcases old i bi hi with ⟨rfl, rfl⟩ | ⟨h1, h2⟩
  ·rcases old j bj hj with ⟨rfl, rfl⟩ | ⟨g1, g2⟩
   ·rfl
   ·exact hW.inj _ j b bj hk g2 hl lj hp e
  ·rcases old j bj hj with ⟨rfl, rfl⟩ | ⟨g1, g2⟩
   ·exact hW.inj i _ bi b h2 hk li hl pi e
   ·exact hW.inj i j bi bj h2 g2 li lj pi e
 ·rw [List.length_set]
  rcases old i bi hi with ⟨rfl, rfl⟩ | ⟨h1, h2⟩
  ·exact ⟨hB, hok⟩
  ·obtain ⟨g1, g2⟩ := hW.blk i bi h2
   refine ⟨g1.keep (fun _ _ => rfl) (fun _ h => h) hw rfl (fun li => hne _ fun e => ?_) g2, g2⟩
   exact h1 (hW.inj k i b bi hk h2 hl li hp e.symm).symm
theorem RW.alloc {cs : List LV} {vs : Array Value} {t : TypeId} (hW : RW G w0 Z0 Z β H w) (hr : RL β Z w cs vs.toList) (hk : okL H.length cs) :
  ∃ β', (∀ k, k < H.length → β' k = β k) ∧ (β' H.length).b = w.heap.size ∧ RW G w0 Z0 Z β' (H ++ [⟨cs, t, .cl, false⟩]) (w.alloc (.cells vs t)) ∧ (∀ b, Z b → (w.alloc (.cells vs t)).heap[b]? = w.heap[b]?) := by
 have hbw : Below w.heap.size w (w.alloc (.cells vs t)) := (Below.refl _ _).alloc (Nat.le_refl _) _
 have hw : ∀ b, Z b → (w.alloc (.cells vs t)).heap[b]? = w.heap[b]? := fun b hz => below_block hbw (hW.zlt b hz)
 obtain ⟨β', h1, h2, h3⟩ := (hW.same hbw).adopt (ℓ := ⟨w.heap.size, 0, none⟩) (nb := ⟨cs, t, .cl, false⟩) rfl ⟨okL.mono (by omega) _ hk, trivial⟩ (fun _ => ⟨fun hz => by have := hW.zlt _ hz; simp only at this; omega, hW.below.size, fun j bj hj lj e => by have := hW.lt hj lj; simp only at e; omega⟩) (fun β' h1 h2 => by
  simp only [BlkR, h2]
  refine ⟨vs, ?_, RL.mono h1 (fun _ h => h) hw _ _ hk hr⟩
  show (w.heap.push _)[w.heap.size]? = _
  simp)
 exact ⟨β', h1, by rw [h2], h3, hw⟩
noncomputable def lvB (β : Nat → Loc) (H : List Blk) (ks : List Nat) : List Nat := (ks.filter (fun k => @decide (∃ b, H[k]? = some b ∧ live β k b ∧ b.p = false) (Classical.propDecidable _))).map fun k => (β k).b
theorem mem_lvB {ks : List Nat} {x : Nat} : x ∈ lvB β H ks ↔ ∃ k b, k ∈ ks ∧ H[k]? = some b ∧ live β k b ∧ b.p = false ∧ x = (β k).b := by
 unfold lvB
 simp only [List.mem_map, List.mem_filter]
 constructor
 ·rintro ⟨k, ⟨h1, h2⟩, h3⟩
  obtain ⟨b, h4, h5, h6⟩ := @of_decide_eq_true _ (Classical.propDecidable _) h2
  exact ⟨k, b, h1, h4, h5, h6, h3.symm⟩
 ·rintro ⟨k, b, h1, h2, h3, h4, h5⟩
  exact ⟨k, ⟨h1, @decide_eq_true _ (Classical.propDecidable _) ⟨b, h2, h3, h4⟩⟩, h5.symm⟩
theorem lvB_one {k : Nat} {b : Blk} (hb : H[k]? = some b) (hl : live β k b) (hp : b.p = false) : (β k).b ∈ lvB β H [k] := mem_lvB.2 ⟨k, b, by simp, hb, hl, hp, rfl⟩
end Go.Sx
