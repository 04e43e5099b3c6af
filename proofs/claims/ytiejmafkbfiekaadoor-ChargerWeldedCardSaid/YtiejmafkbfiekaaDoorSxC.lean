/- The executor is right: values and operations. -/
import Derived.Test.YtiejmafkbfiekaaDoorSxB
namespace Go.Sx
open Go Go.RowKit

/-- Where a walk began: what was there to be read, and values that are held elsewhere (in the frames of the callers). -/
structure Gz where
  z : Nat → Prop
  gh : List (LV × Value)

variable {P : Program} {G : Globs} {Γ : Specs} {β : Nat → Nat} {Z : Nat → Prop} {Z0 : Gz} {w w0 : World} {F : List LV} {H : List Blk} {a : Act}

theorem pl_R {x : LV} {y z : Value} (h : pl x = some y) (hr : R β Z w x z) : z = y := by
  cases x with
  | v q => simp only [pl, Option.some.injEq] at h; simp only [R] at hr; rw [hr, h]
  | bl b => simp only [pl, Option.some.injEq] at h; simp only [R] at hr; rw [hr, h]
  | fn f l =>
    cases l with
    | nil =>
      simp only [pl, Option.some.injEq] at h
      simp only [R, RL] at hr
      obtain ⟨ys, h1, h2⟩ := hr
      have : ys = #[] := by simpa using h2
      rw [h1, this, h]
    | cons _ _ => simp [pl] at h
  | _ => simp [pl] at h
theorem R_pl {x : LV} {y : Value} (h : pl x = some y) : R β Z w x y := by
  cases x with
  | v q => simp only [pl, Option.some.injEq] at h; simp only [R]; exact h.symm
  | bl b => simp only [pl, Option.some.injEq] at h; simp only [R]; exact h.symm
  | fn f l =>
    cases l with
    | nil => simp only [pl, Option.some.injEq] at h; simp only [R, RL]; exact ⟨#[], h.symm, rfl⟩
    | cons _ _ => simp [pl] at h
  | _ => simp [pl] at h
theorem plL_R : ∀ {l : List LV} {ys zs : List Value}, plL l = some ys → RL β Z w l zs → zs = ys
  | [], ys, zs, h, hr => by simp only [plL, Option.some.injEq] at h; simp only [RL] at hr; rw [hr, h]
  | x :: xs, ys, zs, h, hr => by
    simp only [plL] at h
    split at h
    · rename_i y ys' h1 h2
      simp only [Option.some.injEq] at h
      simp only [RL] at hr
      obtain ⟨y', zs', e1, e2, e3⟩ := hr
      rw [e1, pl_R h1 e2, plL_R h2 e3, h]
    · cases h
theorem mkAgg_R {l : List LV} {ys : Array Value} (h : RL β Z w l ys.toList) : R β Z w (mkAgg l) (.agg ys) := by
  unfold mkAgg
  split
  · rename_i zs hz
    simp only [R]
    have := plL_R hz h
    rw [← this]
  · simp only [R]; exact ⟨ys, rfl, h⟩
theorem mkTup_R {l : List LV} {ys : Array Value} (h : RL β Z w l ys.toList) : R β Z w (mkTup l) (.tuple ys) := by
  unfold mkTup
  split
  · rename_i zs hz
    simp only [R]
    have := plL_R hz h
    rw [← this]
  · simp only [R]; exact ⟨ys, rfl, h⟩
theorem mkAgg_ok {n : Nat} {l : List LV} (h : okL n l) : okV n (mkAgg l) := by
  unfold mkAgg; split
  · trivial
  · simpa only [okV] using h
theorem mkTup_ok {n : Nat} {l : List LV} (h : okL n l) : okV n (mkTup l) := by
  unfold mkTup; split
  · trivial
  · simpa only [okV] using h
theorem okL_v (n : Nat) : ∀ (l : List Value), okL n (l.map .v)
  | [] => trivial
  | _ :: xs => ⟨trivial, okL_v n xs⟩
theorem RL_v : ∀ (l : List Value), RL β Z w (l.map .v) l
  | [] => by simp [RL]
  | x :: xs => by simp only [List.map_cons, RL, R]; exact ⟨x, xs, rfl, rfl, RL_v xs⟩

theorem isCell_one {x : LV} {y : Value} (h : isCell x = true) (hr : R β Z w x y) : oneB y = true := by
  cases x with
  | v q => simp only [R] at hr; rw [hr]; exact h
  | bl b => simp only [R] at hr; rw [hr]; rfl
  | own k off => simp only [R] at hr; rw [hr]; rfl
  | fn f l => simp only [R] at hr; obtain ⟨ys, h1, _⟩ := hr; rw [h1]; rfl
  | xq n f => simp only [R] at hr; obtain ⟨b, off, h1, _⟩ := hr; rw [h1]; rfl
  | xs n es f => simp only [R] at hr; obtain ⟨b, off, h1, _⟩ := hr; rw [h1]; rfl
  | xl e l => simp only [R] at hr; obtain ⟨b, off, h1, _⟩ := hr; rw [h1]; rfl
  | agg l => simp [isCell] at h
  | tup l => simp [isCell] at h
  | junk => simp [isCell] at h
theorem one_cells {y : Value} (h : oneB y = true) : y.cells = #[y] := by cases y <;> first | rfl | (simp [oneB] at h)

theorem cellsL_R {x : LV} {y : Value} {cs : List LV} (h : cellsL x = some cs) (hr : R β Z w x y) : RL β Z w cs y.cells.toList ∧ (∀ z ∈ y.cells.toList, oneB z = true) := by
  have single : ∀ x : LV, isCell x = true → R β Z w x y → RL β Z w [x] y.cells.toList ∧ (∀ z ∈ y.cells.toList, oneB z = true) := fun x hx hr => by
    have h1 := isCell_one hx hr
    rw [one_cells h1]
    refine ⟨?_, ?_⟩
    · simp only [RL]; exact ⟨y, [], rfl, hr, rfl⟩
    · intro z hz
      have : z = y := by simpa using hz
      rw [this]; exact h1
  cases x with
  | v q =>
    simp only [cellsL] at h
    split at h
    · rename_i ha
      simp only [Option.some.injEq] at h
      simp only [R] at hr
      subst h hr
      exact ⟨RL_v _, fun z hz => List.all_eq_true.1 ha z hz⟩
    · cases h
  | agg l =>
    simp only [cellsL] at h
    split at h
    · rename_i ha
      simp only [Option.some.injEq] at h
      simp only [R] at hr
      obtain ⟨ys, h1, h2⟩ := hr
      subst h h1
      refine ⟨h2, fun z hz => ?_⟩
      obtain ⟨i, hi, hz'⟩ := List.mem_iff_getElem.1 hz
      have hlen := RL.length h2
      have hl : l[i]? = some (l[i]'(by simp only [Value.cells] at hi; omega)) := List.getElem?_eq_getElem _
      obtain ⟨y', e1, e2⟩ := RL.get i _ h2 hl
      have : y' = z := by
        simp only [Value.cells] at hi hz'
        rw [List.getElem?_eq_getElem hi] at e1
        simpa [hz'] using e1.symm
      rw [← this]
      exact isCell_one (List.all_eq_true.1 ha _ (List.getElem_mem _)) e2
    · cases h
  | bl b => simp only [cellsL, Option.some.injEq] at h; subst h; exact single _ rfl hr
  | own k off => simp only [cellsL, Option.some.injEq] at h; subst h; exact single _ rfl hr
  | fn f l => simp only [cellsL, Option.some.injEq] at h; subst h; exact single _ rfl hr
  | xq n f => simp only [cellsL, Option.some.injEq] at h; subst h; exact single _ rfl hr
  | xs n es f => simp only [cellsL, Option.some.injEq] at h; subst h; exact single _ rfl hr
  | xl e l => simp only [cellsL, Option.some.injEq] at h; subst h; exact single _ rfl hr
  | tup l => simp [cellsL] at h
  | junk => simp [cellsL] at h
theorem cellsL_ok {n : Nat} {x : LV} {cs : List LV} (h : cellsL x = some cs) (hr : okV n x) : okL n cs := by
  cases x with
  | v q =>
    simp only [cellsL] at h
    split at h
    · simp only [Option.some.injEq] at h; subst h; exact okL_v _ _
    · cases h
  | agg l =>
    simp only [cellsL] at h
    split at h
    · simp only [Option.some.injEq] at h; subst h; simpa only [okV] using hr
    · cases h
  | bl b => simp only [cellsL, Option.some.injEq] at h; subst h; exact ⟨hr, trivial⟩
  | own k off => simp only [cellsL, Option.some.injEq] at h; subst h; exact ⟨hr, trivial⟩
  | fn f l => simp only [cellsL, Option.some.injEq] at h; subst h; exact ⟨hr, trivial⟩
  | xq n f => simp only [cellsL, Option.some.injEq] at h; subst h; exact ⟨hr, trivial⟩
  | xs n es f => simp only [cellsL, Option.some.injEq] at h; subst h; exact ⟨hr, trivial⟩
  | xl e l => simp only [cellsL, Option.some.injEq] at h; subst h; exact ⟨trivial, trivial⟩
  | tup l => simp [cellsL] at h
  | junk => simp [cellsL] at h

/-- The program's variables, as the engine knows them. -/
def GlOk (G : Globs) (Z : Nat → Prop) (w : World) : Prop := ∀ g n f, G g = some (n, f) → Z g ∧ ∀ j, j < n → w.cell? ⟨g, j, none⟩ = some (f j)

/-- The world: below the entry as it was; the own blocks hold what H says. -/
structure RW (G : Globs) (w0 : World) (Z0 : Gz) (Z : Nat → Prop) (β : Nat → Nat) (H : List Blk) (w : World) : Prop where
  below : Below w0.heap.size w0 w
  zlt : ∀ b, Z b → b < w.heap.size
  znew : ∀ b, Z b → Z0.z b ∨ w0.heap.size ≤ b
  zown : ∀ k, k < H.length → ¬ Z (β k)
  inj : ∀ i j, i < H.length → j < H.length → β i = β j → i = j
  blk : ∀ k b, H[k]? = some b → w0.heap.size ≤ β k ∧ (∃ cs, w.heap[β k]? = some (.cells cs b.t (0, 0)) ∧ RL β Z w b.c cs.toList) ∧ okL H.length b.c
  glob : GlOk G Z w
  gh : ∀ p, p ∈ Z0.gh → R β Z w p.1 p.2 ∧ okV H.length p.1

structure RF (β : Nat → Nat) (Z : Nat → Prop) (w : World) (n : Nat) (F : List LV) (a : Act) : Prop where
  size : a.tmps.size = F.length
  get : ∀ t x, F[t]? = some x → R β Z w x (a.tmps.getD t undef) ∧ okV n x
  defers : a.defers = []

theorem RF.eval (hF : RF β Z w H.length F a) (hg : GlOk G Z w) (x : Operand) : R β Z w (evalL G F x) (a.eval x) ∧ okV H.length (evalL G F x) := by
  cases x with
  | tmp t =>
    simp only [evalL, Act.eval]
    cases h : F[t]? with
    | none => simp [List.getD, h, R, okV]
    | some y => simp only [List.getD, h, Option.getD_some]; exact hF.get t y h
  | const x =>
    simp only [evalL, Act.eval]
    cases x <;> simp [R, okV]
  | global g =>
    simp only [evalL, Act.eval]
    split
    · rename_i n f h
      obtain ⟨h1, h2⟩ := hg g n f h
      simp only [R, okV]
      refine ⟨⟨g, 0, rfl, h1, fun j hj => ⟨_, by rw [Nat.zero_add]; exact h2 j hj, rfl⟩⟩, fun _ => trivial⟩
    · simp [R, okV]
  | func f => simp only [evalL, Act.eval, R, RL, okV, okL]; exact ⟨⟨#[], rfl, rfl⟩, trivial⟩

theorem T.pick {α : Type} {K : α → Prop} : ∀ {t : T α}, t.all K → ∃ x, K x ∧ t.all (fun y => y = x)
  | .ok x, h => ⟨x, h, rfl⟩
  | .br b t e, h => by
    cases b with
    | true => obtain ⟨x, h1, h2⟩ := T.pick (h.1 rfl); exact ⟨x, h1, fun _ => h2, fun hb => by cases hb⟩
    | false => obtain ⟨x, h1, h2⟩ := T.pick (h.2 rfl); exact ⟨x, h1, fun hb => (by cases hb), fun _ => h2⟩
  | .req p t, h => by obtain ⟨x, h1, h2⟩ := T.pick h.2; exact ⟨x, h1, h.1, h2⟩
  | .no, h => by cases h

/-! ### cells -/
theorem cell_of_block {b : Nat} {cs : Array Value} {t : TypeId} (h : w.heap[b]? = some (.cells cs t (0, 0))) (o : Nat) : w.cell? ⟨b, o, none⟩ = cs[o]? := by
  simp [World.cell?, h]
theorem frozen_of_block {b : Nat} {cs : Array Value} {t : TypeId} (h : w.heap[b]? = some (.cells cs t (0, 0))) (o : Nat) : w.frozen? ⟨b, o, none⟩ = false := by
  simp [World.frozen?, h]
theorem addr_add (b o i : Nat) : Addr.add ⟨b, o, none⟩ i = ⟨b, o + i, none⟩ := by
  unfold Addr.add
  split
  · rename_i h; subst h; rfl
  · rfl
theorem run_load_cell {ad : Addr} {z : Value} (h : w.cell? ad = some z) (P : Program) : (load ad).run P w = .ok z w := by
  simp [load, Sem.run, h]

/-! ### types -/
theorem run_isAgg {t : TypeId} {b : Bool} (h : aggT P t = some b) (w : World) : (isAgg t).run P w = .ok b w := by
  unfold aggT at h
  cases hu : P.underlying t with
  | none => simp [hu] at h
  | some d =>
    simp only [hu, Option.map_some, Option.some.injEq] at h
    unfold isAgg
    simp only [Sem.run_bind, run_underlying hu, Result.andThen_ok]
    cases d <;> simp_all
theorem run_sizeOf {t : TypeId} {n : Nat} (h : sizeT P t = some n) (w : World) : (sizeOf t).run P w = .ok n w := by
  unfold sizeT at h
  cases hu : P.info? t with
  | none => simp [hu] at h
  | some d =>
    simp only [hu, Option.map_some, Option.some.injEq] at h
    simp [sizeOf, typeInfo, hu, h]
theorem run_zero {t : TypeId} {z : Value} (h : zeroT P t = some z) (w : World) : (zeroValue t).run P w = .ok z w := by
  unfold zeroT at h
  cases hu : P.info? t with
  | none => simp [hu] at h
  | some d =>
    simp only [hu, Option.bind_some] at h
    simp [zeroValue, typeInfo, hu, h]

theorem RL.take_drop {l : List LV} {ys : List Value} (h : RL β Z w l ys) (off n : Nat) : RL β Z w ((l.drop off).take n) ((ys.drop off).take n) := by
  have hl := RL.length h
  refine RL.of_get (by simp [hl]) fun i x hx => ?_
  rw [List.getElem?_take] at hx ⊢
  split at hx
  · rename_i hi
    rw [if_pos hi]
    rw [List.getElem?_drop] at hx ⊢
    exact RL.get _ _ h hx
  · cases hx
theorem okL.take_drop {n : Nat} {l : List LV} (h : okL n l) (off m : Nat) : okL n ((l.drop off).take m) := by
  refine okL.of_get fun i x hx => ?_
  rw [List.getElem?_take] at hx
  split at hx
  · rw [List.getElem?_drop] at hx; exact okL.get _ _ h hx
  · cases hx

/-- A load. -/
theorem loadL_sound {t : TypeId} {x lv : LV} {y : Value} (hW : RW G w0 Z0 Z β H w) (h : (loadL P H t x).all (fun z => z = lv)) (hr : R β Z w x y) (hk : okV H.length x) :
    ∃ z, (∀ w', (∀ b, (Z b ∨ ∃ k off, x = .own k off ∧ b = β k) → w'.heap[b]? = w.heap[b]?) → (Instr.loadAt t y).run P w' = .ok z w') ∧ R β Z w lv z ∧ okV H.length lv := by
  unfold loadL at h
  split at h
  · rename_i n hag hsz
    have e1 := fun w => run_isAgg hag w
    have e2 := fun w => run_sizeOf hsz w
    split at h
    · rename_i k off
      split at h
      · rename_i b hb
        split at h
        · rename_i hle
          simp only [T.all] at h
          obtain ⟨_, ⟨cs, hc, hrl⟩, hok⟩ := hW.blk k b hb
          simp only [R] at hr
          have hlen := RL.length hrl
          have hld := fun (w' : World) (hc' : w'.heap[β k]? = some (.cells cs b.t (0, 0))) => run_loadCells_list (P := P) w' ⟨β k, off, none⟩ ((cs.toList.drop off).take n) (fun j v hj => by
            rw [addr_add, cell_of_block hc']
            rw [List.getElem?_take] at hj
            split at hj
            · rw [List.getElem?_drop] at hj; simpa using hj
            · cases hj)
          have hn : ((cs.toList.drop off).take n).length = n := by simp at hlen ⊢; omega
          simp only [hn] at hld
          refine ⟨.agg ((cs.toList.drop off).take n).toArray, fun w' hw' => ?_, ?_, ?_⟩
          · have := hld w' (by rw [hw' (β k) (.inr ⟨k, off, rfl, rfl⟩)]; exact hc)
            simp [Instr.loadAt, Instr.sureAddr, hr, loadVar, e1, e2, this]
          · rw [← h]; exact mkAgg_R (by simpa using hrl.take_drop off n)
          · rw [← h]; exact mkAgg_ok (hok.take_drop off n)
        · cases h
      · cases h
    · rename_i m f
      split at h
      · rename_i hle
        simp only [T.all] at h
        simp only [R] at hr
        obtain ⟨b, off, e3, hz, e4⟩ := hr
        simp only [okV] at hk
        have hch : ∀ j, ∃ z, j < m → w.cell? ⟨b, off + j, none⟩ = some z ∧ R β Z w (f j) z := fun j => by
          by_cases hj : j < m
          · obtain ⟨z, hz⟩ := e4 j hj; exact ⟨z, fun _ => hz⟩
          · exact ⟨undef, fun h => absurd h hj⟩
        obtain ⟨g, hg⟩ := Classical.axiomOfChoice hch
        refine ⟨.agg ((List.range n).map g).toArray, fun w' hw' => ?_, ?_, ?_⟩
        · have hld := run_loadCells (P := P) w' ⟨b, off, none⟩ n g (fun j hj => by rw [addr_add, World.cell?_of_block (w := w) (w' := w') (hw' b (.inl hz))]; exact (hg j (by omega)).1)
          simp [Instr.loadAt, Instr.sureAddr, e3, loadVar, e1, e2, hld]
        · rw [← h]
          refine mkAgg_R (RL.of_get (by simp) fun i x hx => ?_)
          have hi : i < n := by have := (List.getElem?_eq_some_iff.1 hx).1; simpa using this
          refine ⟨g i, by simp [hi], ?_⟩
          have : x = f i := by simpa [hi] using hx.symm
          rw [this]; exact (hg i (by omega)).2
        · rw [← h]
          refine mkAgg_ok (okL.of_get fun i x hx => ?_)
          have hi : i < n := by have := (List.getElem?_eq_some_iff.1 hx).1; simpa using this
          have : x = f i := by simpa [hi] using hx.symm
          rw [this]; exact okV.mono (Nat.zero_le _) _ (hk i)
      · cases h
    · cases h
  · rename_i _ hag
    have e1 := fun w => run_isAgg hag w
    split at h
    · rename_i k off
      split at h
      · rename_i b hb
        split at h
        · rename_i z hz
          simp only [T.all] at h
          obtain ⟨_, ⟨cs, hc, hrl⟩, hok⟩ := hW.blk k b hb
          simp only [R] at hr
          obtain ⟨q, h1, h2⟩ := RL.get _ _ hrl hz
          refine ⟨q, fun w' hw' => ?_, ?_, ?_⟩
          · have : w'.cell? ⟨β k, off, none⟩ = some q := by rw [cell_of_block (by rw [hw' (β k) (.inr ⟨k, off, rfl, rfl⟩)]; exact hc)]; simpa using h1
            simp [Instr.loadAt, Instr.sureAddr, hr, loadVar, e1, this]
          · rw [← h]; exact h2
          · rw [← h]; exact okL.get _ _ hok hz
        · cases h
      · cases h
    · rename_i m f
      split at h
      · rename_i hm
        simp only [T.all] at h
        simp only [R] at hr
        obtain ⟨b, off, e3, hz, e4⟩ := hr
        obtain ⟨z, h1, h2⟩ := e4 0 hm
        refine ⟨z, fun w' hw' => ?_, ?_, ?_⟩
        · have : w'.cell? ⟨b, off, none⟩ = some z := by rw [World.cell?_of_block (w := w) (w' := w') (hw' b (.inl hz))]; simpa using h1
          simp [Instr.loadAt, Instr.sureAddr, e3, loadVar, e1, this]
        · rw [← h]; exact h2
        · rw [← h]; simp only [okV] at hk; exact okV.mono (Nat.zero_le _) _ (hk 0)
      · cases h
    · cases h
  · cases h

/-! ### new blocks and stores -/
theorem oneB_one {z : Value} (h : oneB z = true) : z.oneCell' = true := by cases z <;> first | rfl | (simp [oneB] at h)

/-- What has been related stays so: the blocks of Z have not turned. -/
theorem RF.mono {β' : Nat → Nat} {Z' : Nat → Prop} {w' : World} {n m : Nat} (hF : RF β Z w n F a) (hn : n ≤ m) (hβ : ∀ k, k < n → β' k = β k) (hZ : ∀ b, Z b → Z' b)
    (hw : ∀ b o v, Z b → w.cell? ⟨b, o, none⟩ = some v → w'.cell? ⟨b, o, none⟩ = some v) : RF β' Z' w' m F a :=
  ⟨hF.size, fun t x hx => ⟨R.mono hβ hZ hw x _ (hF.get t x hx).2 (hF.get t x hx).1, okV.mono hn x (hF.get t x hx).2⟩, hF.defers⟩

theorem RW.alloc {cs : List LV} {vs : Array Value} {t : TypeId} (hW : RW G w0 Z0 Z β H w) (hr : RL β Z w cs vs.toList) (hk : okL H.length cs) :
    ∃ β', (∀ k, k < H.length → β' k = β k) ∧ β' H.length = w.heap.size ∧ RW G w0 Z0 Z β' (H ++ [⟨cs, t⟩]) (w.alloc (.cells vs t)) ∧ (∀ b o v, Z b → w.cell? ⟨b, o, none⟩ = some v → (w.alloc (.cells vs t)).cell? ⟨b, o, none⟩ = some v) := by
  let β' : Nat → Nat := fun k => if k = H.length then w.heap.size else β k
  have hb' : ∀ k, k < H.length → β' k = β k := fun k hk => by simp only [β']; rw [if_neg (by omega)]
  have hbn : β' H.length = w.heap.size := by simp [β']
  have hcell : ∀ b o v, Z b → w.cell? ⟨b, o, none⟩ = some v → (w.alloc (.cells vs t)).cell? ⟨b, o, none⟩ = some v := fun b o v hz h => by
    rw [← h]; exact World.cell?_of_block (w := w) (Below.heap_alloc w _ b (hW.zlt b hz))
  have hlt : ∀ k, k < H.length → β k < w.heap.size := fun k hk => by
    obtain ⟨_, ⟨cs, hc, _⟩, _⟩ := hW.blk k (H[k]) (List.getElem?_eq_getElem hk)
    exact (Array.getElem?_eq_some_iff.1 hc).1
  refine ⟨β', hb', hbn, ?_, hcell⟩
  refine ⟨hW.below.alloc hW.below.size _, fun b hz => ?_, hW.znew, fun k hk => ?_, fun i j hi hj e => ?_, fun k b hb => ?_, fun g n f hg => ?_, fun p hp => ?_⟩
  · have := hW.zlt b hz; simp; omega
  · simp at hk
    by_cases hkk : k = H.length
    · rw [hkk, hbn]; intro hz; have := hW.zlt _ hz; omega
    · rw [hb' k (by omega)]; exact hW.zown k (by omega)
  · simp at hi hj
    by_cases hi' : i = H.length
    · by_cases hj' : j = H.length
      · omega
      · rw [hi', hbn, hb' j (by omega)] at e; have := hlt j (by omega); omega
    · by_cases hj' : j = H.length
      · rw [hj', hbn, hb' i (by omega)] at e; have := hlt i (by omega); omega
      · rw [hb' i (by omega), hb' j (by omega)] at e; exact hW.inj i j (by omega) (by omega) e
  · by_cases hkk : k < H.length
    · rw [List.getElem?_append_left hkk] at hb
      obtain ⟨h1, ⟨cs1, hc, h2⟩, h3⟩ := hW.blk k b hb
      rw [hb' k hkk]
      refine ⟨h1, ⟨cs1, ?_, RL.mono hb' (fun _ h => h) hcell _ _ h3 h2⟩, okL.mono (by simp) _ h3⟩
      rw [Below.heap_alloc w _ _ (hlt k hkk)]; exact hc
    · have hkl : k = H.length := by have := (List.getElem?_eq_some_iff.1 hb).1; simp at this; omega
      subst hkl
      simp at hb
      subst hb
      rw [hbn]
      refine ⟨hW.below.size, ⟨vs, ?_, RL.mono hb' (fun _ h => h) hcell _ _ hk hr⟩, okL.mono (by simp) _ hk⟩
      show (w.heap.push _)[w.heap.size]? = _
      simp
  · obtain ⟨h1, h2⟩ := hW.glob g n f hg
    exact ⟨h1, fun j hj => hcell _ _ _ h1 (h2 j hj)⟩
  · obtain ⟨h1, h2⟩ := hW.gh p hp
    exact ⟨R.mono hb' (fun _ h => h) hcell _ _ h2 h1, okV.mono (by simp) _ h2⟩

theorem setRow_block (w : World) (g : Nat) (cs : Array Value) (k : Nat) (h : k ≠ g) : (w.setRow g cs).heap[k]? = w.heap[k]? := by
  simp only [World.setRow, Array.getElem?_modify]
  rw [if_neg (by omega)]

theorem RL.setAt {l cs : List LV} {ys zs : List Value} (h1 : RL β Z w l ys) (h2 : RL β Z w cs zs) (off : Nat) (hle : off + cs.length ≤ l.length) : RL β Z w (setAt l off cs) (ys.take off ++ zs ++ ys.drop (off + zs.length)) := by
  have e1 := RL.length h1
  have e2 := RL.length h2
  unfold Sx.setAt
  have app : ∀ {a b : List LV} {c d : List Value}, RL β Z w a c → RL β Z w b d → RL β Z w (a ++ b) (c ++ d) := by
    intro a
    induction a with
    | nil => intro b c d h h'; simp only [RL] at h; subst h; simpa using h'
    | cons x xs ih =>
      intro b c d h h'
      simp only [RL] at h
      obtain ⟨y, zs, rfl, h3, h4⟩ := h
      simp only [List.cons_append, RL]
      exact ⟨y, zs ++ d, rfl, h3, ih h4 h'⟩
  refine app (app ?_ h2) ?_
  · have := h1.take_drop 0 off; simpa using this
  · have := h1.take_drop (off + cs.length) (l.length - (off + cs.length))
    rw [e2]
    have t1 : (l.drop (off + cs.length)).take (l.length - (off + cs.length)) = l.drop (off + cs.length) := List.take_of_length_le (by simp)
    have t2 : (ys.drop (off + cs.length)).take (l.length - (off + cs.length)) = ys.drop (off + cs.length) := List.take_of_length_le (by simp [e1])
    rw [t1, t2] at this
    exact this
theorem okL.append {n : Nat} : ∀ {a b : List LV}, okL n a → okL n b → okL n (a ++ b)
  | [], _, _, h => h
  | _ :: _, _, h, h' => ⟨h.1, okL.append h.2 h'⟩
theorem okL.setAt {n : Nat} {l cs : List LV} (h1 : okL n l) (h2 : okL n cs) (off : Nat) : okL n (setAt l off cs) := by
  unfold Sx.setAt
  refine okL.append (okL.append ?_ h2) ?_
  · have := h1.take_drop 0 off; simpa using this
  · refine okL.of_get fun i x hx => ?_
    rw [List.getElem?_drop] at hx; exact okL.get _ _ h1 hx

/-- A store. -/
theorem storeL_sound {t : TypeId} {x q : LV} {y z : Value} {H' : List Blk} (hW : RW G w0 Z0 Z β H w) (h : (storeL P H t x q).all (fun r => r = H')) (hr : R β Z w x y) (hq : R β Z w q z) (hqk : okV H.length q) :
    ∃ w', (Instr.storeAt t y z).run P w = .ok () w' ∧ RW G w0 Z0 Z β H' w' ∧ H'.length = H.length ∧ (∀ b o v, Z b → w.cell? ⟨b, o, none⟩ = some v → w'.cell? ⟨b, o, none⟩ = some v) ∧ ∃ k off, x = .own k off ∧ Go.Proofs.YtiejmafkbfiekaaDoor.Near [β k] w w' := by
  unfold storeL at h
  split at h
  · rename_i n k off cs hsz hcs
    split at h
    · rename_i b hb
      split at h
      · rename_i hle
        obtain ⟨hl1, hl2⟩ := hle
        simp only [T.all] at h
        obtain ⟨g1, ⟨cur, hc, hrl⟩, hok⟩ := hW.blk k b hb
        obtain ⟨c1, c2⟩ := cellsL_R hcs hq
        have c3 := cellsL_ok hcs hqk
        have hlen := RL.length hrl
        have hlen2 := RL.length c1
        simp only [R] at hr
        have hst := run_storeCells_at P (β k) off b.t z.cells.toList 0 cur w hc (by simp at hlen; omega) (fun v hv => oneB_one (c2 v hv))
        have hkl : k < H.length := (List.getElem?_eq_some_iff.1 hb).1
        refine ⟨w.setRow (β k) (cur.toList.take (off + 0) ++ z.cells.toList ++ cur.toList.drop (off + 0 + z.cells.toList.length)).toArray, ?_, ?_, by rw [← h]; simp, ?_, k, off, rfl, ⟨rfl, rfl, rfl, by simp [World.setRow], fun i _ hi => setRow_block w _ _ _ (by simpa using hi)⟩⟩
        rotate_left
        · have hcell : ∀ b' o v, Z b' → w.cell? ⟨b', o, none⟩ = some v → (w.setRow (β k) (cur.toList.take (off + 0) ++ z.cells.toList ++ cur.toList.drop (off + 0 + z.cells.toList.length)).toArray).cell? ⟨b', o, none⟩ = some v := fun b' o v hz hv => by
            rw [← hv]
            exact World.cell?_of_block (w := w) (setRow_block w _ _ _ (fun e => hW.zown k hkl (e ▸ hz)))
          refine ⟨?_, fun b' hz => ?_, hW.znew, fun i hi => ?_, fun i j hi hj e => ?_, fun i b' hb' => ?_, fun g n f hg => ?_, fun p hp => ?_⟩
          · refine hW.below.trans ⟨rfl, rfl, rfl, by simp [World.setRow], fun i hi => setRow_block w _ _ _ (by omega)⟩
          · have := hW.zlt b' hz; simpa [World.setRow] using this
          · rw [← h] at hi; simp at hi; exact hW.zown i hi
          · rw [← h] at hi hj; simp at hi hj; exact hW.inj i j hi hj e
          · rw [← h] at hb' ⊢
            rw [List.getElem?_set] at hb'
            simp only [List.length_set]
            by_cases hik : k = i
            · subst hik
              simp only [if_true, hkl] at hb'
              simp only [Option.some.injEq] at hb'
              subst hb'
              refine ⟨g1, ⟨_, setRow_heap w (β k) cur _ b.t _ hc, ?_⟩, okL.setAt hok c3 off⟩
              have := RL.setAt (β := β) (Z := Z) (w := w) hrl c1 off (by omega)
              refine RL.mono (n := H.length) (fun _ _ => rfl) (fun _ h => h) hcell _ _ (okL.setAt hok c3 off) ?_
              simpa using this
            · simp only [if_neg hik] at hb'
              obtain ⟨f1, ⟨cs1, f2, f3⟩, f4⟩ := hW.blk i b' hb'
              have hil : i < H.length := (List.getElem?_eq_some_iff.1 hb').1
              refine ⟨f1, ⟨cs1, ?_, RL.mono (n := H.length) (fun _ _ => rfl) (fun _ h => h) hcell _ _ f4 f3⟩, f4⟩
              rw [setRow_block w _ _ _ (fun e => hik (hW.inj k i hkl hil e.symm))]; exact f2
          · obtain ⟨f1, f2⟩ := hW.glob g n f hg
            exact ⟨f1, fun j hj => hcell _ _ _ f1 (f2 j hj)⟩
          · obtain ⟨f1, f2⟩ := hW.gh p hp
            have hlen' : H'.length = H.length := by rw [← h]; simp
            rw [hlen']
            exact ⟨R.mono (n := H.length) (fun _ _ => rfl) (fun _ h => h) hcell _ _ f2 f1, f2⟩
        · intro b' o v hz hv
          rw [← hv]
          exact World.cell?_of_block (w := w) (setRow_block w _ _ _ (fun e => hW.zown k hkl (e ▸ hz)))
        · have e2 := fun w => run_sizeOf hsz w
          have e3 : z.cells.size = n := by simp at hlen2; omega
          simp [Instr.storeAt, Instr.sureAddr, hr, storeVar, e2, e3, hst]
      · cases h
    · cases h
  · cases h
end Go.Sx
