/- The executor: values told by their types (nil slices are slices without elements); bits. -/
import Derived.Test.YtihbikkkmoaljaaSxM
namespace Go.Sx
open Go Go.RowKit Go.Proofs.Ytihbikkkmoaljaa
variable {P : Program} {G : Globs} {Γ : Specs} {K : Hand} {L : Loops} {β : Nat → Loc} {Z : Nat → Prop} {w : World} {n : Nat}
def andK (k : IntKind) (x y : Int) : Int := k.wrap ((BitVec.ofInt k.bits x &&& BitVec.ofInt k.bits y).toNat)
def orK (k : IntKind) (x y : Int) : Int := k.wrap ((BitVec.ofInt k.bits x ||| BitVec.ofInt k.bits y).toNat)
def xorK (k : IntKind) (x y : Int) : Int := k.wrap ((BitVec.ofInt k.bits x ^^^ BitVec.ofInt k.bits y).toNat)
def gi (l : List Int) (n : Int) : Int := l.getD n.toNat 0
theorem gi_eq {l : List Int} {n : Int} (h : n.toNat < l.length) : gi l n = l[n.toNat] := by simp [gi, List.getD, List.getElem?_eq_getElem h]
theorem gi_mem {l : List Int} {n : Int} (h : n.toNat < l.length) : gi l n ∈ l := by rw [gi_eq h]; exact List.getElem_mem h
theorem hd1_R {α : Type} {f : LV → Option α} {l : List LV} {d : α} {ys : List Value} (h : hd1 f l = some d) (hr : RL β Z w l ys) : ∃ x y, f x = some d ∧ ys = [y] ∧ R β Z w x y := by
 unfold hd1 at h
 split at h
 ·rename_i x
  simp only [RL] at hr
  obtain ⟨y, zs, rfl, h3, rfl⟩ := hr
  exact ⟨x, y, h, rfl, h3⟩
 ·cases h
theorem RL.one {x : LV} {y : Value} (h : R β Z w x y) : RL β Z w [x] [y] := by simp only [RL]; exact ⟨y, [], rfl, h, rfl⟩
theorem decL_enc : ∀ (t : Ty) (cs : List LV) (d : t.D) (ys : List Value), decL t cs = some d → RL β Z w cs ys → RL β Z w (encL t d) ys
 | .int k, cs, d, ys, h, hr => by
  simp only [decL] at h
  obtain ⟨x, y, h1, rfl, h3⟩ := hd1_R h hr
  unfold decI at h1
  split at h1
  ·split at h1
   ·rename_i hk; simp only [Option.some.injEq] at h1; subst h1 hk; exact RL.one h3
   ·cases h1
  ·split at h1
   ·rename_i hk; simp only [Option.some.injEq] at h1; subst h1 hk; exact RL.one (by simp only [R] at *; exact h3)
   ·cases h1
  ·cases h1
 | .bool, cs, d, ys, h, hr => by
  simp only [decL] at h
  obtain ⟨x, y, h1, rfl, h3⟩ := hd1_R h hr
  unfold decB at h1
  split at h1
  ·simp only [Option.some.injEq] at h1; subst h1; exact RL.one h3
  ·simp only [Option.some.injEq] at h1; subst h1; exact RL.one (by simp only [R] at *; exact h3)
  ·cases h1
 | .str, cs, d, ys, h, hr => by
  simp only [decL] at h
  obtain ⟨x, y, h1, rfl, h3⟩ := hd1_R h hr
  unfold decS at h1
  split at h1
  ·simp only [Option.some.injEq] at h1; subst h1; exact RL.one h3
  ·cases h1
 | .sl e, cs, d, ys, h, hr => by
  simp only [decL] at h
  obtain ⟨x, y, h1, rfl, h3⟩ := hd1_R h hr
  exact RL.one (decX_R h1 h3)
 | .pair a b, cs, d, ys, h, hr => by
  simp only [decL] at h
  split at h
  ·rename_i x y h1 h2
   simp only [Option.some.injEq] at h
   subst h
   have e1 := decL_enc a _ x _ h1 (hr.take a.n)
   have e2 := decL_enc b _ y _ h2 (hr.drop a.n)
   simp only [encL]
   rw [← List.take_append_drop a.n ys]
   exact e1.app e2
  ·cases h
def upV (P : Program) (t : TypeId) (x : LV) : LV :=
 match tyOf P 8 t, aggT P t with
 | some ty, some true => match x with
  | .v (.agg ys) => (match decL ty (ys.toList.map .v) with
   | some d => mkAgg (encL ty d)
   | none => x)
  | .agg l => (match decL ty l with
   | some d => mkAgg (encL ty d)
   | none => x)
  | _ => x
 | some ty, some false => (match decL ty [x] with
  | some d => (match encL ty d with
   | [c] => c
   | _ => x)
  | none => x)
 | _, _ => x
def upL (P : Program) : List TypeId → List LV → List LV
 | t :: ts, x :: xs => upV P t x :: upL P ts xs
 | _, xs => xs
def upR (P : Program) (ts : List TypeId) (x : LV) : LV :=
 match ts with
 | [t] => upV P t x
 | ts => match x with
  | .v (.tuple ys) => mkTup (upL P ts (ys.toList.map .v))
  | .tup l => mkTup (upL P ts l)
  | x => x
theorem RL.plain : ∀ (ys : List Value), RL β Z w (ys.map .v) ys
 | [] => by simp [RL]
 | y :: ys => by simp only [List.map_cons, RL]; exact ⟨y, ys, rfl, by simp only [R], RL.plain ys⟩
theorem okL_plain : ∀ (ys : List Value), okL n (ys.map .v)
 | [] => trivial
 | _ :: ys => ⟨trivial, okL_plain ys⟩
theorem upV_R {t : TypeId} {x : LV} {y : Value} (h : R β Z w x y) : R β Z w (upV P t x) y := by
 unfold upV
 split
 ·split
  ·split
   ·rename_i d hd
    simp only [R] at h
    subst h
    exact mkAgg_R (decL_enc _ _ d _ hd (RL.plain _))
   ·exact h
  ·split
   ·rename_i d hd
    simp only [R] at h
    obtain ⟨ys, rfl, h2⟩ := h
    exact mkAgg_R (decL_enc _ _ d _ hd h2)
   ·exact h
  ·exact h
 ·split
  ·rename_i d hd
   split
   ·rename_i c hc
    have := decL_enc _ _ d _ hd (RL.one h)
    rw [hc] at this
    simp only [RL] at this
    obtain ⟨y', zs, e1, e2, e3⟩ := this
    simp only [List.cons.injEq] at e1
    rw [e1.1]; exact e2
   ·exact h
  ·exact h
 ·exact h
theorem upV_ok {t : TypeId} {x : LV} (h : okV n x) : okV n (upV P t x) := by
 unfold upV
 split
 ·split
  ·split
   ·exact mkAgg_ok (encL_ok _ _ _)
   ·exact h
  ·split
   ·exact mkAgg_ok (encL_ok _ _ _)
   ·exact h
  ·exact h
 ·split
  ·rename_i d hd
   split
   ·rename_i c hc
    have := encL_ok n _ d
    rw [hc] at this
    exact this.1
   ·exact h
  ·exact h
 ·exact h
theorem upL_R : ∀ {ts : List TypeId} {l : List LV} {ys : List Value}, RL β Z w l ys → RL β Z w (upL P ts l) ys
 | [], l, ys, h => by simpa only [upL] using h
 | _ :: _, [], ys, h => by simpa only [upL] using h
 | t :: ts, x :: xs, ys, h => by
  simp only [upL, RL] at h ⊢
  obtain ⟨y, zs, h1, h2, h3⟩ := h
  exact ⟨y, zs, h1, upV_R h2, upL_R h3⟩
theorem upL_ok : ∀ {ts : List TypeId} {l : List LV}, okL n l → okL n (upL P ts l)
 | [], l, h => by simpa only [upL] using h
 | _ :: _, [], h => by simpa only [upL] using h
 | t :: ts, x :: xs, h => by
  simp only [upL, okL] at h ⊢
  exact ⟨upV_ok h.1, upL_ok h.2⟩
theorem upR_R {ts : List TypeId} {x : LV} {y : Value} (h : R β Z w x y) : R β Z w (upR P ts x) y := by
 unfold upR
 split
 ·exact upV_R h
 ·split
  ·simp only [R] at h
   subst h
   exact mkTup_R (upL_R (RL.plain _))
  ·simp only [R] at h
   obtain ⟨ys, rfl, h2⟩ := h
   exact mkTup_R (upL_R h2)
  ·exact h
theorem upR_ok {ts : List TypeId} {x : LV} (h : okV n x) : okV n (upR P ts x) := by
 unfold upR
 split
 ·exact upV_ok h
 ·split
  ·exact mkTup_ok (upL_ok (okL_plain _))
  ·exact mkTup_ok (upL_ok (by simpa only [okV] using h))
  ·exact h
def upS (P : Program) (ts : List TypeId) (S : List LV → T LV) : List LV → T LV := fun l => S (upL P ts l)
theorem Valid.up {f : FuncId} {S : List LV → T LV} (h : Valid P G f S) (ts : List TypeId) : Valid P G f (upS P ts S) := by
 intro args vals w Z lv hz hg hok hr hs
 exact h (upL P ts args) vals w Z lv hz hg (upL_ok hok) (upL_R hr) hs
/- A pointer to cells that are only read, told by the cells. -/
mutual
def canX : LV → LV
 | .xq n f => .xq n (fun j => ((List.range n).map f).getD j .junk)
 | .fn f l => .fn f (canL l)
 | x => x
def canL : List LV → List LV
 | [] => []
 | x :: xs => canX x :: canL xs
end
mutual
theorem canX_R : ∀ {x : LV} {y : Value}, R β Z w x y → R β Z w (canX x) y
 | .xq n f, y, h => by
  simp only [canX, R] at h ⊢
  obtain ⟨b, off, h1, hz, h2⟩ := h
  refine ⟨b, off, h1, hz, fun j hj => ?_⟩
  have e : ((List.range n).map f).getD j .junk = f j := by simp [List.getD, hj]
  rw [e]
  exact h2 j hj
 | .fn f l, y, h => by
  simp only [canX, R] at h ⊢
  obtain ⟨ys, h1, h2⟩ := h
  exact ⟨ys, h1, canL_R h2⟩
 | .v _, _, h => h
 | .bl _, _, h => h
 | .ki _ _, _, h => h
 | .own _ _, _, h => h
 | .agg _, _, h => h
 | .tup _, _, h => h
 | .xl _ _, _, h => h
 | .os .., _, h => h
 | .op .., _, h => h
 | .om _, _, h => h
 | .mp .., _, h => h
 | .oc .., _, h => h
 | .yld _, _, h => h
 | .junk, _, h => h
theorem canL_R : ∀ {l : List LV} {ys : List Value}, RL β Z w l ys → RL β Z w (canL l) ys
 | [], ys, h => by simpa only [canL, RL] using h
 | x :: xs, ys, h => by
  simp only [canL, RL] at h ⊢
  obtain ⟨y, zs, h1, h2, h3⟩ := h
  exact ⟨y, zs, h1, canX_R h2, canL_R h3⟩
end
mutual
theorem canX_ok : ∀ {x : LV}, okV n x → okV n (canX x)
 | .xq m f, h => by
  simp only [canX, okV] at h ⊢
  intro j
  by_cases hj : j < m
  ·have e : ((List.range m).map f).getD j .junk = f j := by simp [List.getD, hj]
   rw [e]; exact h j
  ·have e : ((List.range m).map f).getD j .junk = .junk := by simp [List.getD, hj]
   rw [e]; trivial
 | .fn f l, h => by
  simp only [canX, okV] at h ⊢
  exact canL_ok h
 | .v _, h => h
 | .bl _, h => h
 | .ki _ _, h => h
 | .own _ _, h => h
 | .agg _, h => h
 | .tup _, h => h
 | .xl _ _, h => h
 | .os .., h => h
 | .op .., h => h
 | .om _, h => h
 | .mp .., h => h
 | .oc .., h => h
 | .yld _, h => h
 | .junk, h => h
theorem canL_ok : ∀ {l : List LV}, okL n l → okL n (canL l)
 | [], h => h
 | x :: xs, h => by
  simp only [canL, okL] at h ⊢
  exact ⟨canX_ok h.1, canL_ok h.2⟩
end
def funu (P : Program) (G : Globs) (Γ : Specs) (K : Hand) (L : Loops) (fn : Func) (args : List LV) : T LV := (funx P G Γ K L fn args).bind fun x => .ok (canX (upR P fn.resultTypes.toList x))
theorem valid_ofu {f : FuncId} {fn : Func} {c : Code} {S : List LV → T LV} (hfn : P.funcs[f]? = some fn) (hc : fn.body = some c) (hΓ : ∀ g S, Γ g = some S → Valid P G g S) (hK : KSound P G K)
  (hL : ∀ b ∈ loopsIn c, Sound P G (.loop b) (L (firstR b))) (hS : ∀ args lv, (S args).all (fun x => x = lv) → (funu P G Γ K L fn (canL args)).all (fun x => x = lv)) : Valid P G f (upS P fn.params.toList S) := by
 refine Valid.up ?_ _
 have h0 : Valid P G f (fun l => funx P G Γ K L fn l) := valid_of hfn hc hΓ hK hL (fun _ _ h => h)
 intro args vals w Z lv hz hg hok hr hs
 have hs := hS args lv hs
 unfold funu at hs
 obtain ⟨x, h1, h2⟩ := T.bind_all hs
 simp only [T.all] at h2
 subst h2
 exact Calls.mono (h0 (canL args) vals w Z x hz hg (canL_ok hok) (canL_R hr) h1) (fun e w' ⟨e1, v, e2, e3, e4⟩ => ⟨e1, v, e2, canX_ok (upR_ok e3), canX_R (upR_R e4)⟩)
def T.red {α : Type} : T α → T α
 | .br true t _ => T.red t
 | .br false _ e => T.red e
 | .req p t => .req p (T.red t)
 | t => t
theorem T.all_red {α : Type} {K : α → Prop} : ∀ {t : T α}, t.red.all K → t.all K
 | .ok _, h => h
 | .br true t e, h => ⟨fun _ => T.all_red h, fun hb => by cases hb⟩
 | .br false t e, h => ⟨fun hb => (by cases hb), fun _ => T.all_red h⟩
 | .req p t, h => ⟨h.1, T.all_red h.2⟩
 | .no, h => h
end Go.Sx
