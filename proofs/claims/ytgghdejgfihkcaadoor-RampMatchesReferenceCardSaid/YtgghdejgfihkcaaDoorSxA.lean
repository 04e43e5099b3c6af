/- An executor over logical values: the values, their relation to the machine's values, outcomes. -/
import Derived.Test.YtgghdejgfihkcaaDoorCalm
namespace Go.Sx
open Go Go.RowKit

/-- Logical values. v: a plain value. bl: a bool that is known. own: a pointer into a block that the call itself made. agg, tup, fn: with such pointers inside. xq: a pointer to memory that is only read: n cells that hold f 0, f 1 ... xs: a slice that is only read: n elements of es cells. junk: whatever. -/
inductive LV where
  | v (x : Value)
  | bl (b : Bool)
  | own (k off : Nat)
  | agg (l : List LV)
  | tup (l : List LV)
  | fn (f : FuncId) (cap : List LV)
  | xq (n : Nat) (f : Nat → LV)
  | xs (n es : Nat) (f : Nat → Nat → LV)
  | junk

mutual
def R (β : Nat → Nat) (Z : Nat → Prop) (w : World) : LV → Value → Prop
  | .v x, y => y = x
  | .bl b, y => y = .bool b
  | .own k off, y => y = .pointer (some ⟨β k, off, none⟩)
  | .agg l, y => ∃ ys, y = .agg ys ∧ RL β Z w l ys.toList
  | .tup l, y => ∃ ys, y = .tuple ys ∧ RL β Z w l ys.toList
  | .fn f cap, y => ∃ ys, y = .func (.func f) #[] ys ∧ RL β Z w cap ys.toList
  | .xq n f, y => ∃ b off, y = .pointer (some ⟨b, off, none⟩) ∧ Z b ∧ ∀ j, j < n → ∃ z, w.cell? ⟨b, off + j, none⟩ = some z ∧ R β Z w (f j) z
  | .xs n es f, y => ∃ a cap, y = .slice a n cap ∧ (0 < n → ∃ b off, a = some ⟨b, off, none⟩ ∧ Z b ∧ ∀ i, i < n → ∀ j, j < es → ∃ z, w.cell? ⟨b, off + i * es + j, none⟩ = some z ∧ R β Z w (f i j) z)
  | .junk, _ => True
def RL (β : Nat → Nat) (Z : Nat → Prop) (w : World) : List LV → List Value → Prop
  | [], ys => ys = []
  | x :: xs, ys => ∃ y zs, ys = y :: zs ∧ R β Z w x y ∧ RL β Z w xs zs
end

/- Which own blocks a value names: all below n. -/
mutual
def okV (n : Nat) : LV → Prop
  | .v _ => True
  | .bl _ => True
  | .own k _ => k < n
  | .agg l => okL n l
  | .tup l => okL n l
  | .fn _ cap => okL n cap
  | .xq _ f => ∀ j, okV 0 (f j)
  | .xs _ _ f => ∀ i j, okV 0 (f i j)
  | .junk => True
def okL (n : Nat) : List LV → Prop
  | [] => True
  | x :: xs => okV n x ∧ okL n xs
end

mutual
theorem okV.mono {n m : Nat} (h : n ≤ m) : ∀ (x : LV), okV n x → okV m x
  | .v _, _ => trivial
  | .bl _, _ => trivial
  | .own k _, hk => by simp only [okV] at *; omega
  | .agg l, hk => by simp only [okV] at *; exact okL.mono h l hk
  | .tup l, hk => by simp only [okV] at *; exact okL.mono h l hk
  | .fn _ l, hk => by simp only [okV] at *; exact okL.mono h l hk
  | .xq _ f, hk => by simp only [okV] at *; exact hk
  | .xs _ _ f, hk => by simp only [okV] at *; exact hk
  | .junk, _ => trivial
theorem okL.mono {n m : Nat} (h : n ≤ m) : ∀ (x : List LV), okL n x → okL m x
  | [], _ => trivial
  | x :: xs, hk => by simp only [okL] at *; exact ⟨okV.mono h x hk.1, okL.mono h xs hk.2⟩
end

mutual
theorem R.mono {β β' : Nat → Nat} {Z Z' : Nat → Prop} {w w' : World} {n : Nat} (hβ : ∀ k, k < n → β' k = β k) (hZ : ∀ b, Z b → Z' b) (hw : ∀ b o v, Z b → w.cell? ⟨b, o, none⟩ = some v → w'.cell? ⟨b, o, none⟩ = some v) :
    ∀ (x : LV) (y : Value), okV n x → R β Z w x y → R β' Z' w' x y
  | .v _, _, _, h => h
  | .bl _, _, _, h => h
  | .own k off, y, hk, h => by simp only [R, okV] at *; rw [h, hβ k hk]
  | .agg l, y, hk, h => by
    simp only [R, okV] at *
    obtain ⟨ys, h1, h2⟩ := h
    exact ⟨ys, h1, RL.mono hβ hZ hw l _ hk h2⟩
  | .tup l, y, hk, h => by
    simp only [R, okV] at *
    obtain ⟨ys, h1, h2⟩ := h
    exact ⟨ys, h1, RL.mono hβ hZ hw l _ hk h2⟩
  | .fn f l, y, hk, h => by
    simp only [R, okV] at *
    obtain ⟨ys, h1, h2⟩ := h
    exact ⟨ys, h1, RL.mono hβ hZ hw l _ hk h2⟩
  | .xq n f, y, hk, h => by
    simp only [R, okV] at *
    obtain ⟨b, off, h1, hz, h2⟩ := h
    refine ⟨b, off, h1, hZ b hz, fun j hj => ?_⟩
    obtain ⟨z, h3, h4⟩ := h2 j hj
    exact ⟨z, hw _ _ _ hz h3, R.mono hβ hZ hw (f j) z (okV.mono (Nat.zero_le _) _ (hk j)) h4⟩
  | .xs n es f, y, hk, h => by
    simp only [R, okV] at *
    obtain ⟨a, cap, h1, h2⟩ := h
    refine ⟨a, cap, h1, fun hn => ?_⟩
    obtain ⟨b, off, h3, hz, h4⟩ := h2 hn
    refine ⟨b, off, h3, hZ b hz, fun i hi j hj => ?_⟩
    obtain ⟨z, h5, h6⟩ := h4 i hi j hj
    exact ⟨z, hw _ _ _ hz h5, R.mono hβ hZ hw (f i j) z (okV.mono (Nat.zero_le _) _ (hk i j)) h6⟩
  | .junk, _, _, _ => by simp only [R]
theorem RL.mono {β β' : Nat → Nat} {Z Z' : Nat → Prop} {w w' : World} {n : Nat} (hβ : ∀ k, k < n → β' k = β k) (hZ : ∀ b, Z b → Z' b) (hw : ∀ b o v, Z b → w.cell? ⟨b, o, none⟩ = some v → w'.cell? ⟨b, o, none⟩ = some v) :
    ∀ (x : List LV) (y : List Value), okL n x → RL β Z w x y → RL β' Z' w' x y
  | [], _, _, h => by simpa only [RL] using h
  | x :: xs, ys, hk, h => by
    simp only [RL, okL] at *
    obtain ⟨y, zs, h1, h2, h3⟩ := h
    exact ⟨y, zs, h1, R.mono hβ hZ hw x y hk.1 h2, RL.mono hβ hZ hw xs zs hk.2 h3⟩
end

theorem RL.length {β : Nat → Nat} {Z : Nat → Prop} {w : World} : ∀ {l : List LV} {ys : List Value}, RL β Z w l ys → ys.length = l.length
  | [], ys, h => by simp only [RL] at h; simp [h]
  | x :: xs, ys, h => by
    simp only [RL] at h
    obtain ⟨y, zs, rfl, _, h3⟩ := h
    simp [RL.length h3]
theorem RL.get {β : Nat → Nat} {Z : Nat → Prop} {w : World} : ∀ {l : List LV} {ys : List Value} (i : Nat) (x : LV), RL β Z w l ys → l[i]? = some x → ∃ y, ys[i]? = some y ∧ R β Z w x y
  | [], ys, i, x, _, hx => by simp at hx
  | x0 :: xs, ys, i, x, h, hx => by
    simp only [RL] at h
    obtain ⟨y, zs, rfl, h2, h3⟩ := h
    cases i with
    | zero => simp at hx; subst hx; exact ⟨y, by simp, h2⟩
    | succ i => simp at hx; obtain ⟨y', h4, h5⟩ := RL.get i x h3 hx; exact ⟨y', by simpa using h4, h5⟩
theorem okL.get {n : Nat} : ∀ {l : List LV} (i : Nat) (x : LV), okL n l → l[i]? = some x → okV n x
  | [], i, x, _, hx => by simp at hx
  | x0 :: xs, i, x, h, hx => by
    simp only [okL] at h
    cases i with
    | zero => simp at hx; subst hx; exact h.1
    | succ i => simp at hx; exact okL.get i x h.2 hx
theorem RL.of_get {β : Nat → Nat} {Z : Nat → Prop} {w : World} : ∀ {l : List LV} {ys : List Value}, ys.length = l.length → (∀ (i : Nat) (x : LV), l[i]? = some x → ∃ y, ys[i]? = some y ∧ R β Z w x y) → RL β Z w l ys
  | [], ys, hl, _ => by simp only [RL]; exact List.length_eq_zero_iff.1 hl
  | x :: xs, [], hl, _ => by simp at hl
  | x :: xs, y :: ys, hl, h => by
    simp only [RL]
    refine ⟨y, ys, rfl, ?_, RL.of_get (by simpa using hl) fun i x' hx => ?_⟩
    · obtain ⟨y', h1, h2⟩ := h 0 x (by simp); simp at h1; subst h1; exact h2
    · obtain ⟨y', h1, h2⟩ := h (i + 1) x' (by simpa using hx); exact ⟨y', by simpa using h1, h2⟩
theorem okL.of_get {n : Nat} : ∀ {l : List LV}, (∀ (i : Nat) (x : LV), l[i]? = some x → okV n x) → okL n l
  | [], _ => trivial
  | x :: xs, h => by simp only [okL]; exact ⟨h 0 x (by simp), okL.of_get fun i x' hx => h (i + 1) x' (by simpa using hx)⟩

/-- Outcomes. -/
inductive T (α : Type) where
  | ok (x : α)
  | br (b : Bool) (t e : T α)
  | req (p : Prop) (t : T α)
  | no
def T.bind {α β : Type} (k : α → T β) : T α → T β
  | .ok x => k x
  | .br b t e => .br b (t.bind k) (e.bind k)
  | .req p t => .req p (t.bind k)
  | .no => .no
def T.all {α : Type} (K : α → Prop) : T α → Prop
  | .ok x => K x
  | .br b t e => (b = true → t.all K) ∧ (b = false → e.all K)
  | .req p t => p ∧ t.all K
  | .no => False
theorem T.all_bind {α β : Type} {k : α → T β} {K : β → Prop} : ∀ {t : T α}, (t.bind k).all K ↔ t.all (fun x => (k x).all K)
  | .ok _ => Iff.rfl
  | .br b t e => by simp only [T.bind, T.all]; rw [T.all_bind, T.all_bind]
  | .req p t => by simp only [T.bind, T.all]; rw [T.all_bind]
  | .no => Iff.rfl
theorem T.all_mono {α : Type} {K K' : α → Prop} (h : ∀ x, K x → K' x) : ∀ {t : T α}, t.all K → t.all K'
  | .ok _, hh => h _ hh
  | .br b t e, hh => ⟨fun hb => T.all_mono h (hh.1 hb), fun hb => T.all_mono h (hh.2 hb)⟩
  | .req p t, hh => ⟨hh.1, T.all_mono h hh.2⟩
  | .no, hh => hh

/-- What an operation gives without looking at memory. -/
def pureRun {α : Type} (P : Program) : Sem α → Option α
  | .pure a => some a
  | .program k => pureRun P (k P)
  | .mark _ k => pureRun P k
  | _ => none
theorem pureRun_run {α : Type} {P : Program} (w : World) : ∀ {s : Sem α} {a : α}, pureRun P s = some a → s.run P w = .ok a w
  | .pure _, _, h => by simp only [pureRun, Option.some.injEq] at h; subst h; rfl
  | .program k, _, h => by simp only [pureRun] at h; exact pureRun_run w (s := k P) h
  | .mark _ k, _, h => by simp only [pureRun] at h; exact pureRun_run w (s := k) h
  | .load .., _, h | .store .., _, h | .new .., _, h | .shape .., _, h | .freeze .., _, h | .frozen .., _, h | .getObj .., _, h | .setObj .., _, h | .choose .., _, h | .sys .., _, h | .halt .., _, h => by simp [pureRun] at h
end Go.Sx
