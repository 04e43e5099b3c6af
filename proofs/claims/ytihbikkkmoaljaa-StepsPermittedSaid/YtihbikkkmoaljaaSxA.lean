/- An executor over logical values: the values, their relation to the machine's values, outcomes. -/
import Derived.Test.YtihbikkkmoaljaaCalm
namespace Go.Sx
open Go Go.RowKit
inductive Ty where
 | int (k : IntKind)
 | bool
 | str
 | sl (e : Ty)
 | pair (a b : Ty)
abbrev Ty.D : Ty → Type
 | .int _ => Int
 | .bool => Bool
 | .str => ByteArray
 | .sl e => List e.D
 | .pair a b => a.D × b.D
def Ty.n : Ty → Nat
 | .pair a b => a.n + b.n
 | _ => 1
def Ty.dflt : (t : Ty) → t.D
 | .int _ => (0 : Int)
 | .bool => false
 | .str => ByteArray.empty
 | .sl _ => []
 | .pair a b => (a.dflt, b.dflt)
abbrev gx {e : Ty} (l : List e.D) (n : Int) : e.D := l.getD n.toNat e.dflt
def RD (Z : Nat → Prop) (w : World) : (t : Ty) → t.D → Nat → Nat → Prop
 | .int k, n, b, o => w.cell? ⟨b, o, none⟩ = some (.int k n)
 | .bool, x, b, o => w.cell? ⟨b, o, none⟩ = some (.bool x)
 | .str, s, b, o => w.cell? ⟨b, o, none⟩ = some (.string s)
 | .sl e, l, b, o => ∃ a cap, w.cell? ⟨b, o, none⟩ = some (.slice a (List.length l) cap) ∧ List.length l ≤ cap ∧ (0 < List.length l → ∃ b' o', a = some ⟨b', o', none⟩ ∧ Z b' ∧ ∀ (i : Nat) (d : e.D), l[i]? = some d → RD Z w e d b' (o' + i * e.n))
 | .pair x y, d, b, o => RD Z w x d.1 b o ∧ RD Z w y d.2 b (o + x.n)
theorem cell_block {w w' : World} {b o : Nat} (h : w'.heap[b]? = w.heap[b]?) : w'.cell? ⟨b, o, none⟩ = w.cell? ⟨b, o, none⟩ := World.cell?_of_block (w := w) (w' := w') h
theorem RD.keep {Z Z' : Nat → Prop} {w w' : World} (hZ : ∀ b, Z b → Z' b) (hw : ∀ b, Z b → w'.heap[b]? = w.heap[b]?) :
  ∀ (t : Ty) (d : t.D) (b o : Nat), w'.heap[b]? = w.heap[b]? → RD Z w t d b o → RD Z' w' t d b o
 | .int _, _, b, o, hb, h => by simp only [RD] at *; rw [cell_block hb]; exact h
 | .bool, _, b, o, hb, h => by simp only [RD] at *; rw [cell_block hb]; exact h
 | .str, _, b, o, hb, h => by simp only [RD] at *; rw [cell_block hb]; exact h
 | .sl e, l, b, o, hb, h => by
  simp only [RD] at *
  obtain ⟨a, cap, h1, h2, h3⟩ := h
  refine ⟨a, cap, by rw [cell_block hb]; exact h1, h2, fun hn => ?_⟩
  obtain ⟨b', o', h4, h5, h6⟩ := h3 hn
  exact ⟨b', o', h4, hZ _ h5, fun i d hd => RD.keep hZ hw e d b' _ (hw b' h5) (h6 i d hd)⟩
 | .pair x y, d, b, o, hb, h => by
  simp only [RD] at *
  exact ⟨RD.keep hZ hw x d.1 b o hb h.1, RD.keep hZ hw y d.2 b _ hb h.2⟩
theorem RD.mono {Z Z' : Nat → Prop} {w w' : World} (hZ : ∀ b, Z b → Z' b) (hw : ∀ b, Z b → w'.heap[b]? = w.heap[b]?) (t : Ty) (d : t.D) (b o : Nat) (hz : Z b) (h : RD Z w t d b o) : RD Z' w' t d b o := RD.keep hZ hw t d b o (hw b hz) h
structure Loc where
 b : Nat
 o : Nat
 cap : Option Nat
instance : Inhabited Loc := ⟨⟨0, 0, none⟩⟩
inductive LV where
 | v (x : Value)
 | bl (b : Bool)
 | ki (k : IntKind) (n : Int)
 | own (k off : Nat)
 | agg (l : List LV)
 | tup (l : List LV)
 | fn (f : FuncId) (cap : List LV)
 | xq (n : Nat) (f : Nat → LV)
 | xl (e : Ty) (l : List e.D)
 | os (k es off n : Nat)
 | op (k es i j : Nat)
 | om (k : Nat)
 | mp (kd : IntKind) (ks : List Int) (vs : List LV)
 | oc (k es off n c : Nat)
 | yld (k : Nat)
 | junk
mutual
def R (β : Nat → Loc) (Z : Nat → Prop) (w : World) : LV → Value → Prop
 | .v x, y => y = x
 | .bl b, y => y = .bool b
 | .ki k n, y => y = .int k n
 | .own k off, y => y = .pointer (some ⟨(β k).b, off, none⟩)
 | .agg l, y => ∃ ys, y = .agg ys ∧ RL β Z w l ys.toList
 | .tup l, y => ∃ ys, y = .tuple ys ∧ RL β Z w l ys.toList
 | .fn f cap, y => ∃ ys, y = .func (.func f) #[] ys ∧ RL β Z w cap ys.toList
 | .xq n f, y => ∃ b off, y = .pointer (some ⟨b, off, none⟩) ∧ Z b ∧ ∀ j, j < n → ∃ z, w.cell? ⟨b, off + j, none⟩ = some z ∧ R β Z w (f j) z
 | .xl e l, y => ∃ a cap, y = .slice a (List.length l) cap ∧ List.length l ≤ cap ∧ (0 < List.length l → ∃ b off, a = some ⟨b, off, none⟩ ∧ Z b ∧ ∀ (i : Nat) (d : e.D), l[i]? = some d → RD Z w e d b (off + i * e.n))
 | .os k es off n, y => match (β k).cap with
  | none => n = 0 ∧ off = 0 ∧ y = .slice none 0 0
  | some c => off + n ≤ c ∧ ∃ a, y = .slice (some a) n (c - off) ∧ (0 < c - off → a = ⟨(β k).b, (β k).o + off * es, none⟩)
 | .op k es i j, y => (β k).cap ≠ none ∧ y = .pointer (some ⟨(β k).b, (β k).o + i * es + j, none⟩)
 | .om k, y => y = .map (some (β k).b)
 | .mp kd ks vs, y => ∃ r es clock, y = .map (some r) ∧ Z r ∧ w.heap[r]? = some (.map es clock) ∧ es.toList.map (·.key) = ks.map (.int kd) ∧ RL β Z w vs (es.toList.map (·.val))
 | .oc k es off n c, y => off + n ≤ c ∧ ∃ a, y = .slice (some a) n (c - off) ∧ (0 < c - off → a = ⟨(β k).b, off * es, none⟩)
 | .yld k, y => y = .func (.yield (β k).b) #[] #[]
 | .junk, _ => True
def RL (β : Nat → Loc) (Z : Nat → Prop) (w : World) : List LV → List Value → Prop
 | [], ys => ys = []
 | x :: xs, ys => ∃ y zs, ys = y :: zs ∧ R β Z w x y ∧ RL β Z w xs zs
end
/- Which own blocks a value names: all below n. -/
mutual
def okV (n : Nat) : LV → Prop
 | .v _ => True
 | .bl _ => True
 | .ki _ _ => True
 | .own k _ => k < n
 | .agg l => okL n l
 | .tup l => okL n l
 | .fn _ cap => okL n cap
 | .xq _ f => ∀ j, okV 0 (f j)
 | .xl _ _ => True
 | .os k _ _ _ => k < n
 | .op k _ _ _ => k < n
 | .om k => k < n
 | .mp _ _ vs => okL n vs
 | .oc k _ _ _ _ => k < n
 | .yld k => k < n
 | .junk => True
def okL (n : Nat) : List LV → Prop
 | [] => True
 | x :: xs => okV n x ∧ okL n xs
end
mutual
theorem okV.mono {n m : Nat} (h : n ≤ m) : ∀ (x : LV), okV n x → okV m x
 | .v _, _ => trivial
 | .bl _, _ => trivial
 | .ki _ _, _ => trivial
 | .own k _, hk => by simp only [okV] at *; omega
 | .agg l, hk => by simp only [okV] at *; exact okL.mono h l hk
 | .tup l, hk => by simp only [okV] at *; exact okL.mono h l hk
 | .fn _ l, hk => by simp only [okV] at *; exact okL.mono h l hk
 | .xq _ f, hk => by simp only [okV] at *; exact hk
 | .xl _ _, _ => trivial
 | .os k _ _ _, hk => by simp only [okV] at *; omega
 | .op k _ _ _, hk => by simp only [okV] at *; omega
 | .om k, hk => by simp only [okV] at *; omega
 | .mp _ _ vs, hk => by simp only [okV] at *; exact okL.mono h vs hk
 | .oc k _ _ _ _, hk => by simp only [okV] at *; omega
 | .yld k, hk => by simp only [okV] at *; omega
 | .junk, _ => trivial
theorem okL.mono {n m : Nat} (h : n ≤ m) : ∀ (x : List LV), okL n x → okL m x
 | [], _ => trivial
 | x :: xs, hk => by simp only [okL] at *; exact ⟨okV.mono h x hk.1, okL.mono h xs hk.2⟩
end
mutual
theorem R.mono {β β' : Nat → Loc} {Z Z' : Nat → Prop} {w w' : World} {n : Nat} (hβ : ∀ k, k < n → β' k = β k) (hZ : ∀ b, Z b → Z' b) (hw : ∀ b, Z b → w'.heap[b]? = w.heap[b]?) :
  ∀ (x : LV) (y : Value), okV n x → R β Z w x y → R β' Z' w' x y
 | .v _, _, _, h => h
 | .bl _, _, _, h => h
 | .ki _ _, _, _, h => h
 | .own k off, y, hk, h => by simp only [R, okV] at *; rw [h, hβ k hk]
 | .agg l, y, hk, h => by
  simp only [R, okV] at *
  obtain ⟨ys, h1, h2⟩ := h
  exact ⟨ys, h1, RL.mono hβ hZ hw l _ hk h2⟩
 | .tup l, y, hk, h => by
  simp only [R, okV] at *
  obtain ⟨ys, h1, h2⟩ := h
  exact ⟨ys, h1, RL.mono hβ hZ hw l _ hk h2⟩
 | .fn f l, y, hk, h => by
  simp only [R, okV] at *
  obtain ⟨ys, h1, h2⟩ := h
  exact ⟨ys, h1, RL.mono hβ hZ hw l _ hk h2⟩
 | .xq n f, y, hk, h => by
  simp only [R, okV] at *
  obtain ⟨b, off, h1, hz, h2⟩ := h
  refine ⟨b, off, h1, hZ b hz, fun j hj => ?_⟩
  obtain ⟨z, h3, h4⟩ := h2 j hj
  exact ⟨z, by rw [cell_block (hw b hz)]; exact h3, R.mono hβ hZ hw (f j) z (okV.mono (Nat.zero_le _) _ (hk j)) h4⟩
 | .xl e l, y, hk, h => by
  simp only [R] at *
  obtain ⟨a, cap, h1, h2, h3⟩ := h
  refine ⟨a, cap, h1, h2, fun hn => ?_⟩
  obtain ⟨b, off, h4, h5, h6⟩ := h3 hn
  exact ⟨b, off, h4, hZ b h5, fun i d hd => RD.mono hZ hw e d b _ h5 (h6 i d hd)⟩
 | .os k es off n, y, hk, h => by simp only [R, okV] at *; rw [hβ k hk]; exact h
 | .op k es i j, y, hk, h => by simp only [R, okV] at *; rw [hβ k hk]; exact h
 | .om k, y, hk, h => by simp only [R, okV] at *; rw [hβ k hk]; exact h
 | .mp kd ks vs, y, hk, h => by
  simp only [R, okV] at *
  obtain ⟨r, es, clock, h1, h2, h3, h4, h5⟩ := h
  exact ⟨r, es, clock, h1, hZ r h2, by rw [hw r h2]; exact h3, h4, RL.mono hβ hZ hw vs _ hk h5⟩
 | .oc k es off n c, y, hk, h => by simp only [R, okV] at *; rw [hβ k hk]; exact h
 | .yld k, y, hk, h => by simp only [R, okV] at *; rw [hβ k hk]; exact h
 | .junk, _, _, _ => by simp only [R]
theorem RL.mono {β β' : Nat → Loc} {Z Z' : Nat → Prop} {w w' : World} {n : Nat} (hβ : ∀ k, k < n → β' k = β k) (hZ : ∀ b, Z b → Z' b) (hw : ∀ b, Z b → w'.heap[b]? = w.heap[b]?) :
  ∀ (x : List LV) (y : List Value), okL n x → RL β Z w x y → RL β' Z' w' x y
 | [], _, _, h => by simpa only [RL] using h
 | x :: xs, ys, hk, h => by
  simp only [RL, okL] at *
  obtain ⟨y, zs, h1, h2, h3⟩ := h
  exact ⟨y, zs, h1, R.mono hβ hZ hw x y hk.1 h2, RL.mono hβ hZ hw xs zs hk.2 h3⟩
end
def encL : (t : Ty) → t.D → List LV
 | .int k, n => [.v (.int k n)]
 | .bool, b => [.v (.bool b)]
 | .str, s => [.v (.string s)]
 | .sl e, l => [.xl e l]
 | .pair a b, d => encL a d.1 ++ encL b d.2
theorem encL_length : ∀ (t : Ty) (d : t.D), (encL t d).length = t.n
 | .int _, _ => rfl
 | .bool, _ => rfl
 | .str, _ => rfl
 | .sl _, _ => rfl
 | .pair a b, d => by simp only [encL, List.length_append, Ty.n, encL_length a d.1, encL_length b d.2]
theorem encL_ok (n : Nat) : ∀ (t : Ty) (d : t.D), okL n (encL t d)
 | .int _, _ => ⟨trivial, trivial⟩
 | .bool, _ => ⟨trivial, trivial⟩
 | .str, _ => ⟨trivial, trivial⟩
 | .sl _, _ => ⟨trivial, trivial⟩
 | .pair a b, d => by
  have app : ∀ (l1 l2 : List LV), okL n l1 → okL n l2 → okL n (l1 ++ l2) := by
   intro l1
   induction l1 with
   | nil => intro l2 _ h; exact h
   | cons x xs ih => intro l2 h1 h2; exact ⟨h1.1, ih l2 h1.2 h2⟩
  simp only [encL]
  exact app _ _ (encL_ok n a d.1) (encL_ok n b d.2)
theorem encL_R {β : Nat → Loc} {Z : Nat → Prop} {w : World} : ∀ (t : Ty) (d : t.D) (b o : Nat), RD Z w t d b o → ∀ (j : Nat) (x : LV), (encL t d)[j]? = some x → ∃ z, w.cell? ⟨b, o + j, none⟩ = some z ∧ R β Z w x z
 | .int k, n, b, o, h, j, x, hx => by
  simp only [encL] at hx
  cases j with
  | zero => simp at hx; subst hx; exact ⟨_, h, by simp only [R]⟩
  | succ j => simp at hx
 | .bool, n, b, o, h, j, x, hx => by
  simp only [encL] at hx
  cases j with
  | zero => simp at hx; subst hx; exact ⟨_, h, by simp only [R]⟩
  | succ j => simp at hx
 | .str, n, b, o, h, j, x, hx => by
  simp only [encL] at hx
  cases j with
  | zero => simp at hx; subst hx; exact ⟨_, h, by simp only [R]⟩
  | succ j => simp at hx
 | .sl e, l, b, o, h, j, x, hx => by
  simp only [encL] at hx
  cases j with
  | zero =>
   simp at hx; subst hx
   simp only [RD] at h
   obtain ⟨a, cap, h1, h2, h3⟩ := h
   exact ⟨_, h1, by simp only [R]; exact ⟨a, cap, rfl, h2, h3⟩⟩
  | succ j => simp at hx
 | .pair p q, d, b, o, h, j, x, hx => by
  simp only [encL] at hx
  simp only [RD] at h
  by_cases hj : j < p.n
  ·rw [List.getElem?_append_left (by rw [encL_length]; exact hj)] at hx
   exact encL_R p d.1 b o h.1 j x hx
  ·rw [List.getElem?_append_right (by rw [encL_length]; omega), encL_length] at hx
   obtain ⟨z, h1, h2⟩ := encL_R q d.2 b (o + p.n) h.2 (j - p.n) x hx
   exact ⟨z, by rw [show o + j = o + p.n + (j - p.n) by omega]; exact h1, h2⟩
theorem RL.length {β : Nat → Loc} {Z : Nat → Prop} {w : World} : ∀ {l : List LV} {ys : List Value}, RL β Z w l ys → ys.length = l.length
 | [], ys, h => by simp only [RL] at h; simp [h]
 | x :: xs, ys, h => by
  simp only [RL] at h
  obtain ⟨y, zs, rfl, _, h3⟩ := h
  simp [RL.length h3]
theorem RL.get {β : Nat → Loc} {Z : Nat → Prop} {w : World} : ∀ {l : List LV} {ys : List Value} (i : Nat) (x : LV), RL β Z w l ys → l[i]? = some x → ∃ y, ys[i]? = some y ∧ R β Z w x y
 | [], ys, i, x, _, hx => by simp at hx
 | x0 :: xs, ys, i, x, h, hx => by
  simp only [RL] at h
  obtain ⟨y, zs, rfl, h2, h3⟩ := h
  cases i with
  | zero => simp at hx; subst hx; exact ⟨y, by simp, h2⟩
  | succ i => simp at hx; obtain ⟨y', h4, h5⟩ := RL.get i x h3 hx; exact ⟨y', by simpa using h4, h5⟩
theorem okL.get {n : Nat} : ∀ {l : List LV} (i : Nat) (x : LV), okL n l → l[i]? = some x → okV n x
 | [], i, x, _, hx => by simp at hx
 | x0 :: xs, i, x, h, hx => by
  simp only [okL] at h
  cases i with
  | zero => simp at hx; subst hx; exact h.1
  | succ i => simp at hx; exact okL.get i x h.2 hx
theorem RL.of_get {β : Nat → Loc} {Z : Nat → Prop} {w : World} : ∀ {l : List LV} {ys : List Value}, ys.length = l.length → (∀ (i : Nat) (x : LV), l[i]? = some x → ∃ y, ys[i]? = some y ∧ R β Z w x y) → RL β Z w l ys
 | [], ys, hl, _ => by simp only [RL]; exact List.length_eq_zero_iff.1 hl
 | x :: xs, [], hl, _ => by simp at hl
 | x :: xs, y :: ys, hl, h => by
  simp only [RL]
  refine ⟨y, ys, rfl, ?_, RL.of_get (by simpa using hl) fun i x' hx => ?_⟩
  ·obtain ⟨y', h1, h2⟩ := h 0 x (by simp); simp at h1; subst h1; exact h2
  ·obtain ⟨y', h1, h2⟩ := h (i + 1) x' (by simpa using hx); exact ⟨y', by simpa using h1, h2⟩
theorem okL.of_get {n : Nat} : ∀ {l : List LV}, (∀ (i : Nat) (x : LV), l[i]? = some x → okV n x) → okL n l
 | [], _ => trivial
 | x :: xs, h => by simp only [okL]; exact ⟨h 0 x (by simp), okL.of_get fun i x' hx => h (i + 1) x' (by simpa using hx)⟩
inductive T (α : Type) where
 | ok (x : α)
 | br (b : Bool) (t e : T α)
 | req (p : Prop) (t : T α)
 | no
def T.rl {α β : Type} (l : List α) (t : T β) : T β := .req (0 = 0 ∧ List.length l = List.length l) t
def T.bind {α β : Type} (k : α → T β) : T α → T β
 | .ok x => k x
 | .br b t e => .br b (t.bind k) (e.bind k)
 | .req p t => .req p (t.bind k)
 | .no => .no
def T.all {α : Type} (K : α → Prop) : T α → Prop
 | .ok x => K x
 | .br b t e => (b = true → t.all K) ∧ (b = false → e.all K)
 | .req p t => p ∧ t.all K
 | .no => False
theorem T.all_bind {α β : Type} {k : α → T β} {K : β → Prop} : ∀ {t : T α}, (t.bind k).all K ↔ t.all (fun x => (k x).all K)
 | .ok _ => Iff.rfl
 | .br b t e => by simp only [T.bind, T.all]; rw [T.all_bind, T.all_bind]
 | .req p t => by simp only [T.bind, T.all]; rw [T.all_bind]
 | .no => Iff.rfl
theorem T.all_mono {α : Type} {K K' : α → Prop} (h : ∀ x, K x → K' x) : ∀ {t : T α}, t.all K → t.all K'
 | .ok _, hh => h _ hh
 | .br _ _ _, hh => ⟨fun hb => T.all_mono h (hh.1 hb), fun hb => T.all_mono h (hh.2 hb)⟩
 | .req _ _, hh => ⟨hh.1, T.all_mono h hh.2⟩
 | .no, hh => hh
def pureRun {α : Type} (P : Program) : Sem α → Option α
 | .pure a => some a
 | .program k => pureRun P (k P)
 | .mark _ k => pureRun P k
 | _ => none
theorem pureRun_run {α : Type} {P : Program} (w : World) : ∀ {s : Sem α} {a : α}, pureRun P s = some a → s.run P w = .ok a w
 | .pure _, _, h => by simp only [pureRun, Option.some.injEq] at h; subst h; rfl
 | .program k, _, h => by simp only [pureRun] at h; exact pureRun_run w (s := k P) h
 | .mark _ k, _, h => by simp only [pureRun] at h; exact pureRun_run w (s := k) h
 | .load .., _, h | .store .., _, h | .new .., _, h | .shape .., _, h | .freeze .., _, h | .frozen .., _, h | .getObj .., _, h | .setObj .., _, h | .choose .., _, h | .sys .., _, h | .halt .., _, h => by simp [pureRun] at h
end Go.Sx
