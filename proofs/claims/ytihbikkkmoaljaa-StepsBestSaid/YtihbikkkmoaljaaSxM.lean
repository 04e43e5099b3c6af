/- The executor: loops by a round's plain function. -/
import Derived.Test.YtihbikkkmoaljaaSxL
namespace Go.Sx
open Go Go.RowKit Go.Proofs.Ytihbikkkmoaljaa
variable {P : Program} {G : Globs} {Γ : Specs} {L : Loops} {β : Nat → Loc} {Z : Nat → Prop} {Z0 : Gz} {w w0 : World} {F : List LV} {H : List Blk} {a : Act} {ds : List Deferred} {n : Nat}
/-! ### other numbers for the own blocks -/
def pos (k : Nat) : List Nat → Nat → Nat
 | [], i => i
 | j :: js, i => if k = j then i else pos k js (i + 1)
theorem pos_get {k : Nat} : ∀ {ks : List Nat} (i : Nat), k ∈ ks → i ≤ pos k ks i ∧ ks[pos k ks i - i]? = some k ∧ pos k ks i < i + ks.length
 | [], i, h => by cases h
 | j :: js, i, h => by
  simp only [pos]
  split
  ·rename_i e; subst e; exact ⟨Nat.le_refl _, by simp, by simp⟩
  ·rename_i e
   have hk : k ∈ js := by
    rcases List.mem_cons.1 h with h | h
    ·exact absurd h e
    ·exact h
   obtain ⟨h1, h2, h3⟩ := pos_get (i + 1) hk
   refine ⟨by omega, ?_, by simp; omega⟩
   rw [show pos k js (i + 1) - i = (pos k js (i + 1) - (i + 1)) + 1 by omega]
   simpa using h2
mutual
def renV (ks : List Nat) : LV → LV
 | .v x => .v x
 | .bl b => .v (.bool b)
 | .ki k n => .v (.int k n)
 | .own k off => .own (pos k ks 0) off
 | .agg l => .agg (renL ks l)
 | .tup l => .tup (renL ks l)
 | .fn f l => .fn f (renL ks l)
 | .xq n f => .xq n f
 | .xl e l => .xl e l
 | .os k es off n => .os (pos k ks 0) es off n
 | .op k es i j => .op (pos k ks 0) es i j
 | .om k => .om (pos k ks 0)
 | .mp kd kk l => .mp kd kk (renL ks l)
 | .oc k es off n c => .oc (pos k ks 0) es off n c
 | .yld k => .yld (pos k ks 0)
 | .junk => .junk
def renL (ks : List Nat) : List LV → List LV
 | [] => []
 | x :: xs => renV ks x :: renL ks xs
end
def renK (ks : List Nat) : BK → BK
 | .cl => .cl
 | .vec e l => .vec e l
 | .mp kd kk vs => .mp kd kk (renL ks vs)
 | .lrec ps asg body st => .lrec ps asg body st
 | .st e l => .st e l
 | .dead => .dead
def renB (ks : List Nat) (b : Blk) : Blk := ⟨renL ks b.c, b.t, renK ks b.k, b.p⟩
def deadB : Blk := ⟨[], 0, .dead, false⟩
def nodupB : List Nat → Bool
 | [] => true
 | k :: ks => !ks.contains k && nodupB ks
theorem nodupB_inj : ∀ {ks : List Nat}, nodupB ks = true → ∀ (i j k : Nat), ks[i]? = some k → ks[j]? = some k → i = j
 | [], _, i, j, k, h, _ => by simp at h
 | x :: xs, hn, i, j, k, hi, hj => by
  simp only [nodupB, Bool.and_eq_true, Bool.not_eq_true'] at hn
  have hx : x ∉ xs := by simpa using hn.1
  cases i with
  | zero =>
   cases j with
   | zero => rfl
   | succ j =>
    simp at hi hj
    subst hi
    exact absurd (List.mem_of_getElem? hj) hx
  | succ i =>
   cases j with
   | zero =>
    simp at hi hj
    subst hj
    exact absurd (List.mem_of_getElem? hi) hx
   | succ j =>
    simp at hi hj
    rw [nodupB_inj hn.2 i j k hi hj]
def Rn (ks : List Nat) (β β' : Nat → Loc) : Prop := ∀ i k, ks[i]? = some k → β' i = β k
theorem Rn.at {ks : List Nat} {β' : Nat → Loc} (h : Rn ks β β') {k : Nat} (hk : k ∈ ks) : β' (pos k ks 0) = β k ∧ pos k ks 0 < ks.length := by
 obtain ⟨_, h2, h3⟩ := pos_get 0 hk
 exact ⟨h _ _ (by simpa using h2), by omega⟩
mutual
theorem ren_R {ks : List Nat} {β' : Nat → Loc} {n : Nat} (h : Rn ks β β') : ∀ (x : LV) (y : Value), (∀ k, k ∈ owns x → k ∈ ks) → okV n x → R β Z w x y → R β' Z w (renV ks x) y
 | .v _, _, _, _, hr => hr
 | .bl _, _, _, _, hr => hr
 | .ki _ _, _, _, _, hr => hr
 | .own k off, y, ho, hok, hr => by
  simp only [renV, R] at *
  rw [(h.at (ho k (by simp [owns]))).1]; exact hr
 | .agg l, y, ho, hok, hr => by
  simp only [renV, R, owns, okV] at *
  obtain ⟨ys, h1, h2⟩ := hr
  exact ⟨ys, h1, ren_RL h l _ ho hok h2⟩
 | .tup l, y, ho, hok, hr => by
  simp only [renV, R, owns, okV] at *
  obtain ⟨ys, h1, h2⟩ := hr
  exact ⟨ys, h1, ren_RL h l _ ho hok h2⟩
 | .fn f l, y, ho, hok, hr => by
  simp only [renV, R, owns, okV] at *
  obtain ⟨ys, h1, h2⟩ := hr
  exact ⟨ys, h1, ren_RL h l _ ho hok h2⟩
 | .xq n f, y, ho, hok, hr => by
  simp only [renV, R, okV] at *
  obtain ⟨b, off, h1, h2, h3⟩ := hr
  refine ⟨b, off, h1, h2, fun j hj => ?_⟩
  obtain ⟨z, h4, h5⟩ := h3 j hj
  exact ⟨z, h4, R.mono (n := 0) (fun _ hk => absurd hk (by omega)) (fun _ h => h) (fun _ _ => rfl) _ _ (hok j) h5⟩
 | .xl e l, y, ho, hok, hr => by simp only [renV, R] at *; exact hr
 | .os k es off n, y, ho, hok, hr => by
  simp only [renV, R] at *
  rw [(h.at (ho k (by simp [owns]))).1]; exact hr
 | .op k es i j, y, ho, hok, hr => by
  simp only [renV, R] at *
  rw [(h.at (ho k (by simp [owns]))).1]; exact hr
 | .om k, y, ho, hok, hr => by
  simp only [renV, R] at *
  rw [(h.at (ho k (by simp [owns]))).1]; exact hr
 | .mp kd kk l, y, ho, hok, hr => by
  simp only [renV, R, owns, okV] at *
  obtain ⟨r, es, clock, h1, h2, h3, h4, h5⟩ := hr
  exact ⟨r, es, clock, h1, h2, h3, h4, ren_RL h l _ ho hok h5⟩
 | .oc k es off n c, y, ho, hok, hr => by
  simp only [renV, R] at *
  rw [(h.at (ho k (by simp [owns]))).1]; exact hr
 | .yld k, y, ho, hok, hr => by
  simp only [renV, R] at *
  rw [(h.at (ho k (by simp [owns]))).1]; exact hr
 | .junk, _, _, _, _ => by simp only [renV, R]
theorem ren_RL {ks : List Nat} {β' : Nat → Loc} {n : Nat} (h : Rn ks β β') : ∀ (l : List LV) (ys : List Value), (∀ k, k ∈ ownsL l → k ∈ ks) → okL n l → RL β Z w l ys → RL β' Z w (renL ks l) ys
 | [], _, _, _, hr => by simpa only [renL, RL] using hr
 | x :: xs, ys, ho, hok, hr => by
  simp only [renL, RL, ownsL, List.mem_append, okL] at *
  obtain ⟨y, zs, h1, h2, h3⟩ := hr
  exact ⟨y, zs, h1, ren_R h x y (fun k hk => ho k (.inl hk)) hok.1 h2, ren_RL h xs zs (fun k hk => ho k (.inr hk)) hok.2 h3⟩
end
mutual
theorem ren_ok {ks : List Nat} {n : Nat} : ∀ (x : LV), (∀ k, k ∈ owns x → k ∈ ks) → okV n x → okV ks.length (renV ks x)
 | .v _, _, _ => trivial
 | .bl _, _, _ => trivial
 | .ki _ _, _, _ => trivial
 | .own k off, ho, _ => by simp only [renV, okV]; have := (pos_get 0 (ho k (by simp [owns]))).2.2; omega
 | .agg l, ho, hk => by simp only [renV, okV, owns] at *; exact ren_okL l ho hk
 | .tup l, ho, hk => by simp only [renV, okV, owns] at *; exact ren_okL l ho hk
 | .fn f l, ho, hk => by simp only [renV, okV, owns] at *; exact ren_okL l ho hk
 | .xq n f, _, hk => by simpa only [renV, okV] using hk
 | .xl _ _, _, _ => trivial
 | .os k _ _ _, ho, _ => by simp only [renV, okV]; have := (pos_get 0 (ho k (by simp [owns]))).2.2; omega
 | .op k _ _ _, ho, _ => by simp only [renV, okV]; have := (pos_get 0 (ho k (by simp [owns]))).2.2; omega
 | .om k, ho, _ => by simp only [renV, okV]; have := (pos_get 0 (ho k (by simp [owns]))).2.2; omega
 | .mp kd kk l, ho, hk => by simp only [renV, okV, owns] at *; exact ren_okL l ho hk
 | .oc k _ _ _ _, ho, _ => by simp only [renV, okV]; have := (pos_get 0 (ho k (by simp [owns]))).2.2; omega
 | .yld k, ho, _ => by simp only [renV, okV]; have := (pos_get 0 (ho k (by simp [owns]))).2.2; omega
 | .junk, _, _ => trivial
theorem ren_okL {ks : List Nat} {n : Nat} : ∀ (l : List LV), (∀ k, k ∈ ownsL l → k ∈ ks) → okL n l → okL ks.length (renL ks l)
 | [], _, _ => trivial
 | x :: xs, ho, hk => by
  simp only [renL, okL, ownsL, List.mem_append] at *
  exact ⟨ren_ok x (fun k hk => ho k (.inl hk)) hk.1, ren_okL xs (fun k hk => ho k (.inr hk)) hk.2⟩
end
theorem ren_live {ks : List Nat} {β' : Nat → Loc} {i k : Nat} {b : Blk} (h : β' i = β k) : live β' i (renB ks b) ↔ live β k b := by
 unfold live renB
 cases hb : b.k <;> simp [renK, h]
def pinB (N : Nat) (ks : List Nat) : Bool := ks.take N == List.range N
theorem pinB_get {N : Nat} {ks : List Nat} (h : pinB N ks = true) : N ≤ ks.length ∧ ∀ i, i < N → ks[i]? = some i := by
 have h : ks.take N = List.range N := by simpa [pinB] using h
 have hl := congrArg List.length h
 simp at hl
 refine ⟨by omega, fun i hi => ?_⟩
 have := congrArg (fun l => l[i]?) h
 simp only [List.getElem?_take, if_pos hi] at this
 rw [this]
 simp [hi]
theorem RW.ren {N : Nat} {ks : List Nat} {l : List LV} (hgh : AN N Z0) (hW : RW G w0 Z0 Z β H w) (hc : closedB H ks l = true) (hn : nodupB ks = true) (hpin : pinB N ks = true) :
  ∃ β', Rn ks β β' ∧ RW G w0 Z0 Z β' (ks.map fun k => renB ks (H.getD k deadB)) w := by
 have hex : ∀ k, k ∈ ks → ∃ b, H[k]? = some b := fun k hk => by
  unfold closedB at hc
  simp only [Bool.and_eq_true, List.all_eq_true] at hc
  have := hc.2 k hk
  cases hb : H[k]? with
  | none => rw [hb] at this; cases this
  | some b => exact ⟨b, rfl⟩
 obtain ⟨c1, c2⟩ := closedB_spec hc
 refine ⟨fun i => β (ks.getD i 0), fun i k hi => by simp [List.getD, hi], ?_⟩
 have hRn : Rn ks β (fun i => β (ks.getD i 0)) := fun i k hi => by simp [List.getD, hi]
 generalize hβ' : (fun i => β (ks.getD i 0)) = β' at hRn ⊢
 have old : ∀ i b, (ks.map fun k => renB ks (H.getD k deadB))[i]? = some b → ∃ k b0, ks[i]? = some k ∧ k ∈ ks ∧ H[k]? = some b0 ∧ b = renB ks b0 ∧ β' i = β k := fun i b hb => by
  rw [List.getElem?_map] at hb
  cases hk : ks[i]? with
  | none => simp [hk] at hb
  | some k =>
   have hkm := List.mem_of_getElem? hk
   obtain ⟨b0, h0⟩ := hex k hkm
   simp [hk, List.getD, h0] at hb
   exact ⟨k, b0, rfl, hkm, h0, hb.symm, hRn i k hk⟩
 refine ⟨hW.below, hW.zlt, hW.znew, fun i b hb hl hp => ?_, fun i b hb hl hp => ?_, fun i b hb hl => ?_, fun i j bi bj hi hj li lj pi e => ?_, fun i b hb => ?_, hW.glob, fun p hp => ⟨R.mono (n := N) (fun k hk => hRn k k ((pinB_get hpin).2 k hk)) (fun _ h => h) (fun _ _ => rfl) _ _ (hgh p hp) (hW.gh p hp).1, okV.mono (by rw [List.length_map]; exact (pinB_get hpin).1) _ (hgh p hp)⟩, hW.mks⟩
 ·obtain ⟨k, b0, h1, h2, h3, rfl, h5⟩ := old i b hb
  rw [h5]; exact hW.zown k b0 h3 ((ren_live h5).1 hl) hp
 ·obtain ⟨k, b0, h1, h2, h3, rfl, h5⟩ := old i b hb
  rw [h5]; exact hW.zpub k b0 h3 ((ren_live h5).1 hl) hp
 ·obtain ⟨k, b0, h1, h2, h3, rfl, h5⟩ := old i b hb
  rw [h5]; exact hW.low k b0 h3 ((ren_live h5).1 hl)
 ·obtain ⟨k, b0, h1, h2, h3, rfl, h5⟩ := old i bi hi
  obtain ⟨k', b1, g1, g2, g3, rfl, g5⟩ := old j bj hj
  rw [h5, g5] at e
  have := hW.inj k k' b0 b1 h3 g3 ((ren_live h5).1 li) ((ren_live g5).1 lj) pi e
  subst this
  exact nodupB_inj hn i j k h1 g1
 ·obtain ⟨k, b0, h1, h2, h3, rfl, h5⟩ := old i b hb
  obtain ⟨q1, q2⟩ := hW.blk k b0 h3
  have ow := c2 k b0 h2 h3
  have owc : ∀ j, j ∈ ownsL b0.c → j ∈ ks := fun j hj => ow j (by unfold Blk.owns; exact List.mem_append.2 (.inl hj))
  rw [List.length_map]
  refine ⟨?_, ren_okL _ owc q2.1, ?_⟩
  ·unfold BlkR at q1 ⊢
   unfold renB
   cases hbk : b0.k with
   | cl =>
    simp only [hbk, renK] at q1 ⊢
    obtain ⟨cs, e1, e2⟩ := q1
    exact ⟨cs, by rw [h5]; exact e1, ren_RL hRn _ _ owc q2.1 e2⟩
   | vec e l =>
    simp only [hbk, renK] at q1 ⊢
    rw [h5]; exact q1
   | mp kd kk vs =>
    simp only [hbk, renK] at q1 ⊢
    obtain ⟨es, clock, e1, e2, e3⟩ := q1
    exact ⟨es, clock, by rw [h5]; exact e1, e2, ren_RL hRn _ _ (fun j hj => ow j (by unfold Blk.owns; rw [hbk]; exact List.mem_append.2 (.inr hj))) (by have := q2.2; rw [hbk] at this; exact this) e3⟩
   | lrec ps asg body st =>
    simp only [hbk, renK] at q1 ⊢
    obtain ⟨r, e1, e2, e3, e4, e5, e6⟩ := q1
    exact ⟨r, by rw [h5]; exact e1, e2, e3, e4, e5, ren_RL hRn _ _ owc q2.1 e6⟩
   | st e l =>
    simp only [hbk, renK] at q1 ⊢
    rw [h5]; exact q1
   | dead => simp only [renK]
  ·have q22 := q2.2
   unfold renB
   cases hbk : b0.k with
   | mp kd kk vs =>
    simp only [hbk, renK] at q22 ⊢
    exact ren_okL _ (fun j hj => ow j (by unfold Blk.owns; rw [hbk]; exact List.mem_append.2 (.inr hj))) q22
   | cl => simp only [renK]
   | vec e l => simp only [renK]
   | lrec ps asg body st => simp only [renK]
   | st e l => simp only [renK]
   | dead => simp only [renK]
def at_ (i : Nat) : List Nat → List LV → LV
 | j :: js, x :: xs => if i = j then x else at_ i js xs
 | _, _ => .junk
def frameGo (live : List Nat) (vals : List LV) : Nat → Nat → List LV
 | 0, _ => []
 | n + 1, i => at_ i live vals :: frameGo live vals n (i + 1)
def frameOf (n : Nat) (live : List Nat) (vals : List LV) : List LV := frameGo live vals n 0
theorem frameGo_length (live : List Nat) (vals : List LV) : ∀ n i, (frameGo live vals n i).length = n
 | 0, _ => rfl
 | n + 1, i => by simp [frameGo, frameGo_length live vals n (i + 1)]
theorem frameGo_get (live : List Nat) (vals : List LV) : ∀ n i k, k < n → (frameGo live vals n i)[k]? = some (at_ (i + k) live vals)
 | 0, _, k, h => by omega
 | n + 1, i, 0, _ => by simp [frameGo]
 | n + 1, i, k + 1, h => by
  simp only [frameGo, List.getElem?_cons_succ]
  rw [frameGo_get live vals n (i + 1) k (by omega)]
  congr 2; omega
theorem at_get (i : Nat) : ∀ (live : List Nat) (vals : List LV), at_ i live vals = .junk ∨ ∃ p : Nat, live[p]? = some i ∧ vals[p]? = some (at_ i live vals)
 | [], _ => .inl rfl
 | _ :: _, [] => .inl rfl
 | j :: js, x :: xs => by
  simp only [at_]
  split
  ·rename_i h; exact .inr ⟨0, by simp [h], by simp⟩
  ·rcases at_get i js xs with h | ⟨p, h1, h2⟩
   ·exact .inl h
   ·exact .inr ⟨p + 1, by simpa using h1, by simpa using h2⟩
def viewF (live : List Nat) (F : List LV) : List LV := live.map fun j => norm (F.getD j .junk)
theorem view_RL {live : List Nat} (hF : RF ds β Z w n F a) : RL β Z w (viewF live F) (live.map fun j => a.tmps.getD j undef) ∧ okL n (viewF live F) := by
 have one : ∀ j, R β Z w (F.getD j .junk) (a.tmps.getD j undef) ∧ okV n (F.getD j .junk) := fun j => by
  cases hj : F[j]? with
  | none => simp [List.getD, hj, R, okV]
  | some x => simp only [List.getD, hj, Option.getD_some]; exact hF.get j x hj
 refine ⟨RL.of_get (by simp [viewF]) fun i x hx => ?_, okL.of_get fun i x hx => ?_⟩
 ·simp only [viewF, List.getElem?_map] at hx ⊢
  cases hl : live[i]? with
  | none => simp [hl] at hx
  | some j => simp [hl] at hx; subst hx; exact ⟨_, by simp, norm_R (one j).1⟩
 ·simp only [viewF, List.getElem?_map] at hx
  cases hl : live[i]? with
  | none => simp [hl] at hx
  | some j => simp [hl] at hx; subst hx; exact norm_ok (one j).2
theorem frame_RF {live : List Nat} {vals : List LV} {N : Nat} (hs : a.tmps.size = N) (hd : a.defers = ds ∧ ∀ d, d ∈ ds → ∃ D, d = markOf D ∧ Z D ∧ MkAt w D) (h : RL β Z w vals (live.map fun j => a.tmps.getD j undef)) (hk : okL n vals) : RF ds β Z w n (frameOf N live vals) a := by
 refine ⟨by rw [hs]; simp [frameOf, frameGo_length], fun t x hx => ?_, hd⟩
 have ht : t < N := by have := (List.getElem?_eq_some_iff.1 hx).1; simpa [frameOf, frameGo_length] using this
 unfold frameOf at hx
 rw [frameGo_get live _ _ _ t ht] at hx
 simp only [Option.some.injEq, Nat.zero_add] at hx
 rcases at_get t live vals with h1 | ⟨p, h1, h2⟩
 ·rw [hx] at h1; subst h1; exact ⟨by simp only [R], trivial⟩
 ·rw [hx] at h2
  obtain ⟨y, e1, e2⟩ := RL.get _ _ h h2
  simp only [List.getElem?_map, h1, Option.map_some, Option.some.injEq] at e1
  subst e1
  exact ⟨e2, okL.get _ _ hk h2⟩
inductive Up where
 | nl (i : Nat) (t : TypeId) (ty : Ty)
 | pb (i : Nat) (ty : Ty)
 | nc (k j : Nat) (t : TypeId) (ty : Ty)
 | pc (k j : Nat) (ty : Ty)
 | pk (k : Nat)
 | ns (i j : Nat) (t : TypeId) (ty : Ty)
 | ps (i j : Nat) (ty : Ty)
def resU (F : List LV) : Up → Up
 | .ns i j t ty => match F.getD i .junk with
  | .own k _ => .nc k j t ty
  | _ => .ns i j t ty
 | .ps i j ty => match F.getD i .junk with
  | .own k _ => .pc k j ty
  | _ => .ps i j ty
 | u => u
def upF : List Up → List LV → List Blk → T (List LV × List Blk)
 | [], F, H => .ok (F, H)
 | .nl i t ty :: us, F, H => match F.getD i .junk with
  | .v (.slice none 0 0) => upF us (F.set i (.os H.length ty.n 0 0)) (H ++ [⟨[], t, .vec ty [], false⟩])
  | _ => upF us F H
 | .pb i ty :: us, F, H => match F.getD i .junk with
  | .v (.slice none 0 0) => upF us (F.set i (.xl ty [])) H
  | .os k es off n => if closedB H (reach H 64 [k] []) [.os k es off n] then (guardX H 6 (.os k es off n)).bind fun _ => upF us (F.set i (toX H 6 (.os k es off n))) (pubGo (reach H 64 [k] []) 0 H) else .no
  | _ => upF us F H
 | .nc k j t ty :: us, F, H => match H[k]? with
  | some ⟨c, bt, .cl, false⟩ => (match c[j]? with
   | some (.v (.slice none 0 0)) => upF us F (H.set k ⟨c.set j (.os H.length ty.n 0 0), bt, .cl, false⟩ ++ [⟨[], t, .vec ty [], false⟩])
   | _ => upF us F H)
  | _ => upF us F H
 | .pc k j ty :: us, F, H => match H[k]? with
  | some ⟨c, bt, .cl, false⟩ => (match c[j]? with
   | some (.v (.slice none 0 0)) => upF us F (H.set k ⟨c.set j (.xl ty []), bt, .cl, false⟩)
   | some (.os k' es off n) => if closedB H (reach H 64 [k'] []) [.os k' es off n] && !(reach H 64 [k'] []).contains k then (guardX H 6 (.os k' es off n)).bind fun _ => upF us F ((pubGo (reach H 64 [k'] []) 0 H).set k ⟨c.set j (toX H 6 (.os k' es off n)), bt, .cl, false⟩) else .no
   | _ => upF us F H)
  | _ => upF us F H
 | .pk k :: us, F, H => upF us F (pubGo (reach H 64 [k] []) 0 H)
 | .ns .. :: us, F, H => upF us F H
 | .ps .. :: us, F, H => upF us F H
theorem RL.set' : ∀ {l : List LV} {ys : List Value} {j : Nat} {x : LV} {y : Value}, RL β Z w l ys → ys[j]? = some y → R β Z w x y → RL β Z w (l.set j x) ys
 | [], ys, j, x, y, h, hy, _ => by simp only [RL] at h; subst h; simp at hy
 | z :: l, ys, 0, x, y, h, hy, hr => by
  simp only [List.set_cons_zero, RL] at h ⊢
  obtain ⟨y0, zs, rfl, h1, h2⟩ := h
  simp at hy
  subst hy
  exact ⟨_, zs, rfl, hr, h2⟩
 | z :: l, ys, j + 1, x, y, h, hy, hr => by
  simp only [List.set_cons_succ, RL] at h ⊢
  obtain ⟨y0, zs, rfl, h1, h2⟩ := h
  exact ⟨y0, zs, rfl, h1, RL.set' h2 (by simpa using hy) hr⟩
theorem okL.set' {n : Nat} : ∀ {l : List LV} {j : Nat} {x : LV}, okL n l → okV n x → okL n (l.set j x)
 | [], _, _, h, _ => by simpa using h
 | z :: l, 0, x, h, hx => ⟨hx, h.2⟩
 | z :: l, j + 1, x, h, hx => ⟨h.1, okL.set' h.2 hx⟩
theorem RW.tell {k j : Nat} {c : List LV} {bt : TypeId} {x : LV} (hW : RW G w0 Z0 Z β H w) (hb : H[k]? = some ⟨c, bt, .cl, false⟩) (hx : ∀ y, (∃ z, c[j]? = some z ∧ R β Z w z y) → R β Z w x y) (hj : ∃ z, c[j]? = some z) (hok : okV H.length x) : RW G w0 Z0 Z β (H.set k ⟨c.set j x, bt, .cl, false⟩) w := by
 obtain ⟨h1, h2⟩ := hW.blk k _ hb
 simp only [BlkR] at h1
 obtain ⟨cs, g1, g2⟩ := h1
 obtain ⟨z, hz⟩ := hj
 obtain ⟨y, q1, q2⟩ := RL.get j z g2 hz
 refine hW.set hb trivial rfl rfl ⟨okL.set' h2.1 hok, trivial⟩ rfl ⟨rfl, rfl, rfl⟩ (fun _ _ => rfl) ?_
 simp only [BlkR]
 exact ⟨cs, g1, RL.set' g2 q1 (hx y ⟨z, hz, q2⟩)⟩
theorem upF_sound : ∀ (us : List Up) (F : List LV) (H : List Blk) (Z : Nat → Prop) (β : Nat → Loc) (F1 : List LV) (H1 : List Blk), RW G w0 Z0 Z β H w → RF ds β Z w H.length F a → (upF us F H).all (fun q => q = (F1, H1)) → ∃ Z' β', RW G w0 Z0 Z' β' H1 w ∧ RF ds β' Z' w H1.length F1 a ∧ F1.length = F.length
 | [], F, H, Z, β, F1, H1, hW, hF, h => by
  simp only [upF, T.all, Prod.mk.injEq] at h
  obtain ⟨rfl, rfl⟩ := h
  exact ⟨Z, β, hW, hF, rfl⟩
 | .nl i t ty :: us, F, H, Z, β, F1, H1, hW, hF, h => by
  simp only [upF] at h
  split at h
  ·rename_i hx
   obtain ⟨s1, s2⟩ := hF.slot hx (by simp)
   have hv := (hF.get i _ s1).1
   simp only [R] at hv
   obtain ⟨β', b1, b2, b3⟩ := hW.adopt (ℓ := ⟨w.heap.size, 0, none⟩) (nb := ⟨[], t, .vec ty [], false⟩) rfl ⟨trivial, trivial⟩ (fun hl => absurd rfl hl) (fun β' g1 g2 => by simp only [BlkR, g2])
   have hF1 : RF ds β' Z w (H ++ [(⟨[], t, .vec ty [], false⟩ : Blk)]).length F a := hF.mono (by simp) b1 (fun _ h => h) (fun _ _ => rfl)
   obtain ⟨Z2, β2, c1, c2, c3⟩ := upF_sound us (F.set i (.os H.length ty.n 0 0)) _ Z β' F1 H1 b3 (hF1.know (by simp only [R, b2]; exact ⟨trivial, trivial, hv⟩) (by simp [okV])) h
   exact ⟨Z2, β2, c1, c2, by rw [c3]; simp⟩
  ·exact upF_sound us F H Z β F1 H1 hW hF h
 | .pb i ty :: us, F, H, Z, β, F1, H1, hW, hF, h => by
  simp only [upF] at h
  split at h
  ·rename_i hx
   obtain ⟨s1, s2⟩ := hF.slot hx (by simp)
   have hv := (hF.get i _ s1).1
   simp only [R] at hv
   obtain ⟨Z2, β2, c1, c2, c3⟩ := upF_sound us (F.set i (.xl ty [])) H Z β F1 H1 hW (hF.know (by simp only [R]; exact ⟨none, 0, hv, Nat.le_refl _, fun h => by simp at h⟩) trivial) h
   exact ⟨Z2, β2, c1, c2, by rw [c3]; simp⟩
  ·rename_i k es off n hx
   split at h
   ·rename_i hcl
    obtain ⟨s1, s2⟩ := hF.slot hx (by simp)
    have hv := hF.get i _ s1
    obtain ⟨_, hg, h2⟩ := T.bind_all h
    have hG : GX H 6 (.os k es off n) := T.all_mono (K' := fun _ => True) (fun _ _ => trivial) hg
    obtain ⟨q1, q2⟩ := closedB_spec hcl
    have hP := hW.pub (reach H 64 [k] [])
    have hH := fun k b hb => (hW.blk k b hb).2
    have hr := toX_R (S := fun k => k ∈ reach H 64 [k] []) hW
    have hr : R β (ZP Z β H fun j => j ∈ reach H 64 [k] []) w (toX H 6 (.os k es off n)) (a.tmps.getD i undef) := toX_R (S := fun j => j ∈ reach H 64 [k] []) hW q2 6 _ _ hG (fun j hj => q1 j (by simpa [ownsL] using hj)) hv.2 hv.1
    have hF1 : RF ds β (ZP Z β H fun j => j ∈ reach H 64 [k] []) w (pubGo (reach H 64 [k] []) 0 H).length F a := by
     rw [pubGo_length]
     exact hF.mono (Nat.le_refl _) (fun _ _ => rfl) (fun _ h => .inl h) (fun _ _ => rfl)
    obtain ⟨Z2, β2, c1, c2, c3⟩ := upF_sound us (F.set i (toX H 6 (.os k es off n))) _ _ β F1 H1 hP (hF1.know hr (okV.mono (Nat.zero_le _) _ (toX_ok H hH 6 _ hv.2))) h2
    exact ⟨Z2, β2, c1, c2, by rw [c3]; simp⟩
   ·cases h
  ·exact upF_sound us F H Z β F1 H1 hW hF h
 | .nc k j t ty :: us, F, H, Z, β, F1, H1, hW, hF, h => by
  simp only [upF] at h
  split at h
  ·rename_i c bt hb
   split at h
   ·rename_i hj
    have hkl : k < H.length := (List.getElem?_eq_some_iff.1 hb).1
    obtain ⟨β', b1, b2, b3⟩ := hW.adopt (ℓ := ⟨w.heap.size, 0, none⟩) (nb := ⟨[], t, .vec ty [], false⟩) rfl ⟨trivial, trivial⟩ (fun hl => absurd rfl hl) (fun β' g1 g2 => by simp only [BlkR, g2])
    have hb' : (H ++ [(⟨[], t, .vec ty [], false⟩ : Blk)])[k]? = some ⟨c, bt, .cl, false⟩ := by rw [List.getElem?_append_left hkl]; exact hb
    have hT := b3.tell (j := j) (x := .os H.length ty.n 0 0) hb' (fun y ⟨z, hz, hr⟩ => by
     rw [hj] at hz
     have := Option.some.inj hz
     subst this
     simp only [R] at hr
     simp only [R, b2]
     exact ⟨trivial, trivial, hr⟩) ⟨_, hj⟩ (by simp [okV])
    rw [List.set_append_left _ _ hkl] at hT
    have hF1 : RF ds β' Z w (H.set k ⟨c.set j (.os H.length ty.n 0 0), bt, .cl, false⟩ ++ [(⟨[], t, .vec ty [], false⟩ : Blk)]).length F a := hF.mono (by simp) b1 (fun _ h => h) (fun _ _ => rfl)
    exact upF_sound us F _ Z β' F1 H1 hT hF1 h
   ·exact upF_sound us F H Z β F1 H1 hW hF h
  ·exact upF_sound us F H Z β F1 H1 hW hF h
 | .pc k j ty :: us, F, H, Z, β, F1, H1, hW, hF, h => by
  simp only [upF] at h
  split at h
  ·rename_i c bt hb
   split at h
   ·rename_i hj
    have hT := hW.tell (j := j) (x := .xl ty []) hb (fun y ⟨z, hz, hr⟩ => by
     rw [hj] at hz
     have := Option.some.inj hz
     subst this
     simp only [R] at hr ⊢
     exact ⟨none, 0, hr, Nat.le_refl _, fun h => by simp at h⟩) ⟨_, hj⟩ trivial
    exact upF_sound us F _ Z β F1 H1 hT (hF.mono (by simp) (fun _ _ => rfl) (fun _ h => h) (fun _ _ => rfl)) h
   ·rename_i k' es off n hj
    split at h
    ·rename_i hcl
     simp only [Bool.and_eq_true, Bool.not_eq_true'] at hcl
     obtain ⟨hcl, hnk⟩ := hcl
     obtain ⟨_, hg, h2⟩ := T.bind_all h
     have hG : GX H 6 (.os k' es off n) := T.all_mono (K' := fun _ => True) (fun _ _ => trivial) hg
     obtain ⟨q1, q2⟩ := closedB_spec hcl
     have hP := hW.pub (reach H 64 [k'] [])
     have hH := fun k b hb => (hW.blk k b hb).2
     have hok : okV H.length (.os k' es off n) := okL.get j _ (hH k _ hb).1 hj
     have hb' : (pubGo (reach H 64 [k'] []) 0 H)[k]? = some ⟨c, bt, .cl, false⟩ := by
      rw [pubGo_get, hb]
      simp only [Option.map_some, Nat.zero_add, hnk]
      rfl
     have hT := hP.tell (j := j) (x := toX H 6 (.os k' es off n)) hb' (fun y ⟨z, hz, hr⟩ => by
      rw [hj] at hz
      have := Option.some.inj hz
      subst this
      have hr' : R β Z w (.os k' es off n) y := by simpa only [R] using hr
      exact toX_R (S := fun j => j ∈ reach H 64 [k'] []) hW q2 6 _ _ hG (fun j hj => q1 j (by simpa [ownsL] using hj)) hok hr') ⟨_, hj⟩ (okV.mono (Nat.zero_le _) _ (toX_ok H hH 6 _ hok))
     exact upF_sound us F _ _ β F1 H1 hT (hF.mono (by simp [pubGo_length]) (fun _ _ => rfl) (fun _ h => .inl h) (fun _ _ => rfl)) h2
    ·cases h
   ·exact upF_sound us F H Z β F1 H1 hW hF h
  ·exact upF_sound us F H Z β F1 H1 hW hF h
 | .pk k :: us, F, H, Z, β, F1, H1, hW, hF, h => by
  simp only [upF] at h
  have hP := hW.pub (reach H 64 [k] [])
  have hF1 : RF ds β (ZP Z β H fun j => j ∈ reach H 64 [k] []) w (pubGo (reach H 64 [k] []) 0 H).length F a := by
   rw [pubGo_length]
   exact hF.mono (Nat.le_refl _) (fun _ _ => rfl) (fun _ h => .inl h) (fun _ _ => rfl)
  exact upF_sound us F _ _ β F1 H1 hP hF1 h
 | .ns .. :: us, F, H, Z, β, F1, H1, hW, hF, h => upF_sound us F H Z β F1 H1 hW hF (by simpa only [upF] using h)
 | .ps .. :: us, F, H, Z, β, F1, H1, hW, hF, h => upF_sound us F H Z β F1 H1 hW hF (by simpa only [upF] using h)
def fixV (H : List Blk) : LV → T LV
 | .os k es off n => match H[k]? with
  | some ⟨_, _, .vec _ l, _⟩ => .req (off = 0 ∧ n = List.length l) (.ok (.os k es 0 (List.length l)))
  | _ => .ok (.os k es off n)
 | x => .ok x
def fixL (H : List Blk) : List LV → T (List LV)
 | [] => .ok []
 | x :: xs => (fixV H x).bind fun y => (fixL H xs).bind fun ys => .ok (y :: ys)
theorem fixV_eq {x y : LV} (h : (fixV H x).all (fun z => z = y)) : y = x := by
 unfold fixV at h
 split at h
 ·split at h
  ·simp only [T.all] at h
   obtain ⟨⟨rfl, rfl⟩, h⟩ := h
   exact h.symm
  ·exact h.symm
 ·exact h.symm
theorem fixL_eq : ∀ {l l' : List LV}, (fixL H l).all (fun z => z = l') → l' = l
 | [], l', h => h.symm
 | x :: xs, l', h => by
  simp only [fixL] at h
  obtain ⟨y, h1, h2⟩ := T.bind_all h
  obtain ⟨ys, h3, h4⟩ := T.bind_all h2
  simp only [T.all] at h4
  rw [← h4, fixV_eq h1, fixL_eq h3]
def fixH (H : List Blk) : List Blk → T (List Blk)
 | [] => .ok []
 | b :: bs => (fixL H b.c).bind fun c => (fixH H bs).bind fun cs => .ok (⟨c, b.t, b.k, b.p⟩ :: cs)
theorem fixH_eq : ∀ {l l' : List Blk}, (fixH H l).all (fun z => z = l') → l' = l
 | [], l', h => h.symm
 | b :: bs, l', h => by
  simp only [fixH] at h
  obtain ⟨c, h1, h2⟩ := T.bind_all h
  obtain ⟨cs, h3, h4⟩ := T.bind_all h2
  simp only [T.all] at h4
  rw [← h4, fixL_eq h1, fixH_eq h3]
structure Vw where
 ex : Ex
 len : Nat
 vals : List LV
 blks : List Blk
 low : Bool
def rchP (N : Nat) (H : List Blk) (vals : List LV) : List Nat := reach H 400 (ownsL vals ++ (H.take N).flatMap Blk.owns) (List.range N)
def canG (N : Nat) (live : List Nat) (x : Ex) (n : Nat) (F : List LV) (H : List Blk) : T Vw :=
 (fixL H (viewF live F)).bind fun vals => (fixH H ((rchP N H vals).map (fun k => H.getD k deadB))).bind fun bs =>
  .ok ⟨x, n, renL (rchP N H vals) vals, bs.map (renB (rchP N H vals)),
   closedB H (rchP N H vals) vals && nodupB (rchP N H vals) && pinB N (rchP N H vals)⟩
def canT (N : Nat) (live : List Nat) (us : List Up) (x : Ex) (F : List LV) (H : List Blk) : T Vw := (upF (us.map (resU F)) F H).bind fun q => canG N live x F.length q.1 q.2
theorem canT_sound {N : Nat} {live : List Nat} {us : List Up} {x : Ex} {v : Vw} (hgh : AN N Z0) (hW : RW G w0 Z0 Z β H w) (hF : RF ds β Z w H.length F a) (h : (canT N live us x F H).all (fun z => z = v)) (hl : v.low = true) :
  v.ex = x ∧ v.len = F.length ∧ ∃ Z' β', RW G w0 Z0 Z' β' v.blks w ∧ RF ds β' Z' w v.blks.length (frameOf F.length live v.vals) a := by
 unfold canT at h
 obtain ⟨⟨F1, H1⟩, h0, h⟩ := T.bind_all h
 obtain ⟨Z1, β1, c1, c2, c3⟩ := upF_sound _ F H Z β F1 H1 hW hF h0
 unfold canG at h
 obtain ⟨vals, h1, h2⟩ := T.bind_all h
 obtain ⟨bs, h2b, h2⟩ := T.bind_all h2
 simp only [T.all] at h2
 have h3 := fixL_eq h1
 have h4 := fixH_eq h2b
 subst h3
 subst h4
 rw [List.map_map] at h2
 subst h2
 refine ⟨rfl, rfl, ?_⟩
 simp only [Bool.and_eq_true] at hl
 obtain ⟨β2, d1, d2⟩ := c1.ren hgh hl.1.1 hl.1.2 hl.2
 obtain ⟨v1, v2⟩ := view_RL (live := live) c2
 obtain ⟨k1, _⟩ := closedB_spec hl.1.1
 refine ⟨Z1, β2, d2, frame_RF (by rw [hF.size]) c2.defers (ren_RL d1 _ _ k1 v2 v1) ?_⟩
 rw [List.length_map]
 exact ren_okL _ k1 v2
inductive Rd (σ : Type) where
 | next (s : σ)
 | stop (x : Ex) (s : σ)
def rdV {σ : Type} (n : Nat) (A : σ → List LV) (B : σ → List Blk) : Rd σ → Vw
 | .next s' => ⟨.normal, n, A s', B s', true⟩
 | .stop x s' => ⟨x, n, A s', B s', true⟩
structure AllT {α : Type} (K : α → Prop) (t : T α) : Prop where
 out : t.all K
def runW {σ : Type} (f : σ → Rd σ) : Nat → σ → Ex × σ
 | 0, s => (.ret, s)
 | k + 1, s => match f s with
  | .next s' => runW f k s'
  | .stop x s' => (x, s')
theorem runW_more {σ : Type} {f : σ → Rd σ} {μ : σ → Nat} {I : σ → Prop} (hd : ∀ s s', I s → f s = .next s' → I s' ∧ μ s' < μ s) : ∀ (k j : Nat) (s : σ), I s → μ s < k → μ s < j → runW f k s = runW f j s
 | 0, _, s, _, h, _ => by omega
 | _ + 1, 0, s, _, _, h => by omega
 | k + 1, j + 1, s, hi, hk, hj => by
  simp only [runW]
  split
  ·rename_i s' hs
   obtain ⟨h1, h2⟩ := hd s s' hi hs
   exact runW_more hd k j s' h1 (by omega) (by omega)
  ·rfl
theorem runW_stop {σ : Type} {f : σ → Rd σ} {μ : σ → Nat} {I : σ → Prop} (hd : ∀ s s', I s → f s = .next s' → I s' ∧ μ s' < μ s) : ∀ (k : Nat) (s : σ), I s → μ s < k → ∃ s', I s' ∧ f s' = .stop (runW f k s).1 (runW f k s).2
 | 0, s, _, h => by omega
 | k + 1, s, hi, hk => by
  simp only [runW]
  cases hf : f s with
  | next s' =>
   obtain ⟨h1, h2⟩ := hd s s' hi hf
   exact runW_stop hd k s' h1 (by omega)
  | stop x s' => exact ⟨s, hi, hf⟩
theorem runW_keep {σ α : Type} {f : σ → Rd σ} (p : σ → α) (hn : ∀ s s', f s = .next s' → p s' = p s) (hs : ∀ s x s', f s = .stop x s' → p s' = p s) : ∀ (k : Nat) (s : σ), p (runW f k s).2 = p s
 | 0, _ => rfl
 | k + 1, s => by
  simp only [runW]
  cases hf : f s with
  | next s' => exact (runW_keep p hn hs k s').trans (hn s s' hf)
  | stop x s' => exact hs s x s' hf
theorem T.agree {α : Type} {K : α → Prop} {p : α} : ∀ {t : T α}, t.all (fun x => x = p) → t.all K → K p
 | .ok _, h, hk => by simp only [T.all] at h hk; exact h ▸ hk
 | .br b t e, h, hk => by
  cases b with
  | true => exact T.agree (h.1 rfl) (hk.1 rfl)
  | false => exact T.agree (h.2 rfl) (hk.2 rfl)
 | .req _ t, h, hk => T.agree h.2 hk.2
 | .no, h, _ => by cases h
def loopT {σ : Type} (N n : Nat) (live : List Nat) (us : List Up) (sel : List LV → List Blk → T σ) (out : σ → T (Ex × List LV × List Blk)) (F : List LV) (H : List Blk) : T (Ex × List LV × List Blk) :=
 if F.length = n then ((canT N live us .normal F H).bind fun v => if v.low then sel v.vals v.blks else .no).bind out else .no
def backT (N : Nat) (live : List Nat) (us : List Up) (t : T (Ex × List LV × List Blk)) : T Vw := t.bind fun q => canT N live us q.1 q.2.1 q.2.2
/-! A state read off slots and blocks. -/
def gI : LV → Int
 | .v (.int _ n) => n
 | .ki _ n => n
 | _ => 0
def gBo : LV → Bool
 | .v (.bool b) => b
 | .bl b => b
 | _ => false
def gSr : LV → ByteArray
 | .v (.string s) => s
 | _ => ByteArray.empty
def gAn : LV → Value
 | .v y => y
 | _ => undef
def gXl (e : Ty) (x : LV) : List e.D := (decX e x).getD []
def gAg (x : LV) (j : Nat) : LV :=
 match x with
 | .v (.agg ys) => .v (ys.toList.getD j undef)
 | .agg l => l.getD j .junk
 | .v (.tuple ys) => .v (ys.toList.getD j undef)
 | .tup l => l.getD j .junk
 | _ => .junk
def gFn (x : LV) (j : Nat) : LV :=
 match x with
 | .fn _ l => l.getD j .junk
 | _ => .junk
def gXq (x : LV) (j : Nat) : LV :=
 match x with
 | .xq _ f => f j
 | _ => .junk
def gMp (x : LV) (j : Nat) : LV :=
 match x with
 | .mp _ _ vs => vs.getD j .junk
 | _ => .junk
def gBk (H : List Blk) (k : Nat) : Blk := H.getD k ⟨[], 0, .dead, false⟩
def gCe (b : Blk) (j : Nat) : LV := b.c.getD j .junk
def gVe (e : Ty) (b : Blk) : List e.D :=
 match b.k with
 | .vec e' l => (match tyEq e' e with
  | some ⟨h⟩ => castL h l
  | none => [])
 | _ => []
def gSe (e : Ty) (b : Blk) : List e.D :=
 match b.k with
 | .st e' l => (match tyEq e' e with
  | some ⟨h⟩ => castL h l
  | none => [])
 | _ => []
def gMv (b : Blk) (j : Nat) : LV :=
 match b.k with
 | .mp _ _ vs => vs.getD j .junk
 | _ => .junk
def selT {σ : Type} (E : σ → Prop) (A : σ → List LV) (B : σ → List Blk) (s : σ) (vals : List LV) (blks : List Blk) : T σ := .req (E s ∧ vals = A s ∧ blks = B s) (.ok s)
theorem selT_ok {σ : Type} {E : σ → Prop} {A : σ → List LV} {B : σ → List Blk} {s0 s : σ} {vals : List LV} {blks : List Blk} (h : (selT E A B s0 vals blks).all (fun x => x = s)) : E s ∧ vals = A s ∧ blks = B s := by
 obtain ⟨h1, rfl⟩ := h
 exact h1
theorem loop_view {σ : Type} (N n : Nat) (live : List Nat) (us : List Up) (A : σ → List LV) (B : σ → List Blk) (I E : σ → Prop) (μ : σ → Nat) (f : σ → Rd σ) (sel : List LV → List Blk → T σ) (out : σ → T (Ex × List LV × List Blk)) {b : Code} {t : List LV → List Blk → T (Ex × List LV × List Blk)} (hb : SoundA P G (AN N) b t)
  (hsel : ∀ vals blks s, (sel vals blks).all (fun x => x = s) → E s ∧ vals = A s ∧ blks = B s) (hEI : ∀ s, E s → I s)
  (hd : ∀ s s', I s → f s = .next s' → I s' ∧ μ s' < μ s)
  (hne : ∀ s x s', f s = .stop x s' → x ≠ .normal)
  (step' : ∀ s, I s → AllT (fun v => v = rdV n A B (f s)) (backT N live us (t (frameOf n live (A s)) (B s))))
  (hout : ∀ s, E s → (out s).all fun q => q = ((runW f (μ s + 1) s).1, frameOf n live (A (runW f (μ s + 1) s).2), B (runW f (μ s + 1) s).2)) :
  SoundA P G (AN N) (.loop b) (loopT N n live us sel out) := by
 intro r w0 Z0 Z β F H a w ds Q x F' H' hgh hr hD hW hF h hQ
 unfold loopT at h
 split at h
 ·rename_i hlen
  obtain ⟨s, h0, h2⟩ := T.bind_all h
  obtain ⟨v, hv, h1⟩ := T.bind_all h0
  split at h1
  ·rename_i hlow
   obtain ⟨hE, hvv, hbk⟩ := hsel _ _ s h1
   have hI := hEI s hE
   have h2 := T.agree h2 (hout s hE)
   simp only [Prod.mk.injEq] at h2
   obtain ⟨h2, h3, h4⟩ := h2
   obtain ⟨_, _, Z1, β1, hW1, hF1⟩ := canT_sound hgh hW hF hv hlow
   rw [hlen, hvv, hbk] at hF1
   rw [hbk] at hW1
   subst h2 h3 h4
   refine wpIn_loop_rounds (μ s + 1) ?_
   have key : ∀ (k : Nat) (s : σ) (ds : List Deferred) (Z : Nat → Prop) (β : Nat → Loc) (a : Act) (w : World), I s → μ s < k → DsOk w0 Z0 ds → RW G w0 Z0 Z β (B s) w → RF ds β Z w (B s).length (frameOf n live (A s)) a →
     (∀ ds' Z' β' a' w', DsOk w0 Z0 ds' → RW G w0 Z0 Z' β' (B (runW f k s).2) w' → RF ds' β' Z' w' (B (runW f k s).2).length (frameOf n live (A (runW f k s).2)) a' → Q (exOf (runW f k s).1) a' w') → Code.roundsIn (fen r) 0 P b Q k a w := by
    intro k
    induction k with
    | zero => intro s ds Z β a w _ h; omega
    | succ k ih =>
     intro s ds Z β a w hI hm hD hW hF hQ
     rw [roundsIn_succ]
     obtain ⟨v, h1, h2⟩ := T.pick (step' s hI).out
     obtain ⟨⟨x, F1, H1⟩, h3, h4⟩ := T.bind_all h2
     refine hb r w0 Z0 Z β _ (B s) a w ds _ x F1 H1 hgh hr hD hW hF h3 fun ds' Z' β' a' w' e0 e1 e2 => ?_
     cases hf : f s with
     | next s' =>
      rw [hf] at h1
      subst h1
      obtain ⟨g1, g2, Z2, β2, k1, k2⟩ := canT_sound hgh e1 e2 h4 rfl
      simp only [rdV] at g1 g2 k1 k2
      subst g1
      obtain ⟨i1, i2⟩ := hd s s' hI hf
      rw [← g2] at k2
      refine ih s' ds' Z2 β2 a' w' i1 (by omega) e0 k1 k2 ?_
      have : runW f (k + 1) s = runW f k s' := by simp only [runW, hf]
      rw [this] at hQ
      exact hQ
     | stop y s' =>
      rw [hf] at h1
      subst h1
      obtain ⟨g1, g2, Z2, β2, k1, k2⟩ := canT_sound hgh e1 e2 h4 rfl
      simp only [rdV] at g1 g2 k1 k2
      subst g1
      have hn := hne s y s' hf
      rw [← g2] at k2
      have : runW f (k + 1) s = (y, s') := by simp only [runW, hf]
      rw [this] at hQ
      have hq := hQ ds' Z2 β2 a' w' e0 k1 k2
      cases y with
      | normal => exact absurd rfl hn
      | exit k => exact hq
      | ret => exact hq
   exact key _ s ds Z1 β1 a w hI (Nat.lt_succ_self _) hD hW1 hF1 hQ
  ·cases h1
 ·cases h
def allR {σ : Type} (Pn : σ → Prop) (Ps : Ex → σ → Prop) : Rd σ → Prop
 | .next s => Pn s
 | .stop x s => Ps x s
theorem allR_ite {σ : Type} {Pn : σ → Prop} {Ps : Ex → σ → Prop} {c : Bool} {x y : Rd σ} (h1 : c = true → allR Pn Ps x) (h2 : c = false → allR Pn Ps y) : allR Pn Ps (if c = true then x else y) := by
 cases c with
 | true => exact h1 rfl
 | false => exact h2 rfl
theorem allR_next {σ : Type} {Pn : σ → Prop} {Ps : Ex → σ → Prop} {r : Rd σ} (h : allR Pn Ps r) {s : σ} (e : r = .next s) : Pn s := by subst e; exact h
theorem allR_stop {σ : Type} {Pn : σ → Prop} {Ps : Ex → σ → Prop} {r : Rd σ} (h : allR Pn Ps r) {x : Ex} {s : σ} (e : r = .stop x s) : Ps x s := by subst e; exact h
def isEx : Ex → Ex → Bool
 | .normal, .normal => true
 | .ret, .ret => true
 | .exit n, .exit m => n == m
 | _, _ => false
theorem stp_br {σ : Type} {n : Nat} {A : σ → List LV} {B : σ → List Blk} {c : Bool} {t e : T Vw} {x y : Rd σ} (h1 : c = true → t.all (fun v => v = rdV n A B x)) (h2 : c = false → e.all (fun v => v = rdV n A B y)) :
  (T.br c t e).all (fun v => v = rdV n A B (if c = true then x else y)) := by
 cases c with
 | true => exact ⟨fun _ => h1 rfl, fun h => by cases h⟩
 | false => exact ⟨fun h => (by cases h), fun _ => h2 rfl⟩
/-! ### a loop, told by a tree of its rounds -/
theorem runW_fin {S Y : Type} {f : S → Rd S} {I : S → Prop} {μ : S → Nat} {V : S → Y} {Q : Ex → S → Y → Prop} (hd : ∀ s s', I s → f s = .next s' → I s' ∧ μ s' < μ s) (hv : ∀ s, I s → allR (fun s' => V s' = V s) (fun x s' => Q x s' (V s)) (f s)) : ∀ (k : Nat) (s : S), I s → μ s < k → Q (runW f k s).1 (runW f k s).2 (V s)
 | 0, s, _, h => by omega
 | k + 1, s, h, hk => by
  have h2 := hv s h
  simp only [runW]
  cases e : f s with
  | next s' =>
   rw [e] at h2
   obtain ⟨d1, d2⟩ := hd s s' h e
   have := runW_fin hd hv k s' d1 (by omega)
   simp only
   rw [show V s = V s' from h2.symm]
   exact this
  | stop x s' =>
   rw [e] at h2
   exact h2
def T.rd {σ : Type} (s : σ) : T (Rd σ) → Rd σ
 | .ok x => x
 | .br b x y => if b = true then x.rd s else y.rd s
 | .req _ x => x.rd s
 | .no => .stop .normal s
def T.mp {α β : Type} (k : α → β) : T α → T β
 | .ok x => .ok (k x)
 | .br b x y => .br b (x.mp k) (y.mp k)
 | .req p x => .req p (x.mp k)
 | .no => .no
theorem T.mp_all {α β : Type} {k : α → β} {K : β → Prop} : ∀ {t : T α}, t.all (fun x => K (k x)) → (t.mp k).all K
 | .ok _, h => h
 | .br _ _ _, h => ⟨fun c => T.mp_all (h.1 c), fun c => T.mp_all (h.2 c)⟩
 | .req _ _, h => ⟨h.1, T.mp_all h.2⟩
 | .no, h => h
theorem T.rd_all {σ : Type} {s : σ} : ∀ {t : T (Rd σ)}, t.all (fun _ => True) → t.all (fun x => x = t.rd s)
 | .ok _, _ => rfl
 | .br b _ _, h => by
  cases b with
  | true => exact ⟨fun c => T.rd_all (h.1 c), fun c => by cases c⟩
  | false => exact ⟨fun c => (by cases c), fun c => T.rd_all (h.2 c)⟩
 | .req _ _, h => ⟨h.1, T.rd_all h.2⟩
 | .no, h => h
theorem T.rd_mp {σ : Type} {s : σ} {k : Rd σ → Rd σ} (h0 : k (.stop .normal s) = .stop .normal s) : ∀ {t : T (Rd σ)}, t.mp k = t → k (t.rd s) = t.rd s
 | .ok x, h => by
  simp only [T.mp, T.ok.injEq] at h
  simp only [T.rd, h]
 | .br b x y, h => by
  simp only [T.mp, T.br.injEq, true_and] at h
  simp only [T.rd]
  split
  ·exact T.rd_mp h0 h.1
  ·exact T.rd_mp h0 h.2
 | .req _ x, h => by
  simp only [T.mp, T.req.injEq, true_and] at h
  exact T.rd_mp (t := x) h0 h
 | .no, _ => h0
structure LpD (σ : Type) where
 N : Nat
 n : Nat
 lv : List Nat
 us : List Up
 A : σ → List LV
 B : σ → List Blk
 g : List LV → List Blk → σ
 t : σ → T (Rd σ)
 kp : σ → σ → σ
 rd : σ → σ
 fx : Ex → σ → σ
 xs : List Ex
 E : σ → Prop
 I : σ → Prop
 mu : σ → Nat
def outT {β : Type} (e : Ex) (k : Ex → β) : List Ex → T β
 | [] => .no
 | [x] => .ok (k x)
 | x :: y :: xs => .br (isEx e x) (.ok (k x)) (outT e k (y :: xs))
theorem isEx_refl : ∀ (x : Ex), isEx x x = true
 | .normal => rfl
 | .ret => rfl
 | .exit _ => by simp [isEx]
theorem isEx_eq : ∀ {x y : Ex}, isEx x y = true → x = y
 | .normal, .normal, _ => rfl
 | .ret, .ret, _ => rfl
 | .exit _, .exit _, h => by simpa [isEx] using h
theorem outT_all {β : Type} {e : Ex} {k : Ex → β} : ∀ {xs : List Ex}, xs.any (isEx e) = true → (outT e k xs).all (fun q => q = k e)
 | [], h => by cases h
 | [x], h => by
  simp only [List.any_cons, List.any_nil, Bool.or_false] at h
  rw [isEx_eq h]; rfl
 | x :: y :: xs, h => by
  refine ⟨fun c => ?_, fun c => outT_all ?_⟩
  ·rw [isEx_eq c]; rfl
  ·rw [List.any_cons, c, Bool.false_or] at h; exact h
def exB {σ : Type} (xs : List Ex) : T (Rd σ) → Bool
 | .ok (.next _) => true
 | .ok (.stop x _) => xs.any (isEx x) && !isEx x .normal
 | .br _ x y => exB xs x && exB xs y
 | .req _ x => exB xs x
 | .no => false
theorem exB_rd {σ : Type} {xs : List Ex} {s s' : σ} {x : Ex} : ∀ {t : T (Rd σ)}, exB xs t = true → t.rd s = .stop x s' → xs.any (isEx x) = true ∧ x ≠ .normal
 | .ok (.next _), _, h => by cases h
 | .ok (.stop y _), h, e => by
  simp only [T.rd, Rd.stop.injEq] at e
  simp only [exB, Bool.and_eq_true, Bool.not_eq_true'] at h
  rw [e.1] at h
  refine ⟨h.1, fun e => ?_⟩
  rw [e] at h
  exact absurd h.2 (by simp [isEx])
 | .br b x y, h, e => by
  simp only [exB, Bool.and_eq_true] at h
  simp only [T.rd] at e
  split at e
  ·exact exB_rd h.1 e
  ·exact exB_rd h.2 e
 | .req _ x, h, e => exB_rd (t := x) h e
 | .no, h, _ => by cases h
namespace LpD
variable {σ : Type} (D : LpD σ)
def f (s : σ) : Rd σ := (D.t s).rd s
def run (s : σ) : σ := D.kp s (runW D.f (D.mu s + 1) s).2
def exn (s : σ) : Ex := (runW D.f (D.mu s + 1) s).1
def sel (vals : List LV) (blks : List Blk) : T σ := selT D.E D.A D.B (D.g vals blks) vals blks
def out (s : σ) : T (Ex × List LV × List Blk) := outT (D.exn s) (fun x => (x, frameOf D.n D.lv (D.A (D.fx x (D.run s))), D.B (D.fx x (D.run s)))) D.xs
def lp : List LV → List Blk → T (Ex × List LV × List Blk) := loopT D.N D.n D.lv D.us D.sel D.out
def q (s : σ) : Prop := D.E s ∧ D.A s = D.A s ∧ D.B s = D.B s
def kpR (s : σ) : Rd σ → Rd σ
 | .next s' => .next (D.kp s s')
 | .stop x s' => .stop x (D.kp s s')
def fxR : Rd σ → Rd σ
 | .next s' => .next s'
 | .stop x s' => .stop x (D.fx x s')
structure Ok : Prop where
 keep : ∀ s, (D.t (D.rd s)).mp (D.kpR (D.rd s)) = D.t (D.rd s)
 fix : ∀ s, (D.t (D.rd s)).mp D.fxR = D.t (D.rd s)
 keep0 : ∀ s, D.kp s s = s
 keep2 : ∀ s t r, D.kp (D.kp s t) r = D.kp s r
 fx0 : ∀ s, D.fx .normal (D.rd s) = D.rd s
 exs : ∀ s, exB D.xs (D.t s) = true
structure Pf (Q : Ex → σ → σ → Prop) : Prop where
 ei : ∀ s, D.E s → D.I s
 rdy : ∀ s, D.I s → D.rd s = s
 da : ∀ s, D.I s → allR (fun s' => D.I s' ∧ D.mu s' < D.mu s) (fun x s' => Q x s s') (D.f s)
 rq : ∀ s, D.I s → (D.t s).all (fun _ => True)
variable {D} {Q : Ex → σ → σ → Prop}
theorem Pf.nx (p : D.Pf Q) (s s' : σ) (h : D.I s) (e : D.f s = .next s') : D.I s' ∧ D.mu s' < D.mu s := allR_next (p.da s h) e
theorem kept (o : D.Ok) (p : D.Pf Q) : ∀ (k : Nat) (s : σ), D.I s → D.mu s < k → D.kp s (runW D.f k s).2 = (runW D.f k s).2 ∧ D.fx (runW D.f k s).1 (runW D.f k s).2 = (runW D.f k s).2 ∧ D.xs.any (isEx (runW D.f k s).1) = true
 | 0, _, _, h => by omega
 | k + 1, s, hI, hk => by
  have h1 := o.keep s
  have h2 := o.fix s
  have h0 := o.fx0 s
  rw [p.rdy s hI] at h0 h1 h2
  have hl := T.rd_mp (s := s) (by simp only [kpR, o.keep0]) h1
  have hx := T.rd_mp (s := s) (by simp only [fxR, h0]) h2
  change D.kpR s (D.f s) = D.f s at hl
  change D.fxR (D.f s) = D.f s at hx
  simp only [runW]
  cases hf : D.f s with
  | next s' =>
   rw [hf] at hl
   simp only [kpR, Rd.next.injEq] at hl
   obtain ⟨h1, h2⟩ := p.nx s s' hI hf
   obtain ⟨h3, h4⟩ := kept o p k s' h1 (by omega)
   refine ⟨?_, h4⟩
   have e := o.keep2 s s' (runW D.f k s').2
   rw [hl, h3] at e
   exact e.symm
  | stop x s' =>
   rw [hf] at hl hx
   simp only [kpR, fxR, Rd.stop.injEq, true_and] at hl hx
   exact ⟨hl, hx, (exB_rd (o.exs s) hf).1⟩
theorem run_eq (o : D.Ok) (p : D.Pf Q) {s : σ} (hE : D.E s) : (runW D.f (D.mu s + 1) s).2 = D.run s := (kept o p _ s (p.ei s hE) (Nat.lt_succ_self _)).1.symm
theorem end_ (o : D.Ok) (p : D.Pf Q) (s : σ) (hE : D.E s) : ∃ s', D.I s' ∧ D.f s' = .stop (D.exn s) (D.run s) := by
 rw [← run_eq o p hE]
 exact runW_stop p.nx (D.mu s + 1) s (p.ei s hE) (Nat.lt_succ_self _)
theorem fin (o : D.Ok) (p : D.Pf Q) (s : σ) (hE : D.E s) : ∃ s', D.I s' ∧ Q (D.exn s) s' (D.run s) := by
 obtain ⟨s', hI, hf⟩ := end_ o p s hE
 exact ⟨s', hI, allR_stop (p.da s' hI) hf⟩
theorem snd (o : D.Ok) (p : D.Pf Q) {b : Code} {t : List LV → List Blk → T (Ex × List LV × List Blk)} (hb : SoundA P G (AN D.N) b t)
  (hn : ∀ s, backT D.N D.lv D.us (t (frameOf D.n D.lv (D.A (D.rd s))) (D.B (D.rd s))) = (D.t (D.rd s)).mp (rdV D.n D.A D.B)) : SoundA P G (AN D.N) (.loop b) D.lp := by
 refine loop_view D.N D.n D.lv D.us D.A D.B D.I D.E D.mu D.f D.sel D.out hb (fun _ _ _ h => selT_ok h) p.ei p.nx (fun s x s' hf => (exB_rd (o.exs s) hf).2) (fun s hI => ⟨?_⟩) fun s hE => ?_
 ·have h := hn s
  rw [p.rdy s hI] at h
  rw [h]
  exact T.mp_all (T.all_mono (fun x hx => by rw [hx]; rfl) (T.rd_all (s := s) (p.rq s hI)))
 ·obtain ⟨h1, h2, h3⟩ := kept o p _ s (p.ei s hE) (Nat.lt_succ_self (D.mu s))
  have h4 := outT_all (k := fun x => (x, frameOf D.n D.lv (D.A (D.fx x (D.run s))), D.B (D.fx x (D.run s)))) h3
  refine T.all_mono (fun q hq => ?_) h4
  rw [hq]
  simp only [run, h1, h2]
theorem finV (o : D.Ok) (p : D.Pf Q) {Y : Type} (V : σ → Y) (K : Ex → σ → Y → Prop) (hv : ∀ s, D.I s → allR (fun s' => V s' = V s) (fun x s' => K x s' (V s)) (D.f s)) (s : σ) (hE : D.E s) : K (D.exn s) (D.run s) (V s) := by
 rw [← run_eq o p hE]
 exact runW_fin p.nx hv (D.mu s + 1) s (p.ei s hE) (Nat.lt_succ_self _)
theorem keepV (o : D.Ok) (p : D.Pf Q) {Y : Type} (V : σ → Y) (hv : ∀ s, D.I s → allR (fun s' => V s' = V s) (fun _ s' => V s' = V s) (D.f s)) (s : σ) (hE : D.E s) : V (D.run s) = V s := finV o p V (fun _ s' v => V s' = v) hv s hE
def stR (s : σ) : Rd σ → Rd σ
 | .next s' => .next s'
 | .stop x _ => .stop x s
theorem inv (o : D.Ok) (p : D.Pf Q) (hs : ∀ s, (D.t s).mp (stR s) = D.t s) (s : σ) (hE : D.E s) : D.I (D.run s) ∧ D.f (D.run s) = .stop (D.exn s) (D.run s) := by
 obtain ⟨s', hI, hf⟩ := end_ o p s hE
 have h := T.rd_mp (s := s') (k := stR s') rfl (hs s')
 have h : stR s' (D.f s') = D.f s' := h
 rw [hf] at h
 simp only [stR, Rd.stop.injEq, true_and] at h
 subst h
 exact ⟨hI, hf⟩
end LpD
end Go.Sx
