/- The executor: loops by a round's plain function. -/
import Derived.Test.YtiejmafkbfiekaaDoorSxL
namespace Go.Sx
open Go Go.RowKit Go.Proofs.YtiejmafkbfiekaaDoor

variable {P : Program} {G : Globs} {Γ : Specs} {L : Loops} {β : Nat → Nat} {Z : Nat → Prop} {Z0 : Gz} {w w0 : World} {F : List LV} {H : List Blk} {a : Act} {n : Nat}

/- No own block from m on is named. -/
mutual
def lowV (m : Nat) : LV → Bool
  | .own k _ => decide (k < m)
  | .agg l => lowL m l
  | .tup l => lowL m l
  | .fn _ l => lowL m l
  | _ => true
def lowL (m : Nat) : List LV → Bool
  | [] => true
  | x :: xs => lowV m x && lowL m xs
end
mutual
theorem lowV_ok {n m : Nat} : ∀ (x : LV), lowV m x = true → okV n x → okV m x
  | .v _, _, _ => trivial
  | .bl _, _, _ => trivial
  | .own k _, h, _ => by simpa [lowV, okV] using h
  | .agg l, h, hk => by simp only [okV, lowV] at *; exact lowL_ok l h hk
  | .tup l, h, hk => by simp only [okV, lowV] at *; exact lowL_ok l h hk
  | .fn _ l, h, hk => by simp only [okV, lowV] at *; exact lowL_ok l h hk
  | .xq _ _, _, hk => by simpa only [okV] using hk
  | .xs _ _ _, _, hk => by simpa only [okV] using hk
  | .xl _ _, _, _ => trivial
  | .junk, _, _ => trivial
theorem lowL_ok {n m : Nat} : ∀ (x : List LV), lowL m x = true → okL n x → okL m x
  | [], _, _ => trivial
  | x :: xs, h, hk => by
    simp only [okL, lowL, Bool.and_eq_true] at *
    exact ⟨lowV_ok x h.1 hk.1, lowL_ok xs h.2 hk.2⟩
end
def lowB (m : Nat) : List Blk → Bool
  | [] => true
  | b :: bs => lowL m b.c && lowB m bs
theorem lowB_get {m : Nat} : ∀ {H : List Blk} (k : Nat) (b : Blk), lowB m H = true → H[k]? = some b → lowL m b.c = true
  | [], k, b, _, h => by simp at h
  | b0 :: bs, k, b, hl, h => by
    simp only [lowB, Bool.and_eq_true] at hl
    cases k with
    | zero => simp at h; subst h; exact hl.1
    | succ k => simp at h; exact lowB_get k b hl.2 h

/-- The own blocks from m on are forgotten. -/
theorem RW.take {m : Nat} (hgh : Z0.gh = []) (hW : RW G w0 Z0 Z β H w) (hl : lowB (H.take m).length (H.take m) = true) : RW G w0 Z0 Z β (H.take m) w := by
  have hlen : (H.take m).length ≤ H.length := by simp; omega
  refine ⟨hW.below, hW.zlt, hW.znew, fun k hk => hW.zown k (by omega), fun i j hi hj => hW.inj i j (by omega) (by omega), fun k b hb => ?_, hW.glob, fun p hp => by rw [hgh] at hp; cases hp⟩
  have hk : k < (H.take m).length := (List.getElem?_eq_some_iff.1 hb).1
  have hb' : H[k]? = some b := by
    rw [List.getElem?_take] at hb
    split at hb
    · exact hb
    · cases hb
  obtain ⟨h1, h2, h3⟩ := hW.blk k b hb'
  exact ⟨h1, h2, lowL_ok _ (lowB_get k b hl hb) h3⟩

/-- A frame of n slots that knows the slots live alone. -/
def at_ (i : Nat) : List Nat → List LV → LV
  | j :: js, x :: xs => if i = j then x else at_ i js xs
  | _, _ => .junk
def frameGo (live : List Nat) (vals : List LV) : Nat → Nat → List LV
  | 0, _ => []
  | n + 1, i => at_ i live vals :: frameGo live vals n (i + 1)
def frameOf (n : Nat) (live : List Nat) (vals : List LV) : List LV := frameGo live vals n 0
theorem frameGo_length (live : List Nat) (vals : List LV) : ∀ n i, (frameGo live vals n i).length = n
  | 0, _ => rfl
  | n + 1, i => by simp [frameGo, frameGo_length live vals n (i + 1)]
theorem frameGo_get (live : List Nat) (vals : List LV) : ∀ n i k, k < n → (frameGo live vals n i)[k]? = some (at_ (i + k) live vals)
  | 0, _, k, h => by omega
  | n + 1, i, 0, _ => by simp [frameGo]
  | n + 1, i, k + 1, h => by
    simp only [frameGo, List.getElem?_cons_succ]
    rw [frameGo_get live vals n (i + 1) k (by omega)]
    congr 2; omega
theorem at_view (F : List LV) (i : Nat) : ∀ (live : List Nat), at_ i live (live.map fun j => norm (F.getD j .junk)) = .junk ∨ at_ i live (live.map fun j => norm (F.getD j .junk)) = norm (F.getD i .junk)
  | [] => .inl rfl
  | j :: js => by
    simp only [List.map_cons, at_]
    split
    · rename_i h; subst h; exact .inr rfl
    · exact at_view F i js
theorem at_low {m i : Nat} : ∀ (live : List Nat) (vals : List LV), lowL m vals = true → lowV m (at_ i live vals) = true
  | [], _, _ => by simp [at_, lowV]
  | j :: js, [], _ => by simp [at_, lowV]
  | j :: js, x :: xs, h => by
    simp only [lowL, Bool.and_eq_true] at h
    simp only [at_]
    split
    · exact h.1
    · exact at_low js xs h.2
/-- What is looked at behind a round. -/
def viewF (live : List Nat) (F : List LV) : List LV := live.map fun j => norm (F.getD j .junk)
theorem RF.view {m : Nat} {live : List Nat} (hF : RF β Z w n F a) (hl : lowL m (viewF live F) = true) : RF β Z w m (frameOf F.length live (viewF live F)) a := by
  refine ⟨by rw [hF.size]; simp [frameOf, frameGo_length], fun t x hx => ?_, hF.defers⟩
  have ht : t < F.length := by have := (List.getElem?_eq_some_iff.1 hx).1; simpa [frameOf, frameGo_length] using this
  unfold frameOf at hx
  rw [frameGo_get live _ _ _ t ht] at hx
  simp only [Option.some.injEq, Nat.zero_add] at hx
  have hlow := at_low (m := m) (i := t) live _ hl
  rw [hx] at hlow
  rcases at_view F t live with h | h
  · have : x = .junk := by rw [← hx]; exact h
    subst this
    exact ⟨by simp only [R], trivial⟩
  · have hx2 : norm (F.getD t .junk) = x := by rw [← hx]; exact h.symm
    have hx3 : F.getD t .junk = F[t] := by simp [List.getD, List.getElem?_eq_getElem ht]
    obtain ⟨h1, h2⟩ := hF.get t F[t] (List.getElem?_eq_getElem ht)
    rw [hx3] at hx2
    exact ⟨by rw [← hx2]; exact norm_R h1, lowV_ok _ hlow (by rw [← hx2]; exact norm_ok h2)⟩

structure Vw where
  ex : Ex
  len : Nat
  vals : List LV
  blks : List Blk
  low : Bool
def viewQ (live : List Nat) (m : Nat) (q : Ex × List LV × List Blk) : Vw :=
  ⟨q.1, q.2.1.length, viewF live q.2.1, q.2.2.take m, lowL (q.2.2.take m).length (viewF live q.2.1) && lowB (q.2.2.take m).length (q.2.2.take m)⟩

/-- One round: on to another state, or out of the loop (how, and with which state). -/
inductive Rd (σ : Type) where
  | next (s : σ)
  | stop (x : Ex) (s : σ)
/-- What is seen behind a round that is f s. -/
def rdV {σ : Type} (n : Nat) (A : σ → List LV) (B : σ → List Blk) : Rd σ → Vw
  | .next s' => ⟨.normal, n, A s', B s', true⟩
  | .stop x s' => ⟨x, n, A s', B s', true⟩
structure AllT {α : Type} (K : α → Prop) (t : T α) : Prop where
  out : t.all K
theorem view_all {t : T (Ex × List LV × List Blk)} {live : List Nat} {m : Nat} {K : Vw → Prop} (h : (t.bind (fun q => .ok (viewQ live m q))).all K) : t.all (fun q => K (viewQ live m q)) := T.all_bind.1 h
def runW {σ : Type} (f : σ → Rd σ) : Nat → σ → Ex × σ
  | 0, s => (.ret, s)
  | k + 1, s => match f s with
    | .next s' => runW f k s'
    | .stop x s' => (x, s')
theorem runW_more {σ : Type} {f : σ → Rd σ} {μ : σ → Nat} {I : σ → Prop} (hd : ∀ s s', I s → f s = .next s' → I s' ∧ μ s' < μ s) : ∀ (k j : Nat) (s : σ), I s → μ s < k → μ s < j → runW f k s = runW f j s
  | 0, _, s, _, h, _ => by omega
  | _ + 1, 0, s, _, _, h => by omega
  | k + 1, j + 1, s, hi, hk, hj => by
    simp only [runW]
    split
    · rename_i s' hs
      obtain ⟨h1, h2⟩ := hd s s' hi hs
      exact runW_more hd k j s' h1 (by omega) (by omega)
    · rfl

theorem runW_stop {σ : Type} {f : σ → Rd σ} {μ : σ → Nat} {I : σ → Prop} (hd : ∀ s s', I s → f s = .next s' → I s' ∧ μ s' < μ s) : ∀ (k : Nat) (s : σ), I s → μ s < k → ∃ s', I s' ∧ f s' = .stop (runW f k s).1 (runW f k s).2
  | 0, s, _, h => by omega
  | k + 1, s, hi, hk => by
    simp only [runW]
    cases hf : f s with
    | next s' =>
      obtain ⟨h1, h2⟩ := hd s s' hi hf
      exact runW_stop hd k s' h1 (by omega)
    | stop x s' => exact ⟨s, hi, hf⟩
theorem runW_keep {σ α : Type} {f : σ → Rd σ} (p : σ → α) (hn : ∀ s s', f s = .next s' → p s' = p s) (hs : ∀ s x s', f s = .stop x s' → p s' = p s) : ∀ (k : Nat) (s : σ), p (runW f k s).2 = p s
  | 0, _ => rfl
  | k + 1, s => by
    simp only [runW]
    cases hf : f s with
    | next s' => exact (runW_keep p hn hs k s').trans (hn s s' hf)
    | stop x s' => exact hs s x s' hf
theorem T.agree {α : Type} {K : α → Prop} {p : α} : ∀ {t : T α}, t.all (fun x => x = p) → t.all K → K p
  | .ok _, h, hk => by simp only [T.all] at h hk; exact h ▸ hk
  | .br b t e, h, hk => by
    cases b with
    | true => exact T.agree (h.1 rfl) (hk.1 rfl)
    | false => exact T.agree (h.2 rfl) (hk.2 rfl)
  | .req _ t, h, hk => T.agree h.2 hk.2
  | .no, h, _ => by cases h
def loopT {σ : Type} (n m : Nat) (live : List Nat) (sel : List LV → List Blk → T σ) (out : σ → T (Ex × List LV × List Blk)) (F : List LV) (H : List Blk) : T (Ex × List LV × List Blk) :=
  if F.length = n then (sel (viewF live F) (H.take m)).bind out else .no
theorem loop_view {σ : Type} (n m : Nat) (live : List Nat) (A : σ → List LV) (B : σ → List Blk) (I E : σ → Prop) (μ : σ → Nat) (f : σ → Rd σ) (sel : List LV → List Blk → T σ) (out : σ → T (Ex × List LV × List Blk)) {b : Code} {t : List LV → List Blk → T (Ex × List LV × List Blk)} (hb : Sound P G b t)
    (hsel : ∀ vals blks s, (sel vals blks).all (fun x => x = s) → E s ∧ vals = A s ∧ blks = B s) (hEI : ∀ s, E s → I s)
    (hlow : ∀ s, I s → lowL (B s).length (A s) = true ∧ lowB (B s).length (B s) = true)
    (hd : ∀ s s', I s → f s = .next s' → I s' ∧ μ s' < μ s)
    (hne : ∀ s x s', f s = .stop x s' → x ≠ .normal)
    (step' : ∀ s, I s → AllT (fun v => v = rdV n A B (f s)) ((t (frameOf n live (A s)) (B s)).bind (fun q => .ok (viewQ live m q))))
    (hout : ∀ s, E s → (out s).all fun q => q = ((runW f (μ s + 1) s).1, frameOf n live (A (runW f (μ s + 1) s).2), B (runW f (μ s + 1) s).2)) :
    Sound P G (.loop b) (loopT n m live sel out) := by
  have step : ∀ s, I s → (t (frameOf n live (A s)) (B s)).all fun q => viewQ live m q = rdV n A B (f s) := fun s hI => view_all (K := fun v => v = rdV n A B (f s)) (step' s hI).out
  intro w0 Z0 Z β F H a w Q x F' H' hgh hW hF h hQ
  unfold loopT at h
  split at h
  · rename_i hlen
    obtain ⟨s, h1, h2⟩ := T.bind_all h
    obtain ⟨hE, hv, hbk⟩ := hsel _ _ s h1
    have hI := hEI s hE
    have h2 := T.agree h2 (hout s hE)
    simp only [Prod.mk.injEq] at h2
    obtain ⟨h2, h3, h4⟩ := h2
    obtain ⟨l1, l2⟩ := hlow s hI
    rw [← hbk] at l1 l2
    rw [← hv] at l1
    have hW1 := hW.take hgh l2
    have hF1 := hF.view l1
    rw [hlen, hv] at hF1
    rw [hbk] at hW1 hF1
    subst h2 h3 h4
    refine wp_loop_rounds (μ s + 1) ?_
    clear h h1 hv hbk hW hF l1 l2
    have key : ∀ (k : Nat) (s : σ) (Z : Nat → Prop) (β : Nat → Nat) (a : Act) (w : World), I s → μ s < k → RW G w0 Z0 Z β (B s) w → RF β Z w (B s).length (frameOf n live (A s)) a →
        (∀ Z' β' a' w', RW G w0 Z0 Z' β' (B (runW f k s).2) w' → RF β' Z' w' (B (runW f k s).2).length (frameOf n live (A (runW f k s).2)) a' → Q (exOf (runW f k s).1) a' w') → Code.rounds P b Q k a w := by
      intro k
      induction k with
      | zero => intro s Z β a w _ h; omega
      | succ k ih =>
        intro s Z β a w hI hm hW hF hQ
        rw [rounds_succ]
        obtain ⟨⟨x, F1, H1⟩, h1, h2⟩ := T.pick (step s hI)
        refine hb w0 Z0 Z β _ (B s) a w _ x F1 H1 hgh hW hF h2 fun Z' β' a' w' e1 e2 => ?_
        cases hf : f s with
        | next s' =>
          rw [hf] at h1
          simp only [viewQ, rdV, Vw.mk.injEq, Bool.and_eq_true] at h1
          obtain ⟨g1, g2, g3, g4, g5, g6⟩ := h1
          subst g1
          obtain ⟨i1, i2⟩ := hd s s' hI hf
          have k1 := e1.take hgh g6
          have k2 := e2.view g5
          rw [g3, g2, g4] at k2
          rw [g4] at k1
          refine ih s' Z' β' a' w' i1 (by omega) k1 k2 ?_
          have : runW f (k + 1) s = runW f k s' := by simp only [runW, hf]
          rw [this] at hQ
          exact hQ
        | stop y s' =>
          rw [hf] at h1
          simp only [viewQ, rdV, Vw.mk.injEq, Bool.and_eq_true] at h1
          obtain ⟨g1, g2, g3, g4, g5, g6⟩ := h1
          subst g1
          have hn := hne s x s' hf
          have k1 := e1.take hgh g6
          have k2 := e2.view g5
          rw [g3, g2, g4] at k2
          rw [g4] at k1
          have : runW f (k + 1) s = (x, s') := by simp only [runW, hf]
          rw [this] at hQ
          have hq := hQ Z' β' a' w' k1 k2
          cases x with
          | normal => exact absurd rfl hn
          | exit k => exact hq
          | ret => exact hq
    exact key _ s Z β a w hI (Nat.lt_succ_self _) hW1 hF1 hQ
  · cases h
def allR {σ : Type} (Pn : σ → Prop) (Ps : Ex → σ → Prop) : Rd σ → Prop
  | .next s => Pn s
  | .stop x s => Ps x s
theorem allR_ite {σ : Type} {Pn : σ → Prop} {Ps : Ex → σ → Prop} {c : Bool} {x y : Rd σ} (h1 : c = true → allR Pn Ps x) (h2 : c = false → allR Pn Ps y) : allR Pn Ps (if c = true then x else y) := by
  cases c with
  | true => exact h1 rfl
  | false => exact h2 rfl
theorem allR_next {σ : Type} {Pn : σ → Prop} {Ps : Ex → σ → Prop} {r : Rd σ} (h : allR Pn Ps r) {s : σ} (e : r = .next s) : Pn s := by subst e; exact h
theorem allR_stop {σ : Type} {Pn : σ → Prop} {Ps : Ex → σ → Prop} {r : Rd σ} (h : allR Pn Ps r) {x : Ex} {s : σ} (e : r = .stop x s) : Ps x s := by subst e; exact h
def isEx : Ex → Ex → Bool
  | .normal, .normal => true
  | .ret, .ret => true
  | .exit n, .exit m => n == m
  | _, _ => false
theorem stp_br {σ : Type} {n : Nat} {A : σ → List LV} {B : σ → List Blk} {c : Bool} {t e : T Vw} {x y : Rd σ} (h1 : c = true → t.all (fun v => v = rdV n A B x)) (h2 : c = false → e.all (fun v => v = rdV n A B y)) :
    (T.br c t e).all (fun v => v = rdV n A B (if c = true then x else y)) := by
  cases c with
  | true => exact ⟨fun _ => h1 rfl, fun h => by cases h⟩
  | false => exact ⟨fun h => (by cases h), fun _ => h2 rfl⟩
end Go.Sx
