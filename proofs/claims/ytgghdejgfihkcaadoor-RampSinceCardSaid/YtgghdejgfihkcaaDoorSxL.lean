/- The executor: loops. -/
import Derived.Test.YtgghdejgfihkcaaDoorSxG
import Derived.LoopN
namespace Go.Sx
open Go Go.RowKit Go.Proofs.YtgghdejgfihkcaaDoor

variable {P : Program} {G : Globs} {Γ : Specs} {L : Loops} {β : Nat → Nat} {Z Z0 : Nat → Prop} {w w0 : World} {F : List LV} {H : List Blk} {a : Act} {n : Nat}

/-- F2 knows no more than F. -/
def weak (F F2 : List LV) : Prop := F2.length = F.length ∧ ∀ i, F2.getD i .junk = .junk ∨ F2.getD i .junk = F.getD i .junk
/-- The same, to be reckoned: where the mark is true the slot is kept, else it is forgotten. -/
def forget : List Bool → List LV → List LV
  | true :: bs, x :: xs => x :: forget bs xs
  | false :: bs, _ :: xs => .junk :: forget bs xs
  | [], xs => xs.map fun _ => .junk
  | _, [] => []
theorem weak_forget : ∀ (bs : List Bool) (F : List LV), weak F (forget bs F)
  | [], F => by
    refine ⟨by simp [forget], fun i => .inl ?_⟩
    simp only [forget, List.getD, List.getElem?_map]
    cases F[i]? <;> rfl
  | true :: bs, [] => ⟨rfl, fun i => .inl (by simp [forget])⟩
  | false :: bs, [] => ⟨rfl, fun i => .inl (by simp [forget])⟩
  | true :: bs, x :: xs => by
    obtain ⟨h1, h2⟩ := weak_forget bs xs
    refine ⟨by simp [forget, h1], fun i => ?_⟩
    cases i with
    | zero => exact .inr (by simp [forget])
    | succ i => simpa [forget] using h2 i
  | false :: bs, x :: xs => by
    obtain ⟨h1, h2⟩ := weak_forget bs xs
    refine ⟨by simp [forget, h1], fun i => ?_⟩
    cases i with
    | zero => exact .inl (by simp [forget])
    | succ i => simpa [forget] using h2 i
theorem RF.weak {F2 : List LV} (hF : RF β Z w n F a) (h : weak F F2) : RF β Z w n F2 a := by
  refine ⟨by rw [hF.size, h.1], fun t x hx => ?_, hF.defers⟩
  have ht : t < F.length := by rw [← h.1]; exact (List.getElem?_eq_some_iff.1 hx).1
  have hx' : F2.getD t .junk = x := by simp [List.getD, hx]
  rcases h.2 t with h1 | h1
  · rw [hx'] at h1; subst h1; exact ⟨by simp only [R], trivial⟩
  · rw [hx'] at h1
    refine hF.get t x ?_
    rw [List.getElem?_eq_getElem ht]
    simp [List.getD, List.getElem?_eq_getElem ht] at h1
    rw [h1]

/-- A loop: from the state s (frame A s, own memory B s) a round leads to a state that is nearer to the end, with the same outcome, or to the outcome. -/
theorem loop_sound {σ : Type} (A : σ → List LV) (B : σ → List Blk) (μ : σ → Nat) (out : σ → Ex × List LV × List Blk) {b : Code} {t : List LV → List Blk → T (Ex × List LV × List Blk)} (hb : Sound P G b t)
    (step : ∀ s, (t (A s) (B s)).all fun q => (q.1 = .normal ∧ ∃ s', μ s' < μ s ∧ weak q.2.1 (A s') ∧ q.2.2 = B s' ∧ out s' = out s) ∨ (q.1 ≠ .normal ∧ q.1 = (out s).1 ∧ weak q.2.1 (out s).2.1 ∧ q.2.2 = (out s).2.2)) :
    ∀ (s : σ) (w0 : World) (Z0 Z : Nat → Prop) (β : Nat → Nat) (a : Act) (w : World) (Q : Exit → Act → World → Prop), RW G w0 Z0 Z β (B s) w → RF β Z w (B s).length (A s) a →
      (∀ Z' β' a' w', RW G w0 Z0 Z' β' (out s).2.2 w' → RF β' Z' w' (out s).2.2.length (out s).2.1 a' → Q (exOf (out s).1) a' w') → (Code.loop b).wp P Q a w := by
  intro s w0 Z0 Z β a w Q hW hF hQ
  refine wp_loop_rounds (μ s + 1) ?_
  have key : ∀ (m : Nat) (s : σ) (Z : Nat → Prop) (β : Nat → Nat) (a : Act) (w : World), μ s < m → RW G w0 Z0 Z β (B s) w → RF β Z w (B s).length (A s) a →
      (∀ Z' β' a' w', RW G w0 Z0 Z' β' (out s).2.2 w' → RF β' Z' w' (out s).2.2.length (out s).2.1 a' → Q (exOf (out s).1) a' w') → Code.rounds P b Q m a w := by
    intro m
    induction m with
    | zero => intro s Z β a w h; omega
    | succ m ih =>
      intro s Z β a w hm hW hF hQ
      rw [rounds_succ]
      obtain ⟨⟨x, F1, H1⟩, h1, h2⟩ := T.pick (step s)
      refine hb w0 Z0 Z β (A s) (B s) a w _ x F1 H1 hW hF h2 fun Z' β' a' w' e1 e2 => ?_
      rcases h1 with ⟨g1, s', g2, g3, g4, g5⟩ | ⟨g1, g2, g3, g4⟩
      · simp only at g1 g3 g4
        subst g1 g4
        exact ih s' Z' β' a' w' (by omega) e1 (e2.weak g3) (by rw [g5]; exact hQ)
      · simp only at g1 g2 g3 g4
        have hq := hQ Z' β' a' w' (by rw [← g4]; exact e1) (by rw [← g4]; exact e2.weak g3)
        rw [← g2] at hq
        cases x with
        | normal => exact absurd rfl g1
        | exit k => exact hq
        | ret => exact hq
  exact key _ s Z β a w (Nat.lt_succ_self _) hW hF hQ

theorem no_specs : ∀ g S, (fun _ => none : Specs) g = some S → Valid P G g S := fun _ _ h => by cases h
theorem no_loops {c : Code} (h : loopsIn c = []) : ∀ b ∈ loopsIn c, Sound P G (.loop b) (L (firstR b)) := fun b hb => by rw [h] at hb; cases hb
/-- A list of specifications that are valid. -/
def Vs (P : Program) (G : Globs) : List (FuncId × (List LV → T LV)) → Prop
  | [] => True
  | p :: ps => Valid P G p.1 p.2 ∧ Vs P G ps
theorem specs_ok : ∀ {l : List (FuncId × (List LV → T LV))}, Vs P G l → ∀ g S, specsOf l g = some S → Valid P G g S
  | [], _, g, S, h => by cases h
  | p :: ps, hv, g, S, h => by
    simp only [specsOf] at h
    split at h
    · rename_i hg; simp only [Option.some.injEq] at h; subst h hg; exact hv.1
    · exact specs_ok hv.2 g S h
/-- Out of what the kernel reckons. -/
theorem all_of_eq {α : Type} {t t' : T α} {K : α → Prop} (h : t = t') (h' : t'.all K) : t.all K := h ▸ h'
end Go.Sx
