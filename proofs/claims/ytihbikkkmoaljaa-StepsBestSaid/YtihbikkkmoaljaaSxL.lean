/- The executor: loops. -/
import Derived.Test.YtihbikkkmoaljaaSxG
import Derived.LoopN
namespace Go.Sx
open Go Go.RowKit Go.Proofs.Ytihbikkkmoaljaa
variable {P : Program} {G : Globs} {Γ : Specs} {L : Loops} {β : Nat → Loc} {Z : Nat → Prop} {Z0 : Gz} {w w0 : World} {F : List LV} {H : List Blk} {a : Act} {ds : List Deferred} {n : Nat}
def weak (F F2 : List LV) : Prop := F2.length = F.length ∧ ∀ i, F2.getD i .junk = .junk ∨ F2.getD i .junk = F.getD i .junk
def forget : List Bool → List LV → List LV
 | true :: bs, x :: xs => x :: forget bs xs
 | false :: bs, _ :: xs => .junk :: forget bs xs
 | [], xs => xs.map fun _ => .junk
 | _, [] => []
theorem weak_forget : ∀ (bs : List Bool) (F : List LV), weak F (forget bs F)
 | [], F => by
  refine ⟨by simp [forget], fun i => .inl ?_⟩
  simp only [forget, List.getD, List.getElem?_map]
  cases F[i]? <;> rfl
 | true :: bs, [] => ⟨rfl, fun i => .inl (by simp [forget])⟩
 | false :: bs, [] => ⟨rfl, fun i => .inl (by simp [forget])⟩
 | true :: bs, x :: xs => by
  obtain ⟨h1, h2⟩ := weak_forget bs xs
  refine ⟨by simp [forget, h1], fun i => ?_⟩
  cases i with
  | zero => exact .inr (by simp [forget])
  | succ i => simpa [forget] using h2 i
 | false :: bs, x :: xs => by
  obtain ⟨h1, h2⟩ := weak_forget bs xs
  refine ⟨by simp [forget, h1], fun i => ?_⟩
  cases i with
  | zero => exact .inl (by simp [forget])
  | succ i => simpa [forget] using h2 i
theorem RF.weak {F2 : List LV} (hF : RF ds β Z w n F a) (h : weak F F2) : RF ds β Z w n F2 a := by
 refine ⟨by rw [hF.size, h.1], fun t x hx => ?_, hF.defers⟩
 have ht : t < F.length := by rw [← h.1]; exact (List.getElem?_eq_some_iff.1 hx).1
 have hx' : F2.getD t .junk = x := by simp [List.getD, hx]
 rcases h.2 t with h1 | h1
 ·rw [hx'] at h1; subst h1; exact ⟨by simp only [R], trivial⟩
 ·rw [hx'] at h1
  refine hF.get t x ?_
  rw [List.getElem?_eq_getElem ht]
  simp [List.getD, List.getElem?_eq_getElem ht] at h1
  rw [h1]
theorem no_specs : ∀ g S, (fun _ => none : Specs) g = some S → Valid P G g S := fun _ _ h => by cases h
theorem no_loops {c : Code} (h : loopsIn c = []) : ∀ b ∈ loopsIn c, Sound P G (.loop b) (L (firstR b)) := fun b hb => by rw [h] at hb; cases hb
def Vs (P : Program) (G : Globs) : List (FuncId × (List LV → T LV)) → Prop
 | [] => True
 | p :: ps => Valid P G p.1 p.2 ∧ Vs P G ps
theorem specs_ok : ∀ {l : List (FuncId × (List LV → T LV))}, Vs P G l → ∀ g S, specsOf l g = some S → Valid P G g S
 | [], _, g, S, h => by cases h
 | p :: ps, hv, g, S, h => by
  simp only [specsOf] at h
  split at h
  ·rename_i hg; simp only [Option.some.injEq] at h; subst h hg; exact hv.1
  ·exact specs_ok hv.2 g S h
theorem all_of_eq {α : Type} {t t' : T α} {K : α → Prop} (h : t = t') (h' : t'.all K) : t.all K := h ▸ h'
end Go.Sx
