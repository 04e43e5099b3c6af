/- The executor is right: loads and stores. -/
import Derived.Test.YtihbikkkmoaljaaSxC
namespace Go.Sx
open Go Go.RowKit
variable {P : Program} {G : Globs} {Γ : Specs} {β : Nat → Loc} {Z : Nat → Prop} {Z0 : Gz} {w w0 : World} {F : List LV} {H : List Blk} {a : Act}
theorem RD.cells {Z Z' : Nat → Prop} {w w' : World} (hZ : ∀ b, Z b → Z' b) (hw : ∀ b, Z b → w'.heap[b]? = w.heap[b]?) :
  ∀ (t : Ty) (d : t.D) (b o : Nat), (∀ j, j < t.n → w'.cell? ⟨b, o + j, none⟩ = w.cell? ⟨b, o + j, none⟩) → RD Z w t d b o → RD Z' w' t d b o
 | .int _, _, b, o, hb, h => by simp only [RD] at *; rw [← h]; exact hb 0 (by simp [Ty.n])
 | .bool, _, b, o, hb, h => by simp only [RD] at *; rw [← h]; exact hb 0 (by simp [Ty.n])
 | .str, _, b, o, hb, h => by simp only [RD] at *; rw [← h]; exact hb 0 (by simp [Ty.n])
 | .sl e, l, b, o, hb, h => by
  simp only [RD] at *
  obtain ⟨a, cap, h1, h2, h3⟩ := h
  refine ⟨a, cap, by rw [← h1]; exact hb 0 (by simp [Ty.n]), h2, fun hn => ?_⟩
  obtain ⟨b', o', h4, h5, h6⟩ := h3 hn
  exact ⟨b', o', h4, hZ _ h5, fun i d hd => RD.mono hZ hw e d b' _ h5 (h6 i d hd)⟩
 | .pair x y, d, b, o, hb, h => by
  simp only [RD] at *
  refine ⟨RD.cells hZ hw x d.1 b o (fun j hj => hb j (by simp only [Ty.n]; omega)) h.1, RD.cells hZ hw y d.2 b _ (fun j hj => ?_) h.2⟩
  have := hb (x.n + j) (by simp only [Ty.n]; omega)
  rwa [← Nat.add_assoc] at this
theorem getD_lt {l : List LV} {j : Nat} (h : j < l.length) : l[j]? = some (l.getD j .junk) := by simp only [List.getD, List.getElem?_eq_getElem h, Option.getD_some]
theorem getD_ok {n : Nat} {l : List LV} (h : okL n l) (j : Nat) : okV n (l.getD j .junk) := by
 cases hq : l[j]? with
 | none => simp [List.getD, hq, okV]
 | some q => simp only [List.getD, hq, Option.getD_some]; exact okL.get _ _ h hq
theorem getD_at {e : Ty} {l : List e.D} {i : Nat} (h : i < List.length l) : l[i]? = some (l.getD i e.dflt) := by simp only [List.getD, List.getElem?_eq_getElem h, Option.getD_some]
theorem load_row {b off n : Nat} {L : List LV} (hL : L.length = n) (hc : ∀ q, q < n → ∃ z, w.cell? ⟨b, off + q, none⟩ = some z ∧ R β Z w (L.getD q .junk) z) :
  ∃ zs : List Value, zs.length = n ∧ RL β Z w L zs ∧ ∀ w' : World, w'.heap[b]? = w.heap[b]? → (loadCells ⟨b, off, none⟩ n).run P w' = .ok zs.toArray w' := by
 have hch : ∀ j, ∃ z, j < n → w.cell? ⟨b, off + j, none⟩ = some z ∧ R β Z w (L.getD j .junk) z := fun j => by
  by_cases hj : j < n
  ·obtain ⟨z, hz⟩ := hc j hj; exact ⟨z, fun _ => hz⟩
  ·exact ⟨undef, fun h => absurd h hj⟩
 obtain ⟨g, hg⟩ := Classical.axiomOfChoice hch
 refine ⟨(List.range n).map g, by simp, RL.of_get (by simp [hL]) fun i x hx => ?_, fun w' hw' => ?_⟩
 ·have hi : i < n := by have := (List.getElem?_eq_some_iff.1 hx).1; omega
  refine ⟨g i, by simp [hi], ?_⟩
  have : x = L.getD i .junk := by simp [List.getD, hx]
  rw [this]; exact (hg i hi).2
 ·have hld := run_loadCells (P := P) w' ⟨b, off, none⟩ n g (fun j hj => by rw [addr_add, cell_block (w := w) (w' := w') hw']; exact (hg j hj).1)
  simpa using hld
theorem loadL_sound {t : TypeId} {x lv : LV} {y : Value} (hW : RW G w0 Z0 Z β H w) (h : (loadL P H t x).all (fun z => z = lv)) (hr : R β Z w x y) (hk : okV H.length x) :
  ∃ z, (∀ w', (∀ b, (Z b ∨ ∃ k, k ∈ owns x ∧ b = (β k).b) → w'.heap[b]? = w.heap[b]?) → (Instr.loadAt t y).run P w' = .ok z w') ∧ R β Z w lv z ∧ okV H.length lv := by
 have ownCl : ∀ (k : Nat) (b : Blk), H[k]? = some b → b.isCl = true → ∃ cs, w.heap[(β k).b]? = some (.cells cs b.t (0, 0)) ∧ RL β Z w b.c cs.toList ∧ okL H.length b.c := fun k b hb hc => by
  obtain ⟨h1, h2⟩ := hW.blk k b hb
  unfold BlkR at h1
  unfold Blk.isCl at hc
  split at hc
  ·rename_i hk'
   simp only [hk'] at h1
   obtain ⟨cs, h3, h4⟩ := h1
   exact ⟨cs, h3, h4, h2.1⟩
  ·cases hc
 have vecAt : ∀ (k es i : Nat) (c : List LV) (t : TypeId) (e : Ty) (l : List e.D) (p : Bool), H[k]? = some ⟨c, t, .vec e l, p⟩ → (β k).cap ≠ none → e.n = es → i < List.length l → ∀ q, q < es → ∃ z, w.cell? ⟨(β k).b, (β k).o + i * es + q, none⟩ = some z ∧ R β Z w ((encL e (l.getD i e.dflt)).getD q .junk) z := fun k es i c t e l p hb hcap hes hi q hq => by
  have h1 := (hW.blk k _ hb).1
  simp only [BlkR] at h1
  split at h1
  ·rename_i hc; exact absurd hc hcap
  ·obtain ⟨cs, _, _, _, h4⟩ := h1
   have h5 := h4 i _ (getD_at hi)
   subst hes
   exact encL_R e _ _ _ h5 q _ (getD_lt (by rw [encL_length]; exact hq))
 unfold loadL at h
 split at h
 ·rename_i n hag hsz
  have e1 := fun w => run_isAgg hag w
  have e2 := fun w => run_sizeOf hsz w
  split at h
  ·rename_i k off
   split at h
   ·rename_i b hb
    split at h
    ·rename_i hle
     simp only [T.all] at h
     obtain ⟨cs, hc, hrl, hok⟩ := ownCl k b hb hle.1
     simp only [R] at hr
     have hlen := RL.length hrl
     have hn : ((b.c.drop off).take n).length = n := by simp; omega
     obtain ⟨zs, f1, f2, f3⟩ := load_row (P := P) (β := β) (Z := Z) (w := w) (b := (β k).b) (off := off) (L := (b.c.drop off).take n) hn (fun q hq => by
      have hlt : off + q < b.c.length := by omega
      obtain ⟨z, h1, h2⟩ := RL.get _ _ hrl (List.getElem?_eq_getElem hlt)
      refine ⟨z, by rw [cell_of_block hc]; simpa using h1, ?_⟩
      have : ((b.c.drop off).take n).getD q .junk = b.c[off + q] := by
       simp [List.getD, hq, List.getElem?_drop, List.getElem?_eq_getElem hlt]
      rw [this]; exact h2)
     refine ⟨.agg zs.toArray, fun w' hw' => ?_, ?_, ?_⟩
     ·have := f3 w' (hw' (β k).b (.inr ⟨k, by simp [owns], rfl⟩))
      simp [Instr.loadAt, Instr.sureAddr, hr, loadVar, e1, e2, this]
     ·rw [← h]; exact mkAgg_R (by simpa using f2)
     ·rw [← h]; exact mkAgg_ok (hok.take_drop off n)
    ·cases h
   ·cases h
  ·rename_i m f
   split at h
   ·rename_i hle
    simp only [T.all] at h
    simp only [R] at hr
    obtain ⟨b, off, e3, hz, e4⟩ := hr
    simp only [okV] at hk
    obtain ⟨zs, f1, f2, f3⟩ := load_row (P := P) (β := β) (Z := Z) (w := w) (b := b) (off := off) (L := (List.range n).map f) (n := n) (by simp) (fun q hq => by
     obtain ⟨z, h1, h2⟩ := e4 q (by omega)
     exact ⟨z, h1, by simpa [List.getD, hq] using h2⟩)
    refine ⟨.agg zs.toArray, fun w' hw' => ?_, ?_, ?_⟩
    ·have := f3 w' (hw' b (.inl hz))
     simp [Instr.loadAt, Instr.sureAddr, e3, loadVar, e1, e2, this]
    ·rw [← h]; exact mkAgg_R (by simpa using f2)
    ·rw [← h]
     refine mkAgg_ok (okL.of_get fun i x hx => ?_)
     have hi : i < n := by have := (List.getElem?_eq_some_iff.1 hx).1; simpa using this
     have : x = f i := by simpa [hi] using hx.symm
     rw [this]; exact okV.mono (Nat.zero_le _) _ (hk i)
   ·cases h
  ·rename_i k es i j
   split at h
   ·rename_i c t' e l p hb
    split at h
    ·rename_i hle
     simp only [T.all] at h
     obtain ⟨hi, h⟩ := h
     simp only [R] at hr
     have hva := vecAt k es i c t' e l p hb hr.1 hle.1 hi
     have hlen : (encL e (l.getD i e.dflt)).length = es := by rw [encL_length]; exact hle.1
     obtain ⟨zs, f1, f2, f3⟩ := load_row (P := P) (β := β) (Z := Z) (w := w) (b := (β k).b) (off := (β k).o + i * es + j) (L := ((encL e (l.getD i e.dflt)).drop j).take n) (n := n) (by rw [List.length_take, List.length_drop, hlen]; omega) (fun q hq => by
      obtain ⟨z, h1, h2⟩ := hva (j + q) (by omega)
      refine ⟨z, by rw [Nat.add_assoc _ j q]; exact h1, ?_⟩
      have : (((encL e (l.getD i e.dflt)).drop j).take n).getD q .junk = (encL e (l.getD i e.dflt)).getD (j + q) .junk := by
       generalize encL e (l.getD i e.dflt) = L
       simp only [List.getD, List.getElem?_take, hq, if_true, List.getElem?_drop]
      rw [this]; exact h2)
     refine ⟨.agg zs.toArray, fun w' hw' => ?_, ?_, ?_⟩
     ·have := f3 w' (hw' (β k).b (.inr ⟨k, by simp [owns], rfl⟩))
      simp [Instr.loadAt, Instr.sureAddr, hr.2, loadVar, e1, e2, this]
     ·rw [← h]; exact mkAgg_R (by simpa using f2)
     ·rw [← h]; exact mkAgg_ok ((encL_ok _ e _).take_drop j n)
    ·cases h
   ·cases h
  ·cases h
 ·rename_i _ hag
  have e1 := fun w => run_isAgg hag w
  split at h
  ·rename_i k off
   split at h
   ·rename_i b hb
    split at h
    ·rename_i hcl
     split at h
     ·rename_i z hz
      simp only [T.all] at h
      obtain ⟨cs, hc, hrl, hok⟩ := ownCl k b hb hcl
      simp only [R] at hr
      obtain ⟨q, h1, h2⟩ := RL.get _ _ hrl hz
      refine ⟨q, fun w' hw' => ?_, ?_, ?_⟩
      ·have : w'.cell? ⟨(β k).b, off, none⟩ = some q := by rw [cell_of_block (by rw [hw' (β k).b (.inr ⟨k, by simp [owns], rfl⟩)]; exact hc)]; simpa using h1
       simp [Instr.loadAt, Instr.sureAddr, hr, loadVar, e1, this]
      ·rw [← h]; exact h2
      ·rw [← h]; exact okL.get _ _ hok hz
     ·cases h
    ·cases h
   ·cases h
  ·rename_i m f
   split at h
   ·rename_i hm
    simp only [T.all] at h
    simp only [R] at hr
    obtain ⟨b, off, e3, hz, e4⟩ := hr
    obtain ⟨z, h1, h2⟩ := e4 0 hm
    refine ⟨z, fun w' hw' => ?_, ?_, ?_⟩
    ·have : w'.cell? ⟨b, off, none⟩ = some z := by rw [cell_block (w := w) (w' := w') (hw' b (.inl hz))]; simpa using h1
     simp [Instr.loadAt, Instr.sureAddr, e3, loadVar, e1, this]
    ·rw [← h]; exact h2
    ·rw [← h]; simp only [okV] at hk; exact okV.mono (Nat.zero_le _) _ (hk 0)
   ·cases h
  ·rename_i k es i j
   split at h
   ·rename_i c t' e l p hb
    split at h
    ·rename_i hes
     simp only [T.all] at h
     obtain ⟨hi, h⟩ := h
     split at h
     ·rename_i q hq
      simp only [T.all] at h
      simp only [R] at hr
      have hj : j < es := by
       have := (List.getElem?_eq_some_iff.1 hq).1
       rw [encL_length] at this; omega
      obtain ⟨z, h1, h2⟩ := vecAt k es i c t' e l p hb hr.1 hes hi j hj
      have hqq : (encL e (l.getD i e.dflt)).getD j .junk = q := Option.some.inj ((getD_lt (List.getElem?_eq_some_iff.1 hq).1).symm.trans hq)
      rw [hqq] at h2
      refine ⟨z, fun w' hw' => ?_, ?_, ?_⟩
      ·have : w'.cell? ⟨(β k).b, (β k).o + i * es + j, none⟩ = some z := by rw [cell_block (w := w) (w' := w') (hw' (β k).b (.inr ⟨k, by simp [owns], rfl⟩))]; exact h1
       simp [Instr.loadAt, Instr.sureAddr, hr.2, loadVar, e1, this]
      ·rw [← h]; exact h2
      ·rw [← h]; exact okL.get _ _ (encL_ok _ e _) hq
     ·cases h
    ·cases h
   ·cases h
  ·cases h
 ·cases h
end Go.Sx
