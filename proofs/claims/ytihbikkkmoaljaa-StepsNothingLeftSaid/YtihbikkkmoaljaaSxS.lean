/- The executor is right: slices that are made and grow. -/
import Derived.Test.YtihbikkkmoaljaaSxW
import Derived.Deep.Upon
import Derived.Laws.MakeOwn
namespace Go.Sx
open Go Go.RowKit
variable {P : Program} {G : Globs} {Γ : Specs} {β : Nat → Loc} {Z : Nat → Prop} {Z0 : Gz} {w w0 : World} {F : List LV} {H : List Blk} {a : Act}
theorem RD.move {Z Z' : Nat → Prop} {w w' : World} (hZ : ∀ b, Z b → Z' b) (hw : ∀ b, Z b → w'.heap[b]? = w.heap[b]?) :
  ∀ (t : Ty) (d : t.D) (b o b' o' : Nat), (∀ j, j < t.n → w'.cell? ⟨b', o' + j, none⟩ = w.cell? ⟨b, o + j, none⟩) → RD Z w t d b o → RD Z' w' t d b' o'
 | .int _, _, b, o, b', o', hb, h => by simp only [RD] at *; rw [← h]; exact hb 0 (by simp [Ty.n])
 | .bool, _, b, o, b', o', hb, h => by simp only [RD] at *; rw [← h]; exact hb 0 (by simp [Ty.n])
 | .str, _, b, o, b', o', hb, h => by simp only [RD] at *; rw [← h]; exact hb 0 (by simp [Ty.n])
 | .sl e, l, b, o, b', o', hb, h => by
  simp only [RD] at *
  obtain ⟨a, cap, h1, h2, h3⟩ := h
  refine ⟨a, cap, by rw [← h1]; exact hb 0 (by simp [Ty.n]), h2, fun hn => ?_⟩
  obtain ⟨b', o', h4, h5, h6⟩ := h3 hn
  exact ⟨b', o', h4, hZ _ h5, fun i d hd => RD.mono hZ hw e d b' _ h5 (h6 i d hd)⟩
 | .pair x y, d, b, o, b', o', hb, h => by
  simp only [RD] at *
  refine ⟨RD.move hZ hw x d.1 b o b' o' (fun j hj => hb j (by simp only [Ty.n]; omega)) h.1, RD.move hZ hw y d.2 b _ b' _ (fun j hj => ?_) h.2⟩
  have := hb (x.n + j) (by simp only [Ty.n]; omega)
  rwa [← Nat.add_assoc, ← Nat.add_assoc] at this
theorem RD.one {Z : Nat → Prop} {w : World} : ∀ (t : Ty) (d : t.D) (b o : Nat), RD Z w t d b o → ∀ j, j < t.n → ∃ v, w.cell? ⟨b, o + j, none⟩ = some v ∧ oneB v = true
 | .int _, _, b, o, h, j, hj => by
  simp only [Ty.n] at hj
  have : j = 0 := by omega
  subst this
  simp only [RD] at h
  exact ⟨_, h, rfl⟩
 | .bool, _, b, o, h, j, hj => by
  simp only [Ty.n] at hj
  have : j = 0 := by omega
  subst this
  simp only [RD] at h
  exact ⟨_, h, rfl⟩
 | .str, _, b, o, h, j, hj => by
  simp only [Ty.n] at hj
  have : j = 0 := by omega
  subst this
  simp only [RD] at h
  exact ⟨_, h, rfl⟩
 | .sl e, _, b, o, h, j, hj => by
  simp only [Ty.n] at hj
  have : j = 0 := by omega
  subst this
  simp only [RD] at h
  obtain ⟨a, cap, h1, _⟩ := h
  exact ⟨_, h1, rfl⟩
 | .pair x y, d, b, o, h, j, hj => by
  simp only [RD] at h
  simp only [Ty.n] at hj
  by_cases hx : j < x.n
  ·exact RD.one x d.1 b o h.1 j hx
  ·obtain ⟨v, h1, h2⟩ := RD.one y d.2 b (o + x.n) h.2 (j - x.n) (by omega)
   exact ⟨v, by rw [show o + j = o + x.n + (j - x.n) by omega]; exact h1, h2⟩
theorem Ty.n_pos : ∀ t : Ty, 0 < t.n
 | .int _ => by simp [Ty.n]
 | .bool => by simp [Ty.n]
 | .str => by simp [Ty.n]
 | .sl _ => by simp [Ty.n]
 | .pair a b => by have := Ty.n_pos a; simp only [Ty.n]; omega
theorem row_cells {e : Ty} {l : List e.D} {b o : Nat} (h : ∀ (i : Nat) (d : e.D), l[i]? = some d → RD Z w e d b (o + i * e.n)) :
  ∃ vs : List Value, vs.length = List.length l * e.n ∧ (∀ j, j < List.length l * e.n → w.cell? ⟨b, o + j, none⟩ = vs[j]?) ∧ (∀ u ∈ vs, oneB u = true) := by
 have hp := e.n_pos
 have hch : ∀ j, ∃ v, j < List.length l * e.n → w.cell? ⟨b, o + j, none⟩ = some v ∧ oneB v = true := fun j => by
  by_cases hj : j < List.length l * e.n
  ·have hi : j / e.n < List.length l := Nat.div_lt_of_lt_mul (by rw [Nat.mul_comm]; exact hj)
   have hd := h (j / e.n) _ (getD_at hi)
   obtain ⟨v, h1, h2⟩ := RD.one e _ _ _ hd (j % e.n) (Nat.mod_lt _ hp)
   refine ⟨v, fun _ => ⟨?_, h2⟩⟩
   rw [← h1]
   have := Nat.div_add_mod j e.n
   rw [Nat.mul_comm] at this
   rw [show o + j / e.n * e.n + j % e.n = o + j by omega]
  ·exact ⟨undef, fun h => absurd h hj⟩
 obtain ⟨g, hg⟩ := Classical.axiomOfChoice hch
 refine ⟨(List.range (List.length l * e.n)).map g, by simp, fun j hj => ?_, fun u hu => ?_⟩
 ·rw [(hg j hj).1]; simp [hj]
 ·obtain ⟨j, hj, rfl⟩ := List.mem_map.1 hu
  exact (hg j (by simpa using hj)).2
theorem row_back {Z' : Nat → Prop} {w' : World} (hZ : ∀ b, Z b → Z' b) (hw : ∀ b, Z b → w'.heap[b]? = w.heap[b]?) {e : Ty} {l : List e.D} {b o b' o' : Nat} (h : ∀ (i : Nat) (d : e.D), l[i]? = some d → RD Z w e d b (o + i * e.n)) {vs : List Value}
  (hv : ∀ j, j < List.length l * e.n → w.cell? ⟨b, o + j, none⟩ = vs[j]?) (hc : ∀ j, j < List.length l * e.n → w'.cell? ⟨b', o' + j, none⟩ = vs[j]?) : ∀ (i : Nat) (d : e.D), l[i]? = some d → RD Z' w' e d b' (o' + i * e.n) := fun i d hd => by
 have hi : i < List.length l := (List.getElem?_eq_some_iff.1 hd).1
 refine RD.move hZ hw e d b (o + i * e.n) b' (o' + i * e.n) (fun j hj => ?_) (h i d hd)
 have hlt : i * e.n + j < List.length l * e.n := by
  have := Nat.mul_le_mul_right e.n (show i + 1 ≤ List.length l by omega)
  rw [Nat.add_mul, Nat.one_mul] at this
  omega
 rw [Nat.add_assoc, Nat.add_assoc, hc _ hlt, hv _ hlt]
theorem tyEq_sub {a b : Ty} {l : List a.D} (h : a = b) (_ : Nat) : List.length (castL h l) = List.length l := castL_length h l
theorem srcOf_R {e : Ty} {x : LV} {q : List e.D} {y : Value} (hW : RW G w0 Z0 Z β H w) (h : (srcOf H e x).all (fun z => z = q)) (hr : R β Z w x y) :
  ∃ a c, y = .slice a (List.length q) c ∧ (0 < List.length q → ∃ b o, a = some ⟨b, o, none⟩ ∧ ∀ (i : Nat) (d : e.D), q[i]? = some d → RD Z w e d b (o + i * e.n)) := by
 have gen : ∀ x, decX e x = some q → R β Z w x y → ∃ a c, y = .slice a (List.length q) c ∧ (0 < List.length q → ∃ b o, a = some ⟨b, o, none⟩ ∧ ∀ (i : Nat) (d : e.D), q[i]? = some d → RD Z w e d b (o + i * e.n)) := fun x hx hr => by
  have h1 := decX_R hx hr
  simp only [R] at h1
  obtain ⟨a, c, h1, _, h3⟩ := h1
  refine ⟨a, c, h1, fun hn => ?_⟩
  obtain ⟨b, o, h4, _, h6⟩ := h3 hn
  exact ⟨b, o, h4, h6⟩
 have hdx : ∀ {x : LV}, (match decX e x with | some l => (T.ok l : T (List e.D)) | none => .no).all (fun z => z = q) → decX e x = some q := fun {x} h => by
  split at h
  ·rename_i hd; simp only [T.all] at h; rw [hd, h]
  ·cases h
 cases x with
 | os k es off n =>
  simp only [srcOf] at h
  split at h
  ·rename_i c0 bt e' l pp hb
   split at h
   ·rename_i hes
    split at h
    ·rename_i he _
     subst he
     simp only [T.all, castL] at h
     obtain ⟨hle, h⟩ := h
     subst h
     have hlen : List.length ((l.drop off).take n) = n := by simp; omega
     rw [hlen]
     simp only [R] at hr
     split at hr
     ·obtain ⟨rfl, _, hy⟩ := hr
      exact ⟨none, 0, hy, fun h => absurd h (by omega)⟩
     ·rename_i c hc
      obtain ⟨h1, a, h2, h3⟩ := hr
      refine ⟨some a, c - off, h2, fun hn => ?_⟩
      have h4 := (hW.blk k _ hb).1
      simp only [BlkR, hc] at h4
      obtain ⟨cs, g1, g2, g3, g4⟩ := h4
      refine ⟨_, _, by rw [h3 (by omega)], fun i d hd => ?_⟩
      rw [List.getElem?_take] at hd
      split at hd
      ·rw [List.getElem?_drop] at hd
       have := g4 (off + i) d hd
       rw [← hes]
       rw [Nat.add_mul, ← Nat.add_assoc] at this
       exact this
      ·cases hd
    ·cases h
   ·cases h
  ·cases h
 | v x => simp only [srcOf] at h; exact gen _ (hdx h) hr
 | bl x => simp only [srcOf] at h; exact gen _ (hdx h) hr
 | ki k n => simp only [srcOf] at h; exact gen _ (hdx h) hr
 | own k off => simp only [srcOf] at h; exact gen _ (hdx h) hr
 | agg l => simp only [srcOf] at h; exact gen _ (hdx h) hr
 | tup l => simp only [srcOf] at h; exact gen _ (hdx h) hr
 | fn f l => simp only [srcOf] at h; exact gen _ (hdx h) hr
 | xq n f => simp only [srcOf] at h; exact gen _ (hdx h) hr
 | xl e l => simp only [srcOf] at h; exact gen _ (hdx h) hr
 | op k es i j => simp only [srcOf] at h; exact gen _ (hdx h) hr
 | om k => simp only [srcOf] at h; exact gen _ (hdx h) hr
 | mp kd ks vs => simp only [srcOf] at h; exact gen _ (hdx h) hr
 | oc k es off n c => simp only [srcOf] at h; exact gen _ (hdx h) hr
 | yld k => simp only [srcOf] at h; exact gen _ (hdx h) hr
 | junk => simp only [srcOf] at h; exact gen _ (hdx h) hr
theorem elemT_some {t e : TypeId} {ty : Ty} {m by_ : Nat} (h : elemT P t = some (e, ty, m, by_)) : P.underlying t = some (.slice e) ∧ ty.n = m ∧ ∃ i, P.info? e = some i ∧ i.size = m ∧ i.bytes = by_ := by
 unfold elemT at h
 split at h
 ·rename_i e' hu
  split at h
  ·rename_i ty' m' b' h1 h2 h3
   split at h
   ·rename_i hm
    simp only [Option.some.injEq, Prod.mk.injEq] at h
    obtain ⟨rfl, rfl, rfl, rfl⟩ := h
    refine ⟨hu, hm.1, ?_⟩
    unfold sizeT at h2
    unfold bytesT at h3
    cases hi : P.info? e' with
    | none => simp [hi] at h2
    | some i => simp [hi] at h2 h3; exact ⟨i, rfl, h2, h3⟩
   ·cases h
  ·cases h
 ·cases h
theorem srcOf_Src {e : Ty} {x : LV} {q : List e.D} {y : Value} {tx e' : TypeId} (hk : P.underlying tx = some (.slice e')) (hW : RW G w0 Z0 Z β H w) (h : (srcOf H e x).all (fun z => z = q)) (hr : R β Z w x y) :
  ∃ news : List Value, Src P e.n tx y (List.length q) news w ∧ ∀ (Z' : Nat → Prop) (w' : World) (b' o' : Nat), (∀ b, Z b → Z' b) → (∀ b, Z b → w'.heap[b]? = w.heap[b]?) → (∀ j, j < news.length → w'.cell? ⟨b', o' + j, none⟩ = news[j]?) → ∀ (i : Nat) (d : e.D), q[i]? = some d → RD Z' w' e d b' (o' + i * e.n) := by
 obtain ⟨a, c, h1, h2⟩ := srcOf_R hW h hr
 by_cases hn : 0 < List.length q
 ·obtain ⟨b, o, h3, h4⟩ := h2 hn
  obtain ⟨vs, v1, v2, v3⟩ := row_cells h4
  refine ⟨vs, ?_, fun Z' w' b' o' hZ hw hc => row_back hZ hw h4 v2 (fun j hj => hc j (by omega))⟩
  rw [h1, h3]
  exact Src.ofSlice w hk ⟨b, o, none⟩ _ c vs v1 (fun j u hu => by
   have hj : j < List.length q * e.n := by have := (List.getElem?_eq_some_iff.1 hu).1; omega
   rw [addr_add, v2 j hj, hu]) (fun u hu => oneB_one (v3 u hu))
 ·have hq : q = [] := List.length_eq_zero_iff.1 (by omega)
  subst hq
  refine ⟨[], ?_, fun Z' w' b' o' hZ hw hc i d hd => by simp at hd⟩
  rw [h1]
  cases a with
  | none => exact Src.ofNil w hk c
  | some a => exact Src.ofSlice w hk a 0 c [] (by simp) (fun j u hu => by simp at hu) (fun u hu => by cases hu)
theorem decL_zero {ty : Ty} {z : Value} {d : ty.D} (hd : decL ty (z.cells.toList.map .v) = some d) {w' : World} {b o : Nat} (hc : ∀ (j : Nat) v, z.cells.toList[j]? = some v → w'.cell? ⟨b, o + j, none⟩ = some v) : RD Z w' ty d b o :=
 decL_R (Z := Z) (w := w') (β := fun _ => default) (fun _ h => h) (fun _ _ => rfl) ty _ d _ hd (RL_v _) b o hc
theorem makeL_sound {t : TypeId} {n c lv : LV} {vn vc : Value} {H' : List Blk} (hW : RW G w0 Z0 Z β H w) (h : (makeL P H t n c).all (fun q => q = (lv, H'))) (hn : R β Z w n vn) (hc : R β Z w c vc) :
  ∃ w' v, (Instr.makeSlice t vn vc).run P w = .ok v w' ∧ Below w.heap.size w w' ∧ ∃ β', (∀ k, k < H.length → β' k = β k) ∧ RW G w0 Z0 Z β' H' w' ∧ R β' Z w' lv v ∧ okV H'.length lv ∧ H'.length = H.length + 1 ∧ (β' H.length).b = w.heap.size := by
 unfold makeL at h
 split at h
 ·rename_i e ty m by_ n' c' he hn' hc'
  obtain ⟨hu, htn, i, hi, him, hib⟩ := elemT_some he
  split at h
  ·rename_i z hz
   split at h
   ·rename_i d hd
    split at h
    ·rename_i hzs
     simp only [T.all] at h
     obtain ⟨⟨h0, h1, h2, h3⟩, h4⟩ := h
     simp only [Prod.mk.injEq] at h4
     obtain ⟨rfl, rfl⟩ := h4
     have hzi : i.zero = some z := by unfold zeroT at hz; simpa [hi] using hz
     have hrun := run_make (P := P) w t e i z hu hi hzi .i64 .i64 n' c' h0 h1 (by rw [hib]; simpa using h2) (by omega)
     rw [pl_R hn' hn, pl_R hc' hc]
     have hbw : Below w.heap.size w (w.alloc (.cells (madeCells z.cells (c'.toNat * i.size)) e)) := (Below.refl _ _).alloc (Nat.le_refl _) _
     have hblk : (w.alloc (.cells (madeCells z.cells (c'.toNat * i.size)) e)).heap[w.heap.size]? = some (.cells (madeCells z.cells (c'.toNat * i.size)) e (0, 0)) := by
      show (w.heap.push _)[w.heap.size]? = _
      simp
     obtain ⟨β', b1, b2, b3⟩ := (hW.same hbw).adopt (ℓ := ⟨w.heap.size, 0, some c'.toNat⟩) (nb := ⟨[], e, .vec ty (List.replicate n'.toNat d), false⟩) rfl ⟨trivial, trivial⟩
      (fun _ => ⟨fun hz => by have := hW.zlt _ hz; simp only at this; omega, hW.below.size, fun j bj hj lj e => by have := hW.lt hj lj; simp only at e; omega⟩) (fun β' g1 g2 => by
       simp only [BlkR, g2]
       refine ⟨_, hblk, by simp [madeCells, htn, him], by simp; omega, fun j d' hd' => ?_⟩
       have hj : j < n'.toNat := by have := (List.getElem?_eq_some_iff.1 hd').1; simpa using this
       have hdd : d' = d := by rw [List.getElem?_replicate] at hd'; simp [hj] at hd'; exact hd'.symm
       subst hdd
       refine decL_zero hd (fun p v hv => ?_)
       have hp : p < m := by have := (List.getElem?_eq_some_iff.1 hv).1; simpa [hzs] using this
       rw [cell_of_block hblk]
       have hlt : 0 + j * ty.n + p < c'.toNat * i.size := by
        have := Nat.mul_le_mul_right m (show j + 1 ≤ c'.toNat by omega)
        rw [Nat.add_mul, Nat.one_mul] at this
        rw [htn, him]; omega
       rw [madeCells]
       have hv' : z.cells[p]? = some v := by simpa using hv
       rw [htn, Nat.zero_add] at hlt ⊢
       simp only [Array.getElem?_map, Array.getElem?_range]
       rw [if_pos hlt]
       simp only [Option.map_some, hzs, Nat.mul_comm j m, Nat.mul_add_mod, Nat.mod_eq_of_lt hp]
       rw [getElem!_def, hv'])
     exact ⟨_, _, hrun, hbw, β', b1, b3, by simp only [R, b2]; exact ⟨by simp; omega, ⟨w.heap.size, 0, none⟩, by simp, fun _ => by simp⟩, by simp [okV], by simp, by rw [b2]⟩
    ·cases h
   ·cases h
  ·cases h
 ·cases h
theorem emptyL_sound {t : TypeId} {lv : LV} {H' : List Blk} (hW : RW G w0 Z0 Z β H w) (h : (emptyL P H t).all (fun q => q = (lv, H'))) :
  ∃ w' v, (Instr.buildSlice t 0 #[]).run P w = .ok v w' ∧ Below w.heap.size w w' ∧ ∃ β', (∀ k, k < H.length → β' k = β k) ∧ RW G w0 Z0 Z β' H' w' ∧ R β' Z w' lv v ∧ okV H'.length lv ∧ H'.length = H.length + 1 ∧ (β' H.length).b = w.heap.size := by
 unfold emptyL at h
 split at h
 ·rename_i e ty m by_ he
  obtain ⟨hu, htn, i, hi, him, hib⟩ := elemT_some he
  simp only [T.all, Prod.mk.injEq] at h
  obtain ⟨rfl, rfl⟩ := h
  have hbw : Below w.heap.size w (w.alloc (.cells #[] e)) := (Below.refl _ _).alloc (Nat.le_refl _) _
  have hblk : (w.alloc (.cells #[] e)).heap[w.heap.size]? = some (.cells #[] e (0, 0)) := by
   show (w.heap.push _)[w.heap.size]? = _
   simp
  obtain ⟨β', b1, b2, b3⟩ := (hW.same hbw).adopt (ℓ := ⟨w.heap.size, 0, some 0⟩) (nb := ⟨[], e, .vec ty [], false⟩) rfl ⟨trivial, trivial⟩
   (fun _ => ⟨fun hz => by have := hW.zlt _ hz; simp only at this; omega, hW.below.size, fun j bj hj lj e => by have := hW.lt hj lj; simp only at e; omega⟩) (fun β' g1 g2 => by
    simp only [BlkR, g2]
    exact ⟨_, hblk, by simp, by simp, fun j d hd => by simp at hd⟩)
  have hsz : sizeT P e = some m := by unfold sizeT; simp [hi, him]
  refine ⟨_, .slice (some ⟨w.heap.size, 0, none⟩) 0 0, ?_, hbw, β', b1, b3, by simp only [R, b2]; exact ⟨by simp, ⟨w.heap.size, 0, none⟩, rfl, fun h => by simp at h⟩, by simp [okV], by simp, by rw [b2]⟩
  have e1 := fun w => run_sizeOf hsz w
  have n1 : ¬ (0 > 2 ^ 24) := by decide
  have ha : ∀ f : Nat → Value, (Array.range 0).map f = #[] := fun f => by simp
  simp only [Instr.buildSlice, Sem.run_bind, run_underlying hu, Result.andThen_ok, e1, Nat.zero_mul, Sem.run_pure, newRow, if_neg n1, if_true, ha]
  rfl
 ·cases h
theorem RW.kill (hW : RW G w0 Z0 Z β H w) (k : Nat) (e : TypeId) : RW G w0 Z0 Z β (H.set k ⟨[], e, .dead, false⟩) w := by
 have old : ∀ i bi, (H.set k ⟨[], e, .dead, false⟩)[i]? = some bi → (¬ live β i bi ∧ BlkR β Z w i bi ∧ okB H.length bi) ∨ H[i]? = some bi := fun i bi h => by
  rw [List.getElem?_set] at h
  split at h
  ·rename_i e'
   split at h
   ·simp only [Option.some.injEq] at h; subst h; exact .inl ⟨fun h => h, trivial, trivial, trivial⟩
   ·cases h
  ·exact .inr h
 refine ⟨hW.below, hW.zlt, hW.znew, fun i bi hi li pi => ?_, fun i bi hi li pi => ?_, fun i bi hi li => ?_, fun i j bi bj hi hj li lj pi e => ?_, fun i bi hi => ?_, hW.glob, fun p hp => ⟨(hW.gh p hp).1, by simpa using (hW.gh p hp).2⟩, hW.mks⟩
 ·rcases old i bi hi with h | h
  ·exact absurd li h.1
  ·exact hW.zown i bi h li pi
 ·rcases old i bi hi with h | h
  ·exact absurd li h.1
  ·exact hW.zpub i bi h li pi
 ·rcases old i bi hi with h | h
  ·exact absurd li h.1
  ·exact hW.low i bi h li
 ·rcases old i bi hi with h | h
  ·exact absurd li h.1
  ·rcases old j bj hj with h' | h'
   ·exact absurd lj h'.1
   ·exact hW.inj i j bi bj h h' li lj pi e
 ·rw [List.length_set]
  rcases old i bi hi with h | h
  ·exact ⟨h.2.1, h.2.2⟩
  ·exact hW.blk i bi h
theorem RW.loose {w' : World} {B : Nat} (hW : RW G w0 Z0 Z β H w) (hB : w0.heap.size ≤ B) (hBZ : ¬ Z B) (hBo : ∀ j bj, H[j]? = some bj → live β j bj → (β j).b ≠ B)
  (hsz : w'.heap.size = w.heap.size) (hos : w'.os = w.os ∧ w'.tape = w.tape ∧ w'.output = w.output) (hne : ∀ j, j ≠ B → w'.heap[j]? = w.heap[j]?) : RW G w0 Z0 Z β H w' := by
 have hw : ∀ b', Z b' → w'.heap[b']? = w.heap[b']? := fun b' hz => hne b' (fun e => hBZ (e ▸ hz))
 refine ⟨?_, fun b' hz => by rw [hsz]; exact hW.zlt b' hz, hW.znew, hW.zown, hW.zpub, hW.low, hW.inj, fun i bi hi => ?_, hW.glob.mono (fun _ h => h) hw, fun p hp => ⟨R.mono (n := H.length) (fun _ _ => rfl) (fun _ h => h) hw _ _ (hW.gh p hp).2 (hW.gh p hp).1, (hW.gh p hp).2⟩, fun D hD => ⟨(hW.mks D hD).1, by unfold MkAt; rw [hw D (hW.mks D hD).1]; exact (hW.mks D hD).2⟩⟩
 ·exact hW.below.trans ⟨hos.1, hos.2.1, hos.2.2, Nat.le_of_eq hsz.symm, fun i hi => hne i (by omega)⟩
 ·obtain ⟨g1, g2⟩ := hW.blk i bi hi
  exact ⟨g1.keep (fun _ _ => rfl) (fun _ h => h) hw rfl (fun li => hne _ (hBo i bi hi li)) g2, g2⟩
theorem zeroCells_size (z : Array Value) (n : Nat) : (Builtin.zeroCells z n).size = n * z.size := by simp [Builtin.zeroCells]
def Back (Z : Nat → Prop) (w : World) (e : Ty) (l : List e.D) (vs : List Value) : Prop :=
 ∀ (Z' : Nat → Prop) (w' : World) (b' o' : Nat), (∀ b, Z b → Z' b) → (∀ b, Z b → w'.heap[b]? = w.heap[b]?) → (∀ j, j < vs.length → w'.cell? ⟨b', o' + j, none⟩ = vs[j]?) → ∀ (i : Nat) (d : e.D), l[i]? = some d → RD Z' w' e d b' (o' + i * e.n)
theorem grow_sound (hW : RW G w0 Z0 Z β H w) {t tx ty' e : TypeId} {i : TypeInfo} {z : Value} (hu : P.underlying t = some (.slice e)) (hi : P.info? e = some i) (hz : i.zero = some z) {ty : Ty} (hts : i.size = ty.n) (hzs : z.cells.size = ty.n)
  {base : Option Addr} {sCap : Nat} {olds : List Value} {lo q : List ty.D} (hold : (Builtin.firstCells i.size (List.length lo) (.slice base (List.length lo) sCap)).run P w.drew = .ok olds.toArray w.drew) (hol : olds.length = List.length lo * ty.n)
  (ob : Back Z w ty lo olds) {y : Value} {news : List Value} (hs : Src P ty.n tx y (List.length q) news w) (nb : Back Z w ty q news) (hg : sCap < List.length lo + List.length q)
  (h63 : ((List.length lo + List.length q : Nat) : Int) < 2 ^ 62) (hby : ((List.length lo + List.length q : Nat) : Int) * i.bytes ≤ 2 ^ 47) :
  ∃ w' v, (Builtin.append_ #[t, tx] ty' #[.slice base (List.length lo) sCap, y]).run P w = .ok v w' ∧ Below w.heap.size w w' ∧ ∃ β', (∀ k, k < H.length → β' k = β k) ∧ RW G w0 Z0 Z β' (H ++ [⟨[], e, .vec ty (lo ++ q), false⟩]) w' ∧
   R β' Z w' (.os H.length ty.n 0 (List.length lo + List.length q)) v ∧ (β' H.length).b = w.heap.size := by
 have hnl := hs.newsLen
 have hrun := run_append_grow_src (P := P) w t tx ty' e i z hu hi hz base (List.length lo) sCap olds hold y (List.length q) news (by rw [hts]; exact hs) hg (by omega) (growslice_fits hg (by
  have : ((((List.length lo + List.length q) * i.bytes : Nat)) : Int) ≤ 140737488355328 := by push_cast; push_cast at hby; exact hby
  omega))
 have hcap := grownCap_ge w (List.length lo + List.length q) sCap e
 generalize grownCap w (List.length lo + List.length q) sCap e = cap at hrun hcap
 generalize hcs : ((olds ++ news).toArray ++ Builtin.zeroCells z.cells (cap - (List.length lo + List.length q))) = cs at hrun
 have hbw : Below w.heap.size w (w.drew.alloc (.cells cs e)) := ⟨rfl, rfl, rfl, by simp [World.alloc], fun k hk => heap_alloc_old w.drew _ hk⟩
 have hblk : (w.drew.alloc (.cells cs e)).heap[w.heap.size]? = some (.cells cs e (0, 0)) := heap_alloc_new w.drew _
 have hw : ∀ b, Z b → (w.drew.alloc (.cells cs e)).heap[b]? = w.heap[b]? := fun b hz => below_block hbw (hW.zlt b hz)
 have hc1 : ∀ j, j < olds.length → cs[j]? = olds[j]? := fun j hj => by
  rw [← hcs, Array.getElem?_append_left (by simp; omega)]
  simp only [List.getElem?_toArray]
  rw [List.getElem?_append_left hj]
 have hc2 : ∀ j, j < news.length → cs[olds.length + j]? = news[j]? := fun j hj => by
  rw [← hcs, Array.getElem?_append_left (by simp; omega)]
  simp only [List.getElem?_toArray]
  rw [List.getElem?_append_right (by omega)]
  congr 1
  omega
 obtain ⟨β', b1, b2, b3⟩ := (hW.same hbw).adopt (ℓ := ⟨w.heap.size, 0, some cap⟩) (nb := ⟨[], e, .vec ty (lo ++ q), false⟩) rfl ⟨trivial, trivial⟩
  (fun _ => ⟨fun hz => by have := hW.zlt _ hz; simp only at this; omega, hW.below.size, fun j bj hj lj e => by have := hW.lt hj lj; simp only at e; omega⟩) (fun β' g1 g2 => by
   simp only [BlkR, g2]
   refine ⟨cs, hblk, ?_, by rw [List.length_append]; omega, fun j d hd => ?_⟩
   ·rw [← hcs]
    have h1 : cap * ty.n = (List.length lo + List.length q) * ty.n + (cap - (List.length lo + List.length q)) * ty.n := by
     rw [← Nat.add_mul]; congr 1; omega
    simp only [Array.size_append, zeroCells_size, hzs, List.size_toArray, List.length_append, hol, hnl]
    rw [h1, Nat.add_mul]; omega
   ·by_cases hj : j < List.length lo
    ·rw [List.getElem?_append_left hj] at hd
     exact ob Z _ w.heap.size 0 (fun _ h => h) hw (fun p hp => by rw [cell_of_block hblk, Nat.zero_add, hc1 p hp]) j d hd
    ·rw [List.getElem?_append_right (by omega)] at hd
     have := nb Z _ w.heap.size (0 + olds.length) (fun _ h => h) hw (fun p hp => by rw [cell_of_block hblk, Nat.zero_add, hc2 p hp]) _ d hd
     rw [hol, Nat.zero_add, ← Nat.add_mul] at this
     rw [show List.length lo + (j - List.length lo) = j by omega] at this
     rw [Nat.zero_add]; exact this)
 exact ⟨_, _, hrun, hbw, β', b1, b3, by simp only [R, b2]; exact ⟨by omega, ⟨w.heap.size, 0, none⟩, by simp, fun _ => by simp⟩, by rw [b2]⟩
theorem size_setCells (b : Nat) : ∀ (vs : List Value) (o : Nat) (w : World), (w.setCells b o vs).heap.size = w.heap.size
 | [], _, _ => rfl
 | v :: r, o, w => by rw [World.setCells, size_setCells b r]; simp
theorem tape_setCells (b : Nat) : ∀ (vs : List Value) (o : Nat) (w : World), (w.setCells b o vs).tape = w.tape
 | [], _, _ => rfl
 | v :: r, o, w => by rw [World.setCells, tape_setCells b r]; rfl
theorem other_setCells (w : World) (g o : Nat) (vs : List Value) {i : Nat} (hne : i ≠ g) : (w.setCells g o vs).heap[i]? = w.heap[i]? := by
 by_cases hi : i < w.heap.size
 ·exact World.heap_setCells_other w g o vs hi hne
 ·rw [Array.getElem?_eq_none (by rw [size_setCells]; omega), Array.getElem?_eq_none (by omega)]
theorem block_setCells (b : Nat) (t : TypeId) : ∀ (vs : List Value) (o : Nat) (w : World) (cs : Array Value), w.heap[b]? = some (.cells cs t (0, 0)) → ∃ cs', (w.setCells b o vs).heap[b]? = some (.cells cs' t (0, 0)) ∧ cs'.size = cs.size
 | [], _, w, cs, h => ⟨cs, h, rfl⟩
 | v :: r, o, w, cs, h => by
  have hlt := (Array.getElem?_eq_some_iff.1 h).1
  have h1 : (w.setCell ⟨b, o, none⟩ v).heap[b]? = some (.cells (cs.setIfInBounds o v) t (0, 0)) := by
   simp [World.setCell, Array.getElem?_modify, h]
  obtain ⟨cs', h2, h3⟩ := block_setCells b t r (o + 1) _ _ h1
  exact ⟨cs', h2, by rw [h3]; simp⟩
theorem room_sound (hW : RW G w0 Z0 Z β H w) {t tx ty' e : TypeId} {i : TypeInfo} (hu : P.underlying t = some (.slice e)) (hkx : ∃ e', P.underlying tx = some (.slice e')) (hi : P.info? e = some i) {ty : Ty} (him : i.size = ty.n)
  {B O c : Nat} {ad : Addr} {lo q : List ty.D} {cs : Array Value} (g1 : w.heap[B]? = some (.cells cs e (0, 0))) (g2 : O + c * ty.n ≤ cs.size) (had : 0 < c → ad = ⟨B, O, none⟩)
  (hB0 : w0.heap.size ≤ B) (hBZ : ¬ Z B) (hBo : ∀ j bj, H[j]? = some bj → live β j bj → (β j).b ≠ B)
  (olde : ∀ (j : Nat) (d : ty.D), lo[j]? = some d → RD Z w ty d B (O + j * ty.n)) {y : Value} {news : List Value} (hs : Src P ty.n tx y (List.length q) news w) (nb : Back Z w ty q news) (hroom : List.length lo + List.length q ≤ c) :
  ∃ w' v, (Builtin.append_ #[t, tx] ty' #[.slice (some ad) (List.length lo) c, y]).run P w = .ok v w' ∧ (w'.os = w.os ∧ w'.tape = w.tape ∧ w'.output = w.output ∧ w'.heap.size = w.heap.size) ∧ (∀ j, j ≠ B → w'.heap[j]? = w.heap[j]?) ∧
   ∃ β', (∀ k, k < H.length → β' k = β k) ∧ RW G w0 Z0 Z β' (H ++ [⟨[], e, .vec ty (lo ++ q), false⟩]) w' ∧ R β' Z w' (.os H.length ty.n 0 (List.length lo + List.length q)) v ∧ (β' H.length).b = B := by
 have hnl := hs.newsLen
 have hmr : List.length lo * ty.n + List.length q * ty.n ≤ c * ty.n := by rw [← Nat.add_mul]; exact Nat.mul_le_mul_right _ hroom
 have hrun : (Builtin.append_ #[t, tx] ty' #[.slice (some ad) (List.length lo) c, y]).run P w = .ok (.slice (some ad) (List.length lo + List.length q) c) (w.setCells B (O + List.length lo * ty.n) news) := by
  by_cases hc0 : 0 < c
  ·rw [had hc0]
   have := run_append_room_src (P := P) w t tx ty' e i hu hi B O (List.length lo) c y (List.length q) news (by rw [him]; exact hs) hroom (fun j hj => by
    rw [cell_of_block g1, him]
    have : O + List.length lo * ty.n + j < cs.size := by omega
    simp [this]) (fun j hj => frozen_of_block g1 _)
   rw [him] at this
   exact this
  ·have hn0 : List.length lo = 0 := by omega
   have hq0 : List.length q = 0 := by omega
   have hnn : news = [] := List.length_eq_zero_iff.1 (by rw [hnl, hq0]; simp)
   have hl := hs.len
   have hc := hs.cells
   rw [hq0] at hl hc
   subst hnn
   rw [hq0, hn0]
   obtain ⟨e', hk⟩ := hkx
   simp [Builtin.append_, run_underlying hu, run_underlying hk, sizeOf, typeInfo, hi, hl, him, hc, World.setCells, storeCells]
 have hne : ∀ j, j ≠ B → (w.setCells B (O + List.length lo * ty.n) news).heap[j]? = w.heap[j]? := fun j hj => other_setCells w _ _ _ hj
 have hZw : ∀ b', Z b' → (w.setCells B (O + List.length lo * ty.n) news).heap[b']? = w.heap[b']? := fun b' hz => hne b' (fun e => hBZ (e ▸ hz))
 have hin := World.cell?_setCells_in B news (O + List.length lo * ty.n) w (fun j hj => by
  rw [cell_of_block g1]
  have : O + List.length lo * ty.n + j < cs.size := by omega
  simp [this])
 have hout := fun j (hj : j < O + List.length lo * ty.n) => World.cell?_setCells_out B news (O + List.length lo * ty.n) w ⟨B, j, none⟩ (fun _ _ => .inl hj)
 obtain ⟨cs', q1, q2⟩ := block_setCells B e news (O + List.length lo * ty.n) w cs g1
 have hos := World.os_setCells w B (O + List.length lo * ty.n) news
 have hot := World.output_setCells w B (O + List.length lo * ty.n) news
 have htp := tape_setCells B news (O + List.length lo * ty.n) w
 have hsz := size_setCells B news (O + List.length lo * ty.n) w
 generalize w.setCells B (O + List.length lo * ty.n) news = w' at hrun hne hZw hin hout q1 hos hot htp hsz
 have hW2 := hW.loose hB0 hBZ hBo hsz ⟨hos, htp, hot⟩ hne
 obtain ⟨β', b1, b2, b3⟩ := hW2.adopt (ℓ := ⟨B, O, some c⟩) (nb := ⟨[], e, .vec ty (lo ++ q), false⟩) rfl ⟨trivial, trivial⟩ (fun _ => ⟨hBZ, hB0, hBo⟩) (fun β' f1 f2 => by
  simp only [BlkR, f2]
  refine ⟨cs', q1, by omega, by rw [List.length_append]; exact hroom, fun j d hd => ?_⟩
  by_cases hj : j < List.length lo
  ·rw [List.getElem?_append_left hj] at hd
   refine RD.move (fun _ h => h) hZw ty d _ _ _ _ (fun p hp => ?_) (olde j d hd)
   have := Nat.mul_le_mul_right ty.n (show j + 1 ≤ List.length lo by omega)
   rw [Nat.add_mul, Nat.one_mul] at this
   exact hout _ (by omega)
  ·rw [List.getElem?_append_right (by omega)] at hd
   have := nb Z w' B (O + List.length lo * ty.n) (fun _ h => h) hZw (fun p hp => by rw [hin p hp, List.getElem?_eq_getElem hp]) _ d hd
   rw [Nat.add_assoc O, ← Nat.add_mul, show List.length lo + (j - List.length lo) = j by omega] at this
   exact this)
 refine ⟨w', _, hrun, ⟨hos, htp, hot, hsz⟩, hne, β', b1, b3, ?_, by rw [b2]⟩
 simp only [R, b2]
 exact ⟨by omega, ad, by simp, fun h0 => by rw [had (by simpa using h0)]; simp⟩
theorem T.bind_all {α γ : Type} {t : T α} {k : α → T γ} {y : γ} (h : (t.bind k).all (fun z => z = y)) : ∃ x, t.all (fun z => z = x) ∧ (k x).all (fun z => z = y) := by
 rw [T.all_bind] at h
 obtain ⟨x, h1, h2⟩ := T.pick h
 exact ⟨x, h2, h1⟩
theorem appendL_sound {t tx ty' : TypeId} {x y lv : LV} {vx vy : Value} {H' : List Blk} (hW : RW G w0 Z0 Z β H w) (h : (appendL P H t tx x y).all (fun q => q = (lv, H'))) (hx : R β Z w x vx) (hy : R β Z w y vy) :
  ∃ w' v, (Builtin.append_ #[t, tx] ty' #[vx, vy]).run P w = .ok v w' ∧ Go.Proofs.Ytihbikkkmoaljaa.Near (lvB β H (owns x)) w w' ∧ (∀ b, Z b → w'.heap[b]? = w.heap[b]?) ∧ ∃ β', (∀ k, k < H.length → β' k = β k) ∧ RW G w0 Z0 Z β' H' w' ∧ R β' Z w' lv v ∧ okV H'.length lv ∧
   H'.length = H.length + 1 ∧ (w.heap.size ≤ (β' H.length).b ∨ (β' H.length).b ∈ lvB β H (owns x)) := by
 unfold appendL at h
 split at h
 ·rename_i e ty m by_ he
  obtain ⟨hu, htn, i, hi, him, hib⟩ := elemT_some he
  split at h
  ·rename_i e2 z hkx hz
   have hzi : i.zero = some z := by unfold zeroT at hz; simpa [hi] using hz
   split at h
   ·rename_i hzs
    obtain ⟨q, hq, hnew⟩ := T.bind_all h
    clear h
    have h := hnew
    clear hnew
    ·obtain ⟨news, hs, nb⟩ := srcOf_Src hkx hW hq hy
     have hnl := hs.newsLen
     subst htn
     have nil : ∀ (H1 : List Blk), RW G w0 Z0 Z β H1 w → (List.length q : Int) * by_ ≤ 2 ^ 47 → (List.length q : Int) < 2 ^ 62 →
       ∃ w' v, (Builtin.append_ #[t, tx] ty' #[.slice none 0 0, vy]).run P w = .ok v w' ∧ Below w.heap.size w w' ∧ ∃ β', (∀ k, k < H1.length → β' k = β k) ∧ RW G w0 Z0 Z β' (H1 ++ [⟨[], e, .vec ty q, false⟩]) w' ∧ R β' Z w' (.os H1.length ty.n 0 (List.length q)) v ∧ (β' H1.length).b = w.heap.size := fun H1 hW1 hby h62 => by
      by_cases hq0 : 0 < List.length q
      ·have := grow_sound (P := P) (ty' := ty') hW1 hu hi hzi him hzs (base := none) (sCap := 0) (olds := []) (lo := []) (q := q) (by simpa using run_firstCells_none (P := P) w.drew i.size 0 0 0) (by simp) (fun _ _ _ _ _ _ _ i d hd => by simp at hd) hs nb (by simpa using hq0) (by simpa using h62) (by rw [hib]; simpa using hby)
       simpa using this
      ·have hqn : q = [] := List.length_eq_zero_iff.1 (by omega)
       subst hqn
       have hn0 : news = [] := List.length_eq_zero_iff.1 (by simpa using hnl)
       subst hn0
       obtain ⟨β', b1, b2, b3⟩ := hW1.adopt (ℓ := ⟨w.heap.size, 0, none⟩) (nb := ⟨[], e, .vec ty [], false⟩) rfl ⟨trivial, trivial⟩ (fun hl => absurd rfl hl) (fun β' g1 g2 => by simp only [BlkR, g2])
       refine ⟨w, .slice none 0 0, ?_, Below.refl _ _, β', b1, b3, by simp [R, b2], by rw [b2]⟩
       have hl := hs.len
       have hc := hs.cells
       simp only [List.length_nil] at hl hc
       simp [Builtin.append_, run_underlying hu, run_underlying hkx, sizeOf, typeInfo, hi, hl, him, hc]
     split at h
     ·simp only [T.all] at h
      obtain ⟨⟨h1, h2⟩, h3⟩ := h
      simp only [Prod.mk.injEq] at h3
      obtain ⟨rfl, rfl⟩ := h3
      simp only [R] at hx
      subst hx
      obtain ⟨w', v, r1, r2, β', r3, r4, r5, r6⟩ := nil H hW h1 h2
      exact ⟨w', v, r1, ⟨r2.os, r2.tape, r2.output, r2.size, fun k hk _ => r2.block k hk⟩, fun b hz => below_block r2 (hW.zlt b hz), β', r3, r4, r5, by simp [okV], by simp, .inl (by omega)⟩
     ·rename_i k es off n
      split at h
      ·rename_i c0 bt e' l hb
       split at h
       ·rename_i hee _
        have hee' := hee.symm
        subst hee'
        split at h
        ·rename_i hes
         obtain ⟨rfl, rfl⟩ := hes
         simp only [T.all] at h
         obtain ⟨⟨hlen, hby, h62⟩, h3⟩ := h
         simp only [Prod.mk.injEq, castL] at h3
         obtain ⟨rfl, rfl⟩ := h3
         have hkl : k < H.length := (List.getElem?_eq_some_iff.1 hb).1
         have hW1 := hW.kill k bt
         have hblk := (hW.blk k _ hb).1
         simp only [R] at hx
         split at hx
         ·rename_i hcap
          obtain ⟨rfl, rfl, rfl⟩ := hx
          simp only [BlkR, hcap] at hblk
          subst hblk
          obtain ⟨w', v, r1, r2, β', r3, r4, r5, r6⟩ := nil _ hW1 (by simpa using hby) (by simpa using h62)
          simp only [List.length_set] at r3 r5 r6
          exact ⟨w', v, r1, ⟨r2.os, r2.tape, r2.output, r2.size, fun k hk _ => r2.block k hk⟩, fun b hz => below_block r2 (hW.zlt b hz), β', r3, by simpa using r4, by simpa using r5, by simp [okV], by simp, .inl (by omega)⟩
         ·rename_i c hcap
          obtain ⟨hoc, ad, hvx, had⟩ := hx
          subst hvx
          simp only [BlkR, hcap] at hblk
          obtain ⟨cs, g1, g2, g3, g4⟩ := hblk
          have hlive : live β k ⟨c0, bt, .vec ty l, false⟩ := by simp [live, hcap]
          have hB0 := hW.low k _ hb hlive
          have hBZ := hW.zown k _ hb hlive rfl
          have hBo : ∀ j bj, (H.set k ⟨[], bt, .dead, false⟩)[j]? = some bj → live β j bj → (β j).b ≠ (β k).b := fun j bj hj lj e => by
           rw [List.getElem?_set] at hj
           split at hj
           ·first
            | (split at hj
               ·simp only [Option.some.injEq] at hj; subst hj; exact lj
               ·cases hj)
            | (simp only [Option.some.injEq] at hj; subst hj; exact lj)
           ·rename_i hne
            exact hne (hW.inj k j _ bj hb hj hlive lj rfl e.symm)
          have olde : ∀ (j : Nat) (d : ty.D), (l.drop off)[j]? = some d → RD Z w ty d (β k).b ((β k).o + off * ty.n + j * ty.n) := fun j d hd => by
           rw [List.getElem?_drop] at hd
           have := g4 (off + j) d hd
           rwa [Nat.add_mul, ← Nat.add_assoc] at this
          have hln : List.length (l.drop off) = n := by simp; omega
          have hmul : off * ty.n + (c - off) * ty.n = c * ty.n := by rw [← Nat.add_mul]; congr 1; omega
          by_cases hroom : n + List.length q ≤ c - off
          ·-- in place
           have hr := room_sound (P := P) (ty' := ty') hW1 hu ⟨_, hkx⟩ hi him (B := (β k).b) (O := (β k).o + off * ty.n) (c := c - off) (ad := ad) (lo := l.drop off) (q := q) g1 (by omega) had hB0 hBZ hBo olde hs nb (by rw [hln]; exact hroom)
           rw [hln] at hr
           obtain ⟨w', v, r1, ⟨r2, r3, r4, r5⟩, r6, β', r7, r8, r9, r10⟩ := hr
           simp only [List.length_set] at r7 r9 r10
           exact ⟨w', v, r1, ⟨r2, r3, r4, by omega, fun j _ hj => r6 j (fun e => hj (e ▸ lvB_one hb hlive rfl))⟩, fun b' hz => r6 b' (fun e => hBZ (e ▸ hz)), β', r7, r8, r9, by simp [okV], by simp, .inr (by rw [r10]; exact lvB_one hb hlive rfl)⟩
          ·-- a new row
           obtain ⟨olds, o1, o2, o3⟩ := row_cells olde
           have hold : (Builtin.firstCells i.size n (.slice (some ad) n (c - off))).run P w.drew = .ok olds.toArray w.drew := by
            by_cases hc0 : 0 < c - off
            ·rw [had hc0, him]
             refine run_firstCells_some (P := P) w.drew ty.n n _ n (c - off) olds (by rw [o1, hln]) (fun j v hv => ?_)
             have hj : j < List.length (l.drop off) * ty.n := by have := (List.getElem?_eq_some_iff.1 hv).1; omega
             rw [addr_add]
             have := o2 j hj
             rw [hv] at this
             exact this
            ·have hn0 : n = 0 := by omega
             have : olds = [] := List.length_eq_zero_iff.1 (by rw [o1, hln, hn0]; simp)
             rw [this, hn0]
             simp [Builtin.firstCells, loadCells, loadCellsFrom]
           have hgr := grow_sound (P := P) (ty' := ty') hW1 hu hi hzi him hzs (base := some ad) (sCap := c - off) (olds := olds) (lo := l.drop off) (q := q) (by rw [hln]; exact hold) o1 (fun Z' w' b' o' hZ hw hc => row_back hZ hw olde o2 (fun j hj => hc j (by omega))) hs nb (by rw [hln]; omega) (by rw [hln]; exact h62) (by rw [hln, hib]; exact hby)
           rw [hln] at hgr
           obtain ⟨w', v, r1, r2, β', r3, r4, r5, r6⟩ := hgr
           simp only [List.length_set] at r3 r5 r6
           exact ⟨w', v, r1, ⟨r2.os, r2.tape, r2.output, r2.size, fun k hk _ => r2.block k hk⟩, fun b hz => below_block r2 (hW.zlt b hz), β', r3, r4, r5, by simp [okV], by simp, .inl (by omega)⟩
        ·cases h
       ·cases h
      ·cases h
     ·cases h
   ·cases h
  ·cases h
 ·cases h
end Go.Sx
