/- The executor is right: stores. -/
import Derived.Test.YtihbikkkmoaljaaSxN
import Derived.Test.YtihbikkkmoaljaaCalm
namespace Go.Sx
open Go Go.RowKit
variable {P : Program} {G : Globs} {Γ : Specs} {β : Nat → Loc} {Z : Nat → Prop} {Z0 : Gz} {w w0 : World} {F : List LV} {H : List Blk} {a : Act}
theorem oneB_one {z : Value} (h : oneB z = true) : z.oneCell' = true := by cases z <;> first | rfl | (simp [oneB] at h)
theorem setRow_block (w : World) (g : Nat) (cs : Array Value) (k : Nat) (h : k ≠ g) : (w.setRow g cs).heap[k]? = w.heap[k]? := by
 simp only [World.setRow, Array.getElem?_modify]
 rw [if_neg (by omega)]
theorem RL.app : ∀ {a b : List LV} {c d : List Value}, RL β Z w a c → RL β Z w b d → RL β Z w (a ++ b) (c ++ d)
 | [], _, _, _, h, h' => by simp only [RL] at h; subst h; simpa using h'
 | x :: xs, _, _, d, h, h' => by
  simp only [RL] at h
  obtain ⟨y, zs, rfl, h3, h4⟩ := h
  simp only [List.cons_append, RL]
  exact ⟨y, zs ++ d, rfl, h3, RL.app h4 h'⟩
theorem RL.drop {l : List LV} {ys : List Value} (h : RL β Z w l ys) (n : Nat) : RL β Z w (l.drop n) (ys.drop n) := by
 refine RL.of_get (by simp [RL.length h]) fun i z hz => ?_
 rw [List.getElem?_drop] at hz ⊢
 exact RL.get _ _ h hz
theorem RL.take {l : List LV} {ys : List Value} (h : RL β Z w l ys) (n : Nat) : RL β Z w (l.take n) (ys.take n) := by simpa using h.take_drop 0 n
theorem RL.setAt {l cs : List LV} {ys zs : List Value} (h1 : RL β Z w l ys) (h2 : RL β Z w cs zs) (off : Nat) : RL β Z w (setAt l off cs) (ys.take off ++ zs ++ ys.drop (off + zs.length)) := by
 have e2 := RL.length h2
 unfold Sx.setAt
 rw [e2]
 exact RL.app (RL.app (h1.take off) h2) (h1.drop _)
theorem okL.append {n : Nat} : ∀ {a b : List LV}, okL n a → okL n b → okL n (a ++ b)
 | [], _, _, h => h
 | _ :: _, _, h, h' => ⟨h.1, okL.append h.2 h'⟩
theorem okL.drop {n : Nat} {l : List LV} (h : okL n l) (m : Nat) : okL n (l.drop m) := by
 refine okL.of_get fun i x hx => ?_
 rw [List.getElem?_drop] at hx; exact okL.get _ _ h hx
theorem okL.setAt {n : Nat} {l cs : List LV} (h1 : okL n l) (h2 : okL n cs) (off : Nat) : okL n (setAt l off cs) := by
 unfold Sx.setAt
 refine okL.append (okL.append ?_ h2) (h1.drop _)
 have := h1.take_drop 0 off; simpa using this
/-! ### data out of cells -/
theorem hd1_some {α : Type} {f : LV → Option α} {l : List LV} {d : α} (h : hd1 f l = some d) : ∃ x, l = [x] ∧ f x = some d := by
 unfold hd1 at h
 split at h
 ·exact ⟨_, rfl, h⟩
 ·cases h
theorem castL_R {a b : Ty} (h : a = b) (l : List a.D) {y : Value} : R β Z w (.xl b (castL h l)) y ↔ R β Z w (.xl a l) y := by subst h; rfl
theorem castL_length {a b : Ty} (h : a = b) (l : List a.D) : List.length (castL h l) = List.length l := by subst h; rfl
theorem castL_get {a b : Ty} (h : a = b) (l : List a.D) {Z : Nat → Prop} {w : World} {bk : Nat} {o : Nat → Nat} : (∀ (i : Nat) (d : a.D), l[i]? = some d → RD Z w a d bk (o i)) → ∀ (i : Nat) (d : b.D), (castL h l)[i]? = some d → RD Z w b d bk (o i) := by subst h; exact id
theorem decX_R {e : Ty} {x : LV} {l : List e.D} {y : Value} (h : decX e x = some l) (hr : R β Z w x y) : R β Z w (.xl e l) y := by
 unfold decX at h
 split at h
 ·split at h
  ·rename_i q h'
   simp only [Option.some.injEq] at h
   subst h
   exact (castL_R q _).2 hr
  ·cases h
 ·simp only [Option.some.injEq] at h
  subst h
  simp only [R] at hr ⊢
  exact ⟨none, 0, hr, Nat.le_refl _, fun h => absurd h (Nat.lt_irrefl 0)⟩
 ·cases h
theorem decL_R {Z' : Nat → Prop} {w' : World} (hZ : ∀ b, Z b → Z' b) (hw : ∀ b, Z b → w'.heap[b]? = w.heap[b]?) : ∀ (t : Ty) (cs : List LV) (d : t.D) (ys : List Value), decL t cs = some d → RL β Z w cs ys → ∀ (b o : Nat), (∀ (j : Nat) v, ys[j]? = some v → w'.cell? ⟨b, o + j, none⟩ = some v) → RD Z' w' t d b o := by
 have one : ∀ {l : List LV} {ys : List Value} {x : LV}, l = [x] → RL β Z w l ys → ∀ {b o : Nat}, (∀ (j : Nat) v, ys[j]? = some v → w'.cell? ⟨b, o + j, none⟩ = some v) → ∃ y, R β Z w x y ∧ w'.cell? ⟨b, o, none⟩ = some y := by
  intro l ys x hl hr b o hc
  subst hl
  simp only [RL] at hr
  obtain ⟨y, zs, rfl, h1, _⟩ := hr
  exact ⟨y, h1, hc 0 y rfl⟩
 intro t
 induction t with
 | int k =>
  intro cs d ys h hr b o hc
  simp only [decL] at h
  obtain ⟨x, hl, hx⟩ := hd1_some h
  obtain ⟨y, h1, h2⟩ := one hl hr hc
  simp only [RD]
  rw [h2]
  unfold decI at hx
  split at hx
  ·split at hx
   ·rename_i hk; subst hk; simp only [Option.some.injEq] at hx; subst hx; simp only [R] at h1; rw [h1]
   ·cases hx
  ·split at hx
   ·rename_i hk; subst hk; simp only [Option.some.injEq] at hx; subst hx; simp only [R] at h1; rw [h1]
   ·cases hx
  ·cases hx
 | bool =>
  intro cs d ys h hr b o hc
  simp only [decL] at h
  obtain ⟨x, hl, hx⟩ := hd1_some h
  obtain ⟨y, h1, h2⟩ := one hl hr hc
  simp only [RD]
  rw [h2]
  unfold decB at hx
  split at hx
  ·simp only [Option.some.injEq] at hx; subst hx; simp only [R] at h1; rw [h1]
  ·simp only [Option.some.injEq] at hx; subst hx; simp only [R] at h1; rw [h1]
  ·cases hx
 | str =>
  intro cs d ys h hr b o hc
  simp only [decL] at h
  obtain ⟨x, hl, hx⟩ := hd1_some h
  obtain ⟨y, h1, h2⟩ := one hl hr hc
  simp only [RD]
  rw [h2]
  unfold decS at hx
  split at hx
  ·simp only [Option.some.injEq] at hx; subst hx; simp only [R] at h1; rw [h1]
  ·cases hx
 | sl e _ =>
  intro cs d ys h hr b o hc
  simp only [decL] at h
  obtain ⟨x, hl, hx⟩ := hd1_some h
  obtain ⟨y, h1, h2⟩ := one hl hr hc
  have h3 := decX_R hx h1
  simp only [R] at h3
  obtain ⟨a, cap, g1, g2, g3⟩ := h3
  simp only [RD]
  refine ⟨a, cap, by rw [h2, g1], g2, fun hn => ?_⟩
  obtain ⟨b', o', g4, g5, g6⟩ := g3 hn
  exact ⟨b', o', g4, hZ _ g5, fun i d hd => RD.mono hZ hw e d b' _ g5 (g6 i d hd)⟩
 | pair p q ihp ihq =>
  intro cs d ys h hr b o hc
  simp only [decL] at h
  split at h
  ·rename_i x y hx hy
   simp only [Option.some.injEq] at h
   subst h
   simp only [RD]
   refine ⟨ihp _ x _ hx (hr.take p.n) b o (fun j v hv => ?_), ihq _ y _ hy (hr.drop p.n) b (o + p.n) (fun j v hv => ?_)⟩
   ·rw [List.getElem?_take] at hv
    split at hv
    ·exact hc j v hv
    ·cases hv
   ·rw [List.getElem?_drop] at hv
    have := hc (p.n + j) v hv
    rwa [← Nat.add_assoc] at this
  ·cases h
theorem storeL_sound {t : TypeId} {x q : LV} {y z : Value} {H' : List Blk} (hW : RW G w0 Z0 Z β H w) (h : (storeL P H t x q).all (fun r => r = H')) (hr : R β Z w x y) (hq : R β Z w q z) (hqk : okV H.length q) :
  ∃ w', (Instr.storeAt t y z).run P w = .ok () w' ∧ RW G w0 Z0 Z β H' w' ∧ H'.length = H.length ∧ (∀ b, Z b → w'.heap[b]? = w.heap[b]?) ∧ Go.Proofs.Ytihbikkkmoaljaa.Near (lvB β H (owns x)) w w' := by
 unfold storeL at h
 split at h
 ·rename_i n cs hsz hcs
  have e2 := fun w => run_sizeOf hsz w
  obtain ⟨c1, c2⟩ := cellsL_R hcs hq
  have c3 := cellsL_ok hcs hqk
  have hlen2 := RL.length c1
  split at h
  ·rename_i k off
   split at h
   ·rename_i b hb
    split at h
    ·rename_i hle
     obtain ⟨hcl, hbp, hl1, hl2⟩ := hle
     simp only [T.all] at h
     have hbk : b.k = .cl := by
      unfold Blk.isCl at hcl
      split at hcl
      ·assumption
      ·cases hcl
     have hlive : live β k b := by unfold live; rw [hbk]; trivial
     obtain ⟨h1, h2⟩ := hW.blk k b hb
     unfold BlkR at h1
     simp only [hbk] at h1
     obtain ⟨cur, hc, hrl⟩ := h1
     have hlen := RL.length hrl
     simp only [R] at hr
     have hst := run_storeCells_at P (β k).b off b.t z.cells.toList 0 cur w hc (by simp at hlen; omega) (fun v hv => oneB_one (c2 v hv))
     have e3 : z.cells.size = n := by simp at hlen2; omega
     have hne : ∀ j, j ≠ (β k).b → (w.setRow (β k).b (cur.toList.take (off + 0) ++ z.cells.toList ++ cur.toList.drop (off + 0 + z.cells.toList.length)).toArray).heap[j]? = w.heap[j]? := fun j hj => setRow_block w _ _ _ hj
     refine ⟨w.setRow (β k).b (cur.toList.take (off + 0) ++ z.cells.toList ++ cur.toList.drop (off + 0 + z.cells.toList.length)).toArray, by simp [Instr.storeAt, Instr.sureAddr, hr, storeVar, e2, e3, hst], ?_, by rw [← h]; simp, fun b' hz => hne b' (fun e => hW.zown k b hb hlive hbp (e ▸ hz)), ⟨rfl, rfl, rfl, by simp [World.setRow], fun i _ hi => hne i (fun e => hi (e ▸ lvB_one hb hlive hbp))⟩⟩
     rw [← h]
     refine hW.set hb hlive hbp hbp ⟨okL.setAt h2.1 c3 off, by simp only [hbk]⟩ (by simp [World.setRow]) ⟨rfl, rfl, rfl⟩ hne ?_
     unfold BlkR
     simp only [hbk]
     refine ⟨_, setRow_heap w (β k).b cur _ b.t _ hc, ?_⟩
     refine RL.mono (n := H.length) (fun _ _ => rfl) (fun _ h => h) (fun b' hz => hne b' (fun e => hW.zown k b hb hlive hbp (e ▸ hz))) _ _ (okL.setAt h2.1 c3 off) ?_
     have := RL.setAt (β := β) (Z := Z) (w := w) hrl c1 off
     simpa using this
    ·cases h
   ·cases h
  ·rename_i k es i j
   split at h
   ·rename_i c0 bt e l hb
    split at h
    ·rename_i hle
     obtain ⟨hes, hl1, hl2⟩ := hle
     simp only [T.all] at h
     obtain ⟨hi, h⟩ := h
     split at h
     ·rename_i d hd
      simp only [T.all] at h
      simp only [R] at hr
      obtain ⟨hcap, hy⟩ := hr
      have hlive : live β k ⟨c0, bt, .vec e l, false⟩ := hcap
      obtain ⟨h1, h2⟩ := hW.blk k _ hb
      simp only [BlkR] at h1
      split at h1
      ·rename_i hc; exact absurd hc hcap
      ·rename_i c hc
       obtain ⟨cur, g1, g2, g3, g4⟩ := h1
       subst hes
       have hmul : i * e.n + e.n ≤ c * e.n := by
        have := Nat.mul_le_mul_right e.n (show i + 1 ≤ c by omega)
        rwa [Nat.add_mul, Nat.one_mul] at this
       have e3 : z.cells.size = n := by simp at hlen2; omega
       have hzl : z.cells.toList.length = n := by simpa using e3
       have hst := run_storeCells_at P (β k).b ((β k).o + i * e.n + j) bt z.cells.toList 0 cur w g1 (by rw [hzl]; omega) (fun v hv => oneB_one (c2 v hv))
       simp only [Nat.add_zero] at hst
       generalize hnew : (cur.toList.take ((β k).o + i * e.n + j) ++ z.cells.toList ++ cur.toList.drop ((β k).o + i * e.n + j + z.cells.toList.length)).toArray = new at hst
       have hnget : ∀ p, new[p]? = if p < (β k).o + i * e.n + j then cur[p]? else if p < (β k).o + i * e.n + j + n then z.cells.toList[p - ((β k).o + i * e.n + j)]? else cur[p]? := fun p => by
        rw [← hnew]
        have hsz' : (β k).o + i * e.n + j ≤ cur.size := by omega
        by_cases q1 : p < (β k).o + i * e.n + j
        ·rw [if_pos q1]
         simp only [List.getElem?_toArray, List.append_assoc]
         rw [List.getElem?_append_left (by simp; omega), List.getElem?_take_of_lt q1]
         simp
        ·rw [if_neg q1]
         simp only [List.getElem?_toArray]
         by_cases q2 : p < (β k).o + i * e.n + j + n
         ·rw [if_pos q2, List.getElem?_append_left (by simp; omega), List.getElem?_append_right (by simp; omega)]
          congr 1
          simp
          omega
         ·rw [if_neg q2, List.getElem?_append_right (by simp; omega), List.getElem?_drop]
          have : (β k).o + i * e.n + j + z.cells.toList.length + (p - (cur.toList.take ((β k).o + i * e.n + j) ++ z.cells.toList).length) = p := by
           simp
           omega
          rw [this]
          simp
       have hnsz : new.size = cur.size := by
        rw [← hnew]
        simp
        omega
       have hne : ∀ q, q ≠ (β k).b → (w.setRow (β k).b new).heap[q]? = w.heap[q]? := fun q hq => setRow_block w _ _ _ hq
       have hZw : ∀ b', Z b' → (w.setRow (β k).b new).heap[b']? = w.heap[b']? := fun b' hz => hne b' (fun e => hW.zown k _ hb hlive rfl (e ▸ hz))
       have hblk := setRow_heap w (β k).b cur new bt _ g1
       refine ⟨w.setRow (β k).b new, by simp [Instr.storeAt, Instr.sureAddr, hy, storeVar, e2, e3, hst], ?_, by rw [← h]; simp, hZw, ⟨rfl, rfl, rfl, by simp [World.setRow], fun q _ hq => hne q (fun e => hq (e ▸ lvB_one hb hlive rfl))⟩⟩
       rw [← h]
       refine hW.set hb hlive rfl rfl ⟨trivial, trivial⟩ (by simp [World.setRow]) ⟨rfl, rfl, rfl⟩ hne ?_
       simp only [BlkR, hc]
       refine ⟨new, hblk, by omega, by rw [List.length_set]; exact g3, fun i' d' hd' => ?_⟩
       by_cases hii : i' = i
       ·subst hii
        have hdd : d' = d := by
         rw [List.getElem?_set_self (by exact hi)] at hd'
         simpa using hd'.symm
        subst hdd
        have hcells : ∃ ys, RL β Z w (encL e (l.getD i' e.dflt)) ys ∧ ∀ p, ys[p]? = if p < e.n then cur[(β k).o + i' * e.n + p]? else none := by
         have hrd := g4 i' _ (getD_at hi)
         refine ⟨((cur.toList.drop ((β k).o + i' * e.n)).take e.n), RL.of_get ?_ fun p x hx => ?_, fun p => ?_⟩
         ·rw [encL_length]; simp; omega
         ·obtain ⟨v, q1, q2⟩ := encL_R (β := β) e _ _ _ hrd p x hx
          have hp : p < e.n := by have := (List.getElem?_eq_some_iff.1 hx).1; rwa [encL_length] at this
          refine ⟨v, ?_, q2⟩
          rw [cell_of_block g1] at q1
          rw [List.getElem?_take, if_pos hp, List.getElem?_drop]
          simpa using q1
         ·rw [List.getElem?_take, List.getElem?_drop]
          simp
        obtain ⟨ys, y1, y2⟩ := hcells
        have hset := RL.setAt y1 c1 j
        refine decL_R (fun _ h => h) hZw e _ d' _ hd hset _ _ (fun p v hv => ?_)
        rw [cell_of_block hblk, hnget]
        have hyl : ys.length = e.n := by have := RL.length y1; rw [encL_length] at this; exact this
        by_cases p1 : p < j
        ·rw [if_pos (by omega)]
         rw [List.append_assoc, List.getElem?_append_left (by simp; omega), List.getElem?_take_of_lt p1, y2] at hv
         rw [if_pos (by omega)] at hv
         exact hv
        ·by_cases p2 : p < j + n
         ·rw [if_neg (by omega), if_pos (by omega)]
          rw [List.getElem?_append_left (by simp; omega), List.getElem?_append_right (by simp; omega)] at hv
          rw [← hv]
          congr 1
          simp
          omega
         ·rw [if_neg (by omega), if_neg (by omega)]
          rw [List.getElem?_append_right (by simp; omega), List.getElem?_drop, y2] at hv
          split at hv
          ·rw [← hv]
           congr 1
           simp
           omega
          ·cases hv
       ·rw [List.getElem?_set_ne (Ne.symm hii)] at hd'
        refine RD.cells (fun _ h => h) hZw e d' _ _ (fun p hp => ?_) (g4 i' d' hd')
        rw [cell_of_block hblk, cell_of_block g1, hnget]
        have hsep : i' * e.n + e.n ≤ i * e.n ∨ i * e.n + e.n ≤ i' * e.n := by
         rcases Nat.lt_or_ge i' i with hlt | hge
         ·left
          have := Nat.mul_le_mul_right e.n (show i' + 1 ≤ i by omega)
          rwa [Nat.add_mul, Nat.one_mul] at this
         ·right
          have := Nat.mul_le_mul_right e.n (show i + 1 ≤ i' by omega)
          rwa [Nat.add_mul, Nat.one_mul] at this
        split
        ·rfl
        ·rw [if_neg (by omega)]
     ·cases h
    ·cases h
   ·cases h
  ·cases h
 ·cases h
end Go.Sx
