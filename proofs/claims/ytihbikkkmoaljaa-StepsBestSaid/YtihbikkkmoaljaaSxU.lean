/- The executor is right: slicing, maps, own memory that is handed on. -/
import Derived.Test.YtihbikkkmoaljaaSxS
namespace Go.Sx
open Go Go.RowKit
variable {P : Program} {G : Globs} {Γ : Specs} {β : Nat → Loc} {Z : Nat → Prop} {Z0 : Gz} {w w0 : World} {F : List LV} {H : List Blk} {a : Act}
theorem okL_map {n m : Nat} {g : LV → LV} {l : List LV} (h : okL n l) (hg : ∀ x, okV n x → okV m (g x)) : okL m (l.map g) := by
 refine okL.of_get fun i x hx => ?_
 rw [List.getElem?_map] at hx
 cases hl : l[i]? with
 | none => simp [hl] at hx
 | some q => simp [hl] at hx; subst hx; exact hg q (okL.get _ _ h hl)
theorem ownsL_mem {k : Nat} {x : LV} : ∀ {l : List LV} {i : Nat}, l[i]? = some x → k ∈ owns x → k ∈ ownsL l
 | [], i, h, _ => by simp at h
 | y :: ys, 0, h, hk => by simp at h; subst h; simp only [ownsL, List.mem_append]; exact .inl hk
 | y :: ys, i + 1, h, hk => by simp at h; simp only [ownsL, List.mem_append]; exact .inr (ownsL_mem (l := ys) h hk)
theorem RL_map {S : Nat → Prop} {Z' : Nat → Prop} {g : LV → LV} {n : Nat} {l : List LV} {ys : List Value} (h : RL β Z w l ys) (hk : okL n l) (hS : ∀ k, k ∈ ownsL l → S k) (hg : ∀ x y, x ∈ l → (∀ k, k ∈ owns x → S k) → okV n x → R β Z w x y → R β Z' w (g x) y) : RL β Z' w (l.map g) ys := by
 refine RL.of_get (by simp [RL.length h]) fun i x hx => ?_
 rw [List.getElem?_map] at hx
 cases hl : l[i]? with
 | none => simp [hl] at hx
 | some q =>
  simp [hl] at hx; subst hx
  obtain ⟨y, h1, h2⟩ := RL.get _ _ h hl
  exact ⟨y, h1, hg q y (List.mem_of_getElem? hl) (fun k hkk => hS k (ownsL_mem hl hkk)) (okL.get _ _ hk hl) h2⟩
def GX (H : List Blk) (d : Nat) (x : LV) : Prop := (guardX H d x).all (fun _ => True)
theorem gseq_all {α : Type} {g : α → T Unit} : ∀ {l : List α}, (gseq g l).all (fun _ => True) → ∀ x, x ∈ l → (g x).all (fun _ => True)
 | [], _, x, hx => by cases hx
 | y :: ys, h, x, hx => by
  simp only [gseq] at h
  rw [T.all_bind] at h
  rcases List.mem_cons.1 hx with rfl | hx
  ·exact T.all_mono (fun _ _ => trivial) h
  ·obtain ⟨_, h1, _⟩ := T.pick h
   exact gseq_all h1 x hx
theorem encL_ok0 (e : Ty) (d : e.D) (j : Nat) : okV 0 ((encL e d).getD j .junk) := getD_ok (encL_ok 0 e d) j
theorem toX_ok (H : List Blk) (hH : ∀ (k : Nat) (b : Blk), H[k]? = some b → okB H.length b) : ∀ (d : Nat) (x : LV), okV H.length x → okV 0 (toX H d x)
 | 0, x, _ => by cases x <;> trivial
 | d + 1, .own k off, _ => by
  simp only [toX]
  split
  ·rename_i b hb
   split
   ·simp only [okV]
    exact fun j => toX_ok H hH d _ (getD_ok (hH k b hb).1 _)
   ·trivial
  ·trivial
 | d + 1, .os k es off n, _ => by
  simp only [toX]
  split
  ·split
   ·trivial
   ·trivial
  ·trivial
 | d + 1, .op k es i j, _ => by
  simp only [toX]
  split
  ·split
   ·simp only [okV]; exact fun q => encL_ok0 _ _ _
   ·trivial
  ·trivial
 | d + 1, .om k, _ => by
  simp only [toX]
  split
  ·rename_i hb
   simp only [okV]
   exact okL_map (hH k _ hb).2 (fun x hx => toX_ok H hH d x hx)
  ·trivial
 | d + 1, .v x, _ => trivial
 | d + 1, .bl x, _ => trivial
 | d + 1, .ki _ _, _ => trivial
 | d + 1, .agg l, h => by simp only [toX, okV] at *; exact okL_map h (fun x hx => toX_ok H hH d x hx)
 | d + 1, .tup l, h => by simp only [toX, okV] at *; exact okL_map h (fun x hx => toX_ok H hH d x hx)
 | d + 1, .fn f l, h => by simp only [toX, okV] at *; exact okL_map h (fun x hx => toX_ok H hH d x hx)
 | d + 1, .xq n f, h => by simpa only [toX, okV] using h
 | d + 1, .xl e l, h => trivial
 | d + 1, .mp kd ks vs, h => by simp only [toX, okV] at *; exact okL_map h (fun x hx => toX_ok H hH d x hx)
 | d + 1, .oc .., _ => trivial
 | d + 1, .yld k, _ => trivial
 | d + 1, .junk, _ => trivial
def ZP (Z : Nat → Prop) (β : Nat → Loc) (H : List Blk) (S : Nat → Prop) : Nat → Prop := fun b => Z b ∨ ∃ k bk, S k ∧ H[k]? = some bk ∧ live β k bk ∧ b = (β k).b
theorem blk_cl (hW : RW G w0 Z0 Z β H w) {k : Nat} {b : Blk} (hb : H[k]? = some b) (hc : b.isCl = true) : live β k b ∧ (∃ cs, w.heap[(β k).b]? = some (.cells cs b.t (0, 0)) ∧ RL β Z w b.c cs.toList) ∧ okL H.length b.c := by
 obtain ⟨h1, h2⟩ := hW.blk k b hb
 unfold BlkR at h1
 unfold Blk.isCl at hc
 split at hc
 ·rename_i hk'
  simp only [hk'] at h1
  exact ⟨by unfold live; rw [hk']; trivial, h1, h2.1⟩
 ·cases hc
theorem toX_R {S : Nat → Prop} (hW : RW G w0 Z0 Z β H w) (clo : ∀ k b, S k → H[k]? = some b → ∀ j, j ∈ b.owns → S j) : ∀ (d : Nat) (x : LV) (y : Value), GX H d x → (∀ k, k ∈ owns x → S k) → okV H.length x → R β Z w x y → R β (ZP Z β H S) w (toX H d x) y
 | 0, x, _, _, _, _, _ => by cases x <;> simp only [toX, R]
 | d + 1, .own k off, y, hG, hS, hk, h => by
  simp only [toX]
  split
  ·rename_i b hb
   split
   ·rename_i hcl
    obtain ⟨hl, ⟨cs, hc, hrl⟩, hok⟩ := blk_cl hW hb hcl
    have hSk : S k := hS k (by simp [owns])
    simp only [R, okV] at *
    refine ⟨(β k).b, off, h, .inr ⟨k, b, hSk, hb, hl, rfl⟩, fun j hj => ?_⟩
    have hl' : off + j < b.c.length := by omega
    have hq := getD_lt hl'
    obtain ⟨z, h1, h2⟩ := RL.get _ _ hrl hq
    refine ⟨z, by rw [cell_of_block hc]; simpa using h1, ?_⟩
    have hG' : (gseq (guardX H d) b.c).all (fun _ => True) := by simpa only [GX, guardX, hb] using hG
    exact toX_R hW clo d _ z (gseq_all hG' _ (List.mem_of_getElem? hq)) (fun j hj => clo k b hSk hb j (by unfold Blk.owns; exact List.mem_append.2 (.inl (ownsL_mem hq hj)))) (getD_ok hok _) h2
   ·simp only [R]
  ·simp only [R]
 | d + 1, .os k es off n, y, hG, hS, hk, h => by
  simp only [toX]
  split
  ·rename_i c0 bt e l pp hb
   split
   ·rename_i hes
    have hle : off + n ≤ List.length l := by
     have hG' := hG
     simp only [GX, guardX, hb, T.all] at hG'
     exact hG'.1
    have hSk : S k := hS k (by simp [owns])
    have hlen : List.length ((l.drop off).take n) = n := by simp; omega
    simp only [R] at h ⊢
    rw [hlen]
    split at h
    ·obtain ⟨rfl, _, hy⟩ := h
     exact ⟨none, 0, hy, by omega, fun h => absurd h (by omega)⟩
    ·rename_i c hc
     obtain ⟨h1, a, h2, h3⟩ := h
     refine ⟨some a, c - off, h2, by omega, fun hn => ?_⟩
     have h4 := (hW.blk k _ hb).1
     simp only [BlkR, hc] at h4
     obtain ⟨cs, g1, g2, g3, g4⟩ := h4
     refine ⟨_, _, by rw [h3 (by omega)], .inr ⟨k, _, hSk, hb, by simp [live, hc], rfl⟩, fun i d hd => ?_⟩
     rw [List.getElem?_take] at hd
     split at hd
     ·rw [List.getElem?_drop] at hd
      have := g4 (off + i) d hd
      rw [← hes]
      rw [Nat.add_mul, ← Nat.add_assoc] at this
      exact RD.keep (fun _ h => .inl h) (fun _ _ => rfl) e d _ _ rfl this
     ·cases hd
   ·simp only [R]
  ·simp only [R]
 | d + 1, .op k es i j, y, hG, hS, hk, h => by
  simp only [toX]
  split
  ·rename_i c0 bt e l pp hb
   split
   ·rename_i hes
    have hle : i < List.length l := by
     have hG' := hG
     simp only [GX, guardX, hb, T.all] at hG'
     exact hG'.1
    have hSk : S k := hS k (by simp [owns])
    simp only [R] at h ⊢
    obtain ⟨hcap, hy⟩ := h
    have h4 := (hW.blk k _ hb).1
    simp only [BlkR] at h4
    split at h4
    ·rename_i hc; exact absurd hc hcap
    ·rename_i c hc
     obtain ⟨cs, g1, g2, g3, g4⟩ := h4
     refine ⟨_, _, hy, .inr ⟨k, _, hSk, hb, by simp [live, hc], rfl⟩, fun q hq => ?_⟩
     have hjq : j + q < (encL e (l.getD i e.dflt)).length := by rw [encL_length]; omega
     have hrd := RD.keep (Z' := ZP Z β H S) (fun _ h => .inl h) (fun _ _ => rfl) e _ _ _ rfl (g4 i _ (getD_at hle))
     obtain ⟨z, z1, z2⟩ := encL_R (β := β) e _ _ _ hrd (j + q) _ (getD_lt hjq)
     exact ⟨z, by rw [← hes]; rw [← Nat.add_assoc] at z1; exact z1, z2⟩
   ·simp only [R]
  ·simp only [R]
 | d + 1, .om k, y, hG, hS, hk, h => by
  simp only [toX]
  split
  ·rename_i c0 bt kd ks vs pp hb
   have hSk : S k := hS k (by simp [owns])
   obtain ⟨h4, h5⟩ := hW.blk k _ hb
   simp only [BlkR] at h4
   obtain ⟨es, clock, g1, g2, g3⟩ := h4
   simp only [R] at h ⊢
   refine ⟨_, es, clock, h, .inr ⟨k, _, hSk, hb, trivial, rfl⟩, g1, g2, ?_⟩
   have hG' : (gseq (guardX H d) vs).all (fun _ => True) := by simpa only [GX, guardX, hb] using hG
   exact RL_map (S := S) g3 h5.2 (fun j hj => clo k _ hSk hb j (by unfold Blk.owns; exact List.mem_append.2 (.inr hj))) (fun x y hm hx hk' hr => toX_R hW clo d x y (gseq_all hG' _ hm) hx hk' hr)
  ·simp only [R]
 | d + 1, .v x, _, _, _, _, h => h
 | d + 1, .bl x, _, _, _, _, h => h
 | d + 1, .ki _ _, _, _, _, _, h => h
 | d + 1, .agg l, y, hG, hS, hk, h => by
  have hG' : (gseq (guardX H d) l).all (fun _ => True) := by simpa only [GX, guardX] using hG
  clear hG
  simp only [toX, R, okV, owns] at *
  obtain ⟨ys, h1, h2⟩ := h
  exact ⟨ys, h1, RL_map h2 hk hS (fun x y hm hx hk' hr => toX_R hW clo d x y (gseq_all hG' _ hm) hx hk' hr)⟩
 | d + 1, .tup l, y, hG, hS, hk, h => by
  have hG' : (gseq (guardX H d) l).all (fun _ => True) := by simpa only [GX, guardX] using hG
  clear hG
  simp only [toX, R, okV, owns] at *
  obtain ⟨ys, h1, h2⟩ := h
  exact ⟨ys, h1, RL_map h2 hk hS (fun x y hm hx hk' hr => toX_R hW clo d x y (gseq_all hG' _ hm) hx hk' hr)⟩
 | d + 1, .fn f l, y, hG, hS, hk, h => by
  have hG' : (gseq (guardX H d) l).all (fun _ => True) := by simpa only [GX, guardX] using hG
  clear hG
  simp only [toX, R, okV, owns] at *
  obtain ⟨ys, h1, h2⟩ := h
  exact ⟨ys, h1, RL_map h2 hk hS (fun x y hm hx hk' hr => toX_R hW clo d x y (gseq_all hG' _ hm) hx hk' hr)⟩
 | d + 1, .mp kd ks vs, y, hG, hS, hk, h => by
  have hG' : (gseq (guardX H d) vs).all (fun _ => True) := by simpa only [GX, guardX] using hG
  clear hG
  simp only [toX, R, okV, owns] at *
  obtain ⟨r, es, clock, h1, h2, h3, h4, h5⟩ := h
  exact ⟨r, es, clock, h1, .inl h2, h3, h4, RL_map h5 hk hS (fun x y hm hx hk' hr => toX_R hW clo d x y (gseq_all hG' _ hm) hx hk' hr)⟩
 | d + 1, .xq n f, y, _, _, hk, h => by
  simp only [toX]
  exact R.mono (n := H.length) (fun _ _ => rfl) (fun _ h => .inl h) (fun _ _ => rfl) _ _ hk h
 | d + 1, .xl e l, y, _, _, hk, h => by
  simp only [toX]
  exact R.mono (n := H.length) (fun _ _ => rfl) (fun _ h => .inl h) (fun _ _ => rfl) _ _ hk h
 | d + 1, .oc .., _, _, _, _, _ => by simp only [toX, R]
 | d + 1, .yld k, _, _, _, _, _ => by simp only [toX, R]
 | d + 1, .junk, _, _, _, _, _ => by simp only [toX, R]
/-! ### blocks that are only read from now on -/
theorem pubGo_get (ks : List Nat) : ∀ (H : List Blk) (s k : Nat), (pubGo ks s H)[k]? = (H[k]?).map fun b => if ks.contains (s + k) then ⟨b.c, b.t, b.k, true⟩ else b
 | [], _, _ => by simp [pubGo]
 | b :: bs, s, 0 => by simp [pubGo]
 | b :: bs, s, k + 1 => by
  simp only [pubGo, List.getElem?_cons_succ]
  rw [pubGo_get ks bs (s + 1) k, show s + 1 + k = s + (k + 1) by omega]
theorem pubGo_length (ks : List Nat) : ∀ (H : List Blk) (s : Nat), (pubGo ks s H).length = H.length
 | [], _ => rfl
 | b :: bs, s => by simp [pubGo, pubGo_length ks bs]
theorem RW.pub (hW : RW G w0 Z0 Z β H w) (ks : List Nat) : RW G w0 Z0 (ZP Z β H (fun k => k ∈ ks)) β (pubGo ks 0 H) w := by
 have old : ∀ k b, (pubGo ks 0 H)[k]? = some b → ∃ b0, H[k]? = some b0 ∧ live β k b = live β k b0 ∧ b.k = b0.k ∧ b.t = b0.t ∧ b.c = b0.c ∧ ((k ∈ ks ∧ b.p = true) ∨ (k ∉ ks ∧ b.p = b0.p)) := fun k b h => by
  rw [pubGo_get] at h
  cases hb : H[k]? with
  | none => simp [hb] at h
  | some b0 =>
   simp only [hb, Option.map_some, Option.some.injEq, Nat.zero_add] at h
   refine ⟨b0, rfl, ?_⟩
   split at h
   ·rename_i hc
    subst h
    exact ⟨rfl, rfl, rfl, rfl, .inl ⟨by simpa using hc, rfl⟩⟩
   ·rename_i hc
    subst h
    exact ⟨rfl, rfl, rfl, rfl, .inr ⟨by simpa using hc, rfl⟩⟩
 have hZ : ∀ b, Z b → ZP Z β H (fun k => k ∈ ks) b := fun _ h => .inl h
 refine ⟨hW.below, fun b hz => ?_, fun b hz => ?_, fun k b hk hl hp hz => ?_, fun k b hk hl hp => ?_, fun k b hk hl => ?_, fun i j bi bj hi hj li lj pi e => ?_, fun k b hk => ?_, hW.glob.mono hZ (fun _ _ => rfl), fun p hp => ⟨R.mono (n := H.length) (fun _ _ => rfl) hZ (fun _ _ => rfl) _ _ (hW.gh p hp).2 (hW.gh p hp).1, by rw [pubGo_length]; exact (hW.gh p hp).2⟩, fun D hD => ⟨.inl (hW.mks D hD).1, (hW.mks D hD).2⟩⟩
 ·rcases hz with hz | ⟨k, bk, _, h2, h3, rfl⟩
  ·exact hW.zlt b hz
  ·exact hW.lt h2 h3
 ·rcases hz with hz | ⟨k, bk, _, h2, h3, rfl⟩
  ·exact hW.znew b hz
  ·exact .inr (hW.low k bk h2 h3)
 ·obtain ⟨b0, h1, h2, h3, h4, h5, h6⟩ := old k b hk
  rcases h6 with ⟨_, h6⟩ | ⟨h6, h7⟩
  ·rw [h6] at hp; cases hp
  ·rcases hz with hz | ⟨j, bj, g1, g2, g3, g4⟩
   ·exact hW.zown k b0 h1 (h2 ▸ hl) (h7 ▸ hp) hz
   ·exact h6 ((hW.inj k j b0 bj h1 g2 (h2 ▸ hl) g3 (h7 ▸ hp) g4) ▸ g1)
 ·obtain ⟨b0, h1, h2, h3, h4, h5, h6⟩ := old k b hk
  rcases h6 with ⟨h6, _⟩ | ⟨h6, h7⟩
  ·exact .inr ⟨k, b0, h6, h1, h2 ▸ hl, rfl⟩
  ·exact .inl (hW.zpub k b0 h1 (h2 ▸ hl) (h7 ▸ hp))
 ·obtain ⟨b0, h1, h2, _⟩ := old k b hk
  exact hW.low k b0 h1 (h2 ▸ hl)
 ·obtain ⟨b0, h1, h2, h3, h4, h5, h6⟩ := old i bi hi
  obtain ⟨c0, g1, g2, _⟩ := old j bj hj
  rcases h6 with ⟨_, h6⟩ | ⟨h6, h7⟩
  ·rw [h6] at pi; cases pi
  ·exact hW.inj i j b0 c0 h1 g1 (h2 ▸ li) (g2 ▸ lj) (h7 ▸ pi) e
 ·obtain ⟨b0, h1, h2, h3, h4, h5, h6⟩ := old k b hk
  obtain ⟨q1, q2⟩ := hW.blk k b0 h1
  have q3 := q1.keep (β' := β) (Z' := ZP Z β H (fun k => k ∈ ks)) (w' := w) (n := H.length) (fun _ _ => rfl) hZ (fun _ _ => rfl) rfl (fun _ => rfl) q2
  rw [pubGo_length]
  refine ⟨?_, ?_⟩
  ·unfold BlkR at q3 ⊢
   rw [h3, h4, h5]
   exact q3
  ·unfold okB at q2 ⊢
   rw [h3, h5]
   exact q2
theorem closedB_spec {ks : List Nat} {l : List LV} (h : closedB H ks l = true) : (∀ k, k ∈ ownsL l → k ∈ ks) ∧ (∀ k b, k ∈ ks → H[k]? = some b → ∀ j, j ∈ b.owns → j ∈ ks) := by
 unfold closedB at h
 simp only [Bool.and_eq_true, List.all_eq_true] at h
 refine ⟨fun k hk => by simpa using h.1 k hk, fun k b hk hb j hj => ?_⟩
 have := h.2 k hk
 rw [hb] at this
 simp only [List.all_eq_true] at this
 simpa using this j hj
end Go.Sx
