/- The executor is right: code and functions. -/
import Derived.Test.YtihbikkkmoaljaaSxF
namespace Go.Sx
open Go Go.RowKit Go.Proofs.Ytihbikkkmoaljaa
variable {P : Program} {G : Globs} {Γ : Specs} {K : Hand} {A : Gz → Prop} {β : Nat → Loc} {Z : Nat → Prop} {Z0 : Gz} {w w0 : World} {F : List LV} {H : List Blk} {a : Act} {ds : List Deferred} {n : Nat}
def exOf : Ex → Exit
 | .normal => .normal
 | .exit n => .exit n
 | .ret => .ret
structure DsOk (w0 : World) (Z0 : Gz) (ds : List Deferred) : Prop where
 new : ∀ D, markOf D ∈ ds → w0.heap.size ≤ D ∧ D ∉ Z0.mks
 nodup : ds.Nodup
theorem DsOk.nil {w0 : World} {Z0 : Gz} : DsOk w0 Z0 [] := ⟨fun _ h => (by cases h), List.nodup_nil⟩
def SoundA (P : Program) (G : Globs) (A : Gz → Prop) (c : Code) (t : List LV → List Blk → T (Ex × List LV × List Blk)) : Prop :=
 ∀ (r : Option Nat) (w0 : World) (Z0 : Gz) (Z : Nat → Prop) (β : Nat → Loc) (F : List LV) (H : List Blk) (a : Act) (w : World) (ds : List Deferred) (Q : Exit → Act → World → Prop) (x : Ex) (F' : List LV) (H' : List Blk),
  A Z0 → (r = none ∨ noRF c = true) → DsOk w0 Z0 ds → RW G w0 Z0 Z β H w → RF ds β Z w H.length F a → (t F H).all (fun q => q = (x, F', H')) → (∀ ds' Z' β' a' w', DsOk w0 Z0 ds' → RW G w0 Z0 Z' β' H' w' → RF ds' β' Z' w' H'.length F' a' → Q (exOf x) a' w') → c.wpIn (fen r) 0 P Q a w
def AN (N : Nat) : Gz → Prop := fun z => ∀ p, p ∈ z.gh → okV N p.1
abbrev Sound (P : Program) (G : Globs) := SoundA P G (AN 0)
def loopsIn : Code → List Code
 | .seq a b => loopsIn a ++ loopsIn b
 | .cond _ a b => loopsIn a ++ loopsIn b
 | .block _ b => loopsIn b
 | .loop b => [b]
 | .scope b => loopsIn b
 | _ => []
def rangesIn : Code → List (Array Tmp × Code × Code)
 | .seq a b => rangesIn a ++ rangesIn b
 | .cond _ a b => rangesIn a ++ rangesIn b
 | .block _ b => rangesIn b
 | .loop b => rangesIn b
 | .rangeFunc _ ps a b => [(ps, a, b)]
 | .scope b => rangesIn b
 | _ => []
theorem putObj_cell {w : World} {D : Nat} (h : MkAt w D) (o' : Obj) {b o : Nat} {z : Value} (hz : w.cell? ⟨b, o, none⟩ = some z) : (w.putObj D o').cell? ⟨b, o, none⟩ = some z := by
 have hne : b ≠ D := by
  rintro rfl
  unfold MkAt at h
  simp [World.cell?, h] at hz
 rw [cell_block (World.putObj_heap_other hne)]
 exact hz
theorem RD.shut {D : Nat} (h : MkAt w D) (o' : Obj) : ∀ (t : Ty) (d : t.D) (b o : Nat), RD Z w t d b o → RD Z (w.putObj D o') t d b o
 | .int _, _, b, o, hh => by simp only [RD] at *; exact putObj_cell h o' hh
 | .bool, _, b, o, hh => by simp only [RD] at *; exact putObj_cell h o' hh
 | .str, _, b, o, hh => by simp only [RD] at *; exact putObj_cell h o' hh
 | .sl e, l, b, o, hh => by
  simp only [RD] at *
  obtain ⟨a, cap, h1, h2, h3⟩ := hh
  refine ⟨a, cap, putObj_cell h o' h1, h2, fun hn => ?_⟩
  obtain ⟨b', o'', h4, h5, h6⟩ := h3 hn
  exact ⟨b', o'', h4, h5, fun i d hd => RD.shut h o' e d b' _ (h6 i d hd)⟩
 | .pair x y, d, b, o, hh => by
  simp only [RD] at *
  exact ⟨RD.shut h o' x d.1 b o hh.1, RD.shut h o' y d.2 b _ hh.2⟩
theorem putObj_ne {w : World} {D : Nat} (h : MkAt w D) (o' : Obj) {b : Nat} {x : Obj} (hx : w.heap[b]? = some x) (hn : ∀ q, x ≠ .deferred q) : (w.putObj D o').heap[b]? = some x := by
 have hne : b ≠ D := by
  rintro rfl
  unfold MkAt at h
  rw [h] at hx
  exact hn _ (Option.some.inj hx).symm
 rw [World.putObj_heap_other hne]
 exact hx
mutual
theorem R.shut {D : Nat} (h : MkAt w D) (o' : Obj) : ∀ (x : LV) (y : Value), R β Z w x y → R β Z (w.putObj D o') x y
 | .v _, _, hh => hh
 | .bl _, _, hh => hh
 | .ki _ _, _, hh => hh
 | .own k off, y, hh => by simpa only [R] using hh
 | .agg l, y, hh => by
  simp only [R] at *
  obtain ⟨ys, h1, h2⟩ := hh
  exact ⟨ys, h1, RL.shut h o' l _ h2⟩
 | .tup l, y, hh => by
  simp only [R] at *
  obtain ⟨ys, h1, h2⟩ := hh
  exact ⟨ys, h1, RL.shut h o' l _ h2⟩
 | .fn f l, y, hh => by
  simp only [R] at *
  obtain ⟨ys, h1, h2⟩ := hh
  exact ⟨ys, h1, RL.shut h o' l _ h2⟩
 | .xq n f, y, hh => by
  simp only [R] at *
  obtain ⟨b, off, h1, hz, h2⟩ := hh
  refine ⟨b, off, h1, hz, fun j hj => ?_⟩
  obtain ⟨z, h3, h4⟩ := h2 j hj
  exact ⟨z, putObj_cell h o' h3, R.shut h o' (f j) z h4⟩
 | .xl e l, y, hh => by
  simp only [R] at *
  obtain ⟨a, cap, h1, h2, h3⟩ := hh
  refine ⟨a, cap, h1, h2, fun hn => ?_⟩
  obtain ⟨b, off, h4, h5, h6⟩ := h3 hn
  exact ⟨b, off, h4, h5, fun i d hd => RD.shut h o' e d b _ (h6 i d hd)⟩
 | .os k es off n, y, hh => by simpa only [R] using hh
 | .op k es i j, y, hh => by simpa only [R] using hh
 | .om k, y, hh => by simpa only [R] using hh
 | .mp kd ks vs, y, hh => by
  simp only [R] at *
  obtain ⟨r, es, clock, h1, h2, h3, h4, h5⟩ := hh
  exact ⟨r, es, clock, h1, h2, putObj_ne h o' h3 (fun _ e => by cases e), h4, RL.shut h o' vs _ h5⟩
 | .oc k es off n c, y, hh => by simpa only [R] using hh
 | .yld k, y, hh => by simpa only [R] using hh
 | .junk, _, _ => by simp only [R]
theorem RL.shut {D : Nat} (h : MkAt w D) (o' : Obj) : ∀ (x : List LV) (y : List Value), RL β Z w x y → RL β Z (w.putObj D o') x y
 | [], _, hh => by simpa only [RL] using hh
 | x :: xs, ys, hh => by
  simp only [RL] at *
  obtain ⟨y, zs, h1, h2, h3⟩ := hh
  exact ⟨y, zs, h1, R.shut h o' x y h2, RL.shut h o' xs zs h3⟩
end
theorem BlkR.shut {D : Nat} (h : MkAt w D) (o' : Obj) {k : Nat} {b : Blk} (hh : BlkR β Z w k b) : BlkR β Z (w.putObj D o') k b := by
 unfold BlkR at *
 cases hk : b.k with
 | cl =>
  simp only [hk] at hh ⊢
  obtain ⟨cs, h1, h2⟩ := hh
  exact ⟨cs, putObj_ne h o' h1 (fun _ e => by cases e), RL.shut h o' _ _ h2⟩
 | vec e l =>
  simp only [hk] at hh ⊢
  cases hc : (β k).cap with
  | none => simp only [hc] at hh ⊢; exact hh
  | some c =>
   simp only [hc] at hh ⊢
   obtain ⟨cs, h1, h2, h3, h4⟩ := hh
   exact ⟨cs, putObj_ne h o' h1 (fun _ e => by cases e), h2, h3, fun i d hd => RD.shut h o' e d _ _ (h4 i d hd)⟩
 | mp kd ks vs =>
  simp only [hk] at hh ⊢
  obtain ⟨es, clock, h1, h2, h3⟩ := hh
  exact ⟨es, clock, putObj_ne h o' h1 (fun _ e => by cases e), h2, RL.shut h o' _ _ h3⟩
 | lrec ps asg body st =>
  simp only [hk] at hh ⊢
  obtain ⟨r, h1, h2, h3, h4, h5, h6⟩ := hh
  exact ⟨r, putObj_ne h o' h1 (fun _ e => by cases e), h2, h3, h4, h5, RL.shut h o' _ _ h6⟩
 | st e l =>
  simp only [hk] at hh ⊢
  obtain ⟨es, clock, h1, h2, h3⟩ := hh
  exact ⟨es, clock, putObj_ne h o' h1 (fun _ e => by cases e), h2, h3⟩
 | dead => trivial
theorem putObj_size (w : World) (D : Nat) (o : Obj) : (w.putObj D o).heap.size = w.heap.size := by simp [World.putObj]
theorem MkAt.lt {w : World} {D : Nat} (h : MkAt w D) : D < w.heap.size := (Array.getElem?_eq_some_iff.1 h).1
theorem RW.shut (hW : RW G w0 Z0 Z β H w) {D : Nat} (h : MkAt w D) (h0 : w0.heap.size ≤ D) (hm : D ∉ Z0.mks) (o' : Obj) : RW G w0 Z0 Z β H (w.putObj D o') :=
 ⟨hW.below.trans ⟨rfl, rfl, rfl, Nat.le_of_eq (putObj_size _ _ _).symm, fun i hi => World.putObj_heap_other (by omega)⟩, fun b hz => by rw [putObj_size]; exact hW.zlt b hz, hW.znew, hW.zown, hW.zpub, hW.low, hW.inj,
  fun k b hb => ⟨(hW.blk k b hb).1.shut h o', (hW.blk k b hb).2⟩, fun g n f hg => ⟨(hW.glob g n f hg).1, fun j hj => putObj_cell h o' ((hW.glob g n f hg).2 j hj)⟩,
  fun p hp => ⟨R.shut h o' _ _ (hW.gh p hp).1, (hW.gh p hp).2⟩, fun D' hD' => ⟨(hW.mks D' hD').1, by
   unfold MkAt
   rw [World.putObj_heap_other (fun e => hm (by rw [← e]; exact hD'))]
   exact (hW.mks D' hD').2⟩⟩
theorem leave_marks {fn : Func} {R : Ending → World → Prop} : ∀ (ds : List Deferred) (w : World) (a : Act), RW G w0 Z0 Z β H w → RF ds β Z w n F a → DsOk w0 Z0 ds →
  (∀ w' a', a'.tmps = a.tmps → RW G w0 Z0 Z β H w' → RF [] β Z w' n F a' → ∃ v, (results fn a.tmps).run P w' = .ok v w' ∧ R (.returned v) w') → LeavesInM Fence.wide 0 P fn a.tmps R ds .returning w
 | [], w, a, hW, hF, _, hR => hR w { a with defers := [] } rfl hW ⟨hF.size, hF.get, rfl, fun _ h => by cases h⟩
 | d :: ds, w, a, hW, hF, hD, hR => by
  obtain ⟨D, rfl, hz, hm⟩ := hF.defers.2 d (by simp)
  obtain ⟨n1, n2⟩ := hD.new D (by simp)
  have nd := List.nodup_cons.1 hD.nodup
  refine ⟨by simp, .inl ⟨D, w.putObj D (.deferred none), rfl, run_takeDeferred hm, ?_⟩⟩
  refine leave_marks ds (w.putObj D (.deferred none)) { a with defers := ds } (hW.shut hm n1 n2 _) ⟨hF.size, fun t x hx => ⟨Go.Sx.R.shut hm _ _ _ (hF.get t x hx).1, (hF.get t x hx).2⟩, rfl, fun d hd => ?_⟩ ⟨fun D' h' => hD.new D' (by simp [h']), nd.2⟩ (fun w' a' e => hR w' a' e)
  obtain ⟨D', e1, e2, e3⟩ := hF.defers.2 d (by simp [hd])
  refine ⟨D', e1, e2, ?_⟩
  unfold MkAt
  rw [World.putObj_heap_other (fun e => nd.1 (by rw [← e, ← e1]; exact hd))]
  exact e3
theorem RF.RL (hF : RF ds β Z w n F a) : RL β Z w F a.tmps.toList ∧ okL n F := by
 refine ⟨RL.of_get (by simp [hF.size]) fun i x hx => ?_, okL.of_get fun i x hx => (hF.get i x hx).2⟩
 have hi : i < a.tmps.size := by rw [hF.size]; exact (List.getElem?_eq_some_iff.1 hx).1
 have := (hF.get i x hx).1
 refine ⟨a.tmps[i], by simp [hi], ?_⟩
 have e : a.tmps.getD i undef = a.tmps[i] := by simp [Array.getD, hi]
 rw [e] at this
 exact this
theorem maskU_RL (us : List Nat) {ys : List Value} (h : RL β Z w F ys) (hk : okL n F) : RL β Z w (maskU us F) ys ∧ okL n (maskU us F) := by
 have hl := RL.length h
 have at_ : ∀ (i : Nat) (x : LV), (maskU us F)[i]? = some x → i < F.length ∧ (x = .junk ∨ F[i]? = some x) := fun i x hx => by
  simp only [maskU, List.getElem?_map] at hx
  by_cases hi : i < F.length
  ·simp only [List.getElem?_range hi, Option.map_some, Option.some.injEq] at hx
   refine ⟨hi, ?_⟩
   split at hx
   ·right
    rw [List.getElem?_eq_getElem hi]
    simpa [List.getD, List.getElem?_eq_getElem hi] using hx
   ·exact .inl hx.symm
  ·rw [List.getElem?_eq_none (by simpa using hi)] at hx
   cases hx
 refine ⟨RL.of_get (by simp [maskU, hl]) fun i x hx => ?_, okL.of_get fun i x hx => ?_⟩
 ·obtain ⟨hi, h1⟩ := at_ i x hx
  rcases h1 with rfl | h1
  ·exact ⟨ys[i]'(by omega), List.getElem?_eq_getElem _, by simp only [R]⟩
  ·exact RL.get i x h h1
 ·obtain ⟨hi, h1⟩ := at_ i x hx
  rcases h1 with rfl | h1
  ·trivial
  ·exact okL.get i x hk h1
theorem leftBy_some {o : Option Blk} {x : Ex} (h : leftBy o = some x) : ∃ c t ps asg body, (o = some ⟨c, t, .lrec ps asg body .ready, false⟩ ∧ x = .normal) ∨ (o = some ⟨c, t, .lrec ps asg body (.done x), false⟩ ∧ x ≠ .normal) := by
 unfold leftBy at h
 split at h
 ·rename_i c t ps asg body
  exact ⟨c, t, ps, asg, body, .inl ⟨rfl, (Option.some.inj h).symm⟩⟩
 ·rename_i c t ps asg body y
  split at h
  ·cases h
  ·rename_i hn
   have := Option.some.inj h
   subst this
   exact ⟨c, t, ps, asg, body, .inr ⟨rfl, fun e => hn e⟩⟩
 ·cases h
theorem RW.turn {k : Nat} {c : List LV} {t t' : TypeId} {ps : Array Tmp} {asg body : Code} {st : LS} {nb : BK} {r' : Loop} (hW : RW G w0 Z0 Z β H w) (hb : H[k]? = some ⟨c, t, .lrec ps asg body st, false⟩)
  (hn : BlkR β Z (w.putObj (β k).b (.loop r')) k ⟨c, t', nb, false⟩) (hok : okB H.length ⟨c, t', nb, false⟩) : RW G w0 Z0 Z β (H.set k ⟨c, t', nb, false⟩) (w.putObj (β k).b (.loop r')) ∧ (∀ b, Z b → (w.putObj (β k).b (.loop r')).heap[b]? = w.heap[b]?) :=
 ⟨hW.set hb trivial rfl rfl hok (putObj_size _ _ _) ⟨rfl, rfl, rfl⟩ (fun _ hj => World.putObj_heap_other hj) hn, fun _ hz => World.putObj_heap_other (fun e => hW.zown k _ hb trivial rfl (e ▸ hz))⟩
theorem nr_left {r : Option Nat} {p q : Bool} (h : r = none ∨ (p && q) = true) : (r = none ∨ p = true) ∧ (r = none ∨ q = true) := by
 rcases h with h | h
 ·exact ⟨.inl h, .inl h⟩
 ·simp only [Bool.and_eq_true] at h
  exact ⟨.inr h.1, .inr h.2⟩
theorem stepR_scope {b : Frame} {k : List Item} {cs : List Frame} {c : Code} : step P (lone (b.atR a (.code (.scope c) :: k)) cs w) = .next (lone (b.atR a (.code c :: .inScope c :: k)) cs w) :=
 step_lone_go (by simp [stepG, stepG.exec, Frame.atR])
theorem stepR_inScope {b : Frame} {k : List Item} {cs : List Frame} {c : Code} : step P (lone (b.atR a (.inScope c :: k)) cs w) = .next (lone (b.atR a k) cs w) :=
 step_lone_go (by simp [stepG, stepG.exec, Frame.atR])
theorem wpIn_scope {E : Fence} {m : Nat} {Q : Exit → Act → World → Prop} {c : Code} (h : c.wpIn E m P (Exit.noGoto Q) a w) : (Code.scope c).wpIn E m P Q a w := by
 intro b k cs hro hb hr
 have h0 : (lone (b.atR a (.code (.scope c) :: k)) cs w).fenced P E := fenced_calm hb hr rfl
 obtain ⟨e, a₁, w₁, hq, harr⟩ := h b (.inScope c :: k) cs hro hb hr
 cases e with
 | normal => exact ⟨.normal, a₁, w₁, hq, .head h0 stepR_scope (StepsIn.trans harr (.one (fenced_calm hb hr rfl) stepR_inScope))⟩
 | exit id' =>
  have hx : exitTo id' (.inScope c :: k) = exitTo id' k := by simp [exitTo]
  exact ⟨.exit id', a₁, w₁, hq, fun k' hk => .head h0 stepR_scope (harr.1 k' (by rw [hx]; exact hk)),
   fun hr' hk => let ⟨k₁, h1, h2⟩ := harr.2 hr' (by rw [hx]; exact hk); ⟨k₁, h1, .head h0 stepR_scope h2⟩⟩
 | goto l => exact hq.elim
 | ret => exact ⟨_, a₁, w₁, hq, .of_steps (.one h0 stepR_scope) harr⟩
 | panic ch => exact ⟨_, a₁, w₁, hq, .of_steps (.one h0 stepR_scope) harr⟩
 | outgrown => exact ⟨_, a₁, w₁, hq, .of_steps (.one h0 stepR_scope) harr⟩
theorem code_soundA {L : LoopC} (hΓ : ∀ g S, Γ g = some S → Valid P G g S) (hK : KSound P G K) : ∀ (c : Code), (∀ b ∈ loopsIn c, SoundA P G A (.loop b) (L b)) → SoundA P G A c (codex P G Γ K L c)
 | .skip, _ => fun r w0 Z0 Z β F H a w ds Q x F' H' hA hr hD hW hF h hQ => by
  simp only [codex, T.all, Prod.mk.injEq] at h
  obtain ⟨rfl, rfl, rfl⟩ := h
  exact wpIn_skip (hQ ds Z β a w hD hW hF)
 | .ret, _ => fun r w0 Z0 Z β F H a w ds Q x F' H' hA hr hD hW hF h hQ => by
  simp only [codex, T.all, Prod.mk.injEq] at h
  obtain ⟨rfl, rfl, rfl⟩ := h
  exact wpIn_ret (hQ ds Z β a w hD hW hF)
 | .exit m, _ => fun r w0 Z0 Z β F H a w ds Q x F' H' hA hr hD hW hF h hQ => by
  simp only [codex, T.all, Prod.mk.injEq] at h
  obtain ⟨rfl, rfl, rfl⟩ := h
  exact wpIn_exit (hQ ds Z β a w hD hW hF)
 | .region id ops d, _ => fun r w0 Z0 Z β F H a w ds Q x F' H' hA hr hD hW hF h hQ => by
  simp only [codex] at h
  obtain ⟨⟨F1, H1⟩, h1, h2⟩ := T.bind_all h
  simp only [T.all, Prod.mk.injEq] at h2
  obtain ⟨rfl, rfl, rfl⟩ := h2
  cases d with
  | true => exact drawy_sound hΓ (fun Z' β' a' w' e1 e2 => hQ ds Z' β' a' w' hD e1 e2) hW hF h1 r 0
  | false => exact reg_sound hΓ hK (fun Z' β' a' w' e1 e2 => hQ ds Z' β' a' w' hD e1 e2) hW hF h1 r 0
 | .seq c1 c2, hl => fun r w0 Z0 Z β F H a w ds Q x F' H' hA hr hD hW hF h hQ => by
  simp only [codex] at h
  obtain ⟨⟨y, F1, H1⟩, h1, h2⟩ := T.bind_all h
  obtain ⟨hr1, hr2⟩ := nr_left (show r = none ∨ (noRF c1 && noRF c2) = true from hr)
  refine wpIn_seq (code_soundA hΓ hK c1 (fun b hb => hl b (by simp [loopsIn, hb])) r w0 Z0 Z β F H a w ds _ y F1 H1 hA hr1 hD hW hF h1 fun ds' Z' β' a' w' e0 e1 e2 => ?_)
  cases y with
  | normal => exact code_soundA hΓ hK c2 (fun b hb => hl b (by simp [loopsIn, hb])) r w0 Z0 Z' β' F1 H1 a' w' ds' Q x F' H' hA hr2 e0 e1 e2 h2 hQ
  | exit m =>
   simp only [T.all, Prod.mk.injEq] at h2
   obtain ⟨rfl, rfl, rfl⟩ := h2
   exact hQ ds' Z' β' a' w' e0 e1 e2
  | ret =>
   simp only [T.all, Prod.mk.injEq] at h2
   obtain ⟨rfl, rfl, rfl⟩ := h2
   exact hQ ds' Z' β' a' w' e0 e1 e2
 | .cond c c1 c2, hl => fun r w0 Z0 Z β F H a w ds Q x F' H' hA hr hD hW hF h hQ => by
  have s1 := code_soundA hΓ hK c1 (fun b hb => hl b (by simp [loopsIn, hb]))
  have s2 := code_soundA hΓ hK c2 (fun b hb => hl b (by simp [loopsIn, hb]))
  obtain ⟨hr1, hr2⟩ := nr_left (show r = none ∨ (noRF c1 && noRF c2) = true from hr)
  simp only [codex] at h
  split at h
  ·rename_i d
   split at h
   ·rename_i hb
    obtain ⟨q1, q2⟩ := hF.slot hb (by simp)
    have hv := (hF.get d _ q1).1
    simp only [R] at hv
    exact wpIn_cond_true (by simp only [Act.eval]; exact hv) (s1 r w0 Z0 Z β F H a w ds Q x F' H' hA hr1 hD hW hF h hQ)
   ·rename_i hb
    obtain ⟨q1, q2⟩ := hF.slot hb (by simp)
    have hv := (hF.get d _ q1).1
    simp only [R] at hv
    exact wpIn_cond_false (by simp only [Act.eval]; exact hv) (s2 r w0 Z0 Z β F H a w ds Q x F' H' hA hr2 hD hW hF h hQ)
   ·rename_i g hb
    obtain ⟨q1, q2⟩ := hF.slot hb (by simp)
    have hv := (hF.get d _ q1).1
    simp only [R] at hv
    have kn : ∀ b, g = b → RF ds β Z w H.length (F.set d (.bl b)) a := fun b e => hF.know (by simp only [R]; rw [hv, e]) trivial
    simp only [T.all] at h
    refine wpIn_cond_split (t := g) (by simp only [Act.eval]; exact hv) (fun hg => s1 r w0 Z0 Z β _ H a w ds Q x F' H' hA hr1 hD hW (kn true hg) (h.1 hg) hQ) (fun hg => s2 r w0 Z0 Z β _ H a w ds Q x F' H' hA hr2 hD hW (kn false hg) (h.2 hg) hQ)
   ·cases h
  ·exact wpIn_cond_true rfl (s1 r w0 Z0 Z β F H a w ds Q x F' H' hA hr1 hD hW hF h hQ)
  ·exact wpIn_cond_false rfl (s2 r w0 Z0 Z β F H a w ds Q x F' H' hA hr2 hD hW hF h hQ)
  ·cases h
 | .block id c, hl => fun r w0 Z0 Z β F H a w ds Q x F' H' hA hr hD hW hF h hQ => by
  simp only [codex] at h
  obtain ⟨⟨y, F1, H1⟩, h1, h2⟩ := T.bind_all h
  refine wpIn_block (code_soundA hΓ hK c (fun b hb => hl b (by simpa [loopsIn] using hb)) r w0 Z0 Z β F H a w ds _ y F1 H1 hA hr hD hW hF h1 fun ds' Z' β' a' w' e0 e1 e2 => ?_)
  cases y with
  | normal =>
   simp only [T.all, Prod.mk.injEq] at h2
   obtain ⟨rfl, rfl, rfl⟩ := h2
   exact hQ ds' Z' β' a' w' e0 e1 e2
  | exit m =>
   simp only at h2
   simp only [exOf, Exit.inBlock]
   split at h2
   ·rename_i hm
    simp only [T.all, Prod.mk.injEq] at h2
    obtain ⟨rfl, rfl, rfl⟩ := h2
    rw [if_pos hm]; exact hQ ds' Z' β' a' w' e0 e1 e2
   ·rename_i hm
    simp only [T.all, Prod.mk.injEq] at h2
    obtain ⟨rfl, rfl, rfl⟩ := h2
    rw [if_neg hm]; exact hQ ds' Z' β' a' w' e0 e1 e2
  | ret =>
   simp only [T.all, Prod.mk.injEq] at h2
   obtain ⟨rfl, rfl, rfl⟩ := h2
   exact hQ ds' Z' β' a' w' e0 e1 e2
 | .loop b, hl => hl b (by simp [loopsIn])
 | .rangeFunc g ps asg body, _ => fun r w0 Z0 Z β F H a w ds Q x F' H' hA hr hD hW hF h hQ => by
  have hr0 : r = none := by
   rcases hr with h | h
   ·exact h
   ·simp [noRF] at h
  subst hr0
  simp only [codex] at h
  split at h
  ·rename_i gf cap hg
   split at h
   ·rename_i fn hfn
    split at h
    ·rename_i hb
     simp only [Bool.and_eq_true, Bool.not_eq_true'] at hb
     obtain ⟨⟨lv, H1⟩, h1, h2⟩ := T.bind_all h
     simp only at h2
     have hgr := hF.eval hW.glob g
     rw [hg] at hgr
     simp only [R, okV] at hgr
     obtain ⟨⟨ys, hy, hyr⟩, hcap⟩ := hgr
     split at h2
     ·rename_i x' hx'
      simp only [T.all, Prod.mk.injEq] at h2
      obtain ⟨rfl, rfl, rfl⟩ := h2
      refine wpIn_rangeFunc ?_
      intro fn0 _
      have hb1 : Below w.heap.size w (w.alloc (.deferred (some []))) := (Below.refl _ _).alloc (Nat.le_refl _) _
      have hWd := hW.call hb1
      generalize hrec : ({ state := .ready, pending := none, fn := fn0, tmps := a.tmps, params := ps, assign := asg, body := body, defers := w.heap.size } : Loop) = rec0 at *
      generalize hwd : w.alloc (.deferred (some [])) = wd at *
      have hsd : wd.heap.size = w.heap.size + 1 := by rw [← hwd]; simp [World.size_alloc]
      have hmd : MkAt wd w.heap.size := by rw [← hwd]; exact World.alloc_heap_new w _
      have hb2 : Below wd.heap.size wd (wd.alloc (.loop rec0)) := (Below.refl _ _).alloc (Nat.le_refl _) _
      have hW1 := hWd.same hb2
      generalize hw1 : wd.alloc (.loop rec0) = w1 at *
      have hl1 : w1.heap[wd.heap.size]? = some (.loop rec0) := by rw [← hw1]; exact World.alloc_heap_new wd _
      have hF1 : RF ds β (fun b => Z b ∨ (w.heap.size ≤ b ∧ b < wd.heap.size)) w1 H.length F a := hF.mono (Nat.le_refl _) (fun _ _ => rfl) (fun _ h => .inl h) (fun b hz => by
       have hlt := hW.zlt b hz
       rw [below_block hb2 (by omega), below_block hb1 hlt])
      have hm1 : MkAt w1 w.heap.size := by unfold MkAt; rw [below_block hb2 (by omega)]; exact hmd
      have hF2 : RF (markOf w.heap.size :: ds) β (fun b => Z b ∨ (w.heap.size ≤ b ∧ b < wd.heap.size)) w1 H.length F { a with defers := markOf w.heap.size :: a.defers } := by
       refine ⟨hF1.size, hF1.get, by rw [hF1.defers.1], fun d hd => ?_⟩
       rcases List.mem_cons.1 hd with rfl | hd
       ·exact ⟨_, rfl, .inr ⟨Nat.le_refl _, by omega⟩, hm1⟩
       ·exact hF1.defers.2 d hd
      have hD2 : DsOk w0 Z0 (markOf w.heap.size :: ds) := by
       refine ⟨fun D hd => ?_, List.nodup_cons.2 ⟨fun hd => ?_, hD.nodup⟩⟩
       ·rcases List.mem_cons.1 hd with hd | hd
        ·simp only [markOf, Deferred.mk.injEq, Target.collected.injEq] at hd
         rw [hd.1]
         exact ⟨hW.below.size, fun hm => by have := (hW.mks _ hm).2.lt; omega⟩
        ·exact hD.new D hd
       ·obtain ⟨D, e1, _, e3⟩ := hF.defers.2 _ hd
        simp only [markOf, Deferred.mk.injEq, Target.collected.injEq] at e1
        have := e3.lt
        omega
      obtain ⟨fr1, fr2⟩ := hF1.RL
      obtain ⟨fr1, fr2⟩ := maskU_RL (usedT asg ++ usedT body) fr1 fr2
      obtain ⟨β2, b1, b2, hW2⟩ := hW1.adopt (ℓ := ⟨wd.heap.size, 0, none⟩) (nb := ⟨maskU (usedT asg ++ usedT body) F, 0, .lrec ps asg body .ready, false⟩) rfl ⟨okL.mono (by omega) _ fr2, trivial⟩ (fun _ => ⟨fun hz => by
        rcases hz with hz | hz
        ·have := hW.zlt _ hz; simp only at this; omega
        ·simp only at hz; omega, by have := hW.below.size; simp only; omega, fun j bj hj lj e => by have := hW.lt hj lj; simp only at e; omega⟩) (fun β' q1 q2 => by
       simp only [BlkR, q2]
       refine ⟨rec0, hl1, by rw [← hrec], by rw [← hrec], by rw [← hrec], by rw [← hrec]; exact ⟨rfl, rfl⟩, ?_⟩
       rw [← hrec]
       exact RL.mono q1 (fun _ h => h) (fun _ _ => rfl) _ _ fr2 fr1)
      have hF3 : RF (markOf w.heap.size :: ds) β2 (fun b => Z b ∨ (w.heap.size ≤ b ∧ b < wd.heap.size)) w1 (H ++ [(⟨maskU (usedT asg ++ usedT body) F, 0, .lrec ps asg body .ready, false⟩ : Blk)]).length F { a with defers := markOf w.heap.size :: a.defers } := hF2.mono (by simp) b1 (fun _ h => h) (fun _ _ => rfl)
      have hW3 := hW2.hold hF3
      have hyl : R β2 (fun b => Z b ∨ (w.heap.size ≤ b ∧ b < wd.heap.size)) w1 (.yld H.length) (.func (.yield wd.heap.size) #[] #[]) := by simp only [R, b2]
      have hW4 : RW G w0 ⟨Z0.z, (LV.yld H.length, Value.func (.yield wd.heap.size) #[] #[]) :: (F.zip a.tmps.toList ++ Z0.gh), dsB (markOf w.heap.size :: ds) ++ Z0.mks⟩ (fun b => Z b ∨ (w.heap.size ≤ b ∧ b < wd.heap.size)) β2 (H ++ [⟨maskU (usedT asg ++ usedT body) F, 0, .lrec ps asg body .ready, false⟩]) w1 :=
       ⟨hW3.below, hW3.zlt, hW3.znew, hW3.zown, hW3.zpub, hW3.low, hW3.inj, hW3.blk, hW3.glob, fun p hp => by
        rcases List.mem_cons.1 hp with rfl | hp
        ·exact ⟨hyl, by simp [okV]⟩
        ·exact hW3.gh p hp, hW3.mks⟩
      have hyr2 : RL β2 (fun b => Z b ∨ (w.heap.size ≤ b ∧ b < wd.heap.size)) w1 cap ys.toList := RL.mono (n := H.length) b1 (fun _ h => .inl h) (fun b hz => by
       have hlt := hW.zlt b hz
       rw [below_block hb2 (by omega), below_block hb1 hlt]) _ _ hcap hyr
      have hbn : ¬ fn.body = none := by intro hbb; simp [hbb] at hb
      have hb3 : ¬ fn.name = "runtime.NumGoroutine" := by simpa using hb.2
      have eg : ∀ args w, (callFunc gf args).run P w = .ok (.enter gf args) w := fun args w => by simp [callFunc, hfn, hb3, hbn]
      refine ⟨wd.heap.size, [markOf w.heap.size], w1, { target := .fn (.func gf) ys, args := #[.func (.yield wd.heap.size) #[] #[]] }, w1, gf, #[.func (.yield wd.heap.size) #[] #[]] ++ ys, w1, ?_, ?_, fun _ _ => trivial, ?_, fun h => (by cases h), callsIn_wide.2 ?_⟩
      ·have := run_enterLoop_outer (P := P) (w := w) fn0 a.tmps ps asg body
       rw [hrec, hwd, hw1, ← hsd] at this
       exact this
      ·simp only [resolve, hy]
       simp [go_sem]
      ·simp [invoke, go_sem, eg]
      ·refine (hK.k w0 _ _ β2 _ w1 gf (.yld H.length :: cap) _ lv H1 hW4 (by simp only [Array.toList_append, RL]; exact ⟨_, ys.toList, rfl, hyl, hyr2⟩) ⟨by simp [okV], okL.mono (by simp) _ hcap⟩ h1).mono fun e w2 ⟨v, he, Z', β', r1, r2, r3⟩ => ?_
       subst he
       have hat : (β' H.length).b = wd.heap.size := by
        have := (r1.gh (LV.yld H.length, Value.func (.yield wd.heap.size) #[] #[]) (by simp)).1
        simp only [R, Value.func.injEq, Fn.yield.injEq] at this
        exact this.1.symm
       have r1' : RW G w0 ⟨Z0.z, F.zip a.tmps.toList ++ Z0.gh, dsB (markOf w.heap.size :: ds) ++ Z0.mks⟩ Z' β' H1 w2 := ⟨r1.below, r1.zlt, r1.znew, r1.zown, r1.zpub, r1.low, r1.inj, r1.blk, r1.glob, fun p hp => r1.gh p (List.mem_cons_of_mem _ hp), r1.mks⟩
       have hF5 := RW.held hF3 r1'
       have hW5 : RW G w0 Z0 Z' β' H1 w2 := r1'.less
       obtain ⟨c', t', ps', asg', body', hx⟩ := leftBy_some hx'
       have fin : ∀ st, H1[H.length]? = some ⟨c', t', .lrec ps' asg' body' st, false⟩ → ∃ rr, w2.heap[wd.heap.size]? = some (.loop rr) ∧ LsR st rr ∧ ∀ rr', RW G w0 Z0 Z' β' (H1.set H.length ⟨[], 0, .dead, false⟩) (w2.putObj wd.heap.size (.loop rr')) ∧ RF (markOf w.heap.size :: ds) β' Z' (w2.putObj wd.heap.size (.loop rr')) (H1.set H.length ⟨[], 0, .dead, false⟩).length F { a with defers := markOf w.heap.size :: a.defers } := fun st hst => by
        have hbk := (hW5.blk _ _ hst).1
        simp only [BlkR, hat] at hbk
        obtain ⟨rr, q1, q2, q3, q4, q5, q6⟩ := hbk
        refine ⟨rr, q1, q5, fun rr' => ?_⟩
        have hs := hW5.set (nb := ⟨[], 0, .dead, false⟩) (w' := w2.putObj wd.heap.size (.loop rr')) hst trivial rfl rfl ⟨trivial, trivial⟩ (putObj_size _ _ _) ⟨rfl, rfl, rfl⟩ (fun j hj => World.putObj_heap_other (by rw [hat] at hj; exact hj)) trivial
        refine ⟨hs, ?_⟩
        rw [List.length_set]
        exact hF5.mono (Nat.le_refl _) (fun _ _ => rfl) (fun _ h => h) (fun b hz => World.putObj_heap_other (fun e => hW5.zown _ _ hst trivial rfl (by rw [hat, ← e]; exact hz)))
       rcases hx with ⟨hx, rfl⟩ | ⟨hx, hne⟩
       ·obtain ⟨rr, q1, q2, q3⟩ := fin _ hx
        refine ⟨none, w2.putObj wd.heap.size (.loop { rr with state := .exhausted }), (run_endLoop q1 (by rw [q2.1]; simp)).trans (by rw [q2.2]), ?_⟩
        obtain ⟨f1, f2⟩ := q3 { rr with state := .exhausted }
        exact hQ _ Z' β' _ _ hD2 f1 f2
       ·obtain ⟨rr, q1, q2, q3⟩ := fin _ hx
        refine ⟨exCode x', w2.putObj wd.heap.size (.loop { rr with state := .exhausted }), (run_endLoop q1 (by rw [q2.1]; simp)).trans (by rw [q2.2]), ?_⟩
        obtain ⟨f1, f2⟩ := q3 { rr with state := .exhausted }
        cases x' with
        | normal => exact absurd rfl hne
        | exit m => exact wpIn_exit (hQ _ Z' β' _ _ hD2 f1 f2)
        | ret => exact wpIn_ret (hQ _ Z' β' _ _ hD2 f1 f2)
     ·cases h2
    ·cases h
   ·cases h
  ·cases h
 | .scope c, hl => fun r w0 Z0 Z β F H a w ds Q x F' H' hA hr hD hW hF h hQ => by
  simp only [codex] at h
  refine wpIn_scope (code_soundA hΓ hK c (fun b hb => hl b (by simpa [loopsIn] using hb)) r w0 Z0 Z β F H a w ds _ x F' H' hA hr hD hW hF h fun ds' Z' β' a' w' e0 e1 e2 => ?_)
  cases x with
  | normal => exact hQ ds' Z' β' a' w' e0 e1 e2
  | exit m => exact hQ ds' Z' β' a' w' e0 e1 e2
  | ret => exact hQ ds' Z' β' a' w' e0 e1 e2
 | .label l, _ => fun r w0 Z0 Z β F H a w ds Q x F' H' hA hr hD hW hF h hQ => by
  simp only [codex, T.all, Prod.mk.injEq] at h
  obtain ⟨rfl, rfl, rfl⟩ := h
  exact wpIn_label (hQ ds Z β a w hD hW hF)
 | .goto .., _ => fun r w0 Z0 Z β F H a w ds Q x F' H' hA hr hD hW hF h hQ => by simp only [codex, T.all] at h
 | .refuse .., _ => fun r w0 Z0 Z β F H a w ds Q x F' H' hA hr hD hW hF h hQ => by simp only [codex, T.all] at h
theorem code_sound {L : Loops} (hΓ : ∀ g S, Γ g = some S → Valid P G g S) (hK : KSound P G K) (c : Code) (hl : ∀ b ∈ loopsIn c, Sound P G (.loop b) (L (firstR b))) : Sound P G c (codex P G Γ K (byId L) c) := code_soundA (L := byId L) hΓ hK c hl
def resF (a : Act) : ResultVar → Sem Value
 | .tmp t => pure (a.tmps.getD t undef)
 | .cell ad t => do loadVar t (← asAddr (a.tmps.getD ad undef))
theorem resF_eq (fn : Func) (a : Act) : results fn a.tmps = (do let vs ← fn.results.mapM (resF a); pure (if h : vs.size = 1 then vs[0] else .tuple vs)) := by
 unfold results
 congr 1
theorem mapM_step {f : ResultVar → Sem Value} {r : ResultVar} {rs : List ResultVar} {z : Value} {vs : List Value} (h1 : (f r).run P w = .ok z w) (h2 : (rs.mapM f).run P w = .ok vs w) : ((r :: rs).mapM f).run P w = .ok (z :: vs) w := by
 rw [List.mapM_cons]
 simp only [Sem.run_bind, h1, h2, Result.andThen_ok, Sem.run_pure]
theorem resx_sound {fn : Func} : ∀ (rs : List ResultVar) (l : List LV), RW G w0 Z0 Z β H w → RF ds β Z w H.length F a → (resx P fn F H rs).all (fun q => q = l) →
  ∃ vs : List Value, (rs.mapM (resF a)).run P w = .ok vs w ∧ RL β Z w l vs ∧ okL H.length l
 | [], l, hW, hF, h => by
  simp only [resx, T.all] at h
  subst h
  exact ⟨[], by simp, by simp [RL], trivial⟩
 | .tmp t :: rs, l, hW, hF, h => by
  simp only [resx] at h
  obtain ⟨l1, h1, h2⟩ := T.bind_all h
  simp only [T.all] at h2
  obtain ⟨vs, e1, e2, e3⟩ := resx_sound rs l1 hW hF h1
  have ev := hF.eval hW.glob (.tmp t)
  simp only [evalL, Act.eval] at ev
  refine ⟨a.tmps.getD t undef :: vs, ?_, ?_, ?_⟩
  ·exact mapM_step rfl e1
  ·rw [← h2]; simp only [RL]; exact ⟨_, _, rfl, norm_R ev.1, e2⟩
  ·rw [← h2]; exact ⟨norm_ok ev.2, e3⟩
 | .cell ad t :: rs, l, hW, hF, h => by
  simp only [resx] at h
  obtain ⟨y, h1, h2⟩ := T.bind_all h
  obtain ⟨l1, h3, h4⟩ := T.bind_all h2
  simp only [T.all] at h4
  obtain ⟨vs, e1, e2, e3⟩ := resx_sound rs l1 hW hF h3
  have ev := hF.eval hW.glob (.tmp ad)
  simp only [evalL, Act.eval] at ev
  obtain ⟨z, f1, f2, f3⟩ := loadL_sound hW h1 ev.1 ev.2
  have f1 := f1 w (fun _ _ => rfl)
  have f4 : (do loadVar t (← asAddr (a.tmps.getD ad undef)) : Sem Value).run P w = .ok z w := by
   have hp : ∃ q, a.tmps.getD ad undef = .pointer (some q) := by
    have hr := ev.1
    generalize hx : F.getD ad .junk = x at h1 hr
    cases x with
    | own k off => simp only [R] at hr; exact ⟨_, hr⟩
    | xq n f => simp only [R] at hr; obtain ⟨b, off, e, _⟩ := hr; exact ⟨_, e⟩
    | op k es i j => simp only [R] at hr; exact ⟨_, hr.2⟩
    | _ => unfold loadL at h1; split at h1 <;> simp only [T.all] at h1
   obtain ⟨q, hq⟩ := hp
   rw [hq] at f1 ⊢
   simpa [Instr.loadAt, Instr.sureAddr, asAddr] using f1
  refine ⟨z :: vs, ?_, ?_, ?_⟩
  ·exact mapM_step f4 e1
  ·rw [← h4]; simp only [RL]; exact ⟨_, _, rfl, f2, e2⟩
  ·rw [← h4]; exact ⟨f3, e3⟩
theorem one_R {l : List LV} {vs : List Value} (h : RL β Z w l vs) : R β Z w (one l) (if hs : vs.toArray.size = 1 then vs.toArray[0] else .tuple vs.toArray) := by
 unfold one
 have hl := RL.length h
 split
 ·rename_i x
  simp only [RL] at h
  obtain ⟨y, zs, e1, e2, e3⟩ := h
  subst e1 e3
  simpa using e2
 ·rename_i hne
  have : ¬ vs.toArray.size = 1 := by
   intro h1
   simp at h1
   rw [h1] at hl
   cases l with
   | nil => simp at hl
   | cons x xs => cases xs with
    | nil => exact hne x rfl
    | cons _ _ => simp at hl
  rw [dif_neg this]
  exact mkTup_R (by simpa using h)
theorem one_ok {l : List LV} (h : okL n l) : okV n (one l) := by
 unfold one
 split
 ·exact h.1
 ·exact mkTup_ok h
theorem frame_args {args : List LV} {vals : Array Value} (hr : RL β Z w args vals.toList) (hok : okL H.length args) (m : Nat) : RF [] β Z w H.length (args ++ List.replicate (m - args.length) (.v undef)) { tmps := vals ++ Array.replicate (m - vals.size) undef, defers := [] } := by
 have hlen : vals.size = args.length := by have := RL.length hr; simpa using this
 refine ⟨by simp [hlen], fun t x hx => ?_, rfl, fun _ h => by cases h⟩
 by_cases ht : t < args.length
 ·rw [List.getElem?_append_left ht] at hx
  obtain ⟨y, e1, e2⟩ := RL.get _ _ hr hx
  have e3 : (vals ++ Array.replicate (m - vals.size) undef).getD t undef = y := by
   have hts : t < vals.size := by omega
   have : vals[t]? = some y := by simpa using e1
   rw [Array.getD_eq_getD_getElem?, Array.getElem?_append_left hts, this]; rfl
  exact ⟨by rw [e3]; exact e2, okL.get _ _ hok hx⟩
 ·rw [List.getElem?_append_right (by omega)] at hx
  have hx' : x = .v undef := by
   rw [List.getElem?_replicate] at hx
   split at hx
   ·simpa using hx.symm
   ·cases hx
  have e3 : (vals ++ Array.replicate (m - vals.size) undef).getD t undef = undef := by
   rw [Array.getD_eq_getD_getElem?, Array.getElem?_append_right (by omega), Array.getElem?_replicate]
   split <;> rfl
  rw [hx', e3]
  exact ⟨by simp only [R], trivial⟩
theorem noLoopC_sound {b : Code} : SoundA P G A (.loop b) (noLoopC b) := fun _ _ _ _ _ _ _ _ _ _ _ _ _ _ _ _ _ _ _ h => by cases h
theorem unroll_sound {b : Code} {t : List LV → List Blk → T (Ex × List LV × List Blk)} (hb : SoundA P G A b t) (m : Nat) : SoundA P G A (.loop b) (unroll t m) := by
 intro r w0 Z0 Z β F H a w ds Q x F' H' hA hr hD hW hF h hQ
 refine wpIn_loop_rounds m ?_
 induction m generalizing Z β F H a w ds with
 | zero => cases h
 | succ m ih =>
  rw [roundsIn_succ]
  simp only [unroll] at h
  obtain ⟨⟨y, F1, H1⟩, h1, h2⟩ := T.bind_all h
  refine hb r w0 Z0 Z β F H a w ds _ y F1 H1 hA hr hD hW hF h1 fun ds' Z' β' a' w' e0 e1 e2 => ?_
  cases y with
  | normal => exact ih Z' β' F1 H1 a' w' ds' e0 e1 e2 h2
  | exit k =>
   simp only [T.all, Prod.mk.injEq] at h2
   obtain ⟨rfl, rfl, rfl⟩ := h2
   exact hQ ds' Z' β' a' w' e0 e1 e2
  | ret =>
   simp only [T.all, Prod.mk.injEq] at h2
   obtain ⟨rfl, rfl, rfl⟩ := h2
   exact hQ ds' Z' β' a' w' e0 e1 e2
theorem unrC_sound (hΓ : ∀ g S, Γ g = some S → Valid P G g S) (hK : KSound P G K) (m : Nat) : ∀ (d : Nat) (b : Code), SoundA P G A (.loop b) (unrC P G Γ K m d b)
 | 0, _ => noLoopC_sound
 | d + 1, b => unroll_sound (code_soundA hΓ hK b (fun b' _ => unrC_sound hΓ hK m d b')) m
theorem setPs_RF : ∀ (ts : List Tmp) (xs : List LV) (vs : List Value) (F : List LV) (a : Act), RF ds β Z w n F a → RL β Z w xs vs → okL n xs → RF ds β Z w n (setPs F ts xs) { a with tmps := (ts.zip vs).foldl (fun t (p, v) => t.setIfInBounds p v) a.tmps }
 | [], _, _, F, a, hF, _, _ => by simpa [setPs] using hF
 | _ :: _, [], vs, F, a, hF, hr, _ => by
  simp only [RL] at hr
  subst hr
  simpa [setPs] using hF
 | t :: ts, x :: xs, vs, F, a, hF, hr, hk => by
  simp only [RL] at hr
  obtain ⟨y, zs, rfl, h1, h2⟩ := hr
  simp only [setPs, List.zip_cons_cons, List.foldl_cons]
  exact setPs_RF ts xs zs (F.set t x) { a with tmps := a.tmps.setIfInBounds t y } (hF.put h1 hk.1 (some t)) h2 hk.2
theorem zip_fold (ps : Array Tmp) (vs : Array Value) (t : Array Value) : (ps.zip vs).foldl (fun t (p, v) => t.setIfInBounds p v) t = (ps.toList.zip vs.toList).foldl (fun t (p, v) => t.setIfInBounds p v) t := by
 rw [← Array.foldl_toList, Array.toList_zip]
def LLok (P : Program) (G : Globs) (LL : LoopT) : Prop := ∀ (K : Hand) (g : FuncId) (fn : Func) (c : Code) (N : Nat) (b : Code), KSound P G K → P.funcs[g]? = some fn → fn.body = some c → b ∈ loopsIn c → SoundA P G (AN N) (.loop b) (LL K g N b)
theorem RW.ghost {p : LV × Value} (hW : RW G w0 Z0 Z β H w) (h : R β Z w p.1 p.2 ∧ okV H.length p.1) : RW G w0 ⟨Z0.z, p :: Z0.gh, Z0.mks⟩ Z β H w :=
 ⟨hW.below, hW.zlt, hW.znew, hW.zown, hW.zpub, hW.low, hW.inj, hW.blk, hW.glob, fun q hq => by
  rcases List.mem_cons.1 hq with rfl | hq
  ·exact h
  ·exact hW.gh q hq, hW.mks⟩
theorem RW.unghost {p : LV × Value} (hW : RW G w0 ⟨Z0.z, p :: Z0.gh, Z0.mks⟩ Z β H w) : RW G w0 Z0 Z β H w :=
 ⟨hW.below, hW.zlt, hW.znew, hW.zown, hW.zpub, hW.low, hW.inj, hW.blk, hW.glob, fun q hq => hW.gh q (List.mem_cons_of_mem _ hq), hW.mks⟩
theorem inl_sound {LL : LoopT} (hΓ : ∀ g S, Γ g = some S → Valid P G g S) (hLL : LLok P G LL) : ∀ (d : Nat), KSound P G (inl P G Γ LL d)
 | 0 => noK_sound
 | d + 1 => by
  have hK := inl_sound hΓ hLL d
  refine ⟨fun w0 Z0 Z β H w g args vals lv H' hW hr hok h => ?_, fun w0 Z0 Z β H w k args vals lv H' hW hr hok h => ?_⟩
  ·simp only [inl] at h
   split at h
   ·rename_i fn hfn
    split at h
    ·rename_i c hc
     obtain ⟨⟨x, F1, H1⟩, h1, h2⟩ := T.bind_all h
     refine callsIn_wide.1 (callsIn_of_wp_marks (n := 0) hfn hc trivial ?_)
     refine code_soundA (A := AN H.length) (L := LL (inl P G Γ LL d) g H.length) hΓ hK c (fun b hb => hLL _ g fn c H.length b hK hfn hc hb) none w0 Z0 Z β _ H _ w [] _ x F1 H1 (fun p hp => (hW.gh p hp).2) (.inl rfl) DsOk.nil hW (frame_args hr hok fn.ntmps) h1 fun ds' Z' β' a' w' e0 e1 e2 => ?_
     have fin : ((resx P fn F1 H1 fn.results.toList).bind fun l => (T.ok (one l, H1) : T (LV × List Blk))).all (fun q => q = (lv, H')) → LeavesInM Fence.wide 0 P fn a'.tmps (fun e w' => ∃ v, e = .returned v ∧ ∃ Z' β', RW G w0 Z0 Z' β' H' w' ∧ R β' Z' w' lv v ∧ okV H'.length lv) a'.defers .returning w' := fun h2 => by
      rw [e2.defers.1]
      refine leave_marks ds' w' a' e1 e2 e0 fun w'' a'' et f1 f2 => ?_
      obtain ⟨l, g1, g2⟩ := T.bind_all h2
      simp only [T.all, Prod.mk.injEq] at g2
      obtain ⟨g2, g3⟩ := g2
      subst g3
      obtain ⟨vs, g3, g4, g5⟩ := resx_sound fn.results.toList l f1 f2 g1
      refine ⟨if hs : vs.toArray.size = 1 then vs.toArray[0] else .tuple vs.toArray, ?_, _, rfl, Z', β', f1, ?_, ?_⟩
      ·rw [← et, resF_eq, Array.mapM_eq_mapM_toList]
       simp only [Sem.run_bind, Sem.run_map, g3, Result.andThen_ok, Sem.run_pure]
      ·rw [← g2]; exact one_R g4
      ·rw [← g2]; exact one_ok g5
     cases x with
     | normal => exact fin h2
     | ret => exact fin h2
     | exit m => cases h2
    ·cases h
   ·cases h
  ·simp only [inl] at h
   split at h
   ·rename_i Fr t ps asg body hb
    split at h
    ·rename_i hc
     obtain ⟨hc1, hc2, hc3⟩ := hc
     obtain ⟨⟨y, F1, H1⟩, h1, h2⟩ := T.bind_all h
     have hbk := (hW.blk k _ hb).1
     simp only [BlkR] at hbk
     obtain ⟨rr, q1, q2, q3, q4, q5, q6⟩ := hbk
     have hokF : okL H.length Fr := (hW.blk k _ hb).2.1
     have hvl : vals.size = args.length := by have := RL.length hr; simpa using this
     have hkH : k < H.length := (List.getElem?_eq_some_iff.1 hb).1
     refine ⟨rr, q1, by rw [q2, hvl, hc1], ?_⟩
     have hF0 : RF [] β Z w H.length Fr { tmps := rr.tmps, defers := [] } := by
      refine ⟨by have := RL.length q6; simpa using this, fun i x hx => ?_, rfl, fun _ h => by cases h⟩
      obtain ⟨v, e1, e2⟩ := RL.get i x q6 hx
      refine ⟨?_, okL.get i x hokF hx⟩
      have : rr.tmps.getD i undef = v := by
       rw [Array.getD_eq_getD_getElem?]
       have : rr.tmps[i]? = some v := by simpa using e1
       rw [this]; rfl
      rw [this]; exact e2
     have hF1 := setPs_RF ps.toList args vals.toList Fr _ hF0 hr hok
     generalize hl : (β k).b = l at *
     have hyl : R β Z w (.yld k) (.func (.yield l) #[] #[]) := by simp only [R, hl]
     have hW1 := hW.ghost (p := (LV.yld k, Value.func (.yield l) #[] #[])) ⟨hyl, hkH⟩
     have atl : ∀ {Z' : Nat → Prop} {β' : Nat → Loc} {H' : List Blk} {w' : World}, RW G w0 ⟨Z0.z, (LV.yld k, Value.func (.yield l) #[] #[]) :: Z0.gh, Z0.mks⟩ Z' β' H' w' → (β' k).b = l := fun r1 => by
      have := (r1.gh (LV.yld k, Value.func (.yield l) #[] #[]) (by simp)).1
      simp only [R, Value.func.injEq, Fn.yield.injEq] at this
      exact this.1.symm
     refine roundIn_of_wpIn trivial ?_
     rw [q3, q4, q2, zip_fold]
     refine code_soundA (A := fun _ => True) (L := noLoopC) hΓ hK asg (fun b _ => noLoopC_sound) (some l) w0 _ Z β _ H _ w [] _ y F1 H1 trivial (.inr hc2) DsOk.nil hW1 hF1 h1 fun ds1 Z1 β1 a1 w1 e0 e1 e2 => ?_
     simp only at h2
     cases y with
     | exit m => cases h2
     | ret => cases h2
     | normal =>
      simp only at h2
      split at h2
      ·rename_i Fr1 t1 ps1 asg1 body1 hb1
       obtain ⟨⟨x, F2, H2⟩, h3, h4⟩ := T.bind_all h2
       have hbk1 := (e1.blk k _ hb1).1
       simp only [BlkR] at hbk1
       obtain ⟨r1, p1, p2, p3, p4, p5, p6⟩ := hbk1
       have a1l := atl e1
       rw [a1l] at p1
       refine ⟨_, run_beginRound p1 p5.1, ?_⟩
       obtain ⟨t1a, t1b⟩ := RW.turn (t' := t) (nb := .lrec ps1 asg1 body1 .busy) (r' := { r1 with state := .busy }) e1 hb1 (by
        simp only [BlkR]
        rw [a1l]
        exact ⟨{ r1 with state := .busy }, World.putObj_heap_same (Array.getElem?_eq_some_iff.1 p1).1, p2, p3, p4, rfl, RL.mono (n := H1.length) (fun _ _ => rfl) (fun _ h => h) (fun b hz => World.putObj_heap_other (fun e => e1.zown k _ hb1 trivial rfl (by rw [a1l, ← e]; exact hz))) _ _ (e1.blk k _ hb1).2.1 p6⟩) ⟨(e1.blk k _ hb1).2.1, trivial⟩
       rw [a1l] at t1a t1b
       have hF2 : RF ds1 β1 Z1 (w1.putObj l (.loop { r1 with state := .busy })) (H1.set k ⟨Fr1, t, .lrec ps1 asg1 body1 .busy, false⟩).length F1 a1 := by
        rw [List.length_set]
        exact e2.mono (Nat.le_refl _) (fun _ _ => rfl) (fun _ h => h) t1b
       refine code_soundA (A := fun _ => True) (L := unrC P G Γ (inl P G Γ LL d) 20 2) hΓ hK body (fun b _ => unrC_sound hΓ hK 20 2 b) (some l) w0 _ Z1 β1 _ _ a1 _ ds1 _ x F2 H2 trivial (.inr hc3) e0 t1a hF2 h3 fun ds2 Z2 β2 a2 w2 f0 f1 f2 => ?_
       split at h4
       ·rename_i Fr2 t2 ps2 asg2 body2 hb2
        have hbk2 := (f1.blk k _ hb2).1
        simp only [BlkR] at hbk2
        obtain ⟨r2, s1, s2, s3, s4, s5, s6⟩ := hbk2
        have a2l := atl f1
        rw [a2l] at s1
        have fin : ∀ (st : LS) (jump : Option Code) (b : Bool), LsR st { r2 with state := if jump.isNone then .ready else .done, pending := jump } → jump.isNone = b → (T.ok (LV.bl b, H2.set k ⟨Fr2, t, .lrec ps2 asg2 body2 st, false⟩) : T (LV × List Blk)).all (fun q => q = (lv, H')) →
          ∃ v w', (Instr.endRound l jump).run P w2 = .ok v w' ∧ (∃ v', Ending.returned v = .returned v' ∧ ∃ Z' β', RW G w0 Z0 Z' β' H' w' ∧ R β' Z' w' lv v' ∧ okV H'.length lv) := fun st jump b hst hj h4 => by
         simp only [T.all, Prod.mk.injEq] at h4
         obtain ⟨rfl, rfl⟩ := h4
         refine ⟨_, _, run_endRound jump s1, _, rfl, Z2, β2, ?_, ?_, trivial⟩
         ·obtain ⟨t2a, t2b⟩ := RW.turn (t' := t) (nb := .lrec ps2 asg2 body2 st) (r' := { r2 with state := if jump.isNone then .ready else .done, pending := jump }) f1 hb2 (by
           simp only [BlkR]
           rw [a2l]
           exact ⟨_, World.putObj_heap_same (Array.getElem?_eq_some_iff.1 s1).1, s2, s3, s4, hst, RL.mono (n := H2.length) (fun _ _ => rfl) (fun _ h => h) (fun b hz => World.putObj_heap_other (fun e => f1.zown k _ hb2 trivial rfl (by rw [a2l, ← e]; exact hz))) _ _ (f1.blk k _ hb2).2.1 s6⟩) ⟨(f1.blk k _ hb2).2.1, trivial⟩
          rw [a2l] at t2a
          exact t2a.unghost
         ·simp only [R, hj]
        cases x with
        | normal => exact fin .ready none true ⟨rfl, rfl⟩ rfl h4
        | exit m => exact fin (.done (.exit m)) (some (.exit m)) false ⟨rfl, rfl⟩ rfl h4
        | ret => exact fin (.done .ret) (some .ret) false ⟨rfl, rfl⟩ rfl h4
       ·cases h4
      ·cases h2
    ·cases h
   ·cases h
def unrL (P : Program) (G : Globs) (Γ : Specs) (m d : Nat) : LoopT := fun K _ _ => unrC P G Γ K m d
theorem unrL_ok {m d : Nat} (hΓ : ∀ g S, Γ g = some S → Valid P G g S) : LLok P G (unrL P G Γ m d) := fun _ _ _ _ _ b hK _ _ _ => unrC_sound hΓ hK m d b
def addL (g : FuncId) (N id : Nat) (t : List LV → List Blk → T (Ex × List LV × List Blk)) (LL : LoopT) : LoopT := fun K g' N' b => if g' = g ∧ N' = N ∧ firstR b = id then t else LL K g' N' b
theorem addL_ok {g : FuncId} {N id : Nat} {t : List LV → List Blk → T (Ex × List LV × List Blk)} {LL : LoopT} {fn : Func} {c bd : Code} (hfn : P.funcs[g]? = some fn) (hc : fn.body = some c) (hid : (loopsIn c).filter (fun b => firstR b == id) = [bd]) (ht : SoundA P G (AN N) (.loop bd) t) (h : LLok P G LL) : LLok P G (addL g N id t LL) := by
 intro K g' fn' c' N' b hK hfn' hc' hb
 unfold addL
 split
 ·rename_i e
  obtain ⟨rfl, rfl, e⟩ := e
  rw [hfn] at hfn'
  have := Option.some.inj hfn'
  subst this
  rw [hc] at hc'
  have := Option.some.inj hc'
  subst this
  have hm : b ∈ (loopsIn c).filter (fun b => firstR b == id) := List.mem_filter.2 ⟨hb, by simpa using e⟩
  rw [hid] at hm
  have : b = bd := by simpa using hm
  subst this
  exact ht
 ·exact h K g' fn' c' N' b hK hfn' hc' hb
theorem valid_of {f : FuncId} {fn : Func} {c : Code} {S : List LV → T LV} {L : Loops} (hfn : P.funcs[f]? = some fn) (hc : fn.body = some c) (hΓ : ∀ g S, Γ g = some S → Valid P G g S) (hK : KSound P G K)
  (hL : ∀ b ∈ loopsIn c, Sound P G (.loop b) (L (firstR b))) (hS : ∀ args lv, (S args).all (fun x => x = lv) → (funx P G Γ K L fn args).all (fun x => x = lv)) : Valid P G f S := by
 intro args vals w Z lv hz hg hok hr h
 have h := hS args lv h
 unfold funx at h
 simp only [hc] at h
 obtain ⟨⟨x, F', H'⟩, h1, h2⟩ := T.bind_all h
 refine callsIn_wide.1 (callsIn_of_wp_marks (n := 0) hfn hc trivial ?_)
 have hW : RW G w ⟨Z, [], []⟩ Z β0 [] w := ⟨Below.refl _ _, hz, fun b h => .inl h, fun k b hk => by simp at hk, fun k b hk => by simp at hk, fun k b hk => by simp at hk, fun i j bi bj hi => by simp at hi, fun k b hb => by simp at hb, hg, fun p hp => (by cases hp), fun D hD => (by cases hD)⟩
 have hF : RF [] β0 Z w ([] : List Blk).length (args ++ List.replicate (fn.ntmps - args.length) (.v undef)) { tmps := vals ++ Array.replicate (fn.ntmps - vals.size) undef, defers := [] } := frame_args (H := []) hr hok fn.ntmps
 refine code_sound (L := L) hΓ hK c hL none w ⟨Z, [], []⟩ Z β0 _ [] _ w [] _ x F' H' (fun p hp => by cases hp) (.inl rfl) DsOk.nil hW hF h1 fun ds' Z' β' a' w' e0 e1 e2 => ?_
 have fin : ((resx P fn F' H' fn.results.toList).bind fun l => if noOwn (one l) then (T.ok (one l) : T LV) else (guardX H' 8 (one l)).bind fun _ => .ok (toX H' 8 (one l))).all (fun x => x = lv) → LeavesInM Fence.wide 0 P fn a'.tmps (fun e w' => Below w.heap.size w w' ∧ ∃ v', e = .returned v' ∧ okV 0 lv ∧ R β0 (fun b => Z b ∨ (w.heap.size ≤ b ∧ b < w'.heap.size)) w' lv v') a'.defers .returning w' := fun h2 => by
  rw [e2.defers.1]
  refine leave_marks ds' w' a' e1 e2 e0 fun w'' a'' et f1 f2 => ?_
  obtain ⟨l, g1, g2⟩ := T.bind_all h2
  split at g2
  ·rename_i hno
   simp only [T.all] at g2
   obtain ⟨vs, g3, g4, g5⟩ := resx_sound fn.results.toList l f1 f2 g1
   have hok0 : okV 0 lv := by rw [← g2]; exact noOwn_ok _ hno (one_ok g5)
   refine ⟨if hs : vs.toArray.size = 1 then vs.toArray[0] else .tuple vs.toArray, ?_, f1.below, _, rfl, hok0, ?_⟩
   ·rw [← et, resF_eq, Array.mapM_eq_mapM_toList]
    simp only [Sem.run_bind, Sem.run_map, g3, Result.andThen_ok, Sem.run_pure]
   ·have := one_R g4
    rw [g2] at this
    exact R.mono (n := 0) (fun _ hk => absurd hk (by omega)) (fun b hb => by
     rcases f1.znew b hb with h | h
     ·exact .inl h
     ·exact .inr ⟨h, f1.zlt b hb⟩) (fun _ _ => rfl) _ _ hok0 this
  ·obtain ⟨_, hg, g2⟩ := T.bind_all g2
   have hG := T.all_mono (K' := fun _ => True) (fun _ _ => trivial) hg
   simp only [T.all] at g2
   obtain ⟨vs, g3, g4, g5⟩ := resx_sound fn.results.toList l f1 f2 g1
   have hok0 : okV 0 lv := by rw [← g2]; exact toX_ok H' (fun k b hb => (f1.blk k b hb).2) 8 _ (one_ok g5)
   refine ⟨if hs : vs.toArray.size = 1 then vs.toArray[0] else .tuple vs.toArray, ?_, f1.below, _, rfl, hok0, ?_⟩
   ·rw [← et, resF_eq, Array.mapM_eq_mapM_toList]
    simp only [Sem.run_bind, Sem.run_map, g3, Result.andThen_ok, Sem.run_pure]
   ·have := toX_R (S := fun _ => True) f1 (fun _ _ _ _ _ _ => trivial) 8 _ _ hG (fun _ _ => trivial) (one_ok g5) (one_R g4)
    rw [g2] at this
    exact R.mono (n := 0) (fun _ hk => absurd hk (by omega)) (fun b hb => by
     rcases hb with hb | ⟨k, bk, _, h2, h3, rfl⟩
     ·rcases f1.znew b hb with h | h
      ·exact .inl h
      ·exact .inr ⟨h, f1.zlt b hb⟩
     ·exact .inr ⟨f1.low k bk h2 h3, f1.lt h2 h3⟩) (fun _ _ => rfl) _ _ hok0 this
 cases x with
 | normal => exact fin h2
 | ret => exact fin h2
 | exit m => cases h2
end Go.Sx
