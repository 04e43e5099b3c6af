/- The executor is right: slicing and maps. -/
import Derived.Test.YtihbikkkmoaljaaSxU
namespace Go.Sx
open Go Go.RowKit
variable {P : Program} {G : Globs} {Γ : Specs} {β : Nat → Loc} {Z : Nat → Prop} {Z0 : Gz} {w w0 : World} {F : List LV} {H : List Blk} {a : Act}
def RO (β : Nat → Loc) (Z : Nat → Prop) (w : World) : Option LV → Option Value → Prop
 | none, none => True
 | some x, some y => R β Z w x y
 | _, _ => False
theorem bounds_run {lo hi : Option Value} {len cap i j : Nat} (hij : i ≤ j) (hlc : j ≤ cap) (hlo : match lo with | none => i = 0 | some v => ∃ k, v = .int k i) (hhi : match hi with | none => j = len | some v => ∃ k, v = .int k j) (w' : World) :
  (Instr.sliceBounds true len cap lo hi none).run P w' = .ok (i, j, cap) w' := by
 have bd : ∀ (k : IntKind) (x y : Nat) (c : BoundsCode), x ≤ y → (Instr.sliceBound (.int k x) y c).run P w' = .ok x w' := fun k x y c hxy => by
  have h1 : (0 : Int) ≤ (x : Int) ∧ (x : Int) ≤ (y : Int) := by omega
  simp [Instr.sliceBound, asIntOf, h1]
 cases lo with
 | none =>
  simp only at hlo
  subst hlo
  cases hi with
  | none => simp only at hhi; subst hhi; simp [Instr.sliceBounds]
  | some v => simp only at hhi; obtain ⟨k, rfl⟩ := hhi; simp [Instr.sliceBounds, bd k j cap _ hlc]
 | some u =>
  simp only at hlo
  obtain ⟨k', rfl⟩ := hlo
  cases hi with
  | none => simp only at hhi; subst hhi; simp [Instr.sliceBounds, bd k' i j _ hij]
  | some v => simp only at hhi; obtain ⟨k, rfl⟩ := hhi; simp [Instr.sliceBounds, bd k j cap _ hlc, bd k' i j _ hij]
theorem sliceL_sound {t : TypeId} {x lv : LV} {y : Value} {lo hi : Option LV} {vlo vhi : Option Value} {N : Nat} (h : (sliceL P t x lo hi).all (fun z => z = lv)) (hr : R β Z w x y) (hlo : RO β Z w lo vlo) (hhi : RO β Z w hi vhi) (hk : okV N x) :
  ∃ v, (∀ w', (Instr.sliceAt t y vlo vhi none).run P w' = .ok v w') ∧ R β Z w lv v ∧ okV N lv := by
 unfold sliceL at h
 split at h
 ·rename_i e hu
  split at h
  ·rename_i m hsz
   have e2 := fun w => run_sizeOf hsz w
   have bnd : ∀ (o : Option LV) (v : Option Value) (d n : Int), RO β Z w o v → (match o with | none => some d | some y => match pl y with | some (.int _ n) => some n | _ => none) = some n → (match v with | none => n = d | some v => ∃ k, v = .int k n) := fun o v d n ho hn => by
    cases o with
    | none =>
     cases v with
     | none => simp only at hn ⊢; exact (Option.some.inj hn).symm
     | some v => cases ho
    | some x =>
     cases v with
     | none => cases ho
     | some v =>
      simp only [RO] at ho
      simp only at hn ⊢
      split at hn
      ·rename_i k n' hp
       simp only [Option.some.injEq] at hn
       subst hn
       exact ⟨k, pl_R hp ho⟩
      ·cases hn
   have nn : ∀ (v : Option Value) (d n : Int), 0 ≤ n → 0 ≤ d → (match v with | none => n = d | some v => ∃ k, v = .int k n) → (match v with | none => n.toNat = d.toNat | some v => ∃ k, v = .int k (n.toNat : Int)) := fun v d n hn hd hv => by
    cases v with
    | none => simp only at hv ⊢; rw [hv]
    | some v => simp only at hv ⊢; rw [Int.toNat_of_nonneg hn]; exact hv
   simp only at h
   split at h
   ·rename_i ty l
    split at h
    ·rename_i i j hi1 hi2
     split at h
     ·rename_i htn
      simp only [T.all] at h
      obtain ⟨⟨h0, h1, h2⟩, h3⟩ := h
      subst h3
      simp only [R] at hr
      obtain ⟨ad, cap, g1, g2, g3⟩ := hr
      have b1 := nn vlo 0 i h0 (by omega) (bnd lo vlo 0 i hlo hi1)
      have b2 := nn vhi _ j (by omega) (by omega) (bnd hi vhi _ j hhi hi2)
      simp only [Int.toNat_natCast, Int.toNat_zero] at b1 b2
      refine ⟨_, fun w' => by simp [Instr.sliceAt, Instr.slice, run_underlying hu, g1, bounds_run (P := P) (len := List.length l) (cap := cap) (i := i.toNat) (j := j.toNat) (by omega) (by omega) b1 b2 w', e2]; rfl, ?_, trivial⟩
      have hlen : List.length ((l.drop i.toNat).take (j.toNat - i.toNat)) = j.toNat - i.toNat := by simp; omega
      simp only [R]
      rw [hlen]
      refine ⟨_, _, rfl, by omega, fun hn => ?_⟩
      obtain ⟨b, off, g4, g5, g6⟩ := g3 (by omega)
      rw [if_neg (by omega), g4]
      simp only [Option.map_some, addr_add]
      refine ⟨b, _, rfl, g5, fun p d hd => ?_⟩
      rw [List.getElem?_take] at hd
      split at hd
      ·rw [List.getElem?_drop] at hd
       have := g6 (i.toNat + p) d hd
       rw [Nat.add_mul, ← Nat.add_assoc, htn] at this
       rw [htn]; exact this
      ·cases hd
     ·cases h
    ·cases h
   ·rename_i k es off n
    split at h
    ·rename_i i j hi1 hi2
     split at h
     ·rename_i hes
      simp only [T.all] at h
      obtain ⟨⟨h0, h1, h2⟩, h3⟩ := h
      subst h3
      have b1 := nn vlo 0 i h0 (by omega) (bnd lo vlo 0 i hlo hi1)
      have b2 := nn vhi _ j (by omega) (by omega) (bnd hi vhi _ j hhi hi2)
      simp only [Int.toNat_natCast, Int.toNat_zero] at b1 b2
      simp only [R] at hr
      split at hr
      ·rename_i hcap
       obtain ⟨rfl, rfl, rfl⟩ := hr
       have hi0 : i.toNat = 0 := by omega
       have hj0 : j.toNat = 0 := by omega
       refine ⟨.slice none 0 0, fun w' => by simp [Instr.sliceAt, Instr.slice, run_underlying hu, bounds_run (P := P) (len := 0) (cap := 0) (i := i.toNat) (j := j.toNat) (by omega) (by omega) b1 b2 w', e2, hi0, hj0], by simp [R, hcap, hi0, hj0], hk⟩
      ·rename_i c hcap
       obtain ⟨g1, ad, g2, g3⟩ := hr
       subst g2
       refine ⟨_, fun w' => by simp [Instr.sliceAt, Instr.slice, run_underlying hu, bounds_run (P := P) (len := n) (cap := c - off) (i := i.toNat) (j := j.toNat) (by omega) (by omega) b1 b2 w', e2]; rfl, ?_, hk⟩
       simp only [R, hcap]
       refine ⟨by omega, if c - off = i.toNat then ad else ad.add (i.toNat * (m + 1)), ?_, fun hn => ?_⟩
       ·rw [show c - (off + i.toNat) = c - off - i.toNat by omega]
        split <;> rfl
       ·rw [if_neg (by omega), g3 (by omega), addr_add, hes, Nat.add_mul, Nat.add_assoc]
     ·cases h
    ·cases h
   ·cases h
  ·cases h
 ·cases h
/-! ### maps -/
theorem find_chain {kd : IntKind} {n : Int} {z : Value} {lv : LV} : ∀ (ks : List Int) (vs : List LV) (es : List MapEntry) (s : Nat), (lookChain kd n z ks vs).all (fun r => r = lv) → ks.length = vs.length → es.map (·.key) = ks.map (.int kd) → RL β Z w vs (es.map (·.val)) →
  (∃ s' v, Instr.findNow (.int kd) (.int kd n) es s = some (some (s', v)) ∧ R β Z w lv v ∧ ∃ i : Nat, vs[i]? = some lv) ∨ (Instr.findNow (.int kd) (.int kd n) es s = some none ∧ lv = .v z)
 | [], [], es, s, h, _, hk, hr => by
  simp only [lookChain, T.all] at h
  have : es = [] := by simpa using hk
  subst this
  exact .inr ⟨rfl, h.symm⟩
 | [], _ :: _, _, _, _, hl, _, _ => by simp at hl
 | _ :: _, [], _, _, _, hl, _, _ => by simp at hl
 | k :: ks, v :: vs, es, s, h, hl, hk, hr => by
  cases es with
  | nil => simp at hk
  | cons e es =>
   simp only [List.map_cons, List.cons.injEq] at hk
   simp only [List.map_cons, RL] at hr
   obtain ⟨y, zs, h1, h2, h3⟩ := hr
   simp only [List.cons.injEq] at h1
   obtain ⟨rfl, rfl⟩ := h1
   simp only [lookChain, T.all] at h
   cases hb : (n == k) with
   | true =>
    have := h.1 hb
    subst this
    exact .inl ⟨s, e.val, by simp [Instr.findNow, Instr.sameNow, hk.1, hb], h2, 0, rfl⟩
   | false =>
    have hf : Instr.findNow (.int kd) (.int kd n) (e :: es) s = Instr.findNow (.int kd) (.int kd n) es (s + 1) := by simp [Instr.findNow, Instr.sameNow, hk.1, hb]
    rw [hf]
    rcases find_chain ks vs es (s + 1) (h.2 hb) (by simpa using hl) hk.2 h3 with ⟨s', v', q1, q2, i, q3⟩ | q
    ·exact .inl ⟨s', v', q1, q2, i + 1, by simpa using q3⟩
    ·exact .inr q
theorem checkKey_int {kt : TypeId} {kd : IntKind} (hu : P.underlying kt = some (.int kd)) (e : Bool) (v : Value) (w' : World) : (Instr.checkKey e 10000 kt v).run P w' = .ok () w' := by
 unfold Instr.checkKey
 simp [run_underlying hu]
theorem lookM_sound {t : TypeId} {x q lv : LV} {y z : Value} (hW : RW G w0 Z0 Z β H w) (h : (lookM P H t x q).all (fun r => r = lv)) (hr : R β Z w x y) (hq : R β Z w q z) (hk : okV H.length x) :
  ∃ v, (∀ w', (∀ b, (Z b ∨ ∃ k, x = .om k ∧ b = (β k).b) → w'.heap[b]? = w.heap[b]?) → (Instr.lookup t y z false).run P w' = .ok v w') ∧ R β Z w lv v ∧ okV H.length lv := by
 unfold lookM at h
 split at h
 ·rename_i kt et hu
  split at h
  ·rename_i kd z0 kd' n hku hz hp
   split at h
   ·rename_i hkd
    obtain ⟨rfl, hz1⟩ := hkd
    have hzq := pl_R hp hq
    have main : ∀ (r : Nat) (es : Array MapEntry) (clock : Nat) (ks : List Int) (vs : List LV), y = .map (some r) → w.heap[r]? = some (.map es clock) → es.toList.map (·.key) = ks.map (.int kd') → RL β Z w vs (es.toList.map (·.val)) → ks.length = vs.length → okL H.length vs → (lookChain kd' n z0 ks vs).all (fun r => r = lv) → (Z r ∨ ∃ k, x = .om k ∧ r = (β k).b) →
      ∃ v, (∀ w', (∀ b, (Z b ∨ ∃ k, x = .om k ∧ b = (β k).b) → w'.heap[b]? = w.heap[b]?) → (Instr.lookup t y z false).run P w' = .ok v w') ∧ R β Z w lv v ∧ okV H.length lv := fun r es clock ks vs hy hh hkk hvv hl hok hch hzr => by
     rcases find_chain ks vs es.toList 0 hch hl hkk hvv with ⟨s', v', q1, q2, i, q3⟩ | ⟨q1, q2⟩
     ·refine ⟨v', fun w' hw' => ?_, q2, okL.get i _ hok q3⟩
      have hh' : w'.heap[r]? = some (.map es clock) := by rw [hw' r hzr]; exact hh
      have hget : (getObj r).run P w' = .ok (.map es clock) w' := by simp [getObj, Sem.run, hh']
      simp [Instr.lookup, run_underlying hu, hy, hget, checkKey_int hku, Instr.findKey, run_underlying hku, hzq, q1]
     ·refine ⟨z0, fun w' hw' => ?_, by rw [q2]; simp [R], by rw [q2]; trivial⟩
      have hh' : w'.heap[r]? = some (.map es clock) := by rw [hw' r hzr]; exact hh
      have hget : (getObj r).run P w' = .ok (.map es clock) w' := by simp [getObj, Sem.run, hh']
      have hz0 := fun w => run_zero hz w
      simp [Instr.lookup, run_underlying hu, hy, hget, checkKey_int hku, Instr.findKey, run_underlying hku, hzq, q1, hz0]
    split at h
    ·split at h
     ·rename_i hkk
      obtain ⟨rfl, hl⟩ := hkk
      simp only [R, okV] at hr hk
      obtain ⟨r, es, clock, h1, h2, h3, h4, h5⟩ := hr
      exact main r es clock _ _ h1 h3 h4 h5 hl hk h (.inl h2)
     ·cases h
    ·rename_i k
     split at h
     ·rename_i hb
      split at h
      ·rename_i hkk
       obtain ⟨rfl, hl⟩ := hkk
       obtain ⟨b1, b2⟩ := hW.blk k _ hb
       simp only [BlkR] at b1
       obtain ⟨es, clock, g1, g2, g3⟩ := b1
       simp only [R] at hr
       exact main _ es clock _ _ hr g1 g2 g3 hl b2.2 h (.inr ⟨k, rfl, rfl⟩)
      ·cases h
     ·cases h
    ·cases h
   ·cases h
  ·cases h
 ·cases h
theorem find_none {kd : IntKind} {n : Int} : ∀ (ks : List Int) (es : List MapEntry) (s : Nat), ks.contains n = false → es.map (·.key) = ks.map (.int kd) → Instr.findNow (.int kd) (.int kd n) es s = some none
 | [], es, s, _, hk => by
  have : es = [] := by simpa using hk
  subst this; rfl
 | k :: ks, es, s, hc, hk => by
  cases es with
  | nil => simp at hk
  | cons e es =>
   simp only [List.map_cons, List.cons.injEq] at hk
   simp only [List.contains_cons, Bool.or_eq_false_iff] at hc
   have hf : Instr.findNow (.int kd) (.int kd n) (e :: es) s = Instr.findNow (.int kd) (.int kd n) es (s + 1) := by simp [Instr.findNow, Instr.sameNow, hk.1, hc.1]
   rw [hf]
   exact find_none ks es (s + 1) hc.2 hk.2
theorem insM_sound {t : TypeId} {x q r : LV} {y z u : Value} {H' : List Blk} (hW : RW G w0 Z0 Z β H w) (h : (insM P H t x q r).all (fun r => r = H')) (hr : R β Z w x y) (hq : R β Z w q z) (hu : R β Z w r u) (hrk : okV H.length r) :
  ∃ w', (Instr.mapUpdate t y z u).run P w = .ok () w' ∧ RW G w0 Z0 Z β H' w' ∧ H'.length = H.length ∧ (∀ b, Z b → w'.heap[b]? = w.heap[b]?) ∧ Go.Proofs.Ytihbikkkmoaljaa.Near (lvB β H (owns x)) w w' := by
 unfold insM at h
 split at h
 ·rename_i kt et hut
  split at h
  ·rename_i kd kd' n k hku hp
   split at h
   ·rename_i c0 bt kd2 ks vs hb
    split at h
    ·rename_i hle
     obtain ⟨rfl, rfl, hl, hnc⟩ := hle
     simp only [T.all] at h
     subst h
     obtain ⟨b1, b2⟩ := hW.blk k _ hb
     simp only [BlkR] at b1
     obtain ⟨es, clock, g1, g2, g3⟩ := b1
     simp only [R] at hr
     have hzq := pl_R hp hq
     have hlt := (Array.getElem?_eq_some_iff.1 g1).1
     have hget : (getObj (β k).b).run P w = .ok (.map es clock) w := by simp [getObj, Sem.run, g1]
     let w' : World := { w with heap := w.heap.setIfInBounds (β k).b (.map (es.push { key := z, val := u, born := clock }) (clock + 1)) }
     have hset : (setObj (β k).b (.map (es.push { key := z, val := u, born := clock }) (clock + 1))).run P w = .ok () w' := by simp [setObj, Sem.run, w', g1]
     have hfn := find_none ks es.toList 0 hnc g2
     have hlive : live β k ⟨c0, bt, .mp kd2 ks vs, false⟩ := trivial
     have hne : ∀ j, j ≠ (β k).b → w'.heap[j]? = w.heap[j]? := fun j hj => by simp [w', Ne.symm hj]
     have hZw : ∀ b', Z b' → w'.heap[b']? = w.heap[b']? := fun b' hz => hne b' (fun e => hW.zown k _ hb hlive rfl (e ▸ hz))
     refine ⟨w', ?_, ?_, by simp, hZw, ⟨rfl, rfl, rfl, by simp [w'], fun j _ hj => hne j (fun e => hj (e ▸ lvB_one hb hlive rfl))⟩⟩
     ·rw [hzq] at hset
      simp [Instr.mapUpdate, run_underlying hut, hr, hget, checkKey_int hku, Instr.findKey, run_underlying hku, hzq, hfn, hset]
     ·refine hW.set hb hlive rfl rfl ⟨trivial, okL.append b2.2 ⟨hrk, trivial⟩⟩ (by simp [w']) ⟨rfl, rfl, rfl⟩ hne ?_
      simp only [BlkR]
      refine ⟨es.push { key := z, val := u, born := clock }, clock + 1, by simp [w', hlt], by simp [g2, hzq], ?_⟩
      have h1 : RL β Z w (vs ++ [r]) (es.toList.map (·.val) ++ [u]) := g3.app (by simp only [RL]; exact ⟨u, [], rfl, hu, rfl⟩)
      have hok1 : okL H.length [r] := ⟨hrk, trivial⟩
      have h2 := RL.mono (n := H.length) (β' := β) (Z' := Z) (fun _ _ => rfl) (fun _ h => h) hZw _ _ (okL.append b2.2 hok1) h1
      simpa using h2
    ·cases h
   ·cases h
  ·cases h
 ·cases h
/-! ### sets -/
theorem keyD_V : ∀ {e : Ty} {v : Value} {d : e.D}, keyD e v = some d → v = keyV e d
 | .int k, v, d, h => by
  simp only [keyD] at h
  split at h
  ·split at h
   ·rename_i hk; simp only [Option.some.injEq] at h; subst h hk; rfl
   ·cases h
  ·cases h
 | .str, v, d, h => by
  simp only [keyD] at h
  split at h
  ·simp only [Option.some.injEq] at h; subst h; rfl
  ·cases h
 | .bool, _, _, h => by simp [keyD] at h
 | .sl _, _, _, h => by simp [keyD] at h
 | .pair _ _, _, _, h => by simp [keyD] at h
def keyK : Ty → TypeDesc
 | .int k => .int k
 | _ => .string
theorem find_int {k : IntKind} {d : Int} : ∀ (l : List Int) (es : List MapEntry) (s : Nat), es.map (·.key) = l.map (.int k) → (∀ x, x ∈ es → x.val = .bool true) →
  (l.contains d = true ∧ ∃ s', Instr.findNow (.int k) (.int k d) es s = some (some (s', .bool true))) ∨ (l.contains d = false ∧ Instr.findNow (.int k) (.int k d) es s = some none)
 | [], es, s, hk, _ => by
  have : es = [] := by simpa using hk
  subst this
  exact .inr ⟨rfl, rfl⟩
 | x :: l, es, s, hk, hv => by
  cases es with
  | nil => simp at hk
  | cons e es =>
   simp only [List.map_cons, List.cons.injEq] at hk
   cases hb : (d == x) with
   | true =>
    refine .inl ⟨by rw [List.contains_cons, hb, Bool.true_or], s, ?_⟩
    have hv1 := hv e (by simp)
    simp [Instr.findNow, Instr.sameNow, hk.1, hb, hv1]
   | false =>
    have hf : Instr.findNow (.int k) (.int k d) (e :: es) s = Instr.findNow (.int k) (.int k d) es (s + 1) := by simp [Instr.findNow, Instr.sameNow, hk.1, hb]
    rw [hf]
    have hc : (x :: l).contains d = l.contains d := by rw [List.contains_cons, hb, Bool.false_or]
    rw [hc]
    exact find_int l es (s + 1) hk.2 (fun y hy => hv y (by simp [hy]))
theorem find_str {d : ByteArray} : ∀ (l : List ByteArray) (es : List MapEntry) (s : Nat), es.map (·.key) = l.map .string → (∀ x, x ∈ es → x.val = .bool true) →
  (l.contains d = true ∧ ∃ s', Instr.findNow .string (.string d) es s = some (some (s', .bool true))) ∨ (l.contains d = false ∧ Instr.findNow .string (.string d) es s = some none)
 | [], es, s, hk, _ => by
  have : es = [] := by simpa using hk
  subst this
  exact .inr ⟨rfl, rfl⟩
 | x :: l, es, s, hk, hv => by
  cases es with
  | nil => simp at hk
  | cons e es =>
   simp only [List.map_cons, List.cons.injEq] at hk
   cases hb : (d == x) with
   | true =>
    refine .inl ⟨by rw [List.contains_cons, hb, Bool.true_or], s, ?_⟩
    have hv1 := hv e (by simp)
    simp [Instr.findNow, Instr.sameNow, hk.1, hb, hv1]
   | false =>
    have hf : Instr.findNow .string (.string d) (e :: es) s = Instr.findNow .string (.string d) es (s + 1) := by simp [Instr.findNow, Instr.sameNow, hk.1, hb]
    rw [hf]
    have hc : (x :: l).contains d = l.contains d := by rw [List.contains_cons, hb, Bool.false_or]
    rw [hc]
    exact find_str l es (s + 1) hk.2 (fun y hy => hv y (by simp [hy]))
theorem find_st {e : Ty} {v : Value} {d : e.D} (hd : keyD e v = some d) (l : List e.D) (es : List MapEntry) (s : Nat) (hk : es.map (·.key) = List.map (keyV e) l) (hv : ∀ x, x ∈ es → x.val = .bool true) :
  (memD e d l = true ∧ ∃ s', Instr.findNow (keyK e) v es s = some (some (s', .bool true))) ∨ (memD e d l = false ∧ Instr.findNow (keyK e) v es s = some none) := by
 have hvv := keyD_V hd
 subst hvv
 cases e with
 | int k => exact find_int l es s hk hv
 | str => exact find_str l es s hk hv
 | bool => simp [keyD] at hd
 | sl _ => simp [keyD] at hd
 | pair _ _ => simp [keyD] at hd
theorem setT_some {t : TypeId} {e : Ty} (h : setT P t = some e) : ∃ kt et, P.underlying t = some (.map kt et) ∧ P.underlying et = some .bool ∧ P.underlying kt = some (keyK e) ∧ (∀ (b : Bool) (v : Value) (w' : World), (Instr.checkKey b 10000 kt v).run P w' = .ok () w') ∧ zeroT P et = some (.bool false) := by
 unfold setT at h
 split at h
 ·rename_i kt et hu
  split at h
  ·rename_i k h1 h2 h3
   simp only [Option.some.injEq] at h
   subst h
   exact ⟨kt, et, hu, h1, h2, fun b v w' => checkKey_int h2 b v w', h3⟩
  ·rename_i h1 h2 h3
   simp only [Option.some.injEq] at h
   subst h
   exact ⟨kt, et, hu, h1, h2, fun b v w' => by unfold Instr.checkKey; simp [run_underlying h2], h3⟩
  ·cases h
 ·cases h
theorem lookL_sound {t : TypeId} {x q lv : LV} {y z : Value} (hW : RW G w0 Z0 Z β H w) (h : (lookL P H t x q).all (fun r => r = lv)) (hr : R β Z w x y) (hq : R β Z w q z) (hk : okV H.length x) :
  ∃ v, (∀ w', (∀ b, (Z b ∨ ∃ k, x = .om k ∧ b = (β k).b) → w'.heap[b]? = w.heap[b]?) → (Instr.lookup t y z false).run P w' = .ok v w') ∧ R β Z w lv v ∧ okV H.length lv := by
 unfold lookL at h
 split at h
 ·rename_i k
  split at h
  ·rename_i c0 bt e l pp hb
   unfold lookS at h
   split at h
   ·rename_i e' v hs hp
    split at h
    ·rename_i he d _ hd
     obtain ⟨he⟩ := he
     subst he
     simp only [T.all] at h
     subst h
     obtain ⟨kt, et, u1, u2, u3, u4, u5⟩ := setT_some hs
     obtain ⟨b1, b2⟩ := hW.blk k _ hb
     simp only [BlkR] at b1
     obtain ⟨es, clock, g1, g2, g3⟩ := b1
     simp only [R] at hr
     have hzq := pl_R hp hq
     rcases find_st hd l es.toList 0 g2 g3 with ⟨m1, s', m2⟩ | ⟨m1, m2⟩
     ·refine ⟨.bool true, fun w' hw' => ?_, by simp only [R, m1], trivial⟩
      have hh' : w'.heap[(β k).b]? = some (.map es clock) := by rw [hw' _ (.inr ⟨k, rfl, rfl⟩)]; exact g1
      have hget : (getObj (β k).b).run P w' = .ok (.map es clock) w' := by simp [getObj, Sem.run, hh']
      simp [Instr.lookup, run_underlying u1, hr, hget, u4, Instr.findKey, run_underlying u3, hzq, m2]
     ·refine ⟨.bool false, fun w' hw' => ?_, by simp only [R, m1], trivial⟩
      have hh' : w'.heap[(β k).b]? = some (.map es clock) := by rw [hw' _ (.inr ⟨k, rfl, rfl⟩)]; exact g1
      have hget : (getObj (β k).b).run P w' = .ok (.map es clock) w' := by simp [getObj, Sem.run, hh']
      have hz0 := fun w => run_zero u5 w
      simp [Instr.lookup, run_underlying u1, hr, hget, u4, Instr.findKey, run_underlying u3, hzq, m2, hz0]
    ·cases h
   ·cases h
  ·exact lookM_sound hW h hr hq hk
 ·exact lookM_sound hW h hr hq hk
theorem insL_sound {t : TypeId} {x q r : LV} {y z u : Value} {H' : List Blk} (hW : RW G w0 Z0 Z β H w) (h : (insL P H t x q r).all (fun r => r = H')) (hr : R β Z w x y) (hq : R β Z w q z) (hu : R β Z w r u) (hrk : okV H.length r) :
  ∃ w', (Instr.mapUpdate t y z u).run P w = .ok () w' ∧ RW G w0 Z0 Z β H' w' ∧ H'.length = H.length ∧ (∀ b, Z b → w'.heap[b]? = w.heap[b]?) ∧ Go.Proofs.Ytihbikkkmoaljaa.Near (lvB β H (owns x)) w w' := by
 unfold insL at h
 split at h
 ·rename_i k
  split at h
  ·rename_i c0 bt e l hb
   split at h
   ·rename_i e' v hs hp
    split at h
    ·rename_i he d _ hd
     obtain ⟨he⟩ := he
     subst he
     simp only [T.all] at h
     obtain ⟨hnm, h⟩ := h
     subst h
     obtain ⟨kt, et, u1, u2, u3, u4, u5⟩ := setT_some hs
     obtain ⟨b1, b2⟩ := hW.blk k _ hb
     simp only [BlkR] at b1
     obtain ⟨es, clock, g1, g2, g3⟩ := b1
     simp only [R] at hr hu
     have hzq := pl_R hp hq
     have hlt := (Array.getElem?_eq_some_iff.1 g1).1
     have hget : (getObj (β k).b).run P w = .ok (.map es clock) w := by simp [getObj, Sem.run, g1]
     let w' : World := { w with heap := w.heap.setIfInBounds (β k).b (.map (es.push { key := z, val := u, born := clock }) (clock + 1)) }
     have hset : (setObj (β k).b (.map (es.push { key := z, val := u, born := clock }) (clock + 1))).run P w = .ok () w' := by simp [setObj, Sem.run, w', g1]
     have hfn : Instr.findNow (keyK e') v es.toList 0 = some none := by
      rcases find_st hd l es.toList 0 g2 g3 with ⟨m1, _⟩ | ⟨_, m2⟩
      ·rw [hnm] at m1; cases m1
      ·exact m2
     have hlive : live β k ⟨c0, bt, .st e' l, false⟩ := trivial
     have hne : ∀ j, j ≠ (β k).b → w'.heap[j]? = w.heap[j]? := fun j hj => by simp [w', Ne.symm hj]
     have hZw : ∀ b', Z b' → w'.heap[b']? = w.heap[b']? := fun b' hz => hne b' (fun e => hW.zown k _ hb hlive rfl (e ▸ hz))
     refine ⟨w', ?_, ?_, by simp, hZw, ⟨rfl, rfl, rfl, by simp [w'], fun j _ hj => hne j (fun e => hj (e ▸ lvB_one hb hlive rfl))⟩⟩
     ·rw [hzq] at hset
      simp [Instr.mapUpdate, run_underlying u1, hr, hget, u4, Instr.findKey, run_underlying u3, hzq, hfn, hset]
     ·refine hW.set hb hlive rfl rfl ⟨trivial, trivial⟩ (by simp [w']) ⟨rfl, rfl, rfl⟩ hne ?_
      simp only [BlkR]
      refine ⟨es.push { key := z, val := u, born := clock }, clock + 1, by simp [w', hlt], ?_, fun x hx => ?_⟩
      ·rw [Array.toList_push, List.map_append, List.map_append, g2]
       simp [hzq, keyD_V hd]
      ·rw [Array.toList_push, List.mem_append] at hx
       rcases hx with hx | hx
       ·exact g3 x hx
       ·simp at hx; subst hx; exact hu
    ·cases h
   ·cases h
  ·exact insM_sound hW h hr hq hu hrk
 ·exact insM_sound hW h hr hq hu hrk
theorem RW.newMap {kd : IntKind} {t : TypeId} (hW : RW G w0 Z0 Z β H w) :
  ∃ β', (∀ k, k < H.length → β' k = β k) ∧ (β' H.length).b = w.heap.size ∧ RW G w0 Z0 Z β' (H ++ [⟨[], t, .mp kd [] [], false⟩]) (w.alloc (.map #[] 0)) ∧ Below w.heap.size w (w.alloc (.map #[] 0)) := by
 have hbw : Below w.heap.size w (w.alloc (.map #[] 0)) := (Below.refl _ _).alloc (Nat.le_refl _) _
 obtain ⟨β', h1, h2, h3⟩ := (hW.same hbw).adopt (ℓ := ⟨w.heap.size, 0, none⟩) (nb := ⟨[], t, .mp kd [] [], false⟩) rfl ⟨trivial, trivial⟩ (fun _ => ⟨fun hz => by have := hW.zlt _ hz; simp only at this; omega, hW.below.size, fun j bj hj lj e => by have := hW.lt hj lj; simp only at e; omega⟩) (fun β' h1 h2 => by
  simp only [BlkR, h2]
  refine ⟨#[], 0, ?_, by simp, by simp [RL]⟩
  show (w.heap.push _)[w.heap.size]? = _
  simp)
 exact ⟨β', h1, by rw [h2], h3, hbw⟩
theorem RW.newSet {e : Ty} {t : TypeId} (hW : RW G w0 Z0 Z β H w) :
  ∃ β', (∀ k, k < H.length → β' k = β k) ∧ (β' H.length).b = w.heap.size ∧ RW G w0 Z0 Z β' (H ++ [⟨[], t, .st e [], false⟩]) (w.alloc (.map #[] 0)) ∧ Below w.heap.size w (w.alloc (.map #[] 0)) := by
 have hbw : Below w.heap.size w (w.alloc (.map #[] 0)) := (Below.refl _ _).alloc (Nat.le_refl _) _
 obtain ⟨β', h1, h2, h3⟩ := (hW.same hbw).adopt (ℓ := ⟨w.heap.size, 0, none⟩) (nb := ⟨[], t, .st e [], false⟩) rfl ⟨trivial, trivial⟩ (fun _ => ⟨fun hz => by have := hW.zlt _ hz; simp only at this; omega, hW.below.size, fun j bj hj lj e => by have := hW.lt hj lj; simp only at e; omega⟩) (fun β' h1 h2 => by
  simp only [BlkR, h2]
  refine ⟨#[], 0, ?_, by simp, by simp⟩
  show (w.heap.push _)[w.heap.size]? = _
  simp)
 exact ⟨β', h1, by rw [h2], h3, hbw⟩
end Go.Sx
