/- Drawn regions: the operations that only look (and call functions that at most make memory) are taken first, in the order of the text; the others ('special': stores, allocations, and what hangs on them) behind them, one by one.
   The law: whatever order is drawn, what stands behind the region is asked in every world of the last class. -/
import Derived.Test.YtihbikkkmoaljaaExt
import Derived.RangeFuncLeaves
import Derived.RangeFuncRecord
import Derived.OrdersIn
import Derived.LoopNIn
namespace Go.Proofs.Ytihbikkkmoaljaa
open Go Go.RowKit
section
variable {P : Program} {ops : Array Oper} {md : Region.Mode} {G : Type} {D : World → Prop} {C : G → World → Prop} {sp : Nat → Bool}
def calmUpon (P : Program) (w : World) (v : Value) : Result Next → Prop
 | .ok (.value u) w' => w' = w ∧ u = v
 | .ok .skip w' => w' = w ∧ v = undef
 | .ok (.enter f args) w' => w' = w ∧ Calls P f args w (fun e w'' => e = .returned v ∧ Below w.heap.size w w'')
 | _ => False
def calmAt (P : Program) (o : Oper) (a : Act) (w : World) (v : Value) : Prop := calmUpon P w v ((execOp a.eval o).run P w)
def calm (P : Program) (o : Oper) (a : Act) (D : World → Prop) (next : Act → Prop) : Prop := ∃ v, (∀ w, D w → calmAt P o a w v) ∧ next (a.put o.dst v)
def actUpon (P : Program) (R : Value → World → Prop) : Result Next → Prop
 | .ok (.value v) w' => R v w'
 | .ok .skip w' => R undef w'
 | .ok (.enter f args) w' => Calls P f args w' fun e w'' => ∃ v, e = .returned v ∧ R v w''
 | .ok (.round l f tmps assign body) w' => RoundIn Fence.wide 0 P l f tmps assign body w' fun e w'' => ∃ v, e = .returned v ∧ R v w''
 | _ => False
abbrev fen (r : Option Nat) : Fence := { Fence.wide with round := r }
theorem semAt_eq {o : Oper} {r : Option Nat} {ρ : Operand → Value} (h : ∀ c, o.op ≠ .defer c) : o.semAt r ρ = execOp ρ o := by
 unfold Oper.semAt
 split
 ·rename_i c hc
  exact absurd hc (h c)
 ·rfl
theorem defer_upon {o : Oper} {ρ : Operand → Value} {w : World} {c : Call} (h : o.op = .defer c) : (∃ d w', (execOp ρ o).run P w = .ok (.defer d) w') ∨ (∃ x w', (execOp ρ o).run P w = .halt x w') := by
 unfold execOp
 simp only [h]
 cases hr : (resolve ρ c o.type).run P w with
 | ok d w' => left; exact ⟨d, w', by simp [hr]⟩
 | halt x w' => right; exact ⟨x, w', by simp [hr]⟩
def actAt (P : Program) (o : Oper) (a : Act) (C : G → World → Prop) (g : G) (K : Act → G → Prop) : Prop :=
 ∀ w, C g w → actUpon P (fun v w' => ∃ g', C g' w' ∧ K (a.put o.dst v) g') ((execOp a.eval o).run P w)
def gOp (P : Program) (ops : Array Oper) (D : World → Prop) (C : G → World → Prop) (sp : Nat → Bool) (i : Nat) (K : Act → G → Prop) (a : Act) (g : G) : Prop :=
 match ops[i]? with
 | none => K a g
 | some o => if Region.wanted o (yielded ops a.tmps) then (if sp i then actAt P o a C g K else calm P o a D fun a' => K a' g) else K (a.put o.dst undef) g
theorem calm_mono {o : Oper} {a : Act} {K K' : Act → Prop} (h : ∀ a, K a → K' a) (hh : calm P o a D K) : calm P o a D K' :=
 let ⟨v, h1, h2⟩ := hh
 ⟨v, h1, h _ h2⟩
theorem actUpon_mono {R R' : Value → World → Prop} (h : ∀ v w, R v w → R' v w) {r : Result Next} (hh : actUpon P R r) : actUpon P R' r := by
 cases r with
 | ok n w' =>
  cases n <;> simp only [actUpon] at hh ⊢
  case value u => exact h _ _ hh
  case skip => exact h _ _ hh
  case enter f args => exact hh.mono fun e w'' ⟨v, he, hr⟩ => ⟨v, he, h _ _ hr⟩
  case round l f tmps assign body => exact hh.mono fun e w'' ⟨v, he, hr⟩ => ⟨v, he, h _ _ hr⟩
 | halt x w' => simp only [actUpon] at hh
theorem actAt_mono {o : Oper} {a : Act} {g : G} {K K' : Act → G → Prop} (h : ∀ a g, K a g → K' a g) (hh : actAt P o a C g K) : actAt P o a C g K' :=
 fun w hw => actUpon_mono (fun _ _ ⟨g', hc, hk⟩ => ⟨g', hc, h _ _ hk⟩) (hh w hw)
theorem gOp_mono {i : Nat} {a : Act} {g : G} {K K' : Act → G → Prop} (h : ∀ a g, K a g → K' a g) (hh : gOp P ops D C sp i K a g) : gOp P ops D C sp i K' a g := by
 unfold gOp at *
 split
 ·exact h _ _ (by simpa [*] using hh)
 ·rename_i o ho
  simp only [ho] at hh
  split
  ·rename_i hw
   simp only [hw, if_true] at hh
   split
   ·rename_i hs; simp only [hs, if_true] at hh; exact actAt_mono h hh
   ·rename_i hs; simp only [hs] at hh; exact calm_mono (fun a => h a g) hh
  ·rename_i hw; simp only [hw] at hh; exact h _ _ hh
def wpAnyG (P : Program) (md : Region.Mode) (ops : Array Oper) (D : World → Prop) (C : G → World → Prop) (sp : Nat → Bool) (Q : Act → G → Prop) : Nat → Array Bool → Act → G → Prop
 | 0, listed, a, g => Region.ready md ops listed = [] ∧ Q a g
 | fuel + 1, listed, a, g =>
  (Region.ready md ops listed = [] → Q a g) ∧
  ∀ i ∈ Region.ready md ops listed, gOp P ops D C sp i (wpAnyG P md ops D C sp Q fuel (listed.setIfInBounds i true)) a g
theorem round_wide {r : Option Nat} {m l : Nat} {f : FuncId} {tmps : Array Value} {assign body : Code} {w : World} {R : Ending → World → Prop} (h : RoundIn Fence.wide 0 P l f tmps assign body w R) : RoundIn (fen r) m P l f tmps assign body w R :=
 ⟨trivial, fun c cs _ => h.2 c cs (room_wide _)⟩
theorem wp_of_calm {o : Oper} {a : Act} {K : Act → Prop} {K' : Act → World → Prop} {Q' : Exit → Act → World → Prop} {w : World} (hw : D w)
  (h : ∀ a w', Below w.heap.size w w' → K a → K' a w') (hh : calm P o a D K) (r : Option Nat) (m : Nat) : o.wpIn (fen r) m P a w K' Q' := by
 obtain ⟨v, h1, h2⟩ := hh
 have h3 := h1 w hw
 unfold calmAt at h3
 have hnd : ∀ c, o.op ≠ .defer c := fun c hc => by
  rcases defer_upon (P := P) (ρ := a.eval) (w := w) hc with ⟨d, w', e⟩ | ⟨d, w', e⟩ <;> rw [e] at h3 <;> simp only [calmUpon] at h3
 unfold Oper.wpIn
 refine ⟨fun _ _ => trivial, ?_⟩
 rw [semAt_eq hnd]
 generalize (execOp a.eval o).run P w = r at *
 cases r with
 | ok n w' =>
  cases n <;> simp only [calmUpon] at h3 <;> simp only [Oper.uponIn]
  case value u =>
   obtain ⟨e1, e2⟩ := h3
   rw [e1, e2]
   exact h _ _ (Below.refl _ _) h2
  case skip =>
   obtain ⟨e1, e2⟩ := h3
   rw [e1, ← e2]
   exact h _ _ (Below.refl _ _) h2
  case enter f args =>
   obtain ⟨e1, hc⟩ := h3
   rw [e1]
   exact ⟨fun h => (by cases h), callsIn_wide.2 (hc.mono fun e w'' ⟨he, hw''⟩ => by subst he; exact h _ _ hw'' h2)⟩
 | halt x w' => simp only [calmUpon] at h3
theorem wp_of_act {o : Oper} {a : Act} {g : G} {K : Act → G → Prop} {K' : Act → World → Prop} {Q' : Exit → Act → World → Prop} {w : World} (hw : C g w)
  (h : ∀ a g w', C g w' → K a g → K' a w') (hh : actAt P o a C g K) (r : Option Nat) (m : Nat) : o.wpIn (fen r) m P a w K' Q' := by
 have h3 := hh w hw
 have hnd : ∀ c, o.op ≠ .defer c := fun c hc => by
  rcases defer_upon (P := P) (ρ := a.eval) (w := w) hc with ⟨d, w', e⟩ | ⟨d, w', e⟩ <;> rw [e] at h3 <;> simp only [actUpon] at h3
 unfold Oper.wpIn
 refine ⟨fun _ _ => trivial, ?_⟩
 rw [semAt_eq hnd]
 generalize (execOp a.eval o).run P w = r at *
 cases r with
 | ok n w' =>
  cases n <;> simp only [actUpon] at h3 <;> simp only [Oper.uponIn]
  case value u => obtain ⟨g', h1, h2⟩ := h3; exact h _ _ _ h1 h2
  case skip => obtain ⟨g', h1, h2⟩ := h3; exact h _ _ _ h1 h2
  case enter f args =>
   exact ⟨fun h => (by cases h), callsIn_wide.2 (h3.mono fun e w'' ⟨v, he, g', h1, h2⟩ => by subst he; exact h _ _ _ h1 h2)⟩
  case round l f tmps assign body =>
   exact ⟨fun h => (by cases h), round_wide (h3.mono fun e w'' ⟨v, he, g', h1, h2⟩ => by subst he; exact h _ _ _ h1 h2)⟩
 | halt x w' => simp only [actUpon] at h3
theorem wpOp_of_gOp (hD : ∀ g w, C g w → D w) (hkeep : ∀ g w w', C g w → Below w.heap.size w w' → C g w') {i : Nat} {a : Act} {g : G} {K : Act → G → Prop} {K' : Act → World → Prop} {Q' : Exit → Act → World → Prop} {w : World} (hC : C g w)
  (h : ∀ a g w', C g w' → K a g → K' a w') (hh : gOp P ops D C sp i K a g) (r : Option Nat) (m : Nat) : wpOpIn (fen r) m P ops Q' i K' a w := by
 unfold gOp at hh
 unfold wpOpIn
 split
 ·rename_i ho; simp only [ho] at hh; exact h _ _ _ hC hh
 ·rename_i o ho
  simp only [ho] at hh
  split
  ·rename_i hw
   simp only [hw, if_true] at hh
   by_cases hs : sp i = true
   ·simp only [hs, if_true] at hh; exact wp_of_act hC h hh r m
   ·simp only [hs] at hh; exact wp_of_calm (hD _ _ hC) (fun a w' hb hk => h a g w' (hkeep _ _ _ hC hb) hk) hh r m
  ·rename_i hw; simp only [hw] at hh; exact ⟨fun _ _ => trivial, h _ _ _ hC hh⟩
theorem wpAny_of_G (hD : ∀ g w, C g w → D w) (hkeep : ∀ g w w', C g w → Below w.heap.size w w' → C g w') {Q : Act → G → Prop} {Q' : Exit → Act → World → Prop} (hQ : ∀ a g w, C g w → Q a g → Q' .normal a w) (r : Option Nat) (m : Nat) :
  ∀ (fuel : Nat) (listed : Array Bool) (a : Act) (g : G) (w : World), C g w → wpAnyG P md ops D C sp Q fuel listed a g → wpAnyIn (fen r) m P md ops Q' fuel listed a w
 | 0, _, _, _, _, hw, h => ⟨h.1, hQ _ _ _ hw h.2⟩
 | fuel + 1, _, _, _, _, hw, h => ⟨fun h0 => hQ _ _ _ hw (h.1 h0), fun i hi => wpOp_of_gOp hD hkeep hw (fun a' g' w' hw' => wpAny_of_G hD hkeep hQ r m fuel _ a' g' w' hw') (h.2 i hi) r m⟩
def YieldsC (P : Program) (ops : Array Oper) (D : World → Prop) (o : Oper) (v : Value) (a : Act) : Prop :=
 (Region.wanted o (yielded ops a.tmps) = true ∧ ∀ w, D w → calmAt P o a w v) ∨
 (Region.wanted o (yielded ops a.tmps) = false ∧ v = undef)
theorem YieldsC.gOp {i : Nat} {o : Oper} {v : Value} {a : Act} {g : G} (hi : ops[i]? = some o) (hs : sp i = false) (hy : YieldsC P ops D o v a) {K : Act → G → Prop} (h : K (a.put o.dst v) g) : gOp P ops D C sp i K a g := by
 unfold Go.Proofs.Ytihbikkkmoaljaa.gOp
 simp only [hi]
 rcases hy with ⟨hw, hv⟩ | ⟨hw, rfl⟩
 ·simp only [hw, if_true, hs, Bool.false_eq_true, if_false]; exact ⟨v, hv, h⟩
 ·simp only [hw, Bool.false_eq_true, if_false]; exact h
theorem YieldsC.of_same {o : Oper} {v : Value} {a a' : Act} (hy : YieldsC P ops D o v a) (he : execOp a'.eval o = execOp a.eval o)
  (hw : Region.wanted o (yielded ops a'.tmps) = Region.wanted o (yielded ops a.tmps)) : YieldsC P ops D o v a' := by
 unfold YieldsC calmAt at *
 rw [he, hw]
 exact hy
theorem yieldsC_of_gOp {i : Nat} {o : Oper} {a : Act} {g : G} {K : Act → G → Prop} (hi : ops[i]? = some o) (hs : sp i = false) (h : gOp P ops D C sp i K a g) : ∃ v, YieldsC P ops D o v a ∧ K (a.put o.dst v) g := by
 unfold gOp at h
 simp only [hi] at h
 by_cases hw : Region.wanted o (yielded ops a.tmps) = true
 ·simp only [hw, if_true, hs, Bool.false_eq_true, if_false] at h
  obtain ⟨v, h1, h2⟩ := h
  exact ⟨v, .inl ⟨hw, h1⟩, h2⟩
 ·simp only [hw] at h
  exact ⟨undef, .inr ⟨by simpa using hw, rfl⟩, h⟩
theorem gOp_put {j : Nat} {oi oj : Oper} {v : Value} (hj : ops[j]? = some oj) (hap : oi.apart ops oj = true)
  (hsi : ∀ cs b, oi.op ≠ .select cs b) (hsj : ∀ cs b, oj.op ≠ .select cs b) {K : Act → G → Prop} {a : Act} {g : G}
  (hy : YieldsC P ops D oi v a) (h : gOp P ops D C sp j K (a.put oi.dst v) g) :
  gOp P ops D C sp j (fun a' g' => YieldsC P ops D oi v a' ∧ K (a'.put oi.dst v) g') a g := by
 obtain ⟨h1, h2, h3⟩ := Oper.apart_spec hap
 have keep : ∀ (a : Act), YieldsC P ops D oi v a → ∀ u, YieldsC P ops D oi v (a.put oj.dst u) := fun a hy u =>
  hy.of_same (execOp_put oi hsi a oj.dst u h3) (wanted_put oi a oj.dst u h3)
 unfold gOp at *
 simp only [hj] at *
 rw [wanted_put oj a oi.dst v h1] at h
 split
 ·rename_i hw
  simp only [hw, if_true] at h
  split
  ·rename_i hs
   simp only [hs, if_true] at h
   intro w hw'
   have := h w hw'
   rw [execOp_put oj hsj a oi.dst v h1] at this
   refine actUpon_mono (fun u w'' ⟨g', hc, hk⟩ => ⟨g', hc, keep a hy u, ?_⟩) this
   rw [← Act.put_comm a v u h2]; exact hk
  ·rename_i hs
   simp only [hs] at h
   obtain ⟨u, hu, hn⟩ := h
   refine ⟨u, fun w hw' => ?_, keep a hy u, by rw [← Act.put_comm a v u h2]; exact hn⟩
   have := hu w hw'
   unfold calmAt at *
   rwa [execOp_put oj hsj a oi.dst v h1] at this
 ·rename_i hw
  simp only [hw] at h
  exact ⟨keep a hy _, by rw [← Act.put_comm a v undef h2]; exact h⟩
theorem wpAnyG_first {Q : Act → G → Prop} {i : Nat} {oi : Oper} {v : Value} (hi : ops[i]? = some oi) (hs : sp i = false) (hsel : ∀ (j : Nat) (o : Oper) cs b, ops[j]? = some o → o.op ≠ .select cs b) :
  ∀ (fuel : Nat) (listed : Array Bool) (a : Act) (g : G),
   (∀ j oj, ops[j]? = some oj → j ≠ i → listed.getD j true = false → (∀ e ∈ oj.after, Region.binds md e = true → e.on ≠ i) → oi.apart ops oj = true) →
   i ∈ Region.ready md ops listed → YieldsC P ops D oi v a →
   wpAnyG P md ops D C sp Q fuel (listed.setIfInBounds i true) (a.put oi.dst v) g → wpAnyG P md ops D C sp Q (fuel + 1) listed a g := by
 intro fuel
 induction fuel with
 | zero =>
  intro listed a g _ hr hy H
  refine ⟨fun h => (by rw [h] at hr; cases hr), fun j hj => ?_⟩
  by_cases hji : j = i
  ·subst hji; exact hy.gOp hi hs H
  ·have := ready_mono hj hji
   rw [H.1] at this
   cases this
 | succ fuel ih =>
  intro listed a g hfree hr hy H
  refine ⟨fun h => (by rw [h] at hr; cases hr), fun j hj => ?_⟩
  by_cases hji : j = i
  ·subst hji; exact hy.gOp hi hs H
  ·have h1 := H.2 j (ready_mono hj hji)
   obtain ⟨hjun, oj, hoj, hall⟩ := mem_ready.1 hj
   have hnot : ∀ e ∈ oj.after, Region.binds md e = true → e.on ≠ i := fun e he hb heq => by
    have h1 := hall e he hb
    have h0 := (mem_ready.1 hr).1
    rw [heq] at h1
    rcases Nat.lt_or_ge i listed.size with h' | h'
    ·simp [h'] at h0 h1; rw [h0] at h1; cases h1
    ·simp [Array.getElem?_eq_none h'] at h1
   have h2 := gOp_put hoj (hfree j oj hoj hji hjun hnot) (fun cs b => hsel i oi cs b hi) (fun cs b => hsel j oj cs b hoj) hy h1
   have hfree' : ∀ k ok, ops[k]? = some ok → k ≠ i → (listed.setIfInBounds j true).getD k true = false →
     (∀ e ∈ ok.after, Region.binds md e = true → e.on ≠ i) → oi.apart ops ok = true := fun k ok hk hki hun hno => by
    refine hfree k ok hk hki ?_ hno
    by_cases hjk : j = k
    ·subst hjk; exact hjun
    ·rw [getD_set_ne true hjk] at hun; exact hun
   refine gOp_mono (fun a' g' h3 => ih (listed.setIfInBounds j true) a' g' hfree' (ready_mono hr (Ne.symm hji)) h3.1 ?_) h2
   rw [Array.setIfInBounds_comm _ _ hji]
   exact h3.2
def wpP1 (P : Program) (ops : Array Oper) (D : World → Prop) (K : Act → Prop) : List Bool → List Oper → Act → Prop
 | f :: fs, o :: os, a => if f then wpP1 P ops D K fs os a else if Region.wanted o (yielded ops a.tmps) then calm P o a D (wpP1 P ops D K fs os) else wpP1 P ops D K fs os (a.put o.dst undef)
 | _, _, a => K a
def wpP2 (P : Program) (ops : Array Oper) (C : G → World → Prop) (Q : Act → G → Prop) : List Bool → List Oper → Act → G → Prop
 | f :: fs, o :: os, a, g => if f then (if Region.wanted o (yielded ops a.tmps) then actAt P o a C g (wpP2 P ops C Q fs os) else wpP2 P ops C Q fs os (a.put o.dst undef) g) else wpP2 P ops C Q fs os a g
 | _, _, a, g => Q a g
def ordB (md : Region.Mode) (ops : Array Oper) (flags : List Bool) : List Nat → Array Bool → Bool
 | [], listed => (Region.ready md ops listed).isEmpty
 | i :: is, listed => (if flags.getD i false then Region.ready md ops listed == [i] else (Region.ready md ops listed).contains i && Region.free md ops listed i) && ordB md ops flags is (listed.setIfInBounds i true)
def idxs (b : Bool) : List Bool → Nat → List Nat
 | [], _ => []
 | f :: fs, k => if f = b then k :: idxs b fs (k + 1) else idxs b fs (k + 1)
def calmB (ops : Array Oper) (flags : List Bool) : Bool :=
 Region.noSelect ops && flags.length == ops.size && (idxs false flags 0 ++ idxs true flags 0).length == ops.size && ordB .any ops flags (idxs false flags 0 ++ idxs true flags 0) (Array.replicate ops.size false)
theorem wpAnyG_order {flags : List Bool} {Q : Act → G → Prop} (hs : Region.noSelect ops = true) : ∀ (is : List Nat) (listed : Array Bool) (a : Act) (g : G),
  ordB md ops flags is listed = true → (is.foldr (fun i K => gOp P ops D C (fun i => flags.getD i false) i K) Q) a g → wpAnyG P md ops D C (fun i => flags.getD i false) Q is.length listed a g
 | [], _, _, _, hB, h => ⟨by simpa [ordB] using hB, h⟩
 | i :: is, listed, a, g, hB, h => by
  simp only [ordB, Bool.and_eq_true] at hB
  obtain ⟨h1, h2⟩ := hB
  simp only [List.foldr_cons] at h
  by_cases hf : flags.getD i false = true
  ·simp only [hf, if_true, beq_iff_eq] at h1
   refine ⟨fun h0 => (by rw [h0] at h1; cases h1), fun j hj => ?_⟩
   rw [h1] at hj
   obtain rfl := List.mem_singleton.1 hj
   exact gOp_mono (fun a' g' hk => wpAnyG_order hs is _ a' g' h2 hk) h
  ·rw [if_neg hf, Bool.and_eq_true] at h1
   obtain ⟨hr, hfr⟩ := h1
   have hr' : i ∈ Region.ready md ops listed := by simpa using hr
   obtain ⟨_, oi, hoi, _⟩ := mem_ready.1 hr'
   obtain ⟨v, hy, hK⟩ := yieldsC_of_gOp hoi (by simpa using hf) h
   exact wpAnyG_first hoi (by simpa using hf) (Region.noSelect_spec hs) is.length listed a g (Region.free_spec hoi hfr) hr' hy (wpAnyG_order hs is _ _ _ h2 hK)
theorem fold_false {flags : List Bool} {Q : Act → G → Prop} : ∀ (fs : List Bool) (os : List Oper) (k : Nat), (∀ j, fs[j]? = flags[k + j]?) → (∀ j, os[j]? = ops[k + j]?) → fs.length = os.length →
  ∀ (a : Act) (g : G), wpP1 P ops D (fun a => Q a g) fs os a → ((idxs false fs k).foldr (fun i K => gOp P ops D C (fun i => flags.getD i false) i K) Q) a g
 | [], [], _, _, _, _, _, _, h => h
 | f :: fs, o :: os, k, hf, ho, hl, a, g, h => by
  have ho0 : ops[k]? = some o := by simpa using (ho 0).symm
  have hf0 : flags.getD k false = f := by have := hf 0; simp at this; simp [List.getD, ← this]
  have ih := fold_false (Q := Q) (flags := flags) fs os (k + 1) (fun j => by have := hf (j + 1); simpa [Nat.add_assoc, Nat.add_comm 1 j] using this) (fun j => by have := ho (j + 1); simpa [Nat.add_assoc, Nat.add_comm 1 j] using this) (by simpa using hl)
  cases f with
  | true => simp only [idxs, wpP1, Bool.true_eq_false, if_true, if_false] at h ⊢; exact ih a g h
  | false =>
   simp only [idxs, wpP1, if_true, Bool.false_eq_true, if_false] at h ⊢
   simp only [List.foldr_cons]
   unfold gOp
   simp only [ho0, hf0, Bool.false_eq_true, if_false]
   split
   ·rename_i hw; simp only [hw, if_true] at h; exact calm_mono (fun a' hk => ih a' g hk) h
   ·rename_i hw; simp only [hw] at h; exact ih _ _ h
 | [], _ :: _, _, _, _, hl, _, _, _ => by simp at hl
 | _ :: _, [], _, _, _, hl, _, _, _ => by simp at hl
theorem fold_true {flags : List Bool} {Q : Act → G → Prop} : ∀ (fs : List Bool) (os : List Oper) (k : Nat), (∀ j, fs[j]? = flags[k + j]?) → (∀ j, os[j]? = ops[k + j]?) → fs.length = os.length →
  ∀ (a : Act) (g : G), wpP2 P ops C Q fs os a g → ((idxs true fs k).foldr (fun i K => gOp P ops D C (fun i => flags.getD i false) i K) Q) a g
 | [], [], _, _, _, _, _, _, h => h
 | f :: fs, o :: os, k, hf, ho, hl, a, g, h => by
  have ho0 : ops[k]? = some o := by simpa using (ho 0).symm
  have hf0 : flags.getD k false = f := by have := hf 0; simp at this; simp [List.getD, ← this]
  have ih := fold_true (Q := Q) (flags := flags) fs os (k + 1) (fun j => by have := hf (j + 1); simpa [Nat.add_assoc, Nat.add_comm 1 j] using this) (fun j => by have := ho (j + 1); simpa [Nat.add_assoc, Nat.add_comm 1 j] using this) (by simpa using hl)
  cases f with
  | false => simp only [idxs, wpP2, Bool.false_eq_true, if_false] at h ⊢; exact ih a g h
  | true =>
   simp only [idxs, wpP2, if_true] at h ⊢
   simp only [List.foldr_cons]
   unfold gOp
   simp only [ho0, hf0, if_true]
   split
   ·rename_i hw; simp only [hw, if_true] at h; exact actAt_mono (fun a' g' hk => ih a' g' hk) h
   ·rename_i hw; simp only [hw] at h; exact ih _ _ h
 | [], _ :: _, _, _, _, hl, _, _, _ => by simp at hl
 | _ :: _, [], _, _, _, hl, _, _, _ => by simp at hl
theorem wp_region_calm {r : Option Nat} {m id : Nat} {Q : Exit → Act → World → Prop} {a : Act} {w : World} {l : List Oper} (flags : List Bool) (g : G)
  (hm : P.follows .mixedOrders = true) (hB : calmB l.toArray flags = true) (hD : ∀ g w, C g w → D w) (hkeep : ∀ g w w', C g w → Below w.heap.size w w' → C g w') (hC : C g { w with drawn := w.drawn + 1 })
  (h : wpP1 P l.toArray D (fun a1 => wpP2 P l.toArray C (fun a' g' => ∀ w', C g' w' → Q .normal a' w') flags l a1 g) flags l a) : (Code.region id l.toArray true).wpIn (fen r) m P Q a w := by
 simp only [calmB, Bool.and_eq_true, beq_iff_eq] at hB
 obtain ⟨⟨⟨h1, h2⟩, h3⟩, h4⟩ := hB
 refine wpIn_region_any hm (wpAny_of_G (D := D) (C := C) (sp := fun i => flags.getD i false) hD hkeep (Q := fun a' g' => ∀ w', C g' w' → Q .normal a' w') (fun _ _ w' hw' h => h w' hw') r m _ _ _ g _ hC ?_)
 have h5 := wpAnyG_order (P := P) (D := D) (C := C) (Q := fun a' g' => ∀ w', C g' w' → Q .normal a' w') h1 _ _ a g h4
 rw [h3] at h5
 refine h5 ?_
 rw [List.foldr_append]
 refine fold_false flags l 0 (by simp) (by simp) (by simpa using h2) a g ?_
 refine (?_ : ∀ (fs : List Bool) (os : List Oper) (a : Act), wpP1 P l.toArray D (fun a1 => wpP2 P l.toArray C (fun a' g' => ∀ w', C g' w' → Q .normal a' w') flags l a1 g) fs os a → wpP1 P l.toArray D (fun a => (List.foldr (fun i K => gOp P l.toArray D C (fun i => flags.getD i false) i K) (fun a' g' => ∀ w', C g' w' → Q .normal a' w') (idxs true flags 0)) a g) fs os a) flags l a h
 intro fs
 induction fs with
 | nil => intro os a hh; cases os <;> exact fold_true flags l 0 (by simp) (by simp) (by simpa using h2) _ _ hh
 | cons f fs ih =>
  intro os a hh
  cases os with
  | nil => exact fold_true flags l 0 (by simp) (by simp) (by simpa using h2) _ _ hh
  | cons o os =>
   simp only [wpP1] at hh ⊢
   split
   ·rename_i hf; simp only [hf, if_true] at hh; exact ih _ _ hh
   ·rename_i hf
    simp only [hf, Bool.false_eq_true, if_false] at hh
    split
    ·rename_i hw; simp only [hw, if_true] at hh; exact calm_mono (fun a' hk => ih _ _ hk) hh
    ·rename_i hw; simp only [hw, Bool.false_eq_true, if_false] at hh; exact ih _ _ hh
theorem wp_region_go {r : Option Nat} {m id : Nat} {Q : Exit → Act → World → Prop} {a : Act} {w : World} {l : List Oper} (flags : List Bool) (D : World → Prop)
  (hm : P.follows .mixedOrders = true) (hB : calmB l.toArray flags = true) (hDb : ∀ w w', D w → Below w.heap.size w w' → D w') (hD : D { w with drawn := w.drawn + 1 })
  (h : wpP1 P l.toArray D (fun a1 => wpP2 P l.toArray (fun g w' => D g ∧ Below g.heap.size g w') (fun a' g' => ∀ w', D g' ∧ Below g'.heap.size g' w' → Q .normal a' w') flags l a1 { w with drawn := w.drawn + 1 }) flags l a) : (Code.region id l.toArray true).wpIn (fen r) m P Q a w :=
 wp_region_calm flags { w with drawn := w.drawn + 1 } hm hB (fun _ _ ⟨h1, h2⟩ => hDb _ _ h1 h2) (fun _ _ _ ⟨h1, h2⟩ h3 => ⟨h1, h2.trans (h3.mono h2.size)⟩) ⟨hD, Below.refl _ _⟩ h
theorem act_go {o : Oper} {a : Act} {g : World} {D : World → Prop} {K : Act → World → Prop} (hDb : ∀ w w', D w → Below w.heap.size w w' → D w')
  (h : ∀ w, D w → Below g.heap.size g w → actUpon P (fun v w' => D w' ∧ K (a.put o.dst v) w') ((execOp a.eval o).run P w)) : actAt P o a (fun g w' => D g ∧ Below g.heap.size g w') g K :=
 fun w ⟨h1, h2⟩ => actUpon_mono (fun _ w' ⟨h3, h4⟩ => ⟨w', ⟨h3, Below.refl _ _⟩, h4⟩) (h w (hDb _ _ h1 h2) h2)
theorem wpP1_skip {D : World → Prop} {K : Act → Prop} {fs : List Bool} {o : Oper} {os : List Oper} {a : Act} (h : wpP1 P ops D K fs os a) : wpP1 P ops D K (true :: fs) (o :: os) a := by
 simpa [wpP1] using h
theorem wpP1_step {D : World → Prop} {K : Act → Prop} {fs : List Bool} {o : Oper} {os : List Oper} {a : Act}
  (h : ∀ K' : Act → Prop, (∀ a, wpP1 P ops D K fs os a → K' a) → if Region.wanted o (yielded ops a.tmps) then calm P o a D K' else K' (a.put o.dst undef)) : wpP1 P ops D K (false :: fs) (o :: os) a := by
 have := h _ (fun _ h => h)
 simpa [wpP1] using this
theorem wpP1_end {D : World → Prop} {K : Act → Prop} {a : Act} (h : K a) : wpP1 P ops D K [] [] a := by simpa [wpP1] using h
theorem wpP2_skip {C : G → World → Prop} {Q : Act → G → Prop} {fs : List Bool} {o : Oper} {os : List Oper} {a : Act} {g : G} (h : wpP2 P ops C Q fs os a g) : wpP2 P ops C Q (false :: fs) (o :: os) a g := by
 simpa [wpP2] using h
theorem wpP2_end {C : G → World → Prop} {Q : Act → G → Prop} {a : Act} {g : G} (h : Q a g) : wpP2 P ops C Q [] [] a g := by simpa [wpP2] using h
theorem wpP2_step {D : World → Prop} (hDb : ∀ w w', D w → Below w.heap.size w w' → D w') {Q : Act → World → Prop} {fs : List Bool} {o : Oper} {os : List Oper} {a : Act} {g : World}
  (hw : o.guard = none) (h : ∀ w, D w → Below g.heap.size g w → ∀ K : Act → World → Prop, (∀ a w, D w → wpP2 P ops (fun g w' => D g ∧ Below g.heap.size g w') Q fs os a w → K a w) → actUpon P (fun v w' => K (a.put o.dst v) w') ((execOp a.eval o).run P w)) :
  wpP2 P ops (fun g w' => D g ∧ Below g.heap.size g w') Q (true :: fs) (o :: os) a g := by
 have hwt : Region.wanted o (yielded ops a.tmps) = true := by simp [Region.wanted, hw]
 simp only [wpP2, if_true, hwt]
 exact act_go hDb fun w h1 h2 => h w h1 h2 (fun a w => D w ∧ wpP2 P ops (fun g w' => D g ∧ Below g.heap.size g w') Q fs os a w) (fun _ _ hd hk => ⟨hd, hk⟩)
/-! The same, where what is special may come in several orders. -/
def ordC (md : Region.Mode) (ops : Array Oper) : List Nat → Array Bool → Bool
 | [], _ => true
 | i :: is, listed => ((Region.ready md ops listed).contains i && Region.free md ops listed i) && ordC md ops is (listed.setIfInBounds i true)
def afterL : List Nat → Array Bool → Array Bool
 | [], l => l
 | i :: is, l => afterL is (l.setIfInBounds i true)
theorem wpAnyG_calms {flags : List Bool} {Q : Act → G → Prop} (hs : Region.noSelect ops = true) (m : Nat) : ∀ (is : List Nat) (listed : Array Bool) (a : Act) (g : G), (∀ i ∈ is, flags.getD i false = false) →
  ordC md ops is listed = true → (is.foldr (fun i K => gOp P ops D C (fun i => flags.getD i false) i K) (fun a g => wpAnyG P md ops D C (fun i => flags.getD i false) Q m (afterL is listed) a g)) a g → wpAnyG P md ops D C (fun i => flags.getD i false) Q (is.length + m) listed a g
 | [], _, _, _, _, _, h => by rw [List.length_nil, Nat.zero_add]; exact h
 | i :: is, listed, a, g, hf, hB, h => by
  simp only [ordC, Bool.and_eq_true] at hB
  obtain ⟨⟨hr, hfr⟩, h2⟩ := hB
  simp only [List.foldr_cons, afterL] at h
  have hfi := hf i (by simp)
  have hr' : i ∈ Region.ready md ops listed := by simpa using hr
  obtain ⟨_, oi, hoi, _⟩ := mem_ready.1 hr'
  obtain ⟨v, hy, hK⟩ := yieldsC_of_gOp hoi hfi h
  have := wpAnyG_first hoi hfi (Region.noSelect_spec hs) (is.length + m) listed a g (Region.free_spec hoi hfr) hr' hy (wpAnyG_calms hs m is _ _ _ (fun j hj => hf j (by simp [hj])) h2 hK)
  rw [List.length_cons, Nat.add_right_comm]
  exact this
theorem idxs_mem (b : Bool) : ∀ (fs : List Bool) (k i : Nat), i ∈ idxs b fs k → k ≤ i ∧ fs[i - k]? = some b
 | [], _, _, h => by simp [idxs] at h
 | f :: fs, k, i, h => by
  simp only [idxs] at h
  split at h
  ·rename_i hf
   rcases List.mem_cons.1 h with rfl | h
   ·exact ⟨Nat.le_refl _, by simp [hf]⟩
   ·obtain ⟨h1, h2⟩ := idxs_mem b fs (k + 1) i h
    refine ⟨by omega, ?_⟩
    rw [show i - k = (i - (k + 1)) + 1 by omega]
    simpa using h2
  ·obtain ⟨h1, h2⟩ := idxs_mem b fs (k + 1) i h
   refine ⟨by omega, ?_⟩
   rw [show i - k = (i - (k + 1)) + 1 by omega]
   simpa using h2
def floatB (ops : Array Oper) (flags : List Bool) : Bool :=
 Region.noSelect ops && flags.length == ops.size && (idxs false flags 0).length + (idxs true flags 0).length == ops.size && ordC .any ops (idxs false flags 0) (Array.replicate ops.size false)
theorem wp_region_float {r : Option Nat} {m id : Nat} {Q : Exit → Act → World → Prop} {a : Act} {w : World} {l : List Oper} (flags : List Bool) (g : G)
  (hm : P.follows .mixedOrders = true) (hB : floatB l.toArray flags = true) (hD : ∀ g w, C g w → D w) (hkeep : ∀ g w w', C g w → Below w.heap.size w w' → C g w') (hC : C g { w with drawn := w.drawn + 1 })
  (h : wpP1 P l.toArray D (fun a1 => wpAnyG P .any l.toArray D C (fun i => flags.getD i false) (fun a' g' => ∀ w', C g' w' → Q .normal a' w') (idxs true flags 0).length (afterL (idxs false flags 0) (Array.replicate l.toArray.size false)) a1 g) flags l a) : (Code.region id l.toArray true).wpIn (fen r) m P Q a w := by
 simp only [floatB, Bool.and_eq_true, beq_iff_eq] at hB
 obtain ⟨⟨⟨h1, h2⟩, h3⟩, h4⟩ := hB
 refine wpIn_region_any hm (wpAny_of_G (D := D) (C := C) (sp := fun i => flags.getD i false) hD hkeep (Q := fun a' g' => ∀ w', C g' w' → Q .normal a' w') (fun _ _ w' hw' h => h w' hw') r m _ _ _ g _ hC ?_)
 have h5 := wpAnyG_calms (P := P) (D := D) (C := C) (flags := flags) (Q := fun a' g' => ∀ w', C g' w' → Q .normal a' w') h1 (idxs true flags 0).length (idxs false flags 0) _ a g (fun i hi => by
  obtain ⟨_, h⟩ := idxs_mem false flags 0 i hi
  simp only [Nat.sub_zero] at h
  simp [List.getD, h]) h4
 rw [h3] at h5
 refine h5 ?_
 exact fold_false flags l 0 (by simp) (by simp) (by simpa using h2) a g h
end
structure Near (tr : List Nat) (w w' : World) : Prop where
 os : w'.os = w.os
 tape : w'.tape = w.tape
 output : w'.output = w.output
 size : w.heap.size ≤ w'.heap.size
 block : ∀ k, k < w.heap.size → k ∉ tr → w'.heap[k]? = w.heap[k]?
def nr (w : World) (tr : List Nat) (x : World) : World :=
 { heap := (w.heap.mapIdx fun k o => if k ∈ tr then x.heap.getD k o else o) ++ x.heap.extract w.heap.size x.heap.size, tape := w.tape, drawn := x.drawn, os := w.os, output := w.output }
theorem nr_near (w : World) (tr : List Nat) (x : World) : Near tr w (nr w tr x) := by
 refine ⟨rfl, rfl, rfl, by simp [nr], fun k hk hn => ?_⟩
 simp only [nr]
 rw [Array.getElem?_append_left (by simpa using hk)]
 simp [hn]
theorem near_nr {w : World} {tr : List Nat} {w' : World} (h : Near tr w w') : w' = nr w tr w' := by
 have hh : w'.heap = (w.heap.mapIdx fun k o => if k ∈ tr then w'.heap.getD k o else o) ++ w'.heap.extract w.heap.size w'.heap.size := by
  have hs := h.size
  apply Array.ext
  ·simp; omega
  ·intro i h1 h2
   by_cases hi : i < w.heap.size
   ·rw [Array.getElem_append_left (by simpa using hi)]
    simp only [Array.getElem_mapIdx]
    split
    ·simp
    ·rename_i hn
     have := h.block i hi hn
     simpa [h1, hi] using this
   ·rw [Array.getElem_append_right (by simp; omega)]
    simp only [Array.getElem_extract, Array.size_mapIdx]
    congr 1
    omega
 cases w' with
 | mk heap tape drawn os output =>
  obtain ⟨h1, h2, h3, _, _⟩ := h
  simp only at h1 h2 h3 hh
  subst h1 h2 h3
  simp only [nr]
  rw [← hh]
theorem near_below {tr : List Nat} {w w1 w2 : World} (h : Near tr w w1) (hb : Below w1.heap.size w1 w2) : Near tr w w2 :=
 ⟨hb.os.trans h.os, hb.tape.trans h.tape, hb.output.trans h.output, Nat.le_trans h.size hb.size, fun k hk hn => (hb.block k (Nat.lt_of_lt_of_le hk h.size)).trans (h.block k hk hn)⟩
theorem Near.refl (tr : List Nat) (w : World) : Near tr w w := ⟨rfl, rfl, rfl, Nat.le_refl _, fun _ _ _ => rfl⟩
theorem Near.drew' (tr : List Nat) (w : World) (n : Nat) : Near tr w { w with drawn := n } := ⟨rfl, rfl, rfl, Nat.le_refl _, fun _ _ _ => rfl⟩
theorem nr_cell (w : World) (tr : List Nat) (x : World) (b o : Nat) (h : b < w.heap.size) (hn : b ∉ tr) : (nr w tr x).cell? ⟨b, o, none⟩ = w.cell? ⟨b, o, none⟩ :=
 World.cell?_of_block (w := w) ((nr_near w tr x).block b h hn)
theorem nr_frozen (w : World) (tr : List Nat) (x : World) (b o : Nat) (h : b < w.heap.size) (hn : b ∉ tr) : (nr w tr x).frozen? ⟨b, o, none⟩ = w.frozen? ⟨b, o, none⟩ :=
 World.frozen?_of_block (w := w) ((nr_near w tr x).block b h hn)
theorem nr_closed (W : World) (tr : List Nat) : ∀ w w', (∃ x, w = nr W tr x) → Below w.heap.size w w' → ∃ x, w' = nr W tr x := by
 rintro _ w' ⟨x, rfl⟩ hb
 exact ⟨w', near_nr (near_below (nr_near W tr x) hb)⟩
theorem nr_drew (W : World) (tr : List Nat) (n : Nat) : ∃ x, ({ W with drawn := n } : World) = nr W tr x := ⟨_, near_nr (Near.drew' tr W n)⟩
theorem nr_below {W : World} {tr : List Nat} {x w' : World} (hb : Below (nr W tr x).heap.size (nr W tr x) w') : ∃ x, w' = nr W tr x := nr_closed W tr _ _ ⟨x, rfl⟩ hb
theorem call_same {P : Program} {f : FuncId} {args : Array Value} {w : World} {v : Value}
  (h : Calls P f args w fun e w' => e = .returned v ∧ w = w') : Calls P f args w fun e w' => e = .returned v ∧ Below w.heap.size w w' :=
 h.mono fun _ _ ⟨he, hm⟩ => ⟨he, hm ▸ Below.refl _ _⟩
end Go.Proofs.Ytihbikkkmoaljaa
