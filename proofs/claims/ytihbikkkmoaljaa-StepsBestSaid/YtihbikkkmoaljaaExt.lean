/- Worlds that extend a world; drawn regions walked once in the order of the text, where the callees may make memory. -/
import Derived.WalkKit
import Derived.WalkSpells
import Derived.WalkLawsBesides
import Derived.Deep.QuietTactic
import Derived.BigQuiet
import Derived.Deep.RegionHeld3
import Derived.Deep.DrawnRows
import Derived.Deep.DeepCutAuto
namespace Go.Proofs.Ytihbikkkmoaljaa
open Go.RowKit
theorem hide {p : Prop} (h : p) : Hid p := h
theorem ret_bool {a b : Bool} (h : a = b) : Ending.returned (.bool a) = .returned (.bool b) := by rw [h]
theorem ret_int {k : IntKind} {a b : Int} (h : a = b) : Ending.returned (.int k a) = .returned (.int k b) := by rw [h]
theorem bcell {W w1 : World} (hb : Below W.heap.size W w1) : (∀ b o, b < W.heap.size → w1.cell? ⟨b, o, none⟩ = W.cell? ⟨b, o, none⟩) ∧ (∀ b o, b < W.heap.size → w1.frozen? ⟨b, o, none⟩ = W.frozen? ⟨b, o, none⟩) :=
 ⟨fun b o h => hb.cell (p := ⟨b, o, none⟩) h, fun b o h => hb.frozen (p := ⟨b, o, none⟩) h⟩
structure More where
 g : Array Obj
 d : Nat
instance : Inhabited More := ⟨⟨#[], 0⟩⟩
def xt (w : World) (x : More) : World := { w with heap := w.heap ++ x.g, drawn := x.d }
theorem xt_size (w : World) (x : More) : (xt w x).heap.size = w.heap.size + x.g.size := by simp [xt]
theorem xt_le (w : World) (x : More) : w.heap.size ≤ (xt w x).heap.size := by simp [xt]
theorem below_xt (w : World) (x : More) : Below w.heap.size w (xt w x) :=
 ⟨rfl, rfl, rfl, xt_le w x, fun k hk => by simp only [xt]; rw [Array.getElem?_append_left hk]⟩
theorem xt_of_below {w w' : World} (h : Below w.heap.size w w') : ∃ x, w' = xt w x := by
 refine ⟨⟨w'.heap.extract w.heap.size w'.heap.size, w'.drawn⟩, ?_⟩
 have hh : w'.heap = w.heap ++ w'.heap.extract w.heap.size w'.heap.size := by
  have hs := h.size
  apply Array.ext
  ·simp; omega
  ·intro i h1 h2
   by_cases hi : i < w.heap.size
   ·have := h.block i hi
    rw [Array.getElem_append_left hi]
    simpa [h1, hi] using this
   ·rw [Array.getElem_append_right (by omega)]
    simp only [Array.getElem_extract]
    congr 1
    omega
 cases w' with
 | mk heap tape drawn os output =>
  cases w with
  | mk heap0 tape0 drawn0 os0 output0 =>
   obtain ⟨h1, h2, h3, _, _⟩ := h
   simp only at h1 h2 h3 hh
   subst h1 h2 h3
   simp only [xt]
   rw [← hh]
theorem xt_cell (w : World) (x : More) (b o : Nat) (h : b < w.heap.size) : (xt w x).cell? ⟨b, o, none⟩ = w.cell? ⟨b, o, none⟩ := (below_xt w x).cell (p := ⟨b, o, none⟩) h
theorem xt_frozen (w : World) (x : More) (b o : Nat) (h : b < w.heap.size) : (xt w x).frozen? ⟨b, o, none⟩ = w.frozen? ⟨b, o, none⟩ := (below_xt w x).frozen (p := ⟨b, o, none⟩) h
theorem lt_plus (a b c : Nat) (h : a < b) : a < b + c := Nat.lt_add_right c h
theorem ne_plus (a b c : Nat) (h : a < b) : (a = b + c) = False := eq_false (by omega)
theorem ne_plus' (a b c : Nat) (h : a < b) : (b + c = a) = False := eq_false (by omega)
theorem wp_region_x {P : Program} {id : Nat} {Q : Exit → Act → World → Prop} {a : Act} {w : World} {l : List Oper} (hm : P.follows .mixedOrders = true) (hB : Region.lexB .any l.toArray = true)
  (h : wpQuiet P l.toArray (fun w' => ∃ x, w' = xt w x) (fun a' => ∀ w', (∃ x, w' = xt w x) → Q .normal a' w') l a) : (Code.region id l.toArray true).wp P Q a w :=
 wp_region_quiet (C := fun w' => ∃ x, w' = xt w x) hm hB ⟨⟨#[], w.drawn + 1⟩, by simp [xt]⟩ (by simpa using h)
theorem below_of {w w' : World} (h : ∃ x, w' = xt w x) : Below w.heap.size w w' := by obtain ⟨x, rfl⟩ := h; exact below_xt w x
theorem xt_xt (w : World) (x y : More) : xt (xt w x) y = xt w ⟨x.g ++ y.g, y.d⟩ := by simp [xt, Array.append_assoc]
theorem callx {P : Program} {f : FuncId} {args : Array Value} {w : World} {x : More} {v : Value}
  (h : Calls P f args (xt w x) fun e w' => e = .returned v ∧ Below (xt w x).heap.size (xt w x) w') : Calls P f args (xt w x) fun e w'' => e = .returned v ∧ ∃ y, w'' = xt w y :=
 h.mono fun _ _ ⟨he, hm⟩ => ⟨he, by obtain ⟨y, rfl⟩ := xt_of_below hm; exact ⟨_, xt_xt _ _ _⟩⟩
theorem callx_same {P : Program} {f : FuncId} {args : Array Value} {w : World} {x : More} {v : Value}
  (h : Calls P f args (xt w x) fun e w' => e = .returned v ∧ xt w x = w') : Calls P f args (xt w x) fun e w'' => e = .returned v ∧ ∃ y, w'' = xt w y :=
 h.mono fun _ _ ⟨he, hm⟩ => ⟨he, x, hm.symm⟩
end Go.Proofs.Ytihbikkkmoaljaa
