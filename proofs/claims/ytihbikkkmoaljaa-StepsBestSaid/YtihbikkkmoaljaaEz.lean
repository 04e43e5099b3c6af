/- What the seven statements on steps share: arguments opened, a world for the witness. -/
import Derived.Test.YtihbikkkmoaljaaSxQ
import Derived.Test.YtihbikkkmoaljaaEi
import Derived.WalkKit
import Derived.ProofKit
import Derived.Deep.DeepHandedRow
import Derived.Lib.LaidTab
namespace Go.Proofs.Ytihbikkkmoaljaa
open Go.Sx Go.ChangeShapes Go.WideShapes Go.ChangeAt Go.RowKit
theorem own : ownKnob Try.prog.godebug = none := by kernel_rfl
theorem laidOut : laidOutB Try.prog = true := by kernel_rfl
theorem globs_ok {W : World} (_ : laidMetH Try.prog [] W) : GlOk noGlobs (fun b => b < W.heap.size) W := fun g n f hg => by cases hg
theorem ds_length {H : Type} {enc : TypeId × Value → H} {P : Program} {w : World} {base : Nat} {spare : Nat → Bool} {held : Bool} : ∀ {ts : List TypeId} {vs : List Value} {ds : List (DataW H)} {ps : List MemPlace}, DataW.TrodAll enc P w base spare held ts vs ds ps → ds.length = ts.length
 | [], [], [], _, _ => rfl
 | [], _ :: _, _, _, h => by cases h
 | [], [], _ :: _, _, h => by cases h
 | _ :: _, [], _, _, h => by cases h
 | _ :: _, _ :: _, [], _, h => by cases h
 | _ :: _, _ :: _, _ :: _, _, h => by
  obtain ⟨_, _, _, h2, _⟩ := h
  simp [ds_length h2]
noncomputable def laidWorld (os : Os) : World := World.holding Try.prog os ⟨#[], #[], []⟩
theorem wf_u32 {d : (Ty.int .u32).D} (h : wfD (.int .u32) d) : (0 : Int) ≤ d ∧ d ≤ (4294967295 : Int) := by
 simp only [wfD, Lit.wf] at h
 simp only [Bool.and_eq_true] at h
 exact ⟨of_decide_eq_true h.1, of_decide_eq_true h.2⟩
theorem wf_u8 {d : (Ty.int .u8).D} (h : wfD (.int .u8) d) : (0 : Int) ≤ d ∧ d ≤ (255 : Int) := by
 simp only [wfD, Lit.wf] at h
 simp only [Bool.and_eq_true] at h
 exact ⟨of_decide_eq_true h.1, of_decide_eq_true h.2⟩
theorem wf_i64 {d : (Ty.int .i64).D} (h : wfD (.int .i64) d) : d ≤ (9223372036854775807 : Int) := by
 simp only [wfD, Lit.wf] at h
 simp only [Bool.and_eq_true] at h
 exact of_decide_eq_true h.2
theorem wf_site {cs : List Cd} {os : List ByteArray} {ks : List Ko} {gs : List Ch} {bs : List Ba} (h1 : wfD (.sl tCd) cs) (h2 : wfD (.sl .str) os) (h3 : wfD (.sl tKo) ks) (h4 : wfD (.sl tCh) gs) (h5 : wfD (.sl tBa) bs) : nmR (nmsOf cs os ks gs bs) := by
 intro w hw
 have key : ∀ n : Nat, n ≤ maxLen → (n : Int) ≤ 9223372036854775807 := fun n h => by
  unfold maxLen at h
  omega
 refine key _ ?_
 unfold nmsOf at hw
 simp only [List.mem_append, List.mem_map] at hw
 rcases hw with (((⟨x, hx, rfl⟩ | hx) | ⟨x, hx, rfl⟩) | ⟨x, hx, rfl⟩) | ⟨x, hx, rfl⟩
 ·exact (h1.2 x hx).1
 ·exact h2.2 w hx
 ·exact (h3.2 x hx).1
 ·exact (h4.2 x hx).1
 ·exact (h5.2 x hx).1
end Go.Proofs.Ytihbikkkmoaljaa
