/- What the seven statements on cars share: arguments opened, a world for the witness. -/
import Derived.Test.YtakkjfldfghfcaaSxQ
import Derived.Test.YtakkjfldfghfcaaAq
import Derived.WalkKit
import Derived.ProofKit
import Derived.Deep.DeepHandedRow
import Derived.Lib.LaidTab
namespace Go.Proofs.Ytakkjfldfghfcaa
open Go.Sx Go.ChangeShapes Go.WideShapes Go.ChangeAt Go.RowKit

theorem own : ownKnob Try.prog.godebug = none := by kernel_rfl
theorem laidOut : laidOutB Try.prog = true := by kernel_rfl
theorem globs_ok {W : World} (_ : laidMetH Try.prog [] W) : GlOk noGlobs (fun b => b < W.heap.size) W := fun g n f hg => by cases hg

theorem ds_length {H : Type} {enc : TypeId × Value → H} {P : Program} {w : World} {base : Nat} {spare : Nat → Bool} {held : Bool} : ∀ {ts : List TypeId} {vs : List Value} {ds : List (DataW H)} {ps : List MemPlace}, DataW.TrodAll enc P w base spare held ts vs ds ps → ds.length = ts.length
  | [], [], [], _, _ => rfl
  | [], _ :: _, _, _, h => by cases h
  | [], [], _ :: _, _, h => by cases h
  | _ :: _, [], _, _, h => by cases h
  | _ :: _, _ :: _, [], _, h => by cases h
  | _ :: _, _ :: _, _ :: _, _, h => by
    obtain ⟨_, _, _, h2, _⟩ := h
    simp [ds_length h2]
abbrev tCar : Ty := .pair (.int .i64) (.pair (.int .i64) (.pair (.int .i64) (.pair (.int .i64) (.int .i64))))
abbrev tSt : Ty := .pair (.sl (.int .i64)) (.pair (.int .i64) (.int .i64))
/-- A world for the witness: the settled one. -/
noncomputable def laidWorld (os : Os) : World := World.holding Try.prog os ⟨#[], #[], []⟩
abbrev wCar : Value := .agg #[.int .i64 0, .int .i64 0, .int .i64 0, .int .i64 0, .int .i64 0]
abbrev wSt : Value := .agg #[.slice none 0 0, .int .i64 0, .int .i64 0]
end Go.Proofs.Ytakkjfldfghfcaa
