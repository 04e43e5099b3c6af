/- What the six statements on ramps share: arguments opened, the listed variable, a world for the witness. -/
import Derived.Test.YtgghdejgfihkcaaDoorSxQ
import Derived.Test.YtgghdejgfihkcaaDoorRq
import Derived.Test.YtgghdejgfihkcaaDoorCards
import Derived.Test.YtgghdejgfihkcaaDoorTie
import Derived.WalkKit
import Derived.ProofKit
import Derived.Deep.DeepHandedRow
import Derived.Lib.LaidTab
namespace Go.Proofs.YtgghdejgfihkcaaDoor
open Go.Sx Go.ChangeShapes Go.WideShapes Go.ChangeAt Go.RowKit

theorem own : ownKnob Tryd.prog.godebug = none := by kernel_rfl
theorem laidOut : laidOutB Tryd.prog = true := by kernel_rfl
theorem gHap : Tryd.prog.globalNamed "chargepark/ramp.happens" = some 0 := by kernel_rfl
theorem gHapT : (Tryd.prog.globals[0]?).map (·.type) = some 46 := by kernel_rfl
theorem globs_ok {W : World} (h : laidMetH Tryd.prog [("chargepark/ramp.happens", Rows.laid_chargepark_ramp_happens)] W) : GlOk glR (fun b => b < W.heap.size) W := by
  obtain ⟨h1, h2⟩ := cells_of_head (m := 4) gHap gHapT (by kernel_rfl) (show laidMet Tryd.prog [("chargepark/ramp.happens", Rows.laid_chargepark_ramp_happens)] W from h)
  intro g n f hg
  unfold glR at hg
  split at hg
  · simp only [Option.some.injEq, Prod.mk.injEq] at hg
    obtain ⟨rfl, rfl⟩ := hg
    refine ⟨h2 (by decide), fun j hj => ?_⟩
    rw [h1 j]
    match j, hj with
    | 0, _ => rfl
    | 1, _ => rfl
    | 2, _ => rfl
    | 3, _ => rfl
    | 4, _ => rfl
    | 5, _ => rfl
    | 6, _ => rfl
    | 7, _ => rfl
  · cases hg

theorem ds_length {H : Type} {enc : TypeId × Value → H} {P : Program} {w : World} {base : Nat} {spare : Nat → Bool} {held : Bool} : ∀ {ts : List TypeId} {vs : List Value} {ds : List (DataW H)} {ps : List MemPlace}, DataW.TrodAll enc P w base spare held ts vs ds ps → ds.length = ts.length
  | [], [], [], _, _ => rfl
  | [], _ :: _, _, _, h => by cases h
  | [], [], _ :: _, _, h => by cases h
  | _ :: _, [], _, _, h => by cases h
  | _ :: _, _ :: _, [], _, h => by cases h
  | _ :: _, _ :: _, _ :: _, _, h => by
    obtain ⟨_, _, _, h2, _⟩ := h
    simp [ds_length h2]
abbrev tCh : Ty := .pair .str (.pair (.int .i64) (.pair (.int .i64) (.pair (.int .i64) (.pair (.int .i64) (.pair (.int .i64) (.pair (.int .i64) (.int .i64)))))))
abbrev tRa : Ty := .pair (.int .i64) (.int .i64)

/-- A world for the witness: the settled one, the variable holding what its initialiser lays. -/
noncomputable def laidWorld (os : Os) : World :=
  { World.holding Tryd.prog os ⟨#[], #[], []⟩ with heap := (World.holding Tryd.prog os ⟨#[], #[], []⟩).heap.modify 0 fun
      | .cells _ t frozen => .cells #[.int .i64 1, .int .i64 1, .int .i64 1, .int .i64 0, .int .i64 2, .int .i64 2, .int .i64 3, .int .i64 3] t frozen
      | o => o }
abbrev wCh : Value := .agg #[.string ByteArray.empty, .int .i64 0, .int .i64 0, .int .i64 0, .int .i64 0, .int .i64 0, .int .i64 0, .int .i64 0]
abbrev wRa : Value := .agg #[.int .i64 0, .int .i64 0]
end Go.Proofs.YtgghdejgfihkcaaDoor
