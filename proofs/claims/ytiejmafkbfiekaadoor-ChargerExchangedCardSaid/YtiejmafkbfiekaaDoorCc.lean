/- What the seven statements on chargers share: arguments opened, the listed variable, a world for the witness. -/
import Derived.Test.YtiejmafkbfiekaaDoorSxQ
import Derived.Test.YtiejmafkbfiekaaDoorCq
import Derived.Test.YtiejmafkbfiekaaDoorCards
import Derived.Test.YtiejmafkbfiekaaDoorTie
import Derived.WalkKit
import Derived.ProofKit
import Derived.Deep.DeepHandedRow
import Derived.Lib.LaidTab
namespace Go.Proofs.YtiejmafkbfiekaaDoor
open Go.Sx Go.ChangeShapes Go.WideShapes Go.ChangeAt Go.RowKit

theorem own : ownKnob Tryd.prog.godebug = none := by kernel_rfl
theorem laidOut : laidOutB Tryd.prog = true := by kernel_rfl
theorem gAft : Tryd.prog.globalNamed "chargepark/charger.afterwards" = some 0 := by kernel_rfl
theorem gAftT : (Tryd.prog.globals[0]?).map (·.type) = some 46 := by kernel_rfl
theorem globs_ok {W : World} (h : laidMetH Tryd.prog [("chargepark/charger.afterwards", Rows.laid_chargepark_charger_afterwards)] W) : GlOk glC (fun b => b < W.heap.size) W := by
  obtain ⟨h1, h2⟩ := cells_of_head (m := 4) gAft gAftT (by kernel_rfl) (show laidMet Tryd.prog [("chargepark/charger.afterwards", Rows.laid_chargepark_charger_afterwards)] W from h)
  intro g n f hg
  unfold glC at hg
  split at hg
  · simp only [Option.some.injEq, Prod.mk.injEq] at hg
    obtain ⟨rfl, rfl⟩ := hg
    refine ⟨h2 (by intro h0; exact absurd (congrArg List.length h0) (by decide)), fun j hj => ?_⟩
    rw [h1 j]
    have key : flatD (H := Unit) 4 Rows.laid_chargepark_charger_afterwards = (List.range 60).map (fun j => Value.int .i64 (aftT j)) := by kernel_rfl
    rw [key, List.getElem?_map, List.getElem?_range hj]
    rfl
  · cases hg

theorem ds_length {H : Type} {enc : TypeId × Value → H} {P : Program} {w : World} {base : Nat} {spare : Nat → Bool} {held : Bool} : ∀ {ts : List TypeId} {vs : List Value} {ds : List (DataW H)} {ps : List MemPlace}, DataW.TrodAll enc P w base spare held ts vs ds ps → ds.length = ts.length
  | [], [], [], _, _ => rfl
  | [], _ :: _, _, _, h => by cases h
  | [], [], _ :: _, _, h => by cases h
  | _ :: _, [], _, _, h => by cases h
  | _ :: _, _ :: _, [], _, h => by cases h
  | _ :: _, _ :: _, _ :: _, _, h => by
    obtain ⟨_, _, _, h2, _⟩ := h
    simp [ds_length h2]
abbrev tCh : Ty := .pair .str (.pair (.int .i64) (.pair (.int .i64) (.pair (.int .i64) (.pair (.int .i64) (.pair (.int .i64) (.pair (.int .i64) (.int .i64)))))))
abbrev tSt : Ty := .pair (.int .i64) (.pair (.int .i64) (.pair (.int .i64) .bool))

/-- A world for the witness: the settled one, the variable holding what its initialiser lays. -/
noncomputable def laidWorld (os : Os) : World :=
  { World.holding Tryd.prog os ⟨#[], #[], []⟩ with heap := (World.holding Tryd.prog os ⟨#[], #[], []⟩).heap.modify 0 fun
      | .cells _ t frozen => .cells #[.int .i64 (-1), .int .i64 (-1), .int .i64 (-1), .int .i64 (-1), .int .i64 (-1), .int .i64 (-1), .int .i64 (1), .int .i64 (-1), .int .i64 (-1), .int .i64 (-1), .int .i64 (-1), .int .i64 (-1), .int .i64 (-1), .int .i64 (0), .int .i64 (-1), .int .i64 (-1), .int .i64 (-1), .int .i64 (-3), .int .i64 (-1), .int .i64 (2), .int .i64 (-1), .int .i64 (-1), .int .i64 (-1), .int .i64 (-1), .int .i64 (-1), .int .i64 (-1), .int .i64 (-3), .int .i64 (-1), .int .i64 (-1), .int .i64 (-1), .int .i64 (-1), .int .i64 (-1), .int .i64 (-1), .int .i64 (4), .int .i64 (-1), .int .i64 (-1), .int .i64 (-1), .int .i64 (-1), .int .i64 (-1), .int .i64 (-1), .int .i64 (-3), .int .i64 (-1), .int .i64 (-2), .int .i64 (-2), .int .i64 (-2), .int .i64 (-2), .int .i64 (-2), .int .i64 (-2), .int .i64 (-2), .int .i64 (-2), .int .i64 (-2), .int .i64 (-2), .int .i64 (-2), .int .i64 (-2), .int .i64 (0), .int .i64 (1), .int .i64 (1), .int .i64 (1), .int .i64 (1), .int .i64 (-3)] t frozen
      | o => o }
abbrev wCh : Value := .agg #[.string ByteArray.empty, .int .i64 0, .int .i64 0, .int .i64 0, .int .i64 0, .int .i64 0, .int .i64 0, .int .i64 0]
abbrev wSt : Value := .agg #[.int .i64 0, .int .i64 0, .int .i64 0, .bool false]
abbrev wEv : Value := .agg #[.int .i64 0, .int .i64 0, .int .i64 0]
end Go.Proofs.YtiejmafkbfiekaaDoor
