/- What the six statements on ramps share: arguments opened, the listed variable, a world for the witness. -/
import Derived.Test.YtgghdejgfihkcaaDoorSxQ
import Derived.Test.YtgghdejgfihkcaaDoorRh
import Derived.Test.YtgghdejgfihkcaaDoorCards
import Derived.Test.YtgghdejgfihkcaaDoorTie
import Derived.WalkKit
import Derived.ProofKit
import Derived.Deep.DeepHandedRow
import Derived.Lib.LaidTab
namespace Go.Proofs.YtgghdejgfihkcaaDoor
open Go.Sx Go.ChangeShapes Go.WideShapes Go.ChangeAt Go.RowKit

theorem own : ownKnob Tryd.prog.godebug = none := by kernel_rfl
theorem laidOut : laidOutB Tryd.prog = true := by kernel_rfl
theorem gHap : Tryd.prog.globalNamed "chargepark/ramp.happens" = some 0 := by kernel_rfl
theorem gHapT : (Tryd.prog.globals[0]?).map (·.type) = some 46 := by kernel_rfl
theorem globs_ok {W : World} (h : laidMetH Tryd.prog [("chargepark/ramp.happens", Rows.laid_chargepark_ramp_happens)] W) : GlOk glR (fun b => b < W.heap.size) W := by
  obtain ⟨h1, h2⟩ := cells_of_head (m := 4) gHap gHapT (by kernel_rfl) (show laidMet Tryd.prog [("chargepark/ramp.happens", Rows.laid_chargepark_ramp_happens)] W from h)
  intro g n f hg
  unfold glR at hg
  split at hg
  · simp only [Option.some.injEq, Prod.mk.injEq] at hg
    obtain ⟨rfl, rfl⟩ := hg
    refine ⟨h2 (by decide), fun j hj => ?_⟩
    rw [h1 j]
    match j, hj with
    | 0, _ => rfl
    | 1, _ => rfl
    | 2, _ => rfl
    | 3, _ => rfl
    | 4, _ => rfl
    | 5, _ => rfl
    | 6, _ => rfl
    | 7, _ => rfl
  · cases hg

theorem shp_int {l : List LV} {m : Nat} (h : shp Tryd.prog (m + 1) 3 l) : ∃ n, l = [.v (.int .i64 n)] ∧ (Lit.int .i64 n).wf = true := by
  simpa only [shp, Tryd.underlying3] using h
theorem shp_str {l : List LV} {m : Nat} (h : shp Tryd.prog (m + 1) 9 l) : ∃ s : ByteArray, l = [.v (.string s)] ∧ s.size ≤ maxLen := by
  simpa only [shp, Tryd.underlying9] using h
theorem shp_ch {l : List LV} (h : shp Tryd.prog 4 23 l) : ∃ (nm : ByteArray) (at_ ph mn mx st fb ow : Int), l = [.v (.string nm), .v (.int .i64 at_), .v (.int .i64 ph), .v (.int .i64 mn), .v (.int .i64 mx), .v (.int .i64 st), .v (.int .i64 fb), .v (.int .i64 ow)] := by
  have h := shp_struct Tryd.underlying23 h
  simp only [List.map_cons, List.map_nil, fsP] at h
  obtain ⟨_, _, rfl, h0, _, _, rfl, h1, _, _, rfl, h2, _, _, rfl, h3, _, _, rfl, h4, _, _, rfl, h5, _, _, rfl, h6, _, _, rfl, h7, rfl⟩ := h
  obtain ⟨nm, rfl, _⟩ := shp_str h0
  obtain ⟨x1, rfl, _⟩ := shp_int h1
  obtain ⟨x2, rfl, _⟩ := shp_int h2
  obtain ⟨x3, rfl, _⟩ := shp_int h3
  obtain ⟨x4, rfl, _⟩ := shp_int h4
  obtain ⟨x5, rfl, _⟩ := shp_int h5
  obtain ⟨x6, rfl, _⟩ := shp_int h6
  obtain ⟨x7, rfl, _⟩ := shp_int h7
  exact ⟨nm, x1, x2, x3, x4, x5, x6, x7, rfl⟩
theorem shp_ra {l : List LV} (h : shp Tryd.prog 4 25 l) : ∃ (a s : Int), l = [.v (.int .i64 a), .v (.int .i64 s)] := by
  have h := shp_struct Tryd.underlying25 h
  simp only [List.map_cons, List.map_nil, fsP] at h
  obtain ⟨_, _, rfl, h0, _, _, rfl, h1, rfl⟩ := h
  obtain ⟨x0, rfl, _⟩ := shp_int h0
  obtain ⟨x1, rfl, _⟩ := shp_int h1
  exact ⟨x0, x1, rfl⟩

/-- A world for the witness: the settled one, the variable holding what its initialiser lays. -/
noncomputable def laidWorld (os : Os) : World :=
  { World.holding Tryd.prog os ⟨#[], #[], []⟩ with heap := (World.holding Tryd.prog os ⟨#[], #[], []⟩).heap.modify 0 fun
      | .cells _ t frozen => .cells #[.int .i64 1, .int .i64 1, .int .i64 1, .int .i64 0, .int .i64 2, .int .i64 2, .int .i64 3, .int .i64 3] t frozen
      | o => o }
abbrev wCh : Value := .agg #[.string ByteArray.empty, .int .i64 0, .int .i64 0, .int .i64 0, .int .i64 0, .int .i64 0, .int .i64 0, .int .i64 0]
abbrev wRa : Value := .agg #[.int .i64 0, .int .i64 0]
end Go.Proofs.YtgghdejgfihkcaaDoor
