/-
  No cell of these rows narrows 'for every input' (looked for: loops, veiled, ifaces, maps, wideKeys, modest, calm, conditions, laid).
  DERIVED. THE GIVEN ROWS OF THIS SEAT. 7 by the template 'for every input the law returns true; each argument reads behind the call as it read before'; 0 by the template 'total and deterministic' (their statements: YtihbikkkmoaljaaTotals.lean).
  GIVEN WITH THE SEED: the statements are not yours to turn. If you find one false, say at which input.
  Laid BY PROGRAM, IN A SANDBOX (cutbox-rows.mjs): the forced cells as the released guide's own fill.sh prints them over the translation 641f294b8deef531… (all of the seat's roots in one cut). By AI agents, Wed Nov 11 2026. No macro, syntax, notation, axiom, sorry.
-/
import Derived.Test.YtihbikkkmoaljaaChecked
import GoSem.Claim
import GoSem.ClaimJoined
import GoSem.ClaimMapViews
import Derived.JoinedTies
import Derived.KernelRfl
namespace Go.Proofs.Ytihbikkkmoaljaa
/- THE CELL 'sum', in the pinned program and in every row, IS THE sha256 OF THE DUMP (.gsa) THAT YtihbikkkmoaljaaProg.lean LOADS. Nothing in Lean hashes anything: it is a label: what it is worth is what the hold of that sum in a sandbox is worth. -/
noncomputable def Try.pinned : Pinned := { name := "ytihbikkkmoaljaa", sum := "641f294b8deef5318169d2b11d02d88b5ae6c4a62caf2cef2c675b8022bccf5a", checked := Try.checked }
namespace Rows
def none {H : Type} : Left H := { results := [], args := [] }

/-- 'chargeparklaw23.StepsMatchesReference': WHATEVER THE INPUT: true; the input reads as it did. -/
def stepsMatchesReferenceSpec : ChangeSpec := { name := "stepsMatchesReference", fn := fun _ => fun
  | [d1, d2, d3, d4, d5, d6] => { results := [.lit (.bool true)], args := [d1, d2, d3, d4, d5, d6] }
  | _ => none }
def stepsMatchesReferenceRow : OpenClaim := { program := "ytihbikkkmoaljaa", sum := "641f294b8deef5318169d2b11d02d88b5ae6c4a62caf2cef2c675b8022bccf5a", func := "chargepark/chargeparklaw23.StepsMatchesReference", spec := "stepsMatchesReference", unfollowed := true, recurses := true, apart := false }
def StepsMatchesReferenceSaid : Prop := stepsMatchesReferenceRow.holds Try.pinned (OpenSpec.ofChange stepsMatchesReferenceSpec)

/-- ITS FALSE NEIGHBOUR: 'it returns false'. Refute it at one input. -/
def stepsMatchesReferenceWrong : ChangeSpec := { name := "stepsMatchesReference", fn := fun _ => fun
  | [d1, d2, d3, d4, d5, d6] => { results := [.lit (.bool false)], args := [d1, d2, d3, d4, d5, d6] }
  | _ => none }
def StepsMatchesReferenceWrongFalsely : Prop := stepsMatchesReferenceRow.holds Try.pinned (OpenSpec.ofChange stepsMatchesReferenceWrong)

/-- 'chargeparklaw23.StepsLevels': WHATEVER THE INPUT: true; the input reads as it did. -/
def stepsLevelsSpec : ChangeSpec := { name := "stepsLevels", fn := fun _ => fun
  | [d1, d2] => { results := [.lit (.bool true)], args := [d1, d2] }
  | _ => none }
def stepsLevelsRow : OpenClaim := { program := "ytihbikkkmoaljaa", sum := "641f294b8deef5318169d2b11d02d88b5ae6c4a62caf2cef2c675b8022bccf5a", func := "chargepark/chargeparklaw23.StepsLevels", spec := "stepsLevels", unfollowed := true, recurses := true, apart := false }
def StepsLevelsSaid : Prop := stepsLevelsRow.holds Try.pinned (OpenSpec.ofChange stepsLevelsSpec)

/-- ITS FALSE NEIGHBOUR: 'it returns false'. Refute it at one input. -/
def stepsLevelsWrong : ChangeSpec := { name := "stepsLevels", fn := fun _ => fun
  | [d1, d2] => { results := [.lit (.bool false)], args := [d1, d2] }
  | _ => none }
def StepsLevelsWrongFalsely : Prop := stepsLevelsRow.holds Try.pinned (OpenSpec.ofChange stepsLevelsWrong)

/-- 'chargeparklaw23.StepsPermitted': WHATEVER THE INPUT: true; the input reads as it did. -/
def stepsPermittedSpec : ChangeSpec := { name := "stepsPermitted", fn := fun _ => fun
  | [d1, d2, d3, d4] => { results := [.lit (.bool true)], args := [d1, d2, d3, d4] }
  | _ => none }
def stepsPermittedRow : OpenClaim := { program := "ytihbikkkmoaljaa", sum := "641f294b8deef5318169d2b11d02d88b5ae6c4a62caf2cef2c675b8022bccf5a", func := "chargepark/chargeparklaw23.StepsPermitted", spec := "stepsPermitted", unfollowed := true, recurses := true, apart := false }
def StepsPermittedSaid : Prop := stepsPermittedRow.holds Try.pinned (OpenSpec.ofChange stepsPermittedSpec)

/-- ITS FALSE NEIGHBOUR: 'it returns false'. Refute it at one input. -/
def stepsPermittedWrong : ChangeSpec := { name := "stepsPermitted", fn := fun _ => fun
  | [d1, d2, d3, d4] => { results := [.lit (.bool false)], args := [d1, d2, d3, d4] }
  | _ => none }
def StepsPermittedWrongFalsely : Prop := stepsPermittedRow.holds Try.pinned (OpenSpec.ofChange stepsPermittedWrong)

/-- 'chargeparklaw23.StepsBest': WHATEVER THE INPUT: true; the input reads as it did. -/
def stepsBestSpec : ChangeSpec := { name := "stepsBest", fn := fun _ => fun
  | [d1, d2, d3, d4, d5] => { results := [.lit (.bool true)], args := [d1, d2, d3, d4, d5] }
  | _ => none }
def stepsBestRow : OpenClaim := { program := "ytihbikkkmoaljaa", sum := "641f294b8deef5318169d2b11d02d88b5ae6c4a62caf2cef2c675b8022bccf5a", func := "chargepark/chargeparklaw23.StepsBest", spec := "stepsBest", unfollowed := true, recurses := true, apart := false }
def StepsBestSaid : Prop := stepsBestRow.holds Try.pinned (OpenSpec.ofChange stepsBestSpec)

/-- ITS FALSE NEIGHBOUR: 'it returns false'. Refute it at one input. -/
def stepsBestWrong : ChangeSpec := { name := "stepsBest", fn := fun _ => fun
  | [d1, d2, d3, d4, d5] => { results := [.lit (.bool false)], args := [d1, d2, d3, d4, d5] }
  | _ => none }
def StepsBestWrongFalsely : Prop := stepsBestRow.holds Try.pinned (OpenSpec.ofChange stepsBestWrong)

/-- 'chargeparklaw23.StepsEnough': WHATEVER THE INPUT: true; the input reads as it did. -/
def stepsEnoughSpec : ChangeSpec := { name := "stepsEnough", fn := fun _ => fun
  | [d1, d2, d3, d4] => { results := [.lit (.bool true)], args := [d1, d2, d3, d4] }
  | _ => none }
def stepsEnoughRow : OpenClaim := { program := "ytihbikkkmoaljaa", sum := "641f294b8deef5318169d2b11d02d88b5ae6c4a62caf2cef2c675b8022bccf5a", func := "chargepark/chargeparklaw23.StepsEnough", spec := "stepsEnough", unfollowed := true, recurses := true, apart := false }
def StepsEnoughSaid : Prop := stepsEnoughRow.holds Try.pinned (OpenSpec.ofChange stepsEnoughSpec)

/-- ITS FALSE NEIGHBOUR: 'it returns false'. Refute it at one input. -/
def stepsEnoughWrong : ChangeSpec := { name := "stepsEnough", fn := fun _ => fun
  | [d1, d2, d3, d4] => { results := [.lit (.bool false)], args := [d1, d2, d3, d4] }
  | _ => none }
def StepsEnoughWrongFalsely : Prop := stepsEnoughRow.holds Try.pinned (OpenSpec.ofChange stepsEnoughWrong)

/-- 'chargeparklaw23.StepsEquals': WHATEVER THE INPUT: true; the input reads as it did. -/
def stepsEqualsSpec : ChangeSpec := { name := "stepsEquals", fn := fun _ => fun
  | [d1, d2, d3, d4] => { results := [.lit (.bool true)], args := [d1, d2, d3, d4] }
  | _ => none }
def stepsEqualsRow : OpenClaim := { program := "ytihbikkkmoaljaa", sum := "641f294b8deef5318169d2b11d02d88b5ae6c4a62caf2cef2c675b8022bccf5a", func := "chargepark/chargeparklaw23.StepsEquals", spec := "stepsEquals", unfollowed := true, recurses := true, apart := false }
def StepsEqualsSaid : Prop := stepsEqualsRow.holds Try.pinned (OpenSpec.ofChange stepsEqualsSpec)

/-- ITS FALSE NEIGHBOUR: 'it returns false'. Refute it at one input. -/
def stepsEqualsWrong : ChangeSpec := { name := "stepsEquals", fn := fun _ => fun
  | [d1, d2, d3, d4] => { results := [.lit (.bool false)], args := [d1, d2, d3, d4] }
  | _ => none }
def StepsEqualsWrongFalsely : Prop := stepsEqualsRow.holds Try.pinned (OpenSpec.ofChange stepsEqualsWrong)

/-- 'chargeparklaw23.StepsNothingLeft': WHATEVER THE INPUT: true; the input reads as it did. -/
def stepsNothingLeftSpec : ChangeSpec := { name := "stepsNothingLeft", fn := fun _ => fun
  | [d1, d2, d3, d4] => { results := [.lit (.bool true)], args := [d1, d2, d3, d4] }
  | _ => none }
def stepsNothingLeftRow : OpenClaim := { program := "ytihbikkkmoaljaa", sum := "641f294b8deef5318169d2b11d02d88b5ae6c4a62caf2cef2c675b8022bccf5a", func := "chargepark/chargeparklaw23.StepsNothingLeft", spec := "stepsNothingLeft", unfollowed := true, recurses := true, apart := false }
def StepsNothingLeftSaid : Prop := stepsNothingLeftRow.holds Try.pinned (OpenSpec.ofChange stepsNothingLeftSpec)

/-- ITS FALSE NEIGHBOUR: 'it returns false'. Refute it at one input. -/
def stepsNothingLeftWrong : ChangeSpec := { name := "stepsNothingLeft", fn := fun _ => fun
  | [d1, d2, d3, d4] => { results := [.lit (.bool false)], args := [d1, d2, d3, d4] }
  | _ => none }
def StepsNothingLeftWrongFalsely : Prop := stepsNothingLeftRow.holds Try.pinned (OpenSpec.ofChange stepsNothingLeftWrong)

/- THE SECOND FORM. 'bulk': how many values and letters a reading holds, each counted each time it is reached (what is shared counts as often as it is met; a slice's spare places count too). A statement '..UptoSaid' is the law's where the arguments, and the package variables that the reading takes, are together of bulk at most 1048576: NARROWER than '..Said'. Prove '..Said' where nothing that the law and all that it calls make is longer than what came in: it says more and counts as full. Else prove '..UptoSaid'. A law counts once. -/
mutual
def uptoBulk {H : Type} : DataW H → Nat
  | .lit (.string bytes) => bytes.length + 1
  | .lit _ => 1
  | .nil => 1
  | .ptr d => uptoBulk d + 1
  | .slice elems spare => uptoBulkAll elems + uptoBulkAll spare + 1
  | .agg parts => uptoBulkAll parts + 1
  | .iface _ d => uptoBulk d + 1
  | .map entries => uptoBulkEntries entries + 1
  | .held _ => 1
def uptoBulkAll {H : Type} : List (DataW H) → Nat
  | [] => 0
  | d :: r => uptoBulk d + uptoBulkAll r
def uptoBulkEntries {H : Type} : List (Lit × DataW H) → Nat
  | [] => 0
  | x :: r => uptoBulkEntry x + uptoBulkEntries r
def uptoBulkEntry {H : Type} : Lit × DataW H → Nat
  | (.string bytes, d) => bytes.length + uptoBulk d + 1
  | (_, d) => uptoBulk d + 1
 end
def uptoSmall : (H : Type) → List (DataW H) → Bool := fun _ ds => decide (uptoBulkAll ds ≤ 1048576)
def OpenSpec.upto (s : _root_.Go.ChangeSpec) : _root_.Go.OpenSpec := { _root_.Go.OpenSpec.ofChange s with cond := some uptoSmall }

/-- 'chargeparklaw23.StepsMatchesReference', WHERE WHAT IT READS IS OF BULK AT MOST 1048576: true; the input reads as it did. -/
def stepsMatchesReferenceUptoRow : OpenClaim := { program := "ytihbikkkmoaljaa", sum := "641f294b8deef5318169d2b11d02d88b5ae6c4a62caf2cef2c675b8022bccf5a", func := "chargepark/chargeparklaw23.StepsMatchesReference", spec := "stepsMatchesReference", unfollowed := true, recurses := true, apart := false, narrowed := true }
def StepsMatchesReferenceUptoSaid : Prop := stepsMatchesReferenceUptoRow.holds Try.pinned (OpenSpec.upto stepsMatchesReferenceSpec)

/-- 'chargeparklaw23.StepsLevels', WHERE WHAT IT READS IS OF BULK AT MOST 1048576: true; the input reads as it did. -/
def stepsLevelsUptoRow : OpenClaim := { program := "ytihbikkkmoaljaa", sum := "641f294b8deef5318169d2b11d02d88b5ae6c4a62caf2cef2c675b8022bccf5a", func := "chargepark/chargeparklaw23.StepsLevels", spec := "stepsLevels", unfollowed := true, recurses := true, apart := false, narrowed := true }
def StepsLevelsUptoSaid : Prop := stepsLevelsUptoRow.holds Try.pinned (OpenSpec.upto stepsLevelsSpec)

/-- 'chargeparklaw23.StepsPermitted', WHERE WHAT IT READS IS OF BULK AT MOST 1048576: true; the input reads as it did. -/
def stepsPermittedUptoRow : OpenClaim := { program := "ytihbikkkmoaljaa", sum := "641f294b8deef5318169d2b11d02d88b5ae6c4a62caf2cef2c675b8022bccf5a", func := "chargepark/chargeparklaw23.StepsPermitted", spec := "stepsPermitted", unfollowed := true, recurses := true, apart := false, narrowed := true }
def StepsPermittedUptoSaid : Prop := stepsPermittedUptoRow.holds Try.pinned (OpenSpec.upto stepsPermittedSpec)

/-- 'chargeparklaw23.StepsBest', WHERE WHAT IT READS IS OF BULK AT MOST 1048576: true; the input reads as it did. -/
def stepsBestUptoRow : OpenClaim := { program := "ytihbikkkmoaljaa", sum := "641f294b8deef5318169d2b11d02d88b5ae6c4a62caf2cef2c675b8022bccf5a", func := "chargepark/chargeparklaw23.StepsBest", spec := "stepsBest", unfollowed := true, recurses := true, apart := false, narrowed := true }
def StepsBestUptoSaid : Prop := stepsBestUptoRow.holds Try.pinned (OpenSpec.upto stepsBestSpec)

/-- 'chargeparklaw23.StepsEnough', WHERE WHAT IT READS IS OF BULK AT MOST 1048576: true; the input reads as it did. -/
def stepsEnoughUptoRow : OpenClaim := { program := "ytihbikkkmoaljaa", sum := "641f294b8deef5318169d2b11d02d88b5ae6c4a62caf2cef2c675b8022bccf5a", func := "chargepark/chargeparklaw23.StepsEnough", spec := "stepsEnough", unfollowed := true, recurses := true, apart := false, narrowed := true }
def StepsEnoughUptoSaid : Prop := stepsEnoughUptoRow.holds Try.pinned (OpenSpec.upto stepsEnoughSpec)

/-- 'chargeparklaw23.StepsEquals', WHERE WHAT IT READS IS OF BULK AT MOST 1048576: true; the input reads as it did. -/
def stepsEqualsUptoRow : OpenClaim := { program := "ytihbikkkmoaljaa", sum := "641f294b8deef5318169d2b11d02d88b5ae6c4a62caf2cef2c675b8022bccf5a", func := "chargepark/chargeparklaw23.StepsEquals", spec := "stepsEquals", unfollowed := true, recurses := true, apart := false, narrowed := true }
def StepsEqualsUptoSaid : Prop := stepsEqualsUptoRow.holds Try.pinned (OpenSpec.upto stepsEqualsSpec)

/-- 'chargeparklaw23.StepsNothingLeft', WHERE WHAT IT READS IS OF BULK AT MOST 1048576: true; the input reads as it did. -/
def stepsNothingLeftUptoRow : OpenClaim := { program := "ytihbikkkmoaljaa", sum := "641f294b8deef5318169d2b11d02d88b5ae6c4a62caf2cef2c675b8022bccf5a", func := "chargepark/chargeparklaw23.StepsNothingLeft", spec := "stepsNothingLeft", unfollowed := true, recurses := true, apart := false, narrowed := true }
def StepsNothingLeftUptoSaid : Prop := stepsNothingLeftUptoRow.holds Try.pinned (OpenSpec.upto stepsNothingLeftSpec)

end Rows
end Go.Proofs.Ytihbikkkmoaljaa
