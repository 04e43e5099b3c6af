/-
  NARROWER THAN 'FOR EVERY INPUT', by the rows' own cells (each row's printed sentence says how): RampMatchesReference: laid · RampNeverMore: laid · RampRest: laid · RampArrives: laid · RampOrder: laid · RampSince: laid.
  DERIVED. THE GIVEN ROWS OF THIS SEAT. 6 by the template 'for every input the law returns true; each argument reads behind the call as it read before'; 0 by the template 'total and deterministic' (their statements: YtgghdejgfihkcaaDoorTotals.lean).
  GIVEN WITH THE SEED: the statements are not yours to turn. If you find one false, say at which input.
  Laid BY PROGRAM, IN A SANDBOX (cutbox-rows.mjs): the forced cells as the released guide's own fill.sh prints them over the translation 09755f240790909c… (all of the seat's roots in one cut). By AI agents, Wed Nov 11 2026. No macro, syntax, notation, axiom, sorry.
-/
import Derived.Test.YtgghdejgfihkcaaDoorChecked
import GoSem.Claim
import GoSem.ClaimJoined
import GoSem.ClaimMapViews
import Derived.JoinedTies
import Derived.KernelRfl
namespace Go.Proofs.YtgghdejgfihkcaaDoor
/- THE CELL 'sum', in the pinned program and in every row, IS THE sha256 OF THE DUMP (.gsa) THAT YtgghdejgfihkcaaDoorProg.lean LOADS. Nothing in Lean hashes anything: it is a label: what it is worth is what the hold of that sum in a sandbox is worth. -/
noncomputable def Tryd.pinned : Pinned := { name := "ytgghdejgfihkcaadoor", sum := "09755f240790909cb97a0b9fafef0750ec778c054c92d59e056133b106a50b1c", checked := Tryd.checked }
namespace Rows
def none {H : Type} : Left H := { results := [], args := [] }

/- WHAT THE LISTED PACKAGE-LEVEL VARIABLES READ AS WHEN THE CALL BEGINS. Each datum BY PROGRAM (the guide's laid-datum.mjs) off the statement by which the dump's own 'gosem.cut.vars' lays the variable. In a bare row this is a premise. The card (YtgghdejgfihkcaaDoorCards.lean) ties it to the program's text. -/
def laid_chargepark_ramp_happens {H : Type} : DataW H := .agg [.agg [.agg [.lit (.int .i64 1), .lit (.int .i64 1)], .agg [.lit (.int .i64 1), .lit (.int .i64 0)]], .agg [.agg [.lit (.int .i64 2), .lit (.int .i64 2)], .agg [.lit (.int .i64 3), .lit (.int .i64 3)]]]

/-- 'chargeparklaw24.RampMatchesReference': WHATEVER THE INPUT: true; the input reads as it did. -/
def rampMatchesReferenceSpec : ChangeSpec := { name := "rampMatchesReference", fn := fun _ => fun
  | [d1, d2, d3] => { results := [.lit (.bool true)], args := [d1, d2, d3] }
  | _ => none }
def rampMatchesReferenceRow : OpenClaim := { program := "ytgghdejgfihkcaadoor", sum := "09755f240790909cb97a0b9fafef0750ec778c054c92d59e056133b106a50b1c", func := "chargepark/chargeparklaw24.RampMatchesReference", spec := "rampMatchesReference", unfollowed := true, recurses := true, named := ["chargepark/ramp.happens"], apart := false, laid := [("chargepark/ramp.happens", laid_chargepark_ramp_happens)] }
def RampMatchesReferenceSaid : Prop := rampMatchesReferenceRow.holds Tryd.pinned (OpenSpec.ofChange rampMatchesReferenceSpec)

/-- ITS FALSE NEIGHBOUR: 'it returns false'. Refute it at one input. -/
def rampMatchesReferenceWrong : ChangeSpec := { name := "rampMatchesReference", fn := fun _ => fun
  | [d1, d2, d3] => { results := [.lit (.bool false)], args := [d1, d2, d3] }
  | _ => none }
def RampMatchesReferenceWrongFalsely : Prop := rampMatchesReferenceRow.holds Tryd.pinned (OpenSpec.ofChange rampMatchesReferenceWrong)

/-- 'chargeparklaw24.RampNeverMore': WHATEVER THE INPUT: true; the input reads as it did. -/
def rampNeverMoreSpec : ChangeSpec := { name := "rampNeverMore", fn := fun _ => fun
  | [d1, d2, d3] => { results := [.lit (.bool true)], args := [d1, d2, d3] }
  | _ => none }
def rampNeverMoreRow : OpenClaim := { program := "ytgghdejgfihkcaadoor", sum := "09755f240790909cb97a0b9fafef0750ec778c054c92d59e056133b106a50b1c", func := "chargepark/chargeparklaw24.RampNeverMore", spec := "rampNeverMore", unfollowed := true, recurses := true, named := ["chargepark/ramp.happens"], apart := false, laid := [("chargepark/ramp.happens", laid_chargepark_ramp_happens)] }
def RampNeverMoreSaid : Prop := rampNeverMoreRow.holds Tryd.pinned (OpenSpec.ofChange rampNeverMoreSpec)

/-- ITS FALSE NEIGHBOUR: 'it returns false'. Refute it at one input. -/
def rampNeverMoreWrong : ChangeSpec := { name := "rampNeverMore", fn := fun _ => fun
  | [d1, d2, d3] => { results := [.lit (.bool false)], args := [d1, d2, d3] }
  | _ => none }
def RampNeverMoreWrongFalsely : Prop := rampNeverMoreRow.holds Tryd.pinned (OpenSpec.ofChange rampNeverMoreWrong)

/-- 'chargeparklaw24.RampRest': WHATEVER THE INPUT: true; the input reads as it did. -/
def rampRestSpec : ChangeSpec := { name := "rampRest", fn := fun _ => fun
  | [d1, d2, d3] => { results := [.lit (.bool true)], args := [d1, d2, d3] }
  | _ => none }
def rampRestRow : OpenClaim := { program := "ytgghdejgfihkcaadoor", sum := "09755f240790909cb97a0b9fafef0750ec778c054c92d59e056133b106a50b1c", func := "chargepark/chargeparklaw24.RampRest", spec := "rampRest", unfollowed := true, recurses := true, named := ["chargepark/ramp.happens"], apart := false, laid := [("chargepark/ramp.happens", laid_chargepark_ramp_happens)] }
def RampRestSaid : Prop := rampRestRow.holds Tryd.pinned (OpenSpec.ofChange rampRestSpec)

/-- ITS FALSE NEIGHBOUR: 'it returns false'. Refute it at one input. -/
def rampRestWrong : ChangeSpec := { name := "rampRest", fn := fun _ => fun
  | [d1, d2, d3] => { results := [.lit (.bool false)], args := [d1, d2, d3] }
  | _ => none }
def RampRestWrongFalsely : Prop := rampRestRow.holds Tryd.pinned (OpenSpec.ofChange rampRestWrong)

/-- 'chargeparklaw24.RampArrives': WHATEVER THE INPUT: true; the input reads as it did. -/
def rampArrivesSpec : ChangeSpec := { name := "rampArrives", fn := fun _ => fun
  | [d1, d2, d3] => { results := [.lit (.bool true)], args := [d1, d2, d3] }
  | _ => none }
def rampArrivesRow : OpenClaim := { program := "ytgghdejgfihkcaadoor", sum := "09755f240790909cb97a0b9fafef0750ec778c054c92d59e056133b106a50b1c", func := "chargepark/chargeparklaw24.RampArrives", spec := "rampArrives", unfollowed := true, recurses := true, named := ["chargepark/ramp.happens"], apart := false, laid := [("chargepark/ramp.happens", laid_chargepark_ramp_happens)] }
def RampArrivesSaid : Prop := rampArrivesRow.holds Tryd.pinned (OpenSpec.ofChange rampArrivesSpec)

/-- ITS FALSE NEIGHBOUR: 'it returns false'. Refute it at one input. -/
def rampArrivesWrong : ChangeSpec := { name := "rampArrives", fn := fun _ => fun
  | [d1, d2, d3] => { results := [.lit (.bool false)], args := [d1, d2, d3] }
  | _ => none }
def RampArrivesWrongFalsely : Prop := rampArrivesRow.holds Tryd.pinned (OpenSpec.ofChange rampArrivesWrong)

/-- 'chargeparklaw24.RampOrder': WHATEVER THE INPUT: true; the input reads as it did. -/
def rampOrderSpec : ChangeSpec := { name := "rampOrder", fn := fun _ => fun
  | [d1, d2, d3, d4] => { results := [.lit (.bool true)], args := [d1, d2, d3, d4] }
  | _ => none }
def rampOrderRow : OpenClaim := { program := "ytgghdejgfihkcaadoor", sum := "09755f240790909cb97a0b9fafef0750ec778c054c92d59e056133b106a50b1c", func := "chargepark/chargeparklaw24.RampOrder", spec := "rampOrder", unfollowed := true, recurses := true, named := ["chargepark/ramp.happens"], apart := false, laid := [("chargepark/ramp.happens", laid_chargepark_ramp_happens)] }
def RampOrderSaid : Prop := rampOrderRow.holds Tryd.pinned (OpenSpec.ofChange rampOrderSpec)

/-- ITS FALSE NEIGHBOUR: 'it returns false'. Refute it at one input. -/
def rampOrderWrong : ChangeSpec := { name := "rampOrder", fn := fun _ => fun
  | [d1, d2, d3, d4] => { results := [.lit (.bool false)], args := [d1, d2, d3, d4] }
  | _ => none }
def RampOrderWrongFalsely : Prop := rampOrderRow.holds Tryd.pinned (OpenSpec.ofChange rampOrderWrong)

/-- 'chargeparklaw24.RampSince': WHATEVER THE INPUT: true; the input reads as it did. -/
def rampSinceSpec : ChangeSpec := { name := "rampSince", fn := fun _ => fun
  | [d1, d2, d3] => { results := [.lit (.bool true)], args := [d1, d2, d3] }
  | _ => none }
def rampSinceRow : OpenClaim := { program := "ytgghdejgfihkcaadoor", sum := "09755f240790909cb97a0b9fafef0750ec778c054c92d59e056133b106a50b1c", func := "chargepark/chargeparklaw24.RampSince", spec := "rampSince", unfollowed := true, recurses := true, named := ["chargepark/ramp.happens"], apart := false, laid := [("chargepark/ramp.happens", laid_chargepark_ramp_happens)] }
def RampSinceSaid : Prop := rampSinceRow.holds Tryd.pinned (OpenSpec.ofChange rampSinceSpec)

/-- ITS FALSE NEIGHBOUR: 'it returns false'. Refute it at one input. -/
def rampSinceWrong : ChangeSpec := { name := "rampSince", fn := fun _ => fun
  | [d1, d2, d3] => { results := [.lit (.bool false)], args := [d1, d2, d3] }
  | _ => none }
def RampSinceWrongFalsely : Prop := rampSinceRow.holds Tryd.pinned (OpenSpec.ofChange rampSinceWrong)

/- THE SECOND FORM. 'bulk': how many values and letters a reading holds, each counted each time it is reached (what is shared counts as often as it is met; a slice's spare places count too). A statement '..UptoSaid' is the law's where the arguments, and the package variables that the reading takes, are together of bulk at most 1048576: NARROWER than '..Said'. Prove '..Said' where nothing that the law and all that it calls make is longer than what came in: it says more and counts as full. Else prove '..UptoSaid'. A law counts once. -/
mutual
def uptoBulk {H : Type} : DataW H → Nat
  | .lit (.string bytes) => bytes.length + 1
  | .lit _ => 1
  | .nil => 1
  | .ptr d => uptoBulk d + 1
  | .slice elems spare => uptoBulkAll elems + uptoBulkAll spare + 1
  | .agg parts => uptoBulkAll parts + 1
  | .iface _ d => uptoBulk d + 1
  | .map entries => uptoBulkEntries entries + 1
  | .held _ => 1
def uptoBulkAll {H : Type} : List (DataW H) → Nat
  | [] => 0
  | d :: r => uptoBulk d + uptoBulkAll r
def uptoBulkEntries {H : Type} : List (Lit × DataW H) → Nat
  | [] => 0
  | x :: r => uptoBulkEntry x + uptoBulkEntries r
def uptoBulkEntry {H : Type} : Lit × DataW H → Nat
  | (.string bytes, d) => bytes.length + uptoBulk d + 1
  | (_, d) => uptoBulk d + 1
 end
def uptoSmall : (H : Type) → List (DataW H) → Bool := fun _ ds => decide (uptoBulkAll ds ≤ 1048576)
def OpenSpec.upto (s : _root_.Go.ChangeSpec) : _root_.Go.OpenSpec := { _root_.Go.OpenSpec.ofChange s with cond := some uptoSmall }

/-- 'chargeparklaw24.RampMatchesReference', WHERE WHAT IT READS IS OF BULK AT MOST 1048576: true; the input reads as it did. -/
def rampMatchesReferenceUptoRow : OpenClaim := { program := "ytgghdejgfihkcaadoor", sum := "09755f240790909cb97a0b9fafef0750ec778c054c92d59e056133b106a50b1c", func := "chargepark/chargeparklaw24.RampMatchesReference", spec := "rampMatchesReference", unfollowed := true, recurses := true, named := ["chargepark/ramp.happens"], apart := false, laid := [("chargepark/ramp.happens", laid_chargepark_ramp_happens)], narrowed := true }
def RampMatchesReferenceUptoSaid : Prop := rampMatchesReferenceUptoRow.holds Tryd.pinned (OpenSpec.upto rampMatchesReferenceSpec)

/-- 'chargeparklaw24.RampNeverMore', WHERE WHAT IT READS IS OF BULK AT MOST 1048576: true; the input reads as it did. -/
def rampNeverMoreUptoRow : OpenClaim := { program := "ytgghdejgfihkcaadoor", sum := "09755f240790909cb97a0b9fafef0750ec778c054c92d59e056133b106a50b1c", func := "chargepark/chargeparklaw24.RampNeverMore", spec := "rampNeverMore", unfollowed := true, recurses := true, named := ["chargepark/ramp.happens"], apart := false, laid := [("chargepark/ramp.happens", laid_chargepark_ramp_happens)], narrowed := true }
def RampNeverMoreUptoSaid : Prop := rampNeverMoreUptoRow.holds Tryd.pinned (OpenSpec.upto rampNeverMoreSpec)

/-- 'chargeparklaw24.RampRest', WHERE WHAT IT READS IS OF BULK AT MOST 1048576: true; the input reads as it did. -/
def rampRestUptoRow : OpenClaim := { program := "ytgghdejgfihkcaadoor", sum := "09755f240790909cb97a0b9fafef0750ec778c054c92d59e056133b106a50b1c", func := "chargepark/chargeparklaw24.RampRest", spec := "rampRest", unfollowed := true, recurses := true, named := ["chargepark/ramp.happens"], apart := false, laid := [("chargepark/ramp.happens", laid_chargepark_ramp_happens)], narrowed := true }
def RampRestUptoSaid : Prop := rampRestUptoRow.holds Tryd.pinned (OpenSpec.upto rampRestSpec)

/-- 'chargeparklaw24.RampArrives', WHERE WHAT IT READS IS OF BULK AT MOST 1048576: true; the input reads as it did. -/
def rampArrivesUptoRow : OpenClaim := { program := "ytgghdejgfihkcaadoor", sum := "09755f240790909cb97a0b9fafef0750ec778c054c92d59e056133b106a50b1c", func := "chargepark/chargeparklaw24.RampArrives", spec := "rampArrives", unfollowed := true, recurses := true, named := ["chargepark/ramp.happens"], apart := false, laid := [("chargepark/ramp.happens", laid_chargepark_ramp_happens)], narrowed := true }
def RampArrivesUptoSaid : Prop := rampArrivesUptoRow.holds Tryd.pinned (OpenSpec.upto rampArrivesSpec)

/-- 'chargeparklaw24.RampOrder', WHERE WHAT IT READS IS OF BULK AT MOST 1048576: true; the input reads as it did. -/
def rampOrderUptoRow : OpenClaim := { program := "ytgghdejgfihkcaadoor", sum := "09755f240790909cb97a0b9fafef0750ec778c054c92d59e056133b106a50b1c", func := "chargepark/chargeparklaw24.RampOrder", spec := "rampOrder", unfollowed := true, recurses := true, named := ["chargepark/ramp.happens"], apart := false, laid := [("chargepark/ramp.happens", laid_chargepark_ramp_happens)], narrowed := true }
def RampOrderUptoSaid : Prop := rampOrderUptoRow.holds Tryd.pinned (OpenSpec.upto rampOrderSpec)

/-- 'chargeparklaw24.RampSince', WHERE WHAT IT READS IS OF BULK AT MOST 1048576: true; the input reads as it did. -/
def rampSinceUptoRow : OpenClaim := { program := "ytgghdejgfihkcaadoor", sum := "09755f240790909cb97a0b9fafef0750ec778c054c92d59e056133b106a50b1c", func := "chargepark/chargeparklaw24.RampSince", spec := "rampSince", unfollowed := true, recurses := true, named := ["chargepark/ramp.happens"], apart := false, laid := [("chargepark/ramp.happens", laid_chargepark_ramp_happens)], narrowed := true }
def RampSinceUptoSaid : Prop := rampSinceUptoRow.holds Tryd.pinned (OpenSpec.upto rampSinceSpec)

end Rows
end Go.Proofs.YtgghdejgfihkcaaDoor
