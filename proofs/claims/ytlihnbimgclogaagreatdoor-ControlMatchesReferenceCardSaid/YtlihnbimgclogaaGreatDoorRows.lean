/-
  NARROWER THAN 'FOR EVERY INPUT', by the rows' own cells (each row's printed sentence says how): ControlMatchesReference: laid · ControlOrder: laid · ControlTargets: laid · ControlPrecedence: laid · ControlWishes: laid · ControlLeases: laid · ControlSettles: laid · ControlSafe: laid.
  DERIVED. THE GIVEN ROWS OF THIS SEAT. 8 by the template 'for every input the law returns true; each argument reads behind the call as it read before'; 0 by the template 'total and deterministic' (their statements: YtlihnbimgclogaaGreatDoorTotals.lean).
  GIVEN WITH THE SEED: the statements are not yours to turn. If you find one false, say at which input.
  Laid BY PROGRAM, IN A SANDBOX (cutbox-rows.mjs): the forced cells as the released guide's own fill.sh prints them over the translation 6e269dd7d836029c… (all of the seat's roots in one cut). By AI agents, Wed Nov 11 2026. No macro, syntax, notation, axiom, sorry.
-/
import Derived.Test.YtlihnbimgclogaaGreatDoorChecked
import GoSem.Claim
import GoSem.ClaimJoined
import GoSem.ClaimMapViews
import Derived.JoinedTies
import Derived.KernelRfl
namespace Go.Proofs.YtlihnbimgclogaaGreatDoor
/- THE CELL 'sum', in the pinned program and in every row, IS THE sha256 OF THE DUMP (.gsa) THAT YtlihnbimgclogaaGreatDoorProg.lean LOADS. Nothing in Lean hashes anything: it is a label: what it is worth is what the hold of that sum in a sandbox is worth. -/
noncomputable def Tryz.pinned : Pinned := { name := "ytlihnbimgclogaagreatdoor", sum := "6e269dd7d836029c3eb9b65a2607f92b02958f28b31c79b0f0d7111f753aa6ff", checked := Tryz.checked }
namespace Rows
def none {H : Type} : Left H := { results := [], args := [] }

/- WHAT THE LISTED PACKAGE-LEVEL VARIABLES READ AS WHEN THE CALL BEGINS. Each datum BY PROGRAM (the guide's laid-datum.mjs) off the statement by which the dump's own 'gosem.cut.vars' lays the variable. In a bare row this is a premise. The card (YtlihnbimgclogaaGreatDoorCards.lean) ties it to the program's text. -/
def laid_chargepark_ramp_happens {H : Type} : DataW H := .agg [.agg [.agg [.lit (.int .i64 1), .lit (.int .i64 1)], .agg [.lit (.int .i64 1), .lit (.int .i64 0)]], .agg [.agg [.lit (.int .i64 2), .lit (.int .i64 2)], .agg [.lit (.int .i64 3), .lit (.int .i64 3)]]]

/-- 'chargeparklaw25.ControlMatchesReference': WHATEVER THE INPUT: true; the input reads as it did. -/
def controlMatchesReferenceSpec : ChangeSpec := { name := "controlMatchesReference", fn := fun _ => fun
  | [d1, d2, d3, d4, d5, d6] => { results := [.lit (.bool true)], args := [d1, d2, d3, d4, d5, d6] }
  | _ => none }
def controlMatchesReferenceRow : OpenClaim := { program := "ytlihnbimgclogaagreatdoor", sum := "6e269dd7d836029c3eb9b65a2607f92b02958f28b31c79b0f0d7111f753aa6ff", func := "chargepark/chargeparklaw25.ControlMatchesReference", spec := "controlMatchesReference", unfollowed := true, recurses := true, named := ["chargepark/ramp.happens"], apart := false, laid := [("chargepark/ramp.happens", laid_chargepark_ramp_happens)] }
def ControlMatchesReferenceSaid : Prop := controlMatchesReferenceRow.holds Tryz.pinned (OpenSpec.ofChange controlMatchesReferenceSpec)

/-- ITS FALSE NEIGHBOUR: 'it returns false'. Refute it at one input. -/
def controlMatchesReferenceWrong : ChangeSpec := { name := "controlMatchesReference", fn := fun _ => fun
  | [d1, d2, d3, d4, d5, d6] => { results := [.lit (.bool false)], args := [d1, d2, d3, d4, d5, d6] }
  | _ => none }
def ControlMatchesReferenceWrongFalsely : Prop := controlMatchesReferenceRow.holds Tryz.pinned (OpenSpec.ofChange controlMatchesReferenceWrong)

/-- 'chargeparklaw25.ControlOrder': WHATEVER THE INPUT: true; the input reads as it did. -/
def controlOrderSpec : ChangeSpec := { name := "controlOrder", fn := fun _ => fun
  | [d1, d2] => { results := [.lit (.bool true)], args := [d1, d2] }
  | _ => none }
def controlOrderRow : OpenClaim := { program := "ytlihnbimgclogaagreatdoor", sum := "6e269dd7d836029c3eb9b65a2607f92b02958f28b31c79b0f0d7111f753aa6ff", func := "chargepark/chargeparklaw25.ControlOrder", spec := "controlOrder", unfollowed := true, recurses := true, named := ["chargepark/ramp.happens"], apart := false, laid := [("chargepark/ramp.happens", laid_chargepark_ramp_happens)] }
def ControlOrderSaid : Prop := controlOrderRow.holds Tryz.pinned (OpenSpec.ofChange controlOrderSpec)

/-- ITS FALSE NEIGHBOUR: 'it returns false'. Refute it at one input. -/
def controlOrderWrong : ChangeSpec := { name := "controlOrder", fn := fun _ => fun
  | [d1, d2] => { results := [.lit (.bool false)], args := [d1, d2] }
  | _ => none }
def ControlOrderWrongFalsely : Prop := controlOrderRow.holds Tryz.pinned (OpenSpec.ofChange controlOrderWrong)

/-- 'chargeparklaw25.ControlTargets': WHATEVER THE INPUT: true; the input reads as it did. -/
def controlTargetsSpec : ChangeSpec := { name := "controlTargets", fn := fun _ => fun
  | [d1, d2, d3, d4, d5, d6] => { results := [.lit (.bool true)], args := [d1, d2, d3, d4, d5, d6] }
  | _ => none }
def controlTargetsRow : OpenClaim := { program := "ytlihnbimgclogaagreatdoor", sum := "6e269dd7d836029c3eb9b65a2607f92b02958f28b31c79b0f0d7111f753aa6ff", func := "chargepark/chargeparklaw25.ControlTargets", spec := "controlTargets", unfollowed := true, recurses := true, named := ["chargepark/ramp.happens"], apart := false, laid := [("chargepark/ramp.happens", laid_chargepark_ramp_happens)] }
def ControlTargetsSaid : Prop := controlTargetsRow.holds Tryz.pinned (OpenSpec.ofChange controlTargetsSpec)

/-- ITS FALSE NEIGHBOUR: 'it returns false'. Refute it at one input. -/
def controlTargetsWrong : ChangeSpec := { name := "controlTargets", fn := fun _ => fun
  | [d1, d2, d3, d4, d5, d6] => { results := [.lit (.bool false)], args := [d1, d2, d3, d4, d5, d6] }
  | _ => none }
def ControlTargetsWrongFalsely : Prop := controlTargetsRow.holds Tryz.pinned (OpenSpec.ofChange controlTargetsWrong)

/-- 'chargeparklaw25.ControlPrecedence': WHATEVER THE INPUT: true; the input reads as it did. -/
def controlPrecedenceSpec : ChangeSpec := { name := "controlPrecedence", fn := fun _ => fun
  | [d1, d2, d3, d4, d5, d6] => { results := [.lit (.bool true)], args := [d1, d2, d3, d4, d5, d6] }
  | _ => none }
def controlPrecedenceRow : OpenClaim := { program := "ytlihnbimgclogaagreatdoor", sum := "6e269dd7d836029c3eb9b65a2607f92b02958f28b31c79b0f0d7111f753aa6ff", func := "chargepark/chargeparklaw25.ControlPrecedence", spec := "controlPrecedence", unfollowed := true, recurses := true, named := ["chargepark/ramp.happens"], apart := false, laid := [("chargepark/ramp.happens", laid_chargepark_ramp_happens)] }
def ControlPrecedenceSaid : Prop := controlPrecedenceRow.holds Tryz.pinned (OpenSpec.ofChange controlPrecedenceSpec)

/-- ITS FALSE NEIGHBOUR: 'it returns false'. Refute it at one input. -/
def controlPrecedenceWrong : ChangeSpec := { name := "controlPrecedence", fn := fun _ => fun
  | [d1, d2, d3, d4, d5, d6] => { results := [.lit (.bool false)], args := [d1, d2, d3, d4, d5, d6] }
  | _ => none }
def ControlPrecedenceWrongFalsely : Prop := controlPrecedenceRow.holds Tryz.pinned (OpenSpec.ofChange controlPrecedenceWrong)

/-- 'chargeparklaw25.ControlWishes': WHATEVER THE INPUT: true; the input reads as it did. -/
def controlWishesSpec : ChangeSpec := { name := "controlWishes", fn := fun _ => fun
  | [d1, d2, d3, d4, d5, d6] => { results := [.lit (.bool true)], args := [d1, d2, d3, d4, d5, d6] }
  | _ => none }
def controlWishesRow : OpenClaim := { program := "ytlihnbimgclogaagreatdoor", sum := "6e269dd7d836029c3eb9b65a2607f92b02958f28b31c79b0f0d7111f753aa6ff", func := "chargepark/chargeparklaw25.ControlWishes", spec := "controlWishes", unfollowed := true, recurses := true, named := ["chargepark/ramp.happens"], apart := false, laid := [("chargepark/ramp.happens", laid_chargepark_ramp_happens)] }
def ControlWishesSaid : Prop := controlWishesRow.holds Tryz.pinned (OpenSpec.ofChange controlWishesSpec)

/-- ITS FALSE NEIGHBOUR: 'it returns false'. Refute it at one input. -/
def controlWishesWrong : ChangeSpec := { name := "controlWishes", fn := fun _ => fun
  | [d1, d2, d3, d4, d5, d6] => { results := [.lit (.bool false)], args := [d1, d2, d3, d4, d5, d6] }
  | _ => none }
def ControlWishesWrongFalsely : Prop := controlWishesRow.holds Tryz.pinned (OpenSpec.ofChange controlWishesWrong)

/-- 'chargeparklaw25.ControlLeases': WHATEVER THE INPUT: true; the input reads as it did. -/
def controlLeasesSpec : ChangeSpec := { name := "controlLeases", fn := fun _ => fun
  | [d1, d2, d3, d4, d5, d6] => { results := [.lit (.bool true)], args := [d1, d2, d3, d4, d5, d6] }
  | _ => none }
def controlLeasesRow : OpenClaim := { program := "ytlihnbimgclogaagreatdoor", sum := "6e269dd7d836029c3eb9b65a2607f92b02958f28b31c79b0f0d7111f753aa6ff", func := "chargepark/chargeparklaw25.ControlLeases", spec := "controlLeases", unfollowed := true, recurses := true, named := ["chargepark/ramp.happens"], apart := false, laid := [("chargepark/ramp.happens", laid_chargepark_ramp_happens)] }
def ControlLeasesSaid : Prop := controlLeasesRow.holds Tryz.pinned (OpenSpec.ofChange controlLeasesSpec)

/-- ITS FALSE NEIGHBOUR: 'it returns false'. Refute it at one input. -/
def controlLeasesWrong : ChangeSpec := { name := "controlLeases", fn := fun _ => fun
  | [d1, d2, d3, d4, d5, d6] => { results := [.lit (.bool false)], args := [d1, d2, d3, d4, d5, d6] }
  | _ => none }
def ControlLeasesWrongFalsely : Prop := controlLeasesRow.holds Tryz.pinned (OpenSpec.ofChange controlLeasesWrong)

/-- 'chargeparklaw25.ControlSettles': WHATEVER THE INPUT: true; the input reads as it did. -/
def controlSettlesSpec : ChangeSpec := { name := "controlSettles", fn := fun _ => fun
  | [d1, d2, d3, d4, d5, d6] => { results := [.lit (.bool true)], args := [d1, d2, d3, d4, d5, d6] }
  | _ => none }
def controlSettlesRow : OpenClaim := { program := "ytlihnbimgclogaagreatdoor", sum := "6e269dd7d836029c3eb9b65a2607f92b02958f28b31c79b0f0d7111f753aa6ff", func := "chargepark/chargeparklaw25.ControlSettles", spec := "controlSettles", unfollowed := true, recurses := true, named := ["chargepark/ramp.happens"], apart := false, laid := [("chargepark/ramp.happens", laid_chargepark_ramp_happens)] }
def ControlSettlesSaid : Prop := controlSettlesRow.holds Tryz.pinned (OpenSpec.ofChange controlSettlesSpec)

/-- ITS FALSE NEIGHBOUR: 'it returns false'. Refute it at one input. -/
def controlSettlesWrong : ChangeSpec := { name := "controlSettles", fn := fun _ => fun
  | [d1, d2, d3, d4, d5, d6] => { results := [.lit (.bool false)], args := [d1, d2, d3, d4, d5, d6] }
  | _ => none }
def ControlSettlesWrongFalsely : Prop := controlSettlesRow.holds Tryz.pinned (OpenSpec.ofChange controlSettlesWrong)

/-- 'chargeparklaw25.ControlSafe': WHATEVER THE INPUT: true; the input reads as it did. -/
def controlSafeSpec : ChangeSpec := { name := "controlSafe", fn := fun _ => fun
  | [d1, d2, d3, d4, d5, d6, d7] => { results := [.lit (.bool true)], args := [d1, d2, d3, d4, d5, d6, d7] }
  | _ => none }
def controlSafeRow : OpenClaim := { program := "ytlihnbimgclogaagreatdoor", sum := "6e269dd7d836029c3eb9b65a2607f92b02958f28b31c79b0f0d7111f753aa6ff", func := "chargepark/chargeparklaw25.ControlSafe", spec := "controlSafe", unfollowed := true, recurses := true, named := ["chargepark/ramp.happens"], apart := false, laid := [("chargepark/ramp.happens", laid_chargepark_ramp_happens)] }
def ControlSafeSaid : Prop := controlSafeRow.holds Tryz.pinned (OpenSpec.ofChange controlSafeSpec)

/-- ITS FALSE NEIGHBOUR: 'it returns false'. Refute it at one input. -/
def controlSafeWrong : ChangeSpec := { name := "controlSafe", fn := fun _ => fun
  | [d1, d2, d3, d4, d5, d6, d7] => { results := [.lit (.bool false)], args := [d1, d2, d3, d4, d5, d6, d7] }
  | _ => none }
def ControlSafeWrongFalsely : Prop := controlSafeRow.holds Tryz.pinned (OpenSpec.ofChange controlSafeWrong)

/- THE SECOND FORM. 'bulk': how many values and letters a reading holds, each counted each time it is reached (what is shared counts as often as it is met; a slice's spare places count too). A statement '..UptoSaid' is the law's where the arguments, and the package variables that the reading takes, are together of bulk at most 1048576: NARROWER than '..Said'. Prove '..Said' where nothing that the law and all that it calls make is longer than what came in: it says more and counts as full. Else prove '..UptoSaid'. A law counts once. -/
mutual
def uptoBulk {H : Type} : DataW H → Nat
  | .lit (.string bytes) => bytes.length + 1
  | .lit _ => 1
  | .nil => 1
  | .ptr d => uptoBulk d + 1
  | .slice elems spare => uptoBulkAll elems + uptoBulkAll spare + 1
  | .agg parts => uptoBulkAll parts + 1
  | .iface _ d => uptoBulk d + 1
  | .map entries => uptoBulkEntries entries + 1
  | .held _ => 1
def uptoBulkAll {H : Type} : List (DataW H) → Nat
  | [] => 0
  | d :: r => uptoBulk d + uptoBulkAll r
def uptoBulkEntries {H : Type} : List (Lit × DataW H) → Nat
  | [] => 0
  | x :: r => uptoBulkEntry x + uptoBulkEntries r
def uptoBulkEntry {H : Type} : Lit × DataW H → Nat
  | (.string bytes, d) => bytes.length + uptoBulk d + 1
  | (_, d) => uptoBulk d + 1
 end
def uptoSmall : (H : Type) → List (DataW H) → Bool := fun _ ds => decide (uptoBulkAll ds ≤ 1048576)
def OpenSpec.upto (s : _root_.Go.ChangeSpec) : _root_.Go.OpenSpec := { _root_.Go.OpenSpec.ofChange s with cond := some uptoSmall }

/-- 'chargeparklaw25.ControlMatchesReference', WHERE WHAT IT READS IS OF BULK AT MOST 1048576: true; the input reads as it did. -/
def controlMatchesReferenceUptoRow : OpenClaim := { program := "ytlihnbimgclogaagreatdoor", sum := "6e269dd7d836029c3eb9b65a2607f92b02958f28b31c79b0f0d7111f753aa6ff", func := "chargepark/chargeparklaw25.ControlMatchesReference", spec := "controlMatchesReference", unfollowed := true, recurses := true, named := ["chargepark/ramp.happens"], apart := false, laid := [("chargepark/ramp.happens", laid_chargepark_ramp_happens)], narrowed := true }
def ControlMatchesReferenceUptoSaid : Prop := controlMatchesReferenceUptoRow.holds Tryz.pinned (OpenSpec.upto controlMatchesReferenceSpec)

/-- 'chargeparklaw25.ControlOrder', WHERE WHAT IT READS IS OF BULK AT MOST 1048576: true; the input reads as it did. -/
def controlOrderUptoRow : OpenClaim := { program := "ytlihnbimgclogaagreatdoor", sum := "6e269dd7d836029c3eb9b65a2607f92b02958f28b31c79b0f0d7111f753aa6ff", func := "chargepark/chargeparklaw25.ControlOrder", spec := "controlOrder", unfollowed := true, recurses := true, named := ["chargepark/ramp.happens"], apart := false, laid := [("chargepark/ramp.happens", laid_chargepark_ramp_happens)], narrowed := true }
def ControlOrderUptoSaid : Prop := controlOrderUptoRow.holds Tryz.pinned (OpenSpec.upto controlOrderSpec)

/-- 'chargeparklaw25.ControlTargets', WHERE WHAT IT READS IS OF BULK AT MOST 1048576: true; the input reads as it did. -/
def controlTargetsUptoRow : OpenClaim := { program := "ytlihnbimgclogaagreatdoor", sum := "6e269dd7d836029c3eb9b65a2607f92b02958f28b31c79b0f0d7111f753aa6ff", func := "chargepark/chargeparklaw25.ControlTargets", spec := "controlTargets", unfollowed := true, recurses := true, named := ["chargepark/ramp.happens"], apart := false, laid := [("chargepark/ramp.happens", laid_chargepark_ramp_happens)], narrowed := true }
def ControlTargetsUptoSaid : Prop := controlTargetsUptoRow.holds Tryz.pinned (OpenSpec.upto controlTargetsSpec)

/-- 'chargeparklaw25.ControlPrecedence', WHERE WHAT IT READS IS OF BULK AT MOST 1048576: true; the input reads as it did. -/
def controlPrecedenceUptoRow : OpenClaim := { program := "ytlihnbimgclogaagreatdoor", sum := "6e269dd7d836029c3eb9b65a2607f92b02958f28b31c79b0f0d7111f753aa6ff", func := "chargepark/chargeparklaw25.ControlPrecedence", spec := "controlPrecedence", unfollowed := true, recurses := true, named := ["chargepark/ramp.happens"], apart := false, laid := [("chargepark/ramp.happens", laid_chargepark_ramp_happens)], narrowed := true }
def ControlPrecedenceUptoSaid : Prop := controlPrecedenceUptoRow.holds Tryz.pinned (OpenSpec.upto controlPrecedenceSpec)

/-- 'chargeparklaw25.ControlWishes', WHERE WHAT IT READS IS OF BULK AT MOST 1048576: true; the input reads as it did. -/
def controlWishesUptoRow : OpenClaim := { program := "ytlihnbimgclogaagreatdoor", sum := "6e269dd7d836029c3eb9b65a2607f92b02958f28b31c79b0f0d7111f753aa6ff", func := "chargepark/chargeparklaw25.ControlWishes", spec := "controlWishes", unfollowed := true, recurses := true, named := ["chargepark/ramp.happens"], apart := false, laid := [("chargepark/ramp.happens", laid_chargepark_ramp_happens)], narrowed := true }
def ControlWishesUptoSaid : Prop := controlWishesUptoRow.holds Tryz.pinned (OpenSpec.upto controlWishesSpec)

/-- 'chargeparklaw25.ControlLeases', WHERE WHAT IT READS IS OF BULK AT MOST 1048576: true; the input reads as it did. -/
def controlLeasesUptoRow : OpenClaim := { program := "ytlihnbimgclogaagreatdoor", sum := "6e269dd7d836029c3eb9b65a2607f92b02958f28b31c79b0f0d7111f753aa6ff", func := "chargepark/chargeparklaw25.ControlLeases", spec := "controlLeases", unfollowed := true, recurses := true, named := ["chargepark/ramp.happens"], apart := false, laid := [("chargepark/ramp.happens", laid_chargepark_ramp_happens)], narrowed := true }
def ControlLeasesUptoSaid : Prop := controlLeasesUptoRow.holds Tryz.pinned (OpenSpec.upto controlLeasesSpec)

/-- 'chargeparklaw25.ControlSettles', WHERE WHAT IT READS IS OF BULK AT MOST 1048576: true; the input reads as it did. -/
def controlSettlesUptoRow : OpenClaim := { program := "ytlihnbimgclogaagreatdoor", sum := "6e269dd7d836029c3eb9b65a2607f92b02958f28b31c79b0f0d7111f753aa6ff", func := "chargepark/chargeparklaw25.ControlSettles", spec := "controlSettles", unfollowed := true, recurses := true, named := ["chargepark/ramp.happens"], apart := false, laid := [("chargepark/ramp.happens", laid_chargepark_ramp_happens)], narrowed := true }
def ControlSettlesUptoSaid : Prop := controlSettlesUptoRow.holds Tryz.pinned (OpenSpec.upto controlSettlesSpec)

/-- 'chargeparklaw25.ControlSafe', WHERE WHAT IT READS IS OF BULK AT MOST 1048576: true; the input reads as it did. -/
def controlSafeUptoRow : OpenClaim := { program := "ytlihnbimgclogaagreatdoor", sum := "6e269dd7d836029c3eb9b65a2607f92b02958f28b31c79b0f0d7111f753aa6ff", func := "chargepark/chargeparklaw25.ControlSafe", spec := "controlSafe", unfollowed := true, recurses := true, named := ["chargepark/ramp.happens"], apart := false, laid := [("chargepark/ramp.happens", laid_chargepark_ramp_happens)], narrowed := true }
def ControlSafeUptoSaid : Prop := controlSafeUptoRow.holds Tryz.pinned (OpenSpec.upto controlSafeSpec)

end Rows
end Go.Proofs.YtlihnbimgclogaaGreatDoor
