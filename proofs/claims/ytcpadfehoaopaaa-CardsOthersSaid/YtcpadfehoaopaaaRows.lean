/-
  No cell of these rows narrows 'for every input' (looked for: loops, veiled, ifaces, maps, wideKeys, modest, calm, conditions, laid).
  DERIVED. THE GIVEN ROWS OF THIS SEAT. 7 by the template 'for every input the law returns true; each argument reads behind the call as it read before'; 0 by the template 'total and deterministic' (their statements: YtcpadfehoaopaaaTotals.lean).
  GIVEN WITH THE SEED: the statements are not yours to turn. If you find one false, say at which input.
  Laid BY PROGRAM, IN A SANDBOX (cutbox-rows.mjs): the forced cells as the released guide's own fill.sh prints them over the translation 71629e988d31809a… (all of the seat's roots in one cut). By AI agents, Wed Nov 11 2026. No macro, syntax, notation, axiom, sorry.
-/
import Derived.Test.YtcpadfehoaopaaaChecked
import GoSem.Claim
import GoSem.ClaimJoined
import GoSem.ClaimMapViews
import Derived.JoinedTies
import Derived.KernelRfl
namespace Go.Proofs.Ytcpadfehoaopaaa
/- THE CELL 'sum', in the pinned program and in every row, IS THE sha256 OF THE DUMP (.gsa) THAT YtcpadfehoaopaaaProg.lean LOADS. Nothing in Lean hashes anything: it is a label: what it is worth is what the hold of that sum in a sandbox is worth. -/
noncomputable def Try.pinned : Pinned := { name := "ytcpadfehoaopaaa", sum := "71629e988d31809a34c29a7025f0c609c33c6c178135a76efa3ba8e96edb5427", checked := Try.checked }
namespace Rows
def none {H : Type} : Left H := { results := [], args := [] }

/-- 'chargeparklaw38.CardsMatchesReference': WHATEVER THE INPUT: true; the input reads as it did. -/
def cardsMatchesReferenceSpec : ChangeSpec := { name := "cardsMatchesReference", fn := fun _ => fun
  | [d1, d2, d3, d4, d5] => { results := [.lit (.bool true)], args := [d1, d2, d3, d4, d5] }
  | _ => none }
def cardsMatchesReferenceRow : OpenClaim := { program := "ytcpadfehoaopaaa", sum := "71629e988d31809a34c29a7025f0c609c33c6c178135a76efa3ba8e96edb5427", func := "chargepark/chargeparklaw38.CardsMatchesReference", spec := "cardsMatchesReference", unfollowed := true, recurses := true, apart := false }
def CardsMatchesReferenceSaid : Prop := cardsMatchesReferenceRow.holds Try.pinned (OpenSpec.ofChange cardsMatchesReferenceSpec)

/-- ITS FALSE NEIGHBOUR: 'it returns false'. Refute it at one input. -/
def cardsMatchesReferenceWrong : ChangeSpec := { name := "cardsMatchesReference", fn := fun _ => fun
  | [d1, d2, d3, d4, d5] => { results := [.lit (.bool false)], args := [d1, d2, d3, d4, d5] }
  | _ => none }
def CardsMatchesReferenceWrongFalsely : Prop := cardsMatchesReferenceRow.holds Try.pinned (OpenSpec.ofChange cardsMatchesReferenceWrong)

/-- 'chargeparklaw38.CardsEpochs': WHATEVER THE INPUT: true; the input reads as it did. -/
def cardsEpochsSpec : ChangeSpec := { name := "cardsEpochs", fn := fun _ => fun
  | [d1, d2, d3, d4] => { results := [.lit (.bool true)], args := [d1, d2, d3, d4] }
  | _ => none }
def cardsEpochsRow : OpenClaim := { program := "ytcpadfehoaopaaa", sum := "71629e988d31809a34c29a7025f0c609c33c6c178135a76efa3ba8e96edb5427", func := "chargepark/chargeparklaw38.CardsEpochs", spec := "cardsEpochs", unfollowed := true, recurses := true, apart := false }
def CardsEpochsSaid : Prop := cardsEpochsRow.holds Try.pinned (OpenSpec.ofChange cardsEpochsSpec)

/-- ITS FALSE NEIGHBOUR: 'it returns false'. Refute it at one input. -/
def cardsEpochsWrong : ChangeSpec := { name := "cardsEpochs", fn := fun _ => fun
  | [d1, d2, d3, d4] => { results := [.lit (.bool false)], args := [d1, d2, d3, d4] }
  | _ => none }
def CardsEpochsWrongFalsely : Prop := cardsEpochsRow.holds Try.pinned (OpenSpec.ofChange cardsEpochsWrong)

/-- 'chargeparklaw38.CardsForGood': WHATEVER THE INPUT: true; the input reads as it did. -/
def cardsForGoodSpec : ChangeSpec := { name := "cardsForGood", fn := fun _ => fun
  | [d1, d2, d3, d4, d5] => { results := [.lit (.bool true)], args := [d1, d2, d3, d4, d5] }
  | _ => none }
def cardsForGoodRow : OpenClaim := { program := "ytcpadfehoaopaaa", sum := "71629e988d31809a34c29a7025f0c609c33c6c178135a76efa3ba8e96edb5427", func := "chargepark/chargeparklaw38.CardsForGood", spec := "cardsForGood", unfollowed := true, recurses := true, apart := false }
def CardsForGoodSaid : Prop := cardsForGoodRow.holds Try.pinned (OpenSpec.ofChange cardsForGoodSpec)

/-- ITS FALSE NEIGHBOUR: 'it returns false'. Refute it at one input. -/
def cardsForGoodWrong : ChangeSpec := { name := "cardsForGood", fn := fun _ => fun
  | [d1, d2, d3, d4, d5] => { results := [.lit (.bool false)], args := [d1, d2, d3, d4, d5] }
  | _ => none }
def CardsForGoodWrongFalsely : Prop := cardsForGoodRow.holds Try.pinned (OpenSpec.ofChange cardsForGoodWrong)

/-- 'chargeparklaw38.CardsJoin': WHATEVER THE INPUT: true; the input reads as it did. -/
def cardsJoinSpec : ChangeSpec := { name := "cardsJoin", fn := fun _ => fun
  | [d1, d2, d3, d4, d5] => { results := [.lit (.bool true)], args := [d1, d2, d3, d4, d5] }
  | _ => none }
def cardsJoinRow : OpenClaim := { program := "ytcpadfehoaopaaa", sum := "71629e988d31809a34c29a7025f0c609c33c6c178135a76efa3ba8e96edb5427", func := "chargepark/chargeparklaw38.CardsJoin", spec := "cardsJoin", unfollowed := true, recurses := true, apart := false }
def CardsJoinSaid : Prop := cardsJoinRow.holds Try.pinned (OpenSpec.ofChange cardsJoinSpec)

/-- ITS FALSE NEIGHBOUR: 'it returns false'. Refute it at one input. -/
def cardsJoinWrong : ChangeSpec := { name := "cardsJoin", fn := fun _ => fun
  | [d1, d2, d3, d4, d5] => { results := [.lit (.bool false)], args := [d1, d2, d3, d4, d5] }
  | _ => none }
def CardsJoinWrongFalsely : Prop := cardsJoinRow.holds Try.pinned (OpenSpec.ofChange cardsJoinWrong)

/-- 'chargeparklaw38.CardsJoined': WHATEVER THE INPUT: true; the input reads as it did. -/
def cardsJoinedSpec : ChangeSpec := { name := "cardsJoined", fn := fun _ => fun
  | [d1, d2, d3] => { results := [.lit (.bool true)], args := [d1, d2, d3] }
  | _ => none }
def cardsJoinedRow : OpenClaim := { program := "ytcpadfehoaopaaa", sum := "71629e988d31809a34c29a7025f0c609c33c6c178135a76efa3ba8e96edb5427", func := "chargepark/chargeparklaw38.CardsJoined", spec := "cardsJoined", unfollowed := true, recurses := true, apart := false }
def CardsJoinedSaid : Prop := cardsJoinedRow.holds Try.pinned (OpenSpec.ofChange cardsJoinedSpec)

/-- ITS FALSE NEIGHBOUR: 'it returns false'. Refute it at one input. -/
def cardsJoinedWrong : ChangeSpec := { name := "cardsJoined", fn := fun _ => fun
  | [d1, d2, d3] => { results := [.lit (.bool false)], args := [d1, d2, d3] }
  | _ => none }
def CardsJoinedWrongFalsely : Prop := cardsJoinedRow.holds Try.pinned (OpenSpec.ofChange cardsJoinedWrong)

/-- 'chargeparklaw38.CardsLate': WHATEVER THE INPUT: true; the input reads as it did. -/
def cardsLateSpec : ChangeSpec := { name := "cardsLate", fn := fun _ => fun
  | [d1, d2, d3, d4] => { results := [.lit (.bool true)], args := [d1, d2, d3, d4] }
  | _ => none }
def cardsLateRow : OpenClaim := { program := "ytcpadfehoaopaaa", sum := "71629e988d31809a34c29a7025f0c609c33c6c178135a76efa3ba8e96edb5427", func := "chargepark/chargeparklaw38.CardsLate", spec := "cardsLate", unfollowed := true, recurses := true, apart := false }
def CardsLateSaid : Prop := cardsLateRow.holds Try.pinned (OpenSpec.ofChange cardsLateSpec)

/-- ITS FALSE NEIGHBOUR: 'it returns false'. Refute it at one input. -/
def cardsLateWrong : ChangeSpec := { name := "cardsLate", fn := fun _ => fun
  | [d1, d2, d3, d4] => { results := [.lit (.bool false)], args := [d1, d2, d3, d4] }
  | _ => none }
def CardsLateWrongFalsely : Prop := cardsLateRow.holds Try.pinned (OpenSpec.ofChange cardsLateWrong)

/-- 'chargeparklaw38.CardsOthers': WHATEVER THE INPUT: true; the input reads as it did. -/
def cardsOthersSpec : ChangeSpec := { name := "cardsOthers", fn := fun _ => fun
  | [d1, d2, d3, d4, d5] => { results := [.lit (.bool true)], args := [d1, d2, d3, d4, d5] }
  | _ => none }
def cardsOthersRow : OpenClaim := { program := "ytcpadfehoaopaaa", sum := "71629e988d31809a34c29a7025f0c609c33c6c178135a76efa3ba8e96edb5427", func := "chargepark/chargeparklaw38.CardsOthers", spec := "cardsOthers", unfollowed := true, recurses := true, apart := false }
def CardsOthersSaid : Prop := cardsOthersRow.holds Try.pinned (OpenSpec.ofChange cardsOthersSpec)

/-- ITS FALSE NEIGHBOUR: 'it returns false'. Refute it at one input. -/
def cardsOthersWrong : ChangeSpec := { name := "cardsOthers", fn := fun _ => fun
  | [d1, d2, d3, d4, d5] => { results := [.lit (.bool false)], args := [d1, d2, d3, d4, d5] }
  | _ => none }
def CardsOthersWrongFalsely : Prop := cardsOthersRow.holds Try.pinned (OpenSpec.ofChange cardsOthersWrong)

/- THE SECOND FORM. 'bulk': how many values and letters a reading holds, each counted each time it is reached (what is shared counts as often as it is met; a slice's spare places count too). A statement '..UptoSaid' is the law's where the arguments, and the package variables that the reading takes, are together of bulk at most 1048576: NARROWER than '..Said'. Prove '..Said' where nothing that the law and all that it calls make is longer than what came in: it says more and counts as full. Else prove '..UptoSaid'. A law counts once. -/
mutual
def uptoBulk {H : Type} : DataW H → Nat
  | .lit (.string bytes) => bytes.length + 1
  | .lit _ => 1
  | .nil => 1
  | .ptr d => uptoBulk d + 1
  | .slice elems spare => uptoBulkAll elems + uptoBulkAll spare + 1
  | .agg parts => uptoBulkAll parts + 1
  | .iface _ d => uptoBulk d + 1
  | .map entries => uptoBulkEntries entries + 1
  | .held _ => 1
def uptoBulkAll {H : Type} : List (DataW H) → Nat
  | [] => 0
  | d :: r => uptoBulk d + uptoBulkAll r
def uptoBulkEntries {H : Type} : List (Lit × DataW H) → Nat
  | [] => 0
  | x :: r => uptoBulkEntry x + uptoBulkEntries r
def uptoBulkEntry {H : Type} : Lit × DataW H → Nat
  | (.string bytes, d) => bytes.length + uptoBulk d + 1
  | (_, d) => uptoBulk d + 1
 end
def uptoSmall : (H : Type) → List (DataW H) → Bool := fun _ ds => decide (uptoBulkAll ds ≤ 1048576)
def OpenSpec.upto (s : _root_.Go.ChangeSpec) : _root_.Go.OpenSpec := { _root_.Go.OpenSpec.ofChange s with cond := some uptoSmall }

/-- 'chargeparklaw38.CardsMatchesReference', WHERE WHAT IT READS IS OF BULK AT MOST 1048576: true; the input reads as it did. -/
def cardsMatchesReferenceUptoRow : OpenClaim := { program := "ytcpadfehoaopaaa", sum := "71629e988d31809a34c29a7025f0c609c33c6c178135a76efa3ba8e96edb5427", func := "chargepark/chargeparklaw38.CardsMatchesReference", spec := "cardsMatchesReference", unfollowed := true, recurses := true, apart := false, narrowed := true }
def CardsMatchesReferenceUptoSaid : Prop := cardsMatchesReferenceUptoRow.holds Try.pinned (OpenSpec.upto cardsMatchesReferenceSpec)

/-- 'chargeparklaw38.CardsEpochs', WHERE WHAT IT READS IS OF BULK AT MOST 1048576: true; the input reads as it did. -/
def cardsEpochsUptoRow : OpenClaim := { program := "ytcpadfehoaopaaa", sum := "71629e988d31809a34c29a7025f0c609c33c6c178135a76efa3ba8e96edb5427", func := "chargepark/chargeparklaw38.CardsEpochs", spec := "cardsEpochs", unfollowed := true, recurses := true, apart := false, narrowed := true }
def CardsEpochsUptoSaid : Prop := cardsEpochsUptoRow.holds Try.pinned (OpenSpec.upto cardsEpochsSpec)

/-- 'chargeparklaw38.CardsForGood', WHERE WHAT IT READS IS OF BULK AT MOST 1048576: true; the input reads as it did. -/
def cardsForGoodUptoRow : OpenClaim := { program := "ytcpadfehoaopaaa", sum := "71629e988d31809a34c29a7025f0c609c33c6c178135a76efa3ba8e96edb5427", func := "chargepark/chargeparklaw38.CardsForGood", spec := "cardsForGood", unfollowed := true, recurses := true, apart := false, narrowed := true }
def CardsForGoodUptoSaid : Prop := cardsForGoodUptoRow.holds Try.pinned (OpenSpec.upto cardsForGoodSpec)

/-- 'chargeparklaw38.CardsJoin', WHERE WHAT IT READS IS OF BULK AT MOST 1048576: true; the input reads as it did. -/
def cardsJoinUptoRow : OpenClaim := { program := "ytcpadfehoaopaaa", sum := "71629e988d31809a34c29a7025f0c609c33c6c178135a76efa3ba8e96edb5427", func := "chargepark/chargeparklaw38.CardsJoin", spec := "cardsJoin", unfollowed := true, recurses := true, apart := false, narrowed := true }
def CardsJoinUptoSaid : Prop := cardsJoinUptoRow.holds Try.pinned (OpenSpec.upto cardsJoinSpec)

/-- 'chargeparklaw38.CardsJoined', WHERE WHAT IT READS IS OF BULK AT MOST 1048576: true; the input reads as it did. -/
def cardsJoinedUptoRow : OpenClaim := { program := "ytcpadfehoaopaaa", sum := "71629e988d31809a34c29a7025f0c609c33c6c178135a76efa3ba8e96edb5427", func := "chargepark/chargeparklaw38.CardsJoined", spec := "cardsJoined", unfollowed := true, recurses := true, apart := false, narrowed := true }
def CardsJoinedUptoSaid : Prop := cardsJoinedUptoRow.holds Try.pinned (OpenSpec.upto cardsJoinedSpec)

/-- 'chargeparklaw38.CardsLate', WHERE WHAT IT READS IS OF BULK AT MOST 1048576: true; the input reads as it did. -/
def cardsLateUptoRow : OpenClaim := { program := "ytcpadfehoaopaaa", sum := "71629e988d31809a34c29a7025f0c609c33c6c178135a76efa3ba8e96edb5427", func := "chargepark/chargeparklaw38.CardsLate", spec := "cardsLate", unfollowed := true, recurses := true, apart := false, narrowed := true }
def CardsLateUptoSaid : Prop := cardsLateUptoRow.holds Try.pinned (OpenSpec.upto cardsLateSpec)

/-- 'chargeparklaw38.CardsOthers', WHERE WHAT IT READS IS OF BULK AT MOST 1048576: true; the input reads as it did. -/
def cardsOthersUptoRow : OpenClaim := { program := "ytcpadfehoaopaaa", sum := "71629e988d31809a34c29a7025f0c609c33c6c178135a76efa3ba8e96edb5427", func := "chargepark/chargeparklaw38.CardsOthers", spec := "cardsOthers", unfollowed := true, recurses := true, apart := false, narrowed := true }
def CardsOthersUptoSaid : Prop := cardsOthersUptoRow.holds Try.pinned (OpenSpec.upto cardsOthersSpec)

end Rows
end Go.Proofs.Ytcpadfehoaopaaa
