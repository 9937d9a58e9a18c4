/-
  No cell of these rows narrows 'for every input' (looked for: loops, veiled, ifaces, maps, wideKeys, modest, calm, conditions, laid).
  DERIVED. THE GIVEN ROWS OF THIS SEAT. 6 by the template 'for every input the law returns true; each argument reads behind the call as it read before'; 0 by the template 'total and deterministic' (their statements: YtipbkcegnkpcmaaTotals.lean).
  GIVEN WITH THE SEED: the statements are not yours to turn. If you find one false, say at which input.
  Laid BY PROGRAM, IN A SANDBOX (cutbox-rows.mjs): the forced cells as the released guide's own fill.sh prints them over the translation 0f149ced07a60af0… (all of the seat's roots in one cut). By AI agents, Wed Nov 11 2026. No macro, syntax, notation, axiom, sorry.
-/
import Derived.Test.YtipbkcegnkpcmaaChecked
import GoSem.Claim
import GoSem.ClaimJoined
import GoSem.ClaimMapViews
import Derived.JoinedTies
import Derived.KernelRfl
namespace Go.Proofs.Ytipbkcegnkpcmaa
/- THE CELL 'sum', in the pinned program and in every row, IS THE sha256 OF THE DUMP (.gsa) THAT YtipbkcegnkpcmaaProg.lean LOADS. Nothing in Lean hashes anything: it is a label: what it is worth is what the hold of that sum in a sandbox is worth. -/
noncomputable def Try.pinned : Pinned := { name := "ytipbkcegnkpcmaa", sum := "0f149ced07a60af08b3c0d5c2f22a17b20c962ede6dfeb36abb3617a48ab9d9f", checked := Try.checked }
namespace Rows
def none {H : Type} : Left H := { results := [], args := [] }

/-- 'hemiolalaw50.ClipboardReverses': WHATEVER THE INPUT: true; the input reads as it did. -/
def clipboardReversesSpec : ChangeSpec := { name := "clipboardReverses", fn := fun _ => fun
  | [d] => { results := [.lit (.bool true)], args := [d] }
  | _ => none }
def clipboardReversesRow : OpenClaim := { program := "ytipbkcegnkpcmaa", sum := "0f149ced07a60af08b3c0d5c2f22a17b20c962ede6dfeb36abb3617a48ab9d9f", func := "hemiola/hemiolalaw50.ClipboardReverses", spec := "clipboardReverses", unfollowed := true, recurses := true, apart := false }
def ClipboardReversesSaid : Prop := clipboardReversesRow.holds Try.pinned (OpenSpec.ofChange clipboardReversesSpec)

/-- ITS FALSE NEIGHBOUR: 'it returns false'. Refute it at one input. -/
def clipboardReversesWrong : ChangeSpec := { name := "clipboardReverses", fn := fun _ => fun
  | [d] => { results := [.lit (.bool false)], args := [d] }
  | _ => none }
def ClipboardReversesWrongFalsely : Prop := clipboardReversesRow.holds Try.pinned (OpenSpec.ofChange clipboardReversesWrong)

/-- 'hemiolalaw50.ClipboardChecks': WHATEVER THE INPUT: true; the input reads as it did. -/
def clipboardChecksSpec : ChangeSpec := { name := "clipboardChecks", fn := fun _ => fun
  | [d1, d2] => { results := [.lit (.bool true)], args := [d1, d2] }
  | _ => none }
def clipboardChecksRow : OpenClaim := { program := "ytipbkcegnkpcmaa", sum := "0f149ced07a60af08b3c0d5c2f22a17b20c962ede6dfeb36abb3617a48ab9d9f", func := "hemiola/hemiolalaw50.ClipboardChecks", spec := "clipboardChecks", unfollowed := true, recurses := true, apart := false }
def ClipboardChecksSaid : Prop := clipboardChecksRow.holds Try.pinned (OpenSpec.ofChange clipboardChecksSpec)

/-- ITS FALSE NEIGHBOUR: 'it returns false'. Refute it at one input. -/
def clipboardChecksWrong : ChangeSpec := { name := "clipboardChecks", fn := fun _ => fun
  | [d1, d2] => { results := [.lit (.bool false)], args := [d1, d2] }
  | _ => none }
def ClipboardChecksWrongFalsely : Prop := clipboardChecksRow.holds Try.pinned (OpenSpec.ofChange clipboardChecksWrong)

/-- 'hemiolalaw50.ClipboardStretches': WHATEVER THE INPUT: true; the input reads as it did. -/
def clipboardStretchesSpec : ChangeSpec := { name := "clipboardStretches", fn := fun _ => fun
  | [d1, d2, d3] => { results := [.lit (.bool true)], args := [d1, d2, d3] }
  | _ => none }
def clipboardStretchesRow : OpenClaim := { program := "ytipbkcegnkpcmaa", sum := "0f149ced07a60af08b3c0d5c2f22a17b20c962ede6dfeb36abb3617a48ab9d9f", func := "hemiola/hemiolalaw50.ClipboardStretches", spec := "clipboardStretches", unfollowed := true, recurses := true, apart := false }
def ClipboardStretchesSaid : Prop := clipboardStretchesRow.holds Try.pinned (OpenSpec.ofChange clipboardStretchesSpec)

/-- ITS FALSE NEIGHBOUR: 'it returns false'. Refute it at one input. -/
def clipboardStretchesWrong : ChangeSpec := { name := "clipboardStretches", fn := fun _ => fun
  | [d1, d2, d3] => { results := [.lit (.bool false)], args := [d1, d2, d3] }
  | _ => none }
def ClipboardStretchesWrongFalsely : Prop := clipboardStretchesRow.holds Try.pinned (OpenSpec.ofChange clipboardStretchesWrong)

/-- 'hemiolalaw50.ClipboardSubs': WHATEVER THE INPUT: true; the input reads as it did. -/
def clipboardSubsSpec : ChangeSpec := { name := "clipboardSubs", fn := fun _ => fun
  | [d1, d2, d3] => { results := [.lit (.bool true)], args := [d1, d2, d3] }
  | _ => none }
def clipboardSubsRow : OpenClaim := { program := "ytipbkcegnkpcmaa", sum := "0f149ced07a60af08b3c0d5c2f22a17b20c962ede6dfeb36abb3617a48ab9d9f", func := "hemiola/hemiolalaw50.ClipboardSubs", spec := "clipboardSubs", unfollowed := true, recurses := true, apart := false }
def ClipboardSubsSaid : Prop := clipboardSubsRow.holds Try.pinned (OpenSpec.ofChange clipboardSubsSpec)

/-- ITS FALSE NEIGHBOUR: 'it returns false'. Refute it at one input. -/
def clipboardSubsWrong : ChangeSpec := { name := "clipboardSubs", fn := fun _ => fun
  | [d1, d2, d3] => { results := [.lit (.bool false)], args := [d1, d2, d3] }
  | _ => none }
def ClipboardSubsWrongFalsely : Prop := clipboardSubsRow.holds Try.pinned (OpenSpec.ofChange clipboardSubsWrong)

/-- 'hemiolalaw50.ClipboardJoins': WHATEVER THE INPUT: true; the input reads as it did. -/
def clipboardJoinsSpec : ChangeSpec := { name := "clipboardJoins", fn := fun _ => fun
  | [d1, d2] => { results := [.lit (.bool true)], args := [d1, d2] }
  | _ => none }
def clipboardJoinsRow : OpenClaim := { program := "ytipbkcegnkpcmaa", sum := "0f149ced07a60af08b3c0d5c2f22a17b20c962ede6dfeb36abb3617a48ab9d9f", func := "hemiola/hemiolalaw50.ClipboardJoins", spec := "clipboardJoins", unfollowed := true, recurses := true, apart := false }
def ClipboardJoinsSaid : Prop := clipboardJoinsRow.holds Try.pinned (OpenSpec.ofChange clipboardJoinsSpec)

/-- ITS FALSE NEIGHBOUR: 'it returns false'. Refute it at one input. -/
def clipboardJoinsWrong : ChangeSpec := { name := "clipboardJoins", fn := fun _ => fun
  | [d1, d2] => { results := [.lit (.bool false)], args := [d1, d2] }
  | _ => none }
def ClipboardJoinsWrongFalsely : Prop := clipboardJoinsRow.holds Try.pinned (OpenSpec.ofChange clipboardJoinsWrong)

/-- 'hemiolalaw50.ClipboardTransposes': WHATEVER THE INPUT: true; the input reads as it did. -/
def clipboardTransposesSpec : ChangeSpec := { name := "clipboardTransposes", fn := fun _ => fun
  | [d1, d2] => { results := [.lit (.bool true)], args := [d1, d2] }
  | _ => none }
def clipboardTransposesRow : OpenClaim := { program := "ytipbkcegnkpcmaa", sum := "0f149ced07a60af08b3c0d5c2f22a17b20c962ede6dfeb36abb3617a48ab9d9f", func := "hemiola/hemiolalaw50.ClipboardTransposes", spec := "clipboardTransposes", unfollowed := true, recurses := true, apart := false }
def ClipboardTransposesSaid : Prop := clipboardTransposesRow.holds Try.pinned (OpenSpec.ofChange clipboardTransposesSpec)

/-- ITS FALSE NEIGHBOUR: 'it returns false'. Refute it at one input. -/
def clipboardTransposesWrong : ChangeSpec := { name := "clipboardTransposes", fn := fun _ => fun
  | [d1, d2] => { results := [.lit (.bool false)], args := [d1, d2] }
  | _ => none }
def ClipboardTransposesWrongFalsely : Prop := clipboardTransposesRow.holds Try.pinned (OpenSpec.ofChange clipboardTransposesWrong)

/- THE SECOND FORM. 'bulk': how many values and letters a reading holds, each counted each time it is reached (what is shared counts as often as it is met; a slice's spare places count too). A statement '..UptoSaid' is the law's where the arguments, and the package variables that the reading takes, are together of bulk at most 1048576: NARROWER than '..Said'. Prove '..Said' where nothing that the law and all that it calls make is longer than what came in: it says more and counts as full. Else prove '..UptoSaid'. A law counts once. -/
mutual
def uptoBulk {H : Type} : DataW H → Nat
  | .lit (.string bytes) => bytes.length + 1
  | .lit _ => 1
  | .nil => 1
  | .ptr d => uptoBulk d + 1
  | .slice elems spare => uptoBulkAll elems + uptoBulkAll spare + 1
  | .agg parts => uptoBulkAll parts + 1
  | .iface _ d => uptoBulk d + 1
  | .map entries => uptoBulkEntries entries + 1
  | .held _ => 1
def uptoBulkAll {H : Type} : List (DataW H) → Nat
  | [] => 0
  | d :: r => uptoBulk d + uptoBulkAll r
def uptoBulkEntries {H : Type} : List (Lit × DataW H) → Nat
  | [] => 0
  | x :: r => uptoBulkEntry x + uptoBulkEntries r
def uptoBulkEntry {H : Type} : Lit × DataW H → Nat
  | (.string bytes, d) => bytes.length + uptoBulk d + 1
  | (_, d) => uptoBulk d + 1
 end
def uptoSmall : (H : Type) → List (DataW H) → Bool := fun _ ds => decide (uptoBulkAll ds ≤ 1048576)
def OpenSpec.upto (s : _root_.Go.ChangeSpec) : _root_.Go.OpenSpec := { _root_.Go.OpenSpec.ofChange s with cond := some uptoSmall }

/-- 'hemiolalaw50.ClipboardReverses', WHERE WHAT IT READS IS OF BULK AT MOST 1048576: true; the input reads as it did. -/
def clipboardReversesUptoRow : OpenClaim := { program := "ytipbkcegnkpcmaa", sum := "0f149ced07a60af08b3c0d5c2f22a17b20c962ede6dfeb36abb3617a48ab9d9f", func := "hemiola/hemiolalaw50.ClipboardReverses", spec := "clipboardReverses", unfollowed := true, recurses := true, apart := false, narrowed := true }
def ClipboardReversesUptoSaid : Prop := clipboardReversesUptoRow.holds Try.pinned (OpenSpec.upto clipboardReversesSpec)

/-- 'hemiolalaw50.ClipboardChecks', WHERE WHAT IT READS IS OF BULK AT MOST 1048576: true; the input reads as it did. -/
def clipboardChecksUptoRow : OpenClaim := { program := "ytipbkcegnkpcmaa", sum := "0f149ced07a60af08b3c0d5c2f22a17b20c962ede6dfeb36abb3617a48ab9d9f", func := "hemiola/hemiolalaw50.ClipboardChecks", spec := "clipboardChecks", unfollowed := true, recurses := true, apart := false, narrowed := true }
def ClipboardChecksUptoSaid : Prop := clipboardChecksUptoRow.holds Try.pinned (OpenSpec.upto clipboardChecksSpec)

/-- 'hemiolalaw50.ClipboardStretches', WHERE WHAT IT READS IS OF BULK AT MOST 1048576: true; the input reads as it did. -/
def clipboardStretchesUptoRow : OpenClaim := { program := "ytipbkcegnkpcmaa", sum := "0f149ced07a60af08b3c0d5c2f22a17b20c962ede6dfeb36abb3617a48ab9d9f", func := "hemiola/hemiolalaw50.ClipboardStretches", spec := "clipboardStretches", unfollowed := true, recurses := true, apart := false, narrowed := true }
def ClipboardStretchesUptoSaid : Prop := clipboardStretchesUptoRow.holds Try.pinned (OpenSpec.upto clipboardStretchesSpec)

/-- 'hemiolalaw50.ClipboardSubs', WHERE WHAT IT READS IS OF BULK AT MOST 1048576: true; the input reads as it did. -/
def clipboardSubsUptoRow : OpenClaim := { program := "ytipbkcegnkpcmaa", sum := "0f149ced07a60af08b3c0d5c2f22a17b20c962ede6dfeb36abb3617a48ab9d9f", func := "hemiola/hemiolalaw50.ClipboardSubs", spec := "clipboardSubs", unfollowed := true, recurses := true, apart := false, narrowed := true }
def ClipboardSubsUptoSaid : Prop := clipboardSubsUptoRow.holds Try.pinned (OpenSpec.upto clipboardSubsSpec)

/-- 'hemiolalaw50.ClipboardJoins', WHERE WHAT IT READS IS OF BULK AT MOST 1048576: true; the input reads as it did. -/
def clipboardJoinsUptoRow : OpenClaim := { program := "ytipbkcegnkpcmaa", sum := "0f149ced07a60af08b3c0d5c2f22a17b20c962ede6dfeb36abb3617a48ab9d9f", func := "hemiola/hemiolalaw50.ClipboardJoins", spec := "clipboardJoins", unfollowed := true, recurses := true, apart := false, narrowed := true }
def ClipboardJoinsUptoSaid : Prop := clipboardJoinsUptoRow.holds Try.pinned (OpenSpec.upto clipboardJoinsSpec)

/-- 'hemiolalaw50.ClipboardTransposes', WHERE WHAT IT READS IS OF BULK AT MOST 1048576: true; the input reads as it did. -/
def clipboardTransposesUptoRow : OpenClaim := { program := "ytipbkcegnkpcmaa", sum := "0f149ced07a60af08b3c0d5c2f22a17b20c962ede6dfeb36abb3617a48ab9d9f", func := "hemiola/hemiolalaw50.ClipboardTransposes", spec := "clipboardTransposes", unfollowed := true, recurses := true, apart := false, narrowed := true }
def ClipboardTransposesUptoSaid : Prop := clipboardTransposesUptoRow.holds Try.pinned (OpenSpec.upto clipboardTransposesSpec)

end Rows
end Go.Proofs.Ytipbkcegnkpcmaa
