/-
  No cell of these rows narrows 'for every input' (looked for: loops, veiled, ifaces, maps, wideKeys, modest, calm, conditions, laid).
  DERIVED. THE GIVEN ROWS OF THIS SEAT. 11 by the template 'for every input the law returns true; each argument reads behind the call as it read before'; 0 by the template 'total and deterministic' (their statements: YtnlhhjmheghnnaaTotals.lean).
  GIVEN WITH THE SEED: the statements are not yours to turn. If you find one false, say at which input.
  Laid BY PROGRAM, IN A SANDBOX (cutbox-rows.mjs): the forced cells as the released guide's own fill.sh prints them over the translation 0746b074f3c708e2… (all of the seat's roots in one cut). By AI agents, Wed Nov 11 2026. No macro, syntax, notation, axiom, sorry.
-/
import Derived.Test.YtnlhhjmheghnnaaChecked
import GoSem.Claim
import GoSem.ClaimJoined
import GoSem.ClaimMapViews
import Derived.JoinedTies
import Derived.KernelRfl
namespace Go.Proofs.Ytnlhhjmheghnnaa
/- THE CELL 'sum', in the pinned program and in every row, IS THE sha256 OF THE DUMP (.gsa) THAT YtnlhhjmheghnnaaProg.lean LOADS. Nothing in Lean hashes anything: it is a label: what it is worth is what the hold of that sum in a sandbox is worth. -/
noncomputable def Try.pinned : Pinned := { name := "ytnlhhjmheghnnaa", sum := "0746b074f3c708e2df5271d541443aa9d5675154f53caa770e2a0622e0a71889", checked := Try.checked }
namespace Rows
def none {H : Type} : Left H := { results := [], args := [] }

/-- 'hemiolalaw15.ScoreObjects': WHATEVER THE INPUT: true; the input reads as it did. -/
def scoreObjectsSpec : ChangeSpec := { name := "scoreObjects", fn := fun _ => fun
  | [d1, d2] => { results := [.lit (.bool true)], args := [d1, d2] }
  | _ => none }
def scoreObjectsRow : OpenClaim := { program := "ytnlhhjmheghnnaa", sum := "0746b074f3c708e2df5271d541443aa9d5675154f53caa770e2a0622e0a71889", func := "hemiola/hemiolalaw15.ScoreObjects", spec := "scoreObjects", inPlace := ["slices.overlaps[hemiola/api.ID]"], unfollowed := true, recurses := true, plainKeys := false, apart := false }
def ScoreObjectsSaid : Prop := scoreObjectsRow.holds Try.pinned (OpenSpec.ofChange scoreObjectsSpec)

/-- ITS FALSE NEIGHBOUR: 'it returns false'. Refute it at one input. -/
def scoreObjectsWrong : ChangeSpec := { name := "scoreObjects", fn := fun _ => fun
  | [d1, d2] => { results := [.lit (.bool false)], args := [d1, d2] }
  | _ => none }
def ScoreObjectsWrongFalsely : Prop := scoreObjectsRow.holds Try.pinned (OpenSpec.ofChange scoreObjectsWrong)

/-- 'hemiolalaw15.ScoreStaves': WHATEVER THE INPUT: true; the input reads as it did. -/
def scoreStavesSpec : ChangeSpec := { name := "scoreStaves", fn := fun _ => fun
  | [d1, d2] => { results := [.lit (.bool true)], args := [d1, d2] }
  | _ => none }
def scoreStavesRow : OpenClaim := { program := "ytnlhhjmheghnnaa", sum := "0746b074f3c708e2df5271d541443aa9d5675154f53caa770e2a0622e0a71889", func := "hemiola/hemiolalaw15.ScoreStaves", spec := "scoreStaves", inPlace := ["slices.overlaps[hemiola/api.ID]"], unfollowed := true, recurses := true, plainKeys := false, apart := false }
def ScoreStavesSaid : Prop := scoreStavesRow.holds Try.pinned (OpenSpec.ofChange scoreStavesSpec)

/-- ITS FALSE NEIGHBOUR: 'it returns false'. Refute it at one input. -/
def scoreStavesWrong : ChangeSpec := { name := "scoreStaves", fn := fun _ => fun
  | [d1, d2] => { results := [.lit (.bool false)], args := [d1, d2] }
  | _ => none }
def ScoreStavesWrongFalsely : Prop := scoreStavesRow.holds Try.pinned (OpenSpec.ofChange scoreStavesWrong)

/-- 'hemiolalaw15.ScoreGives': WHATEVER THE INPUT: true; the input reads as it did. -/
def scoreGivesSpec : ChangeSpec := { name := "scoreGives", fn := fun _ => fun
  | [d1, d2, d3] => { results := [.lit (.bool true)], args := [d1, d2, d3] }
  | _ => none }
def scoreGivesRow : OpenClaim := { program := "ytnlhhjmheghnnaa", sum := "0746b074f3c708e2df5271d541443aa9d5675154f53caa770e2a0622e0a71889", func := "hemiola/hemiolalaw15.ScoreGives", spec := "scoreGives", inPlace := ["slices.overlaps[hemiola/api.ID]"], unfollowed := true, recurses := true, plainKeys := false, apart := false }
def ScoreGivesSaid : Prop := scoreGivesRow.holds Try.pinned (OpenSpec.ofChange scoreGivesSpec)

/-- ITS FALSE NEIGHBOUR: 'it returns false'. Refute it at one input. -/
def scoreGivesWrong : ChangeSpec := { name := "scoreGives", fn := fun _ => fun
  | [d1, d2, d3] => { results := [.lit (.bool false)], args := [d1, d2, d3] }
  | _ => none }
def ScoreGivesWrongFalsely : Prop := scoreGivesRow.holds Try.pinned (OpenSpec.ofChange scoreGivesWrong)

/-- 'hemiolalaw15.ScoreManyParts': WHATEVER THE INPUT: true; the input reads as it did. -/
def scoreManyPartsSpec : ChangeSpec := { name := "scoreManyParts", fn := fun _ => fun
  | [d] => { results := [.lit (.bool true)], args := [d] }
  | _ => none }
def scoreManyPartsRow : OpenClaim := { program := "ytnlhhjmheghnnaa", sum := "0746b074f3c708e2df5271d541443aa9d5675154f53caa770e2a0622e0a71889", func := "hemiola/hemiolalaw15.ScoreManyParts", spec := "scoreManyParts", inPlace := ["slices.overlaps[hemiola/api.Cell]", "slices.overlaps[hemiola/api.Part]", "slices.overlaps[hemiola/api.ID]"], unfollowed := true, recurses := true, plainKeys := false, apart := false }
def ScoreManyPartsSaid : Prop := scoreManyPartsRow.holds Try.pinned (OpenSpec.ofChange scoreManyPartsSpec)

/-- ITS FALSE NEIGHBOUR: 'it returns false'. Refute it at one input. -/
def scoreManyPartsWrong : ChangeSpec := { name := "scoreManyParts", fn := fun _ => fun
  | [d] => { results := [.lit (.bool false)], args := [d] }
  | _ => none }
def ScoreManyPartsWrongFalsely : Prop := scoreManyPartsRow.holds Try.pinned (OpenSpec.ofChange scoreManyPartsWrong)

/-- 'hemiolalaw15.ScoreNeighbours': WHATEVER THE INPUT: true; the input reads as it did. -/
def scoreNeighboursSpec : ChangeSpec := { name := "scoreNeighbours", fn := fun _ => fun
  | [d1, d2] => { results := [.lit (.bool true)], args := [d1, d2] }
  | _ => none }
def scoreNeighboursRow : OpenClaim := { program := "ytnlhhjmheghnnaa", sum := "0746b074f3c708e2df5271d541443aa9d5675154f53caa770e2a0622e0a71889", func := "hemiola/hemiolalaw15.ScoreNeighbours", spec := "scoreNeighbours", inPlace := ["slices.overlaps[hemiola/api.ID]"], unfollowed := true, recurses := true, plainKeys := false, apart := false }
def ScoreNeighboursSaid : Prop := scoreNeighboursRow.holds Try.pinned (OpenSpec.ofChange scoreNeighboursSpec)

/-- ITS FALSE NEIGHBOUR: 'it returns false'. Refute it at one input. -/
def scoreNeighboursWrong : ChangeSpec := { name := "scoreNeighbours", fn := fun _ => fun
  | [d1, d2] => { results := [.lit (.bool false)], args := [d1, d2] }
  | _ => none }
def ScoreNeighboursWrongFalsely : Prop := scoreNeighboursRow.holds Try.pinned (OpenSpec.ofChange scoreNeighboursWrong)

/-- 'hemiolalaw15.ScoreEquals': WHATEVER THE INPUT: true; the input reads as it did. -/
def scoreEqualsSpec : ChangeSpec := { name := "scoreEquals", fn := fun _ => fun
  | [d1, d2] => { results := [.lit (.bool true)], args := [d1, d2] }
  | _ => none }
def scoreEqualsRow : OpenClaim := { program := "ytnlhhjmheghnnaa", sum := "0746b074f3c708e2df5271d541443aa9d5675154f53caa770e2a0622e0a71889", func := "hemiola/hemiolalaw15.ScoreEquals", spec := "scoreEquals", inPlace := ["slices.overlaps[hemiola/api.ID]"], unfollowed := true, recurses := true, plainKeys := false, apart := false }
def ScoreEqualsSaid : Prop := scoreEqualsRow.holds Try.pinned (OpenSpec.ofChange scoreEqualsSpec)

/-- ITS FALSE NEIGHBOUR: 'it returns false'. Refute it at one input. -/
def scoreEqualsWrong : ChangeSpec := { name := "scoreEquals", fn := fun _ => fun
  | [d1, d2] => { results := [.lit (.bool false)], args := [d1, d2] }
  | _ => none }
def ScoreEqualsWrongFalsely : Prop := scoreEqualsRow.holds Try.pinned (OpenSpec.ofChange scoreEqualsWrong)

/-- 'hemiolalaw15.ScoreSets': WHATEVER THE INPUT: true; the input reads as it did. -/
def scoreSetsSpec : ChangeSpec := { name := "scoreSets", fn := fun _ => fun
  | [d1, d2, d3] => { results := [.lit (.bool true)], args := [d1, d2, d3] }
  | _ => none }
def scoreSetsRow : OpenClaim := { program := "ytnlhhjmheghnnaa", sum := "0746b074f3c708e2df5271d541443aa9d5675154f53caa770e2a0622e0a71889", func := "hemiola/hemiolalaw15.ScoreSets", spec := "scoreSets", inPlace := ["slices.overlaps[hemiola/api.ID]"], unfollowed := true, recurses := true, plainKeys := false, apart := false }
def ScoreSetsSaid : Prop := scoreSetsRow.holds Try.pinned (OpenSpec.ofChange scoreSetsSpec)

/-- ITS FALSE NEIGHBOUR: 'it returns false'. Refute it at one input. -/
def scoreSetsWrong : ChangeSpec := { name := "scoreSets", fn := fun _ => fun
  | [d1, d2, d3] => { results := [.lit (.bool false)], args := [d1, d2, d3] }
  | _ => none }
def ScoreSetsWrongFalsely : Prop := scoreSetsRow.holds Try.pinned (OpenSpec.ofChange scoreSetsWrong)

/-- 'hemiolalaw15.ScoreEvents': WHATEVER THE INPUT: true; the input reads as it did. -/
def scoreEventsSpec : ChangeSpec := { name := "scoreEvents", fn := fun _ => fun
  | [d1, d2, d3] => { results := [.lit (.bool true)], args := [d1, d2, d3] }
  | _ => none }
def scoreEventsRow : OpenClaim := { program := "ytnlhhjmheghnnaa", sum := "0746b074f3c708e2df5271d541443aa9d5675154f53caa770e2a0622e0a71889", func := "hemiola/hemiolalaw15.ScoreEvents", spec := "scoreEvents", inPlace := ["slices.overlaps[hemiola/api.ID]"], unfollowed := true, recurses := true, plainKeys := false, apart := false }
def ScoreEventsSaid : Prop := scoreEventsRow.holds Try.pinned (OpenSpec.ofChange scoreEventsSpec)

/-- ITS FALSE NEIGHBOUR: 'it returns false'. Refute it at one input. -/
def scoreEventsWrong : ChangeSpec := { name := "scoreEvents", fn := fun _ => fun
  | [d1, d2, d3] => { results := [.lit (.bool false)], args := [d1, d2, d3] }
  | _ => none }
def ScoreEventsWrongFalsely : Prop := scoreEventsRow.holds Try.pinned (OpenSpec.ofChange scoreEventsWrong)

/-- 'hemiolalaw15.ScoreRenumbers': WHATEVER THE INPUT: true; the input reads as it did. -/
def scoreRenumbersSpec : ChangeSpec := { name := "scoreRenumbers", fn := fun _ => fun
  | [d1, d2] => { results := [.lit (.bool true)], args := [d1, d2] }
  | _ => none }
def scoreRenumbersRow : OpenClaim := { program := "ytnlhhjmheghnnaa", sum := "0746b074f3c708e2df5271d541443aa9d5675154f53caa770e2a0622e0a71889", func := "hemiola/hemiolalaw15.ScoreRenumbers", spec := "scoreRenumbers", inPlace := ["slices.overlaps[hemiola/api.ID]"], unfollowed := true, recurses := true, plainKeys := false, apart := false }
def ScoreRenumbersSaid : Prop := scoreRenumbersRow.holds Try.pinned (OpenSpec.ofChange scoreRenumbersSpec)

/-- ITS FALSE NEIGHBOUR: 'it returns false'. Refute it at one input. -/
def scoreRenumbersWrong : ChangeSpec := { name := "scoreRenumbers", fn := fun _ => fun
  | [d1, d2] => { results := [.lit (.bool false)], args := [d1, d2] }
  | _ => none }
def ScoreRenumbersWrongFalsely : Prop := scoreRenumbersRow.holds Try.pinned (OpenSpec.ofChange scoreRenumbersWrong)

/-- 'hemiolalaw15.ScoreMeasures': WHATEVER THE INPUT: true; the input reads as it did. -/
def scoreMeasuresSpec : ChangeSpec := { name := "scoreMeasures", fn := fun _ => fun
  | [d1, d2, d3] => { results := [.lit (.bool true)], args := [d1, d2, d3] }
  | _ => none }
def scoreMeasuresRow : OpenClaim := { program := "ytnlhhjmheghnnaa", sum := "0746b074f3c708e2df5271d541443aa9d5675154f53caa770e2a0622e0a71889", func := "hemiola/hemiolalaw15.ScoreMeasures", spec := "scoreMeasures", inPlace := ["slices.overlaps[hemiola/api.Measure]", "slices.overlaps[hemiola/api.ID]"], unfollowed := true, recurses := true, plainKeys := false, apart := false }
def ScoreMeasuresSaid : Prop := scoreMeasuresRow.holds Try.pinned (OpenSpec.ofChange scoreMeasuresSpec)

/-- ITS FALSE NEIGHBOUR: 'it returns false'. Refute it at one input. -/
def scoreMeasuresWrong : ChangeSpec := { name := "scoreMeasures", fn := fun _ => fun
  | [d1, d2, d3] => { results := [.lit (.bool false)], args := [d1, d2, d3] }
  | _ => none }
def ScoreMeasuresWrongFalsely : Prop := scoreMeasuresRow.holds Try.pinned (OpenSpec.ofChange scoreMeasuresWrong)

/-- 'hemiolalaw15.ScoreParts': WHATEVER THE INPUT: true; the input reads as it did. -/
def scorePartsSpec : ChangeSpec := { name := "scoreParts", fn := fun _ => fun
  | [d1, d2, d3] => { results := [.lit (.bool true)], args := [d1, d2, d3] }
  | _ => none }
def scorePartsRow : OpenClaim := { program := "ytnlhhjmheghnnaa", sum := "0746b074f3c708e2df5271d541443aa9d5675154f53caa770e2a0622e0a71889", func := "hemiola/hemiolalaw15.ScoreParts", spec := "scoreParts", inPlace := ["slices.overlaps[hemiola/api.Cell]", "slices.overlaps[hemiola/api.Part]", "slices.overlaps[hemiola/api.ID]"], unfollowed := true, recurses := true, plainKeys := false, apart := false }
def ScorePartsSaid : Prop := scorePartsRow.holds Try.pinned (OpenSpec.ofChange scorePartsSpec)

/-- ITS FALSE NEIGHBOUR: 'it returns false'. Refute it at one input. -/
def scorePartsWrong : ChangeSpec := { name := "scoreParts", fn := fun _ => fun
  | [d1, d2, d3] => { results := [.lit (.bool false)], args := [d1, d2, d3] }
  | _ => none }
def ScorePartsWrongFalsely : Prop := scorePartsRow.holds Try.pinned (OpenSpec.ofChange scorePartsWrong)

/- THE SECOND FORM. 'bulk': how many values and letters a reading holds, each counted each time it is reached (what is shared counts as often as it is met; a slice's spare places count too). A statement '..UptoSaid' is the law's where the arguments, and the package variables that the reading takes, are together of bulk at most 1048576: NARROWER than '..Said'. Prove '..Said' where nothing that the law and all that it calls make is longer than what came in: it says more and counts as full. Else prove '..UptoSaid'. A law counts once. -/
mutual
def uptoBulk {H : Type} : DataW H → Nat
  | .lit (.string bytes) => bytes.length + 1
  | .lit _ => 1
  | .nil => 1
  | .ptr d => uptoBulk d + 1
  | .slice elems spare => uptoBulkAll elems + uptoBulkAll spare + 1
  | .agg parts => uptoBulkAll parts + 1
  | .iface _ d => uptoBulk d + 1
  | .map entries => uptoBulkEntries entries + 1
  | .held _ => 1
def uptoBulkAll {H : Type} : List (DataW H) → Nat
  | [] => 0
  | d :: r => uptoBulk d + uptoBulkAll r
def uptoBulkEntries {H : Type} : List (Lit × DataW H) → Nat
  | [] => 0
  | x :: r => uptoBulkEntry x + uptoBulkEntries r
def uptoBulkEntry {H : Type} : Lit × DataW H → Nat
  | (.string bytes, d) => bytes.length + uptoBulk d + 1
  | (_, d) => uptoBulk d + 1
 end
def uptoSmall : (H : Type) → List (DataW H) → Bool := fun _ ds => decide (uptoBulkAll ds ≤ 1048576)
def OpenSpec.upto (s : _root_.Go.ChangeSpec) : _root_.Go.OpenSpec := { _root_.Go.OpenSpec.ofChange s with cond := some uptoSmall }

/-- 'hemiolalaw15.ScoreObjects', WHERE WHAT IT READS IS OF BULK AT MOST 1048576: true; the input reads as it did. -/
def scoreObjectsUptoRow : OpenClaim := { program := "ytnlhhjmheghnnaa", sum := "0746b074f3c708e2df5271d541443aa9d5675154f53caa770e2a0622e0a71889", func := "hemiola/hemiolalaw15.ScoreObjects", spec := "scoreObjects", inPlace := ["slices.overlaps[hemiola/api.ID]"], unfollowed := true, recurses := true, plainKeys := false, apart := false, narrowed := true }
def ScoreObjectsUptoSaid : Prop := scoreObjectsUptoRow.holds Try.pinned (OpenSpec.upto scoreObjectsSpec)

/-- 'hemiolalaw15.ScoreStaves', WHERE WHAT IT READS IS OF BULK AT MOST 1048576: true; the input reads as it did. -/
def scoreStavesUptoRow : OpenClaim := { program := "ytnlhhjmheghnnaa", sum := "0746b074f3c708e2df5271d541443aa9d5675154f53caa770e2a0622e0a71889", func := "hemiola/hemiolalaw15.ScoreStaves", spec := "scoreStaves", inPlace := ["slices.overlaps[hemiola/api.ID]"], unfollowed := true, recurses := true, plainKeys := false, apart := false, narrowed := true }
def ScoreStavesUptoSaid : Prop := scoreStavesUptoRow.holds Try.pinned (OpenSpec.upto scoreStavesSpec)

/-- 'hemiolalaw15.ScoreGives', WHERE WHAT IT READS IS OF BULK AT MOST 1048576: true; the input reads as it did. -/
def scoreGivesUptoRow : OpenClaim := { program := "ytnlhhjmheghnnaa", sum := "0746b074f3c708e2df5271d541443aa9d5675154f53caa770e2a0622e0a71889", func := "hemiola/hemiolalaw15.ScoreGives", spec := "scoreGives", inPlace := ["slices.overlaps[hemiola/api.ID]"], unfollowed := true, recurses := true, plainKeys := false, apart := false, narrowed := true }
def ScoreGivesUptoSaid : Prop := scoreGivesUptoRow.holds Try.pinned (OpenSpec.upto scoreGivesSpec)

/-- 'hemiolalaw15.ScoreManyParts', WHERE WHAT IT READS IS OF BULK AT MOST 1048576: true; the input reads as it did. -/
def scoreManyPartsUptoRow : OpenClaim := { program := "ytnlhhjmheghnnaa", sum := "0746b074f3c708e2df5271d541443aa9d5675154f53caa770e2a0622e0a71889", func := "hemiola/hemiolalaw15.ScoreManyParts", spec := "scoreManyParts", inPlace := ["slices.overlaps[hemiola/api.Cell]", "slices.overlaps[hemiola/api.Part]", "slices.overlaps[hemiola/api.ID]"], unfollowed := true, recurses := true, plainKeys := false, apart := false, narrowed := true }
def ScoreManyPartsUptoSaid : Prop := scoreManyPartsUptoRow.holds Try.pinned (OpenSpec.upto scoreManyPartsSpec)

/-- 'hemiolalaw15.ScoreNeighbours', WHERE WHAT IT READS IS OF BULK AT MOST 1048576: true; the input reads as it did. -/
def scoreNeighboursUptoRow : OpenClaim := { program := "ytnlhhjmheghnnaa", sum := "0746b074f3c708e2df5271d541443aa9d5675154f53caa770e2a0622e0a71889", func := "hemiola/hemiolalaw15.ScoreNeighbours", spec := "scoreNeighbours", inPlace := ["slices.overlaps[hemiola/api.ID]"], unfollowed := true, recurses := true, plainKeys := false, apart := false, narrowed := true }
def ScoreNeighboursUptoSaid : Prop := scoreNeighboursUptoRow.holds Try.pinned (OpenSpec.upto scoreNeighboursSpec)

/-- 'hemiolalaw15.ScoreEquals', WHERE WHAT IT READS IS OF BULK AT MOST 1048576: true; the input reads as it did. -/
def scoreEqualsUptoRow : OpenClaim := { program := "ytnlhhjmheghnnaa", sum := "0746b074f3c708e2df5271d541443aa9d5675154f53caa770e2a0622e0a71889", func := "hemiola/hemiolalaw15.ScoreEquals", spec := "scoreEquals", inPlace := ["slices.overlaps[hemiola/api.ID]"], unfollowed := true, recurses := true, plainKeys := false, apart := false, narrowed := true }
def ScoreEqualsUptoSaid : Prop := scoreEqualsUptoRow.holds Try.pinned (OpenSpec.upto scoreEqualsSpec)

/-- 'hemiolalaw15.ScoreSets', WHERE WHAT IT READS IS OF BULK AT MOST 1048576: true; the input reads as it did. -/
def scoreSetsUptoRow : OpenClaim := { program := "ytnlhhjmheghnnaa", sum := "0746b074f3c708e2df5271d541443aa9d5675154f53caa770e2a0622e0a71889", func := "hemiola/hemiolalaw15.ScoreSets", spec := "scoreSets", inPlace := ["slices.overlaps[hemiola/api.ID]"], unfollowed := true, recurses := true, plainKeys := false, apart := false, narrowed := true }
def ScoreSetsUptoSaid : Prop := scoreSetsUptoRow.holds Try.pinned (OpenSpec.upto scoreSetsSpec)

/-- 'hemiolalaw15.ScoreEvents', WHERE WHAT IT READS IS OF BULK AT MOST 1048576: true; the input reads as it did. -/
def scoreEventsUptoRow : OpenClaim := { program := "ytnlhhjmheghnnaa", sum := "0746b074f3c708e2df5271d541443aa9d5675154f53caa770e2a0622e0a71889", func := "hemiola/hemiolalaw15.ScoreEvents", spec := "scoreEvents", inPlace := ["slices.overlaps[hemiola/api.ID]"], unfollowed := true, recurses := true, plainKeys := false, apart := false, narrowed := true }
def ScoreEventsUptoSaid : Prop := scoreEventsUptoRow.holds Try.pinned (OpenSpec.upto scoreEventsSpec)

/-- 'hemiolalaw15.ScoreRenumbers', WHERE WHAT IT READS IS OF BULK AT MOST 1048576: true; the input reads as it did. -/
def scoreRenumbersUptoRow : OpenClaim := { program := "ytnlhhjmheghnnaa", sum := "0746b074f3c708e2df5271d541443aa9d5675154f53caa770e2a0622e0a71889", func := "hemiola/hemiolalaw15.ScoreRenumbers", spec := "scoreRenumbers", inPlace := ["slices.overlaps[hemiola/api.ID]"], unfollowed := true, recurses := true, plainKeys := false, apart := false, narrowed := true }
def ScoreRenumbersUptoSaid : Prop := scoreRenumbersUptoRow.holds Try.pinned (OpenSpec.upto scoreRenumbersSpec)

/-- 'hemiolalaw15.ScoreMeasures', WHERE WHAT IT READS IS OF BULK AT MOST 1048576: true; the input reads as it did. -/
def scoreMeasuresUptoRow : OpenClaim := { program := "ytnlhhjmheghnnaa", sum := "0746b074f3c708e2df5271d541443aa9d5675154f53caa770e2a0622e0a71889", func := "hemiola/hemiolalaw15.ScoreMeasures", spec := "scoreMeasures", inPlace := ["slices.overlaps[hemiola/api.Measure]", "slices.overlaps[hemiola/api.ID]"], unfollowed := true, recurses := true, plainKeys := false, apart := false, narrowed := true }
def ScoreMeasuresUptoSaid : Prop := scoreMeasuresUptoRow.holds Try.pinned (OpenSpec.upto scoreMeasuresSpec)

/-- 'hemiolalaw15.ScoreParts', WHERE WHAT IT READS IS OF BULK AT MOST 1048576: true; the input reads as it did. -/
def scorePartsUptoRow : OpenClaim := { program := "ytnlhhjmheghnnaa", sum := "0746b074f3c708e2df5271d541443aa9d5675154f53caa770e2a0622e0a71889", func := "hemiola/hemiolalaw15.ScoreParts", spec := "scoreParts", inPlace := ["slices.overlaps[hemiola/api.Cell]", "slices.overlaps[hemiola/api.Part]", "slices.overlaps[hemiola/api.ID]"], unfollowed := true, recurses := true, plainKeys := false, apart := false, narrowed := true }
def ScorePartsUptoSaid : Prop := scorePartsUptoRow.holds Try.pinned (OpenSpec.upto scorePartsSpec)

end Rows
end Go.Proofs.Ytnlhhjmheghnnaa
