/-
  DERIVED. GIVEN WITH THE SEED: THE CARDS: each row of YteeikpjhfdjjfaaGreatDoorRows.lean that lists a variable, with what it lists TIED to the program's text (the seventh form; the later family's looks); each row that meets fmt, with fmt's text TOLD by the authors' own Lean function (tested against real Go, not proved from fmt's source: count such statements apart). THE CARD IS WHAT COUNTS. Prove the row's statement (the work); the ties are given (YteeikpjhfdjjfaaGreatDoorTie.lean); close each card by the builder's one call (the guide's Derived/Test/ToyasCard.lean, 'card_holds'). Laid BY PROGRAM, IN A SANDBOX (cutbox-door.mjs). By AI agents, Wed Nov 11 2026. No macro, syntax, notation, axiom, sorry.
-/
import Derived.Test.YteeikpjhfdjjfaaGreatDoorRows
import GoSem.ClaimSeven
namespace Go.Proofs.YteeikpjhfdjjfaaGreatDoor
namespace Rows

/-- THE TIED CARD OF 'hemiolalaw55.ScriptExpressions'. -/
def scriptExpressionsCard : Claim7 := { stood := { row := scriptExpressionsRow, standIns := [], harness := (true, "378880fc2df51a18e345d178c2e41f6cb4227e11711a458b1ef7de13ab857e92"), looks := true }, kinds := [], alts := [], laidByText := true, laidKinds := [.sentinel, .sentinel, .data, .data, .data, .pinned, .data], laidTests := true, laidLooks := .later }
def ScriptExpressionsCardSaid : Prop := Claim7.holds Tryz.pinned (.plain (OpenSpec.ofChange scriptExpressionsSpec)) scriptExpressionsCard

/-- THE TIED CARD OF 'hemiolalaw55.ScriptLimits'. -/
def scriptLimitsCard : Claim7 := { stood := { row := scriptLimitsRow, standIns := [], harness := (true, "378880fc2df51a18e345d178c2e41f6cb4227e11711a458b1ef7de13ab857e92"), looks := true }, kinds := [], alts := [], laidByText := true, laidKinds := [.sentinel, .sentinel, .data, .data, .data, .pinned, .data], laidTests := true, laidLooks := .later }
def ScriptLimitsCardSaid : Prop := Claim7.holds Tryz.pinned (.plain (OpenSpec.ofChange scriptLimitsSpec)) scriptLimitsCard

/-- THE SECOND FORM's CARD OF 'hemiolalaw55.ScriptExpressions'. -/
def scriptExpressionsUptoCard : Claim7 := { stood := { row := scriptExpressionsUptoRow, standIns := [], harness := (true, "378880fc2df51a18e345d178c2e41f6cb4227e11711a458b1ef7de13ab857e92"), looks := true }, kinds := [], alts := [], laidByText := true, laidKinds := [.sentinel, .sentinel, .data, .data, .data, .pinned, .data], laidTests := true, laidLooks := .later }
def ScriptExpressionsUptoCardSaid : Prop := Claim7.holds Tryz.pinned (.plain (OpenSpec.upto scriptExpressionsSpec)) scriptExpressionsUptoCard

/-- THE SECOND FORM's CARD OF 'hemiolalaw55.ScriptLimits'. -/
def scriptLimitsUptoCard : Claim7 := { stood := { row := scriptLimitsUptoRow, standIns := [], harness := (true, "378880fc2df51a18e345d178c2e41f6cb4227e11711a458b1ef7de13ab857e92"), looks := true }, kinds := [], alts := [], laidByText := true, laidKinds := [.sentinel, .sentinel, .data, .data, .data, .pinned, .data], laidTests := true, laidLooks := .later }
def ScriptLimitsUptoCardSaid : Prop := Claim7.holds Tryz.pinned (.plain (OpenSpec.upto scriptLimitsSpec)) scriptLimitsUptoCard
end Rows
end Go.Proofs.YteeikpjhfdjjfaaGreatDoor
