/-
  DERIVED. GIVEN WITH THE SEED: THE CARDS: each row of YtjhcbikiphokcaaGreatDoorRows.lean that lists a variable, with what it lists TIED to the program's text (the seventh form; the later family's looks); each row that meets fmt, with fmt's text TOLD by the authors' own Lean function (tested against real Go, not proved from fmt's source: count such statements apart). THE CARD IS WHAT COUNTS. Prove the row's statement (the work); the ties are given (YtjhcbikiphokcaaGreatDoorTie.lean); close each card by the builder's one call (the guide's Derived/Test/ToyasCard.lean, 'card_holds'). Laid BY PROGRAM, IN A SANDBOX (cutbox-door.mjs). By AI agents, Wed Nov 11 2026. No macro, syntax, notation, axiom, sorry.
-/
import Derived.Test.YtjhcbikiphokcaaGreatDoorRows
import GoSem.ClaimSeven
namespace Go.Proofs.YtjhcbikiphokcaaGreatDoor
namespace Rows

/-- THE TIED CARD OF 'hemiolalaw55.ScriptKeywords'. -/
def scriptKeywordsCard : Claim7 := { stood := { row := scriptKeywordsRow, standIns := [], harness := (true, "bd3e53d64f6552870eda1a4fbd130f6b04c58b6bb2d53ada60647b48d495f6b6"), looks := true }, kinds := [], alts := [], laidByText := true, laidKinds := [.sentinel, .sentinel, .data, .data, .data, .pinned, .data], laidTests := true, laidLooks := .later }
def ScriptKeywordsCardSaid : Prop := Claim7.holds Tryz.pinned (.plain (OpenSpec.ofChange scriptKeywordsSpec)) scriptKeywordsCard

/-- THE SECOND FORM's CARD OF 'hemiolalaw55.ScriptKeywords'. -/
def scriptKeywordsUptoCard : Claim7 := { stood := { row := scriptKeywordsUptoRow, standIns := [], harness := (true, "bd3e53d64f6552870eda1a4fbd130f6b04c58b6bb2d53ada60647b48d495f6b6"), looks := true }, kinds := [], alts := [], laidByText := true, laidKinds := [.sentinel, .sentinel, .data, .data, .data, .pinned, .data], laidTests := true, laidLooks := .later }
def ScriptKeywordsUptoCardSaid : Prop := Claim7.holds Tryz.pinned (.plain (OpenSpec.upto scriptKeywordsSpec)) scriptKeywordsUptoCard
end Rows
end Go.Proofs.YtjhcbikiphokcaaGreatDoor
