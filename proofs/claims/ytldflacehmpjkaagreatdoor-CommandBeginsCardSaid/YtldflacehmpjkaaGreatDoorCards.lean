/-
  DERIVED. GIVEN WITH THE SEED: THE CARDS: each row of YtldflacehmpjkaaGreatDoorRows.lean that lists a variable, with what it lists TIED to the program's text (the seventh form; the later family's looks); each row that meets fmt, with fmt's text TOLD by the authors' own Lean function (tested against real Go, not proved from fmt's source: count such statements apart). THE CARD IS WHAT COUNTS. Prove the row's statement (the work); the ties are given (YtldflacehmpjkaaGreatDoorTie.lean); close each card by the builder's one call (the guide's Derived/Test/ToyasCard.lean, 'card_holds'). Laid BY PROGRAM, IN A SANDBOX (cutbox-door.mjs). By AI agents, Wed Nov 11 2026. No macro, syntax, notation, axiom, sorry.
-/
import Derived.Test.YtldflacehmpjkaaGreatDoorRows
import GoSem.ClaimSeven
namespace Go.Proofs.YtldflacehmpjkaaGreatDoor
namespace Rows

/-- THE TIED CARD OF 'hemiolalaw48.CommandBegins'. -/
def commandBeginsCard : Claim7 := { stood := { row := commandBeginsRow, standIns := [], harness := (true, "2a16631ac420e19a8689b780140ec9c49cc9b2088016158a354d9e83a8796ff6"), looks := false }, kinds := [], alts := [], laidByText := true, laidKinds := [.data, .data, .data], laidTests := true, laidLooks := .later }
def CommandBeginsCardSaid : Prop := Claim7.holds Tryz.pinned (.plain (OpenSpec.ofChange commandBeginsSpec)) commandBeginsCard

/-- THE SECOND FORM's CARD OF 'hemiolalaw48.CommandBegins'. -/
def commandBeginsUptoCard : Claim7 := { stood := { row := commandBeginsUptoRow, standIns := [], harness := (true, "2a16631ac420e19a8689b780140ec9c49cc9b2088016158a354d9e83a8796ff6"), looks := false }, kinds := [], alts := [], laidByText := true, laidKinds := [.data, .data, .data], laidTests := true, laidLooks := .later }
def CommandBeginsUptoCardSaid : Prop := Claim7.holds Tryz.pinned (.plain (OpenSpec.upto commandBeginsSpec)) commandBeginsUptoCard
end Rows
end Go.Proofs.YtldflacehmpjkaaGreatDoor
