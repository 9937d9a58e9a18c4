/-
  DERIVED. GIVEN WITH THE SEED: THE CARDS: each row of YtgappelpgocboaaGreatDoorRows.lean that lists a variable, with what it lists TIED to the program's text (the seventh form; the later family's looks); each row that meets fmt, with fmt's text TOLD by the authors' own Lean function (tested against real Go, not proved from fmt's source: count such statements apart). THE CARD IS WHAT COUNTS. Prove the row's statement (the work); the ties are given (YtgappelpgocboaaGreatDoorTie.lean); close each card by the builder's one call (the guide's Derived/Test/ToyasCard.lean, 'card_holds'). Laid BY PROGRAM, IN A SANDBOX (cutbox-door.mjs). By AI agents, Wed Nov 11 2026. No macro, syntax, notation, axiom, sorry.
-/
import Derived.Test.YtgappelpgocboaaGreatDoorRows
import GoSem.ClaimSeven
namespace Go.Proofs.YtgappelpgocboaaGreatDoor
namespace Rows

/-- THE TIED CARD OF 'hemiolalaw53.DocumentCompares'. -/
def documentComparesCard : Claim7 := { stood := { row := documentComparesRow, standIns := [], harness := (true, "cf5e4817798a1d9867157cb30f0df211745c2b2f55fb9742adacaf6c85a229c9"), looks := false }, kinds := [], alts := [], laidByText := true, laidKinds := [.data, .data, .data], laidTests := true, laidLooks := .later }
def DocumentComparesCardSaid : Prop := Claim7.holds Tryz.pinned (.plain (OpenSpec.ofChange documentComparesSpec)) documentComparesCard

/-- THE SECOND FORM's CARD OF 'hemiolalaw53.DocumentCompares'. -/
def documentComparesUptoCard : Claim7 := { stood := { row := documentComparesUptoRow, standIns := [], harness := (true, "cf5e4817798a1d9867157cb30f0df211745c2b2f55fb9742adacaf6c85a229c9"), looks := false }, kinds := [], alts := [], laidByText := true, laidKinds := [.data, .data, .data], laidTests := true, laidLooks := .later }
def DocumentComparesUptoCardSaid : Prop := Claim7.holds Tryz.pinned (.plain (OpenSpec.upto documentComparesSpec)) documentComparesUptoCard
end Rows
end Go.Proofs.YtgappelpgocboaaGreatDoor
