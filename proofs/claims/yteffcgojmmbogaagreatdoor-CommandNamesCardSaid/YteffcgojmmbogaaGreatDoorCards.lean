/-
  DERIVED. GIVEN WITH THE SEED: THE CARDS: each row of YteffcgojmmbogaaGreatDoorRows.lean that lists a variable, with what it lists TIED to the program's text (the seventh form; the later family's looks); each row that meets fmt, with fmt's text TOLD by the authors' own Lean function (tested against real Go, not proved from fmt's source: count such statements apart). THE CARD IS WHAT COUNTS. Prove the row's statement (the work); the ties are given (YteffcgojmmbogaaGreatDoorTie.lean); close each card by the builder's one call (the guide's Derived/Test/ToyasCard.lean, 'card_holds'). Laid BY PROGRAM, IN A SANDBOX (cutbox-door.mjs). By AI agents, Wed Nov 11 2026. No macro, syntax, notation, axiom, sorry.
-/
import Derived.Test.YteffcgojmmbogaaGreatDoorRows
import GoSem.ClaimSeven
namespace Go.Proofs.YteffcgojmmbogaaGreatDoor
namespace Rows

/-- THE TIED CARD OF 'hemiolalaw48.CommandChecks'. -/
def commandChecksCard : Claim7 := { stood := { row := commandChecksRow, standIns := [], harness := (true, "a0be80ae964c5eb15af4038daffc4e2a6c3bc647f98c793c7c4d778ca9772902"), looks := false }, kinds := [], alts := [], laidByText := true, laidKinds := [.data, .data, .data], laidTests := true, laidLooks := .later }
def CommandChecksCardSaid : Prop := Claim7.holds Tryz.pinned (.plain (OpenSpec.ofChange commandChecksSpec)) commandChecksCard

/-- THE TIED CARD OF 'hemiolalaw48.CommandNames'. -/
def commandNamesCard : Claim7 := { stood := { row := commandNamesRow, standIns := [], harness := (true, "a0be80ae964c5eb15af4038daffc4e2a6c3bc647f98c793c7c4d778ca9772902"), looks := false }, kinds := [], alts := [], laidByText := true, laidKinds := [.data, .data, .data], laidTests := true, laidLooks := .later }
def CommandNamesCardSaid : Prop := Claim7.holds Tryz.pinned (.plain (OpenSpec.ofChange commandNamesSpec)) commandNamesCard

/-- THE SECOND FORM's CARD OF 'hemiolalaw48.CommandChecks'. -/
def commandChecksUptoCard : Claim7 := { stood := { row := commandChecksUptoRow, standIns := [], harness := (true, "a0be80ae964c5eb15af4038daffc4e2a6c3bc647f98c793c7c4d778ca9772902"), looks := false }, kinds := [], alts := [], laidByText := true, laidKinds := [.data, .data, .data], laidTests := true, laidLooks := .later }
def CommandChecksUptoCardSaid : Prop := Claim7.holds Tryz.pinned (.plain (OpenSpec.upto commandChecksSpec)) commandChecksUptoCard

/-- THE SECOND FORM's CARD OF 'hemiolalaw48.CommandNames'. -/
def commandNamesUptoCard : Claim7 := { stood := { row := commandNamesUptoRow, standIns := [], harness := (true, "a0be80ae964c5eb15af4038daffc4e2a6c3bc647f98c793c7c4d778ca9772902"), looks := false }, kinds := [], alts := [], laidByText := true, laidKinds := [.data, .data, .data], laidTests := true, laidLooks := .later }
def CommandNamesUptoCardSaid : Prop := Claim7.holds Tryz.pinned (.plain (OpenSpec.upto commandNamesSpec)) commandNamesUptoCard
end Rows
end Go.Proofs.YteffcgojmmbogaaGreatDoor
