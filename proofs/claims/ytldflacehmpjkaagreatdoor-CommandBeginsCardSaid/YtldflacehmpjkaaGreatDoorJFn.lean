/- The closed facts of the row,together. -/
import Derived.Test.YtldflacehmpjkaaGreatDoorJFa
import Derived.Test.YtldflacehmpjkaaGreatDoorJFb
import Derived.Test.YtldflacehmpjkaaGreatDoorJFm
import Derived.Test.YtldflacehmpjkaaGreatDoorRows
import Derived.WalkKit
import Derived.ProofKit
import Derived.JoinedOf
set_option maxRecDepth 100000
set_option linter.unusedVariables false
namespace Go.Proofs.YtldflacehmpjkaaGreatDoor
open Go Go.Hem
theorem and_mk {a b : Bool} (h : a = true) (k : b = true) : (a && b) = true:=by rw [h,k]; rfl
theorem jf9 : (fun (P : Program) (f : FuncId) (fn : Func) (s : ChangeSpec) (c : OpenClaim) => ((c.inPlace == P.inPlace f) : Bool)) Tryz.prog 3 Tryz.f3 Rows.commandBeginsSpec Rows.commandBeginsRow = true:=beq_of inPl
theorem jf12 : (fun (P : Program) (f : FuncId) (fn : Func) (s : ChangeSpec) (c : OpenClaim) => ((c.named == P.varsNamed f) : Bool)) Tryz.prog 3 Tryz.f3 Rows.commandBeginsSpec Rows.commandBeginsRow = true:=beq_of varsN
theorem jf10 : (fun (P : Program) (f : FuncId) (fn : Func) (s : ChangeSpec) (c : OpenClaim) => ((c.unfollowed == P.unfollowed f) : Bool)) Tryz.prog 3 Tryz.f3 Rows.commandBeginsSpec Rows.commandBeginsRow = true:=by show (Rows.commandBeginsRow.unfollowed == Tryz.prog.unfollowed 3) = true; rw [unf]; kernel_rfl
theorem jf11 : (fun (P : Program) (f : FuncId) (fn : Func) (s : ChangeSpec) (c : OpenClaim) => ((c.recurses == P.recurses f) : Bool)) Tryz.prog 3 Tryz.f3 Rows.commandBeginsSpec Rows.commandBeginsRow = true:=by show (Rows.commandBeginsRow.recurses == Tryz.prog.recurses 3) = true; rw [recu]; kernel_rfl
theorem jfs : joinedFacts Tryz.prog 3 Tryz.f3 Rows.commandBeginsSpec Rows.commandBeginsRow = true:=(and_mk (and_mk (and_mk (and_mk (and_mk (and_mk (and_mk (and_mk (and_mk (and_mk (and_mk (and_mk (and_mk (and_mk (and_mk (and_mk (and_mk (and_mk (and_mk (and_mk (and_mk (and_mk (and_mk (and_mk (and_mk (and_mk (and_mk (and_mk (and_mk (and_mk (and_mk jf0 jf1) jf2) jf3) jf4) jf5) jf6) jf7) jf8) jf9) jf10) jf11) jf12) jf13) jf14) jf15) jf16) jf17) jf18) jf19) jf20) jf21) jf22) jf23) jf24) jf25) jf26) jf27) jf28) jf29) jf30) jf31)
end Go.Proofs.YtldflacehmpjkaaGreatDoor
