/- Closed facts of the row,each by itself. -/
import Derived.Test.YtldflacehmpjkaaGreatDoorJFo
import Derived.Test.YtldflacehmpjkaaGreatDoorRows
import Derived.WalkKit
import Derived.ProofKit
import Derived.JoinedOf
set_option maxRecDepth 100000
set_option linter.unusedVariables false
namespace Go.Proofs.YtldflacehmpjkaaGreatDoor
theorem jf0 : (fun (P : Program) (f : FuncId) (fn : Func) (s : ChangeSpec) (c : OpenClaim) => (c.wf (OpenSpec.ofChange s) : Bool)) Tryz.prog 3 Tryz.f3 Rows.commandBeginsSpec Rows.commandBeginsRow = true:=by kernel_rfl
theorem jf1 : (fun (P : Program) (f : FuncId) (fn : Func) (s : ChangeSpec) (c : OpenClaim) => (laidOutB P : Bool)) Tryz.prog 3 Tryz.f3 Rows.commandBeginsSpec Rows.commandBeginsRow = true:=laidO
theorem jf2 : (fun (P : Program) (f : FuncId) (fn : Func) (s : ChangeSpec) (c : OpenClaim) => (mapsRowed P : Bool)) Tryz.prog 3 Tryz.f3 Rows.commandBeginsSpec Rows.commandBeginsRow = true:=by kernel_rfl
theorem jf3 : (fun (P : Program) (f : FuncId) (fn : Func) (s : ChangeSpec) (c : OpenClaim) => (fn.params.all (P.readableRec ·) : Bool)) Tryz.prog 3 Tryz.f3 Rows.commandBeginsSpec Rows.commandBeginsRow = true:=by kernel_rfl
theorem jf4 : (fun (P : Program) (f : FuncId) (fn : Func) (s : ChangeSpec) (c : OpenClaim) => (namedTie P c.named s.vars : Bool)) Tryz.prog 3 Tryz.f3 Rows.commandBeginsSpec Rows.commandBeginsRow = true:=by kernel_rfl
theorem jf5 : (fun (P : Program) (f : FuncId) (fn : Func) (s : ChangeSpec) (c : OpenClaim) => ((c.stops == []) : Bool)) Tryz.prog 3 Tryz.f3 Rows.commandBeginsSpec Rows.commandBeginsRow = true:=by kernel_rfl
theorem jf6 : (fun (P : Program) (f : FuncId) (fn : Func) (s : ChangeSpec) (c : OpenClaim) => ((P.stops == []) : Bool)) Tryz.prog 3 Tryz.f3 Rows.commandBeginsSpec Rows.commandBeginsRow = true:=by kernel_rfl
theorem jf7 : (fun (P : Program) (f : FuncId) (fn : Func) (s : ChangeSpec) (c : OpenClaim) => ((c.knobs == []) : Bool)) Tryz.prog 3 Tryz.f3 Rows.commandBeginsSpec Rows.commandBeginsRow = true:=by kernel_rfl
theorem jf8 : (fun (P : Program) (f : FuncId) (fn : Func) (s : ChangeSpec) (c : OpenClaim) => ((P.stopKnobs == []) : Bool)) Tryz.prog 3 Tryz.f3 Rows.commandBeginsSpec Rows.commandBeginsRow = true:=by kernel_rfl
theorem jf13 : (fun (P : Program) (f : FuncId) (fn : Func) (s : ChangeSpec) (c : OpenClaim) => ((c.maps == (fn.params.toList ++ s.plain.varTypes P).any (P.mapsRec ·)) : Bool)) Tryz.prog 3 Tryz.f3 Rows.commandBeginsSpec Rows.commandBeginsRow = true:=by kernel_rfl
theorem jf14 : (fun (P : Program) (f : FuncId) (fn : Func) (s : ChangeSpec) (c : OpenClaim) => ((c.ifaces == (fn.params.toList ++ s.plain.varTypes P).any (P.ifacesRec ·)) : Bool)) Tryz.prog 3 Tryz.f3 Rows.commandBeginsSpec Rows.commandBeginsRow = true:=by kernel_rfl
theorem jf15 : (fun (P : Program) (f : FuncId) (fn : Func) (s : ChangeSpec) (c : OpenClaim) => ((c.mapsOut == P.mapsAmong fn.resultTypes.toList) : Bool)) Tryz.prog 3 Tryz.f3 Rows.commandBeginsSpec Rows.commandBeginsRow = true:=by kernel_rfl
theorem jf16 : (fun (P : Program) (f : FuncId) (fn : Func) (s : ChangeSpec) (c : OpenClaim) => ((c.loops == (fn.params.toList ++ s.plain.varTypes P).any (P.loopsFrom ·)) : Bool)) Tryz.prog 3 Tryz.f3 Rows.commandBeginsSpec Rows.commandBeginsRow = true:=by kernel_rfl
theorem jf17 : (fun (P : Program) (f : FuncId) (fn : Func) (s : ChangeSpec) (c : OpenClaim) => ((c.wideKeys == (fn.params.toList ++ s.plain.varTypes P ++ fn.resultTypes.toList).any (P.wideKeysFrom ·)) : Bool)) Tryz.prog 3 Tryz.f3 Rows.commandBeginsSpec Rows.commandBeginsRow = true:=by kernel_rfl
theorem jf18 : (fun (P : Program) (f : FuncId) (fn : Func) (s : ChangeSpec) (c : OpenClaim) => (s.vars.all (P.varReadable ·) : Bool)) Tryz.prog 3 Tryz.f3 Rows.commandBeginsSpec Rows.commandBeginsRow = true:=by kernel_rfl
end Go.Proofs.YtldflacehmpjkaaGreatDoor
