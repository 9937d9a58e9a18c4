/- The types,variables and functions of the program are laid out right: in pieces. -/
import Derived.Test.YtldflacehmpjkaaGreatDoorRows
import Derived.WalkKit
import Derived.ProofKit
import Derived.JoinedOf
set_option maxRecDepth 100000
namespace Go.Proofs.YtldflacehmpjkaaGreatDoor
open Go
theorem lo0 : ((List.range' 0 67).all (rowFine Tryz.prog)) = true:=by kernel_rfl
theorem lo1 : ((List.range' 67 68).all (rowFine Tryz.prog)) = true:=by kernel_rfl
theorem lo2 : ((List.range' 135 68).all (rowFine Tryz.prog)) = true:=by kernel_rfl
theorem lo3 : ((List.range' 203 68).all (rowFine Tryz.prog)) = true:=by kernel_rfl
theorem lo4 : ((List.range' 271 67).all (rowFine Tryz.prog)) = true:=by kernel_rfl
theorem lo5 : ((List.range' 338 68).all (rowFine Tryz.prog)) = true:=by kernel_rfl
theorem lo6 : ((List.range' 406 68).all (rowFine Tryz.prog)) = true:=by kernel_rfl
theorem lo7 : ((List.range' 474 68).all (rowFine Tryz.prog)) = true:=by kernel_rfl
theorem loN : Tryz.prog.types.size = 542:=by kernel_rfl
theorem loR : List.range 542 = List.range' 0 67 ++ List.range' 67 68 ++ List.range' 135 68 ++ List.range' 203 68 ++ List.range' 271 67 ++ List.range' 338 68 ++ List.range' 406 68 ++ List.range' 474 68:=by kernel_rfl
theorem loG : Tryz.prog.globals.all (fun g => decide (g.type < Tryz.prog.types.size)) = true:=by kernel_rfl
theorem loF : Tryz.prog.funcs.all (fun f => f.params.all fun t => decide (t < Tryz.prog.types.size)) = true:=by kernel_rfl
theorem laidO : laidOutB Tryz.prog = true:=by
  unfold laidOutB
  rw [loG,loF,loN,loR]
  simp only [List.all_append,lo0,lo1,lo2,lo3,lo4,lo5,lo6,lo7,Bool.and_self]
end Go.Proofs.YtldflacehmpjkaaGreatDoor
