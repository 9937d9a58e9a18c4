/- The types,variables and functions of the program are laid out right: in pieces. -/
import Derived.Test.YteeikpjhfdjjfaaGreatDoorRows
import Derived.WalkKit
import Derived.ProofKit
import Derived.JoinedOf
set_option maxRecDepth 100000
namespace Go.Proofs.YteeikpjhfdjjfaaGreatDoor
open Go
theorem lo0 : ((List.range' 0 84).all (rowFine Tryz.prog)) = true:=by kernel_rfl
theorem lo1 : ((List.range' 84 85).all (rowFine Tryz.prog)) = true:=by kernel_rfl
theorem lo2 : ((List.range' 169 85).all (rowFine Tryz.prog)) = true:=by kernel_rfl
theorem lo3 : ((List.range' 254 85).all (rowFine Tryz.prog)) = true:=by kernel_rfl
theorem lo4 : ((List.range' 339 84).all (rowFine Tryz.prog)) = true:=by kernel_rfl
theorem lo5 : ((List.range' 423 85).all (rowFine Tryz.prog)) = true:=by kernel_rfl
theorem lo6 : ((List.range' 508 85).all (rowFine Tryz.prog)) = true:=by kernel_rfl
theorem lo7 : ((List.range' 593 85).all (rowFine Tryz.prog)) = true:=by kernel_rfl
theorem loN : Tryz.prog.types.size = 678:=by kernel_rfl
theorem loR : List.range 678 = List.range' 0 84 ++ List.range' 84 85 ++ List.range' 169 85 ++ List.range' 254 85 ++ List.range' 339 84 ++ List.range' 423 85 ++ List.range' 508 85 ++ List.range' 593 85:=by kernel_rfl
theorem loG : Tryz.prog.globals.all (fun g => decide (g.type < Tryz.prog.types.size)) = true:=by kernel_rfl
theorem loF : Tryz.prog.funcs.all (fun f => f.params.all fun t => decide (t < Tryz.prog.types.size)) = true:=by kernel_rfl
theorem laidO : laidOutB Tryz.prog = true:=by
  unfold laidOutB
  rw [loG,loF,loN,loR]
  simp only [List.all_append,lo0,lo1,lo2,lo3,lo4,lo5,lo6,lo7,Bool.and_self]
end Go.Proofs.YteeikpjhfdjjfaaGreatDoor
