/- Joined. -/
import Derived.Test.YteeikpjhfdjjfaaGreatDoorRows
import Derived.LaidByTextLater
import Derived.SevenTiedAt
set_option maxRecDepth 100000
namespace Go.Proofs.YteeikpjhfdjjfaaGreatDoor
open Go
theorem t0 : Tryz.prog.worded (varsWordLater true) = true:=by kernel_rfl
end Go.Proofs.YteeikpjhfdjjfaaGreatDoor
namespace Go.Proofs.YteeikpjhfdjjfaaGreatDoor
open Go
theorem t1 : Tryz.prog.worded (varsWordLater !true) = false:=by kernel_rfl
end Go.Proofs.YteeikpjhfdjjfaaGreatDoor
set_option maxRecDepth 100000
namespace Go.Proofs.YteeikpjhfdjjfaaGreatDoor
open Go
theorem t2 : Tryz.prog.worded rootWordLater = true:=by kernel_rfl
end Go.Proofs.YteeikpjhfdjjfaaGreatDoor
namespace Go.Proofs.YteeikpjhfdjjfaaGreatDoor
open Go
theorem t4 : (Tryz.prog.funcNamed "gosem.cut.vars").isSome = true := by kernel_rfl
end Go.Proofs.YteeikpjhfdjjfaaGreatDoor
set_option maxRecDepth 100000
namespace Go.Proofs.YteeikpjhfdjjfaaGreatDoor
open Go
theorem t3 : (([("strconv.ErrSyntax", Rows.laid_strconv_ErrSyntax), ("strconv.ErrRange", Rows.laid_strconv_ErrRange), ("internal/strconv.uint64pow10", Rows.laid_internal_strconv_uint64pow10), ("math/bits.deBruijn32tab", Rows.laid_math_bits_deBruijn32tab), ("math/bits.deBruijn64tab", Rows.laid_math_bits_deBruijn64tab), ("unicode/utf8.acceptRanges", Rows.laid_unicode_utf8_acceptRanges)] : List (String × DataW Unit))).map (fun x => Tryz.prog.kindOfLater x.1) = ([.sentinel, .sentinel, .data, .data, .data, .data] : List LaidKind).map some := by kernel_rfl
end Go.Proofs.YteeikpjhfdjjfaaGreatDoor
namespace Go.Proofs.YteeikpjhfdjjfaaGreatDoor
open Go
theorem t6 : ∀ os tape,varsDone Tryz.prog 400 (varsId Tryz.prog) os tape = true:=fun _ _ => by kernel_rfl
end Go.Proofs.YteeikpjhfdjjfaaGreatDoor
