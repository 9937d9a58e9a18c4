/- The program. -/
import Derived.Test.YteeikpjhfdjjfaaGreatDoorHemMemo
import Derived.Test.YteeikpjhfdjjfaaGreatDoorProg
namespace Go.Hem
noncomputable def prog : Program:=Go.Proofs.Tryz.prog
end Go.Hem
