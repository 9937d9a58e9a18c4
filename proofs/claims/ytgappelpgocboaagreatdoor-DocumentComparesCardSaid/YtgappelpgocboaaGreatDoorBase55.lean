/- The program. -/
import Derived.Test.YtgappelpgocboaaGreatDoorHemMemo
import Derived.Test.YtgappelpgocboaaGreatDoorProg
namespace Go.Hem
noncomputable def prog : Program:=Go.Proofs.Tryz.prog
end Go.Hem
