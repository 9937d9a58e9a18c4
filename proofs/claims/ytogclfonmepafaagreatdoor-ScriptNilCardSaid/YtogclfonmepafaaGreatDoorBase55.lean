/- The program. -/
import Derived.Test.YtogclfonmepafaaGreatDoorHemMemo
import Derived.Test.YtogclfonmepafaaGreatDoorProg
namespace Go.Hem
noncomputable def prog : Program:=Go.Proofs.Tryz.prog
end Go.Hem
