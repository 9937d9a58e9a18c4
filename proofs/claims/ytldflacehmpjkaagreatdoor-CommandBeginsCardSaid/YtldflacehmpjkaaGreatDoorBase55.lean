/- The program. -/
import Derived.Test.YtldflacehmpjkaaGreatDoorHemIso
import Derived.Test.YtldflacehmpjkaaGreatDoorProg
namespace Go.Hem
noncomputable def prog : Program:=Go.Proofs.Tryz.prog
end Go.Hem
