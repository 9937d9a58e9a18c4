/- The program. -/
import Derived.Test.YteffcgojmmbogaaGreatDoorHemKer
import Derived.Test.YteffcgojmmbogaaGreatDoorProg
namespace Go.Hem
noncomputable def prog : Program:=Go.Proofs.Tryz.prog
end Go.Hem
