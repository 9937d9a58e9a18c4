/- The program. -/
import Derived.Test.YtjhcbikiphokcaaGreatDoorHemMemo
import Derived.Test.YtjhcbikiphokcaaGreatDoorProg
namespace Go.Hem
noncomputable def prog : Program:=Go.Proofs.Tryz.prog
end Go.Hem
