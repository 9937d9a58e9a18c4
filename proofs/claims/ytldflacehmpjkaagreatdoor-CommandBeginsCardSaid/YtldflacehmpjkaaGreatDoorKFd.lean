/- Closed runs of the law. -/
import Derived.Test.YtldflacehmpjkaaGreatDoorKPm
set_option maxRecDepth 100000
namespace Go.Hem
theorem em_32 : emB 32 = true:=by decide +kernel
theorem em_33 : emB 33 = true:=by decide +kernel
theorem em_34 : emB 34 = true:=by decide +kernel
theorem em_35 : emB 35 = true:=by decide +kernel
theorem em_36 : emB 36 = true:=by decide +kernel
theorem em_37 : emB 37 = true:=by decide +kernel
theorem em_38 : emB 38 = true:=by decide +kernel
theorem em_39 : emB 39 = true:=by decide +kernel
theorem em_40 : emB 40 = true:=by decide +kernel
end Go.Hem
