/- Closed runs of the law. -/
import Derived.Test.YtldflacehmpjkaaGreatDoorKPm
set_option maxRecDepth 100000
namespace Go.Hem
theorem em_1 : emB 1 = true:=by decide +kernel
theorem em_2 : emB 2 = true:=by decide +kernel
theorem em_3 : emB 3 = true:=by decide +kernel
theorem em_4 : emB 4 = true:=by decide +kernel
theorem em_5 : emB 5 = true:=by decide +kernel
theorem em_6 : emB 6 = true:=by decide +kernel
theorem em_7 : emB 7 = true:=by decide +kernel
theorem em_8 : emB 8 = true:=by decide +kernel
theorem em_9 : emB 9 = true:=by decide +kernel
theorem em_10 : emB 10 = true:=by decide +kernel
theorem em_11 : emB 11 = true:=by decide +kernel
theorem em_12 : emB 12 = true:=by decide +kernel
theorem em_13 : emB 13 = true:=by decide +kernel
theorem em_14 : emB 14 = true:=by decide +kernel
theorem em_15 : emB 15 = true:=by decide +kernel
theorem em_16 : emB 16 = true:=by decide +kernel
theorem em_17 : emB 17 = true:=by decide +kernel
theorem em_18 : emB 18 = true:=by decide +kernel
theorem em_19 : emB 19 = true:=by decide +kernel
theorem em_20 : emB 20 = true:=by decide +kernel
theorem em_21 : emB 21 = true:=by decide +kernel
theorem em_22 : emB 22 = true:=by decide +kernel
theorem em_23 : emB 23 = true:=by decide +kernel
theorem em_24 : emB 24 = true:=by decide +kernel
theorem em_25 : emB 25 = true:=by decide +kernel
theorem em_26 : emB 26 = true:=by decide +kernel
theorem em_27 : emB 27 = true:=by decide +kernel
theorem em_28 : emB 28 = true:=by decide +kernel
theorem em_29 : emB 29 = true:=by decide +kernel
theorem em_30 : emB 30 = true:=by decide +kernel
theorem em_31 : emB 31 = true:=by decide +kernel
end Go.Hem
