/- The rule lyrics by itself. -/
import Derived.Test.YtldflacehmpjkaaGreatDoorKPm
set_option maxRecDepth 100000
namespace Go.Hem
theorem i46_1 : isoR 46 cf46 1 = true:=by decide +kernel
theorem i46_2 : isoR 46 cf46 2 = true:=by decide +kernel
theorem i46_3 : isoR 46 cf46 3 = true:=by decide +kernel
theorem i46_4 : isoR 46 cf46 4 = true:=by decide +kernel
theorem i46_5 : isoR 46 cf46 5 = true:=by decide +kernel
theorem i46_6 : isoR 46 cf46 6 = true:=by decide +kernel
theorem i46_7 : isoR 46 cf46 7 = true:=by decide +kernel
theorem i46_8 : isoR 46 cf46 8 = true:=by decide +kernel
theorem i46_9 : isoR 46 cf46 9 = true:=by decide +kernel
theorem i46_10 : isoR 46 cf46 10 = true:=by decide +kernel
theorem i46_11 : isoR 46 cf46 11 = true:=by decide +kernel
theorem i46_12 : isoR 46 cf46 12 = true:=by decide +kernel
theorem i46_13 : isoR 46 cf46 13 = true:=by decide +kernel
theorem i46_14 : isoR 46 cf46 14 = true:=by decide +kernel
theorem i46_15 : isoR 46 cf46 15 = true:=by decide +kernel
theorem i46_16 : isoR 46 cf46 16 = true:=by decide +kernel
theorem i46_17 : isoR 46 cf46 17 = true:=by decide +kernel
theorem i46_18 : isoR 46 cf46 18 = true:=by decide +kernel
theorem i46_19 : isoR 46 cf46 19 = true:=by decide +kernel
theorem i46_20 : isoR 46 cf46 20 = true:=by decide +kernel
theorem i46_21 : isoR 46 cf46 21 = true:=by decide +kernel
theorem i46_22 : isoR 46 cf46 22 = true:=by decide +kernel
theorem i46_23 : isoR 46 cf46 23 = true:=by decide +kernel
theorem i46_24 : isoR 46 cf46 24 = true:=by decide +kernel
theorem i46_25 : isoR 46 cf46 25 = true:=by decide +kernel
theorem i46_26 : isoR 46 cf46 26 = true:=by decide +kernel
theorem i46_27 : isoR 46 cf46 27 = true:=by decide +kernel
theorem i46_28 : isoR 46 cf46 28 = true:=by decide +kernel
theorem i46_29 : isoR 46 cf46 29 = true:=by decide +kernel
theorem i46_30 : isoR 46 cf46 30 = true:=by decide +kernel
theorem i46_31 : isoR 46 cf46 31 = true:=by decide +kernel
theorem i46_32 : isoR 46 cf46 32 = true:=by decide +kernel
theorem i46_33 : isoR 46 cf46 33 = true:=by decide +kernel
theorem i46_34 : isoR 46 cf46 34 = true:=by decide +kernel
theorem i46_35 : isoR 46 cf46 35 = true:=by decide +kernel
theorem i46_36 : isoR 46 cf46 36 = true:=by decide +kernel
theorem i46_37 : isoR 46 cf46 37 = true:=by decide +kernel
theorem i46_38 : isoR 46 cf46 38 = true:=by decide +kernel
theorem i46_39 : isoR 46 cf46 39 = true:=by decide +kernel
theorem i46_40 : isoR 46 cf46 40 = true:=by decide +kernel
end Go.Hem
