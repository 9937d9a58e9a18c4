/- The rule jumps by itself. -/
import Derived.Test.YtldflacehmpjkaaGreatDoorKPm
set_option maxRecDepth 100000
namespace Go.Hem
theorem i50_1 : isoR 50 cf50 1 = true:=by decide +kernel
theorem i50_2 : isoR 50 cf50 2 = true:=by decide +kernel
theorem i50_3 : isoR 50 cf50 3 = true:=by decide +kernel
theorem i50_4 : isoR 50 cf50 4 = true:=by decide +kernel
theorem i50_5 : isoR 50 cf50 5 = true:=by decide +kernel
theorem i50_6 : isoR 50 cf50 6 = true:=by decide +kernel
theorem i50_7 : isoR 50 cf50 7 = true:=by decide +kernel
theorem i50_8 : isoR 50 cf50 8 = true:=by decide +kernel
theorem i50_9 : isoR 50 cf50 9 = true:=by decide +kernel
theorem i50_10 : isoR 50 cf50 10 = true:=by decide +kernel
theorem i50_11 : isoR 50 cf50 11 = true:=by decide +kernel
theorem i50_12 : isoR 50 cf50 12 = true:=by decide +kernel
theorem i50_13 : isoR 50 cf50 13 = true:=by decide +kernel
theorem i50_14 : isoR 50 cf50 14 = true:=by decide +kernel
theorem i50_15 : isoR 50 cf50 15 = true:=by decide +kernel
theorem i50_16 : isoR 50 cf50 16 = true:=by decide +kernel
theorem i50_17 : isoR 50 cf50 17 = true:=by decide +kernel
theorem i50_18 : isoR 50 cf50 18 = true:=by decide +kernel
theorem i50_19 : isoR 50 cf50 19 = true:=by decide +kernel
theorem i50_20 : isoR 50 cf50 20 = true:=by decide +kernel
theorem i50_21 : isoR 50 cf50 21 = true:=by decide +kernel
theorem i50_22 : isoR 50 cf50 22 = true:=by decide +kernel
theorem i50_23 : isoR 50 cf50 23 = true:=by decide +kernel
theorem i50_24 : isoR 50 cf50 24 = true:=by decide +kernel
theorem i50_25 : isoR 50 cf50 25 = true:=by decide +kernel
theorem i50_26 : isoR 50 cf50 26 = true:=by decide +kernel
theorem i50_27 : isoR 50 cf50 27 = true:=by decide +kernel
theorem i50_28 : isoR 50 cf50 28 = true:=by decide +kernel
theorem i50_29 : isoR 50 cf50 29 = true:=by decide +kernel
theorem i50_30 : isoR 50 cf50 30 = true:=by decide +kernel
theorem i50_31 : isoR 50 cf50 31 = true:=by decide +kernel
theorem i50_32 : isoR 50 cf50 32 = true:=by decide +kernel
theorem i50_33 : isoR 50 cf50 33 = true:=by decide +kernel
theorem i50_34 : isoR 50 cf50 34 = true:=by decide +kernel
theorem i50_35 : isoR 50 cf50 35 = true:=by decide +kernel
theorem i50_36 : isoR 50 cf50 36 = true:=by decide +kernel
theorem i50_37 : isoR 50 cf50 37 = true:=by decide +kernel
theorem i50_38 : isoR 50 cf50 38 = true:=by decide +kernel
theorem i50_39 : isoR 50 cf50 39 = true:=by decide +kernel
theorem i50_40 : isoR 50 cf50 40 = true:=by decide +kernel
end Go.Hem
