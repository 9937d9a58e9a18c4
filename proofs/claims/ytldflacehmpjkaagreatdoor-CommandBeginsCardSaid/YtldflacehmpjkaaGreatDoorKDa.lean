/- The rule ids by itself. -/
import Derived.Test.YtldflacehmpjkaaGreatDoorKPm
set_option maxRecDepth 100000
namespace Go.Hem
theorem i37_1 : isoR 37 cf37 1 = true:=by decide +kernel
theorem i37_2 : isoR 37 cf37 2 = true:=by decide +kernel
theorem i37_3 : isoR 37 cf37 3 = true:=by decide +kernel
theorem i37_4 : isoR 37 cf37 4 = true:=by decide +kernel
theorem i37_5 : isoR 37 cf37 5 = true:=by decide +kernel
theorem i37_6 : isoR 37 cf37 6 = true:=by decide +kernel
theorem i37_7 : isoR 37 cf37 7 = true:=by decide +kernel
theorem i37_8 : isoR 37 cf37 8 = true:=by decide +kernel
theorem i37_9 : isoR 37 cf37 9 = true:=by decide +kernel
theorem i37_10 : isoR 37 cf37 10 = true:=by decide +kernel
theorem i37_11 : isoR 37 cf37 11 = true:=by decide +kernel
theorem i37_12 : isoR 37 cf37 12 = true:=by decide +kernel
theorem i37_13 : isoR 37 cf37 13 = true:=by decide +kernel
theorem i37_14 : isoR 37 cf37 14 = true:=by decide +kernel
theorem i37_15 : isoR 37 cf37 15 = true:=by decide +kernel
theorem i37_16 : isoR 37 cf37 16 = true:=by decide +kernel
theorem i37_17 : isoR 37 cf37 17 = true:=by decide +kernel
theorem i37_18 : isoR 37 cf37 18 = true:=by decide +kernel
theorem i37_19 : isoR 37 cf37 19 = true:=by decide +kernel
theorem i37_20 : isoR 37 cf37 20 = true:=by decide +kernel
theorem i37_21 : isoR 37 cf37 21 = true:=by decide +kernel
theorem i37_22 : isoR 37 cf37 22 = true:=by decide +kernel
theorem i37_23 : isoR 37 cf37 23 = true:=by decide +kernel
theorem i37_24 : isoR 37 cf37 24 = true:=by decide +kernel
theorem i37_25 : isoR 37 cf37 25 = true:=by decide +kernel
theorem i37_26 : isoR 37 cf37 26 = true:=by decide +kernel
theorem i37_27 : isoR 37 cf37 27 = true:=by decide +kernel
theorem i37_28 : isoR 37 cf37 28 = true:=by decide +kernel
theorem i37_29 : isoR 37 cf37 29 = true:=by decide +kernel
theorem i37_30 : isoR 37 cf37 30 = true:=by decide +kernel
theorem i37_31 : isoR 37 cf37 31 = true:=by decide +kernel
theorem i37_32 : isoR 37 cf37 32 = true:=by decide +kernel
theorem i37_33 : isoR 37 cf37 33 = true:=by decide +kernel
theorem i37_34 : isoR 37 cf37 34 = true:=by decide +kernel
theorem i37_35 : isoR 37 cf37 35 = true:=by decide +kernel
theorem i37_36 : isoR 37 cf37 36 = true:=by decide +kernel
theorem i37_37 : isoR 37 cf37 37 = true:=by decide +kernel
theorem i37_38 : isoR 37 cf37 38 = true:=by decide +kernel
theorem i37_39 : isoR 37 cf37 39 = true:=by decide +kernel
theorem i37_40 : isoR 37 cf37 40 = true:=by decide +kernel
end Go.Hem
