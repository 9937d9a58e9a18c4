/- The rule margins by itself. -/
import Derived.Test.YtldflacehmpjkaaGreatDoorKPm
set_option maxRecDepth 100000
namespace Go.Hem
theorem i52_1 : isoR 52 cf52 1 = true:=by decide +kernel
theorem i52_2 : isoR 52 cf52 2 = true:=by decide +kernel
theorem i52_3 : isoR 52 cf52 3 = true:=by decide +kernel
theorem i52_4 : isoR 52 cf52 4 = true:=by decide +kernel
theorem i52_5 : isoR 52 cf52 5 = true:=by decide +kernel
theorem i52_6 : isoR 52 cf52 6 = true:=by decide +kernel
theorem i52_7 : isoR 52 cf52 7 = true:=by decide +kernel
theorem i52_8 : isoR 52 cf52 8 = true:=by decide +kernel
theorem i52_9 : isoR 52 cf52 9 = true:=by decide +kernel
theorem i52_10 : isoR 52 cf52 10 = true:=by decide +kernel
theorem i52_11 : isoR 52 cf52 11 = true:=by decide +kernel
theorem i52_12 : isoR 52 cf52 12 = true:=by decide +kernel
theorem i52_13 : isoR 52 cf52 13 = true:=by decide +kernel
theorem i52_14 : isoR 52 cf52 14 = true:=by decide +kernel
theorem i52_15 : isoR 52 cf52 15 = true:=by decide +kernel
theorem i52_16 : isoR 52 cf52 16 = true:=by decide +kernel
theorem i52_17 : isoR 52 cf52 17 = true:=by decide +kernel
theorem i52_18 : isoR 52 cf52 18 = true:=by decide +kernel
theorem i52_19 : isoR 52 cf52 19 = true:=by decide +kernel
theorem i52_20 : isoR 52 cf52 20 = true:=by decide +kernel
theorem i52_21 : isoR 52 cf52 21 = true:=by decide +kernel
theorem i52_22 : isoR 52 cf52 22 = true:=by decide +kernel
theorem i52_23 : isoR 52 cf52 23 = true:=by decide +kernel
theorem i52_24 : isoR 52 cf52 24 = true:=by decide +kernel
theorem i52_25 : isoR 52 cf52 25 = true:=by decide +kernel
theorem i52_26 : isoR 52 cf52 26 = true:=by decide +kernel
theorem i52_27 : isoR 52 cf52 27 = true:=by decide +kernel
theorem i52_28 : isoR 52 cf52 28 = true:=by decide +kernel
theorem i52_29 : isoR 52 cf52 29 = true:=by decide +kernel
theorem i52_30 : isoR 52 cf52 30 = true:=by decide +kernel
theorem i52_31 : isoR 52 cf52 31 = true:=by decide +kernel
theorem i52_32 : isoR 52 cf52 32 = true:=by decide +kernel
theorem i52_33 : isoR 52 cf52 33 = true:=by decide +kernel
theorem i52_34 : isoR 52 cf52 34 = true:=by decide +kernel
theorem i52_35 : isoR 52 cf52 35 = true:=by decide +kernel
theorem i52_36 : isoR 52 cf52 36 = true:=by decide +kernel
theorem i52_37 : isoR 52 cf52 37 = true:=by decide +kernel
theorem i52_38 : isoR 52 cf52 38 = true:=by decide +kernel
theorem i52_39 : isoR 52 cf52 39 = true:=by decide +kernel
theorem i52_40 : isoR 52 cf52 40 = true:=by decide +kernel
end Go.Hem
