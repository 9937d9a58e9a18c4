/- Closed runs of the example of chapter 53. -/
import Derived.Test.YtgappelpgocboaaGreatDoorKJm
import Derived.Test.YtgappelpgocboaaGreatDoorPol53K
set_option maxRecDepth 100000
namespace Go.Hem
theorem ker0 : isV (xPure (Y prog polK memo0 tab 1000) 9 [.sc (.int .i64 1),.sc (.int .i64 1)]) (.tup [kv3,.sc (.int .i64 0)]) = true:=by decide +kernel
theorem kep0 : Pv prog polK 9 [.sc (.int .i64 1),.sc (.int .i64 1)] (.tup [kv3,.sc (.int .i64 0)]):=pv_of_y tab_ok memo0_ok rfl (isV_spec ker0)
end Go.Hem
namespace Go.Hem
theorem kfr0 : isV (xPure (Y prog polK memo0 tab 1000) 223 [kv0]) (.tup [.agg [.sc (.int .i64 0),.sc (.int .i64 0),.sc (.int .i64 0)],.sc (.bool false)]) = true:=by decide +kernel
theorem kfp0 : Pv prog polK 223 [kv0] (.tup [.agg [.sc (.int .i64 0),.sc (.int .i64 0),.sc (.int .i64 0)],.sc (.bool false)]):=pv_of_y tab_ok memo0_ok rfl (isV_spec kfr0)
end Go.Hem
namespace Go.Hem
theorem kfr1 : isV (xPure (Y prog polK memo0 tab 1000) 223 [kv2]) (.tup [.agg [.sc (.int .i64 0),.sc (.int .i64 0),.sc (.int .i64 0)],.sc (.bool false)]) = true:=by decide +kernel
theorem kfp1 : Pv prog polK 223 [kv2] (.tup [.agg [.sc (.int .i64 0),.sc (.int .i64 0),.sc (.int .i64 0)],.sc (.bool false)]):=pv_of_y tab_ok memo0_ok rfl (isV_spec kfr1)
end Go.Hem
namespace Go.Hem
theorem kmr0 : isV (xPure (Y prog polK memo0 tab 1000) 121 [kv0]) (kv0) = true:=by decide +kernel
theorem kmp0 : Pv prog polK 121 [kv0] (kv0):=pv_of_y tab_ok memo0_ok rfl (isV_spec kmr0)
end Go.Hem
namespace Go.Hem
theorem kmr1 : isV (xPure (Y prog polK memo0 tab 1000) 121 [kv2]) (kv2) = true:=by decide +kernel
theorem kmp1 : Pv prog polK 121 [kv2] (kv2):=pv_of_y tab_ok memo0_ok rfl (isV_spec kmr1)
end Go.Hem
namespace Go.Hem
theorem kqr0 : isV (xPure (Y prog polK memo0 tab 1000) 189 [.sc (.str ⟨#[97]⟩)]) (.tup [.sc (.str ⟨#[34,97,34]⟩),.sc (.int .i64 0)]) = true:=by decide +kernel
theorem kqp0 : Pv prog polK 189 [.sc (.str ⟨#[97]⟩)] (.tup [.sc (.str ⟨#[34,97,34]⟩),.sc (.int .i64 0)]):=pv_of_y tab_ok memo0_ok rfl (isV_spec kqr0)
end Go.Hem
namespace Go.Hem
theorem kqr1 : isV (xPure (Y prog polK memo0 tab 1000) 189 [.sc (.str ⟨#[98]⟩)]) (.tup [.sc (.str ⟨#[34,98,34]⟩),.sc (.int .i64 0)]) = true:=by decide +kernel
theorem kqp1 : Pv prog polK 189 [.sc (.str ⟨#[98]⟩)] (.tup [.sc (.str ⟨#[34,98,34]⟩),.sc (.int .i64 0)]):=pv_of_y tab_ok memo0_ok rfl (isV_spec kqr1)
end Go.Hem
namespace Go.Hem
theorem kvr0 : isV (xPure (Y prog polK memo0 tab 1000) 21 [kv0]) (.sc (.bool true)) = true:=by decide +kernel
theorem kvp0 : Pv prog polK 21 [kv0] (.sc (.bool true)):=pv_of_y tab_ok memo0_ok rfl (isV_spec kvr0)
end Go.Hem
namespace Go.Hem
theorem kvr1 : isV (xPure (Y prog polK memo0 tab 1000) 21 [kv2]) (.sc (.bool true)) = true:=by decide +kernel
theorem kvp1 : Pv prog polK 21 [kv2] (.sc (.bool true)):=pv_of_y tab_ok memo0_ok rfl (isV_spec kvr1)
end Go.Hem
namespace Go.Hem
theorem kvr2 : isV (xPure (Y prog polK memo0 tab 1000) 21 [kv3]) (.sc (.bool true)) = true:=by decide +kernel
theorem kvp2 : Pv prog polK 21 [kv3] (.sc (.bool true)):=pv_of_y tab_ok memo0_ok rfl (isV_spec kvr2)
end Go.Hem
namespace Go.Hem
theorem kwr0 : isV (xPure (Y prog polK memo0 tab 1000) 25 [kv3]) (kv11) = true:=by decide +kernel
theorem kwp0 : Pv prog polK 25 [kv3] (kv11):=pv_of_y tab_ok memo0_ok rfl (isV_spec kwr0)
end Go.Hem
namespace Go.Hem
def kml0 : MemoL:=[(21,[kv0],.sc (.bool true)),(21,[kv2],.sc (.bool true)),(21,[kv3],.sc (.bool true)),(223,[kv0],.tup [.agg [.sc (.int .i64 0),.sc (.int .i64 0),.sc (.int .i64 0)],.sc (.bool false)]),(223,[kv2],.tup [.agg [.sc (.int .i64 0),.sc (.int .i64 0),.sc (.int .i64 0)],.sc (.bool false)]),(121,[kv0],kv0),(121,[kv2],kv2),(189,[.sc (.str ⟨#[97]⟩)],.tup [.sc (.str ⟨#[34,97,34]⟩),.sc (.int .i64 0)]),(189,[.sc (.str ⟨#[98]⟩)],.tup [.sc (.str ⟨#[34,98,34]⟩),.sc (.int .i64 0)])]
theorem kml0_ok : MemosOk prog polK kml0:=⟨kvp0,kvp1,kvp2,kfp0,kfp1,kmp0,kmp1,kqp0,kqp1,trivial⟩
end Go.Hem
