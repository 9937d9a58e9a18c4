/- Closed runs of the example of chapter 53: texts,commands,the example. -/
import Derived.Test.YtgappelpgocboaaGreatDoorKRm
set_option maxRecDepth 100000
namespace Go.Hem
theorem kpr0 : isV (xPure (Y prog polK (memoOf kml0) tab 1000) 32 [kv0,kv1]) (.tup [kv2,.sc (.int .i64 0)]) = true:=by decide +kernel
theorem kpp0 : Pv prog polK 32 [kv0,kv1] (.tup [kv2,.sc (.int .i64 0)]):=pv_of_y tab_ok (memoOf_ok kml0_ok) rfl (isV_spec kpr0)
end Go.Hem
namespace Go.Hem
theorem kpr1 : isV (xPure (Y prog polK (memoOf kml0) tab 1000) 32 [kv3,kv4]) (.tup [kv0,.sc (.int .i64 0)]) = true:=by decide +kernel
theorem kpp1 : Pv prog polK 32 [kv3,kv4] (.tup [kv0,.sc (.int .i64 0)]):=pv_of_y tab_ok (memoOf_ok kml0_ok) rfl (isV_spec kpr1)
end Go.Hem
namespace Go.Hem
theorem kpr2 : isV (xPure (Y prog polK (memoOf kml0) tab 1000) 32 [kv3,kv1]) (.tup [kv2,.sc (.int .i64 0)]) = true:=by decide +kernel
theorem kpp2 : Pv prog polK 32 [kv3,kv1] (.tup [kv2,.sc (.int .i64 0)]):=pv_of_y tab_ok (memoOf_ok kml0_ok) rfl (isV_spec kpr2)
end Go.Hem
namespace Go.Hem
theorem kxr0 : isV (xPure (Y prog polK (memoOf kml0) tab 1000) 61 [kv4]) (.tup [kv16,.sc (.int .i64 0)]) = true:=by decide +kernel
theorem kxp0 : Pv prog polK 61 [kv4] (.tup [kv16,.sc (.int .i64 0)]):=pv_of_y tab_ok (memoOf_ok kml0_ok) rfl (isV_spec kxr0)
end Go.Hem
namespace Go.Hem
theorem kxr1 : isV (xPure (Y prog polK (memoOf kml0) tab 1000) 61 [kv1]) (.tup [kv17,.sc (.int .i64 0)]) = true:=by decide +kernel
theorem kxp1 : Pv prog polK 61 [kv1] (.tup [kv17,.sc (.int .i64 0)]):=pv_of_y tab_ok (memoOf_ok kml0_ok) rfl (isV_spec kxr1)
end Go.Hem
namespace Go.Hem
def kml1 : MemoL:=[(21,[kv0],.sc (.bool true)),(21,[kv2],.sc (.bool true)),(21,[kv3],.sc (.bool true)),(9,[.sc (.int .i64 1),.sc (.int .i64 1)],.tup [kv3,.sc (.int .i64 0)]),(25,[kv3],kv11),(61,[kv4],.tup [kv16,.sc (.int .i64 0)]),(61,[kv1],.tup [kv17,.sc (.int .i64 0)]),(32,[kv0,kv1],.tup [kv2,.sc (.int .i64 0)]),(32,[kv3,kv4],.tup [kv0,.sc (.int .i64 0)]),(32,[kv3,kv1],.tup [kv2,.sc (.int .i64 0)])]
theorem kml1_ok : MemosOk prog polK kml1:=⟨kvp0,kvp1,kvp2,kep0,kwp0,kxp0,kxp1,kpp0,kpp1,kpp2,trivial⟩
end Go.Hem
namespace Go.Hem
theorem known_run : isV (xPure (Y prog polK (memoOf kml1) tab 1000) 5 []) (.sc (.bool true)) = true:=by decide +kernel
theorem known_pv : Pv prog polK 5 [] (.sc (.bool true)):=pv_of_y tab_ok (memoOf_ok kml1_ok) rfl (isV_spec known_run)
end Go.Hem
