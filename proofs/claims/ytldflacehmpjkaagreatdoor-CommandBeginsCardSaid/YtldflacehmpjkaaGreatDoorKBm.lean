/- Closed runs: the example of chapter 48. -/
import Derived.Test.YtldflacehmpjkaaGreatDoorKPm
set_option maxRecDepth 100000
namespace Go.Hem
def kv0 : AV:=.agg [.sc (.str ⟨#[]⟩),.sc (.bool false),.imm [.agg [.sc (.int .i64 0),.sc (.int .i64 1),.sc (.str ⟨#[]⟩),.sc (.int .i64 0),.sc (.int .i64 0),.imm [.agg [.sc (.int .i64 0),.sc (.int .i64 2),.sc (.int .i64 1)]]]],.imm [.agg [.sc (.int .i64 0),.sc (.int .i64 3),.sc (.int .i64 4),.sc (.int .i64 4),.sc (.int .i64 0),.sc (.int .i64 0),.sc (.int .i64 0),.sc (.int .i64 0),.sc (.int .i64 0),.sc (.int .i64 0),.sc (.int .i64 0),.sc (.int .i64 0),.sc (.bool false),.sc (.int .i64 0),.sc (.int .i64 0),.sc (.int .i64 0),.sc (.int .i64 0),.sc (.int .i64 0),.sc (.int .i64 0),.sc (.str ⟨#[]⟩),.sc .nils,.imm [.agg [.sc .nils,.imm [.agg [.imm [.agg [.sc (.int .i64 1),.sc (.int .i64 5),.sc (.int .i64 1),.sc (.int .i64 2),.sc (.int .i64 0),.imm [.agg [.sc (.int .i64 0),.sc (.int .i64 0),.sc (.int .i64 5),.sc (.bool false),.sc (.int .i64 0)]],.sc .nils,.sc (.int .i64 0),.sc (.int .i64 0),.sc (.int .i64 0),.sc .nils,.sc (.int .i64 0),.sc (.int .i64 0)],.agg [.sc (.int .i64 1),.sc (.int .i64 6),.sc (.int .i64 2),.sc (.int .i64 2),.sc (.int .i64 0),.sc .nils,.sc .nils,.sc (.int .i64 0),.sc (.int .i64 0),.sc (.int .i64 0),.sc .nils,.sc (.int .i64 0),.sc (.int .i64 0)],.agg [.sc (.int .i64 1),.sc (.int .i64 7),.sc (.int .i64 2),.sc (.int .i64 1),.sc (.int .i64 0),.sc .nils,.sc .nils,.sc (.int .i64 0),.sc (.int .i64 0),.sc (.int .i64 0),.sc .nils,.sc (.int .i64 0),.sc (.int .i64 0)]],.sc .nils]]]]]],.sc .nils,.imm [.agg [.sc (.int .i64 0),.sc (.int .i64 4)],.agg [.sc (.int .i64 1),.sc (.int .i64 7)]]]
def kv1 : AV:=.agg [.sc (.str ⟨#[]⟩),.sc (.bool false),.imm [.agg [.sc (.int .i64 0),.sc (.int .i64 1),.sc (.str ⟨#[]⟩),.sc (.int .i64 0),.sc (.int .i64 0),.imm [.agg [.sc (.int .i64 0),.sc (.int .i64 2),.sc (.int .i64 1)]]]],.imm [.agg [.sc (.int .i64 0),.sc (.int .i64 3),.sc (.int .i64 4),.sc (.int .i64 4),.sc (.int .i64 0),.sc (.int .i64 0),.sc (.int .i64 0),.sc (.int .i64 0),.sc (.int .i64 0),.sc (.int .i64 0),.sc (.int .i64 0),.sc (.int .i64 0),.sc (.bool false),.sc (.int .i64 0),.sc (.int .i64 0),.sc (.int .i64 0),.sc (.int .i64 0),.sc (.int .i64 0),.sc (.int .i64 0),.sc (.str ⟨#[]⟩),.sc .nils,.imm [.agg [.sc .nils,.imm [.agg [.imm [.agg [.sc (.int .i64 0),.sc (.int .i64 4),.sc (.int .i64 3),.sc (.int .i64 0),.sc (.int .i64 0),.sc .nils,.sc .nils,.sc (.int .i64 0),.sc (.int .i64 0),.sc (.int .i64 0),.sc .nils,.sc (.int .i64 0),.sc (.int .i64 0)]],.sc .nils]]]]]],.sc .nils,.imm [.agg [.sc (.int .i64 0),.sc (.int .i64 4)]]]
def kv2 : AV:=.agg [.sc (.int .i64 13),.sc (.int .i64 1),.sc (.int .i64 5),.sc (.int .i64 0),.sc (.int .i64 3),.sc (.int .i64 0),.sc (.int .i64 0),.sc (.int .i64 0),.sc (.int .i64 0),.sc (.int .i64 0),.sc (.int .i64 0),.sc (.int .i64 1),.sc (.int .i64 2),.sc (.int .i64 0),.sc (.int .i64 0),.sc (.int .i64 0),.sc (.int .i64 5),.sc (.int .i64 0),.sc (.int .i64 0),.sc (.int .i64 0),.sc (.int .i64 0),.sc (.int .i64 0),.sc (.int .i64 0),.sc (.int .i64 0),.sc (.int .i64 0),.sc (.int .i64 0),.sc (.int .i64 0),.sc (.str ⟨#[]⟩)]
def kv3 : AV:=.sc (.str ⟨#[119,114,105,116,101,32,49,32,53,32,111,98,106,101,99,116,32,64,48,46,51,32,110,117,109,98,101,114,32,49,32,118,97,108,117,101,32,52,32,112,105,116,99,104,32,67,53]⟩)
end Go.Hem
namespace Go.Hem
theorem kvr0 : isV (xPure (Y prog polI memo0 tab 1000) 7 [kv1]) (.sc (.bool true)) = true:=by decide +kernel
theorem kvp0 : Pv prog polI 7 [kv1] (.sc (.bool true)):=pv_of_y tab_ok memo0_ok rfl (isV_spec kvr0)
theorem kvr1 : isV (xPure (Y prog polI memo0 tab 1000) 7 [kv0]) (.sc (.bool true)) = true:=by decide +kernel
theorem kvp1 : Pv prog polI 7 [kv0] (.sc (.bool true)):=pv_of_y tab_ok memo0_ok rfl (isV_spec kvr1)
theorem kfr0 : isV (xPure (Y prog polI memo0 tab 1000) 166 [kv0]) (.tup [.agg [.sc (.int .i64 0),.sc (.int .i64 0),.sc (.int .i64 0)],.sc (.bool false)]) = true:=by decide +kernel
theorem kfp0 : Pv prog polI 166 [kv0] (.tup [.agg [.sc (.int .i64 0),.sc (.int .i64 0),.sc (.int .i64 0)],.sc (.bool false)]):=pv_of_y tab_ok memo0_ok rfl (isV_spec kfr0)
theorem kmr0 : isV (xPure (Y prog polI memo0 tab 1000) 70 [kv0]) (kv0) = true:=by decide +kernel
theorem kmp0 : Pv prog polI 70 [kv0] (kv0):=pv_of_y tab_ok memo0_ok rfl (isV_spec kmr0)
def kml0 : MemoL:=[(7,[kv1],.sc (.bool true)),(7,[kv0],.sc (.bool true)),(166,[kv0],.tup [.agg [.sc (.int .i64 0),.sc (.int .i64 0),.sc (.int .i64 0)],.sc (.bool false)]),(70,[kv0],kv0)]
theorem kml0_ok : MemosOk prog polI kml0:=⟨kvp0,kvp1,kfp0,kmp0,trivial⟩
end Go.Hem
namespace Go.Hem
def kmet : AV:=.agg [.sc (.int .i64 4),.sc (.int .i64 4),.sc (.int .i64 0),.sc (.int .i64 0),.sc (.int .i64 0),.sc (.int .i64 0),.sc (.int .i64 0),.sc (.int .i64 0)]
def kgroups : AV:=.imm [.sc (.int .i64 1),.sc (.int .i64 1),.sc (.int .i64 1),.sc (.int .i64 1)]
def kbeats : AV:=.imm [.sc (.int .i64 0),.sc (.int .i64 483840),.sc (.int .i64 967680),.sc (.int .i64 1451520)]
theorem kg_run : isV (xPure (Y prog polI memo0 tab 1000) 459 [kmet]) kgroups = true:=by decide +kernel
theorem kb_run : isV (xPure (Y prog polI memo0 tab 1000) 463 [kmet]) kbeats = true:=by decide +kernel
def kmg : MemoL:=[(459,[kmet],kgroups),(463,[kmet],kbeats)]
theorem kmg_ok : MemosOk prog polI kmg:=⟨pv_of_y tab_ok memo0_ok rfl (isV_spec kg_run),pv_of_y tab_ok memo0_ok rfl (isV_spec kb_run),trivial⟩
end Go.Hem
namespace Go.Hem
theorem ks_run0 : isV (xPure (Y prog polI (memoOf kmg) tab 1000) 445 [kmet,.sc (.int .i64 0),.sc (.int .i64 483840)]) (.tup [.sc (.int .i64 241920),.sc (.int .i64 4),.sc (.bool true)]) = true:=by decide +kernel
theorem ks0 : Pv prog polI 445 [kmet,.sc (.int .i64 0),.sc (.int .i64 483840)] (.tup [.sc (.int .i64 241920),.sc (.int .i64 4),.sc (.bool true)]):=pv_of_y tab_ok (memoOf_ok kmg_ok) rfl (isV_spec ks_run0)
end Go.Hem
namespace Go.Hem
theorem ks_run1 : isV (xPure (Y prog polI (memoOf kmg) tab 1000) 445 [kmet,.sc (.int .i64 483840),.sc (.int .i64 1935360)]) (.tup [.sc (.int .i64 967680),.sc (.int .i64 1),.sc (.bool true)]) = true:=by decide +kernel
theorem ks1 : Pv prog polI 445 [kmet,.sc (.int .i64 483840),.sc (.int .i64 1935360)] (.tup [.sc (.int .i64 967680),.sc (.int .i64 1),.sc (.bool true)]):=pv_of_y tab_ok (memoOf_ok kmg_ok) rfl (isV_spec ks_run1)
end Go.Hem
namespace Go.Hem
theorem ks_run2 : isV (xPure (Y prog polI (memoOf kmg) tab 1000) 445 [kmet,.sc (.int .i64 483840),.sc (.int .i64 967680)]) (.tup [.sc (.int .i64 725760),.sc (.int .i64 4),.sc (.bool true)]) = true:=by decide +kernel
theorem ks2 : Pv prog polI 445 [kmet,.sc (.int .i64 483840),.sc (.int .i64 967680)] (.tup [.sc (.int .i64 725760),.sc (.int .i64 4),.sc (.bool true)]):=pv_of_y tab_ok (memoOf_ok kmg_ok) rfl (isV_spec ks_run2)
end Go.Hem
namespace Go.Hem
theorem ks_run3 : isV (xPure (Y prog polI (memoOf kmg) tab 1000) 445 [kmet,.sc (.int .i64 967680),.sc (.int .i64 1935360)]) (.tup [.sc (.int .i64 1451520),.sc (.int .i64 2),.sc (.bool true)]) = true:=by decide +kernel
theorem ks3 : Pv prog polI 445 [kmet,.sc (.int .i64 967680),.sc (.int .i64 1935360)] (.tup [.sc (.int .i64 1451520),.sc (.int .i64 2),.sc (.bool true)]):=pv_of_y tab_ok (memoOf_ok kmg_ok) rfl (isV_spec ks_run3)
end Go.Hem
namespace Go.Hem
def kmls : MemoL:=[(445,[kmet,.sc (.int .i64 0),.sc (.int .i64 483840)],.tup [.sc (.int .i64 241920),.sc (.int .i64 4),.sc (.bool true)]),(445,[kmet,.sc (.int .i64 483840),.sc (.int .i64 1935360)],.tup [.sc (.int .i64 967680),.sc (.int .i64 1),.sc (.bool true)]),(445,[kmet,.sc (.int .i64 483840),.sc (.int .i64 967680)],.tup [.sc (.int .i64 725760),.sc (.int .i64 4),.sc (.bool true)]),(445,[kmet,.sc (.int .i64 967680),.sc (.int .i64 1935360)],.tup [.sc (.int .i64 1451520),.sc (.int .i64 2),.sc (.bool true)])] ++ (kmg ++ kml0)
theorem kmls_ok : MemosOk prog polI kmls:=⟨ks0,ks1,ks2,ks3,kmg_ok.1,kmg_ok.2.1,kml0_ok⟩
theorem kpr0 : isV (xPure (Y prog polI (memoOf kmls) tab 1000) 11 [kv1,kv2]) (.tup [kv0,.sc (.int .i64 0)]) = true:=by decide +kernel
theorem kpp0 : Pv prog polI 11 [kv1,kv2] (.tup [kv0,.sc (.int .i64 0)]):=pv_of_y tab_ok (memoOf_ok kmls_ok) rfl (isV_spec kpr0)
theorem kxr0 : isV (xPure (Y prog polI (memoOf kmls) tab 1000) 12 [kv2]) (.tup [kv3,.sc (.int .i64 0)]) = true:=by decide +kernel
theorem kxp0 : Pv prog polI 12 [kv2] (.tup [kv3,.sc (.int .i64 0)]):=pv_of_y tab_ok (memoOf_ok kmls_ok) rfl (isV_spec kxr0)
def kml1 : MemoL:=[(11,[kv1,kv2],.tup [kv0,.sc (.int .i64 0)]),(12,[kv2],.tup [kv3,.sc (.int .i64 0)])]
theorem kml1_ok : MemosOk prog polI kml1:=⟨kpp0,kxp0,trivial⟩
theorem known_run : isV (xPure (Y prog polI (memoOf kml1) tab 1000) 4 []) (.sc (.bool true)) = true:=by decide +kernel
theorem known_pv : Pv prog polI 4 [] (.sc (.bool true)):=pv_of_y tab_ok (memoOf_ok kml1_ok) rfl (isV_spec known_run)
end Go.Hem
