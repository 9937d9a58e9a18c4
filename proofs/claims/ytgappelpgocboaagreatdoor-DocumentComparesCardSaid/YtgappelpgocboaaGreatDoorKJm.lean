/- Closed runs of the example of chapter 53: records. -/
import Derived.Test.YtgappelpgocboaaGreatDoorHemTab
import Derived.Test.YtgappelpgocboaaGreatDoorPolM
import Derived.Test.YtgappelpgocboaaGreatDoorHemMemo
set_option maxRecDepth 100000
namespace Go.Hem
def kv0 : AV:=.agg [.sc (.str ⟨#[97]⟩),.sc (.bool false),.imm [.agg [.sc (.int .i64 1),.sc (.int .i64 1),.sc (.str ⟨#[]⟩),.sc (.int .i64 0),.sc (.int .i64 0),.imm [.agg [.sc (.int .i64 1),.sc (.int .i64 2),.sc (.int .i64 1)]]]],.imm [.agg [.sc (.int .i64 1),.sc (.int .i64 3),.sc (.int .i64 4),.sc (.int .i64 4),.sc (.int .i64 0),.sc (.int .i64 0),.sc (.int .i64 0),.sc (.int .i64 0),.sc (.int .i64 0),.sc (.int .i64 0),.sc (.int .i64 0),.sc (.int .i64 0),.sc (.bool false),.sc (.int .i64 0),.sc (.int .i64 0),.sc (.int .i64 0),.sc (.int .i64 0),.sc (.int .i64 0),.sc (.int .i64 0),.sc (.str ⟨#[]⟩),.sc .nils,.imm [.agg [.sc .nils,.imm [.agg [.imm [.agg [.sc (.int .i64 1),.sc (.int .i64 4),.sc (.int .i64 3),.sc (.int .i64 0),.sc (.int .i64 0),.sc .nils,.sc .nils,.sc (.int .i64 0),.sc (.int .i64 0),.sc (.int .i64 0),.sc .nils,.sc (.int .i64 0),.sc (.int .i64 0)]],.sc .nils]]]]]],.sc .nils,.imm [.agg [.sc (.int .i64 1),.sc (.int .i64 4)]]]
def kv1 : AV:=.agg [.sc (.int .i64 1),.sc (.int .i64 5),.sc (.int .i64 1024),.sc (.int .i64 0),.sc (.int .i64 0),.sc (.int .i64 0),.sc (.int .i64 0),.sc (.int .i64 0),.sc (.int .i64 0),.sc (.int .i64 0),.sc (.int .i64 0),.sc (.int .i64 0),.sc (.int .i64 0),.sc (.int .i64 0),.sc (.int .i64 0),.sc (.int .i64 0),.sc (.int .i64 0),.sc (.int .i64 0),.sc (.int .i64 0),.sc (.int .i64 0),.sc (.int .i64 0),.sc (.int .i64 0),.sc (.int .i64 0),.sc (.int .i64 0),.sc (.int .i64 0),.sc (.int .i64 0),.sc (.int .i64 0),.sc (.str ⟨#[98]⟩)]
def kv2 : AV:=.agg [.sc (.str ⟨#[98]⟩),.sc (.bool false),.imm [.agg [.sc (.int .i64 1),.sc (.int .i64 1),.sc (.str ⟨#[]⟩),.sc (.int .i64 0),.sc (.int .i64 0),.imm [.agg [.sc (.int .i64 1),.sc (.int .i64 2),.sc (.int .i64 1)]]]],.imm [.agg [.sc (.int .i64 1),.sc (.int .i64 3),.sc (.int .i64 4),.sc (.int .i64 4),.sc (.int .i64 0),.sc (.int .i64 0),.sc (.int .i64 0),.sc (.int .i64 0),.sc (.int .i64 0),.sc (.int .i64 0),.sc (.int .i64 0),.sc (.int .i64 0),.sc (.bool false),.sc (.int .i64 0),.sc (.int .i64 0),.sc (.int .i64 0),.sc (.int .i64 0),.sc (.int .i64 0),.sc (.int .i64 0),.sc (.str ⟨#[]⟩),.sc .nils,.imm [.agg [.sc .nils,.imm [.agg [.imm [.agg [.sc (.int .i64 1),.sc (.int .i64 4),.sc (.int .i64 3),.sc (.int .i64 0),.sc (.int .i64 0),.sc .nils,.sc .nils,.sc (.int .i64 0),.sc (.int .i64 0),.sc (.int .i64 0),.sc .nils,.sc (.int .i64 0),.sc (.int .i64 0)]],.sc .nils]]]]]],.sc .nils,.imm [.agg [.sc (.int .i64 1),.sc (.int .i64 4)]]]
def kv3 : AV:=.agg [.sc (.str ⟨#[]⟩),.sc (.bool false),.imm [.agg [.sc (.int .i64 1),.sc (.int .i64 1),.sc (.str ⟨#[]⟩),.sc (.int .i64 0),.sc (.int .i64 0),.imm [.agg [.sc (.int .i64 1),.sc (.int .i64 2),.sc (.int .i64 1)]]]],.imm [.agg [.sc (.int .i64 1),.sc (.int .i64 3),.sc (.int .i64 4),.sc (.int .i64 4),.sc (.int .i64 0),.sc (.int .i64 0),.sc (.int .i64 0),.sc (.int .i64 0),.sc (.int .i64 0),.sc (.int .i64 0),.sc (.int .i64 0),.sc (.int .i64 0),.sc (.bool false),.sc (.int .i64 0),.sc (.int .i64 0),.sc (.int .i64 0),.sc (.int .i64 0),.sc (.int .i64 0),.sc (.int .i64 0),.sc (.str ⟨#[]⟩),.sc .nils,.imm [.agg [.sc .nils,.imm [.agg [.imm [.agg [.sc (.int .i64 1),.sc (.int .i64 4),.sc (.int .i64 3),.sc (.int .i64 0),.sc (.int .i64 0),.sc .nils,.sc .nils,.sc (.int .i64 0),.sc (.int .i64 0),.sc (.int .i64 0),.sc .nils,.sc (.int .i64 0),.sc (.int .i64 0)]],.sc .nils]]]]]],.sc .nils,.imm [.agg [.sc (.int .i64 1),.sc (.int .i64 4)]]]
def kv4 : AV:=.agg [.sc (.int .i64 1),.sc (.int .i64 3),.sc (.int .i64 1024),.sc (.int .i64 0),.sc (.int .i64 0),.sc (.int .i64 0),.sc (.int .i64 0),.sc (.int .i64 0),.sc (.int .i64 0),.sc (.int .i64 0),.sc (.int .i64 0),.sc (.int .i64 0),.sc (.int .i64 0),.sc (.int .i64 0),.sc (.int .i64 0),.sc (.int .i64 0),.sc (.int .i64 0),.sc (.int .i64 0),.sc (.int .i64 0),.sc (.int .i64 0),.sc (.int .i64 0),.sc (.int .i64 0),.sc (.int .i64 0),.sc (.int .i64 0),.sc (.int .i64 0),.sc (.int .i64 0),.sc (.int .i64 0),.sc (.str ⟨#[97]⟩)]
def kv5 : AV:=.agg [.sc (.int .i64 1),.sc (.int .i64 3),.sc (.int .i64 1),.sc (.int .i64 1),.sc (.int .i64 3),.sc (.int .i64 1024),.sc (.int .i64 0),.sc (.int .i64 0),.sc (.int .i64 0),.sc (.int .i64 0),.sc (.int .i64 0),.sc (.int .i64 0),.sc (.int .i64 0),.sc (.int .i64 0),.sc (.int .i64 0),.sc (.int .i64 0),.sc (.int .i64 0),.sc (.int .i64 0),.sc (.int .i64 0),.sc (.int .i64 0),.sc (.int .i64 0),.sc (.int .i64 0),.sc (.int .i64 0),.sc (.int .i64 0),.sc (.int .i64 0),.sc (.int .i64 0),.sc (.int .i64 0),.sc (.int .i64 0),.sc (.int .i64 0),.sc (.int .i64 0),.sc (.str ⟨#[97]⟩)]
def kv6 : AV:=.sc (.str ⟨#[49,32,51,32,49,32,115,101,116,116,105,116,108,101,32,51,32,49,48,50,52,32,116,101,120,116,32,34,97,34]⟩)
def kv7 : AV:=.agg [.sc (.int .i64 1),.sc (.int .i64 5),.sc (.int .i64 1),.sc (.int .i64 1),.sc (.int .i64 5),.sc (.int .i64 1024),.sc (.int .i64 0),.sc (.int .i64 0),.sc (.int .i64 0),.sc (.int .i64 0),.sc (.int .i64 0),.sc (.int .i64 0),.sc (.int .i64 0),.sc (.int .i64 0),.sc (.int .i64 0),.sc (.int .i64 0),.sc (.int .i64 0),.sc (.int .i64 0),.sc (.int .i64 0),.sc (.int .i64 0),.sc (.int .i64 0),.sc (.int .i64 0),.sc (.int .i64 0),.sc (.int .i64 0),.sc (.int .i64 0),.sc (.int .i64 0),.sc (.int .i64 0),.sc (.int .i64 0),.sc (.int .i64 0),.sc (.int .i64 0),.sc (.str ⟨#[98]⟩)]
def kv8 : AV:=.sc (.str ⟨#[49,32,53,32,49,32,115,101,116,116,105,116,108,101,32,53,32,49,48,50,52,32,116,101,120,116,32,34,98,34]⟩)
def kv9 : AV:=.sc (.str ⟨#[104,101,109,105,111,108,97,32,100,111,99,117,109,101,110,116,32,49]⟩)
def kv10 : AV:=.sc (.str ⟨#[0,0,0,18,0,0,0,0,89,244,110,231,104,101,109,105,111,108,97,32,100,111,99,117,109,101,110,116,32,49]⟩)
def kv11 : AV:=.sc (.str ⟨#[48,32,48,32,49,32,49,32,49,32,48,32,48,32,48,32,49,32,49,32,50,32,49,32,49,32,49,32,51,32,52,32,52,32,48,32,48,32,48,32,48,32,48,32,48,32,48,32,48,32,48,32,48,32,48,32,48,32,48,32,48,32,48,32,48,32,48,32,49,32,48,32,49,32,49,32,49,32,52,32,51,32,48,32,48,32,48,32,48,32,48,32,48,32,48,32,48,32,48,32,48,32,48,32,48,32,49,32,49,32,52,32]⟩)
def kv12 : AV:=.sc (.str ⟨#[0,0,0,112,0,0,0,1,71,196,83,178,48,32,48,32,49,32,49,32,49,32,48,32,48,32,48,32,49,32,49,32,50,32,49,32,49,32,49,32,51,32,52,32,52,32,48,32,48,32,48,32,48,32,48,32,48,32,48,32,48,32,48,32,48,32,48,32,48,32,48,32,48,32,48,32,48,32,48,32,49,32,48,32,49,32,49,32,49,32,52,32,51,32,48,32,48,32,48,32,48,32,48,32,48,32,48,32,48,32,48,32,48,32,48,32,48,32,49,32,49,32,52,32]⟩)
def kv13 : AV:=.sc (.str ⟨#[0,0,0,30,0,0,0,2,240,64,228,91,49,32,51,32,49,32,115,101,116,116,105,116,108,101,32,51,32,49,48,50,52,32,116,101,120,116,32,34,97,34]⟩)
def kv14 : AV:=.sc (.str ⟨#[0,0,0,30,0,0,0,2,252,43,109,36,49,32,53,32,49,32,115,101,116,116,105,116,108,101,32,53,32,49,48,50,52,32,116,101,120,116,32,34,98,34]⟩)
def kv15 : AV:=.sc (.str ⟨#[0,0,0,30,0,0,0,3,254,167,12,138,49,32,51,32,49,32,115,101,116,116,105,116,108,101,32,51,32,49,48,50,52,32,116,101,120,116,32,34,97,34]⟩)
def kv16 : AV:=.sc (.str ⟨#[115,101,116,116,105,116,108,101,32,51,32,49,48,50,52,32,116,101,120,116,32,34,97,34]⟩)
def kv17 : AV:=.sc (.str ⟨#[115,101,116,116,105,116,108,101,32,53,32,49,48,50,52,32,116,101,120,116,32,34,98,34]⟩)
end Go.Hem
namespace Go.Hem
theorem kjr0 : isV (xPure (Y prog polJ memo0 tab 1000) 54 [.sc (.int .i64 0),kv9]) (.tup [kv10,.sc (.int .i64 0)]) = true:=by decide +kernel
theorem kjp0 : Pv prog polJ 54 [.sc (.int .i64 0),kv9] (.tup [kv10,.sc (.int .i64 0)]):=pv_of_y tab_ok memo0_ok rfl (isV_spec kjr0)
end Go.Hem
namespace Go.Hem
theorem kjr1 : isV (xPure (Y prog polJ memo0 tab 1000) 54 [.sc (.int .i64 1),kv11]) (.tup [kv12,.sc (.int .i64 0)]) = true:=by decide +kernel
theorem kjp1 : Pv prog polJ 54 [.sc (.int .i64 1),kv11] (.tup [kv12,.sc (.int .i64 0)]):=pv_of_y tab_ok memo0_ok rfl (isV_spec kjr1)
end Go.Hem
namespace Go.Hem
theorem kjr2 : isV (xPure (Y prog polJ memo0 tab 1000) 54 [.sc (.int .i64 2),kv6]) (.tup [kv13,.sc (.int .i64 0)]) = true:=by decide +kernel
theorem kjp2 : Pv prog polJ 54 [.sc (.int .i64 2),kv6] (.tup [kv13,.sc (.int .i64 0)]):=pv_of_y tab_ok memo0_ok rfl (isV_spec kjr2)
end Go.Hem
namespace Go.Hem
theorem kjr3 : isV (xPure (Y prog polJ memo0 tab 1000) 54 [.sc (.int .i64 2),kv8]) (.tup [kv14,.sc (.int .i64 0)]) = true:=by decide +kernel
theorem kjp3 : Pv prog polJ 54 [.sc (.int .i64 2),kv8] (.tup [kv14,.sc (.int .i64 0)]):=pv_of_y tab_ok memo0_ok rfl (isV_spec kjr3)
end Go.Hem
namespace Go.Hem
theorem kjr4 : isV (xPure (Y prog polJ memo0 tab 1000) 54 [.sc (.int .i64 3),kv6]) (.tup [kv15,.sc (.int .i64 0)]) = true:=by decide +kernel
theorem kjp4 : Pv prog polJ 54 [.sc (.int .i64 3),kv6] (.tup [kv15,.sc (.int .i64 0)]):=pv_of_y tab_ok memo0_ok rfl (isV_spec kjr4)
end Go.Hem
namespace Go.Hem
def kmlJ : MemoL:=[(54,[.sc (.int .i64 0),kv9],.tup [kv10,.sc (.int .i64 0)]),(54,[.sc (.int .i64 1),kv11],.tup [kv12,.sc (.int .i64 0)]),(54,[.sc (.int .i64 2),kv6],.tup [kv13,.sc (.int .i64 0)]),(54,[.sc (.int .i64 2),kv8],.tup [kv14,.sc (.int .i64 0)]),(54,[.sc (.int .i64 3),kv6],.tup [kv15,.sc (.int .i64 0)])]
theorem kmlJ_ok : MemosOk prog polJ kmlJ:=⟨kjp0,kjp1,kjp2,kjp3,kjp4,trivial⟩
end Go.Hem
