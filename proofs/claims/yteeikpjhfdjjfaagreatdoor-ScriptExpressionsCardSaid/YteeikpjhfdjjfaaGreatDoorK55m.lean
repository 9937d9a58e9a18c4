/- What the policy says,and the example of chapter 55 run. -/
import Derived.Test.YteeikpjhfdjjfaaGreatDoorHemPol55
import Derived.Test.YteeikpjhfdjjfaaGreatDoorBase55
import Derived.Test.YteeikpjhfdjjfaaGreatDoorHemTab
import Derived.Test.YteeikpjhfdjjfaaGreatDoorHemMemo
set_option maxRecDepth 100000
namespace Go.Hem
open Go.Proofs
def pureW (f : FuncId) : Bool :=
  match f with
  | 7 | 10 | 17 | 999999 | 14 | 18 | 19 | 105 | 108 | 107 | 117 | 119 | 207 | 120 | 999998 | 116 => true
  | _ => false
def polW : Pol:={ pure:=pureW,eff:=pol55E }
end Go.Hem
namespace Go.Hem
def oneV : AV:=.agg [.sc (.str ⟨#[]⟩),.sc (.bool false),.imm [.agg [.sc (.int .i64 0),.sc (.int .i64 1),.sc (.str ⟨#[]⟩),.sc (.int .i64 0),.sc (.int .i64 0),.imm [.agg [.sc (.int .i64 0),.sc (.int .i64 2),.sc (.int .i64 1)]]]],.imm [.agg [.sc (.int .i64 0),.sc (.int .i64 3),.sc (.int .i64 4),.sc (.int .i64 4),.sc (.int .i64 0),.sc (.int .i64 0),.sc (.int .i64 0),.sc (.int .i64 0),.sc (.int .i64 0),.sc (.int .i64 0),.sc (.int .i64 0),.sc (.int .i64 0),.sc (.bool false),.sc (.int .i64 0),.sc (.int .i64 0),.sc (.int .i64 0),.sc (.int .i64 0),.sc (.int .i64 0),.sc (.int .i64 0),.sc (.str ⟨#[]⟩),.sc .nils,.imm [.agg [.sc .nils,.imm [.agg [.imm [.agg [.sc (.int .i64 0),.sc (.int .i64 4),.sc (.int .i64 1),.sc (.int .i64 0),.sc (.int .i64 0),.imm [.agg [.sc (.int .i64 0),.sc (.int .i64 0),.sc (.int .i64 4),.sc (.bool false),.sc (.int .i64 0)]],.sc .nils,.sc (.int .i64 0),.sc (.int .i64 0),.sc (.int .i64 0),.sc .nils,.sc (.int .i64 0),.sc (.int .i64 0)]],.sc .nils]]]]]],.sc .nils,.imm [.agg [.sc (.int .i64 0),.sc (.int .i64 4)]]]
def kwV : AV:=.imm [.sc (.str ⟨#[97,110,100]⟩),.sc (.str ⟨#[97,116]⟩),.sc (.str ⟨#[99,104,111,114,100,115]⟩),.sc (.str ⟨#[99,111,117,110,116]⟩),.sc (.str ⟨#[100,111]⟩),.sc (.str ⟨#[101,108,115,101]⟩),.sc (.str ⟨#[101,118,101,110,116,115]⟩),.sc (.str ⟨#[102,111,114]⟩),.sc (.str ⟨#[102,114,111,109]⟩),.sc (.str ⟨#[105,102]⟩),.sc (.str ⟨#[105,110,100,101,120]⟩),.sc (.str ⟨#[105,110,116,101,114,118,97,108]⟩),.sc (.str ⟨#[105,116]⟩),.sc (.str ⟨#[108,101,116]⟩),.sc (.str ⟨#[109,101,97,115,117,114,101,115]⟩),.sc (.str ⟨#[109,101,116,114,101]⟩),.sc (.str ⟨#[110,111,116]⟩),.sc (.str ⟨#[110,117,109,98,101,114]⟩),.sc (.str ⟨#[111,98,106,101,99,116]⟩),.sc (.str ⟨#[111,114]⟩),.sc (.str ⟨#[111,116,104,101,114]⟩),.sc (.str ⟨#[112,97,114,116,115]⟩),.sc (.str ⟨#[112,105,116,99,104]⟩),.sc (.str ⟨#[112,114,105,110,116]⟩),.sc (.str ⟨#[114,101,112,101,97,116]⟩),.sc (.str ⟨#[114,101,115,116,115]⟩),.sc (.str ⟨#[115,112,97,110,110,101,114,115]⟩),.sc (.str ⟨#[115,116,97,102,102]⟩),.sc (.str ⟨#[115,116,97,118,101,115]⟩),.sc (.str ⟨#[116,101,120,116]⟩),.sc (.str ⟨#[116,111]⟩),.sc (.str ⟨#[118,97,108,117,101]⟩),.sc (.str ⟨#[118,111,105,99,101]⟩)]
theorem one_run : isV (xPure (Y prog polW memo0 tab 1000) 10 []) oneV = true:=by decide +kernel
theorem kw_run : isV (xPure (Y prog polW memo0 tab 1000) 14 []) kwV = true:=by decide +kernel
theorem valid_run : isV (xPure (Y prog polW memo0 tab 1000) 18 [oneV]) (.sc (.bool true)) = true:=by decide +kernel
theorem one_pv : Pv prog polW 10 [] oneV:=pv_of_y tab_ok memo0_ok rfl (isV_spec one_run)
theorem kw_pv : Pv prog polW 14 [] kwV:=pv_of_y tab_ok memo0_ok rfl (isV_spec kw_run)
theorem valid_pv : Pv prog polW 18 [oneV] (.sc (.bool true)):=pv_of_y tab_ok memo0_ok rfl (isV_spec valid_run)
def kml : MemoL:=[(18,[oneV],.sc (.bool true)),(14,[],kwV),(10,[],oneV)]
theorem kml_ok : MemosOk prog polW kml:=⟨valid_pv,kw_pv,one_pv,trivial⟩
end Go.Hem
namespace Go.Hem
theorem known_run : isV (xPure (Y prog polW (memoOf kml) tab 1000) 7 []) (.sc (.bool true)) = true:=by decide +kernel
theorem known_pv : Pv prog polW 7 [] (.sc (.bool true)):=pv_of_y tab_ok (memoOf_ok kml_ok) rfl (isV_spec known_run)
end Go.Hem
