/- The policy for the law of chapter 53,with the functions of the journal that defer or range over a function. -/
import Derived.Test.YtgappelpgocboaaGreatDoorKJm
import Derived.Test.YtgappelpgocboaaGreatDoorHemDefX
set_option maxRecDepth 100000
namespace Go.Hem
open Go.Proofs
noncomputable def effJ (f : FuncId) (args : List AV) (H : AHeap) : Option (AV × AHeap):=defCall prog polJ (recX prog polJ (memoOf kmlJ) (Y prog polJ (memoOf kmlJ) tab 1000) 1000) f args H
noncomputable def effK (f : FuncId) (args : List AV) (H : AHeap) : Option (AV × AHeap) :=
  match f with
  | 22 => effJ 22 args H
  | 27 => effJ 27 args H
  | 28 => effJ 28 args H
  | _ => pol53E f args H
noncomputable def polK : Pol:={ pure:=pureK,eff:=effK }
theorem polK_ok {B : World} (hB : Tab55 B) (hmix : Tryz.prog.follows .mixedOrders = true) : PolOK Tryz.prog B polK:=by
  have h0 : PolOK prog B polJ:=pol53_ok hB rfl
  intro f args H v H' hi he
  have he : effK f args H = some (v,H'):=he
  unfold effK at he
  split at he
  · exact defX_ok h0 hmix (memoOf_ok kmlJ_ok) (Y_ok tab_ok (memoOf_ok kmlJ_ok) 1000) 1000 he
  · exact defX_ok h0 hmix (memoOf_ok kmlJ_ok) (Y_ok tab_ok (memoOf_ok kmlJ_ok) 1000) 1000 he
  · exact defX_ok h0 hmix (memoOf_ok kmlJ_ok) (Y_ok tab_ok (memoOf_ok kmlJ_ok) 1000) 1000 he
  · exact h0 f args H v H' hi he
end Go.Hem
