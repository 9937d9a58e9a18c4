/- The policy for the laws of chapter 48: which functions are run by themselves (their results are numbers). -/
import Derived.Test.YteffcgojmmbogaaGreatDoorHemPol48
import Derived.Test.YteffcgojmmbogaaGreatDoorBase48
namespace Go.Hem
open Go.Proofs
def pureK (f : FuncId) : Bool :=
  match f with
  | 5 | 6 | 7 | 8 | 9 | 10 | 15 | 16 | 17 | 18 | 30 | 31 | 67 | 69 | 71 | 86 | 87 | 102 | 108 | 118 | 145 | 146 | 174 | 202 | 204 | 207 | 208 | 234 | 237 | 332 | 238 | 239 | 242 | 253 | 259 | 260 | 261 | 262 => true
  | 317 | 318 | 319 | 344 | 383 | 384 | 427 | 431 | 432 | 433 | 450 | 454 => true
  | _ => false
def polK : Pol:={ pure:=pureK,eff:=pol48E }
end Go.Hem
