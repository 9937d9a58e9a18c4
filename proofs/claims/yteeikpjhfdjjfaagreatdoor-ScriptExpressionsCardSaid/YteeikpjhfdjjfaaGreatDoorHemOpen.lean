import Derived.Test.YteeikpjhfdjjfaaGreatDoorHemOw
import Derived.OpenShut
import Derived.Carry
import Derived.WalkKit
set_option linter.unusedVariables false
namespace Go.Hem
inductive Sh where
  | int (k : IntKind)
  | bool
  | str
  | slice (e : Sh)
  | struct (fs : List Sh)
mutual
def Sh.len : Sh→Nat
  | .struct fs => Sh.lens fs
  | _ => 1
def Sh.lens : List Sh→Nat
  | [] => 0
  | s :: l => Sh.len s + Sh.lens l
end
def Sh.agg : Sh→Bool
  | .struct _ => true
  | _ => false
def Canon (e : Sh) (v : AV) : Prop:=if e.agg = true then v = .agg v.cells else v.cells = [v]
mutual
def Sh.ok : Sh→List AV→Prop
  | .int k,as => ∃ n,as = [.sc (.int k n)]∧k.min ≤ n∧n ≤ k.max
  | .bool,as => ∃ b,as = [.sc (.bool b)]
  | .str,as => ∃ s : ByteArray,as = [.sc (.str s)]∧s.size ≤ maxLen
  | .slice e,as => as = [.sc .nils] ∨ ∃ l : List AV,as = [.imm l]∧l.length ≤ maxLen∧∀ v ∈ l,Sh.ok e v.cells∧Canon e v
  | .struct fs,as => Sh.oks fs as
def Sh.oks : List Sh→List AV→Prop
  | [],as => as = []
  | s :: l,as => ∃ a b,as = a ++ b∧Sh.ok s a∧Sh.oks l b
end
def shFs (P : Program) (g : TypeId→Option Sh) : List Field→Nat→Option (List Sh × Nat)
  | [],o => some ([],o)
  | f :: fs,o => if f.offset = o then (g f.type).bind fun s => if s.len = P.cellsOf f.type then (shFs P g fs (o + s.len)).map fun r => (s :: r.1,r.2) else none else none
def shOf (P : Program) : Nat→TypeId→Option Sh
  | 0,_ => none
  | d + 1,t =>
    match P.underlying t with
    | some (.int k) => some (.int k)
    | some .bool => some .bool
    | some .string => some .str
    | some (.slice e) => (shOf P d e).bind fun s => if s.len = P.cellsOf e∧s.len ≠ 0 then some (.slice s) else none
    | some (.struct fs) => (shFs P (shOf P d) fs.toList 0).bind fun r => if r.2 = P.cellsOf t then some (.struct r.1) else none
    | some (.array n e) => (shOf P d e).bind fun s => if s.len = P.cellsOf e∧n * s.len = P.cellsOf t then some (.struct (List.replicate n s)) else none
    | _ => none
section
variable {H : Type} {enc : TypeId × Value→H} {P : Program} {w : World} {spare : Nat→Bool} {held : Bool}
def Opened (w : World) (sh : Sh) (cs : List Value) : Prop:=∃ as,sh.ok as∧as.length = sh.len∧AV.ones as = true∧VRs (start w) as cs
end
end Go.Hem
