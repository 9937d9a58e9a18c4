import Derived.Test.YtgappelpgocboaaGreatDoorHemR
import Derived.Lib.AppendZerosOnto
set_option linter.unusedVariables false
set_option linter.unusedSimpArgs false
namespace Go.Hem
open Go.Lib
structure InsFn (P : Program) (f : FuncId) (T e n by' : Nat) : Prop where
  hu : P.underlying T = some (.slice e)
  hk : ∃ kn,P.underlying 3 = some (.int kn)
  hi : ∃ i zv,P.info? e = some i∧i.zero = some zv∧i.size = n∧i.bytes = by'∧zv.cells.size = n
  nz : n ≠ 0
  bz : by' ≠ 0
  skip : ∀ (a a2 : Option Addr) (len cap i cp : Nat) (w : World),i ≤ len→len ≤ cap→(a = none→cap = 0) →
    Calls P f #[.slice a len cap,.int .i64 i,.slice a2 0 cp] w fun e w' => e = .returned (.slice a len cap)∧w' = w
  nil : ∀ (m cp : Nat) (a : Option Addr) (w w1 : World) (v : Value),0 < m→(∀ ty,(Builtin.append_ #[T,T] ty #[.slice none 0 0,.slice a m cp]).run P w = .ok v w1) →
    Calls P f #[.slice none 0 0,.int .i64 0,.slice a m cp] w fun e w' => e = .returned v∧w' = w1
  behind : ∀ (c len cap m cp : Nat) (a : Option Addr) (w w1 : World) (v : Value),0 < m→len ≤ cap→(∀ ty,(Builtin.append_ #[T,T] ty #[.slice (some ⟨c,0,none⟩) len cap,.slice a m cp]).run P w = .ok v w1) →
    Calls P f #[.slice (some ⟨c,0,none⟩) len cap,.int .i64 len,.slice a m cp] w fun e w' => e = .returned v∧w' = w1
  grow : ∀ (c len cap i m cp K N : Nat) (a : Addr) (w w1 w2 w3 : World),i < len→0 < m→len ≤ cap→cap < len + m→len + m < 2 ^ 40→len + m ≤ K →
    (∀ ty,(Builtin.append_ #[T,3] ty #[.slice (some ⟨c,0,none⟩) i cap,.int .i64 ((len : Int) + (m : Int) - (i : Int))]).run P w = .ok (.slice (some ⟨N,0,none⟩) (len + m) K) w1) →
    (∀ ty,(Builtin.copy_ #[T,T] ty #[.slice (some ⟨N,i * n,none⟩) (len + m - i) (K - i),.slice (some a) m cp]).run P w1 = .ok (goInt m) w2) →
    (∀ ty,(Builtin.copy_ #[T,T] ty #[.slice (some ⟨N,(i + m) * n,none⟩) (len + m - (i + m)) (K - (i + m)),.slice (some ⟨c,i * n,none⟩) (len - i) (cap - i)]).run P w2.drew = .ok (goInt (len - i : Nat)) w3) →
    Calls P f #[.slice (some ⟨c,0,none⟩) len cap,.int .i64 i,.slice (some a) m cp] w fun e w' => e = .returned (.slice (some ⟨N,0,none⟩) (len + m) K)∧w' = w3
  room : ∀ (c cv o len cap i m cp : Nat) (w w1 w2 : World) (cells cellsv : Array Value) (el ev : TypeId),i < len→0 < m→len ≤ cap→len + m ≤ cap→len + m < 2 ^ 40→cv ≠ c →
    w.heap[cv]? = some (.cells cellsv ev (0,0))→w.heap[c]? = some (.cells cells el (0,0))→cells.size ≠ 0 →
    (∀ ty,(Builtin.copy_ #[T,T] ty #[.slice (some ⟨c,(i + m) * n,none⟩) (len + m - (i + m)) (cap - (i + m)),.slice (some ⟨c,i * n,none⟩) (len + m - i) (cap - i)]).run P w.drew = .ok (goInt (len - i : Nat)) w1) →
    (∀ ty,(Builtin.copy_ #[T,T] ty #[.slice (some ⟨c,i * n,none⟩) (len + m - i) (cap - i),.slice (some ⟨cv,o,none⟩) m cp]).run P w1 = .ok (goInt m) w2) →
    Calls P f #[.slice (some ⟨c,0,none⟩) len cap,.int .i64 i,.slice (some ⟨cv,o,none⟩) m cp] w fun e w' => e = .returned (.slice (some ⟨c,0,none⟩) (len + m) cap)∧w' = w2
def insE (n by' : Nat) (s : AV) (i : Int) (bv ov m cp nv : Nat) (H : AHeap) : Option (AV × AHeap) :=
  match s with
  | .sc .nils =>
    if i = 0 then
      if m = 0 then some (.sc .nils,H)
      else if (2 * m + 1000) * by' ≤ 2 ^ 47 then (asrc n H (.slice bv ov m cp nv) m).map fun xs => (.slice H.next 0 m m n,H.alloc (.cells xs)) else none
    else none
  | .slice b off len cap n' =>
    if 0 ≤ i∧i ≤ len then
      if m = 0 then some (s,H)
      else if off = 0∧n ≤ n'∧b ≠ bv∧(2 * (len + m) + 1000) * by' ≤ 2 ^ 47∧len + m < 2 ^ 40 then
        (H.cells b).bind fun cs => (asrc n H (.slice bv ov m cp nv) m).bind fun xs =>
          if len * n ≤ cs.length then some (.slice H.next 0 (len + m) (len + m) n,(H.put b none).alloc (.cells ((cs.take (len * n)).take (i.toNat * n) ++ xs ++ (cs.take (len * n)).drop (i.toNat * n)))) else none
      else none
    else none
  | _ => none
def insEff (n by' : Nat) : List AV→AHeap→Option (AV × AHeap)
  | [s,.sc (.int .i64 i),.slice bv ov m cp nv],H => insE n by' s i bv ov m cp nv H
  | _,_ => none
theorem callOK_of {P : Program} {B : World} {f : FuncId} {args : List AV} {H H' : AHeap} {v : AV}
    (h : ∀ G w (args' : Array Value),Sim B G H w→Clear G H.next H'.next→VRs G args args'.toList→∃ G' w' v',Sim B G' H' w'∧Step G H w G' H' w'∧VR G' v v'∧Calls P f args' w fun e w'' => e = .returned v'∧w'' = w') :
    CallOK P B f args H v H':=by
  intro G w args' hS hC hv cs
  obtain ⟨G',w',v',h1,h2,h3,h4⟩:=h G w args' hS hC hv
  obtain ⟨e,w'',fr',⟨rfl,rfl⟩,k2,k3,k4⟩:=h4 cs
  exact ⟨G',_,v',fr',h1,h2,h3,k2,k3,k4⟩
end Go.Hem
