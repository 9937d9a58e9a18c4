import Derived.Test.YtnlhhjmheghnnaaHemIns
import Derived.Test.YtnlhhjmheghnnaaIns67
import Derived.Test.YtnlhhjmheghnnaaIns76
import Derived.Test.YtnlhhjmheghnnaaIns77
import Derived.Test.YtnlhhjmheghnnaaIns103
set_option maxRecDepth 100000
namespace Go.Hem
open Go.Proofs.Ins
def infoB (P : Program) (e n b : Nat) : Bool :=
  match P.info? e with
  | some i => (match i.zero with | some z => i.size == n && i.bytes == b && z.cells.size == n | none => false)
  | none => false
theorem infoB_spec {P : Program} {e n b : Nat} (h : infoB P e n b = true) : ∃ i zv,P.info? e = some i∧i.zero = some zv∧i.size = n∧i.bytes = b∧zv.cells.size = n:=by
  unfold infoB at h
  split at h
  · rename_i i hi
    split at h
    · rename_i z hz
      simp only [Bool.and_eq_true,beq_iff_eq] at h
      exact ⟨i,z,hi,hz,h.1.1,h.1.2,h.2⟩
    · cases h
  · cases h
theorem insFn67 : InsFn Go.Proofs.Try.prog 67 25 29 2 16 where
  hu:=by kernel_rfl
  hk:=⟨.i64,by kernel_rfl⟩
  hi:=infoB_spec (by decide +kernel)
  nz:=by decide
  bz:=by decide
  skip:=fun a a2 len cap i cp w h1 h2 h3 => ins67_skip a a2 len cap i cp w h1 h2 h3
  nil:=fun m cp a w w1 v h1 h2 => ins67_nil m cp a w w1 v h1 h2
  behind:=fun c len cap m cp a w w1 v h1 h2 h3 => ins67_end c len cap m cp a w w1 v h1 h2 h3
  grow:=fun c len cap i m cp K N a w w1 w2 w3 h1 h2 h3 h4 h5 h6 h7 h8 h9 => ins67_grow c len cap i m cp K N a w w1 w2 w3 h1 h2 h3 h4 h5 h6 h7 h8 h9
  room:=fun c cv o len cap i m cp w w1 w2 cells cellsv el ev h1 h2 h3 h4 h5 h6 g1 g2 g3 k1 k2 =>
    ins67_room c len cap i m cp ⟨cv,o,none⟩ w w1 w2 h1 h2 h3 h4 h5 (ins67_apart c cv o _ _ _ _ _ w cells cellsv el ev h6 g1 g2 g3) k1 k2
theorem insFn76 : InsFn Go.Proofs.Try.prog 76 74 80 2 48 where
  hu:=by kernel_rfl
  hk:=⟨.i64,by kernel_rfl⟩
  hi:=infoB_spec (by decide +kernel)
  nz:=by decide
  bz:=by decide
  skip:=fun a a2 len cap i cp w h1 h2 h3 => ins76_skip a a2 len cap i cp w h1 h2 h3
  nil:=fun m cp a w w1 v h1 h2 => ins76_nil m cp a w w1 v h1 h2
  behind:=fun c len cap m cp a w w1 v h1 h2 h3 => ins76_end c len cap m cp a w w1 v h1 h2 h3
  grow:=fun c len cap i m cp K N a w w1 w2 w3 h1 h2 h3 h4 h5 h6 h7 h8 h9 => ins76_grow c len cap i m cp K N a w w1 w2 w3 h1 h2 h3 h4 h5 h6 h7 h8 h9
  room:=fun c cv o len cap i m cp w w1 w2 cells cellsv el ev h1 h2 h3 h4 h5 h6 g1 g2 g3 k1 k2 =>
    ins76_room c len cap i m cp ⟨cv,o,none⟩ w w1 w2 h1 h2 h3 h4 h5 (ins76_apart c cv o _ _ _ _ _ w cells cellsv el ev h6 g1 g2 g3) k1 k2
theorem insFn77 : InsFn Go.Proofs.Try.prog 77 22 56 6 72 where
  hu:=by kernel_rfl
  hk:=⟨.i64,by kernel_rfl⟩
  hi:=infoB_spec (by decide +kernel)
  nz:=by decide
  bz:=by decide
  skip:=fun a a2 len cap i cp w h1 h2 h3 => ins77_skip a a2 len cap i cp w h1 h2 h3
  nil:=fun m cp a w w1 v h1 h2 => ins77_nil m cp a w w1 v h1 h2
  behind:=fun c len cap m cp a w w1 v h1 h2 h3 => ins77_end c len cap m cp a w w1 v h1 h2 h3
  grow:=fun c len cap i m cp K N a w w1 w2 w3 h1 h2 h3 h4 h5 h6 h7 h8 h9 => ins77_grow c len cap i m cp K N a w w1 w2 w3 h1 h2 h3 h4 h5 h6 h7 h8 h9
  room:=fun c cv o len cap i m cp w w1 w2 cells cellsv el ev h1 h2 h3 h4 h5 h6 g1 g2 g3 k1 k2 =>
    ins77_room c len cap i m cp ⟨cv,o,none⟩ w w1 w2 h1 h2 h3 h4 h5 (ins77_apart c cv o _ _ _ _ _ w cells cellsv el ev h6 g1 g2 g3) k1 k2
theorem insFn103 : InsFn Go.Proofs.Try.prog 103 23 76 22 216 where
  hu:=by kernel_rfl
  hk:=⟨.i64,by kernel_rfl⟩
  hi:=infoB_spec (by decide +kernel)
  nz:=by decide
  bz:=by decide
  skip:=fun a a2 len cap i cp w h1 h2 h3 => ins103_skip a a2 len cap i cp w h1 h2 h3
  nil:=fun m cp a w w1 v h1 h2 => ins103_nil m cp a w w1 v h1 h2
  behind:=fun c len cap m cp a w w1 v h1 h2 h3 => ins103_end c len cap m cp a w w1 v h1 h2 h3
  grow:=fun c len cap i m cp K N a w w1 w2 w3 h1 h2 h3 h4 h5 h6 h7 h8 h9 => ins103_grow c len cap i m cp K N a w w1 w2 w3 h1 h2 h3 h4 h5 h6 h7 h8 h9
  room:=fun c cv o len cap i m cp w w1 w2 cells cellsv el ev h1 h2 h3 h4 h5 h6 g1 g2 g3 k1 k2 =>
    ins103_room c len cap i m cp ⟨cv,o,none⟩ w w1 w2 h1 h2 h3 h4 h5 (ins103_apart c cv o _ _ _ _ _ w cells cellsv el ev h6 g1 g2 g3) k1 k2
def insPol (f : FuncId) (args : List AV) (H : AHeap) : Option (AV × AHeap) :=
  match f with
  | 67 => insEff 2 16 args H
  | 76 => insEff 2 48 args H
  | 77 => insEff 6 72 args H
  | 103 => insEff 22 216 args H
  | _ => none
theorem insPol_ok {pol : Pol} (h : pol.eff = insPol) : PolOK Go.Proofs.Try.prog pol:=by
  intro B f args H v H' _ he
  rw [h] at he
  unfold insPol at he
  split at he
  · exact insFn_ok insFn67 he
  · exact insFn_ok insFn76 he
  · exact insFn_ok insFn77 he
  · exact insFn_ok insFn103 he
  · cases he
end Go.Hem
