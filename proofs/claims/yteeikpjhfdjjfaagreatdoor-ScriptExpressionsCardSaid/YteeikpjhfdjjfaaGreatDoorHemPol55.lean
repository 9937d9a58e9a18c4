import Derived.Test.YteeikpjhfdjjfaaGreatDoorHemKnown
import Derived.Test.YteeikpjhfdjjfaaGreatDoorHemLaw
import Derived.Test.YteeikpjhfdjjfaaGreatDoorHemRange
import Derived.Test.YteeikpjhfdjjfaaGreatDoorShelf55
import Derived.Test.YteeikpjhfdjjfaaGreatDoorDec55
import Derived.Shelf.Unicode.PredsPay
import Derived.Lib.ItoaNum
import Derived.Lib.AtoiErrMem
set_option maxRecDepth 100000
set_option linter.unusedVariables false
namespace Go.Hem
open Go.Proofs Go.RowKit
theorem decF_eq : ∀ (k u : Nat),u < 10 ^ k→decF k u = if k = 0 then [] else Lib.decDigits u
  | 0,u,_ => rfl
  | k + 1,u,h => by
    rw [if_neg (by omega),Lib.decDigits]
    simp only [decF]
    by_cases q : u < 10
    · rw [if_pos q,dif_pos q]
    · rw [if_neg q,dif_neg q]
      have hk : k ≠ 0:=fun e => by subst e; simp at h; omega
      rw [decF_eq k (u / 10) (by rw [Nat.pow_succ] at h; omega),if_neg hk]
def itoaL (n : Int) : List UInt8:=if n < 0 then 45 :: decF 20 n.natAbs else decF 20 n.toNat
theorem itoaL_eq {n : Int} (h0 : -9223372036854775808 ≤ n) (h1 : n ≤ 9223372036854775807) : itoaL n = Lib.itoa n:=by
  have e : ∀ u,u < 10 ^ 20→decF 20 u = Lib.decDigits u:=fun u h => by rw [decF_eq 20 u h]; rfl
  unfold itoaL Lib.itoa
  rw [e _ (by omega),e _ (by omega)]
def ixbEff (args : List AV) (H : AHeap) : Option (AV × AHeap) :=
  match args with
  | [.sc (.str s),.sc (.int .u8 c)] => some (.sc (.int .i64 (Lib.indexByte s.data.toList c.toNat.toUInt8)),H)
  | _ => none
def atoiEff (args : List AV) (H : AHeap) : Option (AV × AHeap) :=
  match args with
  | [.sc (.str s)] => if s.size ≤ 18 then (Lib.atoi s.data.toList).map fun n => (.tup [.sc (.int .i64 n),.sc .nili],H) else none
  | _ => none
def itoaEff (args : List AV) (H : AHeap) : Option (AV × AHeap) :=
  match args with
  | [.sc (.int .i64 n)] => if -9223372036854775808 ≤ n∧n ≤ 9223372036854775807 then some (.sc (.str ⟨(itoaL n).toArray⟩),H) else none
  | _ => none
theorem ixb_ok {B : World} {args : List AV} {H H' : AHeap} {v : AV} (h : ixbEff args H = some (v,H')) : H.next ≤ H'.next∧CallOK Tryz.prog B 115 args H v H':=by
  unfold ixbEff at h
  split at h
  rotate_left
  · cases h
  simp only [Option.some.injEq,Prod.mk.injEq] at h
  obtain ⟨rfl,rfl⟩:=h
  refine ⟨Nat.le_refl _,callOK_below fun G w args' hS hv => ?_⟩
  obtain ⟨u1,m1,e1,v1,hv⟩:=hv.of_cons
  obtain ⟨u2,m2,e2,v2,hv⟩:=hv.of_cons
  have e3:=hv.of_nil
  subst e3 e2
  have ea : args' = #[u1,u2]:=by rw [← Array.toArray_toList (xs:=args'),e1]
  subst ea
  rw [v1.sc_inv,v2.sc_inv]
  exact (Tryz.strings_IndexByte _ _ w).mono fun e w' ⟨h1,h2⟩ => ⟨h1,h2 ▸ Below.refl _ _⟩
theorem atoi_ok {B : World} {args : List AV} {H H' : AHeap} {v : AV} (h : atoiEff args H = some (v,H')) : H.next ≤ H'.next∧CallOK Tryz.prog B 109 args H v H':=by
  unfold atoiEff at h
  split at h
  rotate_left
  · cases h
  rename_i s
  split at h
  rotate_left
  · cases h
  rename_i hl
  simp only [Option.map_eq_some_iff,Prod.mk.injEq] at h
  obtain ⟨n,hn,rfl,rfl⟩:=h
  refine ⟨Nat.le_refl _,callOK_below2 fun G w args' hS hv => ?_⟩
  obtain ⟨u1,m1,e1,v1,hv⟩:=hv.of_cons
  have e3:=hv.of_nil
  subst e3
  have ea : args' = #[u1]:=by rw [← Array.toArray_toList (xs:=args'),e1]
  subst ea
  rw [v1.sc_inv]
  exact (Tryz.strconv_Atoi s n hl hn w).mono fun e w' ⟨h1,t,h2⟩ => ⟨h1,h2 ▸ Lib.bytesWorld_below _ _ _⟩
theorem below_grow (w : World) (k : Nat) (os : Array Obj) : Below w.heap.size w (Go.Sort.grow (w.drewN k) os) :=
  ⟨rfl,rfl,rfl,by simp [Go.Sort.grow],fun i hi => by simp only [Go.Sort.grow]; rw [Array.getElem?_append_left (by simpa using hi)]; rfl⟩
def Tab55 (B : World) : Prop := Lib.TabIs Tryz.prog B "internal/strconv.uint64pow10" .u64 Lib.pow10Tab
theorem itoa_ok {B : World} (hB : Tab55 B) {args : List AV} {H H' : AHeap} {v : AV} (h : itoaEff args H = some (v,H')) : H.next ≤ H'.next∧CallOK Tryz.prog B 248 args H v H':=by
  unfold itoaEff at h
  split at h
  rotate_left
  · cases h
  rename_i n
  split at h
  rotate_left
  · cases h
  rename_i hn
  simp only [Option.some.injEq,Prod.mk.injEq] at h
  obtain ⟨rfl,rfl⟩:=h
  refine ⟨Nat.le_refl _,callOK_below fun G w args' hS hv => ?_⟩
  obtain ⟨u1,m1,e1,v1,hv⟩:=hv.of_cons
  have e3:=hv.of_nil
  subst e3
  have ea : args' = #[u1]:=by rw [← Array.toArray_toList (xs:=args'),e1]
  subst ea
  rw [v1.sc_inv]
  obtain ⟨g, hg⟩ := Option.isSome_iff_exists.1 (show (Tryz.prog.globalNamed "internal/strconv.uint64pow10").isSome = true by kernel_rfl)
  have htab : Lib.TabIs Tryz.prog w "internal/strconv.uint64pow10" .u64 Lib.pow10Tab := TabIs_below hg hB (below_of_sim hS)
  exact (Tryz.strconv_Itoa n hn.1 hn.2 w htab).mono fun e w' ⟨h1,k,os,h2⟩ => ⟨by rw [h1]; simp only [Sc.val]; rw [itoaL_eq hn.1 hn.2],h2 ▸ below_grow w k os⟩
def decEff (args : List AV) (H : AHeap) : Option (AV × AHeap) :=
  match args with
  | [.sc (.int .i64 n)] => if -9223372036854775807 ≤ n∧n ≤ 9223372036854775807 then some (.sc (.str ⟨(itoaL n).toArray⟩),H) else none
  | _ => none
theorem dec_ok {B : World} {args : List AV} {H H' : AHeap} {v : AV} (h : decEff args H = some (v,H')) : H.next ≤ H'.next∧CallOK Tryz.prog B 12 args H v H':=by
  unfold decEff at h
  split at h
  rotate_left
  · cases h
  rename_i n
  split at h
  rotate_left
  · cases h
  rename_i hn
  simp only [Option.some.injEq,Prod.mk.injEq] at h
  obtain ⟨rfl,rfl⟩:=h
  refine ⟨Nat.le_refl _,callOK_below fun G w args' hS hv => ?_⟩
  obtain ⟨u1,m1,e1,v1,hv⟩:=hv.of_cons
  have e3:=hv.of_nil
  subst e3
  have ea : args' = #[u1]:=by rw [← Array.toArray_toList (xs:=args'),e1]
  subst ea
  rw [v1.sc_inv]
  exact Ins.dec_any n hn.1 hn.2 w
def pol55E (f : FuncId) (args : List AV) (H : AHeap) : Option (AV × AHeap) :=
  match f with
  | 115 => ixbEff args H
  | 109 => atoiEff args H
  | 248 => itoaEff args H
  | 12 => decEff args H
  | _ => none
theorem pol55_ok {B : World} (hB : Tab55 B) {pol : Pol} (h : pol.eff = pol55E) : PolOK Tryz.prog B pol:=by
  intro f args H v H' _ he
  rw [h] at he
  unfold pol55E at he
  split at he
  · exact ixb_ok he
  · exact atoi_ok he
  · exact itoa_ok hB he
  · exact dec_ok he
  · cases he
end Go.Hem
