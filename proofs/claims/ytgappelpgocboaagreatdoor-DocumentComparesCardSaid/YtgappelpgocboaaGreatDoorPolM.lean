/- What the policy says of library functions. -/
import Derived.Test.YtgappelpgocboaaGreatDoorHemFall
import Derived.Test.YtgappelpgocboaaGreatDoorHemLaw
import Derived.Test.YtgappelpgocboaaGreatDoorHemRange
import Derived.Test.YtgappelpgocboaaGreatDoorKit53
import Derived.Shelf.Unicode.PredsPay
import Derived.Lib.ItoaNum
import Derived.Test.YtgappelpgocboaaGreatDoorBase55
set_option maxRecDepth 100000
set_option linter.unusedVariables false
namespace Go.Hem
open Go.Proofs Go.RowKit
/-- The digits of a number,by so many rounds. -/
def decF : Nat→Nat→List UInt8
  | 0,_ => []
  | k + 1,u => if u < 10 then [UInt8.ofNat (48 + u)] else decF k (u / 10) ++ [UInt8.ofNat (48 + u % 10)]
theorem decF_eq : ∀ (k u : Nat),u < 10 ^ k→decF k u = if k = 0 then [] else Lib.decDigits u
  | 0,u,_ => rfl
  | k + 1,u,h => by
    rw [if_neg (by omega),Lib.decDigits]
    simp only [decF]
    by_cases q : u < 10
    · rw [if_pos q,dif_pos q]
    · rw [if_neg q,dif_neg q]
      have hk : k ≠ 0:=fun e => by subst e; simp at h; omega
      rw [decF_eq k (u / 10) (by rw [Nat.pow_succ] at h; omega),if_neg hk]
def itoaL (n : Int) : List UInt8:=if n < 0 then 45 :: decF 20 n.natAbs else decF 20 n.toNat
theorem itoaL_eq {n : Int} (h0 : -9223372036854775808 ≤ n) (h1 : n ≤ 9223372036854775807) : itoaL n = Lib.itoa n:=by
  have e : ∀ u,u < 10 ^ 20→decF 20 u = Lib.decDigits u:=fun u h => by rw [decF_eq 20 u h]; rfl
  unfold itoaL Lib.itoa
  rw [e _ (by omega),e _ (by omega)]
def ixbEff (args : List AV) (H : AHeap) : Option (AV × AHeap) :=
  match args with
  | [.sc (.str s),.sc (.int .u8 c)] => some (.sc (.int .i64 (Lib.indexByte s.data.toList c.toNat.toUInt8)),H)
  | _ => none
def itoaEff (args : List AV) (H : AHeap) : Option (AV × AHeap) :=
  match args with
  | [.sc (.int .i64 n)] => if -9223372036854775808 ≤ n∧n ≤ 9223372036854775807 then some (.sc (.str ⟨(itoaL n).toArray⟩),H) else none
  | _ => none
theorem ixb_ok {B : World} {args : List AV} {H H' : AHeap} {v : AV} (h : ixbEff args H = some (v,H')) : H.next ≤ H'.next∧CallOK Tryz.prog B 293 args H v H':=by
  unfold ixbEff at h
  split at h
  rotate_left
  · cases h
  simp only [Option.some.injEq,Prod.mk.injEq] at h
  obtain ⟨rfl,rfl⟩:=h
  refine ⟨Nat.le_refl _,callOK_below fun G w args' hS hv => ?_⟩
  obtain ⟨u1,m1,e1,v1,hv⟩:=hv.of_cons
  obtain ⟨u2,m2,e2,v2,hv⟩:=hv.of_cons
  have e3:=hv.of_nil
  subst e3 e2
  have ea : args' = #[u1,u2]:=by rw [← Array.toArray_toList (xs:=args'),e1]
  subst ea
  rw [v1.sc_inv,v2.sc_inv]
  exact (Tryz.strings_IndexByte _ _ w).mono fun e w' ⟨h1,h2⟩ => ⟨h1,h2 ▸ Below.refl _ _⟩
theorem below_grow (w : World) (k : Nat) (os : Array Obj) : Below w.heap.size w (Go.Sort.grow (w.drewN k) os) :=
  ⟨rfl,rfl,rfl,by simp [Go.Sort.grow],fun i hi => by simp only [Go.Sort.grow]; rw [Array.getElem?_append_left (by simpa using hi)]; rfl⟩
/-- The table that strconv.Itoa reads stands in a world. -/
def Tab55 (B : World) : Prop := Lib.TabIs Tryz.prog B "internal/strconv.uint64pow10" .u64 Lib.pow10Tab
theorem itoa_ok {B : World} (hB : Tab55 B) {args : List AV} {H H' : AHeap} {v : AV} (h : itoaEff args H = some (v,H')) : H.next ≤ H'.next∧CallOK Tryz.prog B 26 args H v H':=by
  unfold itoaEff at h
  split at h
  rotate_left
  · cases h
  rename_i n
  split at h
  rotate_left
  · cases h
  rename_i hn
  simp only [Option.some.injEq,Prod.mk.injEq] at h
  obtain ⟨rfl,rfl⟩:=h
  refine ⟨Nat.le_refl _,callOK_below fun G w args' hS hv => ?_⟩
  obtain ⟨u1,m1,e1,v1,hv⟩:=hv.of_cons
  have e3:=hv.of_nil
  subst e3
  have ea : args' = #[u1]:=by rw [← Array.toArray_toList (xs:=args'),e1]
  subst ea
  rw [v1.sc_inv]
  obtain ⟨g, hg⟩ := Option.isSome_iff_exists.1 (show (Tryz.prog.globalNamed "internal/strconv.uint64pow10").isSome = true by kernel_rfl)
  have htab : Lib.TabIs Tryz.prog w "internal/strconv.uint64pow10" .u64 Lib.pow10Tab := TabIs_below hg hB (below_of_sim hS)
  exact (Tryz.strconv_Itoa n hn.1 hn.2 w htab).mono fun e w' ⟨h1,k,os,h2⟩ => ⟨by rw [h1]; simp only [Sc.val]; rw [itoaL_eq hn.1 hn.2],h2 ▸ below_grow w k os⟩
def strsOf : List AV→Option (List ByteArray)
  | [] => some []
  | .sc (.str s) :: l => (strsOf l).map (s :: ·)
  | _ :: _ => none
theorem strsOf_spec : ∀ {l : List AV} {xs : List ByteArray},strsOf l = some xs→l = xs.map fun s => .sc (.str s)
  | [],xs,h => by cases h; rfl
  | .sc (.str s) :: l,xs,h => by
    simp only [strsOf,Option.map_eq_some_iff] at h
    obtain ⟨ys,h2,rfl⟩:=h
    rw [strsOf_spec h2]; rfl
  | .sc (.int ..) :: _,xs,h | .sc (.bool _) :: _,xs,h | .sc .nilp :: _,xs,h | .sc .nils :: _,xs,h | .sc .nilm :: _,xs,h | .sc .nilf :: _,xs,h | .sc .nili :: _,xs,h | .sc .undef :: _,xs,h | .sc (.glob _) :: _,xs,h | .sc (.flt ..) :: _,xs,h
  | .ptr .. :: _,xs,h | .iptr _ :: _,xs,h | .slice .. :: _,xs,h | .imm _ :: _,xs,h | .agg _ :: _,xs,h | .tup _ :: _,xs,h | .func .. :: _,xs,h | .iface .. :: _,xs,h | .map _ :: _,xs,h | .yield _ :: _,xs,h | .poison :: _,xs,h => by simp [strsOf] at h
/-- strings.Join of texts that lie in the heap. -/
def joinEff (args : List AV) (H : AHeap) : Option (AV × AHeap) :=
  match args with
  | [.slice b off len _ _,.sc (.str sep)] =>
    (H.cells b).bind fun cs => (strsOf ((cs.drop off).take len)).bind fun xs =>
      if xs.length = len∧len ≤ 140737488355328∧(Lib.join (xs.map (·.data.toList)) sep.data.toList).length ≤ 140737488355328 then
        some (.sc (.str ⟨(Lib.join (xs.map (·.data.toList)) sep.data.toList).toArray⟩),H) else none
  | _ => none
theorem cells_get_some {H : AHeap} {b : Nat} {cs : List AV} (h : H.cells b = some cs) : H.get b = some (.cells cs):=cells_get' h
theorem join_ok {B : World} {args : List AV} {H H' : AHeap} {v : AV} (h : joinEff args H = some (v,H')) : H.next ≤ H'.next∧CallOK Tryz.prog B 190 args H v H':=by
  unfold joinEff at h
  split at h
  rotate_left
  · cases h
  rename_i b off len cap n sep
  simp only [Option.bind_eq_some_iff] at h
  obtain ⟨cs,hcs,xs,hxs,h⟩:=h
  split at h
  rotate_left
  · cases h
  rename_i hq
  obtain ⟨hlen,hbig,hlong⟩:=hq
  simp only [Option.some.injEq,Prod.mk.injEq] at h
  obtain ⟨rfl,rfl⟩:=h
  refine ⟨Nat.le_refl _,callOK_below fun G w args' hS hv => ?_⟩
  obtain ⟨u1,m1,e1,v1,hv⟩:=hv.of_cons
  obtain ⟨u2,m2,e2,v2,hv⟩:=hv.of_cons
  have e3:=hv.of_nil
  subst e3 e2
  have ea : args' = #[u1,u2]:=by rw [← Array.toArray_toList (xs:=args'),e1]
  subst ea
  rw [v2.sc_inv]
  cases v1 with
  | slice hb h1 h2 h3 h4 =>
    rename_i c cap' s
    obtain ⟨o,ho,hB⟩:=hS.live b _ c (cells_get_some hcs) hb
    cases o <;> try (simp only [BR] at hB; done)
    rename_i cells el fr
    simp only [BR] at hB
    obtain ⟨rfl,hsz,hB⟩:=hB
    have hl:=strsOf_spec hxs
    rw [show len = xs.length from hlen.symm]
    refine Tryz.strings_Join c off cap' xs sep w (fun j x hx => ?_) (lt_of_some ho) (by omega) (by omega) hlong
    have hj : j < xs.length:=(List.getElem?_eq_some_iff.1 hx).1
    have hg : cs[off + j]? = some (.sc (.str x)):=by
      have : ((cs.drop off).take len)[j]? = some (.sc (.str x)):=by rw [hl,List.getElem?_map,hx]; rfl
      rw [List.getElem?_take,if_pos (by omega),List.getElem?_drop] at this
      exact this
    obtain ⟨hlt,he⟩:=List.getElem?_eq_some_iff.1 hg
    have hlt' : off + j < cells.size:=by omega
    have:=(hB (off + j) hlt hlt').1
    rw [he] at this
    show (match w.heap[c]? with | some (.cells cc _ _) => (if (none : Option _).isSome = true then none else cc[off + j]?) | _ => none) = _
    rw [ho]
    simp only [Option.isSome_none,Bool.false_eq_true,if_false]
    rw [Array.getElem?_eq_getElem hlt',this.sc_inv]; rfl
/-- The check that a Builder was not copied,in a block of its own or in the document's writer. -/
def ccEff2 (args : List AV) (H : AHeap) : Option (AV × AHeap) :=
  match ccEff 141 args H with
  | some r => some r
  | none => ccEff 143 args H
theorem ccB_ok {B : World} {args : List AV} {H H' : AHeap} {v : AV} (h : ccEff2 args H = some (v,H')) : H.next ≤ H'.next∧CallOK Tryz.prog B 374 args H v H':=by
  unfold ccEff2 at h
  split at h
  · rename_i r hr
    cases h
    exact cc_ok Ins.cc_used Ins.cc_fresh hr
  · exact cc_ok Ins.cc_used Ins.cc_freshW h
theorem strB_ok {B : World} {args : List AV} {H H' : AHeap} {v : AV} (h : strEff 5 args H = some (v,H')) : H.next ≤ H'.next∧CallOK Tryz.prog B 50 args H v H':=str_ok Ins.bstr_row Ins.bstr_nil h
/-- What the policy says,but for the functions that defer. -/
def pol53E (f : FuncId) (args : List AV) (H : AHeap) : Option (AV × AHeap) :=
  match f with
  | 293 => ixbEff args H
  | 26 => itoaEff args H
  | 190 => joinEff args H
  | 374 => ccEff2 args H
  | 50 => strEff 5 args H
  | _ => none
theorem pol53_ok {B : World} (hB : Tab55 B) {pol : Pol} (h : pol.eff = pol53E) : PolOK Tryz.prog B pol:=by
  intro f args H v H' _ he
  rw [h] at he
  unfold pol53E at he
  split at he
  · exact ixb_ok he
  · exact itoa_ok hB he
  · exact join_ok he
  · exact ccB_ok he
  · exact strB_ok he
  · cases he
end Go.Hem
namespace Go.Hem
open Go.Proofs
def pureK (f : FuncId) : Bool :=
  match f with
  | 3 | 4 | 5 | 6 | 8 | 9 | 17 | 21 | 25 | 31 | 32 | 54 | 61 | 62 | 63 | 67 | 71 | 72 | 106 | 114 | 121 | 124 | 125 | 127 | 128 | 129 | 130 | 131 => true
  | 134 | 143 | 145 | 147 | 153 | 154 | 155 | 156 | 189 | 223 | 235 | 247 | 253 | 254 | 255 | 256 | 257 | 316 | 349 | 395 | 397 => true
  | _ => false
def polJ : Pol:={ pure:=pureK,eff:=pol53E }
end Go.Hem
