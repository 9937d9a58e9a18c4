/- What the policy says of library functions. -/
import Derived.Test.YtldflacehmpjkaaGreatDoorHemFall
import Derived.Test.YtldflacehmpjkaaGreatDoorHemLaw
import Derived.Test.YtldflacehmpjkaaGreatDoorHemRange
import Derived.Test.YtldflacehmpjkaaGreatDoorKit48
import Derived.Shelf.Unicode.PredsPay
import Derived.Lib.ItoaNum
import Derived.Test.YtldflacehmpjkaaGreatDoorBase55
set_option maxRecDepth 100000
set_option linter.unusedVariables false
namespace Go.Hem
open Go.Proofs Go.Proofs.Ins Go.RowKit
/-- The digits of a number,by so many rounds. -/
def decF : Nat→Nat→List UInt8
  | 0,_ => []
  | k + 1,u => if u < 10 then [UInt8.ofNat (48 + u)] else decF k (u / 10) ++ [UInt8.ofNat (48 + u % 10)]
theorem decF_eq : ∀ (k u : Nat),u < 10 ^ k→decF k u = if k = 0 then [] else Lib.decDigits u
  | 0,u,_ => rfl
  | k + 1,u,h => by
    rw [if_neg (by omega),Lib.decDigits]
    simp only [decF]
    by_cases q : u < 10
    · rw [if_pos q,dif_pos q]
    · rw [if_neg q,dif_neg q]
      have hk : k ≠ 0:=fun e => by subst e; simp at h; omega
      rw [decF_eq k (u / 10) (by rw [Nat.pow_succ] at h; omega),if_neg hk]
def itoaL (n : Int) : List UInt8:=if n < 0 then 45 :: decF 20 n.natAbs else decF 20 n.toNat
theorem itoaL_eq {n : Int} (h0 : -9223372036854775808 ≤ n) (h1 : n ≤ 9223372036854775807) : itoaL n = Lib.itoa n:=by
  have e : ∀ u,u < 10 ^ 20→decF 20 u = Lib.decDigits u:=fun u h => by rw [decF_eq 20 u h]; rfl
  unfold itoaL Lib.itoa
  rw [e _ (by omega),e _ (by omega)]
def ixbEff (args : List AV) (H : AHeap) : Option (AV × AHeap) :=
  match args with
  | [.sc (.str s),.sc (.int .u8 c)] => some (.sc (.int .i64 (Lib.indexByte s.data.toList c.toNat.toUInt8)),H)
  | _ => none
def itoaEff (args : List AV) (H : AHeap) : Option (AV × AHeap) :=
  match args with
  | [.sc (.int .i64 n)] => if -9223372036854775808 ≤ n∧n ≤ 9223372036854775807 then some (.sc (.str ⟨(itoaL n).toArray⟩),H) else none
  | _ => none
theorem ixb_ok {B : World} {args : List AV} {H H' : AHeap} {v : AV} (h : ixbEff args H = some (v,H')) : H.next ≤ H'.next∧CallOK Tryz.prog B 185 args H v H':=by
  unfold ixbEff at h
  split at h
  rotate_left
  · cases h
  simp only [Option.some.injEq,Prod.mk.injEq] at h
  obtain ⟨rfl,rfl⟩:=h
  refine ⟨Nat.le_refl _,callOK_below fun G w args' hS hv => ?_⟩
  obtain ⟨u1,m1,e1,v1,hv⟩:=hv.of_cons
  obtain ⟨u2,m2,e2,v2,hv⟩:=hv.of_cons
  have e3:=hv.of_nil
  subst e3 e2
  have ea : args' = #[u1,u2]:=by rw [← Array.toArray_toList (xs:=args'),e1]
  subst ea
  rw [v1.sc_inv,v2.sc_inv]
  exact (Tryz.strings_IndexByte _ _ w).mono fun e w' ⟨h1,h2⟩ => ⟨h1,h2 ▸ Below.refl _ _⟩
theorem below_grow (w : World) (k : Nat) (os : Array Obj) : Below w.heap.size w (Go.Sort.grow (w.drewN k) os) :=
  ⟨rfl,rfl,rfl,by simp [Go.Sort.grow],fun i hi => by simp only [Go.Sort.grow]; rw [Array.getElem?_append_left (by simpa using hi)]; rfl⟩
/-- The table that strconv.Itoa reads stands in a world. -/
def Tab55 (B : World) : Prop := Lib.TabIs Tryz.prog B "internal/strconv.uint64pow10" .u64 Lib.pow10Tab
theorem itoa_ok {B : World} (hB : Tab55 B) {args : List AV} {H H' : AHeap} {v : AV} (h : itoaEff args H = some (v,H')) : H.next ≤ H'.next∧CallOK Tryz.prog B 31 args H v H':=by
  unfold itoaEff at h
  split at h
  rotate_left
  · cases h
  rename_i n
  split at h
  rotate_left
  · cases h
  rename_i hn
  simp only [Option.some.injEq,Prod.mk.injEq] at h
  obtain ⟨rfl,rfl⟩:=h
  refine ⟨Nat.le_refl _,callOK_below fun G w args' hS hv => ?_⟩
  obtain ⟨u1,m1,e1,v1,hv⟩:=hv.of_cons
  have e3:=hv.of_nil
  subst e3
  have ea : args' = #[u1]:=by rw [← Array.toArray_toList (xs:=args'),e1]
  subst ea
  rw [v1.sc_inv]
  obtain ⟨g, hg⟩ := Option.isSome_iff_exists.1 (show (Tryz.prog.globalNamed "internal/strconv.uint64pow10").isSome = true by kernel_rfl)
  have htab : Lib.TabIs Tryz.prog w "internal/strconv.uint64pow10" .u64 Lib.pow10Tab := TabIs_below hg hB (below_of_sim hS)
  exact (Tryz.strconv_Itoa n hn.1 hn.2 w htab).mono fun e w' ⟨h1,k,os,h2⟩ => ⟨by rw [h1]; simp only [Sc.val]; rw [itoaL_eq hn.1 hn.2],h2 ▸ below_grow w k os⟩
def strsOf : List AV→Option (List ByteArray)
  | [] => some []
  | .sc (.str s) :: l => (strsOf l).map (s :: ·)
  | _ :: _ => none
theorem strsOf_spec : ∀ {l : List AV} {xs : List ByteArray},strsOf l = some xs→l = xs.map fun s => .sc (.str s)
  | [],xs,h => by cases h; rfl
  | .sc (.str s) :: l,xs,h => by
    simp only [strsOf,Option.map_eq_some_iff] at h
    obtain ⟨ys,h2,rfl⟩:=h
    rw [strsOf_spec h2]; rfl
  | .sc (.int ..) :: _,xs,h | .sc (.bool _) :: _,xs,h | .sc .nilp :: _,xs,h | .sc .nils :: _,xs,h | .sc .nilm :: _,xs,h | .sc .nilf :: _,xs,h | .sc .nili :: _,xs,h | .sc .undef :: _,xs,h | .sc (.glob _) :: _,xs,h | .sc (.flt ..) :: _,xs,h
  | .sym :: _,xs,h | .ptr .. :: _,xs,h | .iptr _ :: _,xs,h | .slice .. :: _,xs,h | .imm _ :: _,xs,h | .agg _ :: _,xs,h | .tup _ :: _,xs,h | .func .. :: _,xs,h | .iface .. :: _,xs,h | .map _ :: _,xs,h | .yield _ :: _,xs,h | .poison :: _,xs,h => by simp [strsOf] at h
/-- strings.Join of texts that lie in the heap. -/
def joinEff (args : List AV) (H : AHeap) : Option (AV × AHeap) :=
  match args with
  | [.slice b off len _ _,.sc (.str sep)] =>
    (H.cells b).bind fun cs => (strsOf ((cs.drop off).take len)).bind fun xs =>
      if xs.length = len∧len ≤ 140737488355328∧(Lib.join (xs.map (·.data.toList)) sep.data.toList).length ≤ 140737488355328 then
        some (.sc (.str ⟨(Lib.join (xs.map (·.data.toList)) sep.data.toList).toArray⟩),H) else none
  | _ => none
theorem cells_get_some {H : AHeap} {b : Nat} {cs : List AV} (h : H.cells b = some cs) : H.get b = some (.cells cs):=cells_get' h
theorem join_ok {B : World} {args : List AV} {H H' : AHeap} {v : AV} (h : joinEff args H = some (v,H')) : H.next ≤ H'.next∧CallOK Tryz.prog B 79 args H v H':=by
  unfold joinEff at h
  split at h
  rotate_left
  · cases h
  rename_i b off len cap n sep
  simp only [Option.bind_eq_some_iff] at h
  obtain ⟨cs,hcs,xs,hxs,h⟩:=h
  split at h
  rotate_left
  · cases h
  rename_i hq
  obtain ⟨hlen,hbig,hlong⟩:=hq
  simp only [Option.some.injEq,Prod.mk.injEq] at h
  obtain ⟨rfl,rfl⟩:=h
  refine ⟨Nat.le_refl _,callOK_below fun G w args' hS hv => ?_⟩
  obtain ⟨u1,m1,e1,v1,hv⟩:=hv.of_cons
  obtain ⟨u2,m2,e2,v2,hv⟩:=hv.of_cons
  have e3:=hv.of_nil
  subst e3 e2
  have ea : args' = #[u1,u2]:=by rw [← Array.toArray_toList (xs:=args'),e1]
  subst ea
  rw [v2.sc_inv]
  cases v1 with
  | slice hb h1 h2 h3 h4 =>
    rename_i c cap' s
    obtain ⟨o,ho,hB⟩:=hS.live b _ c (cells_get_some hcs) hb
    cases o <;> try (simp only [BR] at hB; done)
    rename_i cells el fr
    simp only [BR] at hB
    obtain ⟨rfl,hsz,hB⟩:=hB
    have hl:=strsOf_spec hxs
    rw [show len = xs.length from hlen.symm]
    refine Tryz.strings_Join c off cap' xs sep w (fun j x hx => ?_) (lt_of_some ho) (by omega) (by omega) hlong
    have hj : j < xs.length:=(List.getElem?_eq_some_iff.1 hx).1
    have hg : cs[off + j]? = some (.sc (.str x)):=by
      have : ((cs.drop off).take len)[j]? = some (.sc (.str x)):=by rw [hl,List.getElem?_map,hx]; rfl
      rw [List.getElem?_take,if_pos (by omega),List.getElem?_drop] at this
      exact this
    obtain ⟨hlt,he⟩:=List.getElem?_eq_some_iff.1 hg
    have hlt' : off + j < cells.size:=by omega
    have:=(hB (off + j) hlt hlt').1
    rw [he] at this
    show (match w.heap[c]? with | some (.cells cc _ _) => (if (none : Option _).isSome = true then none else cc[off + j]?) | _ => none) = _
    rw [ho]
    simp only [Option.isSome_none,Bool.false_eq_true,if_false]
    rw [Array.getElem?_eq_getElem hlt',this.sc_inv]; rfl
theorem ccB_ok {B : World} {args : List AV} {H H' : AHeap} {v : AV} (h : ccEff 266 args H = some (v,H')) : H.next ≤ H'.next∧CallOK Tryz.prog B 289 args H v H':=cc_ok Ins.cc_used Ins.cc_fresh h
theorem strB_ok {B : World} {args : List AV} {H H' : AHeap} {v : AV} (h : strEff 5 args H = some (v,H')) : H.next ≤ H'.next∧CallOK Tryz.prog B 188 args H v H':=str_ok Ins.bstr_row Ins.bstr_nil h
def infoB (P : Program) (e n b : Nat) : Bool :=
  match P.info? e with
  | some i => (match i.zero with | some z => i.size == n && i.bytes == b && z.cells.size == n | none => false)
  | none => false
theorem infoB_spec {P : Program} {e n b : Nat} (h : infoB P e n b = true) : ∃ i zv,P.info? e = some i∧i.zero = some zv∧i.size = n∧i.bytes = b∧zv.cells.size = n:=by
  unfold infoB at h
  split at h
  · rename_i i hi
    split at h
    · rename_i z hz
      simp only [Bool.and_eq_true,beq_iff_eq] at h
      exact ⟨i,z,hi,hz,h.1.1,h.1.2,h.2⟩
    · cases h
  · cases h
theorem insFn165 : InsFn Tryz.prog 165 26 35 2 16 where
  hu:=by kernel_rfl
  hk:=⟨.i64,by kernel_rfl⟩
  hi:=infoB_spec (by decide +kernel)
  nz:=by decide
  bz:=by decide
  skip:=fun a a2 len cap i cp w h1 h2 h3 => ins165_skip a a2 len cap i cp w h1 h2 h3
  nil:=fun m cp a w w1 v h1 h2 => ins165_nil m cp a w w1 v h1 h2
  behind:=fun c len cap m cp a w w1 v h1 h2 h3 => ins165_end c len cap m cp a w w1 v h1 h2 h3
  grow:=fun c len cap i m cp K N a w w1 w2 w3 h1 h2 h3 h4 h5 h6 h7 h8 h9 => ins165_grow c len cap i m cp K N a w w1 w2 w3 h1 h2 h3 h4 h5 h6 h7 h8 h9
  room:=fun c cv o len cap i m cp w w1 w2 cells cellsv el ev h1 h2 h3 h4 h5 h6 g1 g2 g3 k1 k2 =>
    ins165_room c len cap i m cp ⟨cv,o,none⟩ w w1 w2 h1 h2 h3 h4 h5 (ins165_apart c cv o _ _ _ _ _ w cells cellsv el ev h6 g1 g2 g3) k1 k2
/-- slices.Grow of nothing. -/
def growEff (args : List AV) (H : AHeap) : Option (AV × AHeap) :=
  match args with
  | [.sc .nils,.sc (.int .i64 n)] => if 0 < n∧n ≤ 1000000 then some (.slice H.next 0 0 0 13,H.alloc (.cells [])) else none
  | _ => none
theorem grow_ok {B : World} {args : List AV} {H H' : AHeap} {v : AV} (h : growEff args H = some (v,H')) : H.next ≤ H'.next∧CallOK Tryz.prog B 444 args H v H':=by
  unfold growEff at h
  split at h
  rotate_left
  · cases h
  rename_i n
  split at h
  rotate_left
  · cases h
  rename_i hq
  obtain ⟨h0,h1⟩:=hq
  simp only [Option.some.injEq,Prod.mk.injEq] at h
  obtain ⟨rfl,rfl⟩:=h
  refine ⟨by simp,callOK_of fun G w args' hS hC hv => ?_⟩
  obtain ⟨u1,m1,e1,v1,hv⟩:=hv.of_cons
  obtain ⟨u2,m2,e2,v2,hv⟩:=hv.of_cons
  have e3:=hv.of_nil
  subst e3 e2
  have ea : args' = #[u1,u2]:=by rw [← Array.toArray_toList (xs:=args'),e1]
  subst ea
  rw [v1.sc_inv,v2.sc_inv]
  obtain ⟨k,rfl⟩:=Int.eq_ofNat_of_zero_le (show 0 ≤ n by omega)
  obtain ⟨ti,zv,hi,hz,hsz,hby,hzv⟩:=infoB_spec (P:=Tryz.prog) (e:=79) (n:=13) (b:=152) (by decide +kernel)
  have hnc:=nextcap_le k 0 (by omega)
  have r0:=Lib.run_append_grow_zeros (P:=Tryz.prog) w 71 3 0 79 ti zv .i64 .i64 (by kernel_rfl) (by kernel_rfl) hi hz none 0 0 [] (by simp [Builtin.firstCells]) k (by omega) (by omega) (by omega) (by omega) (by rw [hby]; omega) (by
    rw [hby,Nat.zero_add]
    have:=Nat.mul_le_mul_right 152 hnc
    omega)
  have hK:=grownCap_ge w k 0 79
  simp only [Nat.zero_add] at r0
  generalize grownCap w k 0 79 = K at r0 hK
  have p1:=push_alloc_drew w (.cells (([] : List Value).toArray ++ Builtin.zeroCells zv.cells k ++ Builtin.zeroCells zv.cells (K - k)) 79)
  have hn : G.β H.next = none:=hC _ (Nat.le_refl _) (by simp)
  have hbr : BR G (.cells []) (.cells (([] : List Value).toArray ++ Builtin.zeroCells zv.cells k ++ Builtin.zeroCells zv.cells (K - k)) 79 (0,0)):=⟨rfl,Nat.zero_le _,fun j h => by simp at h⟩
  obtain ⟨s1,s2⟩:=sim_push hS p1 hbr rfl hn
  refine ⟨_,_,_,s1,s2,.slice (s:=(K * 13,79)) (cap':=K) (by simp [Gh.at]) (Nat.le_refl _) (Nat.zero_le _) ?_ (by omega),grow444 k _ K w _ (by omega) (by omega) (fun ty => r0) (by omega)⟩
  simp only [Gh.at,if_true,Obj.csize,Option.some.injEq,Prod.mk.injEq]
  refine ⟨?_,trivial⟩
  simp [size_zeroCells,hzv]
  omega
/-- What the policy says. -/
def polE (f : FuncId) (args : List AV) (H : AHeap) : Option (AV × AHeap) :=
  match f with
  | 165 => insEff 2 16 args H
  | 185 => ixbEff args H
  | 31 => itoaEff args H
  | 79 => joinEff args H
  | 444 => growEff args H
  | 289 => ccEff 266 args H
  | 188 => strEff 5 args H
  | _ => none
theorem polE_ok {B : World} (hB : Tab55 B) {pol : Pol} (h : pol.eff = polE) : PolOK Tryz.prog B pol:=by
  intro f args H v H' _ he
  rw [h] at he
  unfold polE at he
  split at he
  · exact insFn_ok insFn165 he
  · exact ixb_ok he
  · exact itoa_ok hB he
  · exact join_ok he
  · exact grow_ok he
  · exact ccB_ok he
  · exact strB_ok he
  · cases he
end Go.Hem
namespace Go.Hem
open Go.Proofs
def pureK (f : FuncId) : Bool:=Nat.beq (Nat.land (Nat.shiftRight 25305707879916386452226576360904751868623171818859751501517897960948035034867082701017260525028938476035359177879028718155031135947958788088 f) 1) 1
def polK : Pol:={ pure:=pureK,eff:=polE }
end Go.Hem
