import Derived.Test.YteffcgojmmbogaaGreatDoorHemX
namespace Go.Hem
variable {P : Program} {pol : Pol} {H : AHeap} {t : List AV}
theorem o_int {k : IntKind} {n : Int} : AV.one (.sc (.int k n)) = true:=rfl
theorem o_bool {b : Bool} : AV.one (.sc (.bool b)) = true:=rfl
theorem o_str {s : ByteArray} : AV.one (.sc (.str s)) = true:=rfl
theorem o_nils : AV.one (.sc .nils) = true:=rfl
theorem o_nilp : AV.one (.sc .nilp) = true:=rfl
theorem o_nilm : AV.one (.sc .nilm) = true:=rfl
theorem o_imm {l : List AV} : AV.one (.imm l) = true:=rfl
theorem o_slice {b o l c n : Nat} : AV.one (.slice b o l c n) = true:=rfl
theorem o_ptr {b o : Nat} : AV.one (.ptr b o) = true:=rfl
theorem o_iptr {l : List AV} : AV.one (.iptr l) = true:=rfl
theorem o_func {f : Fn} {a c : List AV} : AV.one (.func f a c) = true:=rfl
theorem os_nil : AV.ones [] = true:=rfl
theorem os_cons {a : AV} {l : List AV} : AV.ones (a :: l) = (a.one && AV.ones l):=rfl
theorem c_agg {l : List AV} : AV.cells (.agg l) = l:=rfl
theorem c_int {k : IntKind} {n : Int} : AV.cells (.sc (.int k n)) = [.sc (.int k n)]:=rfl
theorem c_bool {b : Bool} : AV.cells (.sc (.bool b)) = [.sc (.bool b)]:=rfl
theorem c_str {s : ByteArray} : AV.cells (.sc (.str s)) = [.sc (.str s)]:=rfl
theorem c_sc {s : Sc} : AV.cells (.sc s) = [.sc s]:=rfl
theorem c_imm {l : List AV} : AV.cells (.imm l) = [.imm l]:=rfl
theorem c_slice {b o l c n : Nat} : AV.cells (.slice b o l c n) = [.slice b o l c n]:=rfl
theorem c_ptr {b o : Nat} : AV.cells (.ptr b o) = [.ptr b o]:=rfl
theorem c_iptr {l : List AV} : AV.cells (.iptr l) = [.iptr l]:=rfl
theorem c_func {f : Fn} {a c : List AV} : AV.cells (.func f a c) = [.func f a c]:=rfl
theorem s_mv {x : Operand} : csem P t H (.mv x) = some (.val (aev t x)):=rfl
theorem s_pick {c a b : Operand} : csem P t H (.pick c a b) = (pickOf (aev t c) (aev t a) (aev t b)).map .val:=rfl
theorem s_alloc {z : List AV} : csem P t H (.alloc z) = some (.new (.cells z) fun b => .ptr b 0):=rfl
theorem s_box {x : Operand} : csem P t H (.box x) = if AV.ones (aev t x).cells = true then some (.new (.cells (aev t x).cells) fun b => .ptr b 0) else none:=rfl
theorem s_build {z : List AV} {p : List (Nat × Nat × Operand)} : csem P t H (.build z p) = (fillL z (evParts t p)).map fun cs => .val (.agg cs):=rfl
theorem s_bslice {len n : Nat} {z : List AV} {p : List (Nat × Nat × Operand)} : csem P t H (.bslice len n z p) = (fillL (rep len z) (evParts t p)).map fun cs => .new (.cells cs) fun b => .slice b 0 len len n:=rfl
theorem s_load1 {a : Operand} : csem P t H (.load1 a) = (read1 H (aev t a)).map .val:=rfl
theorem s_loadN {n : Nat} {a : Operand} : csem P t H (.loadN n a) = (readN H n (aev t a)).map .val:=rfl
theorem s_store {n : Nat} {a x : Operand} : csem P t H (.store n a x) = writeN H n (aev t a) (aev t x):=rfl
theorem s_nilc {x : Operand} : csem P t H (.nilc x) = (nilcOf (aev t x)).map .val:=rfl
theorem s_mkf {fn : Fn} {a c : List Operand} : csem P t H (.mkf fn a c) = some (.val (.func fn (a.map (aev t)) (c.map (aev t)))):=rfl
theorem s_mks {n bytes : Nat} {z : List AV} {l c : Operand} : csem P t H (.mks n bytes z l c) = mksOf n bytes z (aev t l) (aev t c):=rfl
theorem s_slc {n : Nat} {x : Operand} {lo hi : Option Operand} : csem P t H (.slc n x lo hi) = (cutS n (aev t x) (bd t lo) (bd t hi)).map .val:=rfl
theorem s_slcA {m n : Nat} {x : Operand} {lo hi : Option Operand} : csem P t H (.slcA m n x lo hi) = (cutA H m n (aev t x) (bd t lo) (bd t hi)).map .val:=rfl
theorem s_max {x y : Operand} : csem P t H (.maxi x y) = (maxOf (aev t x) (aev t y)).map .val:=rfl
theorem e_max {k k' : IntKind} {a b : Int} : maxOf (.sc (.int k a)) (.sc (.int k' b)) = some (.sc (.int k (if a < b then b else a))):=rfl
theorem s_idxS {x ix : Operand} : csem P t H (.idxS x ix) = (asNat (aev t ix)).bind fun i => (strAt (aev t x) i).map .val:=rfl
theorem s_idxA {m n : Nat} {x ix : Operand} : csem P t H (.idxA m n x ix) = (asNat (aev t ix)).bind fun i => (arrAt m n (aev t x) i).map .val:=rfl
theorem s_conv {k : IntKind} {x : Operand} : csem P t H (.conv k x) = (convOf k (aev t x)).map .val:=rfl
theorem s_slc3 {n : Nat} {x : Operand} {lo hi mx : Option Operand} : csem P t H (.slc3 n x lo hi mx) = (cutS3 n (aev t x) (bd t lo) (bn t hi) (bn t mx)).map .val:=rfl
theorem s_slcS {x : Operand} {lo hi : Option Operand} : csem P t H (.slcS x lo hi) = (cutStr (aev t x) (bd t lo) (bd t hi)).map .val:=rfl
theorem s_faddr {off : Nat} {x : Operand} : csem P t H (.faddr off x) = (shift off (aev t x)).map .val:=rfl
theorem s_fld1 {off : Nat} {x : Operand} : csem P t H (.fld1 off x) = (fld1Of off (aev t x)).map .val:=rfl
theorem s_fldN {off n : Nat} {x : Operand} : csem P t H (.fldN off n x) = (fldNOf off n (aev t x)).map .val:=rfl
theorem s_iaddr {n : Nat} {x ix : Operand} : csem P t H (.iaddr n x ix) = (asNat (aev t ix)).bind fun i => (elemAt n (aev t x) i).map .val:=rfl
theorem s_iaddrA {m n : Nat} {x ix : Operand} : csem P t H (.iaddrA m n x ix) = (asNat (aev t ix)).bind fun i => (elemAtA m n (aev t x) i).map .val:=rfl
theorem s_len {x : Operand} : csem P t H (.len x) = (lenOf (aev t x)).map .val:=rfl
theorem s_lenS {x : Operand} : csem P t H (.lenS x) = (lenStr (aev t x)).map .val:=rfl
theorem s_app {n bytes : Nat} {s x : Operand} : csem P t H (.app n bytes s x) = appTo n bytes H (aev t s) (aev t x):=rfl
theorem s_cpy {n : Nat} {d x : Operand} : csem P t H (.cpy n d x) = cpyTo n H (aev t d) (aev t x):=rfl
theorem s_ext {x : Operand} {ix : Nat} : csem P t H (.ext x ix) = (extOf ix (aev t x)).map .val:=rfl
theorem s_bint {op : BinOp} {x y : Operand} : csem P t H (.bint op x y) = (bintOf op (aev t x) (aev t y)).map .val:=rfl
theorem s_bstr {op : BinOp} {x y : Operand} : csem P t H (.bstr op x y) = (bstrOf op (aev t x) (aev t y)).map .val:=rfl
theorem s_bbool {neg : Bool} {x y : Operand} : csem P t H (.bbool neg x y) = (bboolOf neg (aev t x) (aev t y)).map .val:=rfl
theorem s_bnil {neg : Bool} {k : NK} {x y : Operand} : csem P t H (.bnil neg k x y) = (bnilOf neg k (aev t x) (aev t y)).map .val:=rfl
theorem s_not {x : Operand} : csem P t H (.not x) = (notOf (aev t x)).map .val:=rfl
theorem s_min {x y : Operand} : csem P t H (.min x y) = (minOf (aev t x) (aev t y)).map .val:=rfl
theorem s_call {f : FuncId} {args : List Operand} : csem P t H (.call f args) = some (.call f (args.map (aev t))):=rfl
theorem s_callv {f : Operand} {args : List Operand} : csem P t H (.callv f args) = callvOf P (aev t f) (args.map (aev t)):=rfl
theorem s_bagg {neg : Bool} {ks : List SK} {x y : Operand} : csem P t H (.bagg neg ks x y) = (baggOf neg ks (aev t x) (aev t y)).map .val:=rfl
theorem s_eslice {len n : Nat} : csem P t H (.eslice len n) = some (.new (.cells []) fun b => .slice b 0 len len n):=rfl
theorem e_eqa {ks : List SK} {xs ys : List AV} : baggOf false ks (.agg xs) (.agg ys) = (eqK ks xs ys).map fun r => .sc (.bool r):=rfl
theorem e_nea {ks : List SK} {xs ys : List AV} : baggOf true ks (.agg xs) (.agg ys) = (eqK ks xs ys).map fun r => .sc (.bool !r):=rfl
theorem q_nil : eqK [] [] [] = some true:=rfl
theorem q_int {ks : List SK} {k : IntKind} {a b : Int} {l m : List AV} : eqK (.int :: ks) (.sc (.int k a) :: l) (.sc (.int k b) :: m) = (eqK ks l m).map fun r => decide (a = b) && r:=by simp [eqK]
theorem q_bool {ks : List SK} {a b : Bool} {l m : List AV} : eqK (.bool :: ks) (.sc (.bool a) :: l) (.sc (.bool b) :: m) = (eqK ks l m).map fun r => (a == b) && r:=rfl
theorem q_str {ks : List SK} {a b : ByteArray} {l m : List AV} : eqK (.str :: ks) (.sc (.str a) :: l) (.sc (.str b) :: m) = (eqK ks l m).map fun r => (a.toList == b.toList) && r:=rfl
theorem s_prim {o : Oper} : csem P t H (.prim o) = aclosed P t o:=rfl
theorem e_read1 {b off : Nat} : read1 H (.ptr b off) = ((H.cells b).or (H.frd b)).bind fun cs => cs[off]?:=rfl
theorem e_read1i {cs : List AV} : read1 H (.iptr cs) = cs[0]?:=rfl
theorem e_readN {b off n : Nat} : readN H n (.ptr b off) = ((H.cells b).or (H.frd b)).bind fun cs => cutN n cs off:=rfl
theorem e_readNi {n : Nat} {cs : List AV} : readN H n (.iptr cs) = cutN n cs 0:=rfl
theorem e_writeN {b off n : Nat} {x : AV} : writeN H n (.ptr b off) x = (H.cells b).bind fun cs => if x.cells.length = n∧off + n ≤ cs.length∧AV.ones x.cells = true then some (.mem (.sc .undef) b (splice cs off x.cells)) else none:=rfl
theorem e_shift {b o off : Nat} : shift off (.ptr b o) = some (.ptr b (o + off)):=rfl
theorem e_shifti {cs : List AV} {off : Nat} : shift off (.iptr cs) = some (.iptr (cs.drop off)):=rfl
theorem e_elem {b off len cap n n' i : Nat} : elemAt n (.slice b off len cap n') i = if i < len∧n = n' then some (.ptr b (off + i * n)) else none:=rfl
theorem e_elemi {l : List AV} {n i : Nat} : elemAt n (.imm l) i = (l[i]?).bind fun v => if v.cells.length = n∧n ≠ 0 then some (.iptr v.cells) else none:=rfl
theorem e_len {b off len cap n : Nat} : lenOf (.slice b off len cap n) = some (.sc (.int .i64 len)):=rfl
theorem e_leni {l : List AV} : lenOf (.imm l) = some (.sc (.int .i64 l.length)):=rfl
theorem e_lenn : lenOf (.sc .nils) = some (.sc (.int .i64 0)):=rfl
theorem e_lens {s : ByteArray} : lenStr (.sc (.str s)) = some (.sc (.int .i64 s.size)):=rfl
theorem e_nat {k : IntKind} {n : Int} : asNat (.sc (.int k n)) = if 0 ≤ n then some n.toNat else none:=rfl
theorem e_add {k : IntKind} {a b : Int} : bintOf .add (.sc (.int k a)) (.sc (.int k b)) = some (.sc (.int k (k.wrap (a + b)))):=by simp [bintOf]
theorem e_sub {k : IntKind} {a b : Int} : bintOf .sub (.sc (.int k a)) (.sc (.int k b)) = some (.sc (.int k (k.wrap (a - b)))):=by simp [bintOf]
theorem e_eql {k : IntKind} {a b : Int} : bintOf .eql (.sc (.int k a)) (.sc (.int k b)) = some (.sc (.bool (decide (a = b)))):=by simp [bintOf]; rfl
theorem e_neq {k : IntKind} {a b : Int} : bintOf .neq (.sc (.int k a)) (.sc (.int k b)) = some (.sc (.bool (decide (a ≠ b)))):=by
  simp only [bintOf,if_true,Option.some.injEq,AV.sc.injEq,Sc.bool.injEq]
  by_cases h : a = b <;> simp [h]
theorem e_lss {k : IntKind} {a b : Int} : bintOf .lss (.sc (.int k a)) (.sc (.int k b)) = some (.sc (.bool (decide (a < b)))):=by simp [bintOf]
theorem e_leq {k : IntKind} {a b : Int} : bintOf .leq (.sc (.int k a)) (.sc (.int k b)) = some (.sc (.bool (decide (a ≤ b)))):=by simp [bintOf]
theorem e_gtr {k : IntKind} {a b : Int} : bintOf .gtr (.sc (.int k a)) (.sc (.int k b)) = some (.sc (.bool (decide (b < a)))):=by simp [bintOf]
theorem e_geq {k : IntKind} {a b : Int} : bintOf .geq (.sc (.int k a)) (.sc (.int k b)) = some (.sc (.bool (decide (b ≤ a)))):=by simp [bintOf]
theorem e_not {b : Bool} : notOf (.sc (.bool b)) = some (.sc (.bool (!b))):=rfl
theorem e_min {k k' : IntKind} {a b : Int} : minOf (.sc (.int k a)) (.sc (.int k' b)) = some (.sc (.int k (if b < a then b else a))):=rfl
theorem e_pt {a b : AV} : pickOf (.sc (.bool true)) a b = some a:=rfl
theorem e_pf {a b : AV} : pickOf (.sc (.bool false)) a b = some b:=rfl
theorem e_nilp {b o : Nat} : nilcOf (.ptr b o) = some (.ptr b o):=rfl
theorem e_nilip {l : List AV} : nilcOf (.iptr l) = some (.iptr l):=rfl
theorem e_nilf {f : FuncId} {a c : List AV} : nilcOf (.func (.func f) a c) = some (.func (.func f) a c):=rfl
theorem e_nily {b : Nat} : nilcOf (.yield b) = some (.yield b):=rfl
theorem e_fld1 {cs : List AV} {off : Nat} : fld1Of off (.agg cs) = cs[off]?:=rfl
theorem e_fldN {cs : List AV} {off n : Nat} : fldNOf off n (.agg cs) = cutN n cs off:=rfl
theorem e_ext {cs : List AV} {i : Nat} : extOf i (.tup cs) = cs[i]?:=rfl
theorem e_eqs {a b : ByteArray} : bstrOf .eql (.sc (.str a)) (.sc (.str b)) = some (.sc (.bool (a.toList == b.toList))):=rfl
theorem e_nes {a b : ByteArray} : bstrOf .neq (.sc (.str a)) (.sc (.str b)) = some (.sc (.bool (!(a.toList == b.toList)))):=rfl
theorem e_eqb {a b : Bool} : bboolOf false (.sc (.bool a)) (.sc (.bool b)) = some (.sc (.bool (a == b))):=rfl
theorem e_neb {a b : Bool} : bboolOf true (.sc (.bool a)) (.sc (.bool b)) = some (.sc (.bool (!(a == b)))):=rfl
theorem e_none {d : Nat} : bd t none d = some d:=rfl
theorem e_some {d : Nat} {x : Operand} : bd t (some x) d = asNat (aev t x):=rfl
theorem e_cuti {xs : List AV} {n : Nat} {lo hi : Nat→Option Nat} : cutS n (.imm xs) lo hi = (hi xs.length).bind fun h => (lo 0).bind fun l => if l ≤ h∧h ≤ xs.length∧uniform n xs then some (.imm ((xs.take h).drop l)) else none:=rfl
theorem e_cutn {n : Nat} {lo hi : Nat→Option Nat} : cutS n (.sc .nils) lo hi = (hi 0).bind fun h => (lo 0).bind fun l => if l = 0∧h = 0 then some (.sc .nils) else none:=rfl
theorem e_cut {b off len cap n n' : Nat} {lo hi : Nat→Option Nat} : cutS n (.slice b off len cap n') lo hi = (hi len).bind fun h => (lo 0).bind fun l =>
    if l ≤ h∧h ≤ cap∧n = n' then (if l = cap then some (.imm []) else some (.slice b (off + l * n) (h - l) (cap - l) n)) else none:=rfl
theorem e_conv {k k' : IntKind} {n : Int} : convOf k (.sc (.int k' n)) = some (.sc (.int k (k.wrap n))):=rfl
theorem e_cut3 {b off len cap n n' : Nat} {lo : Nat→Option Nat} {hi mx : Option Nat} : cutS3 n (.slice b off len cap n') lo hi mx = hi.bind fun h => (lo 0).bind fun l => mx.bind fun m =>
    if l ≤ h∧h ≤ m∧m ≤ cap then (if l = m then some (.imm []) else if n = n' then some (.slice b (off + l * n) (h - l) (m - l) n) else none) else none:=rfl
theorem e_cut3n {n : Nat} {lo : Nat→Option Nat} {hi mx : Option Nat} : cutS3 n (.sc .nils) lo hi mx = hi.bind fun h => (lo 0).bind fun l => mx.bind fun m => if l = 0∧h = 0∧m = 0 then some (.sc .nils) else none:=rfl
theorem e_bnn : bn t none = none:=rfl
theorem e_bns {x : Operand} : bn t (some x) = asNat (aev t x):=rfl
theorem e_cutstr {s : ByteArray} {lo hi : Nat→Option Nat} : cutStr (.sc (.str s)) lo hi = (hi s.size).bind fun h => (lo 0).bind fun l => if l ≤ h∧h ≤ s.size then some (.sc (.str (s.extract l h))) else none:=rfl
theorem e_fill0 {cells : List AV} : fillL cells [] = some cells:=rfl
theorem e_parts0 : evParts t [] = []:=rfl
theorem e_parts {a b : Nat} {x : Operand} {l : List (Nat × Nat × Operand)} : evParts t ((a,b,x) :: l) = (a,b,aev t x) :: evParts t l:=rfl
theorem e_fill {cells : List AV} {off size : Nat} {v : AV} {rest : List (Nat × Nat × AV)} : fillL cells ((off,size,v) :: rest) =
    if v.cells.length ≠ size ∨ off + v.cells.length > cells.length ∨ AV.ones v.cells = false then none else fillL (splice cells off v.cells) rest:=rfl
theorem e_cutN {n : Nat} {cs : List AV} {off : Nat} : cutN n cs off = if off + n ≤ cs.length then some (.agg ((cs.drop off).take n)) else none:=rfl
theorem e_splice {cs xs : List AV} {off : Nat} : splice cs off xs = cs.take off ++ xs ++ cs.drop (off + xs.length):=rfl
theorem w64 {a : Int} (h1 : -9223372036854775808 ≤ a) (h2 : a ≤ 9223372036854775807) : IntKind.i64.wrap a = a:=by
  unfold IntKind.wrap
  simp only [IntKind.bits,IntKind.signed,Bool.true_and]
  by_cases h : (2 : Int) ^ 63 ≤ a % 2 ^ 64
  · rw [if_pos (by simpa using h)]; omega
  · rw [if_neg (by simpa using h)]; omega
end Go.Hem
