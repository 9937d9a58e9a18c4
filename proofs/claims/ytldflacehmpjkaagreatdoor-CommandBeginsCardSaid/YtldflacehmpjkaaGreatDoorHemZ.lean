/- Joined. -/
import Derived.Test.YtldflacehmpjkaaGreatDoorHemW
import Derived.ProofKit
namespace Go.Hem
variable {P : Program} {pol : Pol} {x : AV} {t : List AV} {H : AHeap} {Q : Post}
theorem wC_skip : wpC P pol .skip (x :: t) H Q = Q .normal (x :: t) H:=rfl
theorem wC_ops {l : List CI} : wpC P pol (.ops l) (x :: t) H Q = wpIns P pol l (x :: t) H (Q .normal):=rfl
theorem wC_seq {a b : CC} : wpC P pol (.seq a b) (x :: t) H Q = wpC P pol a (x :: t) H (thenC Q fun t1 H1 => wpC P pol b t1 H1 Q):=rfl
theorem wC_block {b : CC} {id : Nat} : wpC P pol (.block id b) (x :: t) H Q = wpC P pol b (x :: t) H (blockC id Q):=rfl
theorem wC_exit {id : Nat} : wpC P pol (.exit id) (x :: t) H Q = Q (.exit id) (x :: t) H:=rfl
theorem wC_ret : wpC P pol .ret (x :: t) H Q = Q .ret (x :: t) H:=rfl
def wB (P : Program) (pol : Pol) (a b : CC) (t : List AV) (H : AHeap) (Q : Post) : AV→Prop
  | .sc (.bool d) => if d = true then wpC P pol a t H Q else wpC P pol b t H Q
  | _ => False
theorem wC_cond {c : Operand} {a b : CC} : wpC P pol (.cond c a b) (x :: t) H Q = wB P pol a b (x :: t) H Q (aev (x :: t) c):=rfl
theorem wB_true {a b : CC} : wB P pol a b (x :: t) H Q (.sc (.bool true)) = wpC P pol a (x :: t) H Q:=rfl
theorem wB_false {a b : CC} : wB P pol a b (x :: t) H Q (.sc (.bool false)) = wpC P pol b (x :: t) H Q:=rfl
def wA (P : Program) (pol : Pol) (rd : List COp) (is : List CI) (dst : Option Tmp) (t : List AV) (H : AHeap) (Q : List AV→AHeap→Prop) : Option Bool→Option Eff→Prop
  | some true,e => wpOpt P pol (reK P t H rd) H (fun v H' => wpIns P pol is (putT t dst v) H' Q) e
  | some false,_ => wpIns P pol is (putT t dst (.sc .undef)) H Q
  | none,_ => False
theorem wI_nil {Q : List AV→AHeap→Prop} : wpIns P pol [] (x :: t) H Q = Q (x :: t) H:=rfl
theorem wI_cons {d : Option Tmp} {g : Option (Option Tmp × Bool)} {op : COp} {rd : List COp} {is : List CI} {Q : List AV→AHeap→Prop} : wpIns P pol (⟨d,g,op,rd⟩ :: is) (x :: t) H Q = wA P pol rd is d (x :: t) H Q (cwant (x :: t) g) (csem P (x :: t) H op):=by
  rw [wpIns]
  cases cwant (x :: t) g with
  | none => rfl
  | some b => cases b <;> rfl
variable {is : List CI} {dst : Option Tmp} {rd : List COp} {R : List AV→AHeap→Prop}
theorem k_nil {H' : AHeap} : reK P t H [] H' = True:=by simp [reK]
theorem k_cons {c : COp} {H' : AHeap} : reK P t H (c :: rd) H' = (csem P t H' c = csem P t H c∧reK P t H rd H'):=by simp [reK]
theorem wA_skip {e : Option Eff} : wA P pol rd is dst (x :: t) H R (some false) e = wpIns P pol is (putT (x :: t) dst (.sc .undef)) H R:=rfl
theorem wA_val {v : AV} : wA P pol rd is dst (x :: t) H R (some true) (some (.val v)) = wpIns P pol is (putT (x :: t) dst v) H R:=rfl
theorem wA_new {y : Blk} {mk : Nat→AV} : wA P pol rd is dst (x :: t) H R (some true) (some (.new y mk)) = wpIns P pol is (putT (x :: t) dst (mk H.next)) (H.alloc y) R:=rfl
theorem wA_mem {v : AV} {b : Nat} {y : List AV} : wA P pol rd is dst (x :: t) H R (some true) (some (.mem v b y)) = (reK P (x :: t) H rd (H.put b (some (.cells y)))∧wpIns P pol is (putT (x :: t) dst v) (H.put b (some (.cells y))) R):=rfl
theorem wA_move {mk : Nat→AV} {b : Nat} {y : List AV} : wA P pol rd is dst (x :: t) H R (some true) (some (.move mk b y)) = (reK P (x :: t) H rd ((H.put b none).alloc (.cells y))∧wpIns P pol is (putT (x :: t) dst (mk H.next)) ((H.put b none).alloc (.cells y)) R):=rfl
theorem wA_pure {f : FuncId} {args : List AV} {v : AV} (hp : pol.pure f = true) (hv : Pv P pol f args v) (h : wpIns P pol is (putT (x :: t) dst v) H R) : wA P pol rd is dst (x :: t) H R (some true) (some (.call f args)):=by
  simp only [wA,wpOpt,wpEff,hp,if_true]
  exact .inl ⟨v,hv,h⟩
theorem tC_normal {f : List AV→AHeap→Prop} : thenC Q f .normal t H = f t H:=rfl
theorem tC_exit {f : List AV→AHeap→Prop} {id : Nat} : thenC Q f (.exit id) t H = Q (.exit id) t H:=rfl
theorem tC_ret {f : List AV→AHeap→Prop} : thenC Q f .ret t H = Q .ret t H:=rfl
theorem bC_normal {id : Nat} : blockC id Q .normal t H = Q .normal t H:=rfl
theorem bC_ret {id : Nat} : blockC id Q .ret t H = Q .ret t H:=rfl
theorem bC_exit {id id' : Nat} : blockC id Q (.exit id') t H = if id' = id then Q .normal t H else Q (.exit id') t H:=rfl
theorem put_none {v : AV} : putT t none v = t:=rfl
theorem put_some {v : AV} {i : Nat} : putT t (some i) v = t.set i v:=rfl
theorem cw_none : cwant t none = some true:=rfl
theorem ev_tmp {i : Nat} : aev (x :: t) (.tmp i) = (x :: t).getD i (.sc .undef):=rfl
theorem ev_int {k : IntKind} {n : Int} : aev (x :: t) (.const (.int k n)) = .sc (.int k n):=rfl
theorem ev_bool {b : Bool} : aev (x :: t) (.const (.bool b)) = .sc (.bool b):=rfl
theorem ev_str {s : ByteArray} : aev (x :: t) (.const (.string s)) = .sc (.str s):=rfl
theorem ev_nilp : aev (x :: t) (.const (.pointer none)) = .sc .nilp:=rfl
theorem ev_nils : aev (x :: t) (.const (.slice none 0 0)) = .sc .nils:=rfl
theorem ev_nilm : aev (x :: t) (.const (.map none)) = .sc .nilm:=rfl
theorem ev_nilf : aev (x :: t) (.const .nilFunc) = .sc .nilf:=rfl
theorem ev_nili : aev (x :: t) (.const .nilIface) = .sc .nili:=rfl
theorem wA_moveT {T : Nat × TypeId} {mk : Nat→AV} {b : Nat} {y : List AV} : wA P pol rd is dst (x :: t) H R (some true) (some (.moveT T mk b y)) = (reK P (x :: t) H rd (((H.put b none).alloc (.cells y)).addTg H.next T)∧wpIns P pol is (putT (x :: t) dst (mk H.next)) (((H.put b none).alloc (.cells y)).addTg H.next T) R):=rfl
theorem wA_newT {T : Nat × TypeId} {y : Blk} {mk : Nat→AV} : wA P pol rd is dst (x :: t) H R (some true) (some (.newT T y mk)) = wpIns P pol is (putT (x :: t) dst (mk H.next)) ((H.alloc y).addTg H.next T) R:=rfl
theorem h_addTg {b c : Nat} {T : Nat × TypeId} : (H.addTg c T).cells b = H.cells b:=rfl
theorem hn_addTg {c : Nat} {T : Nat × TypeId} : (H.addTg c T).next = H.next:=rfl
theorem h_alloc {z : List AV} {b : Nat} : (H.alloc (.cells z)).cells b = if b = H.next then some z else H.cells b:=by
  unfold AHeap.cells
  by_cases e : b = H.next
  · subst e; rw [AHeap.get_alloc_self,if_pos rfl]
  · rw [AHeap.get_alloc_ne H _ e,if_neg e]
theorem h_put {z : List AV} {b c : Nat} : (H.put c (some (.cells z))).cells b = if b = c then (if (H.get c).isSome = true then some z else (H.put c (some (.cells z))).cells c) else H.cells b:=by
  unfold AHeap.cells
  by_cases e : b = c
  · subst e
    rw [if_pos rfl]
    by_cases h : (H.get b).isSome = true
    · obtain ⟨y,hy⟩:=Option.isSome_iff_exists.1 h
      rw [if_pos h,AHeap.get_put_self _ hy]
    · rw [if_neg h]
  · rw [AHeap.get_put_ne H _ e,if_neg e]
theorem h_get {b : Nat} {z : List AV} (h : H.cells b = some z) : (H.get b).isSome = true:=by
  unfold AHeap.cells at h
  split at h
  · rename_i q; rw [q]; rfl
  · cases h
theorem h_put_self {z y : List AV} {b : Nat} (h : H.cells b = some y) : (H.put b (some (.cells z))).cells b = some z:=by
  rw [h_put,if_pos rfl,if_pos (h_get h)]
theorem h_put_ne {z : List AV} {b c : Nat} (h : b ≠ c) : (H.put c (some (.cells z))).cells b = H.cells b:=by
  rw [h_put,if_neg h]
theorem h_putc {z : List AV} {b c : Nat} (h : (H.cells c).isSome = true) : (H.put c (some (.cells z))).cells b = if b = c then some z else H.cells b:=by
  obtain ⟨y,hy⟩:=Option.isSome_iff_exists.1 h
  by_cases e : b = c
  · subst e; rw [if_pos rfl,h_put_self hy]
  · rw [if_neg e,h_put_ne e]
end Go.Hem
namespace Go.Hem
variable {P : Program} {pol : Pol} {H : AHeap} {t : List AV}
theorem o_int {k : IntKind} {n : Int} : AV.one (.sc (.int k n)) = true:=rfl
theorem o_bool {b : Bool} : AV.one (.sc (.bool b)) = true:=rfl
theorem o_str {s : ByteArray} : AV.one (.sc (.str s)) = true:=rfl
theorem o_nils : AV.one (.sc .nils) = true:=rfl
theorem o_nilp : AV.one (.sc .nilp) = true:=rfl
theorem o_nilm : AV.one (.sc .nilm) = true:=rfl
theorem o_imm {l : List AV} : AV.one (.imm l) = true:=rfl
theorem o_slice {b o l c n : Nat} : AV.one (.slice b o l c n) = true:=rfl
theorem o_ptr {b o : Nat} : AV.one (.ptr b o) = true:=rfl
theorem o_iptr {l : List AV} : AV.one (.iptr l) = true:=rfl
theorem o_func {f : Fn} {a c : List AV} : AV.one (.func f a c) = true:=rfl
theorem os_nil : AV.ones [] = true:=rfl
theorem os_cons {a : AV} {l : List AV} : AV.ones (a :: l) = (a.one && AV.ones l):=rfl
theorem c_agg {l : List AV} : AV.cells (.agg l) = l:=rfl
theorem c_int {k : IntKind} {n : Int} : AV.cells (.sc (.int k n)) = [.sc (.int k n)]:=rfl
theorem c_bool {b : Bool} : AV.cells (.sc (.bool b)) = [.sc (.bool b)]:=rfl
theorem c_str {s : ByteArray} : AV.cells (.sc (.str s)) = [.sc (.str s)]:=rfl
theorem c_sc {s : Sc} : AV.cells (.sc s) = [.sc s]:=rfl
theorem c_imm {l : List AV} : AV.cells (.imm l) = [.imm l]:=rfl
theorem c_slice {b o l c n : Nat} : AV.cells (.slice b o l c n) = [.slice b o l c n]:=rfl
theorem c_ptr {b o : Nat} : AV.cells (.ptr b o) = [.ptr b o]:=rfl
theorem c_iptr {l : List AV} : AV.cells (.iptr l) = [.iptr l]:=rfl
theorem c_func {f : Fn} {a c : List AV} : AV.cells (.func f a c) = [.func f a c]:=rfl
theorem s_mv {x : Operand} : csem P t H (.mv x) = some (.val (aev t x)):=rfl
theorem s_pick {c a b : Operand} : csem P t H (.pick c a b) = (pickOf (aev t c) (aev t a) (aev t b)).map .val:=rfl
theorem tagA_val {T : TypeId} {v : AV} : tagA T H (.val v) = .val v:=rfl
theorem tagA_new {T : TypeId} {y : Blk} {mk : Nat→AV} : tagA T H (.new y mk) = .newT (0,T) y mk:=rfl
theorem tagA_mem {T : TypeId} {v : AV} {b : Nat} {y : List AV} : tagA T H (.mem v b y) = .mem v b y:=rfl
theorem s_appB {T : TypeId} {n bytes : Nat} {s x : Operand} : csem P t H (.appB T n bytes s x) = (appTo n bytes H (aev t s) (aev t x)).map (tagA T H):=rfl
theorem s_allocT {T : TypeId} {z : List AV} : csem P t H (.allocT T z) = some (.newT (z.length,T) (.cells z) fun b => .ptr b 0):=rfl
theorem s_alloc {z : List AV} : csem P t H (.alloc z) = some (.new (.cells z) fun b => .ptr b 0):=rfl
theorem s_box {x : Operand} : csem P t H (.box x) = if AV.ones (aev t x).cells = true then some (.new (.cells (aev t x).cells) fun b => .ptr b 0) else none:=rfl
theorem s_build {z : List AV} {p : List (Nat × Nat × Operand)} : csem P t H (.build z p) = (fillL z (evParts t p)).map fun cs => .val (.agg cs):=rfl
theorem s_bslice {len n : Nat} {z : List AV} {p : List (Nat × Nat × Operand)} : csem P t H (.bslice len n z p) = (fillL (rep len z) (evParts t p)).map fun cs => .new (.cells cs) fun b => .slice b 0 len len n:=rfl
theorem s_load1 {a : Operand} : csem P t H (.load1 a) = (read1 H (aev t a)).map .val:=rfl
theorem s_loadN {n : Nat} {a : Operand} : csem P t H (.loadN n a) = (readN H n (aev t a)).map .val:=rfl
theorem s_store {n : Nat} {a x : Operand} : csem P t H (.store n a x) = writeN H n (aev t a) (aev t x):=rfl
theorem s_nilc {x : Operand} : csem P t H (.nilc x) = (nilcOf P (aev t x)).map .val:=rfl
theorem s_mkf {fn : Fn} {a c : List Operand} : csem P t H (.mkf fn a c) = some (.val (.func fn (a.map (aev t)) (c.map (aev t)))):=rfl
theorem s_mks {n bytes : Nat} {z : List AV} {l c : Operand} : csem P t H (.mks n bytes z l c) = mksOf n bytes z (aev t l) (aev t c):=rfl
theorem s_slc {n : Nat} {x : Operand} {lo hi : Option Operand} : csem P t H (.slc n x lo hi) = (cutS n (aev t x) (bd t lo) (bd t hi)).map .val:=rfl
theorem s_slcA {m n : Nat} {x : Operand} {lo hi : Option Operand} : csem P t H (.slcA m n x lo hi) = (cutA H m n (aev t x) (bd t lo) (bd t hi)).map .val:=rfl
theorem s_max {x y : Operand} : csem P t H (.maxi x y) = (maxOf (aev t x) (aev t y)).map .val:=rfl
theorem e_max {k k' : IntKind} {a b : Int} : maxOf (.sc (.int k a)) (.sc (.int k' b)) = some (.sc (.int k (if a < b then b else a))):=rfl
theorem s_idxS {x ix : Operand} : csem P t H (.idxS x ix) = (asNat (aev t ix)).bind fun i => (strAt (aev t x) i).map .val:=rfl
theorem s_idxA {m n : Nat} {x ix : Operand} : csem P t H (.idxA m n x ix) = (asNat (aev t ix)).bind fun i => (arrAt m n (aev t x) i).map .val:=rfl
theorem s_conv {k : IntKind} {x : Operand} : csem P t H (.conv k x) = (convOf k (aev t x)).map .val:=rfl
theorem s_slc3 {n : Nat} {x : Operand} {lo hi mx : Option Operand} : csem P t H (.slc3 n x lo hi mx) = (cutS3 n (aev t x) (bd t lo) (bn t hi) (bn t mx)).map .val:=rfl
theorem s_slcS {x : Operand} {lo hi : Option Operand} : csem P t H (.slcS x lo hi) = (cutStr (aev t x) (bd t lo) (bd t hi)).map .val:=rfl
theorem s_faddr {off : Nat} {x : Operand} : csem P t H (.faddr off x) = (shift off (aev t x)).map .val:=rfl
theorem s_fld1 {off : Nat} {x : Operand} : csem P t H (.fld1 off x) = (fld1Of off (aev t x)).map .val:=rfl
theorem s_fldN {off n : Nat} {x : Operand} : csem P t H (.fldN off n x) = (fldNOf off n (aev t x)).map .val:=rfl
theorem s_iaddr {n : Nat} {x ix : Operand} : csem P t H (.iaddr n x ix) = (asNat (aev t ix)).bind fun i => (elemAt n (aev t x) i).map .val:=rfl
theorem s_iaddrA {m n : Nat} {x ix : Operand} : csem P t H (.iaddrA m n x ix) = (asNat (aev t ix)).bind fun i => (elemAtA m n (aev t x) i).map .val:=rfl
theorem s_len {x : Operand} : csem P t H (.len x) = (lenOf (aev t x)).map .val:=rfl
theorem s_lenS {x : Operand} : csem P t H (.lenS x) = (lenStr (aev t x)).map .val:=rfl
theorem s_app {n bytes : Nat} {s x : Operand} : csem P t H (.app n bytes s x) = appTo n bytes H (aev t s) (aev t x):=rfl
theorem s_cpy {n : Nat} {d x : Operand} : csem P t H (.cpy n d x) = cpyTo n H (aev t d) (aev t x):=rfl
theorem s_ext {x : Operand} {ix : Nat} : csem P t H (.ext x ix) = (extOf ix (aev t x)).map .val:=rfl
theorem s_bint {op : BinOp} {x y : Operand} : csem P t H (.bint op x y) = (bintOf op (aev t x) (aev t y)).map .val:=rfl
theorem s_bstr {op : BinOp} {x y : Operand} : csem P t H (.bstr op x y) = (bstrOf op (aev t x) (aev t y)).map .val:=rfl
theorem s_bbool {neg : Bool} {x y : Operand} : csem P t H (.bbool neg x y) = (bboolOf neg (aev t x) (aev t y)).map .val:=rfl
theorem s_bnil {neg : Bool} {k : NK} {x y : Operand} : csem P t H (.bnil neg k x y) = (bnilOf neg k (aev t x) (aev t y)).map .val:=rfl
theorem s_not {x : Operand} : csem P t H (.not x) = (notOf (aev t x)).map .val:=rfl
theorem s_min {x y : Operand} : csem P t H (.min x y) = (minOf (aev t x) (aev t y)).map .val:=rfl
theorem s_call {f : FuncId} {args : List Operand} : csem P t H (.call f args) = some (.call f (args.map (aev t))):=rfl
theorem s_callv {f : Operand} {args : List Operand} : csem P t H (.callv f args) = callvOf P (aev t f) (args.map (aev t)):=rfl
theorem s_bagg {neg : Bool} {ks : List SK} {x y : Operand} : csem P t H (.bagg neg ks x y) = (baggOf neg ks (aev t x) (aev t y)).map .val:=rfl
theorem s_eslice {len n : Nat} : csem P t H (.eslice len n) = some (.new (.cells []) fun b => .slice b 0 len len n):=rfl
theorem e_eqa {ks : List SK} {xs ys : List AV} : baggOf false ks (.agg xs) (.agg ys) = ((eqK ks xs ys).or (eqS ks xs ys)).map fun r => .sc (.bool r):=rfl
theorem e_nea {ks : List SK} {xs ys : List AV} : baggOf true ks (.agg xs) (.agg ys) = ((eqK ks xs ys).or (eqS ks xs ys)).map fun r => .sc (.bool !r):=rfl
theorem q_nil : eqK [] [] [] = some true:=rfl
theorem q_int {ks : List SK} {k : IntKind} {a b : Int} {l m : List AV} : eqK (.int :: ks) (.sc (.int k a) :: l) (.sc (.int k b) :: m) = (eqK ks l m).map fun r => decide (a = b) && r:=by simp [eqK]
theorem q_bool {ks : List SK} {a b : Bool} {l m : List AV} : eqK (.bool :: ks) (.sc (.bool a) :: l) (.sc (.bool b) :: m) = (eqK ks l m).map fun r => (a == b) && r:=rfl
theorem q_str {ks : List SK} {a b : ByteArray} {l m : List AV} : eqK (.str :: ks) (.sc (.str a) :: l) (.sc (.str b) :: m) = (eqK ks l m).map fun r => (a.toList == b.toList) && r:=rfl
theorem s_prim {o : Oper} : csem P t H (.prim o) = aclosed P t o:=rfl
theorem e_read1 {b off : Nat} : read1 H (.ptr b off) = ((H.cells b).or (H.frd b)).bind fun cs => cs[off]?:=rfl
theorem e_read1i {cs : List AV} : read1 H (.iptr cs) = cs[0]?:=rfl
theorem e_readN {b off n : Nat} : readN H n (.ptr b off) = ((H.cells b).or (H.frd b)).bind fun cs => cutN n cs off:=rfl
theorem e_readNi {n : Nat} {cs : List AV} : readN H n (.iptr cs) = cutN n cs 0:=rfl
theorem e_writeN {b off n : Nat} {x : AV} : writeN H n (.ptr b off) x = (H.cells b).bind fun cs => if x.cells.length = n∧off + n ≤ cs.length∧AV.ones x.cells = true then some (.mem (.sc .undef) b (splice cs off x.cells)) else none:=rfl
theorem e_shift {b o off : Nat} : shift off (.ptr b o) = some (.ptr b (o + off)):=rfl
theorem e_shifti {cs : List AV} {off : Nat} : shift off (.iptr cs) = some (.iptr (cs.drop off)):=rfl
theorem e_elem {b off len cap n n' i : Nat} : elemAt n (.slice b off len cap n') i = if i < len∧n = n' then some (.ptr b (off + i * n)) else none:=rfl
theorem e_elemi {l : List AV} {n i : Nat} : elemAt n (.imm l) i = (l[i]?).bind fun v => if v.cells.length = n∧n ≠ 0 then some (.iptr v.cells) else none:=rfl
theorem e_len {b off len cap n : Nat} : lenOf (.slice b off len cap n) = some (.sc (.int .i64 len)):=rfl
theorem e_leni {l : List AV} : lenOf (.imm l) = some (.sc (.int .i64 l.length)):=rfl
theorem e_lenn : lenOf (.sc .nils) = some (.sc (.int .i64 0)):=rfl
theorem e_lens {s : ByteArray} : lenStr (.sc (.str s)) = some (.sc (.int .i64 s.size)):=rfl
theorem e_nat {k : IntKind} {n : Int} : asNat (.sc (.int k n)) = if 0 ≤ n then some n.toNat else none:=rfl
theorem e_add {k : IntKind} {a b : Int} : bintOf .add (.sc (.int k a)) (.sc (.int k b)) = some (.sc (.int k (k.wrap (a + b)))):=by simp [bintOf]
theorem e_sub {k : IntKind} {a b : Int} : bintOf .sub (.sc (.int k a)) (.sc (.int k b)) = some (.sc (.int k (k.wrap (a - b)))):=by simp [bintOf]
theorem e_eql {k : IntKind} {a b : Int} : bintOf .eql (.sc (.int k a)) (.sc (.int k b)) = some (.sc (.bool (decide (a = b)))):=by simp [bintOf]; rfl
theorem e_neq {k : IntKind} {a b : Int} : bintOf .neq (.sc (.int k a)) (.sc (.int k b)) = some (.sc (.bool (decide (a ≠ b)))):=by
  simp only [bintOf,if_true,Option.some.injEq,AV.sc.injEq,Sc.bool.injEq]
  by_cases h : a = b <;> simp [h]
theorem e_lss {k : IntKind} {a b : Int} : bintOf .lss (.sc (.int k a)) (.sc (.int k b)) = some (.sc (.bool (decide (a < b)))):=by simp [bintOf]
theorem e_leq {k : IntKind} {a b : Int} : bintOf .leq (.sc (.int k a)) (.sc (.int k b)) = some (.sc (.bool (decide (a ≤ b)))):=by simp [bintOf]
theorem e_gtr {k : IntKind} {a b : Int} : bintOf .gtr (.sc (.int k a)) (.sc (.int k b)) = some (.sc (.bool (decide (b < a)))):=by simp [bintOf]
theorem e_geq {k : IntKind} {a b : Int} : bintOf .geq (.sc (.int k a)) (.sc (.int k b)) = some (.sc (.bool (decide (b ≤ a)))):=by simp [bintOf]
theorem e_not {b : Bool} : notOf (.sc (.bool b)) = some (.sc (.bool (!b))):=rfl
theorem e_min {k k' : IntKind} {a b : Int} : minOf (.sc (.int k a)) (.sc (.int k' b)) = some (.sc (.int k (if b < a then b else a))):=rfl
theorem e_pt {a b : AV} : pickOf (.sc (.bool true)) a b = some a:=rfl
theorem e_pf {a b : AV} : pickOf (.sc (.bool false)) a b = some b:=rfl
theorem e_nilp {b o : Nat} : nilcOf P (.ptr b o) = some (.ptr b o):=rfl
theorem e_nilip {l : List AV} : nilcOf P (.iptr l) = some (.iptr l):=rfl
theorem e_nilf {f : FuncId} {a c : List AV} : nilcOf P (.func (.func f) a c) = some (.func (.func f) a c):=rfl
theorem e_nily {b : Nat} : nilcOf P (.yield b) = some (.yield b):=rfl
theorem e_fld1 {cs : List AV} {off : Nat} : fld1Of off (.agg cs) = cs[off]?:=rfl
theorem e_fldN {cs : List AV} {off n : Nat} : fldNOf off n (.agg cs) = cutN n cs off:=rfl
theorem e_ext {cs : List AV} {i : Nat} : extOf i (.tup cs) = cs[i]?:=rfl
theorem e_eqs {a b : ByteArray} : bstrOf .eql (.sc (.str a)) (.sc (.str b)) = some (.sc (.bool (a.toList == b.toList))):=rfl
theorem e_nes {a b : ByteArray} : bstrOf .neq (.sc (.str a)) (.sc (.str b)) = some (.sc (.bool (!(a.toList == b.toList)))):=rfl
theorem e_eqb {a b : Bool} : bboolOf false (.sc (.bool a)) (.sc (.bool b)) = some (.sc (.bool (a == b))):=rfl
theorem e_neb {a b : Bool} : bboolOf true (.sc (.bool a)) (.sc (.bool b)) = some (.sc (.bool (!(a == b)))):=rfl
theorem e_none {d : Nat} : bd t none d = some d:=rfl
theorem e_some {d : Nat} {x : Operand} : bd t (some x) d = asNat (aev t x):=rfl
theorem e_cuti {xs : List AV} {n : Nat} {lo hi : Nat→Option Nat} : cutS n (.imm xs) lo hi = (hi xs.length).bind fun h => (lo 0).bind fun l => if l ≤ h∧h ≤ xs.length∧uniform n xs then some (.imm ((xs.take h).drop l)) else none:=rfl
theorem e_cutn {n : Nat} {lo hi : Nat→Option Nat} : cutS n (.sc .nils) lo hi = (hi 0).bind fun h => (lo 0).bind fun l => if l = 0∧h = 0 then some (.sc .nils) else none:=rfl
theorem e_cut {b off len cap n n' : Nat} {lo hi : Nat→Option Nat} : cutS n (.slice b off len cap n') lo hi = (hi len).bind fun h => (lo 0).bind fun l =>
    if l ≤ h∧h ≤ cap∧n = n' then (if l = cap then some (.imm []) else some (.slice b (off + l * n) (h - l) (cap - l) n)) else none:=rfl
theorem e_conv {k k' : IntKind} {n : Int} : convOf k (.sc (.int k' n)) = some (.sc (.int k (k.wrap n))):=rfl
theorem e_cut3 {b off len cap n n' : Nat} {lo : Nat→Option Nat} {hi mx : Option Nat} : cutS3 n (.slice b off len cap n') lo hi mx = hi.bind fun h => (lo 0).bind fun l => mx.bind fun m =>
    if l ≤ h∧h ≤ m∧m ≤ cap then (if l = m then some (.slice b off 0 0 n') else if n = n' then some (.slice b (off + l * n) (h - l) (m - l) n) else none) else none:=rfl
theorem e_cut3n {n : Nat} {lo : Nat→Option Nat} {hi mx : Option Nat} : cutS3 n (.sc .nils) lo hi mx = hi.bind fun h => (lo 0).bind fun l => mx.bind fun m => if l = 0∧h = 0∧m = 0 then some (.sc .nils) else none:=rfl
theorem e_bnn : bn t none = none:=rfl
theorem e_bns {x : Operand} : bn t (some x) = asNat (aev t x):=rfl
theorem e_cutstr {s : ByteArray} {lo hi : Nat→Option Nat} : cutStr (.sc (.str s)) lo hi = (hi s.size).bind fun h => (lo 0).bind fun l => if l ≤ h∧h ≤ s.size then some (.sc (.str (s.extract l h))) else none:=rfl
theorem e_fill0 {cells : List AV} : fillL cells [] = some cells:=rfl
theorem e_parts0 : evParts t [] = []:=rfl
theorem e_parts {a b : Nat} {x : Operand} {l : List (Nat × Nat × Operand)} : evParts t ((a,b,x) :: l) = (a,b,aev t x) :: evParts t l:=rfl
theorem e_fill {cells : List AV} {off size : Nat} {v : AV} {rest : List (Nat × Nat × AV)} : fillL cells ((off,size,v) :: rest) =
    if v.cells.length ≠ size ∨ off + v.cells.length > cells.length ∨ AV.ones v.cells = false then none else fillL (splice cells off v.cells) rest:=rfl
theorem e_cutN {n : Nat} {cs : List AV} {off : Nat} : cutN n cs off = if off + n ≤ cs.length then some (.agg ((cs.drop off).take n)) else none:=rfl
theorem e_splice {cs xs : List AV} {off : Nat} : splice cs off xs = cs.take off ++ xs ++ cs.drop (off + xs.length):=rfl
end Go.Hem
namespace Go.Hem
abbrev Sl (α : Type):=Option (List α)
def Sl.l {α : Type} (s : Sl α) : List α:=s.getD []
def Sl.of {α : Type} (l : List α) : Sl α:=if l.isEmpty then none else some l
def slm {α : Type} (f : α→AV) : Sl α→AV
  | none => .sc .nils
  | some l => .imm (l.map f)
variable {P : Program} {pol : Pol} {H : AHeap} {t : List AV} {α : Type} {f : α→AV} {s : Sl α} {l : List α}
theorem l_none : Sl.l (none : Sl α) = []:=rfl
theorem l_some : Sl.l (some l : Sl α) = l:=rfl
theorem o_slm : AV.one (slm f s) = true:=by cases s <;> rfl
theorem c_slm : AV.cells (slm f s) = [slm f s]:=by cases s <;> rfl
theorem e_lenm : lenOf (slm f s) = some (.sc (.int .i64 (Sl.l s).length)):=by cases s <;> simp [slm,lenOf,Sl.l]
theorem e_elemm {n i : Nat} : elemAt n (slm f s) i = ((Sl.l s)[i]?).bind fun v => if (f v).cells.length = n∧n ≠ 0 then some (.iptr (f v).cells) else none:=by
  cases s with
  | none => simp [slm,elemAt,Sl.l]
  | some l => simp only [slm,elemAt,Sl.l,Option.getD_some,List.getElem?_map]; cases l[i]? <;> rfl
theorem e_alenm : alen (slm f s) = some (Sl.l s).length:=by cases s <;> simp [slm,alen,Sl.l]
theorem e_nilm {neg : Bool} : bnilOf neg .slice (slm f s) (.sc .nils) = some (.sc (.bool (s.isNone != neg))):=by
  cases s <;> rfl
def wantOf : Option AV→Bool→Option Bool
  | some (.sc (.bool b)),w => some (b == w)
  | some (.sc _),_ => some false
  | some .poison,_ => none
  | some _,_ => some false
  | none,_ => some false
theorem cw_some {d : Tmp} {w : Bool} : cwant t (some (some d,w)) = wantOf (t[d]?) w:=by
  unfold cwant wantOf
  simp only [Option.bind_some]
  cases t[d]? with
  | none => rfl
  | some v => cases v <;> first | rfl | (rename_i q; cases q <;> rfl)
theorem cw_bool {b w : Bool} : wantOf (some (.sc (.bool b))) w = some (b == w):=rfl
theorem cw_undef {w : Bool} : wantOf (some (.sc .undef)) w = some false:=rfl
theorem bq_tt : (true == true) = true:=rfl
theorem bq_ff : (false == false) = true:=rfl
theorem bq_tf : (true == false) = false:=rfl
theorem bq_ft : (false == true) = false:=rfl
theorem r_ret {rs : List CR} {Q : AV→AHeap→Prop} : resC rs Q .ret t H = ∃ v,cresults t H rs = some v∧Q v H:=rfl
theorem r_normal {rs : List CR} {Q : AV→AHeap→Prop} : resC rs Q .normal t H = ∃ v,cresults t H rs = some v∧Q v H:=rfl
theorem cr_tmp {i : Nat} : cresult t H (.tmp i) = some (t.getD i (.sc .undef)):=rfl
theorem cr_cell {a : Nat} : cresult t H (.cell1 a) = read1 H (t.getD a (.sc .undef)):=rfl
theorem cr_cells {a n : Nat} : cresult t H (.cellN n a) = readN H n (t.getD a (.sc .undef)):=rfl
theorem cr_one {r : CR} : cresults t H [r] = cresult t H r:=by
  unfold cresults; simp only [List.mapM_cons,List.mapM_nil,Option.bind_eq_bind,Option.pure_def,Option.bind_some]
  cases cresult t H r <;> rfl
theorem cr_two {r q : CR} : cresults t H [r,q] = (cresult t H r).bind fun a => (cresult t H q).map fun b => .tup [a,b]:=by
  unfold cresults; simp only [List.mapM_cons,List.mapM_nil,Option.bind_eq_bind,Option.pure_def,Option.bind_some]
  cases cresult t H r with
  | none => rfl
  | some a => cases cresult t H q <;> rfl
theorem cr_three {r q p : CR} : cresults t H [r,q,p] = (cresult t H r).bind fun a => (cresult t H q).bind fun b => (cresult t H p).map fun c => .tup [a,b,c]:=by
  unfold cresults; simp only [List.mapM_cons,List.mapM_nil,Option.bind_eq_bind,Option.pure_def,Option.bind_some]
  cases cresult t H r with
  | none => rfl
  | some a =>
    cases cresult t H q with
    | none => rfl
    | some b => cases cresult t H p <;> rfl
theorem fz_agg {d : Nat} {l : List AV} : freezeV (d + 1) (.agg l) H = (freezeL (freezeV d) l H).map fun r => (.agg r.1,r.2):=rfl
theorem fz_tup {d : Nat} {l : List AV} : freezeV (d + 1) (.tup l) H = (freezeL (freezeV d) l H).map fun r => (.tup r.1,r.2):=rfl
theorem fz_cons {g : AV→AHeap→Option (AV × AHeap)} {v : AV} {l : List AV} : freezeL g (v :: l) H = (g v H).bind fun r => (freezeL g l r.2).map fun q => (r.1 :: q.1,q.2):=rfl
theorem cl_sc {s : Sc} : AV.closedB (.sc s) = true:=rfl
theorem cl_tup {l : List AV} : AV.closedB (.tup l) = AV.closedBs l:=rfl
theorem cl_agg {l : List AV} : AV.closedB (.agg l) = AV.closedBs l:=rfl
theorem cl_nil : AV.closedBs [] = true:=rfl
theorem cl_cons {v : AV} {l : List AV} : AV.closedBs (v :: l) = (AV.closedB v && AV.closedBs l):=rfl
def Frz (v : AV) (H : AHeap) (u : AV) : Prop:=∃ H1,freeze v H = some (u,H1)∧AV.closedB u = true
def AV.plain1 : AV→Bool
  | .sc _ => true
  | .imm l => AV.closedBs l
  | _ => false
def AV.plain2 : AV→Bool
  | .agg cs => cs.all AV.plain1
  | v => v.plain1
def AV.plain : AV→Bool
  | .tup cs => cs.all AV.plain2
  | v => v.plain2
theorem plain1_fz {v : AV} {d : Nat} (h : v.plain1 = true) : freezeV (d + 1) v H = some (v,H)∧AV.closedB v = true:=by
  cases v <;> simp [AV.plain1] at h
  · exact ⟨rfl,rfl⟩
  · exact ⟨rfl,h⟩
theorem fzL_id {g : AV→AHeap→Option (AV × AHeap)} : ∀ {l : List AV},(∀ v ∈ l,g v H = some (v,H)∧AV.closedB v = true)→freezeL g l H = some (l,H)∧AV.closedBs l = true
  | [],_ => ⟨rfl,rfl⟩
  | v :: l,h => by
    have h1:=h v (by simp)
    have h2:=fzL_id (l:=l) fun v hv => h v (by simp [hv])
    exact ⟨by rw [fz_cons,h1.1]; simp only [Option.bind_some,h2.1]; rfl,by rw [cl_cons,h1.2,h2.2]; rfl⟩
theorem plain2_fz {v : AV} {d : Nat} (h : v.plain2 = true) : freezeV (d + 2) v H = some (v,H)∧AV.closedB v = true:=by
  cases v
  case agg cs =>
    simp only [AV.plain2,List.all_eq_true] at h
    have:=fzL_id (g:=freezeV (d + 1)) (H:=H) fun v hv => plain1_fz (h v hv)
    exact ⟨by rw [fz_agg,this.1]; rfl,by rw [cl_agg]; exact this.2⟩
  all_goals exact plain1_fz h
theorem plain_fz {v : AV} {d : Nat} (h : v.plain = true) : freezeV (d + 3) v H = some (v,H)∧AV.closedB v = true:=by
  cases v
  case tup cs =>
    simp only [AV.plain,List.all_eq_true] at h
    have:=fzL_id (g:=freezeV (d + 2)) (H:=H) fun v hv => plain2_fz (h v hv)
    exact ⟨by rw [fz_tup,this.1]; rfl,by rw [cl_tup]; exact this.2⟩
  all_goals exact plain2_fz h
theorem frz_plain {u v : AV} (e : v = u) (h : u.plain = true) : Frz v H u:=by
  subst e
  have:=plain_fz (H:=H) (d:=17) h
  exact ⟨H,this.1,this.2⟩
theorem frz_sc {s : Sc} : Frz (.sc s) H (.sc s):=frz_plain rfl rfl
theorem Pv_of' {g : FuncId} {cf : CF} (hf : compF P g = some cf) {args : List AV} {u : AV} (hc : AV.closedBs args = true)
    (h : wpF P pol cf args {} fun v H' => Frz v H' u) : Pv P pol g args u:=Pv_of hf hc h
end Go.Hem
