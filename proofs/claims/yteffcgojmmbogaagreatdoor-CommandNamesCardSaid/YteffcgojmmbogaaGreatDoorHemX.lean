import Derived.Test.YteffcgojmmbogaaGreatDoorHemW
import Derived.ProofKit
namespace Go.Hem
variable {P : Program} {pol : Pol} {x : AV} {t : List AV} {H : AHeap} {Q : Post}
theorem wC_skip : wpC P pol .skip (x :: t) H Q = Q .normal (x :: t) H:=rfl
theorem wC_ops {l : List CI} : wpC P pol (.ops l) (x :: t) H Q = wpIns P pol l (x :: t) H (Q .normal):=rfl
theorem wC_seq {a b : CC} : wpC P pol (.seq a b) (x :: t) H Q = wpC P pol a (x :: t) H (thenC Q fun t1 H1 => wpC P pol b t1 H1 Q):=rfl
theorem wC_block {b : CC} {id : Nat} : wpC P pol (.block id b) (x :: t) H Q = wpC P pol b (x :: t) H (blockC id Q):=rfl
theorem wC_exit {id : Nat} : wpC P pol (.exit id) (x :: t) H Q = Q (.exit id) (x :: t) H:=rfl
theorem wC_ret : wpC P pol .ret (x :: t) H Q = Q .ret (x :: t) H:=rfl
def wB (P : Program) (pol : Pol) (a b : CC) (t : List AV) (H : AHeap) (Q : Post) : AV→Prop
  | .sc (.bool d) => if d = true then wpC P pol a t H Q else wpC P pol b t H Q
  | _ => False
theorem wC_cond {c : Operand} {a b : CC} : wpC P pol (.cond c a b) (x :: t) H Q = wB P pol a b (x :: t) H Q (aev (x :: t) c):=rfl
theorem wB_true {a b : CC} : wB P pol a b (x :: t) H Q (.sc (.bool true)) = wpC P pol a (x :: t) H Q:=rfl
theorem wB_false {a b : CC} : wB P pol a b (x :: t) H Q (.sc (.bool false)) = wpC P pol b (x :: t) H Q:=rfl
def wA (P : Program) (pol : Pol) (rd : List COp) (is : List CI) (dst : Option Tmp) (t : List AV) (H : AHeap) (Q : List AV→AHeap→Prop) : Option Bool→Option Eff→Prop
  | some true,e => wpOpt P pol (reK P t H rd) H (fun v H' => wpIns P pol is (putT t dst v) H' Q) e
  | some false,_ => wpIns P pol is (putT t dst (.sc .undef)) H Q
  | none,_ => False
theorem wI_nil {Q : List AV→AHeap→Prop} : wpIns P pol [] (x :: t) H Q = Q (x :: t) H:=rfl
theorem wI_cons {d : Option Tmp} {g : Option (Option Tmp × Bool)} {op : COp} {rd : List COp} {is : List CI} {Q : List AV→AHeap→Prop} : wpIns P pol (⟨d,g,op,rd⟩ :: is) (x :: t) H Q = wA P pol rd is d (x :: t) H Q (cwant (x :: t) g) (csem P (x :: t) H op):=by
  rw [wpIns]
  cases cwant (x :: t) g with
  | none => rfl
  | some b => cases b <;> rfl
variable {is : List CI} {dst : Option Tmp} {rd : List COp} {R : List AV→AHeap→Prop}
theorem k_nil {H' : AHeap} : reK P t H [] H' = True:=by simp [reK]
theorem k_cons {c : COp} {H' : AHeap} : reK P t H (c :: rd) H' = (csem P t H' c = csem P t H c∧reK P t H rd H'):=by simp [reK]
theorem wA_skip {e : Option Eff} : wA P pol rd is dst (x :: t) H R (some false) e = wpIns P pol is (putT (x :: t) dst (.sc .undef)) H R:=rfl
theorem wA_val {v : AV} : wA P pol rd is dst (x :: t) H R (some true) (some (.val v)) = wpIns P pol is (putT (x :: t) dst v) H R:=rfl
theorem wA_new {y : Blk} {mk : Nat→AV} : wA P pol rd is dst (x :: t) H R (some true) (some (.new y mk)) = wpIns P pol is (putT (x :: t) dst (mk H.next)) (H.alloc y) R:=rfl
theorem wA_mem {v : AV} {b : Nat} {y : List AV} : wA P pol rd is dst (x :: t) H R (some true) (some (.mem v b y)) = (reK P (x :: t) H rd (H.put b (some (.cells y)))∧wpIns P pol is (putT (x :: t) dst v) (H.put b (some (.cells y))) R):=rfl
theorem wA_move {mk : Nat→AV} {b : Nat} {y : List AV} : wA P pol rd is dst (x :: t) H R (some true) (some (.move mk b y)) = (reK P (x :: t) H rd ((H.put b none).alloc (.cells y))∧wpIns P pol is (putT (x :: t) dst (mk H.next)) ((H.put b none).alloc (.cells y)) R):=rfl
theorem wA_pure {f : FuncId} {args : List AV} {v : AV} (hp : pol.pure f = true) (hv : Pv P pol f args v) (h : wpIns P pol is (putT (x :: t) dst v) H R) : wA P pol rd is dst (x :: t) H R (some true) (some (.call f args)):=by
  simp only [wA,wpOpt,wpEff,hp,if_true]
  exact .inl ⟨v,hv,h⟩
theorem wA_call {f : FuncId} {args : List AV} (hp : pol.pure f = false) (h : Ev P pol (.call f args) H fun o H' => ∃ v,o = .val v∧reK P (x :: t) H rd H'∧wpIns P pol is (putT (x :: t) dst v) H' R) : wA P pol rd is dst (x :: t) H R (some true) (some (.call f args)):=by
  simp only [wA,wpOpt,wpEff,hp,Bool.false_eq_true,if_false]
  exact h
theorem tC_normal {f : List AV→AHeap→Prop} : thenC Q f .normal t H = f t H:=rfl
theorem tC_exit {f : List AV→AHeap→Prop} {id : Nat} : thenC Q f (.exit id) t H = Q (.exit id) t H:=rfl
theorem tC_ret {f : List AV→AHeap→Prop} : thenC Q f .ret t H = Q .ret t H:=rfl
theorem bC_normal {id : Nat} : blockC id Q .normal t H = Q .normal t H:=rfl
theorem bC_ret {id : Nat} : blockC id Q .ret t H = Q .ret t H:=rfl
theorem bC_exit {id id' : Nat} : blockC id Q (.exit id') t H = if id' = id then Q .normal t H else Q (.exit id') t H:=rfl
theorem put_none {v : AV} : putT t none v = t:=rfl
theorem put_some {v : AV} {i : Nat} : putT t (some i) v = t.set i v:=rfl
theorem cw_none : cwant t none = some true:=rfl
theorem ev_tmp {i : Nat} : aev (x :: t) (.tmp i) = (x :: t).getD i (.sc .undef):=rfl
theorem ev_int {k : IntKind} {n : Int} : aev (x :: t) (.const (.int k n)) = .sc (.int k n):=rfl
theorem ev_bool {b : Bool} : aev (x :: t) (.const (.bool b)) = .sc (.bool b):=rfl
theorem ev_str {s : ByteArray} : aev (x :: t) (.const (.string s)) = .sc (.str s):=rfl
theorem ev_nilp : aev (x :: t) (.const (.pointer none)) = .sc .nilp:=rfl
theorem ev_nils : aev (x :: t) (.const (.slice none 0 0)) = .sc .nils:=rfl
theorem ev_nilm : aev (x :: t) (.const (.map none)) = .sc .nilm:=rfl
theorem ev_nilf : aev (x :: t) (.const .nilFunc) = .sc .nilf:=rfl
theorem ev_nili : aev (x :: t) (.const .nilIface) = .sc .nili:=rfl
theorem h_alloc {z : List AV} {b : Nat} : (H.alloc (.cells z)).cells b = if b = H.next then some z else H.cells b:=by
  unfold AHeap.cells
  by_cases e : b = H.next
  · subst e; rw [AHeap.get_alloc_self,if_pos rfl]
  · rw [AHeap.get_alloc_ne H _ e,if_neg e]
theorem h_put {z : List AV} {b c : Nat} : (H.put c (some (.cells z))).cells b = if b = c then (if (H.get c).isSome = true then some z else (H.put c (some (.cells z))).cells c) else H.cells b:=by
  unfold AHeap.cells
  by_cases e : b = c
  · subst e
    rw [if_pos rfl]
    by_cases h : (H.get b).isSome = true
    · obtain ⟨y,hy⟩:=Option.isSome_iff_exists.1 h
      rw [if_pos h,AHeap.get_put_self _ hy]
    · rw [if_neg h]
  · rw [AHeap.get_put_ne H _ e,if_neg e]
theorem h_get {b : Nat} {z : List AV} (h : H.cells b = some z) : (H.get b).isSome = true:=by
  unfold AHeap.cells at h
  split at h
  · rename_i q; rw [q]; rfl
  · cases h
theorem h_put_self {z y : List AV} {b : Nat} (h : H.cells b = some y) : (H.put b (some (.cells z))).cells b = some z:=by
  rw [h_put,if_pos rfl,if_pos (h_get h)]
theorem h_put_ne {z : List AV} {b c : Nat} (h : b ≠ c) : (H.put c (some (.cells z))).cells b = H.cells b:=by
  rw [h_put,if_neg h]
theorem h_putc {z : List AV} {b c : Nat} (h : (H.cells c).isSome = true) : (H.put c (some (.cells z))).cells b = if b = c then some z else H.cells b:=by
  obtain ⟨y,hy⟩:=Option.isSome_iff_exists.1 h
  by_cases e : b = c
  · subst e; rw [if_pos rfl,h_put_self hy]
  · rw [if_neg e,h_put_ne e]
end Go.Hem
