/- Joined. -/
import Derived.Test.YtldflacehmpjkaaGreatDoorHemR
namespace Go.Hem
def Le (r s : Run) : Prop:=∀ T H x,r T H = some x→s T H = some x
theorem doCall_mono {pol : Pol} {r s : Run} (h : Le r s) {f args H x} (e : doCall pol r f args H = some x) : doCall pol s f args H = some x:=by
  unfold doCall at e ⊢
  split
  · rename_i hc; rw [if_pos hc] at e
    split at e
    · rename_i q; rw [h _ _ _ q]; exact e
    · cases e
  · rename_i hc; rw [if_neg hc] at e
    split
    · rename_i hp; rw [if_pos hp] at e
      split
      · rename_i a H0 hfz
        rw [hfz] at e
        simp only at e
        split
        · rename_i hcl; rw [if_pos hcl] at e
          split at e
          · rename_i q; rw [h _ _ _ q]; exact e
          · cases e
        · rename_i hcl; rw [if_neg hcl] at e; cases e
      · rename_i hfz
        rw [hfz] at e
        simp only at e
        split at e
        · rename_i q; rw [h _ _ _ q]; exact e
        · cases e
    · rename_i hp; rw [if_neg hp] at e
      split at e
      · rename_i q; rw [h _ _ _ q]; exact e
      · cases e
theorem doEff_mono {pol : Pol} {r s : Run} (h : Le r s) {t dst H e x} (q : doEff pol r t dst H e = some x) : doEff pol s t dst H e = some x:=by
  cases e with
  | call f args =>
    simp only [doEff,Option.map_eq_some_iff] at q ⊢
    obtain ⟨a,q1,q2⟩:=q
    exact ⟨a,doCall_mono h q1,q2⟩
  | yield l args =>
    simp only [doEff] at q ⊢
    split at q
    · rename_i q1; rw [h _ _ _ q1]; exact q
    · cases q
  | _ => exact q
theorem doOp_mono {P : Program} {pol : Pol} {r s : Run} (h : Le r s) {ops o t H x} (q : doOp P pol r ops o t H = some x) : doOp P pol s ops o t H = some x:=by
  unfold doOp at q ⊢
  split at q
  · split at q
    · rename_i hp
      rw [if_pos hp]
      simp only [Option.bind_eq_some_iff] at q ⊢
      obtain ⟨e,q1,q2⟩:=q
      exact ⟨e,q1,doEff_mono h q2⟩
    · cases q
  · exact q
  · cases q
theorem doOps_mono {P : Program} {pol : Pol} {r s : Run} (h : Le r s) {ops} : ∀ {os t H x},doOps P pol r ops os t H = some x→doOps P pol s ops os t H = some x
  | [],_,_,_,q => q
  | o :: os,t,H,x,q => by
    simp only [doOps,Option.bind_eq_some_iff] at q ⊢
    obtain ⟨e,q1,q2⟩:=q
    exact ⟨e,doOp_mono h q1,doOps_mono h q2⟩
theorem doEffV_mono {pol : Pol} {r s : Run} (h : Le r s) {H e x} (q : doEffV pol r H e = some x) : doEffV pol s H e = some x:=by
  cases e with
  | call f args => exact doCall_mono h q
  | yield l args =>
    simp only [doEffV] at q ⊢
    split at q
    · rename_i q1; rw [h _ _ _ q1]; exact q
    · cases q
  | _ => exact q
theorem doOpV_mono {P : Program} {pol : Pol} {r s : Run} (h : Le r s) {ops o t H x} (q : doOpV P pol r ops o t H = some x) : doOpV P pol s ops o t H = some x:=by
  unfold doOpV at q ⊢
  split at q
  · split at q
    · rename_i hp
      rw [if_pos hp]
      split at q
      · split at q
        · rename_i hc
          simp only [hc,if_true]
          exact doEffV_mono h q
        · cases q
      · cases q
    · cases q
  · exact q
  · cases q
theorem traceOps_mono {P : Program} {pol : Pol} {r s : Run} (h : Le r s) {ops} : ∀ {os t H x},traceOps P pol r ops os t H = some x→traceOps P pol s ops os t H = some x
  | [],_,_,_,q => q
  | j :: os,t,H,x,q => by
    simp only [traceOps,Option.bind_eq_bind,Option.bind_eq_some_iff] at q ⊢
    obtain ⟨o,q0,e,q1,y,q2,q3⟩:=q
    exact ⟨o,q0,e,doOpV_mono h q1,y,traceOps_mono h q2,q3⟩
theorem doDraw_mono {P : Program} {pol : Pol} {r s : Run} (h : Le r s) {t H ops x} (q : doDraw P pol r t H ops = some x) : doDraw P pol s t H ops = some x:=by
  unfold doDraw at q ⊢
  simp only at q ⊢
  split at q
  · rename_i hc; rw [if_pos hc]
    split at q
    · rename_i q1; rw [traceOps_mono h q1]; exact q
    · cases q
  · cases q
theorem doYield_mono {r s : Run} (h : Le r s) {l args H x} (q : doYield r l args H = some x) : doYield s l args H = some x:=by
  unfold doYield at q ⊢
  split at q
  · simp only [Option.bind_eq_some_iff] at q ⊢
    obtain ⟨t0,q0,q⟩:=q
    refine ⟨t0,q0,?_⟩
    split at q
    · rename_i q1; rw [h _ _ _ q1]
      simp only
      split at q
      · split at q
        · rename_i q2; rw [h _ _ _ q2]; exact q
        · cases q
      · cases q
    · cases q
  · cases q
theorem doRange_mono {P : Program} {r s : Run} (h : Le r s) {f ps a b t H x} (q : doRange P r f ps a b t H = some x) : doRange P s f ps a b t H = some x:=by
  unfold doRange at q ⊢
  split at q
  · split at q
    · split at q
      · rename_i q1; rw [h _ _ _ q1]; exact q
      · cases q
    · cases q
  · cases q
theorem doCode_mono {P : Program} {pol : Pol} {r s : Run} (h : Le r s) {c t H x} (q : doCode P pol (doDraw P pol) r t H c = some x) : doCode P pol (doDraw P pol) s t H c = some x:=by
  unfold doCode at q ⊢
  split at q
  · exact q
  · exact q
  · simp only [Option.map_eq_some_iff] at q ⊢
    obtain ⟨a,q1,q2⟩:=q
    exact ⟨a,doOps_mono h q1,q2⟩
  · simp only [Option.map_eq_some_iff] at q ⊢
    obtain ⟨a,q1,q2⟩:=q
    exact ⟨a,doDraw_mono h q1,q2⟩
  · split at q
    · rename_i q1; rw [h _ _ _ q1]; exact h _ _ _ q
    · rename_i q1
      rw [h _ _ _ q]
      split
      · rename_i q2
        cases q2
        exact absurd q (by intro h'; exact q1 _ _ h')
      · rfl
  · split at q
    · exact h _ _ _ q
    · exact h _ _ _ q
    · cases q
  · split at q
    · rename_i q1; rw [h _ _ _ q1]; exact q
    · rename_i q1
      rw [h _ _ _ q]
      split
      · rename_i q2
        cases q2
        exact absurd q (by intro h'; exact q1 _ _ _ h')
      · rfl
  · exact h _ _ _ q
  · exact h _ _ _ q
  · exact q
  · exact q
  · exact doRange_mono h q
  · cases q
theorem step_mono {P : Program} {pol : Pol} {r s : Run} (h : Le r s) : Le (stepTask P pol (doDraw P pol) r) (stepTask P pol (doDraw P pol) s):=by
  intro T H x q
  cases T with
  | call f args =>
    simp only [stepTask] at q ⊢
    by_cases hi : insB P f = true
    · rw [if_pos hi] at q ⊢; exact q
    rw [if_neg hi] at q ⊢
    split at q
    · split at q
      · split at q
        · rename_i q1; rw [h _ _ _ q1]; exact q
        · rename_i q1; rw [h _ _ _ q1]; exact q
        · cases q
      · cases q
    · cases q
  | code c t => exact doCode_mono h q
  | loop c t =>
    simp only [stepTask] at q ⊢
    split at q
    · rename_i q1; rw [h _ _ _ q1]; exact h _ _ _ q
    · rename_i q1
      rw [h _ _ _ q]
      split
      · rename_i q2
        cases q2
        exact absurd q (by intro h'; exact q1 _ _ h')
      · rfl
  | yield l args => exact doYield_mono h q
theorem run_succ {P : Program} {pol : Pol} : ∀ n,Le (run P pol n) (run P pol (n + 1))
  | 0 => fun _ _ _ h => by cases h
  | n + 1 => step_mono (run_succ n)
theorem run_le {P : Program} {pol : Pol} {n m : Nat} (h : n ≤ m) : Le (run P pol n) (run P pol m):=by
  induction h with
  | refl => exact fun _ _ _ h => h
  | step _ ih => exact fun T H x q => run_succ _ T H x (ih T H x q)
end Go.Hem
namespace Go.Hem
inductive NK where
  | ptr | slice | map | func | iface
inductive COp where
  | mv (x : Operand)
  | pick (c a b : Operand)
  | alloc (z : List AV)
  | box (x : Operand)
  | build (z : List AV) (parts : List (Nat × Nat × Operand))
  | bslice (len n : Nat) (z : List AV) (parts : List (Nat × Nat × Operand))
  | load1 (a : Operand)
  | loadN (n : Nat) (a : Operand)
  | store (n : Nat) (a x : Operand)
  | nilc (x : Operand)
  | mkf (fn : Fn) (first captured : List Operand)
  | mks (n bytes : Nat) (z : List AV) (l c : Operand)
  | slc (n : Nat) (x : Operand) (lo hi : Option Operand)
  | slcA (m n : Nat) (x : Operand) (lo hi : Option Operand)
  | slcS (x : Operand) (lo hi : Option Operand)
  | faddr (off : Nat) (x : Operand)
  | fld1 (off : Nat) (x : Operand)
  | fldN (off n : Nat) (x : Operand)
  | iaddr (n : Nat) (x ix : Operand)
  | iaddrA (m n : Nat) (x ix : Operand)
  | len (x : Operand)
  | lenS (x : Operand)
  | app (n bytes : Nat) (s x : Operand)
  | cpy (n : Nat) (d x : Operand)
  | ext (x : Operand) (ix : Nat)
  | bint (op : BinOp) (x y : Operand)
  | shft (op : BinOp) (x y : Operand)
  | bstr (op : BinOp) (x y : Operand)
  | bbool (neg : Bool) (x y : Operand)
  | bnil (neg : Bool) (k : NK) (x y : Operand)
  | not (x : Operand)
  | min (x y : Operand)
  | call (f : FuncId) (args : List Operand)
  | callv (f : Operand) (args : List Operand)
  | bagg (neg : Bool) (ks : List SK) (x y : Operand)
  | eslice (len n : Nat)
  | prim (o : Oper)
  | stuck
  | clr (n : Nat) (z : List AV) (x : Operand)
  | mkmap
  | lkup (g : Bool) (ks : List SK) (z : AV) (ok : Bool) (x k : Operand)
  | mpup (g : Bool) (ks : List SK) (m k v : Operand)
  | slc3 (n : Nat) (x : Operand) (lo hi mx : Option Operand)
  | conv (k : IntKind) (x : Operand)
  | maxi (x y : Operand)
  | idxS (x ix : Operand)
  | idxA (m n : Nat) (x ix : Operand)
  | bytes (x : Operand)
  | mkif (T : TypeId) (x : Operand)
  | invk (r : Operand) (name : String) (args : List Operand)
  | lenM (x : Operand)
  | strb (x : Operand)
  | allocT (T : TypeId) (z : List AV)
  | appB (T : TypeId) (n bytes : Nat) (s x : Operand)
  | boxT (T : TypeId) (x : Operand)
structure CIns where
  dst : Option Tmp
  guard : Option (Option Tmp × Bool)
  op : COp
def read1 (H : AHeap) : AV→Option AV
  | .ptr b off => (H.rd b).bind fun cs => cs[off]?
  | .iptr cs => cs[0]?
  | _ => none
def cutN (n : Nat) (cs : List AV) (off : Nat) : Option AV:=if off + n ≤ cs.length then some (.agg ((cs.drop off).take n)) else none
def readN (H : AHeap) (n : Nat) : AV→Option AV
  | .ptr b off => (H.rd b).bind fun cs => cutN n cs off
  | .iptr cs => cutN n cs 0
  | _ => none
def writeN (H : AHeap) (n : Nat) (a x : AV) : Option Eff :=
  match a with
  | .ptr b off => (H.cells b).bind fun cs => if x.cells.length = n∧off + n ≤ cs.length∧AV.ones x.cells = true then some (.mem (.sc .undef) b (splice cs off x.cells)) else none
  | _ => none
def shift (off : Nat) : AV→Option AV
  | .ptr b o => some (.ptr b (o + off))
  | .iptr cs => some (.iptr (cs.drop off))
  | _ => none
def elemAt (n : Nat) (x : AV) (i : Nat) : Option AV :=
  match x with
  | .slice b off len _ n' => if i < len∧n = n' then some (.ptr b (off + i * n)) else none
  | .imm l => (l[i]?).bind fun v => if v.cells.length = n∧n ≠ 0 then some (.iptr v.cells) else none
  | _ => none
def elemAtA (m n : Nat) (x : AV) (i : Nat) : Option AV :=
  match x with
  | .ptr b off => if i < m then some (.ptr b (off + i * n)) else none
  | .iptr cs => if i < m then some (.iptr (cs.drop (i * n))) else none
  | _ => none
def cutS (n : Nat) (x : AV) (lo hi : Nat→Option Nat) : Option AV :=
  match x with
  | .slice b off len cap n' => (hi len).bind fun h => (lo 0).bind fun l =>
    if l ≤ h∧h ≤ cap∧n = n' then (if l = cap then some (.imm []) else some (.slice b (off + l * n) (h - l) (cap - l) n)) else none
  | .imm xs => (hi xs.length).bind fun h => (lo 0).bind fun l => if l ≤ h∧h ≤ xs.length∧uniform n xs then some (.imm ((xs.take h).drop l)) else none
  | .sc .nils => (hi 0).bind fun h => (lo 0).bind fun l => if l = 0∧h = 0 then some (.sc .nils) else none
  | _ => none
def cutS3 (n : Nat) (x : AV) (lo : Nat→Option Nat) (hi mx : Option Nat) : Option AV :=
  match x with
  | .slice b off _ cap n' => hi.bind fun h => (lo 0).bind fun l => mx.bind fun m =>
    if l ≤ h∧h ≤ m∧m ≤ cap then (if l = m then some (.slice b off 0 0 n') else if n = n' then some (.slice b (off + l * n) (h - l) (m - l) n) else none) else none
  | .sc .nils => hi.bind fun h => (lo 0).bind fun l => mx.bind fun m => if l = 0∧h = 0∧m = 0 then some (.sc .nils) else none
  | _ => none
def cutA (H : AHeap) (m n : Nat) (x : AV) (lo hi : Nat→Option Nat) : Option AV :=
  match x with
  | .ptr b off => (hi m).bind fun h => (lo 0).bind fun l => (H.cells b).bind fun cs =>
    if l ≤ h∧h ≤ m∧off + m * n ≤ cs.length then (if l = m then some (.imm []) else some (.slice b (off + l * n) (h - l) (m - l) n)) else none
  | _ => none
def cutStr (x : AV) (lo hi : Nat→Option Nat) : Option AV :=
  match x with
  | .sc (.str s) => (hi s.size).bind fun h => (lo 0).bind fun l => if l ≤ h∧h ≤ s.size then some (.sc (.str (s.extract l h))) else none
  | _ => none
def lenOf (x : AV) : Option AV := 
  match x with
  | .slice _ _ len _ _ => some (.sc (.int .i64 len))
  | .imm l => some (.sc (.int .i64 l.length))
  | .sc .nils => some (.sc (.int .i64 0))
  | _ => none
def lenStr (x : AV) : Option AV :=
  match x with
  | .sc (.str s) => some (.sc (.int .i64 s.size))
  | _ => none
def appTo (n bytes : Nat) (H : AHeap) (s x : AV) : Option Eff :=
  (alen x).bind fun m => (asrc n H x m).bind fun xs =>
  match s with
  | .sc .nils =>
    if m = 0 then some (.val (.sc .nils))
    else if (2 * m + 1000) * bytes ≤ 2 ^ 47 then some (.new (.cells xs) fun b => .slice b 0 m m n) else none
  | .slice b off len cap n' => (H.cells b).bind fun cs =>
    if n' ≠ n then none else
    if len + m ≤ cap then
      (if off + (len + m) * n ≤ cs.length then some (.mem (.slice b off (len + m) cap n') b (splice cs (off + len * n) xs)) else none)
    else if off = 0∧(2 * (len + m) + 1000) * bytes ≤ 2 ^ 47∧len * n ≤ cs.length then
      some (.move (fun b' => .slice b' 0 (len + m) (len + m) n') b (cs.take (len * n) ++ xs))
    else none
  | _ => none
def cpyTo (n : Nat) (H : AHeap) (d x : AV) : Option Eff :=
  match d with
  | .slice b off len _ _ => (H.cells b).bind fun cs => (alen x).bind fun m0 => (asrc n H x (Min.min m0 len)).bind fun xs =>
    if off + (Min.min m0 len) * n ≤ cs.length∧xs.length = (Min.min m0 len) * n then some (.mem (.sc (.int .i64 ((Min.min m0 len : Nat) : Int))) b (splice cs off xs)) else none
  | .sc .nils => (alen x).bind fun _ => some (.val (.sc (.int .i64 0)))
  | _ => none
def mksOf (n bytes : Nat) (z : List AV) (l c : AV) : Option Eff :=
  (asNat l).bind fun l => (asNat c).bind fun c =>
  if l ≤ c∧c < 2 ^ 40∧(bytes : Int) * c ≤ 2 ^ 47 then
    some (.new (.cells (rep c z)) fun b => .slice b 0 l c n)
  else none
def fillL (cells : List AV) : List (Nat × Nat × AV)→Option (List AV)
  | [] => some cells
  | (off,size,v) :: rest =>
    if v.cells.length ≠ size ∨ off + v.cells.length > cells.length ∨ AV.ones v.cells = false then none
    else fillL (splice cells off v.cells) rest
def bitsOf (k : IntKind) (f : BitVec k.bits→BitVec k.bits→BitVec k.bits) (a b : Int) : Int:=k.wrap (f (BitVec.ofInt k.bits a) (BitVec.ofInt k.bits b)).toNat
def shiftOf (op : BinOp) (x y : AV) : Option AV :=
  match x,y with
  | .sc (.int k a),.sc (.int _ b) =>
    if b < 0 then none else
    match op with
    | .shl => some (.sc (.int k (k.wrap (a * 2 ^ (Min.min b.toNat k.bits)))))
    | .shr => some (.sc (.int k (a.fdiv (2 ^ (Min.min b.toNat k.bits)))))
    | _ => none
  | _,_ => none
def bintOf (op : BinOp) (x y : AV) : Option AV :=
  match x,y with
  | .sc (.int k a),.sc (.int k' b) =>
    if k = k' then
      match op with
      | .add => some (.sc (.int k (k.wrap (a + b))))
      | .sub => some (.sc (.int k (k.wrap (a - b))))
      | .mul => some (.sc (.int k (k.wrap (a * b))))
      | .quo => if b = 0 then none else some (.sc (.int k (k.wrap (a.tdiv b))))
      | .rem => if b = 0 then none else some (.sc (.int k (a.tmod b)))
      | .eql => some (.sc (.bool (a == b)))
      | .neq => some (.sc (.bool (a != b)))
      | .lss => some (.sc (.bool (a < b)))
      | .leq => some (.sc (.bool (a ≤ b)))
      | .gtr => some (.sc (.bool (a > b)))
      | .geq => some (.sc (.bool (a ≥ b)))
      | .and => some (.sc (.int k (bitsOf k (· &&& ·) a b)))
      | .or => some (.sc (.int k (bitsOf k (· ||| ·) a b)))
      | .xor => some (.sc (.int k (bitsOf k (· ^^^ ·) a b)))
      | .andNot => some (.sc (.int k (bitsOf k (fun x y => x &&& ~~~y) a b)))
      | _ => none
    else none
  | a,b => symInt op a b
def bstrOf (op : BinOp) (x y : AV) : Option AV :=
  match x,y with
  | .sc (.str a),.sc (.str b) =>
    match op with
    | .eql => some (.sc (.bool (a.toList == b.toList)))
    | .neq => some (.sc (.bool (!(a.toList == b.toList))))
    | .add => if ((a.size + b.size : Nat) : Int) > IntKind.i64.max then none else some (.sc (.str (a ++ b)))
    | _ => none
  | _,_ => none
def bboolOf (neg : Bool) (x y : AV) : Option AV :=
  match x,y with
  | .sc (.bool a),.sc (.bool b) => some (.sc (.bool (if neg then !(a == b) else a == b)))
  | _,_ => none
def nkOf : TypeDesc→Option NK
  | .pointer _ => some .ptr
  | .slice _ => some .slice
  | .map _ _ => some .map
  | .func _ _ _ => some .func
  | .interface _ => some .iface
  | _ => none
def nilIs : NK→Sc→AV→Option Bool
  | .ptr,.nilp,.ptr .. | .ptr,.nilp,.iptr .. => some false
  | .slice,.nils,.slice .. | .slice,.nils,.imm .. => some false
  | .map,.nilm,.map .. => some false
  | .func,.nilf,.func .. | .func,.nilf,.yield .. => some false
  | .iface,.nili,.iface .. => some false
  | .ptr,.nilp,.sc .nilp | .slice,.nils,.sc .nils | .map,.nilm,.sc .nilm | .func,.nilf,.sc .nilf => some true
  | _,_,_ => none
def bnilOf (neg : Bool) (k : NK) (x y : AV) : Option AV :=
  match x,y with
  | .sc s,v => (nilIs k s v).map fun b => .sc (.bool (b != neg))
  | v,.sc s => (nilIs k s v).map fun b => .sc (.bool (b != neg))
  | _,_ => none
def notOf : AV→Option AV
  | .sc (.bool b) => some (.sc (.bool (!b)))
  | _ => none
def convOf (k : IntKind) : AV→Option AV
  | .sc (.int _ n) => some (.sc (.int k (k.wrap n)))
  | _ => none
def minOf (x y : AV) : Option AV :=
  match x,y with
  | .sc (.int k a),.sc (.int _ b) => some (.sc (.int k (if b < a then b else a)))
  | _,_ => none
def maxOf (x y : AV) : Option AV :=
  match x,y with
  | .sc (.int k a),.sc (.int _ b) => some (.sc (.int k (if a < b then b else a)))
  | _,_ => none
def strAt (x : AV) (i : Nat) : Option AV :=
  match x with
  | .sc (.str s) => (s[i]?).map fun b => .sc (.int .u8 b.toNat)
  | _ => none
def arrAt (m n : Nat) (x : AV) (i : Nat) : Option AV :=
  match x with
  | .agg cs => if i < m∧cs.all AV.isSc = true then
      match cs[i * n]? with
      | some (.sc (.int k v)) => some (.sc (.int k v))
      | some (.sc (.str v)) => some (.sc (.str v))
      | some (.sc (.bool v)) => some (.sc (.bool v))
      | some (.sc .nilf) => some (.sc .nilf)
      | _ => none
    else none
  | _ => none
def pickOf (c a b : AV) : Option AV :=
  match c with
  | .sc (.bool true) => some a
  | .sc (.bool false) => some b
  | _ => none
def nilcOf (P : Program) : AV→Option AV
  | .ptr b off => some (.ptr b off)
  | .iptr cs => some (.iptr cs)
  | .func (.func f) a c => some (.func (.func f) a c)
  | .yield b => some (.yield b)
  | .func (.method n) (.iface T v :: a) c => if (amethod P T n).isSome = true then some (.func (.method n) (.iface T v :: a) c) else none
  | _ => none
def callvOf (P : Program) (f : AV) (args : List AV) : Option Eff :=
  match f with
  | .func (.func g) first captured => acallee P g (first ++ args ++ captured)
  | .yield l => some (.yield l args)
  | _ => none
def fld1Of (off : Nat) : AV→Option AV
  | .agg cs => cs[off]?
  | _ => none
def fldNOf (off n : Nat) : AV→Option AV
  | .agg cs => cutN n cs off
  | _ => none
def extOf (ix : Nat) : AV→Option AV
  | .tup vs => vs[ix]?
  | _ => none
def baggOf (neg : Bool) (ks : List SK) (x y : AV) : Option AV :=
  match x,y with
  | .agg xs,.agg ys => ((eqK ks xs ys).or (eqS ks xs ys)).map fun r => .sc (.bool (if neg then !r else r))
  | _,_ => none
def bd (t : List AV) (x : Option Operand) (d : Nat) : Option Nat:=abound t x d
def bn (t : List AV) (x : Option Operand) : Option Nat:=x.bind fun y => asNat (aev t y)
def evParts (t : List AV) (parts : List (Nat × Nat × Operand)) : List (Nat × Nat × AV):=parts.map fun p => (p.1,p.2.1,aev t p.2.2)
def invOf (P : Program) (name : String) (r : AV) (args : List AV) : Option Eff :=
  match r with
  | .iface T v => (amethod P T name).bind fun f => acallee P f (v :: args)
  | _ => none
def strBytes (H : AHeap) (x : AV) : Option AV :=
  match x with
  | .sc .nils => some (.sc (.str ByteArray.empty))
  | x => strOf H x
def lenMap (H : AHeap) (x : AV) : Option AV :=
  match x with
  | .map b => (H.map b).map fun es => .sc (.int .i64 es.length)
  | _ => none
def csem (P : Program) (t : List AV) (H : AHeap) : COp→Option Eff
  | .mv x => some (.val (aev t x))
  | .pick c a b => (pickOf (aev t c) (aev t a) (aev t b)).map .val
  | .alloc z => some (.new (.cells z) fun b => .ptr b 0)
  | .allocT T z => some (.newT (z.length,T) (.cells z) fun b => .ptr b 0)
  | .appB T n bytes s x => (appTo n bytes H (aev t s) (aev t x)).map (tagA T H)
  | .boxT T x => if AV.ones (aev t x).cells = true then some (.newT ((aev t x).cells.length,T) (.cells (aev t x).cells) fun b => .ptr b 0) else none
  | .box x => if AV.ones (aev t x).cells = true then some (.new (.cells (aev t x).cells) fun b => .ptr b 0) else none
  | .build z parts => (fillL z (evParts t parts)).map fun cs => .val (.agg cs)
  | .bslice len n z parts => (fillL (rep len z) (evParts t parts)).map fun cs => .new (.cells cs) fun b => .slice b 0 len len n
  | .load1 a => (read1 H (aev t a)).map .val
  | .loadN n a => (readN H n (aev t a)).map .val
  | .store n a x => writeN H n (aev t a) (aev t x)
  | .nilc x => (nilcOf P (aev t x)).map .val
  | .mkf fn first captured => some (.val (.func fn (first.map (aev t)) (captured.map (aev t))))
  | .mks n bytes z l c => mksOf n bytes z (aev t l) (aev t c)
  | .slc n x lo hi => (cutS n (aev t x) (bd t lo) (bd t hi)).map .val
  | .slcA m n x lo hi => (cutA H m n (aev t x) (bd t lo) (bd t hi)).map .val
  | .slc3 n x lo hi mx => (cutS3 n (aev t x) (bd t lo) (bn t hi) (bn t mx)).map .val
  | .slcS x lo hi => (cutStr (aev t x) (bd t lo) (bd t hi)).map .val
  | .faddr off x => (shift off (aev t x)).map .val
  | .fld1 off x => (fld1Of off (aev t x)).map .val
  | .fldN off n x => (fldNOf off n (aev t x)).map .val
  | .iaddr n x ix => (asNat (aev t ix)).bind fun i => (elemAt n (aev t x) i).map .val
  | .iaddrA m n x ix => (asNat (aev t ix)).bind fun i => (elemAtA m n (aev t x) i).map .val
  | .len x => (lenOf (aev t x)).map .val
  | .lenS x => (lenStr (aev t x)).map .val
  | .app n bytes s x => appTo n bytes H (aev t s) (aev t x)
  | .cpy n d x => cpyTo n H (aev t d) (aev t x)
  | .ext x ix => (extOf ix (aev t x)).map .val
  | .bint op x y => (bintOf op (aev t x) (aev t y)).map .val
  | .shft op x y => (shiftOf op (aev t x) (aev t y)).map .val
  | .bstr op x y => (bstrOf op (aev t x) (aev t y)).map .val
  | .bbool neg x y => (bboolOf neg (aev t x) (aev t y)).map .val
  | .bnil neg k x y => (bnilOf neg k (aev t x) (aev t y)).map .val
  | .not x => (notOf (aev t x)).map .val
  | .min x y => (minOf (aev t x) (aev t y)).map .val
  | .call f args => some (.call f (args.map (aev t)))
  | .callv f args => callvOf P (aev t f) (args.map (aev t))
  | .bagg neg ks x y => (baggOf neg ks (aev t x) (aev t y)).map .val
  | .eslice len n => some (.new (.cells []) fun b => .slice b 0 len len n)
  | .prim o => aclosed P t o
  | .stuck => none
  | .clr n z x => clrTo n z H (aev t x)
  | .mkmap => some (.new (.map []) fun b => .map b)
  | .lkup g ks z ok x k => (lookIn H g ks z ok (aev t x) (aev t k)).map .val
  | .mpup g ks m k v => putIn H g ks (aev t m) (aev t k) (aev t v)
  | .conv k x => (convOf k (aev t x)).map .val
  | .maxi x y => (maxOf (aev t x) (aev t y)).map .val
  | .idxS x ix => (asNat (aev t ix)).bind fun i => (strAt (aev t x) i).map .val
  | .idxA m n x ix => (asNat (aev t ix)).bind fun i => (arrAt m n (aev t x) i).map .val
  | .bytes x => (bytesFrom (aev t x)).map .fzn
  | .mkif T x => some (.val (.iface T (aev t x)))
  | .invk r name args => invOf P name (aev t r) (args.map (aev t))
  | .lenM x => (lenMap H (aev t x)).map .val
  | .strb x => (strBytes H (aev t x)).map .val
def cparts (ps : List (Nat × Nat)) (parts : List (Nat × Operand)) : Option (List (Nat × Nat × Operand)) :=
  parts.mapM fun p => (ps[p.1]?).map fun q => (q.1,q.2,p.2)
def copBin (P : Program) (o : Oper) (op : BinOp) (T : TypeId) (x y : Operand) : COp :=
  match P.underlying T,op with
  | some (.int _),.add | some (.int _),.sub | some (.int _),.mul | some (.int _),.quo | some (.int _),.rem | some (.int _),.eql | some (.int _),.neq | some (.int _),.lss
  | some (.int _),.leq | some (.int _),.gtr | some (.int _),.geq | some (.int _),.and | some (.int _),.or | some (.int _),.xor | some (.int _),.andNot => .bint op x y
  | some (.int _),.shl | some (.int _),.shr => .shft op x y
  | some .string,.eql | some .string,.neq | some .string,.add => .bstr op x y
  | some .bool,.eql => .bbool false x y
  | some .bool,.neq => .bbool true x y
  | some (.struct _),.eql =>
    match flatK P 12 T with
    | some ks => if P.eqGuardType P.depth T = true then .prim o else .bagg false ks x y
    | none => .prim o
  | some (.struct _),.neq =>
    match flatK P 12 T with
    | some ks => if P.eqGuardType P.depth T = true then .prim o else .bagg true ks x y
    | none => .prim o
  | some (.array _ _),.eql =>
    match flatK P 12 T with
    | some ks => if P.eqGuardType P.depth T = true then .prim o else .bagg false ks x y
    | none => .prim o
  | some (.array _ _),.neq =>
    match flatK P 12 T with
    | some ks => if P.eqGuardType P.depth T = true then .prim o else .bagg true ks x y
    | none => .prim o
  | some d,.eql =>
    match nkOf d with
    | some k => .bnil false k x y
    | none => .prim o
  | some d,.neq =>
    match nkOf d with
    | some k => .bnil true k x y
    | none => .prim o
  | _,_ => .prim o
def cop0 (P : Program) (o : Oper) : Option COp :=
  match o.op with
  | .move x | .assign x => some (.mv x)
  | .pick c a b => some (.pick c a b)
  | .alloc e => if tagB P e = true then none else (azero P e).bind fun z => if AV.ones z.cells = true then some (.alloc z.cells) else none
  | .box T x => if tagB P T = true then none else some (.box x)
  | .build T parts => (azero P T).bind fun z =>
    match P.underlying T with
    | some (.struct fs) => (places P fs.toList).bind fun ps => (cparts ps parts.toList).map (.build z.cells)
    | some (.array _ e) => (szOf P e).map fun n => .build z.cells (parts.toList.map fun p => (p.1 * n,n,p.2))
    | _ => none
  | .buildSlice T len parts => (sliceElem P T).bind fun e => (szOf P e).bind fun n => if len * n = 0 then (if parts.isEmpty = true then some (.eslice len n) else none) else (azero P e).bind fun z =>
    if len * n > 2 ^ 24 ∨ len * n = 0 ∨ z.cells.length ≠ n ∨ AV.ones z.cells = false then none else
    some (.bslice len n z.cells (parts.toList.map fun p => (p.1 * n,n,p.2)))
  | .load T a => (isAggB P T).bind fun g => if g = true then (szOf P T).map fun n => .loadN n a else some (.load1 a)
  | .store T a x => (szOf P T).map fun n => .store n a x
  | .nilCheck x => some (.nilc x)
  | .makeFunc fn first captured => some (.mkf fn first.toList captured.toList)
  | .makeSlice T l c => (sliceElem P T).bind fun e => (P.info? e).bind fun i => (azero P e).bind fun z =>
    if z.cells.length ≠ i.size ∨ AV.ones z.cells = false ∨ i.size = 0 then none else some (.mks i.size i.bytes z.cells l c)
  | .slice T x lo hi none =>
    match P.underlying T with
    | some (.slice e) => (szOf P e).map fun n => .slc n x lo hi
    | some .string => some (.slcS x lo hi)
    | some (.array m e) => (szOf P e).map fun n => .slcA m n x lo hi
    | _ => none
  | .fieldAddr s x f => (structOf P s).bind fun fs => (fs[f]?).bind fun fd => (szOf P fd.type).bind fun n => if n = 0 then none else some (.faddr fd.offset x)
  | .field s x f => (structOf P s).bind fun fs => (fs[f]?).bind fun fd => (isAggB P fd.type).bind fun g =>
    if g = true then (szOf P fd.type).map fun n => .fldN fd.offset n x else some (.fld1 fd.offset x)
  | .indexAddr T x ix =>
    match P.underlying T with
    | some (.slice e) => (szOf P e).map fun n => .iaddr n x ix
    | some (.array m e) => (szOf P e).map fun n => .iaddrA m n x ix
    | _ => none
  | .extract x ix => some (.ext x ix)
  | .binOp op T x y _ => some (copBin P o op T x y)
  | .unOp op _ x => if op = .not then some (.not x) else some (.prim o)
  | .call c =>
    match c.callee with
    | .value (.func f) => if (acallee P f []).isSome then some (.call f c.args.toList) else none
    | .value f => some (.callv f c.args.toList)
    | .builtin .len =>
      match c.args.toList,(c.argTypes[0]?).bind (P.underlying ·) with
      | [x],some (.slice _) => some (.len x)
      | [x],some .string => some (.lenS x)
      | _,_ => none
    | .builtin .min =>
      match c.args.toList with
      | [x,y] => some (.min x y)
      | _ => some (.prim o)
    | .builtin .max =>
      match c.args.toList with
      | [x,y] => some (.maxi x y)
      | _ => some (.prim o)
    | .builtin .append =>
      match c.args.toList with
      | [s,x] => (c.argTypes[0]?).bind fun sT => (c.argTypes[1]?).bind fun xT => (sliceElem P sT).bind fun e => (P.info? e).bind fun i => (azero P e).bind fun z =>
        if z.cells.length ≠ i.size ∨ i.size = 0 ∨ i.bytes = 0 ∨ appArg P xT = false then none else some (.app i.size i.bytes s x)
      | _ => none
    | .builtin .copy =>
      match c.args.toList with
      | [d,x] => (c.argTypes[0]?).bind fun dT => (sliceElem P dT).bind fun e => (szOf P e).map fun n => .cpy n d x
      | _ => none
    | .builtin .clear =>
      match c.args.toList with
      | [x] => (c.argTypes[0]?).bind fun T => (sliceElem P T).bind fun e => (szOf P e).bind fun n => (azero P e).map fun z => .clr n z.cells x
      | _ => none
    | .invoke r name => some (.invk r name c.args.toList)
    | _ => some (.prim o)
  | .makeMap _ none => some .mkmap
  | .makeMap T (some (.const (.int _ _))) => if (mapOf P T).isSome = true then some .mkmap else none
  | .lookup T x ix ok => (mapOf P T).bind fun m => (keyK P m.1).bind fun ks => (isAggB P m.1).bind fun g => (azero P m.2).map fun z => .lkup g ks z ok x ix
  | .mapUpdate T m k v => (mapOf P T).bind fun mt => (keyK P mt.1).bind fun ks => (isAggB P mt.1).map fun g => .mpup g ks m k v
  | .slice T x lo hi (some m) =>
    match P.underlying T with
    | some (.slice e) => (szOf P e).map fun n => .slc3 n x lo hi (some m)
    | _ => none
  | .convert src dst x =>
    match P.underlying src,P.underlying dst with
    | some (.int _),some (.int k) => some (.conv k x)
    | _,_ => if isBytes P src dst = true then some (.bytes x) else none
  | .index T x ix =>
    match P.underlying T with
    | some .string => some (.idxS x ix)
    | some (.array m e) => (isAggB P e).bind fun g => if g = true then some (.prim o) else (szOf P e).map fun n => .idxA m n x ix
    | _ => none
  | .makeInterface T x =>
    match P.underlying T with
    | some (.interface _) => none
    | some _ => some (.mkif T x)
    | none => none
  | _ => none
def mapLenOf (P : Program) (o : Oper) : Option COp :=
  match o.op with
  | .convert src dst x => if isStrOf P src dst = true then some (.strb x) else none
  | .alloc e => if tagB P e = true then (azero P e).bind fun z => if AV.ones z.cells = true then some (.allocT e z.cells) else none else none
  | .box T x => if tagB P T = true then some (.boxT T x) else none
  | .call c =>
    match c.callee with
    | .builtin .len =>
      match c.args.toList,(c.argTypes[0]?).bind (P.underlying ·) with
      | [x],some (.map _ _) => some (.lenM x)
      | _,_ => none
    | _ => none
  | _ => none
def upB : Option TypeId→COp→COp
  | some T,.app n bytes s x => .appB T n bytes s x
  | _,c => c
def cop (P : Program) (o : Oper) : Option COp :=
  match cop0 P o with
  | some c => some (upB (appEl P o) c)
  | none => if readerKind o.op = true then none else some .stuck
def copM (P : Program) (o : Oper) : Option COp :=
  match mapLenOf P o with
  | some c => some c
  | none => cop P o
theorem cop_cases {P : Program} {o : Oper} {c : COp} (h : cop P o = some c) : (∃ c0,cop0 P o = some c0∧c = upB (appEl P o) c0) ∨ (readerKind o.op = false∧c = .stuck):=by
  unfold cop at h
  split at h
  · rename_i q; cases h; exact .inl ⟨_,q,rfl⟩
  · split at h
    · cases h
    · rename_i q; cases h; exact .inr ⟨by simpa using q,rfl⟩
end Go.Hem
