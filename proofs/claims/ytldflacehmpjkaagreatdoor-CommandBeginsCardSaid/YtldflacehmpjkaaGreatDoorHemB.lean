import Derived.Test.YtldflacehmpjkaaGreatDoorHemEq
namespace Go.Hem
def aev (t : List AV) : Operand→AV
  | .tmp i => t.getD i (.sc .undef)
  | .const v => (AV.of? v).getD .poison
  | .global g => .sc (.glob g)
  | .func f => .func (.func f) [] []
inductive Eff where
  | val (v : AV)
  | new (x : Blk) (mk : Nat→AV)
  | mem (v : AV) (b : Nat) (x : List AV)
  | move (v : Nat→AV) (b : Nat) (x : List AV)
  | call (f : FuncId) (args : List AV)
  | yield (l : Nat) (args : List AV)
  | memM (v : AV) (b : Nat) (es : List (AV × AV))
  /-- A new row that is never written. -/
  | fzn (v : AV)
  /-- A new block whose type is noted. -/
  | newT (T : Nat × TypeId) (x : Blk) (mk : Nat→AV)
  | moveT (T : Nat × TypeId) (v : Nat→AV) (b : Nat) (x : List AV)
def aread (P : Program) (T : TypeId) (cs : List AV) (off : Nat) : Option AV:=do
  if ← isAggB P T then
    let n ← szOf P T
    if off + n ≤ cs.length then some (.agg ((cs.drop off).take n)) else none
  else cs[off]?
def aload (P : Program) (T : TypeId) (H : AHeap) : AV→Option AV
  | .ptr b off => (H.rd b).bind fun cs => aread P T cs off
  | .iptr cs => aread P T cs 0
  | _ => none
def splice (cs : List AV) (off : Nat) (xs : List AV) : List AV:=cs.take off ++ xs ++ cs.drop (off + xs.length)
def afill (place : Nat→Option (Nat × Nat)) (cells : List AV) : List (Nat × AV)→Option (List AV)
  | [] => some cells
  | (i,v) :: rest =>
    match place i with
    | none => none
    | some (off,size) =>
      if v.cells.length ≠ size ∨ off + v.cells.length > cells.length ∨ AV.ones v.cells = false then none
      else afill place (splice cells off v.cells) rest
def azero (P : Program) (t : TypeId) : Option AV:=do AV.of? (← (← P.info? t).zero)
def rep : Nat→List AV→List AV
  | 0,_ => []
  | n + 1,z => z ++ rep n z
def asNat : AV→Option Nat
  | .sc (.int _ n) => if 0 ≤ n then some n.toNat else none
  | _ => none
def abound (t : List AV) : Option Operand→Nat→Option Nat
  | none,d => some d
  | some x,_ => asNat (aev t x)
def structOf (P : Program) (s : TypeId) : Option (Array Field) :=
  match P.underlying s with
  | some (.struct fs) => some fs
  | _ => none
def sliceElem (P : Program) (s : TypeId) : Option TypeId :=
  match P.underlying s with
  | some (.slice e) => some e
  | _ => none
def arrayOf (P : Program) (s : TypeId) : Option (Nat × TypeId) :=
  match P.underlying s with
  | some (.array n e) => some (n,e)
  | _ => none
def afieldAddr (P : Program) (s : TypeId) (x : AV) (f : Nat) : Option AV:=do
  let fs ← structOf P s
  let fd ← fs[f]?
  let n ← szOf P fd.type
  if n = 0 then none else
  match x with
  | .ptr b off => some (.ptr b (off + fd.offset))
  | .iptr cs => some (.iptr (cs.drop fd.offset))
  | _ => none
def aindexAddr (P : Program) (T : TypeId) (x ix : AV) : Option AV:=do
  let i ← asNat ix
  match x with
  | .slice b off len _ n' => do
    let e ← sliceElem P T
    let n ← szOf P e
    if i < len∧n = n' then some (.ptr b (off + i * n)) else none
  | .imm l => do
    let e ← sliceElem P T
    let n ← szOf P e
    let v ← l[i]?
    if v.cells.length = n∧n ≠ 0 then some (.iptr v.cells) else none
  | .ptr b off => do
    let (m,e) ← arrayOf P T
    let n ← szOf P e
    if i < m then some (.ptr b (off + i * n)) else none
  | .iptr cs => do
    let (m,e) ← arrayOf P T
    let n ← szOf P e
    if i < m then some (.iptr (cs.drop (i * n))) else none
  | _ => none
def uniform (n : Nat) (l : List AV) : Bool:=l.all fun v => v.cells.length == n
def aslice (P : Program) (H : AHeap) (T : TypeId) (t : List AV) (x : AV) (lo hi : Option Operand) : Option AV:=do
  match x with
  | .slice b off len cap n' => do
    let e ← sliceElem P T
    let n ← szOf P e
    let h ← abound t hi len
    let l ← abound t lo 0
    if l ≤ h∧h ≤ cap∧n = n' then (if l = cap then some (.imm []) else some (.slice b (off + l * n) (h - l) (cap - l) n)) else none
  | .imm xs => do
    let e ← sliceElem P T
    let n ← szOf P e
    let h ← abound t hi xs.length
    let l ← abound t lo 0
    if l ≤ h∧h ≤ xs.length∧uniform n xs then some (.imm ((xs.take h).drop l)) else none
  | .sc .nils => do
    let e ← sliceElem P T
    let _ ← szOf P e
    let h ← abound t hi 0
    let l ← abound t lo 0
    if l = 0∧h = 0 then some (.sc .nils) else none
  | .ptr b off => do
    let (m,e) ← arrayOf P T
    let n ← szOf P e
    let h ← abound t hi m
    let l ← abound t lo 0
    let cs ← H.cells b
    if l ≤ h∧h ≤ m∧off + m * n ≤ cs.length then (if l = m then some (.imm []) else some (.slice b (off + l * n) (h - l) (m - l) n)) else none
  | _ => none
def aslice3 (P : Program) (T : TypeId) (t : List AV) (x : AV) (lo hi mx : Option Operand) : Option AV :=
  match x with
  | .slice b off _ cap n' => (sliceElem P T).bind fun e => (szOf P e).bind fun n => (hi.bind fun y => asNat (aev t y)).bind fun h => (abound t lo 0).bind fun l => (mx.bind fun y => asNat (aev t y)).bind fun m =>
    if l ≤ h∧h ≤ m∧m ≤ cap then (if l = m then some (.slice b off 0 0 n') else if n = n' then some (.slice b (off + l * n) (h - l) (m - l) n) else none) else none
  | .sc .nils => (sliceElem P T).bind fun e => (szOf P e).bind fun _ => (hi.bind fun y => asNat (aev t y)).bind fun h => (abound t lo 0).bind fun l => (mx.bind fun y => asNat (aev t y)).bind fun m =>
    if l = 0∧h = 0∧m = 0 then some (.sc .nils) else none
  | _ => none
def afield (P : Program) (s : TypeId) (x : AV) (f : Nat) : Option AV:=do
  let fs ← structOf P s
  let fd ← fs[f]?
  match x with
  | .agg cs => aread P fd.type cs fd.offset
  | _ => none
def places (P : Program) (fs : List Field) : Option (List (Nat × Nat)):=fs.mapM fun f => (P.info? f.type).map fun i => (f.offset,i.size)
def abuild (P : Program) (T : TypeId) (parts : List (Nat × AV)) : Option AV:=do
  let z ← azero P T
  match P.underlying T with
  | some (.struct fs) => do
      let ps ← places P fs.toList
      (afill (fun i => ps[i]?) z.cells parts).map .agg
  | some (.array _ e) => do
      let n ← szOf P e
      (afill (fun i => some (i * n,n)) z.cells parts).map .agg
  | _ => none
def abuildSlice (P : Program) (T : TypeId) (len : Nat) (parts : List (Nat × AV)) : Option Eff:=do
  let e ← sliceElem P T
  let n ← szOf P e
  if len * n > 2 ^ 24 then none else
  if len * n = 0 then (if parts.isEmpty then some (.new (.cells []) fun b => .slice b 0 len len n) else none) else do
  let z ← azero P e
  if z.cells.length ≠ n ∨ AV.ones z.cells = false then none else do
  let cs ← afill (fun i => some (i * n,n)) (rep len z.cells) parts
  some (.new (.cells cs) fun b => .slice b 0 len len n)
def amakeSlice (P : Program) (T : TypeId) (len cap : AV) : Option Eff:=do
  let e ← sliceElem P T
  let n ← szOf P e
  let i ← P.info? e
  let l ← asNat len
  let c ← asNat cap
  if l ≤ c∧c < 2 ^ 40∧(i.bytes : Int) * c ≤ 2 ^ 47 then
    if c * n = 0 then some (.new (.cells []) fun b => .slice b 0 l c n) else do
    let z ← azero P e
    if z.cells.length ≠ n ∨ AV.ones z.cells = false then none else some (.new (.cells (rep c z.cells)) fun b => .slice b 0 l c n)
  else none
def asrc (n : Nat) (H : AHeap) : AV→Nat→Option (List AV)
  | .slice b off len _ _,m => (H.rd b).bind fun cs => if m ≤ len∧off + m * n ≤ cs.length then some ((cs.drop off).take (m * n)) else none
  | .imm l,m => if m ≤ l.length∧uniform n l then some ((l.take m).flatMap AV.cells) else none
  | .sc .nils,m => if m = 0 then some [] else none
  | .sc (.str s),m => if m ≤ s.size∧n = 1 then some ((s.data.toList.take m).map fun b => .sc (.int .u8 b.toNat)) else none
  | _,_ => none
def alen : AV→Option Nat
  | .slice _ _ len _ _ => some len
  | .imm l => some l.length
  | .sc .nils => some 0
  | .sc (.str s) => some s.size
  | _ => none
def appArg (P : Program) (xT : TypeId) : Bool :=
  match P.underlying xT with
  | some (.slice _) | some .string => true
  | _ => false
def aappend (P : Program) (argTypes : Array TypeId) (H : AHeap) (s x : AV) : Option Eff:=do
  let sT ← argTypes[0]?
  let xT ← argTypes[1]?
  let e ← sliceElem P sT
  let i ← P.info? e
  let z ← azero P e
  let m ← alen x
  let xs ← asrc i.size H x m
  if z.cells.length ≠ i.size ∨ i.size = 0 ∨ i.bytes = 0 ∨ appArg P xT = false then none else
  match s with
  | .sc .nils =>
    if m = 0 then some (.val (.sc .nils))
    else if (2 * m + 1000) * i.bytes ≤ 2 ^ 47 then some (.new (.cells xs) fun b => .slice b 0 m m i.size) else none
  | .slice b off len cap n => do
    let cs ← H.cells b
    if n ≠ i.size then none else
    if len + m ≤ cap then
      (if off + (len + m) * i.size ≤ cs.length then some (.mem (.slice b off (len + m) cap n) b (splice cs (off + len * i.size) xs)) else none)
    else if off = 0∧(2 * (len + m) + 1000) * i.bytes ≤ 2 ^ 47∧len * i.size ≤ cs.length then
      some (.move (fun b' => .slice b' 0 (len + m) (len + m) n) b (cs.take (len * i.size) ++ xs))
    else none
  | _ => none
def acopy (P : Program) (argTypes : Array TypeId) (H : AHeap) (d x : AV) : Option Eff:=do
  let dT ← argTypes[0]?
  let e ← sliceElem P dT
  let n ← szOf P e
  match d with
  | .slice b off len _ _ => do
    let cs ← H.cells b
    let m0 ← alen x
    let m:=min m0 len
    let xs ← asrc n H x m
    if off + m * n ≤ cs.length∧xs.length = m * n then some (.mem (.sc (.int .i64 m)) b (splice cs off xs)) else none
  | .sc .nils => do
    let _ ← alen x
    some (.val (.sc (.int .i64 0)))
  | _ => none
def astore (P : Program) (T : TypeId) (H : AHeap) (a x : AV) : Option Eff :=
  match a with
  | .ptr b off => do
    let cs ← H.cells b
    let n ← szOf P T
    if x.cells.length = n∧off + n ≤ cs.length∧AV.ones x.cells = true then some (.mem (.sc .undef) b (splice cs off x.cells)) else none
  | _ => none
def allClosed (t : List AV) (o : Oper) : Bool:=o.op.operands.all fun x => (aev t x).closed?.isSome
def closedEnv (t : List AV) (x : Operand) : Value:=((aev t x).closed?).getD undef
def aclosed (P : Program) (t : List AV) (o : Oper) : Option Eff :=
  if allClosed t o then
    match pureSem P (execOp (closedEnv t) o) with
    | some (.value v) => (AV.of? v).map .val
    | _ => none
  else none
def acallee (P : Program) (f : FuncId) (args : List AV) : Option Eff :=
  match P.funcs[f]? with
  | some fn => if fn.body.isSome && !(fn.name == "runtime.NumGoroutine") then some (.call f args) else none
  | none => none
def amethod (P : Program) (T : TypeId) (name : String) : Option FuncId :=
  (P.info? T).bind fun i => (i.methods.find? (·.name == name)).bind fun m =>
  match P.underlying T,m.func with
  | some (.pointer _),some (f,true) => if m.path.isEmpty = true then some f else none
  | _,_ => none
def besideNil : Sc→AV→Option TypeDesc→Bool
  | .nilp,.ptr ..,some (.pointer _) => true
  | .nilp,.iptr ..,some (.pointer _) => true
  | .nils,.slice ..,some (.slice _) => true
  | .nils,.imm ..,some (.slice _) => true
  | .nilm,.map ..,some (.map ..) => true
  | .nilf,.func ..,some (.func ..) => true
  | .nilf,.yield ..,some (.func ..) => true
  | .nili,.iface ..,some (.interface _) => true
  | _,_,_ => false
def anil (P : Program) (T : TypeId) (x y : AV) : Bool :=
  match x,y with
  | .sc s,v => besideNil s v (P.underlying T)
  | v,.sc s => besideNil s v (P.underlying T)
  | _,_ => false
def clrTo (n : Nat) (z : List AV) (H : AHeap) : AV→Option Eff
  | .sc .nils => some (.val (.sc .undef))
  | .slice b off len _ n' =>
    if len = 0 then some (.val (.sc .undef)) else (H.cells b).bind fun cs =>
    if n' = n∧off + len * n ≤ cs.length∧z.length = n∧AV.ones z = true then some (.mem (.sc .undef) b (splice cs off (rep len z))) else none
  | _ => none
def aclear (P : Program) (argTypes : Array TypeId) (H : AHeap) (x : AV) : Option Eff :=
  (argTypes[0]?).bind fun T => (sliceElem P T).bind fun e => (szOf P e).bind fun n => (azero P e).bind fun z => clrTo n z.cells H x
def mapOf (P : Program) (T : TypeId) : Option (TypeId × TypeId) :=
  match P.underlying T with
  | some (.map k e) => some (k,e)
  | _ => none
def basicB (P : Program) (t : TypeId) : Bool :=
  match P.underlying t with
  | some (.int _) | some .bool | some .string => true
  | _ => false
def keyK (P : Program) (T : TypeId) : Option (List SK) :=
  match P.underlying T with
  | some (.struct fs) => if (fs.toList.all fun f => basicB P f.type) = true then flatK P 12 T else none
  | some (.int _) | some .bool | some .string => flatK P 12 T
  | _ => none
def keyEq0 (g : Bool) (ks : List SK) : AV→AV→Option Bool
  | .agg xs,.agg ys => if g then eqK ks xs ys else none
  | .sc x,.sc y => if g then none else eqK ks [.sc x] [.sc y]
  | _,_ => none
def keyEq (g : Bool) (ks : List SK) : AV→AV→Option Bool
  | .agg xs,.agg ys => if g then eqS ks xs ys else none
  | .sc x,.sc y => if g then none else eqK ks [.sc x] [.sc y]
  | _,_ => none
theorem keyEq_ins (σ : Int) {g : Bool} {ks : List SK} {a b : AV} {r : Bool} (h : keyEq g ks a b = some r) : keyEq0 g ks (a.ins σ) (b.ins σ) = some r:=by
  unfold keyEq at h
  split at h
  · split at h
    · rename_i hg
      simp only [AV.ins,keyEq0,hg,if_true]
      exact eqS_ins σ h
    · cases h
  · split at h
    · cases h
    · rename_i hg
      simp only [AV.ins,keyEq0,hg]
      exact h
  · cases h
def afind (g : Bool) (ks : List SK) (k : AV) : List (AV × AV)→Nat→Option (Option (Nat × AV))
  | [],_ => some none
  | e :: es,i =>
    match keyEq g ks k e.1 with
    | some true => some (some (i,e.2))
    | some false => afind g ks k es (i + 1)
    | none => none
def lkres (ok : Bool) (v : AV) (b : Bool) : AV:=if ok then .tup [v,.sc (.bool b)] else v
def AHeap.map (H : AHeap) (b : Nat) : Option (List (AV × AV)) :=
  match H.get b with
  | some (.map es) => some es
  | _ => none
def lookIn (H : AHeap) (g : Bool) (ks : List SK) (z : AV) (ok : Bool) (x k : AV) : Option AV :=
  if keyEq g ks k k = some true then
    match x with
    | .sc .nilm => some (lkres ok z false)
    | .map b => (H.map b).bind fun es => (afind g ks k es 0).map fun
      | some r => lkres ok r.2 true
      | none => lkres ok z false
    | _ => none
  else none
def alookup (P : Program) (T : TypeId) (H : AHeap) (x k : AV) (ok : Bool) : Option AV :=
  (mapOf P T).bind fun m => (keyK P m.1).bind fun ks => (isAggB P m.1).bind fun g => (azero P m.2).bind fun z => lookIn H g ks z ok x k
def putIn (H : AHeap) (g : Bool) (ks : List SK) (m k v : AV) : Option Eff :=
  if keyEq g ks k k = some true then
    match m with
    | .map b => (H.map b).bind fun es => (afind g ks k es 0).map fun
      | some r => .memM (.sc .undef) b (es.set r.1 (k,v))
      | none => .memM (.sc .undef) b (es ++ [(k,v)])
    | _ => none
  else none
def amapUpdate (P : Program) (T : TypeId) (H : AHeap) (m k v : AV) : Option Eff :=
  (mapOf P T).bind fun mt => (keyK P mt.1).bind fun ks => (isAggB P mt.1).bind fun g => putIn H g ks m k v
def amakeMap (P : Program) (T : TypeId) : Option AV→Option Eff
  | none => some (.new (.map []) fun b => .map b)
  | some (.sc (.int _ _)) => (mapOf P T).map fun _ => .new (.map []) fun b => .map b
  | some _ => none
def bytesAV (s : ByteArray) : AV:=.imm (s.data.toList.map fun b => .sc (.int .u8 b.toNat))
def isBytes (P : Program) (src dst : TypeId) : Bool :=
  match P.underlying src,P.underlying dst with
  | some _,some (.slice e) =>
    match P.underlying e with
    | some (.int .u8) => true
    | _ => false
  | _,_ => false
def bytesFrom : AV→Option AV
  | .sc (.str s) => some (bytesAV s)
  | _ => none
def tagB0 (P : Program) (T : TypeId) : Bool :=
  match P.underlying T with
  | some (.struct fs) =>
    match fs.toList with
    | [f0,_] => (match P.underlying f0.type with | some (.pointer u) => u == T | _ => false)
    | _ => false
  | _ => false
def tagB (P : Program) (T : TypeId) : Bool :=
  match P.underlying T with
  | some (.struct fs) =>
    match fs.toList with
    | [f0] => tagB0 P f0.type
    | _ => tagB0 P T
  | _ => false
def symC (op : BinOp) (c : Int) : Option AV :=
  match op with
  | .eql => if c < 0 ∨ 99 < c then some (.sc (.bool false)) else none
  | .neq => if c < 0 ∨ 99 < c then some (.sc (.bool true)) else none
  | .lss => if 99 < c then some (.sc (.bool true)) else if c ≤ 0 then some (.sc (.bool false)) else none
  | .leq => if 99 ≤ c then some (.sc (.bool true)) else if c < 0 then some (.sc (.bool false)) else none
  | .gtr => if c < 0 then some (.sc (.bool true)) else if 99 ≤ c then some (.sc (.bool false)) else none
  | .geq => if c ≤ 0 then some (.sc (.bool true)) else if 99 < c then some (.sc (.bool false)) else none
  | _ => none
def flipOp : BinOp→BinOp
  | .lss => .gtr
  | .gtr => .lss
  | .leq => .geq
  | .geq => .leq
  | op => op
def symInt (op : BinOp) : AV→AV→Option AV
  | .sym,.sym =>
    match op with
    | .eql | .leq | .geq => some (.sc (.bool true))
    | .neq | .lss | .gtr => some (.sc (.bool false))
    | _ => none
  | .sym,.sc (.int .i64 c) => symC op c
  | .sc (.int .i64 c),.sym => symC (flipOp op) c
  | _,_ => none
def symAgg (neg : Bool) (ks : List SK) : AV→AV→Option AV
  | .agg xs,.agg ys => (eqS ks xs ys).map fun r => .sc (.bool (if neg then !r else r))
  | _,_ => none
def symBinA (P : Program) (op : BinOp) (T : TypeId) (a b : AV) : Option AV :=
  match flatK P 12 T with
  | some ks => if P.eqGuardType P.depth T = true then none else
    match op with
    | .eql => symAgg false ks a b
    | .neq => symAgg true ks a b
    | _ => none
  | none => none
def symBin (P : Program) (op : BinOp) (T : TypeId) (a b : AV) : Option AV :=
  match P.underlying T with
  | some (.int _) => symInt op a b
  | some (.struct _) => symBinA P op T a b
  | some (.array _ _) => symBinA P op T a b
  | _ => none
def aop (P : Program) (t : List AV) (H : AHeap) (o : Oper) : Option Eff :=
  match o.op with
  | .move x | .assign x => some (.val (aev t x))
  | .pick c a b =>
    match aev t c with
    | .sc (.bool true) => some (.val (aev t a))
    | .sc (.bool false) => some (.val (aev t b))
    | _ => none
  | .alloc e => if tagB P e = true then none else (azero P e).bind fun z => if AV.ones z.cells then some (.new (.cells z.cells) fun b => .ptr b 0) else none
  | .box T x => if tagB P T = true then none else if AV.ones (aev t x).cells then some (.new (.cells (aev t x).cells) fun b => .ptr b 0) else none
  | .build T parts => (abuild P T (parts.toList.map fun p => (p.1,aev t p.2))).map .val
  | .buildSlice T len parts => abuildSlice P T len (parts.toList.map fun p => (p.1,aev t p.2))
  | .load T a => (aload P T H (aev t a)).map .val
  | .store T a x => astore P T H (aev t a) (aev t x)
  | .nilCheck x =>
    match aev t x with
    | .ptr b off => some (.val (.ptr b off))
    | .iptr cs => some (.val (.iptr cs))
    | .func (.func f) a c => some (.val (.func (.func f) a c))
    | .yield b => some (.val (.yield b))
    | .func (.method n) (.iface T v :: a) c => if (amethod P T n).isSome = true then some (.val (.func (.method n) (.iface T v :: a) c)) else none
    | _ => none
  | .makeFunc fn first captured => some (.val (.func fn (first.toList.map (aev t)) (captured.toList.map (aev t))))
  | .makeSlice T l c => amakeSlice P T (aev t l) (aev t c)
  | .slice T x lo hi mx =>
    match aev t x with
    | .sc (.str _) => aclosed P t o
    | v => if mx.isNone then (aslice P H T t v lo hi).map .val else (aslice3 P T t v lo hi mx).map .val
  | .fieldAddr s x f => (afieldAddr P s (aev t x) f).map .val
  | .field s x f => (afield P s (aev t x) f).map .val
  | .indexAddr T x ix => (aindexAddr P T (aev t x) (aev t ix)).map .val
  | .binOp op T x y _ =>
    if op = .eql∧anil P T (aev t x) (aev t y) = true then some (.val (.sc (.bool false)))
    else if op = .neq∧anil P T (aev t x) (aev t y) = true then some (.val (.sc (.bool true)))
    else (aclosed P t o).or ((symBin P op T (aev t x) (aev t y)).map .val)
  | .extract x ix =>
    match aev t x with
    | .tup vs => (vs[ix]?).map .val
    | _ => none
  | .call c =>
    match c.callee with
    | .value f =>
      match aev t f with
      | .func (.func g) first captured => acallee P g (first ++ c.args.toList.map (aev t) ++ captured)
      | .yield l => some (.yield l (c.args.toList.map (aev t)))
      | _ => none
    | .builtin .len =>
      match c.args.toList.map (aev t),(c.argTypes[0]?).bind (P.underlying ·) with
      | [.slice _ _ len _ _],some (.slice _) => some (.val (.sc (.int .i64 len)))
      | [.imm l],some (.slice _) => some (.val (.sc (.int .i64 l.length)))
      | _,_ => aclosed P t o
    | .builtin .append =>
      match c.args.toList.map (aev t) with
      | [s,x] => aappend P c.argTypes H s x
      | _ => none
    | .builtin .copy =>
      match c.args.toList.map (aev t) with
      | [d,x] => acopy P c.argTypes H d x
      | _ => none
    | .builtin .clear =>
      match c.args.toList.map (aev t) with
      | [x] => aclear P c.argTypes H x
      | _ => none
    | .invoke r name =>
      match aev t r with
      | .iface T v => (amethod P T name).bind fun f => acallee P f (v :: c.args.toList.map (aev t))
      | _ => none
    | _ => aclosed P t o
  | .makeMap T r => amakeMap P T (r.map (aev t))
  | .lookup T x ix ok => (alookup P T H (aev t x) (aev t ix) ok).map .val
  | .mapUpdate T m k x => amapUpdate P T H (aev t m) (aev t k) (aev t x)
  | .convert src dst x => if isBytes P src dst = true then (bytesFrom (aev t x)).map .fzn else aclosed P t o
  | .makeInterface T x =>
    match P.underlying T with
    | some (.interface _) => none
    | some _ => some (.val (.iface T (aev t x)))
    | none => none
  | _ => aclosed P t o
def byteOf : AV→Option UInt8
  | .sc (.int .u8 n) => some (UInt8.ofNat n.toNat)
  | _ => none
def strOf (H : AHeap) (x : AV) : Option AV :=
  match x with
  | .sc _ => none
  | x => (alen x).bind fun m => (asrc 1 H x m).bind fun cs => (cs.mapM byteOf).map fun l => .sc (.str ⟨l.toArray⟩)
def isStrOf (P : Program) (src dst : TypeId) : Bool :=
  match P.underlying src,P.underlying dst with
  | some (.slice e),some .string => (match P.underlying e with | some (.int .u8) => true | _ => false)
  | _,_ => false
def amapLen (P : Program) (t : List AV) (H : AHeap) (o : Oper) : Option Eff :=
  match o.op with
  | .convert src dst x => if isStrOf P src dst = true then (strOf H (aev t x)).map .val else none
  | .alloc e => if tagB P e = true then (azero P e).bind fun z => if AV.ones z.cells then some (.newT (z.cells.length,e) (.cells z.cells) fun b => .ptr b 0) else none else none
  | .box T x => if tagB P T = true then (if AV.ones (aev t x).cells then some (.newT ((aev t x).cells.length,T) (.cells (aev t x).cells) fun b => .ptr b 0) else none) else none
  | .call c =>
    match c.callee with
    | .builtin .len =>
      match c.args.toList,(c.argTypes[0]?).bind (P.underlying ·) with
      | [x],some (.map _ _) =>
        match aev t x with
        | .map b => (H.map b).map fun es => .val (.sc (.int .i64 es.length))
        | _ => none
      | _,_ => none
    | _ => none
  | _ => none
def hasTg (T : TypeId) (b : Nat) : List (Nat × Nat × TypeId)→Bool
  | [] => false
  | (b',n,T') :: l => (b' == b && n == 0 && T' == T) || hasTg T b l
def tagA (T : TypeId) (H : AHeap) : Eff→Eff
  | .new x mk => .newT (0,T) x mk
  | .move mk b x => if hasTg T b H.fr.tg = true then .moveT (0,T) mk b x else .move mk b x
  | e => e
def appEl (P : Program) (o : Oper) : Option TypeId :=
  match o.op with
  | .call c =>
    match c.callee with
    | .builtin .append => (c.argTypes[0]?).bind fun sT => (sliceElem P sT).bind fun e => match P.underlying e with | some (.int .u8) => some e | _ => none
    | _ => none
  | _ => none
def tagE (P : Program) (H : AHeap) (o : Oper) (e : Eff) : Eff :=
  match appEl P o with
  | some T => tagA T H e
  | none => e
def aopM (P : Program) (t : List AV) (H : AHeap) (o : Oper) : Option Eff :=
  match aop P t H o with
  | some e => some (tagE P H o e)
  | none => amapLen P t H o
def putT (t : List AV) (dst : Option Tmp) (v : AV) : List AV :=
  match dst with
  | some d => t.set d v
  | none => t
def awanted (t : List AV) (ops : Array Oper) (o : Oper) : Option Bool :=
  match o.guard with
  | none => some true
  | some (j,want) =>
    match ((ops[j]?).bind (·.dst)).bind (t[·]?) with
    | some (.sc (.bool b)) => some (b == want)
    | some (.sc _) => some false
    | some .poison => none
    | some _ => some false
    | none => some false
inductive AExit where
  | normal
  | exit (id : Nat)
  | ret
inductive Task where
  | call (f : FuncId) (args : List AV)
  | code (c : Code) (t : List AV)
  | loop (c : Code) (t : List AV)
  | yield (l : Nat) (args : List AV)
inductive Out where
  | val (v : AV)
  | ex (e : AExit) (t : List AV)
abbrev Run:=Task→AHeap→Option (Out × AHeap)
mutual
def AV.closedB : AV→Bool
  | .sc _ => true
  | .sym => true
  | .imm l => AV.closedBs l
  | .iptr l => AV.closedBs l
  | .agg l => AV.closedBs l
  | .tup l => AV.closedBs l
  | .iface _ v => AV.closedB v
  | .func _ a c => AV.closedBs a && AV.closedBs c
  | _ => false
def AV.closedBs : List AV→Bool
  | [] => true
  | a :: l => AV.closedB a && AV.closedBs l
end
def rows (n : Nat) : Nat→List AV→List AV
  | 0,_ => []
  | k + 1,cs => (if n = 1 then (cs.headD .poison) else .agg (cs.take n)) :: rows n k (cs.drop n)
def freezeL (fz : AV→AHeap→Option (AV × AHeap)) : List AV→AHeap→Option (List AV × AHeap)
  | [],H => some ([],H)
  | v :: l,H => (fz v H).bind fun r => (freezeL fz l r.2).map fun q => (r.1 :: q.1,q.2)
def freezeV : Nat→AV→AHeap→Option (AV × AHeap)
  | 0,_,_ => none
  | d + 1,v,H =>
    match v with
    | .sc s => some (.sc s,H)
    | .sym => some (.sym,H)
    | .imm xs => some (.imm xs,H)
    | .agg cs => (freezeL (freezeV d) cs H).map fun r => (.agg r.1,r.2)
    | .tup cs => (freezeL (freezeV d) cs H).map fun r => (.tup r.1,r.2)
    | .slice b off len _ n =>
      if len = 0 then some (.imm [],H) else
      match H.cells b with
      | some cs =>
        if n = 0 ∨ off + len * n > cs.length then none else
        (freezeL (freezeV d) ((cs.drop off).take (len * n)) (H.put b none)).map fun r => (.imm (rows n len r.1),r.2.addFr b (List.replicate off .poison ++ r.1))
      | none => (H.frd b).bind fun cs =>
        if n = 0 ∨ off + len * n > cs.length ∨ AV.closedBs ((cs.drop off).take (len * n)) = false then none else
        some (.imm (rows n len ((cs.drop off).take (len * n))),H)
    | _ => none
def freeze (v : AV) (H : AHeap) : Option (AV × AHeap):=freezeV 20 v H
def aresult (P : Program) (t : List AV) (H : AHeap) : ResultVar→Option AV
  | .tmp i => some (t.getD i (.sc .undef))
  | .cell a T => aload P T H (t.getD a (.sc .undef))
def aresults (P : Program) (fn : Func) (t : List AV) (H : AHeap) : Option AV :=
  match fn.results.toList.mapM (aresult P t H) with
  | some [v] => some v
  | some vs => some (.tup vs)
  | none => none
structure Pol where
  pure : FuncId→Bool
  /-- What is known of a call of slices.Insert: its value and the heap behind it. -/
  eff : FuncId→List AV→AHeap→Option (AV × AHeap):=fun _ _ _ => none
def insB (P : Program) (f : FuncId) : Bool :=
  match P.funcs[f]? with
  | some fn =>
    match fn.params.toList,fn.resultTypes.toList with
    | [a,b,c],[d] => a == c && a == d && !(a == b) && (sliceElem P a).isSome
    | [a,b],[d] => match sliceElem P a,P.underlying b with
      | some e,some .string => b == d && e == b
      | some _, some (.int .i64) => a == d && fn.origin == "slices.Grow"
      | none, some (.int .u8) => (match P.underlying a with | some .string => fn.name == "strings.IndexByte" | _ => false)
      | _,_ => false
    | [a], [_, _] => match P.underlying a with | some .string => fn.name == "strconv.Atoi" | some (.pointer _) => fn.name == "hemiola/journal.Open" | _ => false
    | [a], [b] => !(a == b) && (match P.underlying a, P.underlying b with | some (.int .i64), some .string => fn.name == "hemiola/hemiolalaw48.decimal" || fn.name == "strconv.Itoa" || fn.name == "hemiola/hemiolalaw55.decimal" | some (.pointer _), some .string => fn.name == "(*strings.Builder).String" | some (.pointer _), some (.int _) => fn.name == "(*hemiola/journal.Journal).Sync" | _, _ => false)
    | [a], [] => (match P.underlying a with | some (.pointer _) => fn.name == "(*strings.Builder).copyCheck" || ["(*hemiola/check.checker).limits", "(*hemiola/check.checker).ids", "(*hemiola/check.checker).structure", "(*hemiola/check.checker).clefs", "(*hemiola/check.checker).metres", "(*hemiola/check.checker).voices", "(*hemiola/check.checker).tuplets", "(*hemiola/check.checker).events", "(*hemiola/check.checker).pitches", "(*hemiola/check.checker).ties", "(*hemiola/check.checker).lyrics", "(*hemiola/check.checker).ends", "(*hemiola/check.checker).nesting", "(*hemiola/check.checker).repeats", "(*hemiola/check.checker).jumps", "(*hemiola/check.checker).tempi", "(*hemiola/check.checker).margins"].contains fn.name | _ => false)
    | [a, b], [_, _] => (match P.underlying a, P.underlying b with | some (.pointer _), some .string => fn.name == "(*hemiola/journal.Journal).Append" | _, _ => false)
    | _,_ => false
  | none => false
def AV.isSc : AV→Bool
  | .sc _ => true
  | _ => false
def AV.flat2 : AV→Bool
  | .agg cs => cs.all AV.isSc
  | v => v.isSc
def AV.flatB : AV→Bool
  | .tup cs => cs.all AV.flat2
  | v => v.flat2
def doCall (pol : Pol) (rec : Run) (f : FuncId) (args : List AV) (H : AHeap) : Option (AV × AHeap) :=
  if pol.pure f && AV.closedBs args then
    match rec (.call f args) {} with
    | some (.val v,H') =>
      match freeze v H' with
      | some (v',_) => if AV.closedB v' then some (v',H) else none
      | none => none
    | _ => none
  else if pol.pure f then
    match freezeL (freezeV 20) args H with
    | some (args',H0) =>
      if AV.closedBs args' then
        match rec (.call f args') {} with
        | some (.val v,H') =>
          match freeze v H' with
          | some (v',_) => if AV.closedB v' then some (v',if v'.flatB then H else H0) else none
          | none => none
        | _ => none
      else none
    | none =>
      match rec (.call f args) H with
      | some (.val v,H') => some (v,H')
      | _ => none
  else
    match rec (.call f args) H with
    | some (.val v,H') => some (v,H')
    | _ => none
def doEff (pol : Pol) (rec : Run) (t : List AV) (dst : Option Tmp) (H : AHeap) : Eff→Option (List AV × AHeap)
  | .val v => some (putT t dst v,H)
  | .new x mk => some (putT t dst (mk H.next),H.alloc x)
  | .mem v b x => some (putT t dst v,H.put b (some (.cells x)))
  | .memM v b es => some (putT t dst v,H.put b (some (.map es)))
  | .fzn v => some (putT t dst v,H)
  | .newT T x mk => some (putT t dst (mk H.next),(H.alloc x).addTg H.next T)
  | .move mk b x => some (putT t dst (mk H.next),(H.put b none).alloc (.cells x))
  | .moveT T mk b x => some (putT t dst (mk H.next),((H.put b none).alloc (.cells x)).addTg H.next T)
  | .call f args => (doCall pol rec f args H).map fun r => (putT t dst r.1,r.2)
  | .yield l args =>
    match rec (.yield l args) H with
    | some (.val v,H') => some (putT t dst v,H')
    | _ => none
def plainOp : Op→Bool
  | .select .. | .defer _ => false
  | _ => true
def doOp (P : Program) (pol : Pol) (rec : Run) (ops : Array Oper) (o : Oper) (t : List AV) (H : AHeap) : Option (List AV × AHeap) :=
  match awanted t ops o with
  | some true => if plainOp o.op then (aopM P t H o).bind fun e => doEff pol rec t o.dst H e else none
  | some false => some (putT t o.dst (.sc .undef),H)
  | none => none
def doOps (P : Program) (pol : Pol) (rec : Run) (ops : Array Oper) : List Oper→List AV→AHeap→Option (List AV × AHeap)
  | [],t,H => some (t,H)
  | o :: os,t,H => (doOp P pol rec ops o t H).bind fun r => doOps P pol rec ops os r.1 r.2
def setParams (t : List AV) : List Tmp→List AV→Option (List AV)
  | [],[] => some t
  | p :: ps,a :: as => setParams (t.set p a) ps as
  | _,_ => none
def jumpOf : AExit→Option Code
  | .normal => none
  | .exit id => some (.exit id)
  | .ret => some .ret
def doYield (rec : Run) (l : Nat) (args : List AV) (H : AHeap) : Option (Out × AHeap) :=
  match H.get l with
  | some (.loop .ready _ t ps a b) =>
    (setParams t ps args).bind fun t0 =>
    match rec (.code a t0) H with
    | some (.ex .normal t1,H1) =>
      match H1.get l with
      | some (.loop .ready pe' t' ps' a' b') =>
        match rec (.code b t1) (H1.put l (some (.loop .busy pe' t' ps' a' b'))) with
        | some (.ex e _,H2) =>
          match H2.get l with
          | some (.loop _ _ t'' ps'' a'' b'') =>
            some (.val (.sc (.bool (jumpOf e).isNone)),H2.put l (some (.loop (if (jumpOf e).isNone then .ready else .done) (jumpOf e) t'' ps'' a'' b'')))
          | _ => none
        | _ => none
      | _ => none
    | _ => none
  | _ => none
def exitOf : Option Code→Option AExit
  | none => some .normal
  | some .ret => some .ret
  | some (.exit id) => some (.exit id)
  | _ => none
def doRange (P : Program) (rec : Run) (f : Operand) (ps : List Tmp) (a b : Code) (t : List AV) (H : AHeap) : Option (Out × AHeap) :=
  match aev t f with
  | .func (.func g) first captured =>
    match acallee P g (first ++ [.yield H.next] ++ captured) with
    | some (.call g' args) =>
      match rec (.call g' args) (H.alloc (.loop .ready none t ps a b)) with
      | some (.val _,H1) =>
        match H1.get H.next with
        | some (.loop st pe t' ps' a' b') =>
          if st = .busy then none else
          (exitOf pe).map fun e => (.ex e t,H1.put H.next (some (.loop .exhausted pe t' ps' a' b')))
        | _ => none
      | _ => none
    | _ => none
  | _ => none
abbrev DrawF:=List AV→AHeap→Array Oper→Option (List AV × AHeap)
def doCode (P : Program) (pol : Pol) (draw : Run→DrawF) (rec : Run) (t : List AV) (H : AHeap) : Code→Option (Out × AHeap)
  | .skip => some (.ex .normal t,H)
  | .label _ => some (.ex .normal t,H)
  | .region _ ops false => (doOps P pol rec ops ops.toList t H).map fun r => (.ex .normal r.1,r.2)
  | .region _ ops true => (draw rec t H ops).map fun r => (.ex .normal r.1,r.2)
  | .seq a b =>
    match rec (.code a t) H with
    | some (.ex .normal t1,H1) => rec (.code b t1) H1
    | r => r
  | .cond c a b =>
    match aev t c with
    | .sc (.bool true) => rec (.code a t) H
    | .sc (.bool false) => rec (.code b t) H
    | _ => none
  | .block id b =>
    match rec (.code b t) H with
    | some (.ex (.exit id') t1,H1) => if id' = id then some (.ex .normal t1,H1) else some (.ex (.exit id') t1,H1)
    | r => r
  | .loop b => rec (.loop b t) H
  | .scope b => rec (.code b t) H
  | .exit id => some (.ex (.exit id) t,H)
  | .ret => some (.ex .ret t,H)
  | .rangeFunc f ps a b => doRange P rec f ps.toList a b t H
  | _ => none
def stepTask (P : Program) (pol : Pol) (draw : Run→DrawF) (rec : Run) : Run
  | .call f args,H =>
    if insB P f then (pol.eff f args H).map fun r => (.val r.1,r.2) else
    match P.funcs[f]? with
    | some fn =>
      match fn.body with
      | some c =>
        match rec (.code c (args ++ List.replicate (fn.ntmps - args.length) (.sc .undef))) H with
        | some (.ex .normal t,H') => (aresults P fn t H').map fun v => (.val v,H')
        | some (.ex .ret t,H') => (aresults P fn t H').map fun v => (.val v,H')
        | _ => none
      | none => none
    | none => none
  | .code c t,H => doCode P pol draw rec t H c
  | .loop c t,H =>
    match rec (.code c t) H with
    | some (.ex .normal t1,H1) => rec (.loop c t1) H1
    | r => r
  | .yield l args,H => doYield rec l args H
def heapless : Op→Bool
  | .load .. | .store .. | .slice .. | .lookup .. | .mapUpdate .. => false
  | .call c =>
    match c.callee with
    | .value _ | .invoke .. | .builtin .append | .builtin .copy | .builtin .clear => false
    | _ => true
  | _ => true
def readerKind : Op→Bool
  | .load .. | .slice .. | .lookup .. => true
  | _ => false
def isW (o : Oper) : Bool:=!heapless o.op && !readerKind o.op
def edgesMask (o : Oper) (M : List Nat) : Nat:=o.after.toList.foldl (fun s e => if Region.binds .any e then s ||| 2 ^ e.on ||| M.getD e.on 0 else s) 0
def looks (ops : Array Oper) (o : Oper) : List Tmp :=
  (o.op.operands.toList.filterMap fun | .tmp t => some t | _ => none) ++
  (match o.guard with
   | some (g,_) => ((ops[g]?).bind (·.dst)).toList
   | none => [])
def clash (ops : Array Oper) (x y : Oper) : Bool :=
  (match x.dst with
   | some d => (looks ops y).contains d || y.dst == some d
   | none => false) ||
  (match y.dst with
   | some d => (looks ops x).contains d
   | none => false)
structure Plan where
  ord : List Nat
  masks : List Nat
def readyAt (o : Oper) (done : List Nat) : Bool:=o.after.toList.all fun e => !Region.binds .any e || done.contains e.on
def pick (ops : List (Nat × Oper)) (done : List Nat) (f : Oper→Bool) : Option Nat:=(ops.find? fun x => !done.contains x.1 && f x.2 && readyAt x.2 done).map (·.1)
def mkOrd (ops : List (Nat × Oper)) : Nat→List Nat→List Nat
  | 0,done => done.reverse
  | n + 1,done =>
    match pick ops done (fun o => !isW o) with
    | some i => mkOrd ops n (i :: done)
    | none =>
      match pick ops done isW with
      | some i => mkOrd ops n (i :: done)
      | none => done.reverse
def mkPlan (ops : Array Oper) : Plan :=
  let ord:=mkOrd (ops.toList.zipIdx.map fun x => (x.2,x.1)) ops.size []
  ⟨ord,ord.foldl (fun M j => match ops[j]? with | some o => M.set j (edgesMask o M) | none => M) (List.replicate ops.size 0)⟩
def planOk (ops : Array Oper) (M : List Nat) : List Nat→List (Nat × Oper)→Bool
  | [],_ => true
  | j :: rest,done =>
    match ops[j]? with
    | some o =>
      done.all (fun x => x.1 != j) && readyAt o (done.map (·.1)) && (M.getD j 0 == edgesMask o M) &&
      done.all (fun x => !(clash ops x.2 o || isW x.2) || (M.getD j 0).testBit x.1) && planOk ops M rest ((j,o) :: done)
    | none => false
def doEffV (pol : Pol) (rec : Run) (H : AHeap) : Eff→Option (AV × AHeap)
  | .val v => some (v,H)
  | .new x mk => some (mk H.next,H.alloc x)
  | .mem v b x => some (v,H.put b (some (.cells x)))
  | .memM v b es => some (v,H.put b (some (.map es)))
  | .fzn v => some (v,H)
  | .newT T x mk => some (mk H.next,(H.alloc x).addTg H.next T)
  | .move mk b x => some (mk H.next,(H.put b none).alloc (.cells x))
  | .moveT T mk b x => some (mk H.next,((H.put b none).alloc (.cells x)).addTg H.next T)
  | .call f args => doCall pol rec f args H
  | .yield l args =>
    match rec (.yield l args) H with
    | some (.val v,H') => some (v,H')
    | _ => none
def isVal : Eff→Bool
  | .val _ => true
  | _ => false
def isNew : Eff→Bool
  | .new .. => true
  | .fzn _ => true
  | _ => false
def doOpV (P : Program) (pol : Pol) (rec : Run) (ops : Array Oper) (o : Oper) (t : List AV) (H : AHeap) : Option (AV × AHeap) :=
  match awanted t ops o with
  | some true =>
    if plainOp o.op then
      match aop P t H o with
      | some e => if (heapless o.op && (isVal e || isNew e)) || (readerKind o.op && isVal e) || isW o then doEffV pol rec H (tagE P H o e) else none
      | none => none
    else none
  | some false => some (.sc .undef,H)
  | none => none
structure Met where
  j : Nat
  v : AV
  t : List AV
  H : AHeap
def nextH : List Met→AHeap→AHeap
  | m :: _,_ => m.H
  | [],last => last
def steady (P : Program) (ops : Array Oper) (M : List Nat) (j : Nat) (o : Oper) (v : AV) (t : List AV) : List Met→AHeap→Bool
  | [],_ => true
  | m :: rest,last =>
    (match ops[m.j]? with
     | some o' =>
       if isW o' then
         (if (M.getD m.j 0).testBit j then true
          else
            (match awanted t ops o with
             | some true =>
               match aop P t (nextH rest last) o with
               | some (.val v') => AV.beq v' v
               | _ => false
             | _ => true) && steady P ops M j o v t rest last)
       else steady P ops M j o v t rest last
     | none => false)
def steadyAll (P : Program) (ops : Array Oper) (M : List Nat) : List Met→AHeap→Bool
  | [],_ => true
  | m :: rest,last =>
    (match ops[m.j]? with
     | some o => if readerKind o.op then steady P ops M m.j o m.v m.t rest last else true
     | none => false) && steadyAll P ops M rest last
def traceOps (P : Program) (pol : Pol) (rec : Run) (ops : Array Oper) : List Nat→List AV→AHeap→Option (List Met × List AV × AHeap)
  | [],t,H => some ([],t,H)
  | j :: rest,t,H => do
    let o ← ops[j]?
    let r ← doOpV P pol rec ops o t H
    let q ← traceOps P pol rec ops rest (putT t o.dst r.1) r.2
    some (⟨j,r.1,t,H⟩ :: q.1,q.2.1,q.2.2)
def doDraw (P : Program) (pol : Pol) (rec : Run) (t : List AV) (H : AHeap) (ops : Array Oper) : Option (List AV × AHeap) :=
  let p:=mkPlan ops
  if p.ord.length ≤ ops.size∧planOk ops p.masks p.ord [] = true∧((List.range ops.size).all fun j => p.ord.contains j) = true then
    match traceOps P pol rec ops p.ord t H with
    | some (tr,t',H') => if steadyAll P ops p.masks tr H' then some (t',H') else none
    | none => none
  else none
def runD (P : Program) (pol : Pol) (draw : Run→DrawF) : Nat→Run
  | 0 => fun _ _ => none
  | n + 1 => stepTask P pol draw (runD P pol draw n)
abbrev run (P : Program) (pol : Pol) (n : Nat) : Run:=runD P pol (doDraw P pol) n
end Go.Hem
