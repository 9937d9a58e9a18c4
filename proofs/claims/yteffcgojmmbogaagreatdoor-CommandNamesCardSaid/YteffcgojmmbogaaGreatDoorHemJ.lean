import Derived.Test.YteffcgojmmbogaaGreatDoorHemI
set_option linter.unusedSimpArgs false
set_option linter.unusedVariables false
namespace Go.Hem
def fr (b : Frame) (a : Array Value) (todo : List Item) : Frame:={ b with tmps:=a,todo:=todo,mode:=.run }
section
variable {P : Program} {b : Frame} {a : Array Value} {k : List Item} {cs : List Frame} {w : World}
theorem st_skip : step P (lone (fr b a (.code .skip :: k)) cs w) = .next (lone (fr b a k) cs w) :=
  step_lone_go (by simp [stepG,stepG.exec,fr])
theorem st_label {l : Nat} : step P (lone (fr b a (.code (.label l) :: k)) cs w) = .next (lone (fr b a k) cs w) :=
  step_lone_go (by simp [stepG,stepG.exec,fr])
theorem st_inBlock {id : Nat} : step P (lone (fr b a (.inBlock id :: k)) cs w) = .next (lone (fr b a k) cs w) :=
  step_lone_go (by simp [stepG,stepG.exec,fr])
theorem st_inScope {c : Code} : step P (lone (fr b a (.inScope c :: k)) cs w) = .next (lone (fr b a k) cs w) :=
  step_lone_go (by simp [stepG,stepG.exec,fr])
theorem st_seq {x y : Code} : step P (lone (fr b a (.code (.seq x y) :: k)) cs w) = .next (lone (fr b a (.code x :: .code y :: k)) cs w) :=
  step_lone_go (by simp [stepG,stepG.exec,fr])
theorem st_cond {c : Operand} {x y : Code} {t : Bool} (h : (fr b a k).eval c = .bool t) :
    step P (lone (fr b a (.code (.cond c x y) :: k)) cs w) = .next (lone (fr b a (.code (if t then x else y) :: k)) cs w) :=
  step_lone_go (by
    have : (fr b a (.code (.cond c x y) :: k)).eval c = .bool t:=by rw [← h]; cases c <;> rfl
    simp only [fr] at this
    simp [stepG,stepG.exec,fr,this])
theorem st_block {id : Nat} {c : Code} : step P (lone (fr b a (.code (.block id c) :: k)) cs w) = .next (lone (fr b a (.code c :: .inBlock id :: k)) cs w) :=
  step_lone_go (by simp [stepG,stepG.exec,fr])
theorem st_loop {c : Code} : step P (lone (fr b a (.code (.loop c) :: k)) cs w) = .next (lone (fr b a (.code c :: .inLoop c :: k)) cs w) :=
  step_lone_go (by simp [stepG,stepG.exec,fr])
theorem st_inLoop {c : Code} : step P (lone (fr b a (.inLoop c :: k)) cs w) = .next (lone (fr b a (.code c :: .inLoop c :: k)) cs w) :=
  step_lone_go (by simp [stepG,stepG.exec,fr])
theorem st_scope {c : Code} : step P (lone (fr b a (.code (.scope c) :: k)) cs w) = .next (lone (fr b a (.code c :: .inScope c :: k)) cs w) :=
  step_lone_go (by simp [stepG,stepG.exec,fr])
theorem st_exit {id : Nat} {k' : List Item} (h : exitTo id k = some k') : step P (lone (fr b a (.code (.exit id) :: k)) cs w) = .next (lone (fr b a k') cs w) :=
  step_lone_go (by simp [stepG,stepG.exec,fr,h])
theorem st_ret (hr : b.roundOf = none) : step P (lone (fr b a (.code .ret :: k)) cs w) = .next (lone { fr b a (.code .ret :: k) with mode:=.returning } cs w) :=
  step_lone_go (by simp [stepG,stepG.exec,fr,hr])
theorem st_end (hr : b.roundOf = none) : step P (lone (fr b a []) cs w) = .next (lone { fr b a [] with mode:=.returning } cs w) :=
  step_lone_go (by simp [stepG,stepG.exec,fr,hr])
theorem st_region {id : Nat} {ops : Array Oper} : step P (lone (fr b a (.code (.region id ops false) :: k)) cs w) = .next (lone (fr b a (.inRegion ops (List.range ops.size) :: k)) cs w) :=
  step_lone_go (by simp [stepG,stepG.exec,fr])
theorem st_region_draw {id : Nat} {ops : Array Oper} : step P (lone (fr b a (.code (.region id ops true) :: k)) cs w) =
    .next (lone (fr b a (.inRegion ops (Region.schedule (P.follows .mixedOrders) ops (w.tape w.drawn (.order b.fn id))) :: k)) cs w.drew) :=
  step_lone_go (by simp [stepG,stepG.exec,fr,choose,Sem.run,Question.forced,Question.cut])
theorem st_region_end {ops : Array Oper} : step P (lone (fr b a (.inRegion ops [] :: k)) cs w) = .next (lone (fr b a k) cs w) :=
  step_lone_go (by simp [stepG,stepG.exec,fr])
theorem fr_eval (b : Frame) (a : Array Value) (k k' : List Item) (x : Operand) : (fr b a k).eval x = (fr b a k').eval x:=by cases x <;> rfl
def putV (a : Array Value) (dst : Option Tmp) (v : Value) : Array Value :=
  match dst with
  | some d => a.setIfInBounds d v
  | none => a
theorem finish_fr {ops : Array Oper} {i : Nat} {rest : List Nat} {o : Oper} (ho : ops[i]? = some o) (v : Value) :
    (fr b a (.inRegion ops (i :: rest) :: k)).finish v = fr b (putV a o.dst v) (.inRegion ops rest :: k):=by
  cases h : o.dst <;> simp [Frame.finish,fr,putV,ho,h]
theorem st_op_skip {ops : Array Oper} {i : Nat} {rest : List Nat} {o : Oper} (ho : ops[i]? = some o) (h : Region.wanted o (yielded ops a) = false) :
    step P (lone (fr b a (.inRegion ops (i :: rest) :: k)) cs w) = .next (lone (fr b (putV a o.dst undef) (.inRegion ops rest :: k)) cs w):=by
  rw [← finish_fr ho]
  exact step_lone_go (by simp [stepG,stepG.exec,fr,ho,h])
theorem stG_op {ops : Array Oper} {i : Nat} {rest : List Nat} {o : Oper} (ho : ops[i]? = some o) (hw : Region.wanted o (yielded ops a) = true) (hp : plainOp o.op = true) :
    stepG P true { frame:=fr b a (.inRegion ops (i :: rest) :: k),callers:=cs,status:=.running,dying:=none } w =
      stepG.apply P true (fr b a (.inRegion ops (i :: rest) :: k)) cs none (execOp (fr b a []).eval o) w:=by
  have he : (fr b a (.inRegion ops (i :: rest) :: k)).eval = (fr b a []).eval:=funext fun x => fr_eval b a _ _ x
  simp only [fr] at he
  have hd : ∀ c,o.op ≠ .defer c:=fun c e => by rw [e] at hp; cases hp
  simp only [stepG,stepG.exec,fr,ho,Option.map_some,Option.getD_some,hw,if_true,stepG.oper,Frame.oper?]
  split
  · rename_i l c h1 h2; exact absurd h2 (hd c)
  · rw [he]
theorem st_op_val {ops : Array Oper} {i : Nat} {rest : List Nat} {o : Oper} {n : Next} {v : Value} {w' : World} (ho : ops[i]? = some o) (hw : Region.wanted o (yielded ops a) = true) (hp : plainOp o.op = true)
    (hr : (execOp (fr b a []).eval o).run P w = .ok n w') (hn : n = .value v ∨ (n = .skip∧v = undef)) :
    step P (lone (fr b a (.inRegion ops (i :: rest) :: k)) cs w) = .next (lone (fr b (putV a o.dst v) (.inRegion ops rest :: k)) cs w'):=by
  rw [← finish_fr ho]
  refine step_lone_go ?_
  rw [stG_op ho hw hp]
  rcases hn with rfl | ⟨rfl,rfl⟩ <;> simp [stepG.apply,hr]
theorem st_op_enter {ops : Array Oper} {i : Nat} {rest : List Nat} {o : Oper} {f : FuncId} {args : Array Value} {w' : World} (ho : ops[i]? = some o) (hw : Region.wanted o (yielded ops a) = true) (hp : plainOp o.op = true)
    (hr : (execOp (fr b a []).eval o).run P w = .ok (.enter f args) w') :
    step P (lone (fr b a (.inRegion ops (i :: rest) :: k)) cs w) = .next (lone (Frame.enter P f args .normal) (fr b a (.inRegion ops (i :: rest) :: k) :: cs) w') :=
  step_lone_go (by
    have hF : (fr b a (.inRegion ops (i :: rest) :: k)).todo = .inRegion ops (i :: rest) :: k:=rfl
    rw [stG_op ho hw hp]
    generalize fr b a (.inRegion ops (i :: rest) :: k) = F at hF ⊢
    simp [stepG.apply,hr,hF])
theorem st_op_round {ops : Array Oper} {i : Nat} {rest : List Nat} {o : Oper} {l : Nat} {f : FuncId} {tmps : Array Value} {as bo : Code} {w' : World} (ho : ops[i]? = some o) (hw : Region.wanted o (yielded ops a) = true) (hp : plainOp o.op = true)
    (hr : (execOp (fr b a []).eval o).run P w = .ok (.round l f tmps as bo) w') :
    step P (lone (fr b a (.inRegion ops (i :: rest) :: k)) cs w) = .next (lone (Frame.round l f tmps as bo .normal) (fr b a (.inRegion ops (i :: rest) :: k) :: cs) w') :=
  step_lone_go (by rw [stG_op ho hw hp]; simp [stepG.apply,hr])
end
end Go.Hem
