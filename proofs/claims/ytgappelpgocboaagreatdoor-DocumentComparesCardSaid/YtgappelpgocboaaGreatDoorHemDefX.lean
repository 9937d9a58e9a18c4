/- Joined. -/
import Derived.Test.YtgappelpgocboaaGreatDoorHemFall
import Derived.Defers
import Derived.Test.YtgappelpgocboaaGreatDoorHemFast
set_option linter.unusedVariables false
set_option linter.unusedSimpArgs false
namespace Go.Hem
section
variable {P : Program} {B : World} {pol : Pol} {rec : Run}
def adefer (P : Program) (t : List AV) (c : Call) : Option (FuncId × List AV) :=
  match c.callee with
  | .value f =>
    match aev t f with
    | .func (.func g) first captured =>
      match acallee P g (first ++ c.args.toList.map (aev t) ++ captured) with
      | some (.call g' as) => some (g',as)
      | _ => none
    | _ => none
  | _ => none
def deferOf : Code→Option (Array Oper × List Oper × Oper × Call)
  | .region _ ops false =>
    match ops.toList.getLast? with
    | some o =>
      match o.op,o.guard with
      | .defer c,none => some (ops,ops.toList.dropLast,o,c)
      | _,_ => none
    | none => none
  | _ => none
def defLeaf (rec : Run) (c : Code) (t : List AV) (H : AHeap) : Option (AExit × List AV × AHeap × Option (FuncId × List AV)) :=
  match rec (.code c t) H with
  | some (.ex .normal t1,H1) => some (.normal,t1,H1,none)
  | some (.ex .ret t1,H1) => some (.ret,t1,H1,none)
  | _ => none
def defCode (P : Program) (pol : Pol) (rec : Run) : Code→List AV→AHeap→Option (AExit × List AV × AHeap × Option (FuncId × List AV))
  | .seq x y,t,H =>
    match deferOf x with
    | some (ops,os,o,c) =>
      (doOps P pol rec ops os t H).bind fun r => (adefer P r.1 c).bind fun d =>
        match rec (.code y (putT r.1 o.dst (.sc .undef))) r.2 with
        | some (.ex e t2,H2) => some (e,t2,H2,some d)
        | _ => none
    | none =>
      match rec (.code x t) H with
      | some (.ex .normal t1,H1) => defCode P pol rec y t1 H1
      | some (.ex .ret t1,H1) => some (.ret,t1,H1,none)
      | _ => none
  | c,t,H => defLeaf rec c t H
def isEnd : AExit→Bool
  | .normal => true
  | .ret => true
  | .exit _ => false
def defRest (P : Program) (rec : Run) (g : FuncId) (as : List AV) (H : AHeap) : Option AHeap :=
  match P.funcs[g]? with
  | some fn =>
    match fn.body with
    | some c =>
      match rec (.code c (as ++ List.replicate (fn.ntmps - as.length) (.sc .undef))) H with
      | some (.ex e t,H') => if isEnd e = true then (aresults P fn t H').map fun _ => H' else none
      | _ => none
    | none => none
  | none => none
def defCall (P : Program) (pol : Pol) (rec : Run) (f : FuncId) (args : List AV) (H : AHeap) : Option (AV × AHeap) :=
  match P.funcs[f]? with
  | some fn =>
    match fn.body with
    | some c =>
      match defCode P pol rec c (args ++ List.replicate (fn.ntmps - args.length) (.sc .undef)) H with
      | some (e,t,H1,none) => if isEnd e = true then (aresults P fn t H1).map fun v => (v,H1) else none
      | some (e,t,H1,some (g,as)) => if isEnd e = true then (defRest P rec g as H1).bind fun H2 => (aresults P fn t H2).map fun v => (v,H2) else none
      | none => none
    | none => none
  | none => none
theorem st_op_defer {b : Frame} {a : Array Value} {k : List Item} {cs : List Frame} {w : World} {ops : Array Oper} {i : Nat} {rest : List Nat} {o : Oper} {c : Call} {d : Deferred} (hr0 : b.roundOf = none) (ho : ops[i]? = some o) (hw : Region.wanted o (yielded ops a) = true) (hop : o.op = .defer c)
    (h : (resolve (fr b a []).eval c o.type).run P w = .ok d w) :
    step P (lone (fr b a (.inRegion ops (i :: rest) :: k)) cs w) = .next (lone (fr { b with defers:=d :: b.defers } (putV a o.dst undef) (.inRegion ops rest :: k)) cs w):=by
  have he : (fr b a (.inRegion ops (i :: rest) :: k)).eval = (fr b a []).eval:=funext fun x => fr_eval b a _ _ x
  have hf:=finish_fr (b:={ b with defers:=d :: b.defers }) (a:=a) (k:=k) (rest:=rest) ho undef
  rw [← hf]
  simp only [fr] at he h
  refine step_lone_go ?_
  simp only [stepG,stepG.exec,fr,ho,Option.map_some,Option.getD_some,hw,if_true,stepG.oper,Frame.oper?]
  split
  · rename_i l c h1 h2
    rw [hr0] at h1; cases h1
  · rw [he]
    simp [stepG.apply,execOp,hop,h]
theorem doOps_pre (hrec : RecOK P B rec) {ops : Array Oper} (tl : List Nat) : ∀ (os : List Oper) (i : Nat),(∀ j,j < os.length→os[j]? = ops[i + j]?)→∀ {t t' : List AV} {H H' : AHeap},
    doOps P pol rec ops os t H = some (t',H')→H.next ≤ H'.next∧∀ G w a b k cs,Sim B G H w→Clear G H.next H'.next→LR G t a→∃ G' w' a',Sim B G' H' w'∧Step G H w G' H' w'∧LR G' t' a' ∧
      Steps P (lone (fr b a (.inRegion ops (List.range' i os.length ++ tl) :: k)) cs w) (lone (fr b a' (.inRegion ops tl :: k)) cs w')
  | [],i,hi,t,t',H,H',h => by
    simp [doOps] at h
    obtain ⟨rfl,rfl⟩:=h
    exact ⟨Nat.le_refl _,fun G w a b k cs hS hC hL => ⟨G,w,a,hS,Step.refl _ _ _,hL,.refl _ _⟩⟩
  | o :: os,i,hi,t,t',H,H',h => by
    simp only [doOps,Option.bind_eq_some_iff] at h
    obtain ⟨⟨t1,H1⟩,h1,h2⟩:=h
    obtain ⟨l1,k1⟩:=doOp_ok hrec h1
    obtain ⟨l2,k2⟩:=doOps_pre hrec tl os (i + 1) (fun j hj => by have:=hi (j + 1) (by simpa using hj); simp at this; rw [this]; congr 1; omega) h2
    refine ⟨Nat.le_trans l1 l2,fun G w a b k cs hS hC hL => ?_⟩
    obtain ⟨G1,w1,a1,s1,e1,r1,st1⟩:=k1 G w a b k cs i (List.range' (i + 1) os.length ++ tl) (by have:=hi 0 (by simp); simpa using this.symm) hS (hC.mono l2) hL
    obtain ⟨G2,w2,a2,s2,e2,r2,st2⟩:=k2 G1 w1 a1 b k cs s1 (hC.step e1) r1
    exact ⟨G2,w2,a2,s2,e1.trans e2,r2,by simpa [List.range'_succ] using st1.trans st2⟩
theorem deferOf_spec {x : Code} {ops : Array Oper} {os : List Oper} {o : Oper} {c : Call} (h : deferOf x = some (ops,os,o,c)) : (∃ id,x = .region id ops false)∧ops.toList = os ++ [o]∧o.op = .defer c∧o.guard = none:=by
  unfold deferOf at h
  split at h
  rotate_left
  · cases h
  rename_i id ops'
  split at h
  rotate_left
  · cases h
  rename_i o' ho
  split at h
  rotate_left
  · cases h
  rename_i c' h1 h2
  simp only [Option.some.injEq,Prod.mk.injEq] at h
  obtain ⟨rfl,rfl,rfl,rfl⟩:=h
  obtain ⟨ys,e⟩:=List.getLast?_eq_some_iff.1 ho
  exact ⟨⟨id,rfl⟩,by rw [e]; simp,h1,h2⟩
def DEnd (P : Program) (rs : List Nat) (G : Gh) (H : AHeap) (w : World) (G' : Gh) (H' : AHeap) (w' : World) : Option (FuncId × List AV)→List Deferred→Prop
  | none,ds => ∃ rs',ds = marks rs'∧rs'.Nodup∧∀ r ∈ rs',Pin G' H' w' r∧(r ∈ rs ∨ w.heap.size ≤ r)
  | some (g,as),ds => ∃ rs1 rs2 dd fv cap G0 H0 w0,ds = marks rs2 ++ dd :: marks rs1∧dd.target = .fn fv cap∧Step G H w G0 H0 w0∧Step G0 H0 w0 G' H' w'∧rs1.Nodup∧rs2.Nodup∧(∀ r ∈ rs1,Pin G0 H0 w0 r∧(r ∈ rs ∨ w.heap.size ≤ r))∧(∀ r ∈ rs2,Pin G' H' w' r∧w0.heap.size ≤ r) ∧
      ∀ w2,∃ args' : Array Value,(invoke dd.target dd.args).run P w2 = .ok (.enter g args') w2∧VRs G0 as args'.toList
theorem DEnd.from {P : Program} {rs rs1 : List Nat} {G G1 G' : Gh} {H H1 H' : AHeap} {w w1 w' : World} {d : Option (FuncId × List AV)} {ds : List Deferred} (h : DEnd P rs1 G1 H1 w1 G' H' w' d ds) (e1 : Step G H w G1 H1 w1) (p1 : ∀ r ∈ rs1,Pin G1 H1 w1 r∧(r ∈ rs ∨ w.heap.size ≤ r)) : DEnd P rs G H w G' H' w' d ds:=by
  have hx : ∀ r,(r ∈ rs1 ∨ w1.heap.size ≤ r)→(r ∈ rs ∨ w.heap.size ≤ r):=fun r q => by
    rcases q with q | q
    · exact (p1 r q).2
    · exact .inr (Nat.le_trans e1.size q)
  cases d with
  | none =>
    obtain ⟨rs',h1,h2,h3⟩:=h
    exact ⟨rs',h1,h2,fun r hr => ⟨(h3 r hr).1,hx r (h3 r hr).2⟩⟩
  | some d =>
    obtain ⟨g,as⟩:=d
    obtain ⟨ra,rb,dd,fv,cap,G0,H0,w0,h1,h2,h3,h4,h5,h6,h7,h8,h9⟩:=h
    exact ⟨ra,rb,dd,fv,cap,G0,H0,w0,h1,h2,e1.trans h3,h4,h5,h6,fun r hr => ⟨(h7 r hr).1,hx r (h7 r hr).2⟩,h8,h9⟩
theorem adefer_sim {G : Gh} {t : List AV} {a : Array Value} {b : Frame} (hL : LR G t a) {c : Call} {g : FuncId} {as : List AV} (h : adefer P t c = some (g,as)) (ty : TypeId) :
    ∃ dd fv cap,dd.target = .fn fv cap∧(∀ w,(resolve (fr b a []).eval c ty).run P w = .ok dd w)∧∀ w2,∃ args' : Array Value,(invoke dd.target dd.args).run P w2 = .ok (.enter g args') w2∧VRs G as args'.toList:=by
  unfold adefer at h
  split at h
  rotate_left
  · cases h
  rename_i f hc
  split at h
  rotate_left
  · cases h
  rename_i g0 first captured hf
  split at h
  rotate_left
  · cases h
  rename_i g' as' hac
  simp only [Option.some.injEq,Prod.mk.injEq] at h
  obtain ⟨rfl,rfl⟩:=h
  have hv:=hf ▸ hL.eval b [] f
  obtain ⟨f',c',hr,k3,k4,k5,k6⟩ : ∃ f' c' : List Value,(fr b a []).eval f = .func (.func g0) f'.toArray c'.toArray∧first.length = f'.length∧captured.length = c'.length ∧
      (∀ i (h : i < first.length) (h' : i < f'.length),VR G (first[i]) (f'[i]))∧(∀ i (h : i < captured.length) (h' : i < c'.length),VR G (captured[i]) (c'[i])):=by
    cases hr : (fr b a []).eval f <;> rw [hr] at hv <;> cases hv
    exact ⟨_,_,rfl,by assumption,by assumption,by assumption,by assumption⟩
  have hmid : VRs G (c.args.toList.map (aev t)) (c.args.map (fr b a []).eval).toList:=by
    rw [Array.toList_map]
    exact ⟨by simp,fun i h1 h2 => by simp only [List.getElem_map]; exact hL.eval b [] _⟩
  have hargs : VRs G (first ++ c.args.toList.map (aev t) ++ captured) (f'.toArray ++ c.args.map (fr b a []).eval ++ c'.toArray).toList:=by
    simp only [Array.toList_append]
    exact (VRs.append ⟨k3,k5⟩ hmid).append ⟨k4,k6⟩
  refine ⟨{ target:=.fn (.func g0) c'.toArray,args:=f'.toArray ++ c.args.map (fr b a []).eval },_,_,rfl,fun w => ?_,fun w2 => ?_⟩
  · simp only [resolve,hc,Deferred.ofValue,hr]
    rfl
  · obtain ⟨args',q1,q2⟩:=acallee_sim (H:={}) (w:=w2) (P:=P) hargs hac
    exact ⟨args',by simpa [invoke] using q1,q2⟩
theorem defLeaf_ok (hrec : RecOK P B rec) {c : Code} {t t' : List AV} {H H' : AHeap} {e : AExit} {d : Option (FuncId × List AV)} (h : defLeaf rec c t H = some (e,t',H',d)) : H.next ≤ H'.next ∧
    ∀ G w a b k cs rs,Sim B G H w→Clear G H.next H'.next→LR G t a→b.roundOf = none→b.defers = marks rs→rs.Nodup→(∀ r ∈ rs,Pin G H w r) →
      ∃ G' w' a' ds,Sim B G' H' w'∧Step G H w G' H' w'∧LR G' t' a'∧DEnd P rs G H w G' H' w' d ds∧Reach P (lone (fr b a (.code c :: k)) cs w) { b with defers:=ds } k cs e a' w':=by
  unfold defLeaf at h
  split at h
  · rename_i t1 H1 h1
    simp only [Option.some.injEq,Prod.mk.injEq] at h
    obtain ⟨rfl,rfl,rfl,rfl⟩:=h
    obtain ⟨l1,k1⟩:=hrec _ _ _ _ h1
    refine ⟨l1,fun G w a b k cs rs hS hC hL hr0 hb hn hp => ?_⟩
    obtain ⟨G1,w1,a1,rs1,s1,e1,r1,n1,p1,_,m1⟩:=k1 G w a b k cs rs [] hS hC hL (.inl hr0) (by rw [hb]; simp) hn hp
    simp only [List.append_nil] at m1
    exact ⟨G1,w1,a1,marks rs1,s1,e1,r1,⟨rs1,rfl,n1,p1⟩,m1⟩
  · rename_i t1 H1 h1
    simp only [Option.some.injEq,Prod.mk.injEq] at h
    obtain ⟨rfl,rfl,rfl,rfl⟩:=h
    obtain ⟨l1,k1⟩:=hrec _ _ _ _ h1
    refine ⟨l1,fun G w a b k cs rs hS hC hL hr0 hb hn hp => ?_⟩
    obtain ⟨G1,w1,a1,rs1,s1,e1,r1,n1,p1,_,m1⟩:=k1 G w a b k cs rs [] hS hC hL (.inl hr0) (by rw [hb]; simp) hn hp
    simp only [List.append_nil] at m1
    exact ⟨G1,w1,a1,marks rs1,s1,e1,r1,⟨rs1,rfl,n1,p1⟩,m1⟩
  · cases h
theorem defCode_ok (hrec : RecOK P B rec) : ∀ (c : Code) {t t' : List AV} {H H' : AHeap} {e : AExit} {d : Option (FuncId × List AV)},defCode P pol rec c t H = some (e,t',H',d)→H.next ≤ H'.next ∧
    ∀ G w a b k cs rs,Sim B G H w→Clear G H.next H'.next→LR G t a→b.roundOf = none→b.defers = marks rs→rs.Nodup→(∀ r ∈ rs,Pin G H w r) →
      ∃ G' w' a' ds,Sim B G' H' w'∧Step G H w G' H' w'∧LR G' t' a'∧DEnd P rs G H w G' H' w' d ds∧Reach P (lone (fr b a (.code c :: k)) cs w) { b with defers:=ds } k cs e a' w':=by
  intro c
  induction c with
  | seq x y ihx ihy =>
    intro t t' H H' e d h
    simp only [defCode] at h
    split at h
    · rename_i ops os o cl hdo
      obtain ⟨⟨id,rfl⟩,hops,hop,hg⟩:=deferOf_spec hdo
      simp only [Option.bind_eq_some_iff] at h
      obtain ⟨⟨t1,H1⟩,h1,⟨g,as⟩,h2,h⟩:=h
      split at h
      rotate_left
      · cases h
      rename_i e2 t2 H2 h3
      simp only [Option.some.injEq,Prod.mk.injEq] at h
      obtain ⟨rfl,rfl,rfl,rfl⟩:=h
      have hopsz : ops.size = os.length + 1:=by rw [← Array.length_toList,hops]; simp
      have hopj : ∀ j,j < os.length→os[j]? = ops[0 + j]?:=fun j hj => by
        rw [Nat.zero_add,← Array.getElem?_toList,hops,List.getElem?_append_left hj]
      have hoplast : ops[os.length]? = some o:=by rw [← Array.getElem?_toList,hops]; simp
      obtain ⟨l1,k1⟩:=doOps_pre hrec [os.length] os 0 hopj h1
      obtain ⟨l2,k2⟩:=hrec _ _ _ _ h3
      refine ⟨Nat.le_trans l1 l2,fun G w a b k cs rs hS hC hL hr0 hb hn hp => ?_⟩
      obtain ⟨G1,w1,a1,s1,e1,r1,st1⟩:=k1 G w a b (.code y :: k) cs hS (hC.mono l2) hL
      obtain ⟨dd,fv,cap,q1,q2,q3⟩:=adefer_sim (P:=P) (b:=b) r1 h2 o.type
      have hw : Region.wanted o (yielded ops a1) = true:=by unfold Region.wanted; rw [hg]
      have st2:=st_op_defer (P:=P) (b:=b) (a:=a1) (k:=.code y :: k) (cs:=cs) (rest:=[]) hr0 hoplast hw hop (q2 w1)
      obtain ⟨G2,w2,a2,rs2,s2,e2',r2,n2,p2,_,m2⟩:=k2 G1 w1 (putV a1 o.dst undef) { b with defers:=dd :: b.defers } k cs [] (dd :: b.defers) s1 (hC.step e1) (r1.put o.dst (.sc .undef)) (.inl hr0) rfl (by simp) (by simp)
      refine ⟨G2,w2,a2,marks rs2 ++ dd :: b.defers,s2,e1.trans e2',r2,?_,?_⟩
      · exact ⟨rs,rs2,dd,fv,cap,G1,H1,w1,by rw [hb],q1,e1,e2',hn,n2,fun r hr => ⟨(hp r hr).step e1,.inl hr⟩,fun r hr => ⟨(p2 r hr).1,by simpa using (p2 r hr).2⟩,q3⟩
      · refine Reach.of_steps ?_ m2
        refine .head st_seq (.head st_region ?_)
        rw [hopsz,List.range_succ,List.range_eq_range']
        exact st1.trans (.head st2 (.one st_region_end))
    · split at h
      · rename_i t1 H1 h1
        obtain ⟨l1,k1⟩:=hrec _ _ _ _ h1
        obtain ⟨l2,k2⟩:=ihy h
        refine ⟨Nat.le_trans l1 l2,fun G w a b k cs rs hS hC hL hr0 hb hn hp => ?_⟩
        obtain ⟨G1,w1,a1,rs1,s1,e1,r1,n1,p1,_,m1⟩:=k1 G w a b (.code y :: k) cs rs [] hS (hC.mono l2) hL (.inl hr0) (by rw [hb]; simp) hn hp
        simp only [List.append_nil] at m1
        obtain ⟨G2,w2,a2,ds,s2,e2,r2,hD,m2⟩:=k2 G1 w1 a1 { b with defers:=marks rs1 } k cs rs1 s1 (hC.step e1) r1 hr0 rfl n1 (fun r hr => (p1 r hr).1)
        exact ⟨G2,w2,a2,ds,s2,e1.trans e2,r2,hD.from e1 p1,Reach.of_steps (.head st_seq m1) m2⟩
      · rename_i t1 H1 h1
        simp only [Option.some.injEq,Prod.mk.injEq] at h
        obtain ⟨rfl,rfl,rfl,rfl⟩:=h
        obtain ⟨l1,k1⟩:=hrec _ _ _ _ h1
        refine ⟨l1,fun G w a b k cs rs hS hC hL hr0 hb hn hp => ?_⟩
        obtain ⟨G1,w1,a1,rs1,s1,e1,r1,n1,p1,_,todo,m1⟩:=k1 G w a b (.code y :: k) cs rs [] hS hC hL (.inl hr0) (by rw [hb]; simp) hn hp
        simp only [List.append_nil] at m1
        exact ⟨G1,w1,a1,marks rs1,s1,e1,r1,⟨rs1,rfl,n1,p1⟩,todo,.head st_seq m1⟩
      · cases h
  | _ => intro t t' H H' e d h; simp only [defCode] at h; exact defLeaf_ok hrec h
theorem isEnd_iff {e : AExit} (h : isEnd e = true) : e = .normal ∨ e = .ret:=by
  cases e with
  | normal => exact .inl rfl
  | ret => exact .inr rfl
  | exit id => cases h
theorem defRest_ok (hrec : RecOK P B rec) {g : FuncId} {as : List AV} {H H' : AHeap} (h : defRest P rec g as H = some H') : H.next ≤ H'.next ∧
    ∀ G w (args' : Array Value),Sim B G H w→Clear G H.next H'.next→VRs G as args'.toList→∀ cs,∃ G' w' fr' v',Sim B G' H' w'∧Step G H w G' H' w' ∧
      Steps P (lone (Frame.enter P g args' .deferred) cs w) (lone fr' cs w')∧fr'.kind = .deferred∧fr'.going P w' (.returned v'):=by
  unfold defRest at h
  split at h
  rotate_left
  · cases h
  rename_i fn hf
  split at h
  rotate_left
  · cases h
  rename_i c hb
  split at h
  rotate_left
  · cases h
  rename_i e t H1 h1
  split at h
  rotate_left
  · cases h
  rename_i he
  have he:=isEnd_iff he
  simp only [Option.map_eq_some_iff] at h
  obtain ⟨v,hv,rfl⟩:=h
  obtain ⟨l1,k1⟩:=hrec _ _ _ _ h1
  refine ⟨l1,?_⟩
  intro G w args' hS hC hargs cs
  let b : Frame:={ (default : Frame) with fn:=g,kind:=.deferred,defers:=[],roundOf:=none }
  let a : Array Value:=args' ++ Array.replicate (fn.ntmps - args'.size) undef
  have henter : Frame.enter P g args' .deferred = fr b a [.code c]:=by
    simp [Frame.enter,fr,hf,hb,b,a]
  have hl : as.length = args'.size:=by have:=hargs.1; simpa using this
  have hL : LR G (as ++ List.replicate (fn.ntmps - as.length) (.sc .undef)) a:=by
    simp only [LR,a,Array.toList_append,Array.toList_replicate,hl]
    exact hargs.append (rep_undef _)
  obtain ⟨G1,w1,a1,rs,s1,e1,r1,n1,p1,q1,m1⟩:=k1 G w a b [] cs [] [] hS hC hL (.inl rfl) rfl (by simp) (by simp)
  simp only [List.append_nil] at m1
  have hret : ∃ todo,Steps P (lone (Frame.enter P g args' .deferred) cs w) (lone { fr { b with defers:=marks rs } a1 todo with mode:=.returning } cs w1):=by
    rw [henter]
    rcases he with rfl | rfl
    · exact ⟨[],Steps.trans m1 (.one (st_end rfl))⟩
    · obtain ⟨todo,m2⟩:=m1
      exact ⟨_,Steps.trans m2 (.one (st_ret rfl))⟩
  obtain ⟨todo,hst⟩:=hret
  obtain ⟨w2,s2,e2,st2⟩:=unwind_marks (G0:=G) (H0:=H) (w0:=w) [] rs { fr { b with defers:=marks rs } a1 todo with mode:=.returning } cs w1 rfl (by simp [fr]) n1 (fun r hr => ⟨(p1 r hr).1,by simpa using (p1 r hr).2⟩) s1 e1 hS.size
  obtain ⟨v',g1,g2⟩:=aresults_sim s2 r1 hv
  exact ⟨G1,w2,_,v',s2,e2,hst.trans st2,rfl,rfl,rfl,fn,hf,g1⟩
theorem defCall_ok (hrec : RecOK P B rec) {f : FuncId} {args : List AV} {H H' : AHeap} {v : AV} (h : defCall P pol rec f args H = some (v,H')) : H.next ≤ H'.next∧CallOK P B f args H v H':=by
  unfold defCall at h
  split at h
  rotate_left
  · cases h
  rename_i fn hf
  split at h
  rotate_left
  · cases h
  rename_i c hb
  have enter : ∀ {e t H1 d},defCode P pol rec c (args ++ List.replicate (fn.ntmps - args.length) (.sc .undef)) H = some (e,t,H1,d)→isEnd e = true→H.next ≤ H1.next ∧
      ∀ G w (args' : Array Value),Sim B G H w→Clear G H.next H1.next→VRs G args args'.toList→∀ cs,∃ G' w' a' ds todo,Sim B G' H1 w'∧Step G H w G' H1 w'∧LR G' t a'∧DEnd P [] G H w G' H1 w' d ds ∧
        Steps P (lone (Frame.enter P f args' .normal) cs w) (lone { fr { (default : Frame) with fn:=f,kind:=.normal,defers:=ds,roundOf:=none } a' todo with mode:=.returning } cs w'):=by
    intro e t H1 d h1 he
    have he:=isEnd_iff he
    obtain ⟨l1,k1⟩:=defCode_ok hrec c h1
    refine ⟨l1,fun G w args' hS hC hargs cs => ?_⟩
    let b : Frame:={ (default : Frame) with fn:=f,kind:=.normal,defers:=[],roundOf:=none }
    let a : Array Value:=args' ++ Array.replicate (fn.ntmps - args'.size) undef
    have henter : Frame.enter P f args' .normal = fr b a [.code c]:=by
      simp [Frame.enter,fr,hf,hb,b,a]
    have hl : args.length = args'.size:=by have:=hargs.1; simpa using this
    have hL : LR G (args ++ List.replicate (fn.ntmps - args.length) (.sc .undef)) a:=by
      simp only [LR,a,Array.toList_append,Array.toList_replicate,hl]
      exact hargs.append (rep_undef _)
    obtain ⟨G1,w1,a1,ds,s1,e1,r1,hD,m1⟩:=k1 G w a b [] cs [] hS hC hL rfl rfl (by simp) (by simp)
    have hret : ∃ todo,Steps P (lone (Frame.enter P f args' .normal) cs w) (lone { fr { b with defers:=ds } a1 todo with mode:=.returning } cs w1):=by
      rw [henter]
      rcases he with rfl | rfl
      · exact ⟨[],Steps.trans m1 (.one (st_end rfl))⟩
      · obtain ⟨todo,m2⟩:=m1
        exact ⟨_,Steps.trans m2 (.one (st_ret rfl))⟩
    obtain ⟨todo,hst⟩:=hret
    exact ⟨G1,w1,a1,ds,todo,s1,e1,r1,hD,hst⟩
  split at h
  · rename_i e t H1 h1
    split at h
    rotate_left
    · cases h
    rename_i he
    simp only [Option.map_eq_some_iff,Prod.mk.injEq] at h
    obtain ⟨v0,hv,rfl,rfl⟩:=h
    obtain ⟨l1,k1⟩:=enter h1 he
    refine ⟨l1,fun G w args' hS hC hargs cs => ?_⟩
    obtain ⟨G1,w1,a1,ds,todo,s1,e1,r1,hD,hst⟩:=k1 G w args' hS hC hargs cs
    obtain ⟨rs,rfl,n1,p1⟩:=hD
    obtain ⟨w2,s2,e2,st2⟩:=unwind_marks (P:=P) (G0:=G) (H0:=H) (w0:=w) [] rs { fr { (default : Frame) with fn:=f,kind:=.normal,defers:=marks rs,roundOf:=none } a1 todo with mode:=.returning } cs w1 rfl (by simp [fr]) n1 (fun r hr => ⟨(p1 r hr).1,by simpa using (p1 r hr).2⟩) s1 e1 hS.size
    obtain ⟨v',g1,g2⟩:=aresults_sim s2 r1 hv
    exact ⟨G1,w2,v',_,s2,e2,g2,hst.trans st2,rfl,rfl,rfl,rfl,fn,hf,g1⟩
  · rename_i e t H1 g as h1
    split at h
    rotate_left
    · cases h
    rename_i he
    simp only [Option.bind_eq_some_iff,Option.map_eq_some_iff,Prod.mk.injEq] at h
    obtain ⟨H2,hr,v0,hv,rfl,rfl⟩:=h
    obtain ⟨l1,k1⟩:=enter h1 he
    obtain ⟨l2,k2⟩:=defRest_ok hrec hr
    refine ⟨Nat.le_trans l1 l2,fun G w args' hS hC hargs cs => ?_⟩
    obtain ⟨G1,w1,a1,ds,todo,s1,e1,r1,hD,hst⟩:=k1 G w args' hS (hC.mono l2) hargs cs
    obtain ⟨rs1,rs2,dd,fv,cap,G0,H0,w0,rfl,ht,E0,E1,n1,n2,P1,P2,I⟩:=hD
    obtain ⟨w2,s2,E2,st2⟩:=unwind_marks (P:=P) (G0:=G0) (H0:=H0) (w0:=w0) (dd :: marks rs1) rs2 { fr { (default : Frame) with fn:=f,kind:=.normal,defers:=marks rs2 ++ dd :: marks rs1,roundOf:=none } a1 todo with mode:=.returning } cs w1 rfl rfl n2 P2 s1 E1 (Nat.le_trans hS.size E0.size)
    obtain ⟨as',hinv,has⟩:=I w2
    have E02:=E0.trans E2
    obtain ⟨G3,w3,fr3,v3,s3,E3,st3,hk3,hg3⟩:=k2 G1 w2 as' s2 (hC.step E02) (has.mono E2.ext) ({ fr { (default : Frame) with fn:=f,kind:=.normal,defers:=marks rs1,roundOf:=none } a1 todo with mode:=.returning } :: cs)
    have E03:=E02.trans E3
    have sd:=step_defer (P:=P) (fr:={ fr { (default : Frame) with fn:=f,kind:=.normal,defers:=dd :: marks rs1,roundOf:=none } a1 todo with mode:=.returning }) (cs:=cs) (w:=w2) (by simp) rfl ht hinv
    have sg:=step_going_returned (P:=P) (c:={ fr { (default : Frame) with fn:=f,kind:=.normal,defers:=marks rs1,roundOf:=none } a1 todo with mode:=.returning }) (cs:=cs) hk3 hg3
    obtain ⟨w4,s4,E4,st4⟩:=unwind_marks (P:=P) (G0:=G) (H0:=H) (w0:=w) [] rs1 { fr { (default : Frame) with fn:=f,kind:=.normal,defers:=marks rs1,roundOf:=none } a1 todo with mode:=.returning } cs w3 rfl (by simp [fr]) n1
      (fun r hr => ⟨((P1 r hr).1.step E2).step E3,by simpa using (P1 r hr).2⟩) s3 E03 hS.size
    obtain ⟨v',g1,g2⟩:=aresults_sim s4 (r1.mono E3.ext) hv
    refine ⟨G3,w4,v',_,s4,E4,g2,hst.trans (st2.trans (.head sd (st3.trans (.head sg st4)))),rfl,rfl,rfl,rfl,fn,hf,g1⟩
  · cases h
end
end Go.Hem
set_option linter.unusedVariables false
namespace Go.Hem
def recX (P : Program) (pol : Pol) (memo : Memo) (r : XRec) (N : Nat) : Run
  | .code c t,H =>
    match comp P c with
    | some cc =>
      match xC P pol memo r N [] cc t H with
      | .ok o => some (.ex o.1 o.2.1,o.2.2)
      | .error _ => none
    | none => none
  | .call f args,H =>
    match r [] (.call f args) H with
    | .ok q => some (.val q.1,q.2)
    | .error _ => none
  | _,_ => none
theorem rs_nil {P : Program} (H : AHeap) : RS P [] H:=fun l c h => by cases h
theorem recX_ok {P : Program} {B : World} {pol : Pol} {memo : Memo} {r : XRec} (hpol : PolOK P B pol) (hmix : P.follows .mixedOrders = true) (hm : MemoOk P pol memo) (hr : XOk P pol r) (N : Nat) : RecOK P B (recX P pol memo r N):=by
  intro T H o H' h
  cases T with
  | code c t =>
    simp only [recX] at h
    split at h
    rotate_left
    · cases h
    rename_i cc hcc
    split at h
    rotate_left
    · cases h
    rename_i x hx
    simp only [Option.some.injEq,Prod.mk.injEq] at h
    obtain ⟨rfl,rfl⟩:=h
    obtain ⟨h1,_⟩:=xC_ok hr hm (comp_wf hcc) (rs_nil H) hx
    obtain ⟨n,o,H1,h2,e,t',rfl,h3⟩:=comp_ok hcc h1
    obtain ⟨rfl,rfl,rfl⟩:=h3
    exact run_ok hpol hmix n _ _ _ _ h2
  | call f args =>
    simp only [recX] at h
    split at h
    rotate_left
    · cases h
    rename_i x hx
    simp only [Option.some.injEq,Prod.mk.injEq] at h
    obtain ⟨rfl,rfl⟩:=h
    obtain ⟨⟨n,o,H1,h2,rfl,rfl⟩,_⟩:=hr [] (.call f args) H x.1 x.2 (rs_nil H) hx
    exact run_ok hpol hmix n _ _ _ _ h2
  | loop c t => simp [recX] at h
  | yield l args => simp [recX] at h
theorem defX_ok {P : Program} {B : World} {pol : Pol} {memo : Memo} {r : XRec} (hpol : PolOK P B pol) (hmix : P.follows .mixedOrders = true) (hm : MemoOk P pol memo) (hr : XOk P pol r) (N : Nat) {f : FuncId} {args : List AV} {H H' : AHeap} {v : AV} (h : defCall P pol (recX P pol memo r N) f args H = some (v,H')) : H.next ≤ H'.next∧CallOK P B f args H v H' :=
  defCall_ok (recX_ok hpol hmix hm hr N) h
end Go.Hem
