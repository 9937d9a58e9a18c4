/- Joined. -/
import Derived.Test.YtldflacehmpjkaaGreatDoorHemL
set_option linter.unusedSimpArgs false
set_option linter.unusedVariables false
namespace Go.Hem
structure Tweak (w w' : World) (r : Nat) : Prop where
  same : Same w w'
  size : w'.heap.size = w.heap.size
  old : ∀ k,k ≠ r→w'.heap[k]? = w.heap[k]?
theorem sim_tweak {B : World} {G : Gh} {H : AHeap} {w w' : World} {r : Nat} {o o' : Obj} (hS : Sim B G H w) (ht : Tweak w w' r) (h0 : w.heap[r]? = some o) (h1 : w'.heap[r]? = some o') (hf : G.fz r = none)
    (hno : ∀ b x,H.get b = some x→G.β b ≠ some r) (hp : Obj.plain o') (hc : Obj.csize o' = Obj.csize o) (hge : B.heap.size ≤ r) : Sim B G H w':=by
  obtain ⟨e1,e2,e3⟩:=ht.same.sim hS.os hS.tape hS.output
  refine ⟨e1,e2,e3,by rw [ht.size]; exact hS.size,hS.base,?_,?_,hS.inj,hS.nofz,fun b c h => by rw [ht.size]; exact hS.rng b c h,?_,?_,fun c s h => by rw [ht.size]; exact hS.szr c s h,hS.frz⟩
  · intro c o2 h
    have hne : c ≠ r:=fun e => by subst e; rw [hf] at h; cases h
    rw [ht.old c hne]; exact hS.fz c o2 h
  · intro b x c g1 g2
    have hne : c ≠ r:=fun e => by subst e; exact hno b x g1 g2
    obtain ⟨o2,g3,g4⟩:=hS.live b x c g1 g2
    exact ⟨o2,by rw [ht.old c hne]; exact g3,g4⟩
  · intro c o2 g1 g2
    by_cases e : c = r
    · subst e; rw [h1] at g2; cases g2; exact .inl hp
    · rw [ht.old c e] at g2; exact hS.plain c o2 g1 g2
  · intro c o2 g1 g2
    by_cases e : c = r
    · subst e; rw [h1] at g2; cases g2; rw [hc]; exact hS.sz _ o g1 h0
    · rw [ht.old c e] at g2; exact hS.sz c o2 g1 g2
theorem Step.tweak {G G' : Gh} {H H' : AHeap} {w w' w'' : World} {r : Nat} {o : Obj} (s : Step G H w G' H' w') (ht : Tweak w' w'' r) (h0 : w'.heap[r]? = some o) (hl : ∀ l,o ≠ Obj.loop l) (hge : w.heap.size ≤ r) : Step G H w G' H' w'':=by
  refine ⟨s.ext,s.new,s.le,by rw [ht.size]; exact s.size,fun c hc hno => by rw [ht.old c (by omega)]; exact s.frame c hc hno,s.pend,s.img,s.nfz,fun c l h => ?_⟩
  obtain ⟨l',h1⟩:=s.loops c l h
  have hne : c ≠ r:=fun e => by subst e; rw [h0] at h1; cases h1; exact hl l' rfl
  exact ⟨l',by rw [ht.old c hne]; exact h1⟩
theorem sim_extra {B : World} {G : Gh} {H : AHeap} {w w' : World} {o : Obj} (hS : Sim B G H w) (hp : Push w w' o) (hpl : Obj.plain o) (hc : Obj.csize o = none) : Sim B G H w'∧Step G H w G H w':=by
  obtain ⟨hsame,hsz,hnew,hold⟩:=hp
  obtain ⟨e1,e2,e3⟩:=hsame.sim hS.os hS.tape hS.output
  have hlt : ∀ {c o'},w.heap[c]? = some o'→c < w.heap.size:=fun h => (Array.getElem?_eq_some_iff.1 h).1
  have hlt' : ∀ {c o'},w'.heap[c]? = some o'→c < w'.heap.size:=fun h => (Array.getElem?_eq_some_iff.1 h).1
  constructor
  · refine ⟨e1,e2,e3,by have:=hS.size; omega,hS.base,?_,?_,hS.inj,hS.nofz,fun b c h => by have:=hS.rng b c h; omega,?_,?_,fun c s h => by have:=hS.szr c s h; omega,hS.frz⟩
    · intro c o' h; have h':=hS.fz c o' h; rw [hold c (hlt h')]; exact h'
    · intro b x c g1 g2
      obtain ⟨o2,g3,g4⟩:=hS.live b x c g1 g2
      exact ⟨o2,by rw [hold c (hlt g3)]; exact g3,g4⟩
    · intro c o' h1 h2
      by_cases e : c = w.heap.size
      · subst e; rw [hnew] at h2; cases h2; exact .inl hpl
      · have : c < w.heap.size:=by have:=hlt' h2; omega
        rw [hold c this] at h2; exact hS.plain c o' h1 h2
    · intro c o' h1 h2
      by_cases e : c = w.heap.size
      · subst e; rw [hnew] at h2; cases h2
        rw [hc]
        cases hq : G.sz w.heap.size with
        | none => rfl
        | some s => exact absurd (hS.szr _ _ hq) (by omega)
      · have : c < w.heap.size:=by have:=hlt' h2; omega
        rw [hold c this] at h2; exact hS.sz c o' h1 h2
  · exact ⟨Ext.refl G,fun _ _ h => .inl h,Nat.le_refl _,by omega,fun c hc _ => hold c hc,fun _ _ h _ => h,fun b x c h1 h2 _ => ⟨b,x,h1,h2⟩,fun c o h1 h2 => (by rw [h2] at h1; cases h1),fun c l h => ⟨l,by rw [hold c (hlt h)]; exact h⟩⟩
def resOf (a : Array Value) : ResultVar→Sem Value
  | .tmp t => pure (a.getD t undef)
  | .cell b T => do loadVar T (← asAddr (a.getD b undef))
theorem results_eq (fn : Func) (a : Array Value) : results fn a = (do
    let vs ← fn.results.mapM (resOf a)
    pure (if h : vs.size = 1 then vs[0] else .tuple vs)):=rfl
theorem aresult_sim {P : Program} {B : World} {G : Gh} {H : AHeap} {w : World} (hS : Sim B G H w) {t : List AV} {a : Array Value} (hL : LR G t a) {r : ResultVar} {x : AV} (hx : aresult P t H r = some x) :
    ∃ y,(resOf a r).run P w = .ok y w∧VR G x y:=by
  cases r with
  | tmp i =>
    simp only [aresult,Option.some.injEq] at hx
    subst hx
    exact ⟨_,rfl,hL.eval default [] (.tmp i)⟩
  | cell b T =>
    simp only [aresult] at hx
    obtain ⟨y,h1,h2⟩:=aload_sim hS (hL.eval default [] (.tmp b)) hx
    refine ⟨y,?_,h2⟩
    have hv:=hL.eval default [] (.tmp b)
    simp only [aev,Frame.eval,fr] at hv h1
    simp only [resOf]
    cases hr : a.getD b undef <;> rw [hr] at h1 hv
    case pointer ad =>
      cases ad with
      | none => simp [Instr.loadAt,Instr.sureAddr] at h1
      | some ad => simpa [Instr.loadAt,Instr.sureAddr,asAddr] using h1
    all_goals simp [Instr.loadAt,Instr.sureAddr] at h1
theorem aresultsL_sim {P : Program} {B : World} {G : Gh} {H : AHeap} {w : World} (hS : Sim B G H w) {t : List AV} {a : Array Value} (hL : LR G t a) : ∀ (rs : List ResultVar) (xs : List AV),rs.mapM (aresult P t H) = some xs →
    ∃ ys,(rs.mapM (resOf a)).run P w = .ok ys w∧VRs G xs ys
  | [],xs,hx => by simp at hx; subst hx; exact ⟨[],by simp,VRs.nil⟩
  | r :: rs,xs,hx => by
    simp only [List.mapM_cons,Option.bind_eq_bind,Option.bind_eq_some_iff,Option.pure_def,Option.some.injEq] at hx
    obtain ⟨x,h1,xs',h2,rfl⟩:=hx
    obtain ⟨y,g1,g2⟩:=aresult_sim hS hL h1
    obtain ⟨ys,g3,g4⟩:=aresultsL_sim hS hL rs xs' h2
    refine ⟨y :: ys,?_,VRs.cons g2 g4⟩
    simp only [List.mapM_cons,Sem.run_bind,g1,Result.andThen_ok,g3,Sem.run_pure]
theorem aresults_sim {P : Program} {B : World} {G : Gh} {H : AHeap} {w : World} (hS : Sim B G H w) {fn : Func} {t : List AV} {a : Array Value} (hL : LR G t a) {v : AV} (h : aresults P fn t H = some v) :
    ∃ v',(results fn a).run P w = .ok v' w∧VR G v v':=by
  unfold aresults at h
  rw [results_eq]
  simp only [Array.mapM_eq_mapM_toList]
  split at h
  · rename_i x hx
    simp at h; subst h
    obtain ⟨ys,g1,g2⟩:=aresultsL_sim hS hL _ _ hx
    obtain ⟨y,m',rfl,g3,g4⟩:=g2.of_cons
    have:=g4.of_nil
    subst this
    refine ⟨y,?_,g3⟩
    simp only [Sem.run_bind,Sem.run_map,g1,Result.andThen_ok,Sem.run_pure]
    rfl
  · rename_i xs hno hx
    simp at h; subst h
    obtain ⟨ys,g1,g2⟩:=aresultsL_sim hS hL _ _ hx
    refine ⟨.tuple ys.toArray,?_,.tup g2.1 g2.2⟩
    simp only [Sem.run_bind,Sem.run_map,g1,Result.andThen_ok,Sem.run_pure]
    have hne : ¬ ys.toArray.size = 1:=fun e => by
      have hl:=g2.1
      simp at e
      match xs,hl with
      | [x],_ => exact hno x rfl
      | [],hl => simp [e] at hl
      | _ :: _ :: _,hl => simp [e] at hl
    rw [dif_neg hne]
  · cases h
theorem unwind_marks {P : Program} {B : World} {G G0 : Gh} {H H0 : AHeap} {w0 : World} (ds : List Deferred) : ∀ (rs : List Nat) (F : Frame) (cs : List Frame) (w : World),F.mode = .returning→F.defers = marks rs ++ ds→rs.Nodup→(∀ r ∈ rs,Pin G H w r∧w0.heap.size ≤ r)→Sim B G H w→Step G0 H0 w0 G H w →
    B.heap.size ≤ w0.heap.size→∃ w',Sim B G H w'∧Step G0 H0 w0 G H w'∧Steps P (lone F cs w) (lone { F with defers:=ds } cs w')
  | [],F,cs,w,hm,hd,hn,hp,hS,hT,hB => ⟨w,hS,hT,by
      have : { F with defers:=ds } = F:=by cases F; simp_all [marks]
      rw [this]; exact .refl _ _⟩
  | r :: rs,F,cs,w,hm,hd,hn,hp,hS,hT,hB => by
    obtain ⟨⟨p1,p2,p3⟩,p4⟩:=hp r (by simp)
    have hlt : r < w.heap.size:=(Array.getElem?_eq_some_iff.1 p1).1
    let w1 : World:={ w with heap:=w.heap.setIfInBounds r (.deferred none) }
    have ht : Tweak w w1 r:=⟨⟨rfl,rfl,rfl⟩,by simp [w1],fun k hk => by simp only [w1]; rw [Array.getElem?_setIfInBounds_ne (by omega)]⟩
    have h1 : w1.heap[r]? = some (Obj.deferred none):=by simp only [w1]; rw [Array.getElem?_setIfInBounds_self_of_lt hlt]
    have hS1:=sim_tweak hS ht p1 h1 p2 p3 trivial rfl (by omega)
    have hT1:=hT.tweak ht p1 (fun l => by simp) p4
    have hpins : ∀ r' ∈ rs,Pin G H w1 r'∧w0.heap.size ≤ r':=fun r' hr' => by
      obtain ⟨⟨q1,q2,q3⟩,q4⟩:=hp r' (by simp [hr'])
      have hne : r' ≠ r:=fun e => by subst e; simp at hn; exact hn.1 hr'
      exact ⟨⟨by rw [ht.old r' hne]; exact q1,q2,q3⟩,q4⟩
    have hst : step P (lone F cs w) = .next (lone { F with defers:=marks rs ++ ds } cs w1):=by
      have hrun : (Instr.takeDeferred r).run P w = .ok [] w1:=by
        simp [Instr.takeDeferred,getObj,setObj,Sem.run,p1,w1,bind,Sem.bind]
      refine step_lone_go ?_
      cases F with
      | mk fn tmps todo defers mode kind roundOf =>
      simp only at hm hd
      subst hm hd
      simp [stepG,unwind,marks,hrun]
    obtain ⟨w',g1,g2,g3⟩:=unwind_marks ds rs { F with defers:=marks rs ++ ds } cs w1 hm rfl (by simp at hn; exact hn.2) hpins hS1 hT1 hB
    exact ⟨w',g1,g2,.head hst g3⟩
theorem rep_undef {G : Gh} (n : Nat) : VRs G (List.replicate n (AV.sc .undef)) (List.replicate n undef) :=
  ⟨by simp,fun i h1 h2 => by simp only [List.getElem_replicate]; exact VR.sc .undef⟩
section
variable {P : Program} {B : World} {pol : Pol} {draw : Run→DrawF} {rec : Run}
theorem call_ok (hrec : RecOK P B rec) {f : FuncId} {args : List AV} {H H' : AHeap} {o : Out} {fn : Func} {c : Code} (hf : P.funcs[f]? = some fn) (hb : fn.body = some c) {e : AExit} (he : e = .normal ∨ e = .ret) {t : List AV} {v : AV}
    (h : rec (.code c (args ++ List.replicate (fn.ntmps - args.length) (.sc .undef))) H = some (.ex e t,H')) (hv : aresults P fn t H' = some v) : H.next ≤ H'.next∧CallOK P B f args H v H':=by
  obtain ⟨l1,k1⟩:=hrec _ _ _ _ h
  refine ⟨l1,?_⟩
  intro G w args' hS hC hargs cs
  let b : Frame:={ (default : Frame) with fn:=f,kind:=.normal,defers:=[],roundOf:=none }
  let a : Array Value:=args' ++ Array.replicate (fn.ntmps - args'.size) undef
  have henter : Frame.enter P f args' .normal = fr b a [.code c]:=by
    simp [Frame.enter,fr,hf,hb,b,a]
  have hl : args.length = args'.size:=by have:=hargs.1; simpa using this
  have hL : LR G (args ++ List.replicate (fn.ntmps - args.length) (.sc .undef)) a:=by
    simp only [LR,a,Array.toList_append,Array.toList_replicate,hl]
    exact hargs.append (rep_undef _)
  obtain ⟨G1,w1,a1,rs,s1,e1,r1,n1,p1,q1,m1⟩:=k1 G w a b [] cs [] [] hS hC hL (.inl rfl) rfl (by simp) (by simp)
  simp only [List.append_nil] at m1
  have hret : ∃ todo,Steps P (lone (Frame.enter P f args' .normal) cs w) (lone { fr { b with defers:=marks rs } a1 todo with mode:=.returning } cs w1):=by
    rw [henter]
    rcases he with rfl | rfl
    · exact ⟨[],Steps.trans m1 (.one (st_end rfl))⟩
    · obtain ⟨todo,m2⟩:=m1
      exact ⟨_,Steps.trans m2 (.one (st_ret rfl))⟩
  obtain ⟨todo,hst⟩:=hret
  obtain ⟨w2,s2,e2,st2⟩:=unwind_marks (G0:=G) (H0:=H) (w0:=w) [] rs { fr { b with defers:=marks rs } a1 todo with mode:=.returning } cs w1 rfl (by simp [fr]) n1 (fun r hr => ⟨(p1 r hr).1,by simpa using (p1 r hr).2⟩) s1 e1 hS.size
  obtain ⟨v',g1,g2⟩:=aresults_sim s2 r1 hv
  refine ⟨G1,w2,v',_,s2,e2,g2,hst.trans st2,rfl,rfl,rfl,rfl,fn,hf,g1⟩
theorem getLoop_run {w : World} {c : Nat} {l : Loop} (h : w.heap[c]? = some (Obj.loop l)) : (Instr.getLoop c).run P w = .ok l w:=by
  simp [Instr.getLoop,getObj,Sem.run,h,bind,Sem.bind]
def setLoop (w : World) (c : Nat) (l : Loop) : World:={ w with heap:=w.heap.setIfInBounds c (Obj.loop l) }
theorem setObj_run {w : World} {c : Nat} {l l' : Loop} (h : w.heap[c]? = some (Obj.loop l)) : (setObj c (Obj.loop l')).run P w = .ok () (setLoop w c l'):=by
  simp [setObj,Sem.run,h,setLoop]
theorem at_setLoop {w : World} {c : Nat} {l l' : Loop} (h : w.heap[c]? = some (Obj.loop l)) : At w (setLoop w c l') c (Obj.loop l'):=by
  have hlt : c < w.heap.size:=(Array.getElem?_eq_some_iff.1 h).1
  exact ⟨⟨rfl,rfl,rfl⟩,by simp [setLoop],by simp only [setLoop]; rw [Array.getElem?_setIfInBounds_self_of_lt hlt],fun k hk => by simp only [setLoop]; rw [Array.getElem?_setIfInBounds_ne (by omega)]⟩
theorem sim_loop {G : Gh} {H : AHeap} {w : World} (hS : Sim B G H w) {l c : Nat} (hc : G.β l = some c) {st : LoopState} {pe : Option Code} {t : List AV} {ps : List Tmp} {as bo : Code} (hg : H.get l = some (.loop st pe t ps as bo)) :
    ∃ lp : Loop,w.heap[c]? = some (Obj.loop lp)∧lp.state = st∧lp.pending = pe∧LR G t lp.tmps∧lp.params.toList = ps∧lp.assign = as∧lp.body = bo ∧
      ∀ st' pe',Sim B G (H.put l (some (.loop st' pe' t ps as bo))) (setLoop w c { lp with state:=st',pending:=pe' }) ∧
        Step G H w G (H.put l (some (.loop st' pe' t ps as bo))) (setLoop w c { lp with state:=st',pending:=pe' }):=by
  obtain ⟨o,ho,hb⟩:=hS.live l _ c hg hc
  cases o <;> simp only [BR] at hb
  rename_i lp
  obtain ⟨b1,b2,b3,b4,b5,b6⟩:=hb
  refine ⟨lp,ho,b1,b2,b3,b4,b5,b6,fun st' pe' => ?_⟩
  exact sim_at hS hg hc (at_setLoop ho) (by simp [ho,Obj.csize]) ⟨rfl,rfl,b3,b4,b5,b6⟩ trivial (fun l _ => ⟨_,rfl⟩)
theorem setParams_rel {G : Gh} : ∀ (ps : List Tmp) {t t0 : List AV} {as : List AV} {a : Array Value} {as' : List Value},setParams t ps as = some t0→LR G t a→VRs G as as' →
    ps.length = as'.length∧LR G t0 ((ps.zip as').foldl (fun tmps (t,v) => tmps.setIfInBounds t v) a)
  | [],t,t0,as,a,as',h,hL,hv => by
    cases as with
    | nil => simp [setParams] at h; subst h; rw [hv.of_nil]; exact ⟨rfl,hL⟩
    | cons x l => simp [setParams] at h
  | p :: ps,t,t0,as,a,as',h,hL,hv => by
    cases as with
    | nil => simp [setParams] at h
    | cons x l =>
      simp only [setParams] at h
      obtain ⟨y,l',rfl,h1,h2⟩:=hv.of_cons
      have:=setParams_rel ps h (hL.put (some p) h1) h2
      exact ⟨by simp [this.1],by simpa [putV] using this.2⟩
theorem st_beginRound {b : Frame} {a : Array Value} {k : List Item} {cs : List Frame} {w w' : World} {c : Nat} (hr : b.roundOf = some c) (h : (Instr.beginRound c).run P w = .ok () w') :
    step P (lone (fr b a (.beginRound :: k)) cs w) = .next (lone (fr b a k) cs w'):=by
  refine step_lone_go ?_
  cases b
  simp only at hr
  subst hr
  simp [stepG,stepG.exec,fr,stepG.apply,h,Frame.finish]
theorem st_leave {b : Frame} {a : Array Value} {caller : Frame} {cs : List Frame} {w w' : World} {c : Nat} {e : AExit} {todo : List Item} {v : Value} (hr : b.roundOf = some c) (hk : b.kind = .normal)
    (ht : match e with | .normal => todo = [] | .exit id => ∃ k,todo = .code (.exit id) :: k∧exitTo id k = none | .ret => ∃ k,todo = .code .ret :: k)
    (h : (Instr.endRound c (jumpOf e)).run P w = .ok v w') : step P (lone (fr b a todo) (caller :: cs) w) = .next (lone (caller.finish v) cs w'):=by
  refine step_lone_go ?_
  cases b
  simp only at hr hk
  subst hr hk
  cases e with
  | normal => subst ht; simp only [jumpOf] at h; simp [stepG,stepG.exec,fr,h,doReturn]
  | exit id => obtain ⟨k,rfl,ht⟩:=ht; simp only [jumpOf] at h; simp [stepG,stepG.exec,fr,h,doReturn,ht]
  | ret => obtain ⟨k,rfl⟩:=ht; simp only [jumpOf] at h; simp [stepG,stepG.exec,fr,h,doReturn]
theorem yield_ok (hrec : RecOK P B rec) {l : Nat} {args : List AV} {H H' : AHeap} {o : Out} (h : doYield rec l args H = some (o,H')) : H.next ≤ H'.next∧TaskOK P B (.yield l args) H o H':=by
  unfold doYield at h
  split at h
  rotate_left
  · cases h
  rename_i pe t ps as bo hg
  simp only [Option.bind_eq_some_iff] at h
  obtain ⟨t0,h0,h⟩:=h
  split at h
  rotate_left
  · cases h
  rename_i t1 H1 h1
  split at h
  rotate_left
  · cases h
  rename_i pe' t' ps' as' bo' hg1
  split at h
  rotate_left
  · cases h
  rename_i e t2 H2 h2
  split at h
  rotate_left
  · cases h
  rename_i st3 pe3 t3 ps3 as3 bo3 hg2
  simp only [Option.some.injEq,Prod.mk.injEq] at h
  obtain ⟨rfl,rfl⟩:=h
  obtain ⟨l1,k1⟩:=hrec _ _ _ _ h1
  obtain ⟨l2,k2⟩:=hrec _ _ _ _ h2
  simp only [AHeap.next_put] at l2
  refine ⟨by simp; omega,?_⟩
  intro G w args' c hS hC hv hc
  obtain ⟨lp,x1,x2,x3,x4,x5,x6,x7,_⟩:=sim_loop hS hc hg
  obtain ⟨y1,y2⟩:=setParams_rel ps h0 x4 hv
  refine ⟨lp.fn,(lp.params.zip args').foldl (fun tmps (t,a) => tmps.setIfInBounds t a) lp.tmps,lp.assign,lp.body,?_,?_⟩
  · have hz : ¬ args'.size ≠ lp.params.size:=by
      have : lp.params.toList.length = args'.toList.length:=by rw [x5]; exact y1
      simp at this; omega
    unfold Instr.yield
    rw [Sem.run_bind,getLoop_run x1,Result.andThen_ok,if_neg hz]
    rfl
  intro caller cs
  have hfold : (lp.params.zip args').foldl (fun tmps (t,a) => tmps.setIfInBounds t a) lp.tmps = (ps.zip args'.toList).foldl (fun tmps (t,v) => tmps.setIfInBounds t v) lp.tmps:=by
    rw [← Array.foldl_toList,Array.toList_zip,x5]
  rw [hfold]
  let b : Frame:={ (default : Frame) with fn:=lp.fn,kind:=.normal,defers:=[],roundOf:=some c }
  have hround : Frame.round c lp.fn ((ps.zip args'.toList).foldl (fun tmps (t,v) => tmps.setIfInBounds t v) lp.tmps) lp.assign lp.body .normal =
      fr b ((ps.zip args'.toList).foldl (fun tmps (t,v) => tmps.setIfInBounds t v) lp.tmps) [.code lp.assign,.beginRound,.code lp.body]:=by
    simp [Frame.round,fr,b]
  rw [hround]
  have hC1 : Clear G H.next H1.next:=hC.mono (by simp; omega)
  rw [x6,x7]
  obtain ⟨G1,w1,a1,rs1,s1,e1,r1,n1,p1,q1,m1⟩:=k1 G w _ b [.beginRound,.code bo] (caller :: cs) [] [] hS hC1 y2 (.inr ⟨c,lp,rfl,x1⟩) rfl (by simp) (by simp)
  have q1':=q1 rfl
  subst q1'
  have hc1:=e1.ext.β l c hc
  obtain ⟨lp1,z1,z2,z3,z4,z5,z6,z7,z8⟩:=sim_loop s1 hc1 hg1
  obtain ⟨s2,e2⟩:=z8 .busy pe'
  have hbegin : (Instr.beginRound c).run P w1 = .ok () (setLoop w1 c { lp1 with state:=.busy,pending:=pe' }):=by
    unfold Instr.beginRound
    rw [Sem.run_bind,getLoop_run z1,Result.andThen_ok,Sem.run_bind,setObj_run z1,Result.andThen_ok,z2]
    have : ({ lp1 with state:=LoopState.busy } : Loop) = { lp1 with state:=.busy,pending:=pe' }:=by rw [← z3]
    rw [this]; rfl
  have e12:=e1.trans e2
  have hC2 : Clear G1 (H1.put l (some (.loop .busy pe' t' ps' as' bo'))).next H2.next:=by
    have:=(hC.mono (show H2.next ≤ _ by simp)).step e1
    simpa using this
  obtain ⟨G2,w2,a2,rs2,s3,e3,r2,n2,p2,q2,m2⟩:=k2 G1 _ a1 b [] (caller :: cs) [] [] s2 hC2 (r1.mono e2.ext)
    (.inr ⟨c,_,rfl,(at_setLoop z1).2.2.1⟩) rfl (by simp) (by simp)
  have q2':=q2 rfl
  subst q2'
  have hc2:=e3.ext.β l c (e2.ext.β l c hc1)
  obtain ⟨lp2,u1,u2,u3,u4,u5,u6,u7,u8⟩:=sim_loop s3 hc2 hg2
  obtain ⟨s4,e4⟩:=u8 (if (jumpOf e).isNone then .ready else .done) (jumpOf e)
  have hend : (Instr.endRound c (jumpOf e)).run P w2 = .ok (.bool (jumpOf e).isNone) (setLoop w2 c { lp2 with state:=(if (jumpOf e).isNone then .ready else .done),pending:=jumpOf e }):=by
    unfold Instr.endRound
    rw [Sem.run_bind,getLoop_run u1,Result.andThen_ok,Sem.run_bind,setObj_run u1,Result.andThen_ok]
    rfl
  refine ⟨G2,_,.bool (jumpOf e).isNone,s4,e12.trans (e3.trans e4),.sc (.bool _),?_⟩
  have hb : ({ b with defers:=marks [] ++ [] } : Frame) = b:=rfl
  rw [hb] at m1 m2
  refine Steps.trans m1 (.head (st_beginRound rfl hbegin) ?_)
  cases e with
  | normal => exact Steps.trans m2 (.one (st_leave (e:=.normal) rfl rfl rfl hend))
  | exit id => obtain ⟨todo,m3,m4⟩:=m2; exact Steps.trans m4 (.one (st_leave (e:=.exit id) rfl rfl ⟨todo,rfl,m3⟩ hend))
  | ret => obtain ⟨todo,m4⟩:=m2; exact Steps.trans m4 (.one (st_leave (e:=.ret) rfl rfl ⟨todo,rfl⟩ hend))
end
end Go.Hem
set_option linter.unusedSimpArgs false
set_option linter.unusedVariables false
namespace Go.Hem
section
variable {P : Program} {B : World} {pol : Pol} {draw : Run→DrawF} {rec : Run}
def rangeCall (f : Operand) (c : Nat) : Call:={ callee:=.value f,args:=#[.const (.func (.yield c) #[] #[])],argTypes:=#[] }
theorem st_range {b : Frame} {a : Array Value} {k : List Item} {cs : List Frame} {w w1 : World} {f : Operand} {ps : Array Tmp} {as bo : Code} {c g : Nat} {mk : List Deferred} {args : Array Value}
    (h1 : (Instr.enterLoop b.fn a ps as bo b.roundOf).run P w = .ok (c,mk) w1)
    (h2 : (do let d ← resolve (fr b a []).eval (rangeCall f c) 0; invoke d.target d.args : Sem Next).run P w1 = .ok (.enter g args) w1) :
    step P (lone (fr b a (.code (.rangeFunc f ps as bo) :: k)) cs w) = .next (lone (Frame.enter P g args .normal) (fr { b with defers:=mk ++ b.defers } a (.inRangeFunc c :: k) :: cs) w1):=by
  refine step_lone_go ?_
  have he : (fr { b with defers:=mk ++ b.defers } a (.inRangeFunc c :: k)).eval = (fr b a []).eval:=funext fun x => by cases x <;> rfl
  simp only [fr] at he h2
  simp only [rangeCall] at h2
  simp only [stepG,stepG.exec,fr,Sem.runT_eq,h1,GStep.bare_after]
  simp only [stepG.apply,he,Sem.runT_eq,h2,GStep.bare_after,if_true]
  rfl
theorem st_endRange {b : Frame} {a : Array Value} {k : List Item} {cs : List Frame} {w w1 : World} {c : Nat} {jump : Option Code} (h : (Instr.endLoop c).run P w = .ok jump w1) :
    step P (lone (fr b a (.endRangeFunc c :: k)) cs w) = .next (lone (fr b a ((jump.map Item.code).toList ++ k)) cs w1) :=
  step_lone_go (by simp [stepG,stepG.exec,fr,h])
theorem finish_range (b : Frame) (a : Array Value) (k : List Item) (c : Nat) (v : Value) : (fr b a (.inRangeFunc c :: k)).finish v = fr b a (.endRangeFunc c :: k):=rfl
theorem range_ok (hrec : RecOK P B rec) {f : Operand} {ps : Array Tmp} {as bo : Code} {t : List AV} {H H' : AHeap} {o : Out} (h : doRange P rec f ps.toList as bo t H = some (o,H')) :
    H.next ≤ H'.next∧TaskOK P B (.code (.rangeFunc f ps as bo) t) H o H':=by
  unfold doRange at h
  split at h
  rotate_left
  · cases h
  rename_i g first captured hf
  split at h
  rotate_left
  · cases h
  rename_i g' args hac
  split at h
  rotate_left
  · cases h
  rename_i v H1 h1
  split at h
  rotate_left
  · cases h
  rename_i st pe t' ps' as' bo' hg1
  split at h
  · cases h
  rename_i hbusy
  simp only [Option.map_eq_some_iff,Prod.mk.injEq] at h
  obtain ⟨e,he,rfl,rfl⟩:=h
  obtain ⟨l1,k1⟩:=hrec _ _ _ _ h1
  simp only [AHeap.next_alloc] at l1
  refine ⟨by simp; omega,?_⟩
  intro G w a b k cs rs ds hS hC hL hR hb hn hp
  simp only [AHeap.next_put] at hC
  have hcl : G.β H.next = none:=hC _ (Nat.le_refl _) (by omega)
  -- the loop's block is laid
  have lay : ∃ c mk rs1 G1 w1,(Instr.enterLoop b.fn a ps as bo b.roundOf).run P w = .ok (c,mk) w1∧mk ++ b.defers = marks rs1 ++ ds∧rs1.Nodup∧G1.β H.next = some c ∧
      Sim B G1 (H.alloc (.loop .ready none t ps.toList as bo)) w1∧Step G H w G1 (H.alloc (.loop .ready none t ps.toList as bo)) w1 ∧
      (∀ r ∈ rs1,Pin G1 (H.alloc (.loop .ready none t ps.toList as bo)) w1 r∧(r ∈ rs ∨ w.heap.size ≤ r))∧(b.roundOf.isSome→rs1 = rs):=by
    rcases hR with hR | ⟨c0,l0,hR,hl0⟩
    · let od : Obj:=.deferred (some [])
      let lp : Loop:={ state:=.ready,pending:=none,fn:=b.fn,tmps:=a,params:=ps,assign:=as,body:=bo,defers:=w.heap.size }
      obtain ⟨sA,eA⟩:=sim_extra hS (push_alloc w od) trivial rfl
      have hbr : BR G (.loop .ready none t ps.toList as bo) (Obj.loop lp):=⟨rfl,rfl,hL,rfl,rfl,rfl⟩
      obtain ⟨sB,eB⟩:=sim_push (H:=H) sA (push_alloc (w.alloc od) (Obj.loop lp)) hbr trivial hcl
      have hnew : (w.alloc od).heap[w.heap.size]? = some od:=(push_alloc w od).2.2.1
      have hpin : Pin G H (w.alloc od) w.heap.size:=by
        refine ⟨hnew,?_,fun b x _ h => absurd (hS.rng _ _ h) (by omega)⟩
        cases hq : G.fz w.heap.size with
        | none => rfl
        | some o => exact absurd (Array.getElem?_eq_some_iff.1 (hS.fz _ _ hq)).1 (by omega)
      refine ⟨w.heap.size + 1,[{ target:=.collected w.heap.size,args:=#[] }],w.heap.size :: rs,_,_,?_,?_,?_,?_,sB,eA.trans eB,?_,?_⟩
      · rw [hR]
        simp [Instr.enterLoop,od,lp]
      · rw [hb]; rfl
      · simp only [List.nodup_cons]
        refine ⟨fun hmem => ?_,hn⟩
        have:=(Array.getElem?_eq_some_iff.1 (hp _ hmem).1).1
        omega
      · simp [Gh.at]
      · intro r hr
        rcases List.mem_cons.1 hr with rfl | hr
        · exact ⟨hpin.step eB,.inr (Nat.le_refl _)⟩
        · exact ⟨((hp r hr).step eA).step eB,.inl hr⟩
      · intro h; rw [hR] at h; cases h
    · let lp : Loop:={ state:=.ready,pending:=none,fn:=b.fn,tmps:=a,params:=ps,assign:=as,body:=bo,defers:=l0.defers }
      have hbr : BR G (.loop .ready none t ps.toList as bo) (Obj.loop lp):=⟨rfl,rfl,hL,rfl,rfl,rfl⟩
      obtain ⟨sB,eB⟩:=sim_push (H:=H) hS (push_alloc w (Obj.loop lp)) hbr trivial hcl
      refine ⟨w.heap.size,[],rs,_,_,?_,?_,hn,?_,sB,eB,?_,fun _ => rfl⟩
      · rw [hR]
        simp [Instr.enterLoop,getLoop_run hl0,lp]
      · rw [hb]; rfl
      · simp [Gh.at]
      · intro r hr; exact ⟨(hp r hr).step eB,.inl hr⟩
  obtain ⟨c,mk,rs1,G1,w1,henter,hmk,hnd,hc,s1,e1,hpins,hround⟩:=lay
  -- the function is called
  have hv:=hf ▸ (hL.mono e1.ext).eval b [] f
  obtain ⟨f',c',hr,k3,k4,k5,k6⟩ : ∃ f' c' : List Value,(fr b a []).eval f = .func (.func g) f'.toArray c'.toArray∧first.length = f'.length∧captured.length = c'.length ∧
      (∀ i (h : i < first.length) (h' : i < f'.length),VR G1 (first[i]) (f'[i]))∧(∀ i (h : i < captured.length) (h' : i < c'.length),VR G1 (captured[i]) (c'[i])):=by
    cases hr : (fr b a []).eval f <;> rw [hr] at hv <;> cases hv
    exact ⟨_,_,rfl,by assumption,by assumption,by assumption,by assumption⟩
  have hargs : VRs G1 (first ++ [.yield H.next] ++ captured) (f'.toArray ++ #[Value.func (.yield c) #[] #[]] ++ c'.toArray).toList:=by
    simp only [Array.toList_append]
    exact (VRs.append ⟨k3,k5⟩ (VRs.cons (.yield hc) VRs.nil)).append ⟨k4,k6⟩
  obtain ⟨args',q1,q2⟩:=acallee_sim (H:=H) (w:=w1) (P:=P) hargs hac
  have hcall : (do let d ← resolve (fr b a []).eval (rangeCall f c) 0; invoke d.target d.args : Sem Next).run P w1 = .ok (.enter g' args') w1:=by
    simp only [resolve,rangeCall,Deferred.ofValue,hr]
    simpa [invoke,Frame.eval] using q1
  have hst:=st_range (k:=k) (cs:=cs) henter hcall
  obtain ⟨G2,w2,v',fr',s2,e2,r2,st2,hfn,hl⟩:=k1 G1 w1 args' s1 (by have:=(hC.mono (show H1.next ≤ H1.next by omega)).step e1; simpa using this) q2 (fr { b with defers:=mk ++ b.defers } a (.inRangeFunc c :: k) :: cs)
  have hc2:=e2.ext.β _ _ hc
  obtain ⟨lp,u1,u2,u3,u4,u5,u6,u7,u8⟩:=sim_loop s2 hc2 hg1
  obtain ⟨s3,e3⟩:=u8 .exhausted pe
  have hend : (Instr.endLoop c).run P w2 = .ok pe (setLoop w2 c { lp with state:=.exhausted,pending:=pe }):=by
    unfold Instr.endLoop
    rw [Sem.run_bind,getLoop_run u1,Result.andThen_ok]
    have hb2 : (lp.state == LoopState.busy) = false:=by rw [u2]; simpa using hbusy
    rw [hb2]
    have : ({ lp with state:=LoopState.exhausted } : Loop) = { lp with state:=.exhausted,pending:=pe }:=by rw [← u3]
    simp only [Bool.false_eq_true,if_false,Sem.run_bind,Sem.run_pure,Result.andThen_ok]
    rw [this,setObj_run u1,Result.andThen_ok,u3]
  have e123:=e1.trans (e2.trans e3)
  have hfinal : Steps P (lone (fr b a (.code (.rangeFunc f ps as bo) :: k)) cs w) (lone (fr { b with defers:=marks rs1 ++ ds } a ((pe.map Item.code).toList ++ k)) cs (setLoop w2 c { lp with state:=.exhausted,pending:=pe })):=by
    rw [← hmk]
    refine .head hst (st2.trans (.head (step_leave_returned hl) ?_))
    rw [finish_range]
    exact .one (st_endRange hend)
  refine ⟨G2,_,a,rs1,s3,e123,hL.mono e123.ext,hnd,fun r hr => ⟨((hpins r hr).1.step e2).step e3,(hpins r hr).2⟩,hround,?_⟩
  unfold exitOf at he
  split at he <;> simp at he <;> subst he
  · exact hfinal
  · exact ⟨k,hfinal⟩
  · exact ⟨k,rfl,hfinal⟩
def PolOK (P : Program) (B : World) (pol : Pol) : Prop:=∀ f args H v H',insB P f = true→pol.eff f args H = some (v,H')→H.next ≤ H'.next∧CallOK P B f args H v H'
theorem polOK_none {P : Program} {pol : Pol} {B : World} (h : pol.eff = fun _ _ _ => none) : PolOK P B pol:=fun f args H v H' _ he => by rw [h] at he; cases he
theorem stepTask_ok (hpol : PolOK P B pol) (hdraw : DrawOK P B draw) (hrec : RecOK P B rec) : RecOK P B (stepTask P pol draw rec):=by
  intro T H o H' h
  cases T with
  | call f args =>
    simp only [stepTask] at h
    split at h
    · rename_i hi
      simp only [Option.map_eq_some_iff,Prod.mk.injEq] at h
      obtain ⟨⟨v,H1⟩,he,rfl,rfl⟩:=h
      exact hpol f args H v _ hi he
    split at h
    · rename_i fn hf
      split at h
      · rename_i c hb
        split at h
        · rename_i t H1 h1
          simp only [Option.map_eq_some_iff,Prod.mk.injEq] at h
          obtain ⟨v,hv,rfl,rfl⟩:=h
          exact call_ok (o:=.val v) hrec hf hb (.inl rfl) h1 hv
        · rename_i t H1 h1
          simp only [Option.map_eq_some_iff,Prod.mk.injEq] at h
          obtain ⟨v,hv,rfl,rfl⟩:=h
          exact call_ok (o:=.val v) hrec hf hb (.inr rfl) h1 hv
        · cases h
      · cases h
    · cases h
  | code c t =>
    simp only [stepTask] at h
    by_cases hr : ∃ f ps a b,c = .rangeFunc f ps a b
    · obtain ⟨f,ps,a,b,rfl⟩:=hr
      simp only [doCode] at h
      exact range_ok hrec h
    · exact doCode_ok hdraw hrec h (fun f ps a b e => hr ⟨f,ps,a,b,e⟩)
  | loop c t => exact loop_ok hrec h
  | yield l args => exact yield_ok hrec (by simpa only [stepTask] using h)
theorem runD_ok (hpol : PolOK P B pol) (hdraw : DrawOK P B draw) : ∀ n,RecOK P B (runD P pol draw n)
  | 0 => fun T H o H' h => by simp [runD] at h
  | n + 1 => stepTask_ok hpol hdraw (runD_ok hpol hdraw n)
end
end Go.Hem
