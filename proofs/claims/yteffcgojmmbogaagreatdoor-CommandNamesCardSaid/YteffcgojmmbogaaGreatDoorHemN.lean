import Derived.Test.YteffcgojmmbogaaGreatDoorHemM
set_option linter.unusedSimpArgs false
set_option linter.unusedVariables false
namespace Go.Hem
section
variable {P : Program} {B : World} {pol : Pol} {draw : Run→DrawF} {rec : Run}
def rangeCall (f : Operand) (c : Nat) : Call:={ callee:=.value f,args:=#[.const (.func (.yield c) #[] #[])],argTypes:=#[] }
theorem st_range {b : Frame} {a : Array Value} {k : List Item} {cs : List Frame} {w w1 : World} {f : Operand} {ps : Array Tmp} {as bo : Code} {c g : Nat} {mk : List Deferred} {args : Array Value}
    (h1 : (Instr.enterLoop b.fn a ps as bo b.roundOf).run P w = .ok (c,mk) w1)
    (h2 : (do let d ← resolve (fr b a []).eval (rangeCall f c) 0; invoke d.target d.args : Sem Next).run P w1 = .ok (.enter g args) w1) :
    step P (lone (fr b a (.code (.rangeFunc f ps as bo) :: k)) cs w) = .next (lone (Frame.enter P g args .normal) (fr { b with defers:=mk ++ b.defers } a (.inRangeFunc c :: k) :: cs) w1):=by
  refine step_lone_go ?_
  have he : (fr { b with defers:=mk ++ b.defers } a (.inRangeFunc c :: k)).eval = (fr b a []).eval:=funext fun x => by cases x <;> rfl
  simp only [fr] at he h2
  simp only [rangeCall] at h2
  simp only [stepG,stepG.exec,fr,Sem.runT_eq,h1,GStep.bare_after]
  simp only [stepG.apply,he,Sem.runT_eq,h2,GStep.bare_after,if_true]
  rfl
theorem st_endRange {b : Frame} {a : Array Value} {k : List Item} {cs : List Frame} {w w1 : World} {c : Nat} {jump : Option Code} (h : (Instr.endLoop c).run P w = .ok jump w1) :
    step P (lone (fr b a (.endRangeFunc c :: k)) cs w) = .next (lone (fr b a ((jump.map Item.code).toList ++ k)) cs w1) :=
  step_lone_go (by simp [stepG,stepG.exec,fr,h])
theorem finish_range (b : Frame) (a : Array Value) (k : List Item) (c : Nat) (v : Value) : (fr b a (.inRangeFunc c :: k)).finish v = fr b a (.endRangeFunc c :: k):=rfl
theorem range_ok (hrec : RecOK P B rec) {f : Operand} {ps : Array Tmp} {as bo : Code} {t : List AV} {H H' : AHeap} {o : Out} (h : doRange P rec f ps.toList as bo t H = some (o,H')) :
    H.next ≤ H'.next∧TaskOK P B (.code (.rangeFunc f ps as bo) t) H o H':=by
  unfold doRange at h
  split at h
  rotate_left
  · cases h
  rename_i g first captured hf
  split at h
  rotate_left
  · cases h
  rename_i g' args hac
  split at h
  rotate_left
  · cases h
  rename_i v H1 h1
  split at h
  rotate_left
  · cases h
  rename_i st pe t' ps' as' bo' hg1
  split at h
  · cases h
  rename_i hbusy
  simp only [Option.map_eq_some_iff,Prod.mk.injEq] at h
  obtain ⟨e,he,rfl,rfl⟩:=h
  obtain ⟨l1,k1⟩:=hrec _ _ _ _ h1
  simp only [AHeap.next_alloc] at l1
  refine ⟨by simp; omega,?_⟩
  intro G w a b k cs rs hS hC hL hR hb hn hp
  simp only [AHeap.next_put] at hC
  have hcl : G.β H.next = none:=hC _ (Nat.le_refl _) (by omega)
  -- the loop's block is laid
  have lay : ∃ c mk rs1 G1 w1,(Instr.enterLoop b.fn a ps as bo b.roundOf).run P w = .ok (c,mk) w1∧mk ++ b.defers = marks rs1∧rs1.Nodup∧G1.β H.next = some c ∧
      Sim B G1 (H.alloc (.loop .ready none t ps.toList as bo)) w1∧Step G H w G1 (H.alloc (.loop .ready none t ps.toList as bo)) w1 ∧
      (∀ r ∈ rs1,Pin G1 (H.alloc (.loop .ready none t ps.toList as bo)) w1 r∧(r ∈ rs ∨ w.heap.size ≤ r))∧(b.roundOf.isSome→rs1 = rs):=by
    rcases hR with hR | ⟨c0,l0,hR,hl0⟩
    · let od : Obj:=.deferred (some [])
      let lp : Loop:={ state:=.ready,pending:=none,fn:=b.fn,tmps:=a,params:=ps,assign:=as,body:=bo,defers:=w.heap.size }
      obtain ⟨sA,eA⟩:=sim_extra hS (push_alloc w od) trivial rfl
      have hbr : BR G (.loop .ready none t ps.toList as bo) (Obj.loop lp):=⟨rfl,rfl,hL,rfl,rfl,rfl⟩
      obtain ⟨sB,eB⟩:=sim_push (H:=H) sA (push_alloc (w.alloc od) (Obj.loop lp)) hbr trivial hcl
      have hnew : (w.alloc od).heap[w.heap.size]? = some od:=(push_alloc w od).2.2.1
      have hpin : Pin G H (w.alloc od) w.heap.size:=by
        refine ⟨hnew,?_,fun b x _ h => absurd (hS.rng _ _ h) (by omega)⟩
        cases hq : G.fz w.heap.size with
        | none => rfl
        | some o => exact absurd (Array.getElem?_eq_some_iff.1 (hS.fz _ _ hq)).1 (by omega)
      refine ⟨w.heap.size + 1,[{ target:=.collected w.heap.size,args:=#[] }],w.heap.size :: rs,_,_,?_,?_,?_,?_,sB,eA.trans eB,?_,?_⟩
      · rw [hR]
        simp [Instr.enterLoop,od,lp]
      · rw [hb]; rfl
      · simp only [List.nodup_cons]
        refine ⟨fun hmem => ?_,hn⟩
        have:=(Array.getElem?_eq_some_iff.1 (hp _ hmem).1).1
        omega
      · simp [Gh.at]
      · intro r hr
        rcases List.mem_cons.1 hr with rfl | hr
        · exact ⟨hpin.step eB,.inr (Nat.le_refl _)⟩
        · exact ⟨((hp r hr).step eA).step eB,.inl hr⟩
      · intro h; rw [hR] at h; cases h
    · let lp : Loop:={ state:=.ready,pending:=none,fn:=b.fn,tmps:=a,params:=ps,assign:=as,body:=bo,defers:=l0.defers }
      have hbr : BR G (.loop .ready none t ps.toList as bo) (Obj.loop lp):=⟨rfl,rfl,hL,rfl,rfl,rfl⟩
      obtain ⟨sB,eB⟩:=sim_push (H:=H) hS (push_alloc w (Obj.loop lp)) hbr trivial hcl
      refine ⟨w.heap.size,[],rs,_,_,?_,?_,hn,?_,sB,eB,?_,fun _ => rfl⟩
      · rw [hR]
        simp [Instr.enterLoop,getLoop_run hl0,lp]
      · rw [hb]; rfl
      · simp [Gh.at]
      · intro r hr; exact ⟨(hp r hr).step eB,.inl hr⟩
  obtain ⟨c,mk,rs1,G1,w1,henter,hmk,hnd,hc,s1,e1,hpins,hround⟩:=lay
  -- the function is called
  have hv:=hf ▸ (hL.mono e1.ext).eval b [] f
  obtain ⟨f',c',hr,k3,k4,k5,k6⟩ : ∃ f' c' : List Value,(fr b a []).eval f = .func (.func g) f'.toArray c'.toArray∧first.length = f'.length∧captured.length = c'.length ∧
      (∀ i (h : i < first.length) (h' : i < f'.length),VR G1 (first[i]) (f'[i]))∧(∀ i (h : i < captured.length) (h' : i < c'.length),VR G1 (captured[i]) (c'[i])):=by
    cases hr : (fr b a []).eval f <;> rw [hr] at hv <;> cases hv
    exact ⟨_,_,rfl,by assumption,by assumption,by assumption,by assumption⟩
  have hargs : VRs G1 (first ++ [.yield H.next] ++ captured) (f'.toArray ++ #[Value.func (.yield c) #[] #[]] ++ c'.toArray).toList:=by
    simp only [Array.toList_append]
    exact (VRs.append ⟨k3,k5⟩ (VRs.cons (.yield hc) VRs.nil)).append ⟨k4,k6⟩
  obtain ⟨args',q1,q2⟩:=acallee_sim (H:=H) (w:=w1) (P:=P) hargs hac
  have hcall : (do let d ← resolve (fr b a []).eval (rangeCall f c) 0; invoke d.target d.args : Sem Next).run P w1 = .ok (.enter g' args') w1:=by
    simp only [resolve,rangeCall,Deferred.ofValue,hr]
    simpa [invoke,Frame.eval] using q1
  have hst:=st_range (k:=k) (cs:=cs) henter hcall
  obtain ⟨G2,w2,v',fr',s2,e2,r2,st2,hfn,hl⟩:=k1 G1 w1 args' s1 (by have:=(hC.mono (show H1.next ≤ H1.next by omega)).step e1; simpa using this) q2 (fr { b with defers:=mk ++ b.defers } a (.inRangeFunc c :: k) :: cs)
  have hc2:=e2.ext.β _ _ hc
  obtain ⟨lp,u1,u2,u3,u4,u5,u6,u7,u8⟩:=sim_loop s2 hc2 hg1
  obtain ⟨s3,e3⟩:=u8 .exhausted pe
  have hend : (Instr.endLoop c).run P w2 = .ok pe (setLoop w2 c { lp with state:=.exhausted,pending:=pe }):=by
    unfold Instr.endLoop
    rw [Sem.run_bind,getLoop_run u1,Result.andThen_ok]
    have hb2 : (lp.state == LoopState.busy) = false:=by rw [u2]; simpa using hbusy
    rw [hb2]
    have : ({ lp with state:=LoopState.exhausted } : Loop) = { lp with state:=.exhausted,pending:=pe }:=by rw [← u3]
    simp only [Bool.false_eq_true,if_false,Sem.run_bind,Sem.run_pure,Result.andThen_ok]
    rw [this,setObj_run u1,Result.andThen_ok,u3]
  have e123:=e1.trans (e2.trans e3)
  have hfinal : Steps P (lone (fr b a (.code (.rangeFunc f ps as bo) :: k)) cs w) (lone (fr { b with defers:=marks rs1 } a ((pe.map Item.code).toList ++ k)) cs (setLoop w2 c { lp with state:=.exhausted,pending:=pe })):=by
    rw [← hmk]
    refine .head hst (st2.trans (.head (step_leave_returned hl) ?_))
    rw [finish_range]
    exact .one (st_endRange hend)
  refine ⟨G2,_,a,rs1,s3,e123,hL.mono e123.ext,hnd,fun r hr => ⟨((hpins r hr).1.step e2).step e3,(hpins r hr).2⟩,hround,?_⟩
  unfold exitOf at he
  split at he <;> simp at he <;> subst he
  · exact hfinal
  · exact ⟨k,hfinal⟩
  · exact ⟨k,rfl,hfinal⟩
def PolOK (P : Program) (pol : Pol) : Prop:=∀ B f args H v H',insB P f = true→pol.eff f args H = some (v,H')→H.next ≤ H'.next∧CallOK P B f args H v H'
theorem polOK_none {P : Program} {pol : Pol} (h : pol.eff = fun _ _ _ => none) : PolOK P pol:=fun B f args H v H' _ he => by rw [h] at he; cases he
theorem stepTask_ok (hpol : PolOK P pol) (hdraw : DrawOK P B draw) (hrec : RecOK P B rec) : RecOK P B (stepTask P pol draw rec):=by
  intro T H o H' h
  cases T with
  | call f args =>
    simp only [stepTask] at h
    split at h
    · rename_i hi
      simp only [Option.map_eq_some_iff,Prod.mk.injEq] at h
      obtain ⟨⟨v,H1⟩,he,rfl,rfl⟩:=h
      exact hpol B f args H v _ hi he
    split at h
    · rename_i fn hf
      split at h
      · rename_i c hb
        split at h
        · rename_i t H1 h1
          simp only [Option.map_eq_some_iff,Prod.mk.injEq] at h
          obtain ⟨v,hv,rfl,rfl⟩:=h
          exact call_ok (o:=.val v) hrec hf hb (.inl rfl) h1 hv
        · rename_i t H1 h1
          simp only [Option.map_eq_some_iff,Prod.mk.injEq] at h
          obtain ⟨v,hv,rfl,rfl⟩:=h
          exact call_ok (o:=.val v) hrec hf hb (.inr rfl) h1 hv
        · cases h
      · cases h
    · cases h
  | code c t =>
    simp only [stepTask] at h
    by_cases hr : ∃ f ps a b,c = .rangeFunc f ps a b
    · obtain ⟨f,ps,a,b,rfl⟩:=hr
      simp only [doCode] at h
      exact range_ok hrec h
    · exact doCode_ok hdraw hrec h (fun f ps a b e => hr ⟨f,ps,a,b,e⟩)
  | loop c t => exact loop_ok hrec h
  | yield l args => exact yield_ok hrec (by simpa only [stepTask] using h)
theorem runD_ok (hpol : PolOK P pol) (hdraw : DrawOK P B draw) : ∀ n,RecOK P B (runD P pol draw n)
  | 0 => fun T H o H' h => by simp [runD] at h
  | n + 1 => stepTask_ok hpol hdraw (runD_ok hpol hdraw n)
end
end Go.Hem
