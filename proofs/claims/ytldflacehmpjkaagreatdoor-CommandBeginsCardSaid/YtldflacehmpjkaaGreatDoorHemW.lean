import Derived.Test.YtldflacehmpjkaaGreatDoorHemV
namespace Go.Hem
inductive CC where
  | skip
  | ops (l : List CI)
  | seq (a b : CC)
  | cond (c : Operand) (a b : CC)
  | block (id : Nat) (b : CC)
  | loop (b : CC)
  | exit (id : Nat)
  | ret
  | range (f : Operand) (ps : Array Tmp) (a b : Code) (ca cb : CC)
def planFine (ops : Array Oper) (p : Plan) : Bool :=
  decide (p.ord.length ≤ ops.size) && planOk ops p.masks p.ord [] && ((List.range ops.size).all fun j => p.ord.contains j)
def comp (P : Program) : Code→Option CC
  | .skip => some .skip
  | .label _ => some .skip
  | .region _ ops false => (ops.toList.mapM (ciM P ops)).map .ops
  | .region _ ops true => if planFine ops (mkPlan ops) = true then (compD P ops (mkPlan ops).masks [] (mkPlan ops).ord).map .ops else none
  | .seq a b => (comp P a).bind fun x => (comp P b).map fun y => .seq x y
  | .cond c a b => (comp P a).bind fun x => (comp P b).map fun y => .cond c x y
  | .block id b => (comp P b).map fun x => .block id x
  | .loop b => (comp P b).map fun x => .loop x
  | .scope b => comp P b
  | .exit id => some (.exit id)
  | .ret => some .ret
  | .rangeFunc f ps a b => (comp P a).bind fun x => (comp P b).map fun y => .range f ps a b x y
  | _ => none
abbrev Post:=AExit→List AV→AHeap→Prop
def wpIter (body : List AV→AHeap→Post→Prop) : Nat→List AV→AHeap→Post→Prop
  | 0,_,_,_ => False
  | n + 1,t,H,Q => body t H fun e t' H' =>
    match e with
    | .normal => wpIter body n t' H' Q
    | .exit id => Q (.exit id) t' H'
    | .ret => Q .ret t' H'
def thenC (Q : Post) (next : List AV→AHeap→Prop) : Post
  | .normal,t,H => next t H
  | .exit id,t,H => Q (.exit id) t H
  | .ret,t,H => Q .ret t H
def blockC (id : Nat) (Q : Post) : Post
  | .normal,t,H => Q .normal t H
  | .exit id',t,H => if id' = id then Q .normal t H else Q (.exit id') t H
  | .ret,t,H => Q .ret t H
def wpC (P : Program) (pol : Pol) : CC→List AV→AHeap→Post→Prop
  | .skip,t,H,Q => Q .normal t H
  | .ops l,t,H,Q => wpIns P pol l t H (Q .normal)
  | .seq a b,t,H,Q => wpC P pol a t H (thenC Q fun t1 H1 => wpC P pol b t1 H1 Q)
  | .cond c a b,t,H,Q =>
    match aev t c with
    | .sc (.bool d) => if d = true then wpC P pol a t H Q else wpC P pol b t H Q
    | _ => False
  | .block id b,t,H,Q => wpC P pol b t H (blockC id Q)
  | .loop b,t,H,Q => ∃ n,wpIter (wpC P pol b) n t H Q
  | .exit id,t,H,Q => Q (.exit id) t H
  | .ret,t,H,Q => Q .ret t H
  | .range f ps a b ca cb,t,H,Q => comp P a = some ca→comp P b = some cb→Ev P pol (.code (.rangeFunc f ps a b) t) H fun o H' => ∃ e t',o = .ex e t'∧Q e t' H'
theorem wpEff_mono {P : Program} {pol : Pol} {l : AHeap→Prop} {H : AHeap} {Q R : AV→AHeap→Prop} (k : ∀ v H',Q v H'→R v H') {e : Eff} (h : wpEff P pol l H Q e) : wpEff P pol l H R e:=by
  cases e with
  | val v => exact k _ _ h
  | new x mk => exact k _ _ h
  | mem v b x => exact ⟨h.1,k _ _ h.2⟩
  | memM v b x => exact ⟨h.1,k _ _ h.2⟩
  | fzn v => exact k _ _ h
  | newT T x mk => exact k _ _ h
  | move mk b x => exact ⟨h.1,k _ _ h.2⟩
  | moveT T mk b x => exact ⟨h.1,k _ _ h.2⟩
  | call f args =>
    simp only [wpEff] at h ⊢
    split at h
    · rename_i hp; rw [if_pos hp]
      rcases h with ⟨v,h1,h2⟩ | ⟨args',H0,v,hc,hfz,h1,h2⟩
      · exact .inl ⟨v,h1,k _ _ h2⟩
      · refine .inr ⟨args',H0,v,hc,hfz,h1,?_⟩
        rcases h2 with ⟨g1,g2⟩ | ⟨g1,g2,g3⟩
        · exact .inl ⟨g1,k _ _ g2⟩
        · exact .inr ⟨g1,g2,k _ _ g3⟩
    · rename_i hp; rw [if_neg hp]
      exact h.mono fun o H' ⟨v,h1,h2,h3⟩ => ⟨v,h1,h2,k _ _ h3⟩
  | yield l args => exact Ev.mono h fun o H' ⟨v,h1,h2,h3⟩ => ⟨v,h1,h2,k _ _ h3⟩
theorem wpIns_mono {P : Program} {pol : Pol} {Q R : List AV→AHeap→Prop} (k : ∀ t H,Q t H→R t H) : ∀ {l : List CI} {t : List AV} {H : AHeap},wpIns P pol l t H Q→wpIns P pol l t H R
  | [],_,_,h => k _ _ h
  | i :: is,t,H,h => by
    simp only [wpIns] at h ⊢
    split at h
    · rename_i hw
      cases he : csem P t H i.op with
      | none => rw [he] at h; exact h.elim
      | some e =>
        rw [he] at h
        have h : wpEff P pol (reK P t H i.rd) H (fun v H' => wpIns P pol is (putT t i.dst v) H' Q) e:=h
        exact wpEff_mono (R:=fun v H' => wpIns P pol is (putT t i.dst v) H' R) (fun v H' h => wpIns_mono k h) h
    · exact wpIns_mono k h
    · exact h.elim
theorem thenC_mono {Q R : Post} {f g : List AV→AHeap→Prop} (k : ∀ e t H,Q e t H→R e t H) (j : ∀ t H,f t H→g t H) : ∀ e t H,thenC Q f e t H→thenC R g e t H
  | .normal,_,_,h => j _ _ h
  | .exit _,_,_,h => k _ _ _ h
  | .ret,_,_,h => k _ _ _ h
theorem blockC_mono {Q R : Post} {id : Nat} (k : ∀ e t H,Q e t H→R e t H) : ∀ e t H,blockC id Q e t H→blockC id R e t H
  | .normal,_,_,h => k _ _ _ h
  | .exit id',t,H,h => by
    simp only [blockC] at h ⊢
    split at h
    · rename_i e; rw [if_pos e]; exact k _ _ _ h
    · rename_i e; rw [if_neg e]; exact k _ _ _ h
  | .ret,_,_,h => k _ _ _ h
theorem wpIter_mono {body : List AV→AHeap→Post→Prop} (hb : ∀ (t : List AV) (H : AHeap) (Q R : Post),(∀ e t H,Q e t H→R e t H)→body t H Q→body t H R) {Q R : Post} (k : ∀ e t H,Q e t H→R e t H) :
    ∀ {n : Nat} {t : List AV} {H : AHeap},wpIter body n t H Q→wpIter body n t H R
  | 0,_,_,h => h
  | n + 1,t,H,h => by
    simp only [wpIter] at h ⊢
    refine hb _ _ _ _ (fun e t' H' q => ?_) h
    cases e with
    | normal => exact wpIter_mono hb k q
    | exit id => exact k _ _ _ q
    | ret => exact k _ _ _ q
theorem wpC_mono {P : Program} {pol : Pol} : ∀ {c : CC} {t : List AV} {H : AHeap} {Q R : Post},(∀ e t H,Q e t H→R e t H)→wpC P pol c t H Q→wpC P pol c t H R
  | .skip,_,_,_,_,k,h => k _ _ _ h
  | .ops l,_,_,_,_,k,h => wpIns_mono (k _) h
  | .seq a b,_,_,_,_,k,h => wpC_mono (c:=a) (thenC_mono k fun _ _ q => wpC_mono (c:=b) k q) h
  | .cond c a b,t,H,Q,R,k,h => by
    simp only [wpC] at h ⊢
    split at h
    · split at h
      · rename_i q; rw [if_pos q]; exact wpC_mono k h
      · rename_i q; rw [if_neg q]; exact wpC_mono k h
    · exact h.elim
  | .block id b,_,_,_,_,k,h => wpC_mono (c:=b) (blockC_mono k) h
  | .loop b,t,H,Q,R,k,h => by
    obtain ⟨n,h⟩:=h
    exact ⟨n,wpIter_mono (body:=wpC P pol b) (fun t H Q R k q => wpC_mono (c:=b) k q) k h⟩
  | .exit _,_,_,_,_,k,h => k _ _ _ h
  | .ret,_,_,_,_,k,h => k _ _ _ h
  | .range ..,_,_,_,_,k,h => fun ha hb => Ev.mono (h ha hb) fun o H' ⟨e,t',h1,h2⟩ => ⟨e,t',h1,k _ _ _ h2⟩
theorem code_succ {P : Program} {pol : Pol} {n : Nat} {c : Code} {t : List AV} {H : AHeap} : run P pol (n + 1) (.code c t) H = doCode P pol (doDraw P pol) (run P pol n) t H c:=rfl
abbrev EvC (P : Program) (pol : Pol) (c : Code) (t : List AV) (H : AHeap) (Q : Post) : Prop:=Ev P pol (.code c t) H fun o H' => ∃ e t',o = .ex e t'∧Q e t' H'
theorem iter_ok {P : Program} {pol : Pol} {c : Code} {b : CC} (hb : ∀ {t H Q},wpC P pol b t H Q→EvC P pol c t H Q) {Q : Post} : ∀ {n : Nat} {t : List AV} {H : AHeap},wpIter (wpC P pol b) n t H Q→Ev P pol (.loop c t) H fun o H' => ∃ e t',o = .ex e t'∧Q e t' H'
  | 0,_,_,h => h.elim
  | n + 1,t,H,h => by
    obtain ⟨m,o,H',h1,e,t',rfl,h2⟩:=hb h
    cases e with
    | normal =>
      obtain ⟨k,o,H2,k1,k2⟩:=iter_ok hb h2
      refine ⟨max m k + 1,o,H2,?_,k2⟩
      have a1:=run_le (Nat.le_max_left m k) _ _ _ h1
      have a2:=run_le (Nat.le_max_right m k) _ _ _ k1
      show stepTask P pol _ (run P pol (max m k)) (.loop c t) H = _
      simp only [stepTask,a1,a2]
    | exit id => exact ⟨m + 1,_,H',by show stepTask P pol _ (run P pol m) (.loop c t) H = _; simp only [stepTask,h1],_,_,rfl,h2⟩
    | ret => exact ⟨m + 1,_,H',by show stepTask P pol _ (run P pol m) (.loop c t) H = _; simp only [stepTask,h1],_,_,rfl,h2⟩
theorem comp_ok {P : Program} {pol : Pol} : ∀ {c : Code} {cc : CC} {t : List AV} {H : AHeap} {Q : Post},comp P c = some cc→wpC P pol cc t H Q→EvC P pol c t H Q:=by
  intro c
  induction c with
  | skip => intro cc t H Q hc h; simp only [comp,Option.some.injEq] at hc; subst hc; exact ⟨1,_,H,rfl,_,_,rfl,h⟩
  | label l => intro cc t H Q hc h; simp only [comp,Option.some.injEq] at hc; subst hc; exact ⟨1,_,H,rfl,_,_,rfl,h⟩
  | exit id => intro cc t H Q hc h; simp only [comp,Option.some.injEq] at hc; subst hc; exact ⟨1,_,H,rfl,_,_,rfl,h⟩
  | ret => intro cc t H Q hc h; simp only [comp,Option.some.injEq] at hc; subst hc; exact ⟨1,_,H,rfl,_,_,rfl,h⟩
  | region id ops d =>
    intro cc t H Q hc h
    cases d with
    | false =>
      simp only [comp,Option.map_eq_some_iff] at hc
      obtain ⟨is,h1,rfl⟩:=hc
      obtain ⟨n,r,h2,h3⟩:=ops_ok h1 h
      exact ⟨n + 1,.ex .normal r.1,r.2,by rw [code_succ]; simp [doCode,h2],_,_,rfl,h3⟩
    | true =>
      simp only [comp] at hc
      split at hc
      · rename_i hp
        simp only [Option.map_eq_some_iff] at hc
        obtain ⟨is,h1,rfl⟩:=hc
        obtain ⟨n,tr,t',H',h2,h3,h4,_⟩:=draw_ok h1 h
        refine ⟨n + 1,.ex .normal t',H',?_,_,_,rfl,h3⟩
        rw [code_succ]
        simp only [planFine,Bool.and_eq_true,decide_eq_true_eq] at hp
        simp only [doCode,doDraw]
        rw [if_pos ⟨hp.1.1,hp.1.2,hp.2⟩,h2]
        simp [h4]
      · cases hc
  | seq a b iha ihb =>
    intro cc t H Q hc h
    simp only [comp,Option.bind_eq_some_iff,Option.map_eq_some_iff] at hc
    obtain ⟨x,hx,y,hy,rfl⟩:=hc
    obtain ⟨n,o,H',h1,e,t',rfl,h2⟩:=iha hx h
    cases e with
    | normal =>
      obtain ⟨m,o,H2,k1,k2⟩:=ihb hy h2
      refine ⟨max n m + 1,o,H2,?_,k2⟩
      have a1:=run_le (Nat.le_max_left n m) _ _ _ h1
      have a2:=run_le (Nat.le_max_right n m) _ _ _ k1
      rw [code_succ]; simp only [doCode,a1,a2]
    | exit id => exact ⟨n + 1,_,H',by rw [code_succ]; simp only [doCode,h1],_,_,rfl,h2⟩
    | ret => exact ⟨n + 1,_,H',by rw [code_succ]; simp only [doCode,h1],_,_,rfl,h2⟩
  | cond c a b iha ihb =>
    intro cc t H Q hc h
    simp only [comp,Option.bind_eq_some_iff,Option.map_eq_some_iff] at hc
    obtain ⟨x,hx,y,hy,rfl⟩:=hc
    simp only [wpC] at h
    split at h
    · rename_i d hd
      split at h
      · rename_i q; subst q
        obtain ⟨n,o,H',h1,h2⟩:=iha hx h
        exact ⟨n + 1,o,H',by rw [code_succ]; simp only [doCode,hd,h1],h2⟩
      · rename_i q; simp only [Bool.not_eq_true] at q; subst q
        obtain ⟨n,o,H',h1,h2⟩:=ihb hy h
        exact ⟨n + 1,o,H',by rw [code_succ]; simp only [doCode,hd,h1],h2⟩
    · exact h.elim
  | block id b ihb =>
    intro cc t H Q hc h
    simp only [comp,Option.map_eq_some_iff] at hc
    obtain ⟨x,hx,rfl⟩:=hc
    obtain ⟨n,o,H',h1,e,t',rfl,h2⟩:=ihb hx h
    cases e with
    | normal => exact ⟨n + 1,_,H',by rw [code_succ]; simp only [doCode,h1],_,_,rfl,h2⟩
    | ret => exact ⟨n + 1,_,H',by rw [code_succ]; simp only [doCode,h1],_,_,rfl,h2⟩
    | exit id' =>
      simp only [blockC] at h2
      split at h2
      · rename_i q; exact ⟨n + 1,_,H',by rw [code_succ]; simp only [doCode,h1,q,if_true],_,_,rfl,h2⟩
      · rename_i q; exact ⟨n + 1,_,H',by rw [code_succ]; simp only [doCode,h1,if_neg q],_,_,rfl,h2⟩
  | loop b ihb =>
    intro cc t H Q hc h
    simp only [comp,Option.map_eq_some_iff] at hc
    obtain ⟨x,hx,rfl⟩:=hc
    obtain ⟨k,h⟩:=h
    obtain ⟨n,o,H',h1,h2⟩:=iter_ok (c:=b) (fun {t H Q} q => ihb hx q) h
    exact ⟨n + 1,o,H',h1,h2⟩
  | scope b ihb =>
    intro cc t H Q hc h
    simp only [comp] at hc
    obtain ⟨n,o,H',h1,h2⟩:=ihb hc h
    exact ⟨n + 1,o,H',h1,h2⟩
  | rangeFunc f ps a b _ _ =>
    intro cc t H Q hc h
    simp only [comp,Option.bind_eq_some_iff,Option.map_eq_some_iff] at hc
    obtain ⟨x,hx,y,hy,rfl⟩:=hc
    exact h hx hy
  | _ => intro cc t H Q hc h; simp [comp] at hc
inductive CR where
  | tmp (i : Nat)
  | cell1 (a : Nat)
  | cellN (n a : Nat)
structure CF where
  cc : CC
  ntmps : Nat
  results : List CR
def cres (P : Program) : ResultVar→Option CR
  | .tmp i => some (.tmp i)
  | .cell a T => (isAggB P T).bind fun g => if g = true then (szOf P T).map fun n => .cellN n a else some (.cell1 a)
def compF (P : Program) (f : FuncId) : Option CF :=
  (P.funcs[f]?).bind fun fn => fn.body.bind fun c => match insB P f with
    | true => none
    | false => (comp P c).bind fun cc => (fn.results.toList.mapM (cres P)).map fun rs => ⟨cc,fn.ntmps,rs⟩
def cresult (t : List AV) (H : AHeap) : CR→Option AV
  | .tmp i => some (t.getD i (.sc .undef))
  | .cell1 a => read1 H (t.getD a (.sc .undef))
  | .cellN n a => readN H n (t.getD a (.sc .undef))
def tupOf : List AV→AV
  | [v] => v
  | vs => .tup vs
def cresults (t : List AV) (H : AHeap) (rs : List CR) : Option AV:=(rs.mapM (cresult t H)).map tupOf
theorem cresults_ok {P : Program} {t : List AV} {H : AHeap} {fn : Func} {rs : List CR} (h : fn.results.toList.mapM (cres P) = some rs) : aresults P fn t H = cresults t H rs:=by
  have one : ∀ (r : ResultVar) (q : CR),cres P r = some q→aresult P t H r = cresult t H q:=by
    intro r q hq
    cases r with
    | tmp i => simp only [cres,Option.some.injEq] at hq; subst hq; rfl
    | cell a T =>
      simp only [cres,Option.bind_eq_some_iff] at hq
      obtain ⟨g,hg,hq⟩:=hq
      simp only [aresult,aload_eq hg]
      split at hq
      · rename_i h1; simp only [Option.map_eq_some_iff] at hq
        obtain ⟨n,hn,rfl⟩:=hq
        rw [if_pos h1,hn]; rfl
      · rename_i h1; simp only [Option.some.injEq] at hq; subst hq; rw [if_neg h1]; rfl
  have all : ∀ (l : List ResultVar) (rs : List CR),l.mapM (cres P) = some rs→l.mapM (aresult P t H) = rs.mapM (cresult t H):=by
    intro l
    induction l with
    | nil => intro rs h; simp at h; subst h; rfl
    | cons r l ih =>
      intro rs h
      simp only [List.mapM_cons,Option.bind_eq_bind,Option.bind_eq_some_iff,Option.pure_def,Option.some.injEq] at h
      obtain ⟨q,hq,qs,hqs,rfl⟩:=h
      simp only [List.mapM_cons,one r q hq,ih qs hqs]
  unfold aresults cresults
  rw [all _ _ h]
  cases rs.mapM (cresult t H) with
  | none => rfl
  | some vs =>
    cases vs with
    | nil => rfl
    | cons v vs => cases vs <;> rfl
def resC (rs : List CR) (Q : AV→AHeap→Prop) : Post
  | .exit _,_,_ => False
  | _,t,H => ∃ v,cresults t H rs = some v∧Q v H
def wpF (P : Program) (pol : Pol) (cf : CF) (args : List AV) (H : AHeap) (Q : AV→AHeap→Prop) : Prop :=
  wpC P pol cf.cc (args ++ List.replicate (cf.ntmps - args.length) (.sc .undef)) H (resC cf.results Q)
theorem wpF_ok {P : Program} {pol : Pol} {f : FuncId} {cf : CF} (hf : compF P f = some cf) {args : List AV} {H : AHeap} {Q : AV→AHeap→Prop} (h : wpF P pol cf args H Q) :
    Ev P pol (.call f args) H fun o H' => ∃ v,o = .val v∧Q v H':=by
  simp only [compF,Option.bind_eq_some_iff] at hf
  obtain ⟨fn,hfn,c,hc,hf⟩:=hf
  split at hf
  · cases hf
  rename_i hins0
  have hins : ¬ insB P f = true:=by rw [hins0]; decide
  simp only [Option.bind_eq_some_iff,Option.map_eq_some_iff] at hf
  obtain ⟨cc,hcc,rs,hrs,rfl⟩:=hf
  obtain ⟨n,o,H',h1,e,t',rfl,h2⟩:=comp_ok hcc h
  have go : ∀ v,cresults t' H' rs = some v→Q v H'→(e = .normal ∨ e = .ret)→Ev P pol (.call f args) H fun o H' => ∃ v,o = .val v∧Q v H':=by
    intro v hv hq he
    refine ⟨n + 1,.val v,H',?_,v,rfl,hq⟩
    show stepTask P pol _ (run P pol n) (.call f args) H = _
    simp only [stepTask,if_neg hins,hfn,hc,h1]
    rcases he with rfl | rfl <;> simp [cresults_ok hrs,hv]
  cases e with
  | normal => obtain ⟨v,h3,h4⟩:=h2; exact go v h3 h4 (.inl rfl)
  | ret => obtain ⟨v,h3,h4⟩:=h2; exact go v h3 h4 (.inr rfl)
  | exit id => exact h2.elim
theorem Pv_of {P : Program} {pol : Pol} {f : FuncId} {cf : CF} (hf : compF P f = some cf) {args : List AV} {u : AV} (hc : AV.closedBs args = true)
    (h : wpF P pol cf args {} fun v H' => ∃ H1,freeze v H' = some (u,H1)∧AV.closedB u = true) : Pv P pol f args u:=by
  obtain ⟨n,o,H',h1,v,rfl,H1,h2,h3⟩:=wpF_ok hf h
  exact ⟨hc,n,v,H',H1,h1,h2,h3⟩
end Go.Hem
