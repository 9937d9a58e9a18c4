import Derived.Test.YteffcgojmmbogaaGreatDoorHemO
set_option linter.unusedSimpArgs false
set_option linter.unusedVariables false
namespace Go.Hem
section
variable {P : Program} {B : World} {pol : Pol} {rec : Run} {ops : Array Oper} {M : List Nat}
def dstOf (ops : Array Oper) (j : Nat) : Option Tmp:=(ops[j]?).bind (·.dst)
structure Placed (ops : Array Oper) (M : List Nat) (pre : List Nat) (j : Nat) (o : Oper) : Prop where
  op : ops[j]? = some o
  fresh : j ∉ pre
  edges : ∀ e ∈ o.after,Region.binds .any e = true→e.on ∈ pre
  mask : M.getD j 0 = edgesMask o M
  held : ∀ i ∈ pre,∀ oi,ops[i]? = some oi→(clash ops oi o || isW oi) = true→(M.getD j 0).testBit i = true
theorem planOk_spec : ∀ (l : List Nat) (done : List (Nat × Oper)),(∀ x ∈ done,ops[x.1]? = some x.2)→planOk ops M l done = true→∀ pre j post,l = pre ++ j :: post→∃ o,Placed ops M (done.map (·.1) ++ pre) j o
  | [],done,hd,h,pre,j,post,e => by simp at e
  | i :: rest,done,hd,h,pre,j,post,e => by
    simp only [planOk] at h
    split at h
    · rename_i o ho
      simp only [Bool.and_eq_true,List.all_eq_true,bne_iff_ne,ne_eq,beq_iff_eq,Bool.or_eq_true,Bool.not_eq_true'] at h
      obtain ⟨⟨⟨⟨h1,h2⟩,h3⟩,h4⟩,h5⟩:=h
      cases pre with
      | nil =>
        simp only [List.nil_append,List.cons.injEq] at e
        obtain ⟨rfl,rfl⟩:=e
        refine ⟨o,ho,?_,?_,h3,?_⟩
        · simp only [List.append_nil,List.mem_map,not_exists,not_and]
          exact fun x hx e => h1 x hx e
        · intro ed hed hb
          simp only [readyAt,List.all_eq_true,Bool.or_eq_true,Bool.not_eq_true',List.contains_iff_mem] at h2
          have:=h2 ed (by simpa using hed)
          simp only [List.append_nil]
          exact this.resolve_left (by simp [hb])
        · intro k hk ok hok hc
          simp only [List.append_nil,List.mem_map] at hk
          obtain ⟨x,hx,rfl⟩:=hk
          have hx2:=hd x hx
          rw [hok] at hx2
          cases hx2
          rcases h4 x hx with h6 | h6
          · simp only [Bool.or_eq_false_iff] at h6
            rw [h6.1,h6.2] at hc; cases hc
          · exact h6
      | cons p pre' =>
        simp only [List.cons_append,List.cons.injEq] at e
        obtain ⟨rfl,e⟩:=e
        obtain ⟨o',hp⟩:=planOk_spec rest ((i,o) :: done) (fun x hx => by
          rcases List.mem_cons.1 hx with rfl | hx
          · exact ho
          · exact hd x hx) h5 pre' j post e
        refine ⟨o',hp.op,?_,?_,hp.mask,?_⟩
        · have:=hp.fresh
          simp only [List.map_cons,List.cons_append,List.mem_cons,List.mem_append,not_or] at this
          simp only [List.mem_append,List.mem_cons,not_or]
          exact ⟨this.2.1,this.1,this.2.2⟩
        · intro ed hed hb
          have:=hp.edges ed hed hb
          simp only [List.map_cons,List.cons_append,List.mem_cons,List.mem_append] at this ⊢
          rcases this with h | h | h
          · exact .inr (.inl h)
          · exact .inl h
          · exact .inr (.inr h)
        · intro k hk ok hok hc
          refine hp.held k ?_ ok hok hc
          simp only [List.map_cons,List.cons_append,List.mem_cons,List.mem_append] at hk ⊢
          rcases hk with h | h | h
          · exact .inr (.inl h)
          · exact .inl h
          · exact .inr (.inr h)
    · cases h
theorem edgesMask_bit {o : Oper} {M : List Nat} {i : Nat} (h : (edgesMask o M).testBit i = true) : ∃ e ∈ o.after,Region.binds .any e = true∧(i = e.on ∨ (M.getD e.on 0).testBit i = true):=by
  have key : ∀ (l : List Edge) (s : Nat),(l.foldl (fun s e => if Region.binds .any e then s ||| 2 ^ e.on ||| M.getD e.on 0 else s) s).testBit i = true →
      s.testBit i = true ∨ ∃ e ∈ l,Region.binds .any e = true∧(i = e.on ∨ (M.getD e.on 0).testBit i = true):=by
    intro l
    induction l with
    | nil => intro s h; exact .inl h
    | cons e l ih =>
      intro s h
      simp only [List.foldl_cons] at h
      rcases ih _ h with h1 | ⟨e',h1,h2⟩
      · split at h1
        · rename_i hb
          simp only [Nat.testBit_or,Bool.or_eq_true,Nat.testBit_two_pow,decide_eq_true_eq] at h1
          rcases h1 with (h1 | h1) | h1
          · exact .inl h1
          · exact .inr ⟨e,by simp,hb,.inl h1.symm⟩
          · exact .inr ⟨e,by simp,hb,.inr h1⟩
        · exact .inl h1
      · exact .inr ⟨e',by simp [h1],h2⟩
  rcases key o.after.toList 0 h with h1 | ⟨e,h1,h2⟩
  · simp at h1
  · exact ⟨e,by simpa using h1,h2⟩
def Down (ops : Array Oper) (ℓ : Nat→Bool) : Prop:=∀ j o,ℓ j = true→ops[j]? = some o→∀ e ∈ o.after,Region.binds .any e = true→ℓ e.on = true
theorem mask_listed {ord : List Nat} (hP : ∀ pre j post,ord = pre ++ j :: post→∃ o,Placed ops M pre j o) {ℓ : Nat→Bool} (hd : Down ops ℓ) : ∀ (n : Nat) (pre : List Nat) (j : Nat) (post : List Nat),pre.length = n→ord = pre ++ j :: post→∀ o,ops[j]? = some o →
    (∀ e ∈ o.after,Region.binds .any e = true→ℓ e.on = true)→∀ i,(M.getD j 0).testBit i = true→ℓ i = true:=by
  intro n
  induction n using Nat.strongRecOn with
  | _ n ih =>
    intro pre j post hn e o ho hall i hi
    obtain ⟨o',hp⟩:=hP pre j post e
    have : o' = o:=by have:=hp.op; rw [ho] at this; exact (Option.some.inj this).symm
    subst this
    rw [hp.mask] at hi
    obtain ⟨ed,h1,h2,h3⟩:=edgesMask_bit hi
    have hl:=hall ed h1 h2
    rcases h3 with rfl | h3
    · exact hl
    · have hmem:=hp.edges ed h1 h2
      obtain ⟨pre1,post1,hsplit⟩:=List.append_of_mem hmem
      have e2 : ord = pre1 ++ ed.on :: (post1 ++ j :: post):=by rw [e,hsplit]; simp
      obtain ⟨o2,hp2⟩:=hP pre1 ed.on _ e2
      exact ih pre1.length (by rw [← hn,hsplit]; simp) pre1 ed.on _ rfl e2 o2 hp2.op (fun e' he' hb' => hd ed.on o2 hl hp2.op e' he' hb') i h3
def applyTr (ops : Array Oper) (ℓ : Nat→Bool) (tr : List Met) (t : List AV) : List AV:=tr.foldl (fun t m => if ℓ m.j then putT t (dstOf ops m.j) m.v else t) t
def lookTr (ops : Array Oper) (ℓ : Nat→Bool) (u : Tmp) (tr : List Met) (x : Option AV) : Option AV:=tr.foldl (fun x m => if ℓ m.j = true∧dstOf ops m.j = some u then x.map fun _ => m.v else x) x
theorem putT_get (t : List AV) (dst : Option Tmp) (v : AV) (u : Tmp) : (putT t dst v)[u]? = if dst = some u then (t[u]?).map fun _ => v else t[u]?:=by
  cases dst with
  | none => simp [putT]
  | some d =>
    simp only [putT,List.getElem?_set,Option.some.injEq]
    split
    · rename_i e; subst e
      split
      · rename_i h; simp [h]
      · rename_i h; simp [List.getElem?_eq_none (Nat.le_of_not_lt h)]
    · rfl
theorem applyTr_get (ℓ : Nat→Bool) (u : Tmp) : ∀ (tr : List Met) (t : List AV),(applyTr ops ℓ tr t)[u]? = lookTr ops ℓ u tr (t[u]?)
  | [],t => rfl
  | m :: tr,t => by
    have ih:=applyTr_get ℓ u tr (if ℓ m.j then putT t (dstOf ops m.j) m.v else t)
    simp only [applyTr,lookTr,List.foldl_cons] at ih ⊢
    rw [ih]
    congr 1
    by_cases h1 : ℓ m.j = true
    · simp only [h1,if_true,true_and,putT_get]
    · simp only [h1,false_and,if_false,Bool.false_eq_true]
theorem lookTr_congr {ℓ ℓ' : Nat→Bool} {u : Tmp} : ∀ {tr : List Met} {x : Option AV},(∀ m ∈ tr,dstOf ops m.j = some u→ℓ m.j = ℓ' m.j)→lookTr ops ℓ u tr x = lookTr ops ℓ' u tr x
  | [],x,h => rfl
  | m :: tr,x,h => by
    simp only [lookTr,List.foldl_cons]
    have e : (if ℓ m.j = true∧dstOf ops m.j = some u then x.map fun _ => m.v else x) = (if ℓ' m.j = true∧dstOf ops m.j = some u then x.map fun _ => m.v else x):=by
      by_cases hd : dstOf ops m.j = some u
      · rw [h m (by simp) hd]
      · simp [hd]
    rw [e]
    exact lookTr_congr (fun m' hm' => h m' (by simp [hm']))
theorem lookTr_append (ℓ : Nat→Bool) (u : Tmp) (a b : List Met) (x : Option AV) : lookTr ops ℓ u (a ++ b) x = lookTr ops ℓ u b (lookTr ops ℓ u a x):=by simp [lookTr]
theorem lookTr_none {ℓ : Nat→Bool} {u : Tmp} : ∀ {b : List Met} {x : Option AV},(∀ m ∈ b,dstOf ops m.j = some u→ℓ m.j = false)→lookTr ops ℓ u b x = x
  | [],x,h => rfl
  | m :: b,x,h => by
    simp only [lookTr,List.foldl_cons]
    have e : (if ℓ m.j = true∧dstOf ops m.j = some u then x.map fun _ => m.v else x) = x:=by
      by_cases hd : dstOf ops m.j = some u
      · rw [h m (by simp) hd]; simp
      · simp [hd]
    rw [e]
    exact lookTr_none (fun m' hm' => h m' (by simp [hm']))
inductive Trace (P : Program) (pol : Pol) (rec : Run) (ops : Array Oper) : List Met→List AV→AHeap→List AV→AHeap→Prop
  | nil (t : List AV) (H : AHeap) : Trace P pol rec ops [] t H t H
  | cons {m : Met} {tr : List Met} {o : Oper} {t' : List AV} {H1 H' : AHeap} : ops[m.j]? = some o→doOpV P pol rec ops o m.t m.H = some (m.v,H1)→Trace P pol rec ops tr (putT m.t o.dst m.v) H1 t' H'→Trace P pol rec ops (m :: tr) m.t m.H t' H'
theorem traceOps_spec : ∀ (l : List Nat) {t t' : List AV} {H H' : AHeap} {tr : List Met},traceOps P pol rec ops l t H = some (tr,t',H')→Trace P pol rec ops tr t H t' H'∧tr.map (·.j) = l
  | [],t,t',H,H',tr,h => by
    simp [traceOps] at h
    obtain ⟨rfl,rfl,rfl⟩:=h
    exact ⟨.nil _ _,rfl⟩
  | j :: l,t,t',H,H',tr,h => by
    simp only [traceOps,Option.bind_eq_bind,Option.bind_eq_some_iff] at h
    obtain ⟨o,h1,⟨v,H1⟩,h2,⟨tr1,t1,H2⟩,h3,h4⟩:=h
    simp at h4
    obtain ⟨rfl,rfl,rfl⟩:=h4
    obtain ⟨k1,k2⟩:=traceOps_spec l h3
    exact ⟨.cons (m:=⟨j,v,t,H⟩) h1 h2 k1,by simp [k2]⟩
theorem Trace.split {a : List Met} : ∀ {m : Met} {b : List Met} {t t' : List AV} {H H' : AHeap},Trace P pol rec ops (a ++ m :: b) t H t' H'→∃ o H1,ops[m.j]? = some o∧doOpV P pol rec ops o m.t m.H = some (m.v,H1) ∧
    Trace P pol rec ops a t H m.t m.H∧Trace P pol rec ops b (putT m.t o.dst m.v) H1 t' H':=by
  induction a with
  | nil =>
    intro m b t t' H H' h
    cases h with
    | cons h1 h2 h3 => exact ⟨_,_,h1,h2,.nil _ _,h3⟩
  | cons x a ih =>
    intro m b t t' H H' h
    cases h with
    | cons h1 h2 h3 =>
      obtain ⟨o,H1,g1,g2,g3,g4⟩:=ih h3
      exact ⟨o,H1,g1,g2,.cons h1 h2 g3,g4⟩
theorem Trace.final {tr : List Met} {t t' : List AV} {H H' : AHeap} (h : Trace P pol rec ops tr t H t' H') : t' = applyTr ops (fun _ => true) tr t:=by
  induction h with
  | nil t H => rfl
  | cons h1 h2 h3 ih =>
    rename_i m tr o t' H1 H'
    rw [ih]
    simp only [applyTr,List.foldl_cons,if_true,dstOf,h1,Option.bind_some]
end
end Go.Hem
