import Derived.Test.YtldflacehmpjkaaGreatDoorHemRange
namespace Go.Hem
inductive XTask where
  | call (f : FuncId) (args : List AV)
  | yield (l : Nat) (args : List AV)
def XTask.task : XTask→Task
  | .call f args => .call f args
  | .yield l args => .yield l args
abbrev XR (α : Type):=Except (List Nat) α
abbrev Rs:=List (Nat × CC × CC)
abbrev XRec:=Rs→XTask→AHeap→XR (AV × AHeap)
abbrev Memo:=FuncId→List AV→Option AV
def rsGet : Rs→Nat→Option (CC × CC)
  | [],_ => none
  | r :: rs,l => if r.1 == l then some r.2 else rsGet rs l
def reB (P : Program) (t : List AV) (H H' : AHeap) : List COp→Bool
  | [] => true
  | c :: cs => (match csem P t H c,csem P t H' c with
    | some (.val v),some (.val v') => AV.beq v' v
    | none,none => true
    | _,_ => false) && reB P t H H' cs
def xPure (rec : XRec) (f : FuncId) (args : List AV) : XR AV :=
  match rec [] (.call f args) {} with
  | .ok r =>
    match freeze r.1 r.2 with
    | some q => if AV.closedB q.1 then .ok q.1 else .error [f,900001]
    | none => .error [f,900002]
  | .error e => .error e
def xMemo (memo : Memo) (rec : XRec) (f : FuncId) (args : List AV) : XR AV :=
  match memo f args with
  | some v => .ok v
  | none => xPure rec f args
def xCall (pol : Pol) (memo : Memo) (rec : XRec) (rs : Rs) (f : FuncId) (args : List AV) (H : AHeap) : XR (AV × AHeap) :=
  match pol.pure f with
  | true =>
    match AV.closedBs args with
    | true =>
      match xMemo memo rec f args with
      | .ok v => .ok (v,H)
      | .error e => .error e
    | false =>
      match freezeL (freezeV 20) args H with
      | some q =>
        match AV.closedBs q.1 with
        | true =>
          match xMemo memo rec f q.1 with
          | .ok v => .ok (v,if v.flatB then H else q.2)
          | .error e => .error e
        | false => .error [f,900003]
      | none => .error [f,900004]
  | false => rec rs (.call f args) H
def xEff (pol : Pol) (memo : Memo) (rec : XRec) (rs : Rs) (H : AHeap) : Eff→XR (AV × AHeap)
  | .val v => .ok (v,H)
  | .new x mk => .ok (mk H.next,H.alloc x)
  | .mem v b x => .ok (v,H.put b (some (.cells x)))
  | .memM v b es => .ok (v,H.put b (some (.map es)))
  | .fzn v => .ok (v,H)
  | .newT T x mk => .ok (mk H.next,(H.alloc x).addTg H.next T)
  | .move mk b x => .ok (mk H.next,(H.put b none).alloc (.cells x))
  | .moveT T mk b x =>
    match H.cells b with
    | some _ => .ok (mk H.next,((H.put b none).alloc (.cells x)).addTg H.next T)
    | none => .error [900011]
  | .call f args => xCall pol memo rec rs f args H
  | .yield l args => rec rs (.yield l args) H
def opCode : COp→Nat
  | .prim _ => 0
  | .load1 _ => 1
  | .loadN .. => 2
  | .store .. => 3
  | .iaddr .. => 4
  | .iaddrA .. => 5
  | .app .. => 6
  | .appB .. => 6
  | .cpy .. => 7
  | .slc .. => 8
  | .slcA .. => 9
  | .slcS .. => 10
  | .callv .. => 11
  | .call .. => 12
  | .bint .. => 13
  | .bstr .. => 14
  | .bnil .. => 15
  | .bagg .. => 16
  | .len _ => 17
  | .nilc _ => 18
  | .ext .. => 19
  | .fld1 .. => 20
  | .fldN .. => 21
  | .build .. => 22
  | .bslice .. => 23
  | .box _ => 24
  | .faddr .. => 25
  | _ => 99
def xIns (P : Program) (pol : Pol) (memo : Memo) (rec : XRec) (rs : Rs) : List CI→List AV→AHeap→XR (List AV × AHeap)
  | [],t,H => .ok (t,H)
  | i :: is,t,H =>
    match cwant t i.guard with
    | some true =>
      match csem P t H i.op with
      | some e =>
        match xEff pol memo rec rs H e with
        | .ok r => match reB P t H r.2 i.rd with
          | true => xIns P pol memo rec rs is (putT t i.dst r.1) r.2
          | false => .error [900005]
        | .error e => .error e
      | none => .error [900800 + opCode i.op]
    | some false => xIns P pol memo rec rs is (putT t i.dst (.sc .undef)) H
    | none => .error [900006]
abbrev XO:=AExit × List AV × AHeap
def xLoop (body : List AV→AHeap→XR XO) : Nat→List AV→AHeap→XR XO
  | 0,_,_ => .error [900007]
  | n + 1,t,H =>
    match body t H with
    | .ok (.normal,t',H') => xLoop body n t' H'
    | r => r
def xC (P : Program) (pol : Pol) (memo : Memo) (rec : XRec) (n : Nat) (rs : Rs) : CC→List AV→AHeap→XR XO
  | .skip,t,H => .ok (.normal,t,H)
  | .ops l,t,H =>
    match xIns P pol memo rec rs l t H with
    | .ok r => .ok (.normal,r.1,r.2)
    | .error e => .error e
  | .seq a b,t,H =>
    match xC P pol memo rec n rs a t H with
    | .ok (.normal,t',H') => xC P pol memo rec n rs b t' H'
    | r => r
  | .cond c a b,t,H =>
    match aev t c with
    | .sc (.bool true) => xC P pol memo rec n rs a t H
    | .sc (.bool false) => xC P pol memo rec n rs b t H
    | _ => .error [900008]
  | .block id b,t,H =>
    match xC P pol memo rec n rs b t H with
    | .ok (.exit id',t',H') => if id' = id then .ok (.normal,t',H') else .ok (.exit id',t',H')
    | r => r
  | .loop b,t,H => xLoop (fun t H => xC P pol memo rec n rs b t H) n t H
  | .exit id,t,H => .ok (.exit id,t,H)
  | .ret,t,H => .ok (.ret,t,H)
  | .range f ps a b ca cb,t,H =>
    match aev t f with
    | .func (.func g) first captured =>
      match acallee P g (first ++ [.yield H.next] ++ captured) with
      | some (.call g' args) =>
        match rec ((H.next,ca,cb) :: rs) (.call g' args) (H.alloc (.loop .ready none t ps.toList a b)) with
        | .ok r =>
          match r.2.get H.next with
          | some (.loop st pe t' ps' a' b') =>
            match decide (st = .busy) with
            | true => .error [900009]
            | false =>
            match exitOf pe with
            | some e => .ok (e,t,r.2.put H.next (some (.loop .exhausted pe t' ps' a' b')))
            | none => .error [900010]
          | _ => .error [900011]
        | .error e => .error e
      | _ => .error [900012]
    | _ => .error [900013]
def xKnown (pol : Pol) (f : FuncId) (args : List AV) (H : AHeap) : Rs→Bool→XR (AV × AHeap)
  | [],true =>
    match pol.eff f args H with
    | some r => .ok r
    | none => .error [f,900901]
  | _,_ => .error [f,900900]
theorem ev_eff {P : Program} {pol : Pol} {f : FuncId} {args : List AV} {H H' : AHeap} {v : AV} {Q : Out→AHeap→Prop} (hi : insB P f = true) (he : pol.eff f args H = some (v,H')) (hq : Q (.val v) H') : Ev P pol (.call f args) H Q:=by
  refine ⟨1,.val v,H',?_,hq⟩
  show stepTask P pol _ _ (.call f args) H = _
  simp only [stepTask]
  rw [if_pos hi,he]; rfl
def xStep (P : Program) (pol : Pol) (memo : Memo) (n : Nat) (rec : XRec) : XRec
  | rs,.call f args,H =>
    match compF P f with
    | some cf =>
      match xC P pol memo rec n rs cf.cc (args ++ List.replicate (cf.ntmps - args.length) (.sc .undef)) H with
      | .ok (.exit _,_,_) => .error [900014]
      | .ok (_,t,H') =>
        match cresults t H' cf.results with
        | some v => .ok (v,H')
        | none => .error [900015]
      | .error e => .error (f :: e)
    | none => xKnown pol f args H rs (insB P f)
  | rs,.yield l args,H =>
    match H.get l,rsGet rs l with
    | some (.loop .ready _ t ps _ _),some c =>
      match setParams t ps args with
      | some t0 =>
        match xC P pol memo rec n rs c.1 t0 H with
        | .ok (.normal,t1,H1) =>
          match H1.get l with
          | some (.loop .ready pe' t' ps' a' b') =>
            match xC P pol memo rec n rs c.2 t1 (H1.put l (some (.loop .busy pe' t' ps' a' b'))) with
            | .ok (e,_,H2) =>
              match H2.get l with
              | some (.loop _ _ t'' ps'' a'' b'') =>
                .ok (.sc (.bool (jumpOf e).isNone),H2.put l (some (.loop (if (jumpOf e).isNone then .ready else .done) (jumpOf e) t'' ps'' a'' b'')))
              | _ => .error [900011]
            | .error e => .error e
          | _ => .error [900011]
        | .ok _ => .error [900016]
        | .error e => .error e
      | none => .error [900017]
    | _,_ => .error [900018]
def X (P : Program) (pol : Pol) (memo : Memo) : Nat→XRec
  | 0 => fun _ _ _ => .error [900007]
  | n + 1 => xStep P pol memo n (X P pol memo n)
variable {P : Program} {pol : Pol} {memo : Memo}
def WFC (P : Program) : CC→Prop
  | .range _ _ a b ca cb => comp P a = some ca∧comp P b = some cb∧WFC P ca∧WFC P cb
  | .seq a b => WFC P a∧WFC P b
  | .cond _ a b => WFC P a∧WFC P b
  | .block _ b => WFC P b
  | .loop b => WFC P b
  | _ => True
theorem comp_wf : ∀ {c : Code} {cc : CC},comp P c = some cc→WFC P cc:=by
  intro c
  induction c with
  | skip => intro cc hc; simp only [comp,Option.some.injEq] at hc; subst hc; trivial
  | label l => intro cc hc; simp only [comp,Option.some.injEq] at hc; subst hc; trivial
  | exit id => intro cc hc; simp only [comp,Option.some.injEq] at hc; subst hc; trivial
  | ret => intro cc hc; simp only [comp,Option.some.injEq] at hc; subst hc; trivial
  | region id ops d =>
    intro cc hc
    cases d with
    | false =>
      simp only [comp,Option.map_eq_some_iff] at hc
      obtain ⟨is,h1,rfl⟩:=hc
      trivial
    | true =>
      simp only [comp] at hc
      split at hc
      · simp only [Option.map_eq_some_iff] at hc
        obtain ⟨is,h1,rfl⟩:=hc
        trivial
      · cases hc
  | seq a b iha ihb =>
    intro cc hc
    simp only [comp,Option.bind_eq_some_iff,Option.map_eq_some_iff] at hc
    obtain ⟨x,hx,y,hy,rfl⟩:=hc
    exact ⟨iha hx,ihb hy⟩
  | cond c a b iha ihb =>
    intro cc hc
    simp only [comp,Option.bind_eq_some_iff,Option.map_eq_some_iff] at hc
    obtain ⟨x,hx,y,hy,rfl⟩:=hc
    exact ⟨iha hx,ihb hy⟩
  | block id b ihb =>
    intro cc hc
    simp only [comp,Option.map_eq_some_iff] at hc
    obtain ⟨x,hx,rfl⟩:=hc
    exact (ihb hx : WFC P x)
  | loop b ihb =>
    intro cc hc
    simp only [comp,Option.map_eq_some_iff] at hc
    obtain ⟨x,hx,rfl⟩:=hc
    exact (ihb hx : WFC P x)
  | scope b ihb =>
    intro cc hc
    simp only [comp] at hc
    exact ihb hc
  | rangeFunc f ps a b iha ihb =>
    intro cc hc
    simp only [comp,Option.bind_eq_some_iff,Option.map_eq_some_iff] at hc
    obtain ⟨x,hx,y,hy,rfl⟩:=hc
    exact ⟨hx,hy,iha hx,ihb hy⟩
  | _ => intro cc hc; simp [comp] at hc
def RS (P : Program) (rs : Rs) (H : AHeap) : Prop:=∀ l c,rsGet rs l = some c→∃ st pe t ps a b,H.get l = some (.loop st pe t ps a b)∧comp P a = some c.1∧comp P b = some c.2∧WFC P c.1∧WFC P c.2
def Loops (H H' : AHeap) : Prop:=∀ l st pe t ps a b,H.get l = some (.loop st pe t ps a b)→H'.get l = some (.loop st pe t ps a b)
theorem Loops.refl (H : AHeap) : Loops H H:=fun _ _ _ _ _ _ _ h => h
theorem Loops.trans {H H' H2 : AHeap} (h : Loops H H') (k : Loops H' H2) : Loops H H2:=fun l st pe t ps a b e => k l st pe t ps a b (h l st pe t ps a b e)
theorem Loops.addTg {H H' : AHeap} (h : Loops H H') (b : Nat) (T : Nat × TypeId) : Loops H (H'.addTg b T):=h
theorem Loops.alloc (H : AHeap) (x : Blk) : Loops H (H.alloc x):=fun l st pe t ps a b e => by rw [AHeap.get_alloc_lt H x (AHeap.get_lt e)]; exact e
theorem Loops.put {H : AHeap} {b : Nat} {cs : List AV} (x : Option Blk) (h : H.cells b = some cs) : Loops H (H.put b x):=fun l st pe t ps a b' e => by
  have hb:=cells_get' h
  by_cases hl : l = b
  · subst hl; rw [hb] at e; cases e
  · rw [AHeap.get_put_ne H x hl]; exact e
theorem Loops.putM {H : AHeap} {b : Nat} {es : List (AV × AV)} (x : Option Blk) (h : H.map b = some es) : Loops H (H.put b x):=fun l st pe t ps a b' e => by
  have hb:=map_get h
  by_cases hl : l = b
  · subst hl; rw [hb] at e; cases e
  · rw [AHeap.get_put_ne H x hl]; exact e
theorem RS.loops {rs : Rs} {H H' : AHeap} (h : RS P rs H) (k : Loops H H') : RS P rs H':=fun l c e => by
  obtain ⟨st,pe,t,ps,a,b,h1,h2⟩:=h l c e
  exact ⟨st,pe,t,ps,a,b,k _ _ _ _ _ _ _ h1,h2⟩
theorem RS.put {rs : Rs} {H : AHeap} {l : Nat} {st pe t ps a b} (h : RS P rs H) (e : H.get l = some (.loop st pe t ps a b)) (st' pe' t' ps') : RS P rs (H.put l (some (.loop st' pe' t' ps' a b))):=fun l' c q => by
  obtain ⟨st1,pe1,t1,ps1,a1,b1,h1,h2⟩:=h l' c q
  by_cases hl : l' = l
  · subst hl; rw [e] at h1; cases h1
    exact ⟨_,_,_,_,_,_,AHeap.get_put_self _ e,h2⟩
  · exact ⟨_,_,_,_,_,_,by rw [AHeap.get_put_ne H _ hl]; exact h1,h2⟩
theorem reB_ok {t : List AV} {H H' : AHeap} : ∀ {l : List COp},reB P t H H' l = true→reK P t H l H'
  | [],_ => fun c hc => by simp at hc
  | c :: cs,h => by
    simp only [reB,Bool.and_eq_true] at h
    intro d hd
    rcases List.mem_cons.1 hd with rfl | hd
    · obtain ⟨h,_⟩:=h
      split at h
      · rename_i v v' e1 e2
        rw [e1,e2,AV.eq_of_beq _ _ h]
      · rename_i e1 e2
        rw [e1,e2]
      · cases h
    · exact reB_ok h.2 d hd
def MemoOk (P : Program) (pol : Pol) (memo : Memo) : Prop:=∀ f args v,memo f args = some v→AV.closedBs args = true→Pv P pol f args v
def XOk (P : Program) (pol : Pol) (rec : XRec) : Prop:=∀ rs T H v H',RS P rs H→rec rs T H = .ok (v,H')→Ev P pol T.task H (fun o K => o = .val v∧K = H')∧RS P rs H'
theorem freezeL_loops {fz : AV→AHeap→Option (AV × AHeap)} (hf : ∀ v H r,fz v H = some r→Loops H r.2) : ∀ (l : List AV) (H : AHeap) r,freezeL fz l H = some r→Loops H r.2
  | [],H,r,h => by simp only [freezeL,Option.some.injEq] at h; subst h; exact Loops.refl _
  | v :: l,H,r,h => by
    simp only [freezeL,Option.bind_eq_some_iff,Option.map_eq_some_iff] at h
    obtain ⟨x,hx,q,hq,rfl⟩:=h
    exact (hf _ _ _ hx).trans (freezeL_loops hf l _ q hq)
theorem freezeV_loops : ∀ (d : Nat) (v : AV) (H : AHeap) r,freezeV d v H = some r→Loops H r.2
  | 0,_,_,_,h => by simp [freezeV] at h
  | d + 1,v,H,r,h => by
    unfold freezeV at h
    split at h
    · cases h; exact Loops.refl _
    · cases h; exact Loops.refl _
    · cases h; exact Loops.refl _
    · simp only [Option.map_eq_some_iff] at h
      obtain ⟨q,hq,rfl⟩:=h
      exact freezeL_loops (freezeV_loops d) _ _ _ hq
    · simp only [Option.map_eq_some_iff] at h
      obtain ⟨q,hq,rfl⟩:=h
      exact freezeL_loops (freezeV_loops d) _ _ _ hq
    · split at h
      · cases h; exact Loops.refl _
      · split at h
        · rename_i cs hc
          split at h
          · cases h
          · simp only [Option.map_eq_some_iff] at h
            obtain ⟨q,hq,rfl⟩:=h
            exact (Loops.put none hc).trans (freezeL_loops (freezeV_loops d) _ _ _ hq)
        · simp only [Option.bind_eq_some_iff] at h
          obtain ⟨cs,hc,h⟩:=h
          split at h
          · cases h
          · cases h; exact Loops.refl _
    · cases h
theorem xPure_ok {rec : XRec} (hr : XOk P pol rec) {f : FuncId} {args : List AV} {v : AV} (hc : AV.closedBs args = true) (h : xPure rec f args = .ok v) : Pv P pol f args v:=by
  unfold xPure at h
  split at h
  · rename_i r hr1
    split at h
    · rename_i q hq
      split at h
      · rename_i hcl
        cases h
        obtain ⟨⟨n,o,H',h1,rfl,rfl⟩,_⟩:=hr [] (.call f args) {} r.1 r.2 (fun l c e => by simp [rsGet] at e) hr1
        exact ⟨hc,n,_,_,_,h1,hq,hcl⟩
      · cases h
    · cases h
  · cases h
theorem xMemo_ok {rec : XRec} (hr : XOk P pol rec) (hm : MemoOk P pol memo) {f : FuncId} {args : List AV} {v : AV} (hc : AV.closedBs args = true) (h : xMemo memo rec f args = .ok v) : Pv P pol f args v:=by
  unfold xMemo at h
  split at h
  · rename_i u hu; cases h; exact hm _ _ _ hu hc
  · exact xPure_ok hr hc h
theorem map_some_val {x : Option AV} {e : Eff} (h : x.map Eff.val = some e) : ∃ v,e = .val v:=by
  simp only [Option.map_eq_some_iff] at h
  obtain ⟨v,_,rfl⟩:=h; exact ⟨v,rfl⟩
theorem appTo_kinds {n bytes : Nat} {H : AHeap} {s x : AV} {e : Eff} (he : appTo n bytes H s x = some e) : (∃ v,e = .val v) ∨ (∃ y mk,e = .new y mk) ∨ (∃ u b y cs,e = .mem u b y∧H.cells b = some cs) ∨ (∃ mk b y cs,e = .move mk b y∧H.cells b = some cs):=by
  unfold appTo at he
  simp only [Option.bind_eq_some_iff] at he
  obtain ⟨m,_,xs,_,he⟩:=he
  split at he
  · split at he
    · cases he; exact .inl ⟨_,rfl⟩
    · split at he
      · cases he; exact .inr (.inl ⟨_,_,rfl⟩)
      · cases he
  · simp only [Option.bind_eq_some_iff] at he
    obtain ⟨cs,hcs,he⟩:=he
    split at he
    · cases he
    · split at he
      · split at he
        · cases he; exact .inr (.inr (.inl ⟨_,_,_,cs,rfl,hcs⟩))
        · cases he
      · split at he
        · cases he; exact .inr (.inr (.inr ⟨_,_,_,cs,rfl,hcs⟩))
        · cases he
  · cases he
theorem csem_cells {t : List AV} {H : AHeap} {op : COp} {e : Eff} (he : csem P t H op = some e) : (∀ u b x,e = .mem u b x→∃ cs,H.cells b = some cs)∧(∀ mk b x,e = .move mk b x→∃ cs,H.cells b = some cs):=by
  have hval : (∃ v,e = .val v)→(∀ u b x,e = .mem u b x→∃ cs,H.cells b = some cs)∧(∀ mk b x,e = .move mk b x→∃ cs,H.cells b = some cs):=by
    rintro ⟨v,rfl⟩; exact ⟨fun _ _ _ q => (by cases q),fun _ _ _ q => (by cases q)⟩
  have hnew : (∃ x mk,e = .new x mk)→(∀ u b x,e = .mem u b x→∃ cs,H.cells b = some cs)∧(∀ mk b x,e = .move mk b x→∃ cs,H.cells b = some cs):=by
    rintro ⟨x,mk,rfl⟩; exact ⟨fun _ _ _ q => (by cases q),fun _ _ _ q => (by cases q)⟩
  have hcall : (∃ f a,e = .call f a)→(∀ u b x,e = .mem u b x→∃ cs,H.cells b = some cs)∧(∀ mk b x,e = .move mk b x→∃ cs,H.cells b = some cs):=by
    rintro ⟨x,mk,rfl⟩; exact ⟨fun _ _ _ q => (by cases q),fun _ _ _ q => (by cases q)⟩
  have hyield : (∃ f a,e = .yield f a)→(∀ u b x,e = .mem u b x→∃ cs,H.cells b = some cs)∧(∀ mk b x,e = .move mk b x→∃ cs,H.cells b = some cs):=by
    rintro ⟨x,mk,rfl⟩; exact ⟨fun _ _ _ q => (by cases q),fun _ _ _ q => (by cases q)⟩
  cases op <;> simp only [csem] at he
  case mv => cases he; exact hval ⟨_,rfl⟩
  case alloc => cases he; exact hnew ⟨_,_,rfl⟩
  case allocT => cases he; exact ⟨fun _ _ _ q => (by cases q),fun _ _ _ q => (by cases q)⟩
  case boxT =>
    split at he
    · cases he; exact ⟨fun _ _ _ q => (by cases q),fun _ _ _ q => (by cases q)⟩
    · cases he
  case appB T n bytes s x =>
    simp only [Option.map_eq_some_iff] at he
    obtain ⟨e0,h0,rfl⟩:=he
    rcases appTo_kinds h0 with ⟨v,rfl⟩ | ⟨y,mk,rfl⟩ | ⟨u,b,y,cs,rfl,hcs⟩ | ⟨mk,b,y,cs,rfl,hcs⟩
    · exact hval ⟨_,rfl⟩
    · exact ⟨fun _ _ _ q => (by cases q),fun _ _ _ q => (by cases q)⟩
    · exact ⟨fun _ _ _ q => (by cases q; exact ⟨cs,hcs⟩),fun _ _ _ q => (by cases q)⟩
    · simp only [tagA]
      split
      · exact ⟨fun _ _ _ q => (by cases q),fun _ _ _ q => (by cases q)⟩
      · exact ⟨fun _ _ _ q => (by cases q),fun _ _ _ q => (by cases q; exact ⟨cs,hcs⟩)⟩
  case box =>
    split at he
    · cases he; exact hnew ⟨_,_,rfl⟩
    · cases he
  case bslice =>
    simp only [Option.map_eq_some_iff] at he
    obtain ⟨v,_,rfl⟩:=he; exact hnew ⟨_,_,rfl⟩
  case build =>
    simp only [Option.map_eq_some_iff] at he
    obtain ⟨v,_,rfl⟩:=he; exact hval ⟨_,rfl⟩
  case store n a x =>
    unfold writeN at he
    split at he
    · simp only [Option.bind_eq_some_iff] at he
      obtain ⟨cs,hcs,he⟩:=he
      split at he
      · cases he
        exact ⟨fun _ _ _ q => (by cases q; exact ⟨cs,hcs⟩),fun _ _ _ q => (by cases q)⟩
      · cases he
    · cases he
  case mkf => cases he; exact hval ⟨_,rfl⟩
  case mks =>
    unfold mksOf at he
    simp only [Option.bind_eq_some_iff] at he
    obtain ⟨l,_,c,_,he⟩:=he
    split at he
    · cases he; exact hnew ⟨_,_,rfl⟩
    · cases he
  case iaddr =>
    simp only [Option.bind_eq_some_iff] at he
    obtain ⟨l,_,he⟩:=he
    exact hval (map_some_val he)
  case iaddrA =>
    simp only [Option.bind_eq_some_iff] at he
    obtain ⟨l,_,he⟩:=he
    exact hval (map_some_val he)
  case app n bytes s x =>
    unfold appTo at he
    simp only [Option.bind_eq_some_iff] at he
    obtain ⟨m,_,xs,_,he⟩:=he
    split at he
    · split at he
      · cases he; exact hval ⟨_,rfl⟩
      · split at he
        · cases he; exact hnew ⟨_,_,rfl⟩
        · cases he
    · simp only [Option.bind_eq_some_iff] at he
      obtain ⟨cs,hcs,he⟩:=he
      split at he
      · cases he
      · split at he
        · split at he
          · cases he; exact ⟨fun _ _ _ q => (by cases q; exact ⟨cs,hcs⟩),fun _ _ _ q => (by cases q)⟩
          · cases he
        · split at he
          · cases he; exact ⟨fun _ _ _ q => (by cases q),fun _ _ _ q => (by cases q; exact ⟨cs,hcs⟩)⟩
          · cases he
    · cases he
  case cpy n d x =>
    unfold cpyTo at he
    split at he
    · simp only [Option.bind_eq_some_iff] at he
      obtain ⟨cs,hcs,m,_,xs,_,he⟩:=he
      split at he
      · cases he; exact ⟨fun _ _ _ q => (by cases q; exact ⟨cs,hcs⟩),fun _ _ _ q => (by cases q)⟩
      · cases he
    · simp only [Option.bind_eq_some_iff] at he
      obtain ⟨m,_,he⟩:=he
      cases he; exact hval ⟨_,rfl⟩
    · cases he
  case call => cases he; exact hcall ⟨_,_,rfl⟩
  case callv =>
    unfold callvOf at he
    split at he
    · unfold acallee at he
      split at he
      · split at he
        · cases he; exact hcall ⟨_,_,rfl⟩
        · cases he
      · cases he
    · cases he; exact hyield ⟨_,_,rfl⟩
    · cases he
  case eslice => cases he; exact hnew ⟨_,_,rfl⟩
  case prim =>
    have:=aclosed_val he
    cases e <;> simp [isVal] at this
    exact hval ⟨_,rfl⟩
  case stuck => cases he
  case clr n z x =>
    unfold clrTo at he
    split at he
    · cases he; exact hval ⟨_,rfl⟩
    · split at he
      · cases he; exact hval ⟨_,rfl⟩
      · simp only [Option.bind_eq_some_iff] at he
        obtain ⟨cs,hcs,he⟩:=he
        split at he
        · cases he; exact ⟨fun _ _ _ q => (by cases q; exact ⟨cs,hcs⟩),fun _ _ _ q => (by cases q)⟩
        · cases he
    · cases he
  case mkmap => cases he; exact hnew ⟨_,_,rfl⟩
  case mpup g ks m k v =>
    unfold putIn at he
    split at he
    · split at he
      · simp only [Option.bind_eq_some_iff,Option.map_eq_some_iff] at he
        obtain ⟨es',h1,res,h2,rfl⟩:=he
        cases res <;> exact ⟨fun _ _ _ q => (by cases q),fun _ _ _ q => (by cases q)⟩
      · cases he
    · cases he
  case idxS => simp only [Option.bind_eq_some_iff] at he; obtain ⟨_,_,he⟩:=he; exact hval (map_some_val he)
  case idxA => simp only [Option.bind_eq_some_iff] at he; obtain ⟨_,_,he⟩:=he; exact hval (map_some_val he)
  case bytes =>
    simp only [Option.map_eq_some_iff] at he
    obtain ⟨v,_,rfl⟩:=he
    exact ⟨fun _ _ _ q => (by cases q),fun _ _ _ q => (by cases q)⟩
  case mkif => cases he; exact hval ⟨_,rfl⟩
  case invk =>
    unfold invOf at he
    split at he
    · simp only [Option.bind_eq_some_iff] at he
      obtain ⟨f,_,he⟩:=he
      unfold acallee at he
      split at he
      · split at he
        · cases he; exact hcall ⟨_,_,rfl⟩
        · cases he
      · cases he
    · cases he
  all_goals exact hval (map_some_val he)
theorem csem_map {t : List AV} {H : AHeap} {op : COp} {u : AV} {b : Nat} {es : List (AV × AV)} (he : csem P t H op = some (.memM u b es)) : ∃ es,H.map b = some es:=by
  have hval : ∀ {x : Option AV},x.map Eff.val = some (Eff.memM u b es)→False:=fun h => by
    obtain ⟨v,e⟩:=map_some_val h; cases e
  cases op <;> simp only [csem] at he
  case mpup g ks m k v =>
    unfold putIn at he
    split at he
    · split at he
      · simp only [Option.bind_eq_some_iff,Option.map_eq_some_iff] at he
        obtain ⟨es',h1,res,h2,h3⟩:=he
        cases res with
        | none => simp only [Eff.memM.injEq] at h3; obtain ⟨_,rfl,_⟩:=h3; exact ⟨es',h1⟩
        | some r => simp only [Eff.memM.injEq] at h3; obtain ⟨_,rfl,_⟩:=h3; exact ⟨es',h1⟩
      · cases he
    · cases he
  case store n a x =>
    unfold writeN at he
    split at he
    · simp only [Option.bind_eq_some_iff] at he
      obtain ⟨cs,hcs,he⟩:=he
      split at he <;> cases he
    · cases he
  case appB T n bytes s x =>
    simp only [Option.map_eq_some_iff] at he
    obtain ⟨e0,h0,h1⟩:=he
    rcases appTo_kinds h0 with ⟨v,rfl⟩ | ⟨y,mk,rfl⟩ | ⟨u,b,y,cs,rfl,hcs⟩ | ⟨mk,b,y,cs,rfl,hcs⟩
    · cases h1
    · cases h1
    · cases h1
    · simp only [tagA] at h1
      split at h1 <;> cases h1
  case box => split at he <;> cases he
  case boxT => split at he <;> cases he
  case bslice => simp at he
  case build => simp at he
  case mks =>
    unfold mksOf at he
    simp only [Option.bind_eq_some_iff] at he
    obtain ⟨l,_,c,_,he⟩:=he
    split at he <;> cases he
  case iaddr => simp only [Option.bind_eq_some_iff] at he; obtain ⟨l,_,he⟩:=he; exact (hval he).elim
  case iaddrA => simp only [Option.bind_eq_some_iff] at he; obtain ⟨l,_,he⟩:=he; exact (hval he).elim
  case idxS => simp only [Option.bind_eq_some_iff] at he; obtain ⟨l,_,he⟩:=he; exact (hval he).elim
  case idxA => simp only [Option.bind_eq_some_iff] at he; obtain ⟨l,_,he⟩:=he; exact (hval he).elim
  case app n bytes s x =>
    unfold appTo at he
    simp only [Option.bind_eq_some_iff] at he
    obtain ⟨m,_,xs,_,he⟩:=he
    split at he
    · split at he
      · cases he
      · split at he <;> cases he
    · simp only [Option.bind_eq_some_iff] at he
      obtain ⟨cs,hcs,he⟩:=he
      split at he
      · cases he
      · split at he
        · split at he <;> cases he
        · split at he <;> cases he
    · cases he
  case cpy n d x =>
    unfold cpyTo at he
    split at he
    · simp only [Option.bind_eq_some_iff] at he
      obtain ⟨cs,hcs,m,_,xs,_,he⟩:=he
      split at he <;> cases he
    · simp only [Option.bind_eq_some_iff] at he
      obtain ⟨m,_,he⟩:=he
      cases he
    · cases he
  case callv =>
    unfold callvOf at he
    split at he
    · unfold acallee at he
      split at he
      · split at he <;> cases he
      · cases he
    · cases he
    · cases he
  case clr n z x =>
    unfold clrTo at he
    split at he
    · cases he
    · split at he
      · cases he
      · simp only [Option.bind_eq_some_iff] at he
        obtain ⟨cs,hcs,he⟩:=he
        split at he <;> cases he
    · cases he
  case prim =>
    have:=aclosed_val he
    simp [isVal] at this
  case bytes => simp at he
  case mkif => cases he
  case invk =>
    unfold invOf at he
    split at he
    · simp only [Option.bind_eq_some_iff] at he
      obtain ⟨f,_,he⟩:=he
      unfold acallee at he
      split at he
      · split at he <;> cases he
      · cases he
    · cases he
  all_goals first
    | (cases he; done)
    | exact (hval he).elim
theorem csem_mem {t : List AV} {H : AHeap} {op : COp} {u : AV} {b : Nat} {x : List AV} (he : csem P t H op = some (.mem u b x)) : ∃ cs,H.cells b = some cs:=(csem_cells he).1 _ _ _ rfl
theorem csem_move {t : List AV} {H : AHeap} {op : COp} {mk : Nat→AV} {b : Nat} {x : List AV} (he : csem P t H op = some (.move mk b x)) : ∃ cs,H.cells b = some cs:=(csem_cells he).2 _ _ _ rfl
theorem xEff_ok {rec : XRec} (hr : XOk P pol rec) (hm : MemoOk P pol memo) {rs : Rs} {t : List AV} {H H' : AHeap} {op : COp} {e : Eff} {v : AV} {K : AHeap→Prop} (hs : RS P rs H) (he : csem P t H op = some e) (h : xEff pol memo rec rs H e = .ok (v,H')) (hK : K H') :
    wpEff P pol K H (fun v' H1 => v' = v∧H1 = H') e∧RS P rs H':=by
  cases e with
  | val u => cases h; exact ⟨⟨rfl,rfl⟩,hs⟩
  | new x mk => cases h; exact ⟨⟨rfl,rfl⟩,hs.loops (Loops.alloc _ _)⟩
  | newT T x mk => cases h; exact ⟨⟨rfl,rfl⟩,hs.loops ((Loops.alloc _ _).addTg _ _)⟩
  | mem u b x =>
    cases h
    obtain ⟨cs,hcs⟩ : ∃ cs,H.cells b = some cs:=csem_mem he
    exact ⟨⟨hK,rfl,rfl⟩,hs.loops (Loops.put _ hcs)⟩
  | memM u b x =>
    cases h
    obtain ⟨es,hes⟩ : ∃ es,H.map b = some es:=csem_map he
    exact ⟨⟨hK,rfl,rfl⟩,hs.loops (Loops.putM _ hes)⟩
  | fzn u => cases h; exact ⟨⟨rfl,rfl⟩,hs⟩
  | move mk b x =>
    cases h
    obtain ⟨cs,hcs⟩ : ∃ cs,H.cells b = some cs:=csem_move he
    exact ⟨⟨hK,rfl,rfl⟩,hs.loops ((Loops.put _ hcs).trans (Loops.alloc _ _))⟩
  | moveT T mk b x =>
    simp only [xEff] at h
    split at h
    · rename_i cs hcs
      cases h
      exact ⟨⟨hK,rfl,rfl⟩,hs.loops (((Loops.put _ hcs).trans (Loops.alloc _ _)).addTg _ _)⟩
    · cases h
  | call f args =>
    simp only [xEff,xCall] at h
    split at h
    · rename_i hp
      simp only [wpEff,if_pos hp]
      split at h
      · rename_i hc
        split at h
        · rename_i u hu
          cases h
          exact ⟨.inl ⟨_,xMemo_ok hr hm hc hu,rfl,rfl⟩,hs⟩
        · cases h
      · rename_i hc
        split at h
        · rename_i q hq
          split at h
          · rename_i hcl
            split at h
            · rename_i u hu
              cases h
              have hpv:=xMemo_ok hr hm hcl hu
              cases hfl : v.flatB with
              | true =>
                simp only [hfl,if_true] at hs hK ⊢
                exact ⟨.inr ⟨q.1,q.2,v,hc,hq,hpv,.inl ⟨hfl,rfl,rfl⟩⟩,hs⟩
              | false =>
                simp only [hfl,Bool.false_eq_true,if_false] at hs hK ⊢
                exact ⟨.inr ⟨q.1,q.2,v,hc,hq,hpv,.inr ⟨hfl,hK,rfl,rfl⟩⟩,hs.loops (freezeL_loops (freezeV_loops 20) _ _ _ hq)⟩
            · cases h
          · cases h
        · cases h
    · rename_i hp
      have:=hr rs (.call f args) H v H' hs h
      simp only [wpEff,hp,Bool.false_eq_true,if_false]
      exact ⟨this.1.mono fun o K' ⟨a,b⟩ => ⟨v,a,by rw [b]; exact hK,rfl,b⟩,this.2⟩
  | yield l args =>
    have:=hr rs (.yield l args) H v H' hs h
    exact ⟨this.1.mono fun o K' ⟨a,b⟩ => ⟨v,a,by rw [b]; exact hK,rfl,b⟩,this.2⟩
theorem xIns_ok {rec : XRec} (hr : XOk P pol rec) (hm : MemoOk P pol memo) {rs : Rs} : ∀ {l : List CI} {t t' : List AV} {H H' : AHeap},RS P rs H→xIns P pol memo rec rs l t H = .ok (t',H')→wpIns P pol l t H (fun t1 H1 => t1 = t'∧H1 = H')∧RS P rs H'
  | [],t,t',H,H',hs,h => by simp only [xIns] at h; cases h; exact ⟨⟨rfl,rfl⟩,hs⟩
  | i :: is,t,t',H,H',hs,h => by
    simp only [xIns] at h
    split at h
    · rename_i hw
      split at h
      · rename_i e he
        split at h
        · rename_i r hx
          split at h
          · rename_i hre
            obtain ⟨h1,h2⟩:=xEff_ok (K:=reK P t H i.rd) hr hm hs he (v:=r.1) (H':=r.2) hx (reB_ok hre)
            obtain ⟨h3,h4⟩:=xIns_ok hr hm h2 h
            refine ⟨?_,h4⟩
            simp only [wpIns,hw,he]
            show wpEff P pol (reK P t H i.rd) H (fun v H' => wpIns P pol is (putT t i.dst v) H' fun t1 H1 => t1 = t'∧H1 = _) e
            refine wpEff_mono ?_ h1
            rintro v K ⟨rfl,rfl⟩
            exact h3
          · cases h
        · cases h
      · cases h
    · rename_i hw
      obtain ⟨h3,h4⟩:=xIns_ok hr hm hs h
      refine ⟨?_,h4⟩
      simp only [wpIns,hw]
      exact h3
    · cases h
def IsO (o : XO) : Post:=fun e t H => e = o.1∧t = o.2.1∧H = o.2.2
theorem xLoop_ok {rs : Rs} {b : CC} {body : List AV→AHeap→XR XO} (hb : ∀ {t H o},RS P rs H→body t H = .ok o→wpC P pol b t H (IsO o)∧RS P rs o.2.2) :
    ∀ {n : Nat} {t : List AV} {H : AHeap} {o : XO},RS P rs H→xLoop body n t H = .ok o→wpIter (wpC P pol b) n t H (IsO o)∧RS P rs o.2.2
  | 0,_,_,_,_,h => by cases h
  | n + 1,t,H,o,hs,h => by
    simp only [xLoop] at h
    split at h
    · rename_i t' H' hx
      obtain ⟨h1,h2⟩:=hb hs hx
      obtain ⟨h3,h4⟩:=xLoop_ok hb h2 h
      refine ⟨?_,h4⟩
      simp only [wpIter]
      refine wpC_mono ?_ h1
      rintro e t1 H1 ⟨rfl,rfl,rfl⟩
      exact h3
    · rename_i hx
      obtain ⟨h1,h2⟩:=hb hs h
      refine ⟨?_,h2⟩
      simp only [wpIter]
      refine wpC_mono ?_ h1
      rintro e t1 H1 ⟨rfl,rfl,rfl⟩
      obtain ⟨e,t1,H1⟩:=o
      cases e with
      | normal => exact absurd h (hx _ _)
      | exit id => exact ⟨rfl,rfl,rfl⟩
      | ret => exact ⟨rfl,rfl,rfl⟩
theorem xC_ok {rec : XRec} (hr : XOk P pol rec) (hm : MemoOk P pol memo) {n : Nat} {rs : Rs} : ∀ {c : CC} {t : List AV} {H : AHeap} {o : XO},WFC P c→RS P rs H→xC P pol memo rec n rs c t H = .ok o→wpC P pol c t H (IsO o)∧RS P rs o.2.2:=by
  intro c
  induction c with
  | skip => intro t H o hw hs h; simp only [xC] at h; cases h; exact ⟨⟨rfl,rfl,rfl⟩,hs⟩
  | ops l =>
    intro t H o hw hs h
    simp only [xC] at h
    split at h
    · rename_i r hx
      cases h
      obtain ⟨h1,h2⟩:=xIns_ok hr hm hs (t':=r.1) (H':=r.2) hx
      exact ⟨wpIns_mono (fun t1 H1 ⟨a,b⟩ => ⟨rfl,a,b⟩) h1,h2⟩
    · cases h
  | seq a b iha ihb =>
    intro t H o hw hs h
    simp only [xC] at h
    split at h
    · rename_i t' H' hx
      obtain ⟨h1,h2⟩:=iha hw.1 hs hx
      obtain ⟨h3,h4⟩:=ihb hw.2 h2 h
      refine ⟨?_,h4⟩
      simp only [wpC]
      refine wpC_mono ?_ h1
      rintro e t1 H1 ⟨rfl,rfl,rfl⟩
      exact h3
    · rename_i hx
      obtain ⟨h1,h2⟩:=iha hw.1 hs h
      refine ⟨?_,h2⟩
      simp only [wpC]
      refine wpC_mono ?_ h1
      rintro e t1 H1 ⟨rfl,rfl,rfl⟩
      obtain ⟨e,t1,H1⟩:=o
      cases e with
      | normal => exact absurd h (hx _ _)
      | exit id => exact ⟨rfl,rfl,rfl⟩
      | ret => exact ⟨rfl,rfl,rfl⟩
  | cond c a b iha ihb =>
    intro t H o hw hs h
    simp only [xC] at h
    simp only [wpC]
    split at h
    · rename_i hc
      obtain ⟨h1,h2⟩:=iha hw.1 hs h
      simp only [hc,if_true]; exact ⟨h1,h2⟩
    · rename_i hc
      obtain ⟨h1,h2⟩:=ihb hw.2 hs h
      simp only [hc,Bool.false_eq_true,if_false]; exact ⟨h1,h2⟩
    · cases h
  | block id b ihb =>
    intro t H o hw hs h
    simp only [xC] at h
    simp only [wpC]
    split at h
    · rename_i id' t' H' hx
      obtain ⟨h1,h2⟩:=ihb hw hs hx
      split at h
      · rename_i q
        cases h
        refine ⟨wpC_mono ?_ h1,h2⟩
        rintro e t1 H1 ⟨rfl,rfl,rfl⟩
        simp only [blockC,if_pos q]; exact ⟨rfl,rfl,rfl⟩
      · rename_i q
        cases h
        refine ⟨wpC_mono ?_ h1,h2⟩
        rintro e t1 H1 ⟨rfl,rfl,rfl⟩
        simp only [blockC,if_neg q]; exact ⟨rfl,rfl,rfl⟩
    · rename_i hx
      obtain ⟨h1,h2⟩:=ihb hw hs h
      refine ⟨wpC_mono ?_ h1,h2⟩
      rintro e t1 H1 ⟨rfl,rfl,rfl⟩
      obtain ⟨e,t1,H1⟩:=o
      cases e with
      | exit id => exact absurd h (hx _ _ _)
      | normal => exact ⟨rfl,rfl,rfl⟩
      | ret => exact ⟨rfl,rfl,rfl⟩
  | loop b ihb =>
    intro t H o hw hs h
    simp only [xC] at h
    obtain ⟨h1,h2⟩:=xLoop_ok (P:=P) (pol:=pol) (b:=b) (fun {t H o} a c => ihb hw a c) hs h
    exact ⟨⟨n,h1⟩,h2⟩
  | exit id => intro t H o hw hs h; simp only [xC] at h; cases h; exact ⟨⟨rfl,rfl,rfl⟩,hs⟩
  | ret => intro t H o hw hs h; simp only [xC] at h; cases h; exact ⟨⟨rfl,rfl,rfl⟩,hs⟩
  | range f ps a b ca cb _ _ =>
    intro t H o hw hs h
    simp only [xC] at h
    split at h
    rotate_left
    · cases h
    rename_i g first captured hf
    split at h
    rotate_left
    · cases h
    rename_i g' args hc
    split at h
    rotate_left
    · cases h
    rename_i r hx
    have hs1 : RS P ((H.next,ca,cb) :: rs) (H.alloc (.loop .ready none t ps.toList a b)):=by
      intro l c e
      simp only [rsGet,beq_iff_eq] at e
      split at e
      · rename_i q; subst q; cases e
        exact ⟨_,_,_,_,_,_,AHeap.get_alloc_self H _,hw⟩
      · exact hs.loops (Loops.alloc _ _) l c e
    obtain ⟨⟨m,o1,K,h1,rfl,rfl⟩,h2⟩:=hr _ (.call g' args) _ r.1 r.2 hs1 hx
    split at h
    rotate_left
    · cases h
    rename_i st pe t' ps' a' b' hl
    split at h
    · cases h
    rename_i hst
    simp only [decide_eq_false_iff_not] at hst
    split at h
    rotate_left
    · cases h
    rename_i e he
    cases h
    refine ⟨fun ha hb => ⟨m + 1,.ex e t,_,?_,e,t,rfl,rfl,rfl,rfl⟩,?_⟩
    · rw [code_succ]
      have h1 : run P pol m (.call g' args) (H.alloc (.loop .ready none t ps.toList a b)) = some (.val r.1,r.2):=h1
      simp only [doCode,doRange,hf,hc,h1,hl]
      rw [if_neg hst,he]; rfl
    · have h3 : RS P rs r.2:=by
        intro l c e
        by_cases hq : l = H.next
        · subst hq
          obtain ⟨st,pe,t,ps,a,b,h5,_⟩:=hs _ _ e
          exact absurd (AHeap.get_lt h5) (Nat.lt_irrefl _)
        · refine h2 l c ?_
          simp only [rsGet,beq_iff_eq]
          rw [if_neg (fun q => hq q.symm)]; exact e
      exact h3.put hl _ _ _ _
theorem compF_wf {f : FuncId} {cf : CF} (hf : compF P f = some cf) : WFC P cf.cc:=by
  simp only [compF,Option.bind_eq_some_iff] at hf
  obtain ⟨fn,hfn,c,hc,hf⟩:=hf
  split at hf
  · cases hf
  rename_i hins0
  have hins : ¬ insB P f = true:=by rw [hins0]; decide
  simp only [Option.bind_eq_some_iff,Option.map_eq_some_iff] at hf
  obtain ⟨cc,hcc,rs,hrs,rfl⟩:=hf
  exact comp_wf hcc
theorem xStep_ok (hm : MemoOk P pol memo) {n : Nat} {rec : XRec} (hr : XOk P pol rec) : XOk P pol (xStep P pol memo n rec):=fun rs T H v H' hs h => by
  cases T with
  | call f args =>
    simp only [xStep] at h
    split at h
    · rename_i cf hcf
      split at h
      · cases h
      · rename_i e t H1 hne hx
        split at h
        · rename_i u hu
          cases h
          obtain ⟨h1,h2⟩:=xC_ok hr hm (compF_wf hcf) hs hx
          refine ⟨?_,h2⟩
          have : wpF P pol cf args H (fun u K => u = v∧K = H'):=by
            refine wpC_mono ?_ h1
            rintro e1 t1 K ⟨rfl,rfl,rfl⟩
            cases e1 with
            | exit id => exact (hne _ rfl).elim
            | normal => exact ⟨v,hu,rfl,rfl⟩
            | ret => exact ⟨v,hu,rfl,rfl⟩
          exact (wpF_ok hcf this).mono fun o K ⟨u,a,b,c⟩ => ⟨by rw [a,b],c⟩
        · cases h
      · cases h
    · cases rs with
      | cons => cases hib : insB P f <;> rw [hib] at h <;> cases h
      | nil =>
        cases hi : insB P f with
        | false => rw [hi] at h; cases h
        | true =>
          rw [hi] at h
          simp only [xKnown] at h
          split at h
          · rename_i r hr
            cases h
            exact ⟨ev_eff hi hr ⟨rfl,rfl⟩,fun l c e => by simp [rsGet] at e⟩
          · cases h
  | yield l args =>
    simp only [xStep] at h
    split at h
    rotate_left
    · cases h
    rename_i pe0 tt0 ps0 a0 b0 c hl hc
    obtain ⟨st1,pe1,t1,ps1,a1,b1,g1,g2,g3,g4,g5⟩:=hs l c hc
    rw [hl] at g1; cases g1
    split at h
    rotate_left
    · cases h
    rename_i t0 hp
    split at h
    · rename_i t1 H1 hx
      obtain ⟨k1,k2⟩:=xC_ok hr hm g4 hs hx
      split at h
      rotate_left
      · cases h
      rename_i pe' t' ps' a' b' hl1
      split at h
      rotate_left
      · cases h
      rename_i e u H2 hy
      obtain ⟨k3,k4⟩:=xC_ok hr hm g5 (k2.put hl1 _ _ _ _) hy
      split at h
      rotate_left
      · cases h
      rename_i st2 pe2 t2 ps2 a2 b2 hl2
      cases h
      refine ⟨ev_yield hl hp g2 g3 (wpC_mono ?_ k1),k4.put hl2 _ _ _ _⟩
      rintro e1 u1 K ⟨rfl,rfl,rfl⟩
      refine ⟨rfl,pe',t',ps',a',b',hl1,wpC_mono ?_ k3⟩
      rintro e2 u2 K2 ⟨rfl,rfl,rfl⟩
      exact ⟨_,_,_,_,_,_,hl2,rfl,rfl⟩
    · cases h
    · cases h
theorem X_ok (hm : MemoOk P pol memo) : ∀ n,XOk P pol (X P pol memo n)
  | 0 => fun rs T H v H' _ h => by cases h
  | n + 1 => xStep_ok hm (X_ok hm n)
def memo0 : Memo:=fun _ _ => none
theorem memo0_ok : MemoOk P pol memo0:=fun _ _ _ h => by cases h
end Go.Hem
