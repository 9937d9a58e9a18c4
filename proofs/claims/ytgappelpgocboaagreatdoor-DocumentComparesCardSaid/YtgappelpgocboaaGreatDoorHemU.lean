import Derived.Test.YtgappelpgocboaaGreatDoorHemT
namespace Go.Hem
theorem aload_eq {P : Program} {T : TypeId} {g : Bool} (h : isAggB P T = some g) (H : AHeap) (a : AV) :
    aload P T H a = if g = true then (szOf P T).bind fun n => readN H n a else read1 H a:=by
  cases g <;> cases a <;> simp [aload,aread,h,readN,read1,cutN,Option.bind_eq_bind]
  all_goals
    cases szOf P T <;> simp
theorem afill_eq (ps : Nat→Option (Nat × Nat)) : ∀ (parts : List (Nat × AV)) (parts' : List (Nat × Nat × AV)) (cells : List AV),
    parts.mapM (fun p => (ps p.1).map fun q => (q.1,q.2,p.2)) = some parts'→afill ps cells parts = fillL cells parts'
  | [],parts',cells,h => by simp at h; subst h; rfl
  | (i,v) :: rest,parts',cells,h => by
    simp only [List.mapM_cons,Option.bind_eq_bind,Option.bind_eq_some_iff,Option.map_eq_some_iff,Option.pure_def,Option.some.injEq] at h
    obtain ⟨x,⟨q,hq,rfl⟩,y,hy,rfl⟩:=h
    simp only [afill,hq,fillL]
    split
    · rfl
    · exact afill_eq ps rest y _ hy
theorem cparts_ev {ps : List (Nat × Nat)} {t : List AV} : ∀ {parts : List (Nat × Operand)} {parts' : List (Nat × Nat × Operand)},cparts ps parts = some parts' →
    (parts.map fun p => (p.1,aev t p.2)).mapM (fun p => (ps[p.1]?).map fun q => (q.1,q.2,p.2)) = some (evParts t parts')
  | [],parts',h => by simp [cparts] at h; subst h; rfl
  | p :: rest,parts',h => by
    simp only [cparts,List.mapM_cons,Option.bind_eq_bind,Option.bind_eq_some_iff,Option.map_eq_some_iff,Option.pure_def,Option.some.injEq] at h
    obtain ⟨x,⟨q,hq,rfl⟩,y,hy,rfl⟩:=h
    have ih:=cparts_ev (t:=t) (parts:=rest) (parts':=y) hy
    simp only [List.map_cons,List.mapM_cons,hq,Option.map_some,Option.bind_eq_bind,Option.bind_some,ih,Option.pure_def]
    rfl
theorem strided {n : Nat} {t : List AV} : ∀ (parts : List (Nat × Operand)),
    (parts.map fun p => (p.1,aev t p.2)).mapM (fun p => ((fun i => some (i * n,n)) p.1 : Option (Nat × Nat)).map fun q => (q.1,q.2,p.2)) = some (evParts t (parts.map fun p => (p.1 * n,n,p.2)))
  | [] => rfl
  | p :: rest => by
    have ih:=strided (n:=n) (t:=t) rest
    simp only [Option.map_some] at ih ⊢
    simp only [List.map_cons,List.mapM_cons,Option.bind_eq_bind,Option.bind_some,ih,Option.pure_def]
    rfl
theorem closed_int {t : List AV} {x : Operand} {k : IntKind} {a : Int} (h : aev t x = .sc (.int k a)) : closedEnv t x = .int k a∧(aev t x).closed?.isSome = true:=by
  constructor
  · simp [closedEnv,h,AV.closed?,Sc.val]
  · simp [h,AV.closed?]
theorem closed_sc {t : List AV} {x : Operand} {s : Sc} (h : aev t x = .sc s) : closedEnv t x = s.val∧(aev t x).closed?.isSome = true:=by
  constructor
  · simp [closedEnv,h,AV.closed?]
  · simp [h,AV.closed?]
theorem aclosed_bin {P : Program} {t : List AV} {o : Oper} {op : BinOp} {T yT : TypeId} {x y : Operand} {a b : Sc} {v : Value} {r : AV} (ho : o.op = .binOp op T x y yT)
    (hx : aev t x = .sc a) (hy : aev t y = .sc b) (hg : pureSem P (eqGuard op T x y a.val b.val) = some ()) (h : pureSem P (binOp op T a.val b.val) = some v) (hr : AV.of? v = some r) : aclosed P t o = some (.val r):=by
  have hc : allClosed t o = true:=by simp [allClosed,ho,Op.operands,(closed_sc hx).2,(closed_sc hy).2]
  have key : pureSem P (execOp (closedEnv t) o) = some (.value v):=by
    unfold execOp
    simp only [ho,(closed_sc hx).1,(closed_sc hy).1]
    have bindP : ∀ {α β : Type} (s : Sem α) (f : α→Sem β) (u : α),pureSem P s = some u→pureSem P (s >>= f) = pureSem P (f u):=by
      intro α β s f u
      induction s with
      | pure a => intro h; simp [pureSem] at h; subst h; rfl
      | program k ih => intro h; exact ih P h
      | mark m k ih => intro h; exact ih h
      | _ => intro h; simp [pureSem] at h
    rw [bindP _ _ v]
    · rfl
    · rw [bindP _ _ () hg,h]
  unfold aclosed
  rw [if_pos hc,key]
  simp [hr]
theorem eqGuard_int {P : Program} {op : BinOp} {T : TypeId} {x y : Operand} {a b : Sc} (h : a ≠ .nili ∨ b ≠ .nili) : pureSem P (eqGuard op T x y a.val b.val) = some ():=by
  unfold eqGuard
  cases op <;> first | rfl | (cases a <;> cases b <;> first | rfl | simp_all)
theorem bint_ok {P : Program} {t : List AV} {o : Oper} {op : BinOp} {T yT : TypeId} {x y : Operand} {r : AV} (ho : o.op = .binOp op T x y yT) (h : bintOf op (aev t x) (aev t y) = some r) : aclosed P t o = some (.val r):=by
  unfold bintOf at h
  split at h
  rotate_left
  · cases h
  rename_i k a k' b hx hy
  split at h
  rotate_left
  · cases h
  rename_i hk; subst hk
  have g:=eqGuard_int (P:=P) (op:=op) (T:=T) (x:=x) (y:=y) (a:=.int k a) (b:=.int k b) (.inl (by simp))
  have fin : ∀ v,pureSem P (binOp op T (Sc.val (.int k a)) (Sc.val (.int k b))) = some v→AV.of? v = some r→aclosed P t o = some (.val r):=fun v h1 h2 => aclosed_bin ho hx hy g h1 h2
  cases op <;> simp only [reduceCtorEq] at h
  all_goals first
    | (simp only [Option.some.injEq] at h; subst h
       first
       | exact fin (.int k (k.wrap (a + b))) (by simp [binOp,Sc.val,Op.intArith,pureSem,pure]) rfl
       | exact fin (.int k (k.wrap (a - b))) (by simp [binOp,Sc.val,Op.intArith,pureSem,pure]) rfl
       | exact fin (.int k (k.wrap (a * b))) (by simp [binOp,Sc.val,Op.intArith,pureSem,pure]) rfl
       | exact fin (.bool _) (by simp [binOp,Sc.val,Op.intCmp,pureSem,pure]) rfl
       | exact fin (.int k _) (by simp only [binOp,Sc.val,ne_eq,not_true,if_false]; rfl) rfl)
    | skip
  all_goals
    split at h
    · cases h
    · rename_i hb
      simp only [Option.some.injEq] at h; subst h
      exact fin (.int k _) (by simp [binOp,Sc.val,Op.intDiv,hb,pureSem,pure]) rfl
theorem shft_ok {P : Program} {t : List AV} {o : Oper} {op : BinOp} {T yT : TypeId} {x y : Operand} {r : AV} (ho : o.op = .binOp op T x y yT) (h : shiftOf op (aev t x) (aev t y) = some r) : aclosed P t o = some (.val r):=by
  unfold shiftOf at h
  split at h
  rotate_left
  · cases h
  rename_i k a k' b hx hy
  split at h
  · cases h
  rename_i hb
  have g:=eqGuard_int (P:=P) (op:=op) (T:=T) (x:=x) (y:=y) (a:=.int k a) (b:=.int k' b) (.inl (by simp))
  have fin : ∀ v,pureSem P (binOp op T (Sc.val (.int k a)) (Sc.val (.int k' b))) = some v→AV.of? v = some r→aclosed P t o = some (.val r):=fun v h1 h2 => aclosed_bin ho hx hy g h1 h2
  cases op <;> simp only [reduceCtorEq] at h
  all_goals
    simp only [Option.some.injEq] at h; subst h
    exact fin (.int k _) (by simp only [binOp,Sc.val,Op.shift,hb,if_false]; rfl) rfl
theorem bstr_ok {P : Program} {t : List AV} {o : Oper} {op : BinOp} {T yT : TypeId} {x y : Operand} {r : AV} (ho : o.op = .binOp op T x y yT) (h : bstrOf op (aev t x) (aev t y) = some r) : aclosed P t o = some (.val r):=by
  unfold bstrOf at h
  split at h
  rotate_left
  · cases h
  rename_i a b hx hy
  have g:=eqGuard_int (P:=P) (op:=op) (T:=T) (x:=x) (y:=y) (a:=.str a) (b:=.str b) (.inl (by simp))
  have fin : ∀ v,pureSem P (binOp op T (Sc.val (.str a)) (Sc.val (.str b))) = some v→AV.of? v = some r→aclosed P t o = some (.val r):=fun v h1 h2 => aclosed_bin ho hx hy g h1 h2
  cases op <;> simp only [reduceCtorEq] at h
  · split at h
    · cases h
    · rename_i hb
      simp only [Option.some.injEq] at h; subst h
      exact fin (.string _) (by simp only [binOp,Sc.val,Op.stringOp]; rw [if_neg hb]; rfl) rfl
  all_goals
    simp only [Option.some.injEq] at h; subst h
    exact fin (.bool _) (by simp [binOp,Sc.val,Op.stringOp,pureSem,pure]) rfl
theorem bbool_ok {P : Program} {t : List AV} {o : Oper} {neg : Bool} {T yT : TypeId} {x y : Operand} {r : AV} (hT : P.underlying T = some .bool) (ho : o.op = .binOp (if neg then .neq else .eql) T x y yT) (h : bboolOf neg (aev t x) (aev t y) = some r) : aclosed P t o = some (.val r):=by
  unfold bboolOf at h
  split at h
  rotate_left
  · cases h
  rename_i a b hx hy
  simp only [Option.some.injEq] at h; subst h
  have e : ∀ d,pureSem P (Op.equalIn (d + 1) T (.bool a) (.bool b)) = some (a == b):=fun d => by
    simp [Op.equalIn,underlying,pureSem,Bind.bind,Sem.bind,program,hT,pure]
  have e0 : pureSem P (Op.equal T (.bool a) (.bool b)) = some (a == b):=e 9999
  have g : ∀ op,pureSem P (eqGuard op T x y (Sc.val (.bool a)) (Sc.val (.bool b))) = some ():=fun op => eqGuard_int (.inl (by simp))
  cases neg
  · exact aclosed_bin ho hx hy (g _) (v:=.bool (a == b)) (by
      simp only [Bool.false_eq_true,if_false]
      show pureSem P (Op.equal T (.bool a) (.bool b) >>= fun z => pure (Value.bool z)) = _
      rw [pureSem_bind e0]; rfl) rfl
  · exact aclosed_bin ho hx hy (g _) (v:=.bool (!(a == b))) (by
      simp only [if_true]
      show pureSem P (Op.equal T (.bool a) (.bool b) >>= fun z => pure (Value.bool !z)) = _
      rw [pureSem_bind e0]; rfl) rfl
theorem nilIs_spec {d : TypeDesc} {k : NK} {s : Sc} {v : AV} {q : Bool} (hk : nkOf d = some k) (h : nilIs k s v = some q) :
    (q = false∧besideNil s v (some d) = true∧∀ u,v ≠ .sc u) ∨ (q = true∧v = .sc s∧besideNil s v (some d) = false∧(s = .nilp∧k = .ptr ∨ s = .nils∧k = .slice ∨ s = .nilm∧k = .map ∨ s = .nilf∧k = .func)):=by
  cases v
  case sc u =>
    cases d <;> cases k <;> simp only [nkOf,reduceCtorEq,Option.some.injEq] at hk <;> cases s <;> cases u <;> simp [nilIs] at h <;> subst h <;> simp [besideNil]
  all_goals
    cases d <;> cases k <;> simp only [nkOf,reduceCtorEq,Option.some.injEq] at hk <;> cases s <;> simp [nilIs] at h <;> subst h <;> simp [besideNil]
theorem bnil_ok {P : Program} {t : List AV} {o : Oper} {neg : Bool} {T yT : TypeId} {x y : Operand} {r : AV} {d : TypeDesc} {k : NK} (hT : P.underlying T = some d) (hk : nkOf d = some k)
    (ho : o.op = .binOp (if neg then .neq else .eql) T x y yT) (h : bnilOf neg k (aev t x) (aev t y) = some r) {H : AHeap} : aop P t H o = some (.val r):=by
  have both : ∀ (s u : Sc),aev t x = .sc s→aev t y = .sc u→s = u→(s = .nilp∧k = .ptr ∨ s = .nils∧k = .slice ∨ s = .nilm∧k = .map ∨ s = .nilf∧k = .func)→aclosed P t o = some (.val (.sc (.bool (true != neg)))):=by
    intro s u h1 h2 h3 h4
    subst h3
    have e : pureSem P (Op.equal T s.val s.val) = some true:=by
      have q : ∀ d',pureSem P (Op.equalIn (d' + 1) T s.val s.val) = some true:=fun d' => by
        rcases h4 with ⟨rfl,rfl⟩ | ⟨rfl,rfl⟩ | ⟨rfl,rfl⟩ | ⟨rfl,rfl⟩ <;> (cases d <;> simp only [nkOf,reduceCtorEq,Option.some.injEq] at hk) <;>
          simp [Op.equalIn,underlying,pureSem,Bind.bind,Sem.bind,program,hT,pure,Sc.val]
      exact q 9999
    have g : ∀ op,pureSem P (eqGuard op T x y s.val s.val) = some ():=fun op => eqGuard_int (.inl (by rcases h4 with ⟨rfl,_⟩ | ⟨rfl,_⟩ | ⟨rfl,_⟩ | ⟨rfl,_⟩ <;> simp))
    cases neg
    · exact aclosed_bin ho h1 h2 (g _) (v:=.bool true) (by
        simp only [Bool.false_eq_true,if_false]
        have : binOp .eql T s.val s.val = (Op.equal T s.val s.val >>= fun z => pure (Value.bool z)):=by rcases h4 with ⟨rfl,_⟩ | ⟨rfl,_⟩ | ⟨rfl,_⟩ | ⟨rfl,_⟩ <;> rfl
        rw [this,pureSem_bind e]; rfl) rfl
    · exact aclosed_bin ho h1 h2 (g _) (v:=.bool false) (by
        simp only [if_true]
        have : binOp .neq T s.val s.val = (Op.equal T s.val s.val >>= fun z => pure (Value.bool !z)):=by rcases h4 with ⟨rfl,_⟩ | ⟨rfl,_⟩ | ⟨rfl,_⟩ | ⟨rfl,_⟩ <;> rfl
        rw [this,pureSem_bind e]; rfl) rfl
  have anl : ∀ {a b : AV},aev t x = a→aev t y = b→anil P T a b = true→aop P t H o = some (.val (.sc (.bool neg))):=by
    intro a b h1 h2 h3
    unfold aop
    simp only [ho]
    cases neg <;> simp [h1,h2,h3]
  have nal : ∀ {a b : AV},aev t x = a→aev t y = b→anil P T a b = false→aop P t H o = aclosed P t o:=by
    intro a b h1 h2 h3
    unfold aop
    simp only [ho,h1,h2,h3]
    simp
  unfold bnilOf at h
  split at h
  · rename_i s hx
    simp only [Option.map_eq_some_iff] at h
    obtain ⟨q,hq,rfl⟩:=h
    rcases nilIs_spec hk hq with ⟨rfl,h1,h2⟩ | ⟨rfl,h1,h2,h3⟩
    · rw [anl hx rfl (by unfold anil; rw [hT]; exact h1)]; cases neg <;> rfl
    · rw [nal hx h1 (by unfold anil; rw [hT]; rw [h1] at h2; exact h2)]
      exact both _ _ hx h1 rfl h3
  · rename_i s hy hne
    simp only [Option.map_eq_some_iff] at h
    obtain ⟨q,hq,rfl⟩:=h
    rcases nilIs_spec hk hq with ⟨rfl,h1,h2⟩ | ⟨rfl,h1,h2,h3⟩
    · have g : anil P T (aev t x) (.sc s) = true:=by
        unfold anil; rw [hT]
        revert h1 h2
        cases aev t x <;> intro h1 h2 <;> first | exact h1 | exact absurd rfl (h2 _)
      rw [anl rfl hy g]
      cases neg <;> rfl
    · exact (hne _ h1).elim
  · cases h
theorem aclosed_of {P : Program} {t : List AV} {o : Oper} {v : Value} {r : AV} (hc : allClosed t o = true) (h : pureSem P (execOp (closedEnv t) o) = some (.value v)) (hr : AV.of? v = some r) : aclosed P t o = some (.val r):=by
  unfold aclosed; rw [if_pos hc,h]; simp [hr]
theorem scalars_map : ∀ (a : List Sc),(a.map AV.sc).mapM AV.scalar? = some (scVals (a.map AV.sc))
  | [] => rfl
  | s :: a => by
    simp only [List.map_cons,List.mapM_cons,AV.scalar?,Option.bind_eq_bind,Option.bind_some,scalars_map a,Option.pure_def]
    rfl
theorem closed_agg {t : List AV} {x : Operand} {a : List Sc} (h : aev t x = .agg (a.map .sc)) : closedEnv t x = .agg (scVals (a.map AV.sc)).toArray∧(aev t x).closed?.isSome = true:=by
  have e : (AV.agg (a.map .sc)).closed? = some (.agg (scVals (a.map AV.sc)).toArray):=by simp only [AV.closed?,scalars_map,Option.map_some]
  constructor
  · unfold closedEnv; rw [h,e]; rfl
  · rw [h,e]; rfl
theorem bagg_ok {P : Program} {t : List AV} {o : Oper} {neg : Bool} {T yT : TypeId} {x y : Operand} {r : AV} {ks : List SK} {fs : Array Field} (hT : P.underlying T = some (.struct fs)) (hk : flatK P 12 T = some ks) (hg : ¬ P.eqGuardType P.depth T = true)
    (ho : o.op = .binOp (if neg then .neq else .eql) T x y yT) (h : baggOf neg ks (aev t x) (aev t y) = some r) : aclosed P t o = some (.val r):=by
  unfold baggOf at h
  split at h
  rotate_left
  · cases h
  rename_i xs ys hx hy
  simp only [Option.map_eq_some_iff] at h
  obtain ⟨q,hq,rfl⟩:=h
  obtain ⟨a,b,rfl,rfl,_,_⟩:=eqK_inv hq
  obtain ⟨td,ht,he,_⟩:=flat_ok 12 T ks hk _ _ _ 9988 hq
  rw [hT] at ht; cases ht
  have he' : pureSem P (Op.equal T (.agg (scVals (a.map AV.sc)).toArray) (.agg (scVals (b.map AV.sc)).toArray)) = some q:=he
  have hgd : ∀ op,pureSem P (eqGuard op T x y (.agg (scVals (a.map AV.sc)).toArray) (.agg (scVals (b.map AV.sc)).toArray)) = some ():=by
    intro op
    unfold eqGuard
    cases op <;> first
      | rfl
      | (simp only [Bool.not_eq_true] at hg
         show pureSem P (program >>= fun p => program >>= fun q => _) = _
         rw [pureSem_bind (show pureSem P program = some P from rfl),pureSem_bind (show pureSem P program = some P from rfl)]
         simp only [hg,Bool.not_false,if_true]
         rfl)
  cases neg
  · refine aclosed_of (v:=.bool q) ?_ ?_ rfl
    · simp [allClosed,ho,Op.operands,(closed_agg hx).2,(closed_agg hy).2]
    · unfold execOp
      simp only [ho,(closed_agg hx).1,(closed_agg hy).1,Bool.false_eq_true,if_false]
      have : pureSem P (do eqGuard .eql T x y (.agg (scVals (a.map AV.sc)).toArray) (.agg (scVals (b.map AV.sc)).toArray); binOp .eql T (.agg (scVals (a.map AV.sc)).toArray) (.agg (scVals (b.map AV.sc)).toArray)) = some (.bool q):=by
        rw [pureSem_bind (hgd _)]
        show pureSem P (Op.equal T _ _ >>= fun z => pure (Value.bool z)) = _
        rw [pureSem_bind he']; rfl
      rw [pureSem_bind this]; rfl
  · refine aclosed_of (v:=.bool (!q)) ?_ ?_ rfl
    · simp [allClosed,ho,Op.operands,(closed_agg hx).2,(closed_agg hy).2]
    · unfold execOp
      simp only [ho,(closed_agg hx).1,(closed_agg hy).1,if_true]
      have : pureSem P (do eqGuard .neq T x y (.agg (scVals (a.map AV.sc)).toArray) (.agg (scVals (b.map AV.sc)).toArray); binOp .neq T (.agg (scVals (a.map AV.sc)).toArray) (.agg (scVals (b.map AV.sc)).toArray)) = some (.bool (!q)):=by
        rw [pureSem_bind (hgd _)]
        show pureSem P (Op.equal T _ _ >>= fun z => pure (Value.bool !z)) = _
        rw [pureSem_bind he']; rfl
      rw [pureSem_bind this]; rfl
theorem bagg_okA {P : Program} {t : List AV} {o : Oper} {neg : Bool} {T yT : TypeId} {x y : Operand} {r : AV} {ks : List SK} {m : Nat} {el : TypeId} (hT : P.underlying T = some (.array m el)) (hk : flatK P 12 T = some ks) (hg : ¬ P.eqGuardType P.depth T = true)
    (ho : o.op = .binOp (if neg then .neq else .eql) T x y yT) (h : baggOf neg ks (aev t x) (aev t y) = some r) : aclosed P t o = some (.val r):=by
  unfold baggOf at h
  split at h
  rotate_left
  · cases h
  rename_i xs ys hx hy
  simp only [Option.map_eq_some_iff] at h
  obtain ⟨q,hq,rfl⟩:=h
  obtain ⟨a,b,rfl,rfl,_,_⟩:=eqK_inv hq
  obtain ⟨td,ht,he,_⟩:=flat_ok 12 T ks hk _ _ _ 9988 hq
  rw [hT] at ht; cases ht
  have he' : pureSem P (Op.equal T (.agg (scVals (a.map AV.sc)).toArray) (.agg (scVals (b.map AV.sc)).toArray)) = some q:=he
  have hgd : ∀ op,pureSem P (eqGuard op T x y (.agg (scVals (a.map AV.sc)).toArray) (.agg (scVals (b.map AV.sc)).toArray)) = some ():=by
    intro op
    unfold eqGuard
    cases op <;> first
      | rfl
      | (simp only [Bool.not_eq_true] at hg
         show pureSem P (program >>= fun p => program >>= fun q => _) = _
         rw [pureSem_bind (show pureSem P program = some P from rfl),pureSem_bind (show pureSem P program = some P from rfl)]
         simp only [hg,Bool.not_false,if_true]
         rfl)
  cases neg
  · refine aclosed_of (v:=.bool q) ?_ ?_ rfl
    · simp [allClosed,ho,Op.operands,(closed_agg hx).2,(closed_agg hy).2]
    · unfold execOp
      simp only [ho,(closed_agg hx).1,(closed_agg hy).1,Bool.false_eq_true,if_false]
      have : pureSem P (do eqGuard .eql T x y (.agg (scVals (a.map AV.sc)).toArray) (.agg (scVals (b.map AV.sc)).toArray); binOp .eql T (.agg (scVals (a.map AV.sc)).toArray) (.agg (scVals (b.map AV.sc)).toArray)) = some (.bool q):=by
        rw [pureSem_bind (hgd _)]
        show pureSem P (Op.equal T _ _ >>= fun z => pure (Value.bool z)) = _
        rw [pureSem_bind he']; rfl
      rw [pureSem_bind this]; rfl
  · refine aclosed_of (v:=.bool (!q)) ?_ ?_ rfl
    · simp [allClosed,ho,Op.operands,(closed_agg hx).2,(closed_agg hy).2]
    · unfold execOp
      simp only [ho,(closed_agg hx).1,(closed_agg hy).1,if_true]
      have : pureSem P (do eqGuard .neq T x y (.agg (scVals (a.map AV.sc)).toArray) (.agg (scVals (b.map AV.sc)).toArray); binOp .neq T (.agg (scVals (a.map AV.sc)).toArray) (.agg (scVals (b.map AV.sc)).toArray)) = some (.bool (!q)):=by
        rw [pureSem_bind (hgd _)]
        show pureSem P (Op.equal T _ _ >>= fun z => pure (Value.bool !z)) = _
        rw [pureSem_bind he']; rfl
      rw [pureSem_bind this]; rfl
theorem not_ok {P : Program} {t : List AV} {o : Oper} {T : TypeId} {x : Operand} {r : AV} (ho : o.op = .unOp .not T x) (h : notOf (aev t x) = some r) : aclosed P t o = some (.val r):=by
  unfold notOf at h
  split at h
  · rename_i b hx
    simp only [Option.some.injEq] at h; subst h
    refine aclosed_of (v:=.bool (!b)) ?_ ?_ rfl
    · simp [allClosed,ho,Op.operands,(closed_sc hx).2]
    · unfold execOp; simp only [ho,(closed_sc hx).1]; rfl
  · cases h
theorem conv_ok {P : Program} {t : List AV} {o : Oper} {src dst : TypeId} {x : Operand} {k0 k : IntKind} {r : AV} (hs : P.underlying src = some (.int k0)) (hd : P.underlying dst = some (.int k)) (ho : o.op = .convert src dst x) (h : convOf k (aev t x) = some r) : aclosed P t o = some (.val r):=by
  unfold convOf at h
  split at h
  · rename_i k1 n hx
    simp only [Option.some.injEq] at h; subst h
    refine aclosed_of (v:=.int k (k.wrap n)) ?_ ?_ rfl
    · simp [allClosed,ho,Op.operands,(closed_sc hx).2]
    · have und : ∀ {T : TypeId} {d : TypeDesc},P.underlying T = some d→pureSem P (underlying T) = some d:=fun {T d} hT => by
        unfold underlying
        rw [pureSem_bind (u:=P) rfl]
        simp only [hT]; rfl
      unfold execOp
      simp only [ho,(closed_sc hx).1,Sc.val]
      have hconv : pureSem P (convert src dst (.int k1 n)) = some (.int k (k.wrap n)):=by
        unfold convert
        rw [pureSem_bind (und hs),pureSem_bind (und hd)]
        rfl
      rw [pureSem_bind hconv]; rfl
  · cases h
theorem asNat_inv {a : AV} {n : Nat} (h : asNat a = some n) : ∃ k i,a = .sc (.int k i)∧0 ≤ i∧i.toNat = n:=by
  unfold asNat at h
  split at h
  · rename_i k i
    split at h
    · rename_i h0; simp only [Option.some.injEq] at h; exact ⟨k,i,rfl,h0,h⟩
    · cases h
  · cases h
theorem pureBound {P : Program} {k : IntKind} {i : Int} {y n : Nat} {code : BoundsCode} (h0 : 0 ≤ i) (hn : i.toNat = n) (hy : n ≤ y) : pureSem P (Instr.sliceBound (.int k i) y code) = some n:=by
  unfold Instr.sliceBound
  rw [pureSem_bind (u:=(k,i)) rfl]
  simp only
  rw [if_pos ⟨h0,by omega⟩]
  simp [pureSem,pure,hn]
theorem strCut_ok {P : Program} {t : List AV} {o : Oper} {T : TypeId} {x : Operand} {lo hi : Option Operand} {r : AV} (hT : P.underlying T = some .string) (ho : o.op = .slice T x lo hi none)
    (h : cutStr (aev t x) (bd t lo) (bd t hi) = some r) : aclosed P t o = some (.val r)∧∃ s,aev t x = .sc (.str s):=by
  unfold cutStr at h
  split at h
  · rename_i s hx
    simp only [Option.bind_eq_some_iff] at h
    obtain ⟨h',hh,l',hl,h⟩:=h
    split at h
    · rename_i hb
      simp only [Option.some.injEq] at h; subst h
      refine ⟨?_,_,hx⟩
      have hi' : (hi.map (closedEnv t) = none∧h' = s.size) ∨ ∃ k i,hi.map (closedEnv t) = some (.int k i)∧0 ≤ i∧i.toNat = h':=by
        cases hi with
        | none => simp only [bd,abound,Option.some.injEq] at hh; exact .inl ⟨rfl,hh.symm⟩
        | some y =>
          obtain ⟨k,i,h1,h2,h3⟩:=asNat_inv (show asNat (aev t y) = some h' from hh)
          exact .inr ⟨k,i,by simp [(closed_int h1).1],h2,h3⟩
      have lo' : (lo.map (closedEnv t) = none∧l' = 0) ∨ ∃ k i,lo.map (closedEnv t) = some (.int k i)∧0 ≤ i∧i.toNat = l':=by
        cases lo with
        | none => simp only [bd,abound,Option.some.injEq] at hl; exact .inl ⟨rfl,hl.symm⟩
        | some y =>
          obtain ⟨k,i,h1,h2,h3⟩:=asNat_inv (show asNat (aev t y) = some l' from hl)
          exact .inr ⟨k,i,by simp [(closed_int h1).1],h2,h3⟩
      have cl : ∀ (y : Operand) (n : Nat),asNat (aev t y) = some n→(aev t y).closed?.isSome = true:=fun y n h1 => by
        obtain ⟨k,i,h1,_⟩:=asNat_inv h1
        exact (closed_int h1).2
      refine aclosed_of (v:=.string (s.extract l' h')) ?_ ?_ rfl
      · have e1 : ∀ y,lo = some y→(aev t y).closed?.isSome = true:=fun y e => by subst e; exact cl y _ hl
        have e2 : ∀ y,hi = some y→(aev t y).closed?.isSome = true:=fun y e => by subst e; exact cl y _ hh
        have e0:=(closed_sc hx).2
        cases lo <;> cases hi <;> simp [allClosed,ho,Op.operands,e0,e1,e2]
      · have bnds : pureSem P (Instr.sliceBounds false s.size s.size (lo.map (closedEnv t)) (hi.map (closedEnv t)) none) = some (l',h',s.size):=by
          unfold Instr.sliceBounds
          rw [pureSem_bind (u:=s.size) rfl]
          simp only
          rcases hi' with ⟨e,rfl⟩ | ⟨k,i,e,h1,h2⟩
          · rw [e]; simp only
            rw [pureSem_bind (u:=s.size) rfl]
            rcases lo' with ⟨e',rfl⟩ | ⟨k',i',e',h1',h2'⟩
            · rw [e']; rfl
            · rw [e']; simp only
              rw [pureSem_bind (pureBound h1' h2' hb.1)]; rfl
          · rw [e]; simp only
            rw [pureSem_bind (pureBound h1 h2 hb.2)]
            rcases lo' with ⟨e',rfl⟩ | ⟨k',i',e',h1',h2'⟩
            · rw [e']; rfl
            · rw [e']; simp only
              rw [pureSem_bind (pureBound h1' h2' hb.1)]; rfl
        unfold execOp
        simp only [ho,(closed_sc hx).1,Option.map_none]
        have m : pureSem P (Instr.sliceAt T (Sc.str s).val (lo.map (closedEnv t)) (hi.map (closedEnv t)) none) = some (.string (s.extract l' h')):=by
          unfold Instr.sliceAt
          rw [pureSem_bind (pureSem_und hT)]
          simp only
          unfold Instr.slice
          rw [pureSem_bind (pureSem_und hT)]
          simp only [Sc.val,Option.isSome_none,Bool.false_eq_true,if_false]
          rw [pureSem_bind bnds]; rfl
        rw [pureSem_bind m]; rfl
    · cases h
  · cases h
theorem besideNil_closed {s : Sc} {v : AV} {d : Option TypeDesc} (h : v.closed?.isSome = true) : besideNil s v d = false:=by
  unfold besideNil
  split <;> first | rfl | simp [AV.closed?] at h
theorem anil_closed {P : Program} {T : TypeId} {x y : AV} (h1 : x.closed?.isSome = true) (h2 : y.closed?.isSome = true) : anil P T x y = false:=by
  unfold anil
  split
  · exact besideNil_closed h2
  · exact besideNil_closed h1
  · rfl
theorem builtin_ok {P : Program} {t : List AV} {o : Oper} {c : Call} {b : Builtin} {xs : List Operand} {v : Value} {r : AV} (ho : o.op = .call c) (hf : c.callee = .builtin b) (hx : c.args.toList = xs)
    (hcl : ∀ x ∈ xs,(aev t x).closed?.isSome = true) (h : ∀ ty cs,pureSem P (builtin b c.argTypes ty cs (xs.map (closedEnv t)).toArray) = some (.value v)) (hr : AV.of? v = some r) : aclosed P t o = some (.val r):=by
  have hx' : c.args = xs.toArray:=by rw [← hx]
  refine aclosed_of (v:=v) ?_ ?_ hr
  · simp only [allClosed,ho,Op.operands,Call.operands,hf,hx']
    simpa using hcl
  · unfold execOp
    simp only [ho,resolve,hf]
    rw [pureSem_bind (s:=pure _) rfl]
    simp only [invoke,hx']
    rw [show Array.map (closedEnv t) xs.toArray = (xs.map (closedEnv t)).toArray by simp]
    exact h _ _
theorem len_ok {P : Program} {t : List AV} {o : Oper} {c : Call} {x : Operand} {s : Sc} {d : TypeDesc} {n : Int} (ho : o.op = .call c) (hf : c.callee = .builtin .len) (hx : c.args.toList = [x]) (hs : aev t x = .sc s)
    (hT : (c.argTypes[0]?).bind (P.underlying ·) = some d) (h : (d = .string∧∃ z,s = .str z∧n = z.size) ∨ (s = .nils∧n = 0∧∃ e,d = .slice e)) : aclosed P t o = some (.val (.sc (.int .i64 n))):=by
  refine builtin_ok (v:=.int .i64 n) ho hf hx (by simp [(closed_sc hs).2]) ?_ rfl
  intro ty cs
  simp only [Option.bind_eq_some_iff] at hT
  obtain ⟨T,hT1,hT2⟩:=hT
  have : pureSem P (Builtin.len_ c.argTypes ty #[s.val]) = some (.int .i64 n):=by
    unfold Builtin.len_
    have e : (#[s.val] : Array Value)[0]? = some s.val:=rfl
    simp only [hT1,e]
    rw [pureSem_bind (pureSem_und hT2)]
    rcases h with ⟨rfl,z,rfl,rfl⟩ | ⟨rfl,rfl,e,rfl⟩ <;> rfl
  simp only [List.map_cons,List.map_nil,(closed_sc hs).1,builtin]
  rw [pureSem_bind this]; rfl
theorem min_ok {P : Program} {t : List AV} {o : Oper} {c : Call} {x y : Operand} {r : AV} (ho : o.op = .call c) (hf : c.callee = .builtin .min) (hx : c.args.toList = [x,y])
    (h : minOf (aev t x) (aev t y) = some r) : aclosed P t o = some (.val r):=by
  unfold minOf at h
  split at h
  · rename_i k a k' b h1 h2
    simp only [Option.some.injEq] at h; subst h
    refine builtin_ok (v:=.int k (if b < a then b else a)) ho hf hx (by simp [(closed_sc h1).2,(closed_sc h2).2]) ?_ rfl
    intro ty cs
    simp only [List.map_cons,List.map_nil,(closed_sc h1).1,(closed_sc h2).1,builtin]
    rfl
  · cases h
theorem max_ok {P : Program} {t : List AV} {o : Oper} {c : Call} {x y : Operand} {r : AV} (ho : o.op = .call c) (hf : c.callee = .builtin .max) (hx : c.args.toList = [x,y])
    (h : maxOf (aev t x) (aev t y) = some r) : aclosed P t o = some (.val r):=by
  unfold maxOf at h
  split at h
  · rename_i k a k' b h1 h2
    simp only [Option.some.injEq] at h; subst h
    refine builtin_ok (v:=.int k (if a < b then b else a)) ho hf hx (by simp [(closed_sc h1).2,(closed_sc h2).2]) ?_ rfl
    intro ty cs
    simp only [List.map_cons,List.map_nil,(closed_sc h1).1,(closed_sc h2).1,builtin]
    rfl
  · cases h
theorem all_scs : ∀ {cs : List AV},cs.all AV.isSc = true→∃ a : List Sc,cs = a.map AV.sc
  | [],_ => ⟨[],rfl⟩
  | v :: cs,h => by
    simp only [List.all_cons,Bool.and_eq_true] at h
    obtain ⟨a,rfl⟩:=all_scs h.2
    cases v <;> simp [AV.isSc] at h
    exact ⟨_ :: a,rfl⟩
theorem scVals_get : ∀ (a : List Sc) (i : Nat),(scVals (a.map AV.sc))[i]? = (a[i]?).map Sc.val
  | [],_ => rfl
  | s :: a,0 => rfl
  | s :: a,i + 1 => by
    have:=scVals_get a i
    simpa [scVals] using this
theorem idxS_ok {P : Program} {t : List AV} {o : Oper} {T : TypeId} {x ix : Operand} {i : Nat} {r : AV} (hT : P.underlying T = some .string) (ho : o.op = .index T x ix) (hi : asNat (aev t ix) = some i) (h : strAt (aev t x) i = some r) : aclosed P t o = some (.val r):=by
  unfold strAt at h
  split at h
  · rename_i s hx
    simp only [Option.map_eq_some_iff] at h
    obtain ⟨b,hb,rfl⟩:=h
    obtain ⟨k,j,h1,h2,h3⟩:=asNat_inv hi
    refine aclosed_of (v:=.int .u8 b.toNat) ?_ ?_ rfl
    · simp [allClosed,ho,Op.operands,(closed_sc hx).2,(closed_sc h1).2]
    · unfold execOp
      simp only [ho,(closed_sc hx).1,(closed_sc h1).1,Sc.val]
      have m : pureSem P (Instr.index T (.string s) (.int k j)) = some (.int .u8 b.toNat):=by
        unfold Instr.index
        rw [pureSem_bind (u:=(k,j)) rfl,pureSem_bind (pureSem_und hT)]
        simp only [if_pos h2,h3,hb]
        rfl
      rw [pureSem_bind m]; rfl
  · cases h
theorem idxA_ok {P : Program} {t : List AV} {o : Oper} {T e : TypeId} {m n : Nat} {x ix : Operand} {i : Nat} {r : AV} (hT : P.underlying T = some (.array m e)) (hg : isAggB P e = some false) (hn : szOf P e = some n) (ho : o.op = .index T x ix) (hi : asNat (aev t ix) = some i) (h : arrAt m n (aev t x) i = some r) : aclosed P t o = some (.val r):=by
  unfold arrAt at h
  split at h
  rotate_left
  · cases h
  rename_i cs hx
  split at h
  rotate_left
  · cases h
  rename_i h0
  obtain ⟨s0,hv,rfl,hof⟩ : ∃ s0 : Sc,cs[i * n]? = some (.sc s0)∧r = .sc s0∧AV.of? s0.val = some (.sc s0):=by
    split at h
    · rename_i k0 v0 hv; cases h; exact ⟨_,hv,rfl,rfl⟩
    · rename_i v0 hv; cases h; exact ⟨_,hv,rfl,rfl⟩
    · rename_i v0 hv; cases h; exact ⟨_,hv,rfl,rfl⟩
    · rename_i hv; cases h; exact ⟨_,hv,rfl,rfl⟩
    · cases h
  obtain ⟨a,rfl⟩:=all_scs h0.2
  obtain ⟨k,j,h1,h2,h3⟩:=asNat_inv hi
  have hav : a[i * n]? = some s0:=by
    rw [List.getElem?_map] at hv
    simp only [Option.map_eq_some_iff,AV.sc.injEq] at hv
    obtain ⟨s,hs,rfl⟩:=hv
    exact hs
  have hcell : (scVals (a.map AV.sc)).toArray[i * n]? = some s0.val:=by
    rw [List.getElem?_toArray,scVals_get,hav]; rfl
  have hagg : pureSem P (isAgg e) = some false:=by
    unfold isAggB at hg
    simp only [Option.map_eq_some_iff] at hg
    obtain ⟨d,hd,hg⟩:=hg
    unfold isAgg
    rw [pureSem_bind (pureSem_und hd)]
    cases d <;> first | rfl | cases hg
  have hsz : pureSem P (sizeOf e) = some n:=by
    unfold szOf at hn
    simp only [Option.map_eq_some_iff] at hn
    obtain ⟨inf,hinf,rfl⟩:=hn
    unfold sizeOf
    have : pureSem P (typeInfo e) = some inf:=by
      unfold typeInfo
      rw [pureSem_bind (u:=P) rfl,hinf]; rfl
    rw [pureSem_bind this]; rfl
  refine aclosed_of (v:=s0.val) ?_ ?_ hof
  · simp [allClosed,ho,Op.operands,(closed_agg hx).2,(closed_sc h1).2]
  · unfold execOp
    simp only [ho,(closed_agg hx).1,(closed_sc h1).1,Sc.val]
    have mm : pureSem P (Instr.index T (.agg (scVals (a.map AV.sc)).toArray) (.int k j)) = some s0.val:=by
      unfold Instr.index
      rw [pureSem_bind (u:=(k,j)) rfl,pureSem_bind (pureSem_und hT)]
      have hj : 0 ≤ j∧j < (m : Int):=⟨h2,by omega⟩
      simp only [if_pos hj]
      rw [pureSem_bind hsz,h3]
      unfold part
      rw [pureSem_bind hagg]
      simp only [Bool.false_eq_true,if_false,hcell]
      rfl
    rw [pureSem_bind mm]; rfl
theorem csem_ok0 {P : Program} {t : List AV} {H : AHeap} {o : Oper} {c : COp} {e : Eff} (hc : cop0 P o = some c) (h : csem P t H c = some e) : aop P t H o = some e:=by
  unfold cop0 at hc
  split at hc
  case h_1 x ho => simp only [Option.some.injEq] at hc; subst hc; unfold aop; simpa [ho,csem] using h
  case h_2 x ho => simp only [Option.some.injEq] at hc; subst hc; unfold aop; simpa [ho,csem] using h
  case h_3 a b d ho =>
    simp only [Option.some.injEq] at hc; subst hc; unfold aop; simp only [ho,csem,Option.map_eq_some_iff] at h ⊢
    obtain ⟨v,h1,rfl⟩:=h
    unfold pickOf at h1
    split at h1 <;> simp_all
  case h_4 T ho =>
    split at hc
    · cases hc
    rename_i ht
    simp only [Option.bind_eq_some_iff] at hc
    obtain ⟨z,hz,hc⟩:=hc
    split at hc
    · simp only [Option.some.injEq] at hc; subst hc; unfold aop; rename_i h1; simpa [ho,csem,hz,h1,ht] using h
    · cases hc
  case h_5 T x ho =>
    split at hc
    · cases hc
    rename_i ht
    simp only [Option.some.injEq] at hc; subst hc; unfold aop; simpa [ho,csem,ht] using h
  case h_6 T parts ho =>
    simp only [Option.bind_eq_some_iff] at hc
    obtain ⟨z,hz,hc⟩:=hc
    unfold aop; simp only [ho,abuild,hz,Option.bind_eq_bind,Option.bind_some]
    split at hc
    · rename_i fs hT
      simp only [Option.bind_eq_some_iff,Option.map_eq_some_iff] at hc
      obtain ⟨ps,hps,q,hq,rfl⟩:=hc
      simp only [hT,hps,Option.bind_some]
      rw [afill_eq _ _ _ _ (cparts_ev hq)]
      simpa [csem,Function.comp_def] using h
    · rename_i n e hT
      simp only [Option.map_eq_some_iff] at hc
      obtain ⟨m,hm,rfl⟩:=hc
      simp only [hT,hm,Option.bind_some]
      rw [afill_eq _ _ _ _ (strided _)]
      simpa [csem,Function.comp_def] using h
    · cases hc
  case h_7 T len parts ho =>
    simp only [Option.bind_eq_some_iff] at hc
    obtain ⟨e,he,n,hn,hc⟩:=hc
    split at hc
    · rename_i h0
      split at hc
      · rename_i hp
        simp only [Option.some.injEq] at hc; subst hc
        unfold aop; simp only [ho,abuildSlice,he,hn,Option.bind_eq_bind,Option.bind_some]
        rw [if_neg (by omega),if_pos h0]
        have hp2 : ((Array.map (fun p => (p.1,aev t p.2)) parts).toList).isEmpty = true:=by simpa using hp
        have hp3 : (List.map (fun p => (p.1,aev t p.2)) parts.toList).isEmpty = true:=by simpa using hp
        rw [if_pos hp3]
        simpa [csem] using h
      · cases hc
    simp only [Option.bind_eq_some_iff] at hc
    obtain ⟨z,hz,hc⟩:=hc
    split at hc
    · cases hc
    · rename_i h1
      simp only [Option.some.injEq] at hc; subst hc
      simp only [not_or] at h1
      obtain ⟨h1,h2,h3⟩:=h1
      unfold aop; simp only [ho,abuildSlice,he,hn,hz,Option.bind_eq_bind,Option.bind_some]
      rw [if_neg h1,if_neg h2,if_neg (by simpa only [not_or] using h3),afill_eq _ _ _ _ (strided _)]
      simp only [csem,Option.map_eq_some_iff] at h
      obtain ⟨cs,h4,rfl⟩:=h
      rw [h4]; rfl
  case h_8 T a ho =>
    simp only [Option.bind_eq_some_iff] at hc
    obtain ⟨g,hg,hc⟩:=hc
    unfold aop; simp only [ho,aload_eq hg]
    split at hc
    · rename_i h1
      simp only [Option.map_eq_some_iff] at hc
      obtain ⟨n,hn,rfl⟩:=hc
      simp only [h1,if_true,hn,Option.bind_some]; exact h
    · rename_i h1
      simp only [Option.some.injEq] at hc; subst hc
      simp only [h1]; exact h
  case h_9 T a x ho =>
    simp only [Option.map_eq_some_iff] at hc
    obtain ⟨n,hn,rfl⟩:=hc
    unfold aop; simp only [ho]
    simp only [csem,writeN] at h
    unfold astore
    split at h
    · rename_i b off hx
      simp only [hx,hn,Option.bind_eq_bind,Option.bind_some]
      exact h
    · cases h
  case h_10 x ho =>
    simp only [Option.some.injEq] at hc; subst hc; unfold aop; simp only [ho,csem,Option.map_eq_some_iff] at h ⊢
    obtain ⟨v,h1,rfl⟩:=h
    revert h1; generalize aev t x = z; intro h1
    unfold nilcOf at h1
    split at h1
    case h_5 n T v a c =>
      split at h1
      · rename_i hm
        simp only [Option.some.injEq] at h1; subst h1
        simp only [hm,if_true]
      · cases h1
    all_goals simp only [Option.some.injEq,reduceCtorEq] at h1 <;> subst h1 <;> rfl
  case h_11 fn first captured ho => simp only [Option.some.injEq] at hc; subst hc; unfold aop; simpa [ho,csem] using h
  case h_12 T l c ho =>
    simp only [Option.bind_eq_some_iff] at hc
    obtain ⟨e,he,i,hi,z,hz,hc⟩:=hc
    split at hc
    · cases hc
    · rename_i h1
      simp only [Option.some.injEq] at hc; subst hc
      simp only [not_or] at h1
      obtain ⟨h1,h2,h3⟩:=h1
      have hs : szOf P e = some i.size:=by simp [szOf,hi]
      unfold aop; simp only [ho,amakeSlice,he,hi,hs,hz,Option.bind_eq_bind,Option.bind_some]
      simp only [csem,mksOf,Option.bind_eq_some_iff] at h
      obtain ⟨l',hl,c',hc',h4⟩:=h
      split at h4
      · rename_i h5
        simp only [Option.some.injEq] at h4; subst h4
        simp only [hl,hc',Option.bind_some,if_pos h5]
        by_cases h6 : c' * i.size = 0
        · have : c' = 0:=by
            rcases Nat.mul_eq_zero.1 h6 with h7 | h7
            · exact h7
            · exact absurd h7 h3
          subst this
          rw [if_pos h6]; simp [rep]
        · rw [if_neg h6,if_neg (by simp only [not_or]; exact ⟨h1,h2⟩)]
      · cases h4
  case h_13 T x lo hi ho =>
    unfold aop; simp only [ho]
    split at hc
    · rename_i e hT
      simp only [Option.map_eq_some_iff] at hc
      obtain ⟨n,hn,rfl⟩:=hc
      simp only [csem,Option.map_eq_some_iff] at h
      obtain ⟨v,h1,rfl⟩:=h
      have he : sliceElem P T = some e:=by simp [sliceElem,hT]
      unfold cutS at h1
      split at h1
      · rename_i b off len cap n' hx
        simp only [hx,Option.isNone_none,if_true]
        simp only [aslice,he,hn,Option.bind_eq_bind,Option.bind_some]
        simp only [Option.map_eq_some_iff]
        exact ⟨_,h1,rfl⟩
      · rename_i xs hx
        simp only [hx,Option.isNone_none,if_true]
        simp only [aslice,he,hn,Option.bind_eq_bind,Option.bind_some]
        simp only [Option.map_eq_some_iff]
        exact ⟨_,h1,rfl⟩
      · rename_i hx
        simp only [hx,Option.isNone_none,if_true]
        simp only [aslice,he,hn,Option.bind_eq_bind,Option.bind_some]
        simp only [Option.map_eq_some_iff]
        exact ⟨_,h1,rfl⟩
      · cases h1
    · rename_i hT
      simp only [Option.some.injEq] at hc; subst hc
      simp only [csem,Option.map_eq_some_iff] at h
      obtain ⟨v,h1,rfl⟩:=h
      obtain ⟨h2,s,h3⟩:=strCut_ok hT ho h1
      simp only [h3]; exact h2
    · rename_i m e hT
      simp only [Option.map_eq_some_iff] at hc
      obtain ⟨n,hn,rfl⟩:=hc
      simp only [csem,Option.map_eq_some_iff] at h
      obtain ⟨v,h1,rfl⟩:=h
      have he : arrayOf P T = some (m,e):=by simp [arrayOf,hT]
      unfold cutA at h1
      split at h1
      · rename_i b off hx
        simp only [hx,Option.isNone_none,if_true]
        simp only [aslice,he,hn,Option.bind_eq_bind,Option.bind_some]
        simp only [Option.map_eq_some_iff]
        exact ⟨_,h1,rfl⟩
      · cases h1
    · cases hc
  case h_14 S x f ho =>
    simp only [Option.bind_eq_some_iff] at hc
    obtain ⟨fs,hfs,fd,hfd,n,hn,hc⟩:=hc
    split at hc
    · cases hc
    · rename_i h0
      simp only [Option.some.injEq] at hc; subst hc
      unfold aop; simp only [ho,csem,afieldAddr,hfs,hfd,hn,Option.bind_eq_bind,Option.bind_some,if_neg h0] at h ⊢
      exact h
  case h_15 S x f ho =>
    simp only [Option.bind_eq_some_iff] at hc
    obtain ⟨fs,hfs,fd,hfd,g,hg,hc⟩:=hc
    unfold aop; simp only [ho,afield,hfs,hfd,Option.bind_eq_bind,Option.bind_some,aread,hg]
    split at hc
    · rename_i h1
      simp only [Option.map_eq_some_iff] at hc
      obtain ⟨n,hn,rfl⟩:=hc
      simp only [csem,Option.map_eq_some_iff] at h
      obtain ⟨v,h2,rfl⟩:=h
      unfold fldNOf cutN at h2
      split at h2
      · rename_i cs hx
        simp only [hx,h1,if_true,hn,Option.bind_some,Option.map_eq_some_iff]
        exact ⟨_,h2,rfl⟩
      · cases h2
    · rename_i h1
      simp only [Option.some.injEq] at hc; subst hc
      simp only [csem,Option.map_eq_some_iff] at h
      obtain ⟨v,h2,rfl⟩:=h
      unfold fld1Of at h2
      split at h2
      · rename_i cs hx
        simp only [hx,h1,Option.map_eq_some_iff]
        exact ⟨_,h2,rfl⟩
      · cases h2
  case h_16 T x ix ho =>
    unfold aop; simp only [ho,aindexAddr]
    split at hc
    · rename_i e hT
      simp only [Option.map_eq_some_iff] at hc
      obtain ⟨n,hn,rfl⟩:=hc
      simp only [csem,Option.bind_eq_some_iff,Option.map_eq_some_iff] at h
      obtain ⟨i,hi,v,h1,rfl⟩:=h
      have he : sliceElem P T = some e:=by simp [sliceElem,hT]
      unfold elemAt at h1
      split at h1
      · rename_i hx
        simp only [hi,hx,he,hn,Option.bind_eq_bind,Option.bind_some,Option.map_eq_some_iff]
        exact ⟨_,h1,rfl⟩
      · rename_i hx
        simp only [hi,hx,he,hn,Option.bind_eq_bind,Option.bind_some,Option.map_eq_some_iff]
        exact ⟨_,h1,rfl⟩
      · cases h1
    · rename_i m e hT
      simp only [Option.map_eq_some_iff] at hc
      obtain ⟨n,hn,rfl⟩:=hc
      simp only [csem,Option.bind_eq_some_iff,Option.map_eq_some_iff] at h
      obtain ⟨i,hi,v,h1,rfl⟩:=h
      have he : arrayOf P T = some (m,e):=by simp [arrayOf,hT]
      unfold elemAtA at h1
      split at h1
      · rename_i hx
        simp only [hi,hx,he,hn,Option.bind_eq_bind,Option.bind_some,Option.map_eq_some_iff]
        exact ⟨_,h1,rfl⟩
      · rename_i hx
        simp only [hi,hx,he,hn,Option.bind_eq_bind,Option.bind_some,Option.map_eq_some_iff]
        exact ⟨_,h1,rfl⟩
      · cases h1
    · cases hc
  case h_17 x ix ho =>
    simp only [Option.some.injEq] at hc; subst hc; unfold aop; simp only [ho,csem,Option.map_eq_some_iff] at h ⊢
    obtain ⟨v,h1,rfl⟩:=h
    unfold extOf at h1
    split at h1
    · rename_i hx
      simp only [hx,Option.map_eq_some_iff]; exact ⟨_,h1,rfl⟩
    · cases h1
  case h_18 op T x y yT ho =>
    simp only [Option.some.injEq] at hc
    have prim : ∀ {e : Eff},aclosed P t o = some e→aop P t H o = some e:=fun {e} h1 => by
      have hcl : allClosed t o = true:=by
        unfold aclosed at h1
        split at h1
        · assumption
        · cases h1
      have h3 : anil P T (aev t x) (aev t y) = false:=by
        simp only [allClosed,ho,Op.operands,List.all_cons,List.all_nil,Bool.and_true,Bool.and_eq_true,List.all_toArray] at hcl
        exact anil_closed hcl.1 hcl.2
      unfold aop; simp only [ho,h3]
      simpa using h1
    subst hc
    unfold copBin at h
    split at h
    all_goals first
      | (simp only [csem,Option.map_eq_some_iff] at h
         obtain ⟨v,h1,rfl⟩:=h
         first
         | exact prim (bint_ok ho h1)
         | exact prim (shft_ok ho h1)
         | exact prim (bstr_ok ho h1)
         | (rename_i hT; exact prim (bbool_ok (neg:=false) hT ho h1))
         | (rename_i hT; exact prim (bbool_ok (neg:=true) hT ho h1)))
      | (split at h
         · rename_i hT _ k hk
           split at h
           · exact prim h
           · rename_i hg
             simp only [csem,Option.map_eq_some_iff] at h
             obtain ⟨v,h1,rfl⟩:=h
             first
             | exact prim (bagg_ok (neg:=false) hT hk hg ho h1)
             | exact prim (bagg_ok (neg:=true) hT hk hg ho h1)
             | exact prim (bagg_okA (neg:=false) hT hk hg ho h1)
             | exact prim (bagg_okA (neg:=true) hT hk hg ho h1)
         · exact prim h)
      | (split at h
         · rename_i hT _ k hk
           simp only [csem,Option.map_eq_some_iff] at h
           obtain ⟨v,h1,rfl⟩:=h
           first
           | exact bnil_ok (neg:=false) hT hk ho h1
           | exact bnil_ok (neg:=true) hT hk ho h1
         · exact prim h)
      | exact prim h
  case h_19 op T x ho =>
    split at hc
    · rename_i hop; subst hop
      simp only [Option.some.injEq] at hc; subst hc
      simp only [csem,Option.map_eq_some_iff] at h
      obtain ⟨v,h1,rfl⟩:=h
      unfold aop; simp only [ho]; exact not_ok ho h1
    · simp only [Option.some.injEq] at hc; subst hc
      unfold aop; simp only [ho]; exact h
  case h_20 c ho =>
    unfold aop; simp only [ho]
    split at hc
    · rename_i f hf
      split at hc
      · rename_i hs
        simp only [Option.some.injEq] at hc; subst hc
        simp only [hf,aev]
        unfold csem at h
        simp only [Option.some.injEq] at h; subst h
        unfold acallee at hs ⊢
        split
        · rename_i fn hfn
          rw [hfn] at hs
          simp only at hs
          split at hs
          · rename_i h1; rw [if_pos h1]; simp
          · simp at hs
        · rename_i hfn; rw [hfn] at hs; simp at hs
      · cases hc
    · rename_i f _ hf
      simp only [Option.some.injEq] at hc; subst hc
      simp only [hf]
      simp only [csem,callvOf] at h
      split at h
      · rename_i hx; simp only [hx]; exact h
      · rename_i hx; simp only [hx]; exact h
      · cases h
    · rename_i hf
      simp only [hf]
      split at hc
      · rename_i x e hx hT
        simp only [Option.some.injEq] at hc; subst hc
        simp only [csem,Option.map_eq_some_iff] at h
        obtain ⟨v,h1,rfl⟩:=h
        unfold lenOf at h1
        split at h1
        · rename_i hv; simp only [hx,List.map_cons,List.map_nil,hv,hT]; simp_all
        · rename_i hv; simp only [hx,List.map_cons,List.map_nil,hv,hT]; simp_all
        · rename_i hv
          simp only [Option.some.injEq] at h1; subst h1
          simp only [hx,List.map_cons,List.map_nil,hv,hT]
          exact len_ok ho hf hx hv hT (.inr ⟨rfl,rfl,_,rfl⟩)
        · cases h1
      · rename_i x hx hT
        simp only [Option.some.injEq] at hc; subst hc
        simp only [csem,Option.map_eq_some_iff] at h
        obtain ⟨v,h1,rfl⟩:=h
        unfold lenStr at h1
        split at h1
        · rename_i z hv
          simp only [Option.some.injEq] at h1; subst h1
          simp only [hx,List.map_cons,List.map_nil,hv,hT]
          exact len_ok ho hf hx hv hT (.inl ⟨rfl,_,rfl,rfl⟩)
        · cases h1
      · cases hc
    · rename_i hf
      simp only [hf]
      split at hc
      · rename_i x y hx
        simp only [Option.some.injEq] at hc; subst hc
        simp only [csem,Option.map_eq_some_iff] at h
        obtain ⟨v,h1,rfl⟩:=h
        exact min_ok ho hf hx h1
      · simp only [Option.some.injEq] at hc; subst hc
        exact h
    · rename_i hf
      simp only [hf]
      split at hc
      · rename_i x y hx
        simp only [Option.some.injEq] at hc; subst hc
        simp only [csem,Option.map_eq_some_iff] at h
        obtain ⟨v,h1,rfl⟩:=h
        exact max_ok ho hf hx h1
      · simp only [Option.some.injEq] at hc; subst hc
        exact h
    · rename_i hf
      simp only [hf]
      split at hc
      · rename_i s x hx
        simp only [Option.bind_eq_some_iff] at hc
        obtain ⟨sT,hsT,xT,hxT,e,he,i,hi,z,hz,hc⟩:=hc
        split at hc
        · cases hc
        · rename_i h1
          simp only [Option.some.injEq] at hc; subst hc
          simp only [hx,List.map_cons,List.map_nil,aappend,hsT,hxT,he,hi,hz,Option.bind_eq_bind,Option.bind_some]
          simp only [csem,appTo,Option.bind_eq_some_iff] at h
          obtain ⟨m,hm,xs,hxs,h⟩:=h
          simp only [hm,hxs,Option.bind_some,if_neg h1]
          split at h
          · rename_i hs; simp only [hs]; exact h
          · rename_i hs; simp only [hs]; simp only [Option.bind_eq_some_iff] at h ⊢; exact h
          · cases h
      · cases hc
    · rename_i hf
      simp only [hf]
      split at hc
      · rename_i d x hx
        simp only [Option.bind_eq_some_iff,Option.map_eq_some_iff] at hc
        obtain ⟨dT,hdT,e,he,n,hn,rfl⟩:=hc
        simp only [hx,List.map_cons,List.map_nil,acopy,hdT,he,hn,Option.bind_eq_bind,Option.bind_some]
        simp only [csem,cpyTo] at h
        split at h
        · rename_i hs; simp only [hs]; exact h
        · rename_i hs; simp only [hs]; exact h
        · cases h
      · cases hc
    · rename_i hf
      simp only [hf]
      split at hc
      · rename_i x hx
        simp only [Option.bind_eq_some_iff,Option.map_eq_some_iff] at hc
        obtain ⟨T,h1,e',h2,n,h3,z,h4,rfl⟩:=hc
        simp only [csem] at h
        simp only [hx,List.map_cons,List.map_nil,aclear,h1,h2,h3,h4,Option.bind_some]
        exact h
      · cases hc
    · rename_i r name hf
      simp only [hf]
      simp only [Option.some.injEq] at hc; subst hc
      simp only [csem,invOf] at h
      exact h
    · simp only [Option.some.injEq] at hc; subst hc
      split
      · rename_i g _; exact absurd ‹c.callee = .value g› (by simp_all)
      · simp_all
      · simp_all
      · simp_all
      · simp_all
      · simp_all
      · exact h
  case h_21 ho =>
    simp only [Option.some.injEq] at hc; subst hc
    unfold aop; simpa [ho,csem,amakeMap] using h
  case h_22 T k n ho =>
    split at hc
    · rename_i hm
      simp only [Option.some.injEq] at hc; subst hc
      obtain ⟨m,hm⟩:=Option.isSome_iff_exists.1 hm
      unfold aop
      simp only [csem] at h
      simpa [ho,aev,AV.of?,AV.ofCell?,Sc.of?,amakeMap,hm] using h
    · cases hc
  case h_23 T x ix ok ho =>
    simp only [Option.bind_eq_some_iff,Option.map_eq_some_iff] at hc
    obtain ⟨m,h1,ks,h2,g,h3,z,h4,rfl⟩:=hc
    unfold aop
    simp only [csem] at h
    simp only [ho,alookup,h1,h2,h3,h4,Option.bind_some]
    exact h
  case h_24 T m k v ho =>
    simp only [Option.bind_eq_some_iff,Option.map_eq_some_iff] at hc
    obtain ⟨mt,h1,ks,h2,g,h3,rfl⟩:=hc
    unfold aop
    simp only [csem] at h
    simp only [ho,amapUpdate,h1,h2,h3,Option.bind_some]
    exact h
  case h_25 T x lo hi m ho =>
    split at hc
    · rename_i e hT
      simp only [Option.map_eq_some_iff] at hc
      obtain ⟨n,hn,rfl⟩:=hc
      unfold aop
      simp only [csem,Option.map_eq_some_iff] at h
      obtain ⟨v,h1,rfl⟩:=h
      have he : sliceElem P T = some e:=by simp [sliceElem,hT]
      unfold cutS3 at h1
      split at h1
      · rename_i b off len cap n' hx
        simp only [ho,hx,Option.isNone_some,Bool.false_eq_true,if_false]
        simp only [aslice3,he,hn,Option.bind_some]
        simp only [Option.map_eq_some_iff]
        exact ⟨_,h1,rfl⟩
      · rename_i hx
        simp only [ho,hx,Option.isNone_some,Bool.false_eq_true,if_false]
        simp only [aslice3,he,hn,Option.bind_some]
        simp only [Option.map_eq_some_iff]
        exact ⟨_,h1,rfl⟩
      · cases h1
    · cases hc
  case h_26 src dst x ho =>
    split at hc
    · rename_i k0 k hs hd
      simp only [Option.some.injEq] at hc; subst hc
      simp only [csem,Option.map_eq_some_iff] at h
      obtain ⟨v,h1,rfl⟩:=h
      have hnb : isBytes P src dst = false:=by unfold isBytes; rw [hs,hd]
      unfold aop; simp only [ho,hnb,Bool.false_eq_true,if_false]; exact conv_ok hs hd ho h1
    · split at hc
      · rename_i hb
        simp only [Option.some.injEq] at hc; subst hc
        unfold aop; simp only [ho,hb,if_true]; exact h
      · cases hc
  case h_27 T x ix ho =>
    unfold aop; simp only [ho]
    split at hc
    · rename_i hT
      simp only [Option.some.injEq] at hc; subst hc
      simp only [csem,Option.bind_eq_some_iff,Option.map_eq_some_iff] at h
      obtain ⟨i,hi,v,h1,rfl⟩:=h
      exact idxS_ok hT ho hi h1
    · rename_i m e hT
      simp only [Option.bind_eq_some_iff] at hc
      obtain ⟨g,hg,hc⟩:=hc
      split at hc
      · simp only [Option.some.injEq] at hc; subst hc; exact h
      · rename_i hg0
        simp only [Bool.not_eq_true] at hg0; subst hg0
        simp only [Option.map_eq_some_iff] at hc
        obtain ⟨n,hn,rfl⟩:=hc
        simp only [csem,Option.bind_eq_some_iff,Option.map_eq_some_iff] at h
        obtain ⟨i,hi,v,h1,rfl⟩:=h
        exact idxA_ok hT hg hn ho hi h1
    · cases hc
  case h_28 T x ho =>
    unfold aop; simp only [ho]
    split at hc
    · cases hc
    · rename_i d hnot hu
      simp only [Option.some.injEq] at hc; subst hc
      rw [hu]
      cases d <;> first | exact h | exact absurd rfl (hnot _)
    · cases hc
  all_goals cases hc
theorem cop0_app {P : Program} {o : Oper} {T : TypeId} {c : COp} (hT : appEl P o = some T) (h : cop0 P o = some c) : ∃ n bytes s x,c = .app n bytes s x:=by
  unfold appEl at hT
  split at hT
  rotate_left
  · cases hT
  rename_i k ho
  split at hT
  rotate_left
  · cases hT
  rename_i hf
  unfold cop0 at h
  simp only [ho,hf] at h
  split at h
  rotate_left
  · cases h
  simp only [Option.bind_eq_some_iff] at h
  obtain ⟨_,_,_,_,_,_,_,_,_,_,h⟩:=h
  split at h
  · cases h
  · simp only [Option.some.injEq] at h
    exact ⟨_,_,_,_,h.symm⟩
theorem csem_ok {P : Program} {t : List AV} {H : AHeap} {o : Oper} {c : COp} {e : Eff} (hc : cop P o = some c) (h : csem P t H c = some e) : ∃ e0,aop P t H o = some e0∧e = tagE P H o e0:=by
  rcases cop_cases hc with ⟨c0,h1,rfl⟩ | ⟨_,rfl⟩
  · cases hT : appEl P o with
    | none =>
      rw [hT] at h
      exact ⟨e,csem_ok0 h1 h,by simp [tagE,hT]⟩
    | some T =>
      rw [hT] at h
      obtain ⟨n,bytes,s,x,rfl⟩:=cop0_app hT h1
      simp only [upB,csem,Option.map_eq_some_iff] at h
      obtain ⟨e0,h2,rfl⟩:=h
      exact ⟨e0,csem_ok0 h1 h2,by simp [tagE,hT]⟩
  · cases h
theorem strb_nil {P : Program} {t : List AV} {o : Oper} {src dst : TypeId} {x : Operand} (hb : isStrOf P src dst = true) (ho : o.op = .convert src dst x) (hx : aev t x = .sc .nils) : aclosed P t o = some (.val (.sc (.str ByteArray.empty))):=by
  unfold isStrOf at hb
  split at hb
  rotate_left
  · cases hb
  rename_i e hs hd
  split at hb
  rotate_left
  · cases hb
  rename_i he
  refine aclosed_of (v:=.string ByteArray.empty) ?_ ?_ rfl
  · simp [allClosed,ho,Op.operands,(closed_sc hx).2]
  · have und : ∀ {T : TypeId} {d : TypeDesc},P.underlying T = some d→pureSem P (underlying T) = some d:=fun {T d} hT => by
      unfold underlying
      rw [pureSem_bind (u:=P) rfl]
      simp only [hT]; rfl
    unfold execOp
    simp only [ho,(closed_sc hx).1,Sc.val]
    have hconv : pureSem P (convert src dst (.slice none 0 0)) = some (.string ByteArray.empty):=by
      unfold convert
      rw [pureSem_bind (und hs),pureSem_bind (und hd)]
      simp only
      rw [pureSem_bind (und he)]
      rfl
    rw [pureSem_bind hconv]; rfl
theorem csemM_ok {P : Program} {t : List AV} {H : AHeap} {o : Oper} {c : COp} {e : Eff} (hc : copM P o = some c) (h : csem P t H c = some e) : aopM P t H o = some e:=by
  unfold copM at hc
  split at hc
  · rename_i c0 hm
    simp only [Option.some.injEq] at hc; subst hc
    unfold mapLenOf at hm
    split at hm
    · rename_i src dst x ho
      split at hm
      rotate_left
      · cases hm
      rename_i hb
      simp only [Option.some.injEq] at hm; subst hm
      simp only [csem,Option.map_eq_some_iff] at h
      obtain ⟨v,h,rfl⟩:=h
      have hnb : isBytes P src dst = false:=by
        unfold isStrOf at hb; unfold isBytes
        split at hb
        · rename_i hd; simp [hd]
        · cases hb
      have ha : aop P t H o = aclosed P t o:=by unfold aop; simp only [ho,hnb,Bool.false_eq_true,if_false]
      unfold strBytes at h
      split at h
      · rename_i hx
        simp only [Option.some.injEq] at h; subst h
        unfold aopM
        rw [ha,strb_nil hb ho hx]
        simp only [tagE_val]
      · have hno : allClosed t o = false ∨ ∃ z,aev t x = .sc z:=by
          cases hx : aev t x with
          | sc z => exact .inr ⟨z,rfl⟩
          | slice => exact .inl (by simp [allClosed,ho,Op.operands,hx,AV.closed?])
          | imm => exact .inl (by simp [allClosed,ho,Op.operands,hx,AV.closed?])
          | _ => rw [hx] at h; simp [strOf,alen] at h
        rcases hno with hno | ⟨z,hz⟩
        · have hn : aop P t H o = none:=by rw [ha]; unfold aclosed; rw [hno]; rfl
          unfold aopM
          rw [hn]
          unfold amapLen
          simp only [ho,hb,if_true,h,Option.map_some]
        · rw [hz] at h; simp [strOf] at h
    · rename_i el ho
      split at hm
      rotate_left
      · cases hm
      rename_i ht
      simp only [Option.bind_eq_some_iff] at hm
      obtain ⟨z,hz,hm⟩:=hm
      split at hm
      rotate_left
      · cases hm
      rename_i h1
      simp only [Option.some.injEq] at hm; subst hm
      have hn : aop P t H o = none:=by unfold aop; simp only [ho,ht,if_true]
      unfold aopM
      rw [hn]
      unfold amapLen
      simp only [ho,ht,if_true,hz,Option.bind_some,h1]
      simpa [csem] using h
    · rename_i el x ho
      split at hm
      rotate_left
      · cases hm
      rename_i ht
      simp only [Option.some.injEq] at hm; subst hm
      have hn : aop P t H o = none:=by unfold aop; simp only [ho,ht,if_true]
      unfold aopM
      rw [hn]
      unfold amapLen
      simp only [ho,ht,if_true]
      simpa [csem] using h
    rotate_left
    · cases hm
    rename_i c ho
    split at hm
    rotate_left
    · cases hm
    rename_i hf
    split at hm
    rotate_left
    · cases hm
    rename_i y k1 el hx h2
    simp only [Option.some.injEq] at hm; subst hm
    simp only [csem,Option.map_eq_some_iff] at h
    obtain ⟨v,h,rfl⟩:=h
    unfold lenMap at h
    split at h
    rotate_left
    · cases h
    rename_i b hb
    simp only [Option.map_eq_some_iff] at h
    obtain ⟨es,hes,rfl⟩:=h
    have hno : allClosed t o = false:=by
      unfold allClosed
      have hargs : c.args = #[y]:=by rw [← Array.toArray_toList (xs:=c.args),hx]
      simp [ho,Op.operands,Call.operands,hf,hargs,hb,AV.closed?]
    have hn : aop P t H o = none:=by
      unfold aop
      simp only [ho,hf,hx,List.map_cons,List.map_nil,hb,h2]
      unfold aclosed
      rw [hno]; rfl
    unfold aopM
    rw [hn]
    unfold amapLen
    simp only [ho,hf,hx,h2,hb,hes,Option.map_some]
  · obtain ⟨e0,h1,rfl⟩:=csem_ok hc h
    exact aopM_of h1
end Go.Hem
