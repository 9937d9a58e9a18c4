/- Joined. -/
import Derived.Test.YtldflacehmpjkaaGreatDoorHemT
namespace Go.Hem
theorem aload_eq {P : Program} {T : TypeId} {g : Bool} (h : isAggB P T = some g) (H : AHeap) (a : AV) :
    aload P T H a = if g = true then (szOf P T).bind fun n => readN H n a else read1 H a:=by
  cases g <;> cases a <;> simp [aload,aread,h,readN,read1,cutN,Option.bind_eq_bind]
  all_goals
    cases szOf P T <;> simp
theorem afill_eq (ps : Nat→Option (Nat × Nat)) : ∀ (parts : List (Nat × AV)) (parts' : List (Nat × Nat × AV)) (cells : List AV),
    parts.mapM (fun p => (ps p.1).map fun q => (q.1,q.2,p.2)) = some parts'→afill ps cells parts = fillL cells parts'
  | [],parts',cells,h => by simp at h; subst h; rfl
  | (i,v) :: rest,parts',cells,h => by
    simp only [List.mapM_cons,Option.bind_eq_bind,Option.bind_eq_some_iff,Option.map_eq_some_iff,Option.pure_def,Option.some.injEq] at h
    obtain ⟨x,⟨q,hq,rfl⟩,y,hy,rfl⟩:=h
    simp only [afill,hq,fillL]
    split
    · rfl
    · exact afill_eq ps rest y _ hy
theorem cparts_ev {ps : List (Nat × Nat)} {t : List AV} : ∀ {parts : List (Nat × Operand)} {parts' : List (Nat × Nat × Operand)},cparts ps parts = some parts' →
    (parts.map fun p => (p.1,aev t p.2)).mapM (fun p => (ps[p.1]?).map fun q => (q.1,q.2,p.2)) = some (evParts t parts')
  | [],parts',h => by simp [cparts] at h; subst h; rfl
  | p :: rest,parts',h => by
    simp only [cparts,List.mapM_cons,Option.bind_eq_bind,Option.bind_eq_some_iff,Option.map_eq_some_iff,Option.pure_def,Option.some.injEq] at h
    obtain ⟨x,⟨q,hq,rfl⟩,y,hy,rfl⟩:=h
    have ih:=cparts_ev (t:=t) (parts:=rest) (parts':=y) hy
    simp only [List.map_cons,List.mapM_cons,hq,Option.map_some,Option.bind_eq_bind,Option.bind_some,ih,Option.pure_def]
    rfl
theorem strided {n : Nat} {t : List AV} : ∀ (parts : List (Nat × Operand)),
    (parts.map fun p => (p.1,aev t p.2)).mapM (fun p => ((fun i => some (i * n,n)) p.1 : Option (Nat × Nat)).map fun q => (q.1,q.2,p.2)) = some (evParts t (parts.map fun p => (p.1 * n,n,p.2)))
  | [] => rfl
  | p :: rest => by
    have ih:=strided (n:=n) (t:=t) rest
    simp only [Option.map_some] at ih ⊢
    simp only [List.map_cons,List.mapM_cons,Option.bind_eq_bind,Option.bind_some,ih,Option.pure_def]
    rfl
theorem closed_int {t : List AV} {x : Operand} {k : IntKind} {a : Int} (h : aev t x = .sc (.int k a)) : closedEnv t x = .int k a∧(aev t x).closed?.isSome = true:=by
  constructor
  · simp [closedEnv,h,AV.closed?,Sc.val]
  · simp [h,AV.closed?]
theorem closed_sc {t : List AV} {x : Operand} {s : Sc} (h : aev t x = .sc s) : closedEnv t x = s.val∧(aev t x).closed?.isSome = true:=by
  constructor
  · simp [closedEnv,h,AV.closed?]
  · simp [h,AV.closed?]
theorem aclosed_bin {P : Program} {t : List AV} {o : Oper} {op : BinOp} {T yT : TypeId} {x y : Operand} {a b : Sc} {v : Value} {r : AV} (ho : o.op = .binOp op T x y yT)
    (hx : aev t x = .sc a) (hy : aev t y = .sc b) (hg : pureSem P (eqGuard op T x y a.val b.val) = some ()) (h : pureSem P (binOp op T a.val b.val) = some v) (hr : AV.of? v = some r) : aclosed P t o = some (.val r):=by
  have hc : allClosed t o = true:=by simp [allClosed,ho,Op.operands,(closed_sc hx).2,(closed_sc hy).2]
  have key : pureSem P (execOp (closedEnv t) o) = some (.value v):=by
    unfold execOp
    simp only [ho,(closed_sc hx).1,(closed_sc hy).1]
    have bindP : ∀ {α β : Type} (s : Sem α) (f : α→Sem β) (u : α),pureSem P s = some u→pureSem P (s >>= f) = pureSem P (f u):=by
      intro α β s f u
      induction s with
      | pure a => intro h; simp [pureSem] at h; subst h; rfl
      | program k ih => intro h; exact ih P h
      | mark m k ih => intro h; exact ih h
      | _ => intro h; simp [pureSem] at h
    rw [bindP _ _ v]
    · rfl
    · rw [bindP _ _ () hg,h]
  unfold aclosed
  rw [if_pos hc,key]
  simp [hr]
theorem eqGuard_int {P : Program} {op : BinOp} {T : TypeId} {x y : Operand} {a b : Sc} (h : a ≠ .nili ∨ b ≠ .nili) : pureSem P (eqGuard op T x y a.val b.val) = some ():=by
  unfold eqGuard
  cases op <;> first | rfl | (cases a <;> cases b <;> first | rfl | simp_all)
theorem symBin_anil {P : Program} {op : BinOp} {T : TypeId} {a b r : AV} (h : symBin P op T a b = some r) : anil P T a b = false:=by
  unfold symBin at h
  split at h
  · unfold symInt at h
    split at h
    · rfl
    · rfl
    · rfl
    · cases h
  all_goals first
    | (cases h; done)
    | (unfold symBinA at h
       split at h
       · split at h
         · cases h
         · split at h
           · unfold symAgg at h
             split at h
             · rfl
             · cases h
           · unfold symAgg at h
             split at h
             · rfl
             · cases h
           · cases h
       · cases h)
theorem bint_ok {P : Program} {t : List AV} {o : Oper} {op : BinOp} {T yT : TypeId} {x y : Operand} {r : AV} {k k' : IntKind} {a b : Int} (ho : o.op = .binOp op T x y yT) (hx : aev t x = .sc (.int k a)) (hy : aev t y = .sc (.int k' b)) (h : bintOf op (.sc (.int k a)) (.sc (.int k' b)) = some r) : aclosed P t o = some (.val r):=by
  simp only [bintOf] at h
  split at h
  rotate_left
  · cases h
  rename_i hk; subst hk
  have g:=eqGuard_int (P:=P) (op:=op) (T:=T) (x:=x) (y:=y) (a:=.int k a) (b:=.int k b) (.inl (by simp))
  have fin : ∀ v,pureSem P (binOp op T (Sc.val (.int k a)) (Sc.val (.int k b))) = some v→AV.of? v = some r→aclosed P t o = some (.val r):=fun v h1 h2 => aclosed_bin ho hx hy g h1 h2
  cases op <;> simp only [reduceCtorEq] at h
  all_goals first
    | (simp only [Option.some.injEq] at h; subst h
       first
       | exact fin (.int k (k.wrap (a + b))) (by simp [binOp,Sc.val,Op.intArith,pureSem,pure]) rfl
       | exact fin (.int k (k.wrap (a - b))) (by simp [binOp,Sc.val,Op.intArith,pureSem,pure]) rfl
       | exact fin (.int k (k.wrap (a * b))) (by simp [binOp,Sc.val,Op.intArith,pureSem,pure]) rfl
       | exact fin (.bool _) (by simp [binOp,Sc.val,Op.intCmp,pureSem,pure]) rfl
       | exact fin (.int k _) (by simp only [binOp,Sc.val,ne_eq,not_true,if_false]; rfl) rfl)
    | skip
  all_goals
    split at h
    · cases h
    · rename_i hb
      simp only [Option.some.injEq] at h; subst h
      exact fin (.int k _) (by simp [binOp,Sc.val,Op.intDiv,hb,pureSem,pure]) rfl
theorem aclosed_sym {P : Program} {t : List AV} {o : Oper} {op : BinOp} {T yT : TypeId} {x y : Operand} (ho : o.op = .binOp op T x y yT) (h : aev t x = .sym ∨ aev t y = .sym) : aclosed P t o = none:=by
  have : allClosed t o = false:=by
    rcases h with h | h <;> simp [allClosed,ho,Op.operands,h,AV.closed?]
  unfold aclosed; rw [this]; rfl
theorem bint_ok2 {P : Program} {t : List AV} {o : Oper} {op : BinOp} {T yT : TypeId} {x y : Operand} {r : AV} {k0 : IntKind} (hT : P.underlying T = some (.int k0)) (ho : o.op = .binOp op T x y yT) (h : bintOf op (aev t x) (aev t y) = some r) :
    aclosed P t o = some (.val r) ∨ (aclosed P t o = none∧symBin P op T (aev t x) (aev t y) = some r):=by
  by_cases q : ∃ k a k' b,aev t x = .sc (.int k a)∧aev t y = .sc (.int k' b)
  · obtain ⟨k,a,k',b,hx,hy⟩:=q
    rw [hx,hy] at h
    exact .inl (bint_ok ho hx hy h)
  · have hs : symInt op (aev t x) (aev t y) = some r:=by
      unfold bintOf at h
      split at h
      · rename_i k a k' b hx hy
        exact absurd ⟨k,a,k',b,hx,hy⟩ q
      · exact h
    refine .inr ⟨aclosed_sym ho ?_,by simp only [symBin,hT]; exact hs⟩
    unfold symInt at hs
    split at hs
    · rename_i hx hy; exact .inl hx
    · rename_i hx hy; exact .inl hx
    · rename_i hx hy; exact .inr hy
    · cases hs
theorem eqS_eqK : ∀ {ks : List SK} {xs ys : List AV},(∀ x ∈ xs,∃ s,x = .sc s)→(∀ y ∈ ys,∃ s,y = .sc s)→eqS ks xs ys = eqK ks xs ys
  | [],[],[],_,_ => rfl
  | [],[],_ :: _,_,_ => rfl
  | [],_ :: _,_,_,_ => rfl
  | k :: ks,[],ys,_,_ => by cases k <;> rfl
  | k :: ks,x :: _,[],hx,_ => by
    obtain ⟨s,rfl⟩:=hx x (by simp)
    cases k <;> cases s <;> rfl
  | k :: ks,x :: xs,y :: ys,hx,hy => by
    obtain ⟨s,rfl⟩:=hx x (by simp)
    obtain ⟨s',rfl⟩:=hy y (by simp)
    have ih:=eqS_eqK (ks:=ks) (xs:=xs) (ys:=ys) (fun z hz => hx z (by simp [hz])) (fun z hz => hy z (by simp [hz]))
    cases k <;> cases s <;> cases s' <;> first | rfl | simp only [eqS,eqK,ih]
theorem closed_scs : ∀ {cs : List AV} {vs : List Value},cs.mapM AV.scalar? = some vs→∀ x ∈ cs,∃ s,x = .sc s
  | [],_,_,x,hx => by simp at hx
  | c :: cs,vs,h,x,hx => by
    simp only [List.mapM_cons,Option.bind_eq_bind,Option.bind_eq_some_iff] at h
    obtain ⟨v,h1,vs',h2,_⟩:=h
    rcases List.mem_cons.1 hx with rfl | hx
    · cases x <;> simp [AV.scalar?] at h1
      exact ⟨_,rfl⟩
    · exact closed_scs h2 x hx
theorem aclosed_symA {P : Program} {t : List AV} {o : Oper} {op : BinOp} {T yT : TypeId} {x y : Operand} {ks : List SK} {xs ys : List AV} {q : Bool} (ho : o.op = .binOp op T x y yT) (hx : aev t x = .agg xs) (hy : aev t y = .agg ys) (h1 : eqK ks xs ys = none) (h2 : eqS ks xs ys = some q) : aclosed P t o = none:=by
  have : allClosed t o = false:=by
    cases hc : allClosed t o with
    | false => rfl
    | true =>
      simp only [allClosed,ho,Op.operands,List.all_cons,List.all_nil,Bool.and_true,Bool.and_eq_true,List.all_toArray,hx,hy,AV.closed?,Option.isSome_map] at hc
      obtain ⟨u,hu⟩:=Option.isSome_iff_exists.1 hc.1
      obtain ⟨u',hu'⟩:=Option.isSome_iff_exists.1 hc.2
      rw [eqS_eqK (closed_scs hu) (closed_scs hu'),h1] at h2
      cases h2
  unfold aclosed; rw [this]; rfl
theorem shft_ok {P : Program} {t : List AV} {o : Oper} {op : BinOp} {T yT : TypeId} {x y : Operand} {r : AV} (ho : o.op = .binOp op T x y yT) (h : shiftOf op (aev t x) (aev t y) = some r) : aclosed P t o = some (.val r):=by
  unfold shiftOf at h
  split at h
  rotate_left
  · cases h
  rename_i k a k' b hx hy
  split at h
  · cases h
  rename_i hb
  have g:=eqGuard_int (P:=P) (op:=op) (T:=T) (x:=x) (y:=y) (a:=.int k a) (b:=.int k' b) (.inl (by simp))
  have fin : ∀ v,pureSem P (binOp op T (Sc.val (.int k a)) (Sc.val (.int k' b))) = some v→AV.of? v = some r→aclosed P t o = some (.val r):=fun v h1 h2 => aclosed_bin ho hx hy g h1 h2
  cases op <;> simp only [reduceCtorEq] at h
  all_goals
    simp only [Option.some.injEq] at h; subst h
    exact fin (.int k _) (by simp only [binOp,Sc.val,Op.shift,hb,if_false]; rfl) rfl
theorem bstr_ok {P : Program} {t : List AV} {o : Oper} {op : BinOp} {T yT : TypeId} {x y : Operand} {r : AV} (ho : o.op = .binOp op T x y yT) (h : bstrOf op (aev t x) (aev t y) = some r) : aclosed P t o = some (.val r):=by
  unfold bstrOf at h
  split at h
  rotate_left
  · cases h
  rename_i a b hx hy
  have g:=eqGuard_int (P:=P) (op:=op) (T:=T) (x:=x) (y:=y) (a:=.str a) (b:=.str b) (.inl (by simp))
  have fin : ∀ v,pureSem P (binOp op T (Sc.val (.str a)) (Sc.val (.str b))) = some v→AV.of? v = some r→aclosed P t o = some (.val r):=fun v h1 h2 => aclosed_bin ho hx hy g h1 h2
  cases op <;> simp only [reduceCtorEq] at h
  · split at h
    · cases h
    · rename_i hb
      simp only [Option.some.injEq] at h; subst h
      exact fin (.string _) (by simp only [binOp,Sc.val,Op.stringOp]; rw [if_neg hb]; rfl) rfl
  all_goals
    simp only [Option.some.injEq] at h; subst h
    exact fin (.bool _) (by simp [binOp,Sc.val,Op.stringOp,pureSem,pure]) rfl
theorem bbool_ok {P : Program} {t : List AV} {o : Oper} {neg : Bool} {T yT : TypeId} {x y : Operand} {r : AV} (hT : P.underlying T = some .bool) (ho : o.op = .binOp (if neg then .neq else .eql) T x y yT) (h : bboolOf neg (aev t x) (aev t y) = some r) : aclosed P t o = some (.val r):=by
  unfold bboolOf at h
  split at h
  rotate_left
  · cases h
  rename_i a b hx hy
  simp only [Option.some.injEq] at h; subst h
  have e : ∀ d,pureSem P (Op.equalIn (d + 1) T (.bool a) (.bool b)) = some (a == b):=fun d => by
    simp [Op.equalIn,underlying,pureSem,Bind.bind,Sem.bind,program,hT,pure]
  have e0 : pureSem P (Op.equal T (.bool a) (.bool b)) = some (a == b):=e 9999
  have g : ∀ op,pureSem P (eqGuard op T x y (Sc.val (.bool a)) (Sc.val (.bool b))) = some ():=fun op => eqGuard_int (.inl (by simp))
  cases neg
  · exact aclosed_bin ho hx hy (g _) (v:=.bool (a == b)) (by
      simp only [Bool.false_eq_true,if_false]
      show pureSem P (Op.equal T (.bool a) (.bool b) >>= fun z => pure (Value.bool z)) = _
      rw [pureSem_bind e0]; rfl) rfl
  · exact aclosed_bin ho hx hy (g _) (v:=.bool (!(a == b))) (by
      simp only [if_true]
      show pureSem P (Op.equal T (.bool a) (.bool b) >>= fun z => pure (Value.bool !z)) = _
      rw [pureSem_bind e0]; rfl) rfl
theorem nilIs_spec {d : TypeDesc} {k : NK} {s : Sc} {v : AV} {q : Bool} (hk : nkOf d = some k) (h : nilIs k s v = some q) :
    (q = false∧besideNil s v (some d) = true∧∀ u,v ≠ .sc u) ∨ (q = true∧v = .sc s∧besideNil s v (some d) = false∧(s = .nilp∧k = .ptr ∨ s = .nils∧k = .slice ∨ s = .nilm∧k = .map ∨ s = .nilf∧k = .func)):=by
  cases v
  case sc u =>
    cases d <;> cases k <;> simp only [nkOf,reduceCtorEq,Option.some.injEq] at hk <;> cases s <;> cases u <;> simp [nilIs] at h <;> subst h <;> simp [besideNil]
  all_goals
    cases d <;> cases k <;> simp only [nkOf,reduceCtorEq,Option.some.injEq] at hk <;> cases s <;> simp [nilIs] at h <;> subst h <;> simp [besideNil]
theorem bnil_ok {P : Program} {t : List AV} {o : Oper} {neg : Bool} {T yT : TypeId} {x y : Operand} {r : AV} {d : TypeDesc} {k : NK} (hT : P.underlying T = some d) (hk : nkOf d = some k)
    (ho : o.op = .binOp (if neg then .neq else .eql) T x y yT) (h : bnilOf neg k (aev t x) (aev t y) = some r) {H : AHeap} : aop P t H o = some (.val r):=by
  have both : ∀ (s u : Sc),aev t x = .sc s→aev t y = .sc u→s = u→(s = .nilp∧k = .ptr ∨ s = .nils∧k = .slice ∨ s = .nilm∧k = .map ∨ s = .nilf∧k = .func)→aclosed P t o = some (.val (.sc (.bool (true != neg)))):=by
    intro s u h1 h2 h3 h4
    subst h3
    have e : pureSem P (Op.equal T s.val s.val) = some true:=by
      have q : ∀ d',pureSem P (Op.equalIn (d' + 1) T s.val s.val) = some true:=fun d' => by
        rcases h4 with ⟨rfl,rfl⟩ | ⟨rfl,rfl⟩ | ⟨rfl,rfl⟩ | ⟨rfl,rfl⟩ <;> (cases d <;> simp only [nkOf,reduceCtorEq,Option.some.injEq] at hk) <;>
          simp [Op.equalIn,underlying,pureSem,Bind.bind,Sem.bind,program,hT,pure,Sc.val]
      exact q 9999
    have g : ∀ op,pureSem P (eqGuard op T x y s.val s.val) = some ():=fun op => eqGuard_int (.inl (by rcases h4 with ⟨rfl,_⟩ | ⟨rfl,_⟩ | ⟨rfl,_⟩ | ⟨rfl,_⟩ <;> simp))
    cases neg
    · exact aclosed_bin ho h1 h2 (g _) (v:=.bool true) (by
        simp only [Bool.false_eq_true,if_false]
        have : binOp .eql T s.val s.val = (Op.equal T s.val s.val >>= fun z => pure (Value.bool z)):=by rcases h4 with ⟨rfl,_⟩ | ⟨rfl,_⟩ | ⟨rfl,_⟩ | ⟨rfl,_⟩ <;> rfl
        rw [this,pureSem_bind e]; rfl) rfl
    · exact aclosed_bin ho h1 h2 (g _) (v:=.bool false) (by
        simp only [if_true]
        have : binOp .neq T s.val s.val = (Op.equal T s.val s.val >>= fun z => pure (Value.bool !z)):=by rcases h4 with ⟨rfl,_⟩ | ⟨rfl,_⟩ | ⟨rfl,_⟩ | ⟨rfl,_⟩ <;> rfl
        rw [this,pureSem_bind e]; rfl) rfl
  have anl : ∀ {a b : AV},aev t x = a→aev t y = b→anil P T a b = true→aop P t H o = some (.val (.sc (.bool neg))):=by
    intro a b h1 h2 h3
    unfold aop
    simp only [ho]
    cases neg <;> simp [h1,h2,h3]
  have nal : ∀ {a b : AV},aev t x = a→aev t y = b→anil P T a b = false→aop P t H o = aclosed P t o:=by
    intro a b h1 h2 h3
    have h4 : ∀ op,symBin P op T a b = none:=by
      intro op
      unfold symBin
      rw [hT]
      cases d <;> first | rfl | simp [nkOf] at hk
    unfold aop
    simp only [ho,h1,h2,h3]
    simp [h4]
  unfold bnilOf at h
  split at h
  · rename_i s hx
    simp only [Option.map_eq_some_iff] at h
    obtain ⟨q,hq,rfl⟩:=h
    rcases nilIs_spec hk hq with ⟨rfl,h1,h2⟩ | ⟨rfl,h1,h2,h3⟩
    · rw [anl hx rfl (by unfold anil; rw [hT]; exact h1)]; cases neg <;> rfl
    · rw [nal hx h1 (by unfold anil; rw [hT]; rw [h1] at h2; exact h2)]
      exact both _ _ hx h1 rfl h3
  · rename_i s hy hne
    simp only [Option.map_eq_some_iff] at h
    obtain ⟨q,hq,rfl⟩:=h
    rcases nilIs_spec hk hq with ⟨rfl,h1,h2⟩ | ⟨rfl,h1,h2,h3⟩
    · have g : anil P T (aev t x) (.sc s) = true:=by
        unfold anil; rw [hT]
        revert h1 h2
        cases aev t x <;> intro h1 h2 <;> first | exact h1 | exact absurd rfl (h2 _)
      rw [anl rfl hy g]
      cases neg <;> rfl
    · exact (hne _ h1).elim
  · cases h
theorem aclosed_of {P : Program} {t : List AV} {o : Oper} {v : Value} {r : AV} (hc : allClosed t o = true) (h : pureSem P (execOp (closedEnv t) o) = some (.value v)) (hr : AV.of? v = some r) : aclosed P t o = some (.val r):=by
  unfold aclosed; rw [if_pos hc,h]; simp [hr]
theorem scalars_map : ∀ (a : List Sc),(a.map AV.sc).mapM AV.scalar? = some (scVals (a.map AV.sc))
  | [] => rfl
  | s :: a => by
    simp only [List.map_cons,List.mapM_cons,AV.scalar?,Option.bind_eq_bind,Option.bind_some,scalars_map a,Option.pure_def]
    rfl
theorem closed_agg {t : List AV} {x : Operand} {a : List Sc} (h : aev t x = .agg (a.map .sc)) : closedEnv t x = .agg (scVals (a.map AV.sc)).toArray∧(aev t x).closed?.isSome = true:=by
  have e : (AV.agg (a.map .sc)).closed? = some (.agg (scVals (a.map AV.sc)).toArray):=by simp only [AV.closed?,scalars_map,Option.map_some]
  constructor
  · unfold closedEnv; rw [h,e]; rfl
  · rw [h,e]; rfl
theorem bagg_ok {P : Program} {t : List AV} {o : Oper} {neg : Bool} {T yT : TypeId} {x y : Operand} {r : AV} {ks : List SK} {fs : Array Field} (hT : P.underlying T = some (.struct fs)) (hk : flatK P 12 T = some ks) (hg : ¬ P.eqGuardType P.depth T = true)
    (ho : o.op = .binOp (if neg then .neq else .eql) T x y yT) (h : baggOf neg ks (aev t x) (aev t y) = some r) : aclosed P t o = some (.val r) ∨ (aclosed P t o = none∧symBin P (if neg then .neq else .eql) T (aev t x) (aev t y) = some r):=by
  unfold baggOf at h
  split at h
  rotate_left
  · cases h
  rename_i xs ys hx hy
  simp only [Option.map_eq_some_iff] at h
  obtain ⟨q,hq,rfl⟩:=h
  cases hK : eqK ks xs ys with
  | none =>
    rw [hK,Option.none_or] at hq
    refine .inr ⟨aclosed_symA ho hx hy hK hq,?_⟩
    simp only [symBin,hT,symBinA,hk,hg,hx,hy]
    cases neg <;> simp [symAgg,hq]
  | some q' =>
  rw [hK,Option.some_or] at hq
  cases hq
  have hq:=hK
  refine .inl ?_
  obtain ⟨a,b,rfl,rfl,_,_⟩:=eqK_inv hq
  obtain ⟨td,ht,he,_⟩:=flat_ok 12 T ks hk _ _ _ 9988 hq
  rw [hT] at ht; cases ht
  have he' : pureSem P (Op.equal T (.agg (scVals (a.map AV.sc)).toArray) (.agg (scVals (b.map AV.sc)).toArray)) = some q:=he
  have hgd : ∀ op,pureSem P (eqGuard op T x y (.agg (scVals (a.map AV.sc)).toArray) (.agg (scVals (b.map AV.sc)).toArray)) = some ():=by
    intro op
    unfold eqGuard
    cases op <;> first
      | rfl
      | (simp only [Bool.not_eq_true] at hg
         show pureSem P (program >>= fun p => program >>= fun q => _) = _
         rw [pureSem_bind (show pureSem P program = some P from rfl),pureSem_bind (show pureSem P program = some P from rfl)]
         simp only [hg,Bool.not_false,if_true]
         rfl)
  cases neg
  · refine aclosed_of (v:=.bool q) ?_ ?_ rfl
    · simp [allClosed,ho,Op.operands,(closed_agg hx).2,(closed_agg hy).2]
    · unfold execOp
      simp only [ho,(closed_agg hx).1,(closed_agg hy).1,Bool.false_eq_true,if_false]
      have : pureSem P (do eqGuard .eql T x y (.agg (scVals (a.map AV.sc)).toArray) (.agg (scVals (b.map AV.sc)).toArray); binOp .eql T (.agg (scVals (a.map AV.sc)).toArray) (.agg (scVals (b.map AV.sc)).toArray)) = some (.bool q):=by
        rw [pureSem_bind (hgd _)]
        show pureSem P (Op.equal T _ _ >>= fun z => pure (Value.bool z)) = _
        rw [pureSem_bind he']; rfl
      rw [pureSem_bind this]; rfl
  · refine aclosed_of (v:=.bool (!q)) ?_ ?_ rfl
    · simp [allClosed,ho,Op.operands,(closed_agg hx).2,(closed_agg hy).2]
    · unfold execOp
      simp only [ho,(closed_agg hx).1,(closed_agg hy).1,if_true]
      have : pureSem P (do eqGuard .neq T x y (.agg (scVals (a.map AV.sc)).toArray) (.agg (scVals (b.map AV.sc)).toArray); binOp .neq T (.agg (scVals (a.map AV.sc)).toArray) (.agg (scVals (b.map AV.sc)).toArray)) = some (.bool (!q)):=by
        rw [pureSem_bind (hgd _)]
        show pureSem P (Op.equal T _ _ >>= fun z => pure (Value.bool !z)) = _
        rw [pureSem_bind he']; rfl
      rw [pureSem_bind this]; rfl
theorem bagg_okA {P : Program} {t : List AV} {o : Oper} {neg : Bool} {T yT : TypeId} {x y : Operand} {r : AV} {ks : List SK} {m : Nat} {el : TypeId} (hT : P.underlying T = some (.array m el)) (hk : flatK P 12 T = some ks) (hg : ¬ P.eqGuardType P.depth T = true)
    (ho : o.op = .binOp (if neg then .neq else .eql) T x y yT) (h : baggOf neg ks (aev t x) (aev t y) = some r) : aclosed P t o = some (.val r) ∨ (aclosed P t o = none∧symBin P (if neg then .neq else .eql) T (aev t x) (aev t y) = some r):=by
  unfold baggOf at h
  split at h
  rotate_left
  · cases h
  rename_i xs ys hx hy
  simp only [Option.map_eq_some_iff] at h
  obtain ⟨q,hq,rfl⟩:=h
  cases hK : eqK ks xs ys with
  | none =>
    rw [hK,Option.none_or] at hq
    refine .inr ⟨aclosed_symA ho hx hy hK hq,?_⟩
    simp only [symBin,hT,symBinA,hk,hg,hx,hy]
    cases neg <;> simp [symAgg,hq]
  | some q' =>
  rw [hK,Option.some_or] at hq
  cases hq
  have hq:=hK
  refine .inl ?_
  obtain ⟨a,b,rfl,rfl,_,_⟩:=eqK_inv hq
  obtain ⟨td,ht,he,_⟩:=flat_ok 12 T ks hk _ _ _ 9988 hq
  rw [hT] at ht; cases ht
  have he' : pureSem P (Op.equal T (.agg (scVals (a.map AV.sc)).toArray) (.agg (scVals (b.map AV.sc)).toArray)) = some q:=he
  have hgd : ∀ op,pureSem P (eqGuard op T x y (.agg (scVals (a.map AV.sc)).toArray) (.agg (scVals (b.map AV.sc)).toArray)) = some ():=by
    intro op
    unfold eqGuard
    cases op <;> first
      | rfl
      | (simp only [Bool.not_eq_true] at hg
         show pureSem P (program >>= fun p => program >>= fun q => _) = _
         rw [pureSem_bind (show pureSem P program = some P from rfl),pureSem_bind (show pureSem P program = some P from rfl)]
         simp only [hg,Bool.not_false,if_true]
         rfl)
  cases neg
  · refine aclosed_of (v:=.bool q) ?_ ?_ rfl
    · simp [allClosed,ho,Op.operands,(closed_agg hx).2,(closed_agg hy).2]
    · unfold execOp
      simp only [ho,(closed_agg hx).1,(closed_agg hy).1,Bool.false_eq_true,if_false]
      have : pureSem P (do eqGuard .eql T x y (.agg (scVals (a.map AV.sc)).toArray) (.agg (scVals (b.map AV.sc)).toArray); binOp .eql T (.agg (scVals (a.map AV.sc)).toArray) (.agg (scVals (b.map AV.sc)).toArray)) = some (.bool q):=by
        rw [pureSem_bind (hgd _)]
        show pureSem P (Op.equal T _ _ >>= fun z => pure (Value.bool z)) = _
        rw [pureSem_bind he']; rfl
      rw [pureSem_bind this]; rfl
  · refine aclosed_of (v:=.bool (!q)) ?_ ?_ rfl
    · simp [allClosed,ho,Op.operands,(closed_agg hx).2,(closed_agg hy).2]
    · unfold execOp
      simp only [ho,(closed_agg hx).1,(closed_agg hy).1,if_true]
      have : pureSem P (do eqGuard .neq T x y (.agg (scVals (a.map AV.sc)).toArray) (.agg (scVals (b.map AV.sc)).toArray); binOp .neq T (.agg (scVals (a.map AV.sc)).toArray) (.agg (scVals (b.map AV.sc)).toArray)) = some (.bool (!q)):=by
        rw [pureSem_bind (hgd _)]
        show pureSem P (Op.equal T _ _ >>= fun z => pure (Value.bool !z)) = _
        rw [pureSem_bind he']; rfl
      rw [pureSem_bind this]; rfl
theorem not_ok {P : Program} {t : List AV} {o : Oper} {T : TypeId} {x : Operand} {r : AV} (ho : o.op = .unOp .not T x) (h : notOf (aev t x) = some r) : aclosed P t o = some (.val r):=by
  unfold notOf at h
  split at h
  · rename_i b hx
    simp only [Option.some.injEq] at h; subst h
    refine aclosed_of (v:=.bool (!b)) ?_ ?_ rfl
    · simp [allClosed,ho,Op.operands,(closed_sc hx).2]
    · unfold execOp; simp only [ho,(closed_sc hx).1]; rfl
  · cases h
theorem conv_ok {P : Program} {t : List AV} {o : Oper} {src dst : TypeId} {x : Operand} {k0 k : IntKind} {r : AV} (hs : P.underlying src = some (.int k0)) (hd : P.underlying dst = some (.int k)) (ho : o.op = .convert src dst x) (h : convOf k (aev t x) = some r) : aclosed P t o = some (.val r):=by
  unfold convOf at h
  split at h
  · rename_i k1 n hx
    simp only [Option.some.injEq] at h; subst h
    refine aclosed_of (v:=.int k (k.wrap n)) ?_ ?_ rfl
    · simp [allClosed,ho,Op.operands,(closed_sc hx).2]
    · have und : ∀ {T : TypeId} {d : TypeDesc},P.underlying T = some d→pureSem P (underlying T) = some d:=fun {T d} hT => by
        unfold underlying
        rw [pureSem_bind (u:=P) rfl]
        simp only [hT]; rfl
      unfold execOp
      simp only [ho,(closed_sc hx).1,Sc.val]
      have hconv : pureSem P (convert src dst (.int k1 n)) = some (.int k (k.wrap n)):=by
        unfold convert
        rw [pureSem_bind (und hs),pureSem_bind (und hd)]
        rfl
      rw [pureSem_bind hconv]; rfl
  · cases h
theorem asNat_inv {a : AV} {n : Nat} (h : asNat a = some n) : ∃ k i,a = .sc (.int k i)∧0 ≤ i∧i.toNat = n:=by
  unfold asNat at h
  split at h
  · rename_i k i
    split at h
    · rename_i h0; simp only [Option.some.injEq] at h; exact ⟨k,i,rfl,h0,h⟩
    · cases h
  · cases h
theorem pureBound {P : Program} {k : IntKind} {i : Int} {y n : Nat} {code : BoundsCode} (h0 : 0 ≤ i) (hn : i.toNat = n) (hy : n ≤ y) : pureSem P (Instr.sliceBound (.int k i) y code) = some n:=by
  unfold Instr.sliceBound
  rw [pureSem_bind (u:=(k,i)) rfl]
  simp only
  rw [if_pos ⟨h0,by omega⟩]
  simp [pureSem,pure,hn]
theorem strCut_ok {P : Program} {t : List AV} {o : Oper} {T : TypeId} {x : Operand} {lo hi : Option Operand} {r : AV} (hT : P.underlying T = some .string) (ho : o.op = .slice T x lo hi none)
    (h : cutStr (aev t x) (bd t lo) (bd t hi) = some r) : aclosed P t o = some (.val r)∧∃ s,aev t x = .sc (.str s):=by
  unfold cutStr at h
  split at h
  · rename_i s hx
    simp only [Option.bind_eq_some_iff] at h
    obtain ⟨h',hh,l',hl,h⟩:=h
    split at h
    · rename_i hb
      simp only [Option.some.injEq] at h; subst h
      refine ⟨?_,_,hx⟩
      have hi' : (hi.map (closedEnv t) = none∧h' = s.size) ∨ ∃ k i,hi.map (closedEnv t) = some (.int k i)∧0 ≤ i∧i.toNat = h':=by
        cases hi with
        | none => simp only [bd,abound,Option.some.injEq] at hh; exact .inl ⟨rfl,hh.symm⟩
        | some y =>
          obtain ⟨k,i,h1,h2,h3⟩:=asNat_inv (show asNat (aev t y) = some h' from hh)
          exact .inr ⟨k,i,by simp [(closed_int h1).1],h2,h3⟩
      have lo' : (lo.map (closedEnv t) = none∧l' = 0) ∨ ∃ k i,lo.map (closedEnv t) = some (.int k i)∧0 ≤ i∧i.toNat = l':=by
        cases lo with
        | none => simp only [bd,abound,Option.some.injEq] at hl; exact .inl ⟨rfl,hl.symm⟩
        | some y =>
          obtain ⟨k,i,h1,h2,h3⟩:=asNat_inv (show asNat (aev t y) = some l' from hl)
          exact .inr ⟨k,i,by simp [(closed_int h1).1],h2,h3⟩
      have cl : ∀ (y : Operand) (n : Nat),asNat (aev t y) = some n→(aev t y).closed?.isSome = true:=fun y n h1 => by
        obtain ⟨k,i,h1,_⟩:=asNat_inv h1
        exact (closed_int h1).2
      refine aclosed_of (v:=.string (s.extract l' h')) ?_ ?_ rfl
      · have e1 : ∀ y,lo = some y→(aev t y).closed?.isSome = true:=fun y e => by subst e; exact cl y _ hl
        have e2 : ∀ y,hi = some y→(aev t y).closed?.isSome = true:=fun y e => by subst e; exact cl y _ hh
        have e0:=(closed_sc hx).2
        cases lo <;> cases hi <;> simp [allClosed,ho,Op.operands,e0,e1,e2]
      · have bnds : pureSem P (Instr.sliceBounds false s.size s.size (lo.map (closedEnv t)) (hi.map (closedEnv t)) none) = some (l',h',s.size):=by
          unfold Instr.sliceBounds
          rw [pureSem_bind (u:=s.size) rfl]
          simp only
          rcases hi' with ⟨e,rfl⟩ | ⟨k,i,e,h1,h2⟩
          · rw [e]; simp only
            rw [pureSem_bind (u:=s.size) rfl]
            rcases lo' with ⟨e',rfl⟩ | ⟨k',i',e',h1',h2'⟩
            · rw [e']; rfl
            · rw [e']; simp only
              rw [pureSem_bind (pureBound h1' h2' hb.1)]; rfl
          · rw [e]; simp only
            rw [pureSem_bind (pureBound h1 h2 hb.2)]
            rcases lo' with ⟨e',rfl⟩ | ⟨k',i',e',h1',h2'⟩
            · rw [e']; rfl
            · rw [e']; simp only
              rw [pureSem_bind (pureBound h1' h2' hb.1)]; rfl
        unfold execOp
        simp only [ho,(closed_sc hx).1,Option.map_none]
        have m : pureSem P (Instr.sliceAt T (Sc.str s).val (lo.map (closedEnv t)) (hi.map (closedEnv t)) none) = some (.string (s.extract l' h')):=by
          unfold Instr.sliceAt
          rw [pureSem_bind (pureSem_und hT)]
          simp only
          unfold Instr.slice
          rw [pureSem_bind (pureSem_und hT)]
          simp only [Sc.val,Option.isSome_none,Bool.false_eq_true,if_false]
          rw [pureSem_bind bnds]; rfl
        rw [pureSem_bind m]; rfl
    · cases h
  · cases h
theorem besideNil_closed {s : Sc} {v : AV} {d : Option TypeDesc} (h : v.closed?.isSome = true) : besideNil s v d = false:=by
  unfold besideNil
  split <;> first | rfl | simp [AV.closed?] at h
theorem anil_closed {P : Program} {T : TypeId} {x y : AV} (h1 : x.closed?.isSome = true) (h2 : y.closed?.isSome = true) : anil P T x y = false:=by
  unfold anil
  split
  · exact besideNil_closed h2
  · exact besideNil_closed h1
  · rfl
theorem builtin_ok {P : Program} {t : List AV} {o : Oper} {c : Call} {b : Builtin} {xs : List Operand} {v : Value} {r : AV} (ho : o.op = .call c) (hf : c.callee = .builtin b) (hx : c.args.toList = xs)
    (hcl : ∀ x ∈ xs,(aev t x).closed?.isSome = true) (h : ∀ ty cs,pureSem P (builtin b c.argTypes ty cs (xs.map (closedEnv t)).toArray) = some (.value v)) (hr : AV.of? v = some r) : aclosed P t o = some (.val r):=by
  have hx' : c.args = xs.toArray:=by rw [← hx]
  refine aclosed_of (v:=v) ?_ ?_ hr
  · simp only [allClosed,ho,Op.operands,Call.operands,hf,hx']
    simpa using hcl
  · unfold execOp
    simp only [ho,resolve,hf]
    rw [pureSem_bind (s:=pure _) rfl]
    simp only [invoke,hx']
    rw [show Array.map (closedEnv t) xs.toArray = (xs.map (closedEnv t)).toArray by simp]
    exact h _ _
theorem len_ok {P : Program} {t : List AV} {o : Oper} {c : Call} {x : Operand} {s : Sc} {d : TypeDesc} {n : Int} (ho : o.op = .call c) (hf : c.callee = .builtin .len) (hx : c.args.toList = [x]) (hs : aev t x = .sc s)
    (hT : (c.argTypes[0]?).bind (P.underlying ·) = some d) (h : (d = .string∧∃ z,s = .str z∧n = z.size) ∨ (s = .nils∧n = 0∧∃ e,d = .slice e)) : aclosed P t o = some (.val (.sc (.int .i64 n))):=by
  refine builtin_ok (v:=.int .i64 n) ho hf hx (by simp [(closed_sc hs).2]) ?_ rfl
  intro ty cs
  simp only [Option.bind_eq_some_iff] at hT
  obtain ⟨T,hT1,hT2⟩:=hT
  have : pureSem P (Builtin.len_ c.argTypes ty #[s.val]) = some (.int .i64 n):=by
    unfold Builtin.len_
    have e : (#[s.val] : Array Value)[0]? = some s.val:=rfl
    simp only [hT1,e]
    rw [pureSem_bind (pureSem_und hT2)]
    rcases h with ⟨rfl,z,rfl,rfl⟩ | ⟨rfl,rfl,e,rfl⟩ <;> rfl
  simp only [List.map_cons,List.map_nil,(closed_sc hs).1,builtin]
  rw [pureSem_bind this]; rfl
theorem min_ok {P : Program} {t : List AV} {o : Oper} {c : Call} {x y : Operand} {r : AV} (ho : o.op = .call c) (hf : c.callee = .builtin .min) (hx : c.args.toList = [x,y])
    (h : minOf (aev t x) (aev t y) = some r) : aclosed P t o = some (.val r):=by
  unfold minOf at h
  split at h
  · rename_i k a k' b h1 h2
    simp only [Option.some.injEq] at h; subst h
    refine builtin_ok (v:=.int k (if b < a then b else a)) ho hf hx (by simp [(closed_sc h1).2,(closed_sc h2).2]) ?_ rfl
    intro ty cs
    simp only [List.map_cons,List.map_nil,(closed_sc h1).1,(closed_sc h2).1,builtin]
    rfl
  · cases h
theorem max_ok {P : Program} {t : List AV} {o : Oper} {c : Call} {x y : Operand} {r : AV} (ho : o.op = .call c) (hf : c.callee = .builtin .max) (hx : c.args.toList = [x,y])
    (h : maxOf (aev t x) (aev t y) = some r) : aclosed P t o = some (.val r):=by
  unfold maxOf at h
  split at h
  · rename_i k a k' b h1 h2
    simp only [Option.some.injEq] at h; subst h
    refine builtin_ok (v:=.int k (if a < b then b else a)) ho hf hx (by simp [(closed_sc h1).2,(closed_sc h2).2]) ?_ rfl
    intro ty cs
    simp only [List.map_cons,List.map_nil,(closed_sc h1).1,(closed_sc h2).1,builtin]
    rfl
  · cases h
theorem all_scs : ∀ {cs : List AV},cs.all AV.isSc = true→∃ a : List Sc,cs = a.map AV.sc
  | [],_ => ⟨[],rfl⟩
  | v :: cs,h => by
    simp only [List.all_cons,Bool.and_eq_true] at h
    obtain ⟨a,rfl⟩:=all_scs h.2
    cases v <;> simp [AV.isSc] at h
    exact ⟨_ :: a,rfl⟩
theorem scVals_get : ∀ (a : List Sc) (i : Nat),(scVals (a.map AV.sc))[i]? = (a[i]?).map Sc.val
  | [],_ => rfl
  | s :: a,0 => rfl
  | s :: a,i + 1 => by
    have:=scVals_get a i
    simpa [scVals] using this
theorem idxS_ok {P : Program} {t : List AV} {o : Oper} {T : TypeId} {x ix : Operand} {i : Nat} {r : AV} (hT : P.underlying T = some .string) (ho : o.op = .index T x ix) (hi : asNat (aev t ix) = some i) (h : strAt (aev t x) i = some r) : aclosed P t o = some (.val r):=by
  unfold strAt at h
  split at h
  · rename_i s hx
    simp only [Option.map_eq_some_iff] at h
    obtain ⟨b,hb,rfl⟩:=h
    obtain ⟨k,j,h1,h2,h3⟩:=asNat_inv hi
    refine aclosed_of (v:=.int .u8 b.toNat) ?_ ?_ rfl
    · simp [allClosed,ho,Op.operands,(closed_sc hx).2,(closed_sc h1).2]
    · unfold execOp
      simp only [ho,(closed_sc hx).1,(closed_sc h1).1,Sc.val]
      have m : pureSem P (Instr.index T (.string s) (.int k j)) = some (.int .u8 b.toNat):=by
        unfold Instr.index
        rw [pureSem_bind (u:=(k,j)) rfl,pureSem_bind (pureSem_und hT)]
        simp only [if_pos h2,h3,hb]
        rfl
      rw [pureSem_bind m]; rfl
  · cases h
theorem idxA_ok {P : Program} {t : List AV} {o : Oper} {T e : TypeId} {m n : Nat} {x ix : Operand} {i : Nat} {r : AV} (hT : P.underlying T = some (.array m e)) (hg : isAggB P e = some false) (hn : szOf P e = some n) (ho : o.op = .index T x ix) (hi : asNat (aev t ix) = some i) (h : arrAt m n (aev t x) i = some r) : aclosed P t o = some (.val r):=by
  unfold arrAt at h
  split at h
  rotate_left
  · cases h
  rename_i cs hx
  split at h
  rotate_left
  · cases h
  rename_i h0
  obtain ⟨s0,hv,rfl,hof⟩ : ∃ s0 : Sc,cs[i * n]? = some (.sc s0)∧r = .sc s0∧AV.of? s0.val = some (.sc s0):=by
    split at h
    · rename_i k0 v0 hv; cases h; exact ⟨_,hv,rfl,rfl⟩
    · rename_i v0 hv; cases h; exact ⟨_,hv,rfl,rfl⟩
    · rename_i v0 hv; cases h; exact ⟨_,hv,rfl,rfl⟩
    · rename_i hv; cases h; exact ⟨_,hv,rfl,rfl⟩
    · cases h
  obtain ⟨a,rfl⟩:=all_scs h0.2
  obtain ⟨k,j,h1,h2,h3⟩:=asNat_inv hi
  have hav : a[i * n]? = some s0:=by
    rw [List.getElem?_map] at hv
    simp only [Option.map_eq_some_iff,AV.sc.injEq] at hv
    obtain ⟨s,hs,rfl⟩:=hv
    exact hs
  have hcell : (scVals (a.map AV.sc)).toArray[i * n]? = some s0.val:=by
    rw [List.getElem?_toArray,scVals_get,hav]; rfl
  have hagg : pureSem P (isAgg e) = some false:=by
    unfold isAggB at hg
    simp only [Option.map_eq_some_iff] at hg
    obtain ⟨d,hd,hg⟩:=hg
    unfold isAgg
    rw [pureSem_bind (pureSem_und hd)]
    cases d <;> first | rfl | cases hg
  have hsz : pureSem P (sizeOf e) = some n:=by
    unfold szOf at hn
    simp only [Option.map_eq_some_iff] at hn
    obtain ⟨inf,hinf,rfl⟩:=hn
    unfold sizeOf
    have : pureSem P (typeInfo e) = some inf:=by
      unfold typeInfo
      rw [pureSem_bind (u:=P) rfl,hinf]; rfl
    rw [pureSem_bind this]; rfl
  refine aclosed_of (v:=s0.val) ?_ ?_ hof
  · simp [allClosed,ho,Op.operands,(closed_agg hx).2,(closed_sc h1).2]
  · unfold execOp
    simp only [ho,(closed_agg hx).1,(closed_sc h1).1,Sc.val]
    have mm : pureSem P (Instr.index T (.agg (scVals (a.map AV.sc)).toArray) (.int k j)) = some s0.val:=by
      unfold Instr.index
      rw [pureSem_bind (u:=(k,j)) rfl,pureSem_bind (pureSem_und hT)]
      have hj : 0 ≤ j∧j < (m : Int):=⟨h2,by omega⟩
      simp only [if_pos hj]
      rw [pureSem_bind hsz,h3]
      unfold part
      rw [pureSem_bind hagg]
      simp only [Bool.false_eq_true,if_false,hcell]
      rfl
    rw [pureSem_bind mm]; rfl
theorem csem_ok0 {P : Program} {t : List AV} {H : AHeap} {o : Oper} {c : COp} {e : Eff} (hc : cop0 P o = some c) (h : csem P t H c = some e) : aop P t H o = some e:=by
  unfold cop0 at hc
  split at hc
  case h_1 x ho => simp only [Option.some.injEq] at hc; subst hc; unfold aop; simpa [ho,csem] using h
  case h_2 x ho => simp only [Option.some.injEq] at hc; subst hc; unfold aop; simpa [ho,csem] using h
  case h_3 a b d ho =>
    simp only [Option.some.injEq] at hc; subst hc; unfold aop; simp only [ho,csem,Option.map_eq_some_iff] at h ⊢
    obtain ⟨v,h1,rfl⟩:=h
    unfold pickOf at h1
    split at h1 <;> simp_all
  case h_4 T ho =>
    split at hc
    · cases hc
    rename_i ht
    simp only [Option.bind_eq_some_iff] at hc
    obtain ⟨z,hz,hc⟩:=hc
    split at hc
    · simp only [Option.some.injEq] at hc; subst hc; unfold aop; rename_i h1; simpa [ho,csem,hz,h1,ht] using h
    · cases hc
  case h_5 T x ho =>
    split at hc
    · cases hc
    rename_i ht
    simp only [Option.some.injEq] at hc; subst hc; unfold aop; simpa [ho,csem,ht] using h
  case h_6 T parts ho =>
    simp only [Option.bind_eq_some_iff] at hc
    obtain ⟨z,hz,hc⟩:=hc
    unfold aop; simp only [ho,abuild,hz,Option.bind_eq_bind,Option.bind_some]
    split at hc
    · rename_i fs hT
      simp only [Option.bind_eq_some_iff,Option.map_eq_some_iff] at hc
      obtain ⟨ps,hps,q,hq,rfl⟩:=hc
      simp only [hT,hps,Option.bind_some]
      rw [afill_eq _ _ _ _ (cparts_ev hq)]
      simpa [csem,Function.comp_def] using h
    · rename_i n e hT
      simp only [Option.map_eq_some_iff] at hc
      obtain ⟨m,hm,rfl⟩:=hc
      simp only [hT,hm,Option.bind_some]
      rw [afill_eq _ _ _ _ (strided _)]
      simpa [csem,Function.comp_def] using h
    · cases hc
  case h_7 T len parts ho =>
    simp only [Option.bind_eq_some_iff] at hc
    obtain ⟨e,he,n,hn,hc⟩:=hc
    split at hc
    · rename_i h0
      split at hc
      · rename_i hp
        simp only [Option.some.injEq] at hc; subst hc
        unfold aop; simp only [ho,abuildSlice,he,hn,Option.bind_eq_bind,Option.bind_some]
        rw [if_neg (by omega),if_pos h0]
        have hp2 : ((Array.map (fun p => (p.1,aev t p.2)) parts).toList).isEmpty = true:=by simpa using hp
        have hp3 : (List.map (fun p => (p.1,aev t p.2)) parts.toList).isEmpty = true:=by simpa using hp
        rw [if_pos hp3]
        simpa [csem] using h
      · cases hc
    simp only [Option.bind_eq_some_iff] at hc
    obtain ⟨z,hz,hc⟩:=hc
    split at hc
    · cases hc
    · rename_i h1
      simp only [Option.some.injEq] at hc; subst hc
      simp only [not_or] at h1
      obtain ⟨h1,h2,h3⟩:=h1
      unfold aop; simp only [ho,abuildSlice,he,hn,hz,Option.bind_eq_bind,Option.bind_some]
      rw [if_neg h1,if_neg h2,if_neg (by simpa only [not_or] using h3),afill_eq _ _ _ _ (strided _)]
      simp only [csem,Option.map_eq_some_iff] at h
      obtain ⟨cs,h4,rfl⟩:=h
      rw [h4]; rfl
  case h_8 T a ho =>
    simp only [Option.bind_eq_some_iff] at hc
    obtain ⟨g,hg,hc⟩:=hc
    unfold aop; simp only [ho,aload_eq hg]
    split at hc
    · rename_i h1
      simp only [Option.map_eq_some_iff] at hc
      obtain ⟨n,hn,rfl⟩:=hc
      simp only [h1,if_true,hn,Option.bind_some]; exact h
    · rename_i h1
      simp only [Option.some.injEq] at hc; subst hc
      simp only [h1]; exact h
  case h_9 T a x ho =>
    simp only [Option.map_eq_some_iff] at hc
    obtain ⟨n,hn,rfl⟩:=hc
    unfold aop; simp only [ho]
    simp only [csem,writeN] at h
    unfold astore
    split at h
    · rename_i b off hx
      simp only [hx,hn,Option.bind_eq_bind,Option.bind_some]
      exact h
    · cases h
  case h_10 x ho =>
    simp only [Option.some.injEq] at hc; subst hc; unfold aop; simp only [ho,csem,Option.map_eq_some_iff] at h ⊢
    obtain ⟨v,h1,rfl⟩:=h
    revert h1; generalize aev t x = z; intro h1
    unfold nilcOf at h1
    split at h1
    case h_5 n T v a c =>
      split at h1
      · rename_i hm
        simp only [Option.some.injEq] at h1; subst h1
        simp only [hm,if_true]
      · cases h1
    all_goals simp only [Option.some.injEq,reduceCtorEq] at h1 <;> subst h1 <;> rfl
  case h_11 fn first captured ho => simp only [Option.some.injEq] at hc; subst hc; unfold aop; simpa [ho,csem] using h
  case h_12 T l c ho =>
    simp only [Option.bind_eq_some_iff] at hc
    obtain ⟨e,he,i,hi,z,hz,hc⟩:=hc
    split at hc
    · cases hc
    · rename_i h1
      simp only [Option.some.injEq] at hc; subst hc
      simp only [not_or] at h1
      obtain ⟨h1,h2,h3⟩:=h1
      have hs : szOf P e = some i.size:=by simp [szOf,hi]
      unfold aop; simp only [ho,amakeSlice,he,hi,hs,hz,Option.bind_eq_bind,Option.bind_some]
      simp only [csem,mksOf,Option.bind_eq_some_iff] at h
      obtain ⟨l',hl,c',hc',h4⟩:=h
      split at h4
      · rename_i h5
        simp only [Option.some.injEq] at h4; subst h4
        simp only [hl,hc',Option.bind_some,if_pos h5]
        by_cases h6 : c' * i.size = 0
        · have : c' = 0:=by
            rcases Nat.mul_eq_zero.1 h6 with h7 | h7
            · exact h7
            · exact absurd h7 h3
          subst this
          rw [if_pos h6]; simp [rep]
        · rw [if_neg h6,if_neg (by simp only [not_or]; exact ⟨h1,h2⟩)]
      · cases h4
  case h_13 T x lo hi ho =>
    unfold aop; simp only [ho]
    split at hc
    · rename_i e hT
      simp only [Option.map_eq_some_iff] at hc
      obtain ⟨n,hn,rfl⟩:=hc
      simp only [csem,Option.map_eq_some_iff] at h
      obtain ⟨v,h1,rfl⟩:=h
      have he : sliceElem P T = some e:=by simp [sliceElem,hT]
      unfold cutS at h1
      split at h1
      · rename_i b off len cap n' hx
        simp only [hx,Option.isNone_none,if_true]
        simp only [aslice,he,hn,Option.bind_eq_bind,Option.bind_some]
        simp only [Option.map_eq_some_iff]
        exact ⟨_,h1,rfl⟩
      · rename_i xs hx
        simp only [hx,Option.isNone_none,if_true]
        simp only [aslice,he,hn,Option.bind_eq_bind,Option.bind_some]
        simp only [Option.map_eq_some_iff]
        exact ⟨_,h1,rfl⟩
      · rename_i hx
        simp only [hx,Option.isNone_none,if_true]
        simp only [aslice,he,hn,Option.bind_eq_bind,Option.bind_some]
        simp only [Option.map_eq_some_iff]
        exact ⟨_,h1,rfl⟩
      · cases h1
    · rename_i hT
      simp only [Option.some.injEq] at hc; subst hc
      simp only [csem,Option.map_eq_some_iff] at h
      obtain ⟨v,h1,rfl⟩:=h
      obtain ⟨h2,s,h3⟩:=strCut_ok hT ho h1
      simp only [h3]; exact h2
    · rename_i m e hT
      simp only [Option.map_eq_some_iff] at hc
      obtain ⟨n,hn,rfl⟩:=hc
      simp only [csem,Option.map_eq_some_iff] at h
      obtain ⟨v,h1,rfl⟩:=h
      have he : arrayOf P T = some (m,e):=by simp [arrayOf,hT]
      unfold cutA at h1
      split at h1
      · rename_i b off hx
        simp only [hx,Option.isNone_none,if_true]
        simp only [aslice,he,hn,Option.bind_eq_bind,Option.bind_some]
        simp only [Option.map_eq_some_iff]
        exact ⟨_,h1,rfl⟩
      · cases h1
    · cases hc
  case h_14 S x f ho =>
    simp only [Option.bind_eq_some_iff] at hc
    obtain ⟨fs,hfs,fd,hfd,n,hn,hc⟩:=hc
    split at hc
    · cases hc
    · rename_i h0
      simp only [Option.some.injEq] at hc; subst hc
      unfold aop; simp only [ho,csem,afieldAddr,hfs,hfd,hn,Option.bind_eq_bind,Option.bind_some,if_neg h0] at h ⊢
      exact h
  case h_15 S x f ho =>
    simp only [Option.bind_eq_some_iff] at hc
    obtain ⟨fs,hfs,fd,hfd,g,hg,hc⟩:=hc
    unfold aop; simp only [ho,afield,hfs,hfd,Option.bind_eq_bind,Option.bind_some,aread,hg]
    split at hc
    · rename_i h1
      simp only [Option.map_eq_some_iff] at hc
      obtain ⟨n,hn,rfl⟩:=hc
      simp only [csem,Option.map_eq_some_iff] at h
      obtain ⟨v,h2,rfl⟩:=h
      unfold fldNOf cutN at h2
      split at h2
      · rename_i cs hx
        simp only [hx,h1,if_true,hn,Option.bind_some,Option.map_eq_some_iff]
        exact ⟨_,h2,rfl⟩
      · cases h2
    · rename_i h1
      simp only [Option.some.injEq] at hc; subst hc
      simp only [csem,Option.map_eq_some_iff] at h
      obtain ⟨v,h2,rfl⟩:=h
      unfold fld1Of at h2
      split at h2
      · rename_i cs hx
        simp only [hx,h1,Option.map_eq_some_iff]
        exact ⟨_,h2,rfl⟩
      · cases h2
  case h_16 T x ix ho =>
    unfold aop; simp only [ho,aindexAddr]
    split at hc
    · rename_i e hT
      simp only [Option.map_eq_some_iff] at hc
      obtain ⟨n,hn,rfl⟩:=hc
      simp only [csem,Option.bind_eq_some_iff,Option.map_eq_some_iff] at h
      obtain ⟨i,hi,v,h1,rfl⟩:=h
      have he : sliceElem P T = some e:=by simp [sliceElem,hT]
      unfold elemAt at h1
      split at h1
      · rename_i hx
        simp only [hi,hx,he,hn,Option.bind_eq_bind,Option.bind_some,Option.map_eq_some_iff]
        exact ⟨_,h1,rfl⟩
      · rename_i hx
        simp only [hi,hx,he,hn,Option.bind_eq_bind,Option.bind_some,Option.map_eq_some_iff]
        exact ⟨_,h1,rfl⟩
      · cases h1
    · rename_i m e hT
      simp only [Option.map_eq_some_iff] at hc
      obtain ⟨n,hn,rfl⟩:=hc
      simp only [csem,Option.bind_eq_some_iff,Option.map_eq_some_iff] at h
      obtain ⟨i,hi,v,h1,rfl⟩:=h
      have he : arrayOf P T = some (m,e):=by simp [arrayOf,hT]
      unfold elemAtA at h1
      split at h1
      · rename_i hx
        simp only [hi,hx,he,hn,Option.bind_eq_bind,Option.bind_some,Option.map_eq_some_iff]
        exact ⟨_,h1,rfl⟩
      · rename_i hx
        simp only [hi,hx,he,hn,Option.bind_eq_bind,Option.bind_some,Option.map_eq_some_iff]
        exact ⟨_,h1,rfl⟩
      · cases h1
    · cases hc
  case h_17 x ix ho =>
    simp only [Option.some.injEq] at hc; subst hc; unfold aop; simp only [ho,csem,Option.map_eq_some_iff] at h ⊢
    obtain ⟨v,h1,rfl⟩:=h
    unfold extOf at h1
    split at h1
    · rename_i hx
      simp only [hx,Option.map_eq_some_iff]; exact ⟨_,h1,rfl⟩
    · cases h1
  case h_18 op T x y yT ho =>
    simp only [Option.some.injEq] at hc
    have prim : ∀ {e : Eff},aclosed P t o = some e→aop P t H o = some e:=fun {e} h1 => by
      have hcl : allClosed t o = true:=by
        unfold aclosed at h1
        split at h1
        · assumption
        · cases h1
      have h3 : anil P T (aev t x) (aev t y) = false:=by
        simp only [allClosed,ho,Op.operands,List.all_cons,List.all_nil,Bool.and_true,Bool.and_eq_true,List.all_toArray] at hcl
        exact anil_closed hcl.1 hcl.2
      unfold aop; simp only [ho,h3]
      simp [h1]
    have prim2 : ∀ {r : AV},(aclosed P t o = some (.val r) ∨ (aclosed P t o = none∧symBin P op T (aev t x) (aev t y) = some r))→aop P t H o = some (.val r):=fun {r} h1 => by
      rcases h1 with h1 | ⟨h1,h2⟩
      · exact prim h1
      · have h3 : anil P T (aev t x) (aev t y) = false:=symBin_anil h2
        unfold aop; simp only [ho,h3]
        simp [h1,h2]
    subst hc
    unfold copBin at h
    split at h
    all_goals first
      | (simp only [csem,Option.map_eq_some_iff] at h
         obtain ⟨v,h1,rfl⟩:=h
         first
         | (rename_i hT; exact prim2 (bint_ok2 hT ho h1))
         | (rename_i hT _; exact prim2 (bint_ok2 hT ho h1))
         | exact prim (shft_ok ho h1)
         | exact prim (bstr_ok ho h1)
         | (rename_i hT; exact prim (bbool_ok (neg:=false) hT ho h1))
         | (rename_i hT; exact prim (bbool_ok (neg:=true) hT ho h1)))
      | (split at h
         · rename_i hT _ k hk
           split at h
           · exact prim h
           · rename_i hg
             simp only [csem,Option.map_eq_some_iff] at h
             obtain ⟨v,h1,rfl⟩:=h
             first
             | exact prim2 (bagg_ok (neg:=false) hT hk hg ho h1)
             | exact prim2 (bagg_ok (neg:=true) hT hk hg ho h1)
             | exact prim2 (bagg_okA (neg:=false) hT hk hg ho h1)
             | exact prim2 (bagg_okA (neg:=true) hT hk hg ho h1)
         · exact prim h)
      | (split at h
         · rename_i hT _ k hk
           simp only [csem,Option.map_eq_some_iff] at h
           obtain ⟨v,h1,rfl⟩:=h
           first
           | exact bnil_ok (neg:=false) hT hk ho h1
           | exact bnil_ok (neg:=true) hT hk ho h1
         · exact prim h)
      | exact prim h
  case h_19 op T x ho =>
    split at hc
    · rename_i hop; subst hop
      simp only [Option.some.injEq] at hc; subst hc
      simp only [csem,Option.map_eq_some_iff] at h
      obtain ⟨v,h1,rfl⟩:=h
      unfold aop; simp only [ho]; exact not_ok ho h1
    · simp only [Option.some.injEq] at hc; subst hc
      unfold aop; simp only [ho]; exact h
  case h_20 c ho =>
    unfold aop; simp only [ho]
    split at hc
    · rename_i f hf
      split at hc
      · rename_i hs
        simp only [Option.some.injEq] at hc; subst hc
        simp only [hf,aev]
        unfold csem at h
        simp only [Option.some.injEq] at h; subst h
        unfold acallee at hs ⊢
        split
        · rename_i fn hfn
          rw [hfn] at hs
          simp only at hs
          split at hs
          · rename_i h1; rw [if_pos h1]; simp
          · simp at hs
        · rename_i hfn; rw [hfn] at hs; simp at hs
      · cases hc
    · rename_i f _ hf
      simp only [Option.some.injEq] at hc; subst hc
      simp only [hf]
      simp only [csem,callvOf] at h
      split at h
      · rename_i hx; simp only [hx]; exact h
      · rename_i hx; simp only [hx]; exact h
      · cases h
    · rename_i hf
      simp only [hf]
      split at hc
      · rename_i x e hx hT
        simp only [Option.some.injEq] at hc; subst hc
        simp only [csem,Option.map_eq_some_iff] at h
        obtain ⟨v,h1,rfl⟩:=h
        unfold lenOf at h1
        split at h1
        · rename_i hv; simp only [hx,List.map_cons,List.map_nil,hv,hT]; simp_all
        · rename_i hv; simp only [hx,List.map_cons,List.map_nil,hv,hT]; simp_all
        · rename_i hv
          simp only [Option.some.injEq] at h1; subst h1
          simp only [hx,List.map_cons,List.map_nil,hv,hT]
          exact len_ok ho hf hx hv hT (.inr ⟨rfl,rfl,_,rfl⟩)
        · cases h1
      · rename_i x hx hT
        simp only [Option.some.injEq] at hc; subst hc
        simp only [csem,Option.map_eq_some_iff] at h
        obtain ⟨v,h1,rfl⟩:=h
        unfold lenStr at h1
        split at h1
        · rename_i z hv
          simp only [Option.some.injEq] at h1; subst h1
          simp only [hx,List.map_cons,List.map_nil,hv,hT]
          exact len_ok ho hf hx hv hT (.inl ⟨rfl,_,rfl,rfl⟩)
        · cases h1
      · cases hc
    · rename_i hf
      simp only [hf]
      split at hc
      · rename_i x y hx
        simp only [Option.some.injEq] at hc; subst hc
        simp only [csem,Option.map_eq_some_iff] at h
        obtain ⟨v,h1,rfl⟩:=h
        exact min_ok ho hf hx h1
      · simp only [Option.some.injEq] at hc; subst hc
        exact h
    · rename_i hf
      simp only [hf]
      split at hc
      · rename_i x y hx
        simp only [Option.some.injEq] at hc; subst hc
        simp only [csem,Option.map_eq_some_iff] at h
        obtain ⟨v,h1,rfl⟩:=h
        exact max_ok ho hf hx h1
      · simp only [Option.some.injEq] at hc; subst hc
        exact h
    · rename_i hf
      simp only [hf]
      split at hc
      · rename_i s x hx
        simp only [Option.bind_eq_some_iff] at hc
        obtain ⟨sT,hsT,xT,hxT,e,he,i,hi,z,hz,hc⟩:=hc
        split at hc
        · cases hc
        · rename_i h1
          simp only [Option.some.injEq] at hc; subst hc
          simp only [hx,List.map_cons,List.map_nil,aappend,hsT,hxT,he,hi,hz,Option.bind_eq_bind,Option.bind_some]
          simp only [csem,appTo,Option.bind_eq_some_iff] at h
          obtain ⟨m,hm,xs,hxs,h⟩:=h
          simp only [hm,hxs,Option.bind_some,if_neg h1]
          split at h
          · rename_i hs; simp only [hs]; exact h
          · rename_i hs; simp only [hs]; simp only [Option.bind_eq_some_iff] at h ⊢; exact h
          · cases h
      · cases hc
    · rename_i hf
      simp only [hf]
      split at hc
      · rename_i d x hx
        simp only [Option.bind_eq_some_iff,Option.map_eq_some_iff] at hc
        obtain ⟨dT,hdT,e,he,n,hn,rfl⟩:=hc
        simp only [hx,List.map_cons,List.map_nil,acopy,hdT,he,hn,Option.bind_eq_bind,Option.bind_some]
        simp only [csem,cpyTo] at h
        split at h
        · rename_i hs; simp only [hs]; exact h
        · rename_i hs; simp only [hs]; exact h
        · cases h
      · cases hc
    · rename_i hf
      simp only [hf]
      split at hc
      · rename_i x hx
        simp only [Option.bind_eq_some_iff,Option.map_eq_some_iff] at hc
        obtain ⟨T,h1,e',h2,n,h3,z,h4,rfl⟩:=hc
        simp only [csem] at h
        simp only [hx,List.map_cons,List.map_nil,aclear,h1,h2,h3,h4,Option.bind_some]
        exact h
      · cases hc
    · rename_i r name hf
      simp only [hf]
      simp only [Option.some.injEq] at hc; subst hc
      simp only [csem,invOf] at h
      exact h
    · simp only [Option.some.injEq] at hc; subst hc
      split
      · rename_i g _; exact absurd ‹c.callee = .value g› (by simp_all)
      · simp_all
      · simp_all
      · simp_all
      · simp_all
      · simp_all
      · exact h
  case h_21 ho =>
    simp only [Option.some.injEq] at hc; subst hc
    unfold aop; simpa [ho,csem,amakeMap] using h
  case h_22 T k n ho =>
    split at hc
    · rename_i hm
      simp only [Option.some.injEq] at hc; subst hc
      obtain ⟨m,hm⟩:=Option.isSome_iff_exists.1 hm
      unfold aop
      simp only [csem] at h
      simpa [ho,aev,AV.of?,AV.ofCell?,Sc.of?,amakeMap,hm] using h
    · cases hc
  case h_23 T x ix ok ho =>
    simp only [Option.bind_eq_some_iff,Option.map_eq_some_iff] at hc
    obtain ⟨m,h1,ks,h2,g,h3,z,h4,rfl⟩:=hc
    unfold aop
    simp only [csem] at h
    simp only [ho,alookup,h1,h2,h3,h4,Option.bind_some]
    exact h
  case h_24 T m k v ho =>
    simp only [Option.bind_eq_some_iff,Option.map_eq_some_iff] at hc
    obtain ⟨mt,h1,ks,h2,g,h3,rfl⟩:=hc
    unfold aop
    simp only [csem] at h
    simp only [ho,amapUpdate,h1,h2,h3,Option.bind_some]
    exact h
  case h_25 T x lo hi m ho =>
    split at hc
    · rename_i e hT
      simp only [Option.map_eq_some_iff] at hc
      obtain ⟨n,hn,rfl⟩:=hc
      unfold aop
      simp only [csem,Option.map_eq_some_iff] at h
      obtain ⟨v,h1,rfl⟩:=h
      have he : sliceElem P T = some e:=by simp [sliceElem,hT]
      unfold cutS3 at h1
      split at h1
      · rename_i b off len cap n' hx
        simp only [ho,hx,Option.isNone_some,Bool.false_eq_true,if_false]
        simp only [aslice3,he,hn,Option.bind_some]
        simp only [Option.map_eq_some_iff]
        exact ⟨_,h1,rfl⟩
      · rename_i hx
        simp only [ho,hx,Option.isNone_some,Bool.false_eq_true,if_false]
        simp only [aslice3,he,hn,Option.bind_some]
        simp only [Option.map_eq_some_iff]
        exact ⟨_,h1,rfl⟩
      · cases h1
    · cases hc
  case h_26 src dst x ho =>
    split at hc
    · rename_i k0 k hs hd
      simp only [Option.some.injEq] at hc; subst hc
      simp only [csem,Option.map_eq_some_iff] at h
      obtain ⟨v,h1,rfl⟩:=h
      have hnb : isBytes P src dst = false:=by unfold isBytes; rw [hs,hd]
      unfold aop; simp only [ho,hnb,Bool.false_eq_true,if_false]; exact conv_ok hs hd ho h1
    · split at hc
      · rename_i hb
        simp only [Option.some.injEq] at hc; subst hc
        unfold aop; simp only [ho,hb,if_true]; exact h
      · cases hc
  case h_27 T x ix ho =>
    unfold aop; simp only [ho]
    split at hc
    · rename_i hT
      simp only [Option.some.injEq] at hc; subst hc
      simp only [csem,Option.bind_eq_some_iff,Option.map_eq_some_iff] at h
      obtain ⟨i,hi,v,h1,rfl⟩:=h
      exact idxS_ok hT ho hi h1
    · rename_i m e hT
      simp only [Option.bind_eq_some_iff] at hc
      obtain ⟨g,hg,hc⟩:=hc
      split at hc
      · simp only [Option.some.injEq] at hc; subst hc; exact h
      · rename_i hg0
        simp only [Bool.not_eq_true] at hg0; subst hg0
        simp only [Option.map_eq_some_iff] at hc
        obtain ⟨n,hn,rfl⟩:=hc
        simp only [csem,Option.bind_eq_some_iff,Option.map_eq_some_iff] at h
        obtain ⟨i,hi,v,h1,rfl⟩:=h
        exact idxA_ok hT hg hn ho hi h1
    · cases hc
  case h_28 T x ho =>
    unfold aop; simp only [ho]
    split at hc
    · cases hc
    · rename_i d hnot hu
      simp only [Option.some.injEq] at hc; subst hc
      rw [hu]
      cases d <;> first | exact h | exact absurd rfl (hnot _)
    · cases hc
  all_goals cases hc
theorem cop0_app {P : Program} {o : Oper} {T : TypeId} {c : COp} (hT : appEl P o = some T) (h : cop0 P o = some c) : ∃ n bytes s x,c = .app n bytes s x:=by
  unfold appEl at hT
  split at hT
  rotate_left
  · cases hT
  rename_i k ho
  split at hT
  rotate_left
  · cases hT
  rename_i hf
  unfold cop0 at h
  simp only [ho,hf] at h
  split at h
  rotate_left
  · cases h
  simp only [Option.bind_eq_some_iff] at h
  obtain ⟨_,_,_,_,_,_,_,_,_,_,h⟩:=h
  split at h
  · cases h
  · simp only [Option.some.injEq] at h
    exact ⟨_,_,_,_,h.symm⟩
theorem csem_ok {P : Program} {t : List AV} {H : AHeap} {o : Oper} {c : COp} {e : Eff} (hc : cop P o = some c) (h : csem P t H c = some e) : ∃ e0,aop P t H o = some e0∧e = tagE P H o e0:=by
  rcases cop_cases hc with ⟨c0,h1,rfl⟩ | ⟨_,rfl⟩
  · cases hT : appEl P o with
    | none =>
      rw [hT] at h
      exact ⟨e,csem_ok0 h1 h,by simp [tagE,hT]⟩
    | some T =>
      rw [hT] at h
      obtain ⟨n,bytes,s,x,rfl⟩:=cop0_app hT h1
      simp only [upB,csem,Option.map_eq_some_iff] at h
      obtain ⟨e0,h2,rfl⟩:=h
      exact ⟨e0,csem_ok0 h1 h2,by simp [tagE,hT]⟩
  · cases h
theorem strb_nil {P : Program} {t : List AV} {o : Oper} {src dst : TypeId} {x : Operand} (hb : isStrOf P src dst = true) (ho : o.op = .convert src dst x) (hx : aev t x = .sc .nils) : aclosed P t o = some (.val (.sc (.str ByteArray.empty))):=by
  unfold isStrOf at hb
  split at hb
  rotate_left
  · cases hb
  rename_i e hs hd
  split at hb
  rotate_left
  · cases hb
  rename_i he
  refine aclosed_of (v:=.string ByteArray.empty) ?_ ?_ rfl
  · simp [allClosed,ho,Op.operands,(closed_sc hx).2]
  · have und : ∀ {T : TypeId} {d : TypeDesc},P.underlying T = some d→pureSem P (underlying T) = some d:=fun {T d} hT => by
      unfold underlying
      rw [pureSem_bind (u:=P) rfl]
      simp only [hT]; rfl
    unfold execOp
    simp only [ho,(closed_sc hx).1,Sc.val]
    have hconv : pureSem P (convert src dst (.slice none 0 0)) = some (.string ByteArray.empty):=by
      unfold convert
      rw [pureSem_bind (und hs),pureSem_bind (und hd)]
      simp only
      rw [pureSem_bind (und he)]
      rfl
    rw [pureSem_bind hconv]; rfl
theorem csemM_ok {P : Program} {t : List AV} {H : AHeap} {o : Oper} {c : COp} {e : Eff} (hc : copM P o = some c) (h : csem P t H c = some e) : aopM P t H o = some e:=by
  unfold copM at hc
  split at hc
  · rename_i c0 hm
    simp only [Option.some.injEq] at hc; subst hc
    unfold mapLenOf at hm
    split at hm
    · rename_i src dst x ho
      split at hm
      rotate_left
      · cases hm
      rename_i hb
      simp only [Option.some.injEq] at hm; subst hm
      simp only [csem,Option.map_eq_some_iff] at h
      obtain ⟨v,h,rfl⟩:=h
      have hnb : isBytes P src dst = false:=by
        unfold isStrOf at hb; unfold isBytes
        split at hb
        · rename_i hd; simp [hd]
        · cases hb
      have ha : aop P t H o = aclosed P t o:=by unfold aop; simp only [ho,hnb,Bool.false_eq_true,if_false]
      unfold strBytes at h
      split at h
      · rename_i hx
        simp only [Option.some.injEq] at h; subst h
        unfold aopM
        rw [ha,strb_nil hb ho hx]
        simp only [tagE_val]
      · have hno : allClosed t o = false ∨ ∃ z,aev t x = .sc z:=by
          cases hx : aev t x with
          | sc z => exact .inr ⟨z,rfl⟩
          | slice => exact .inl (by simp [allClosed,ho,Op.operands,hx,AV.closed?])
          | imm => exact .inl (by simp [allClosed,ho,Op.operands,hx,AV.closed?])
          | _ => rw [hx] at h; simp [strOf,alen] at h
        rcases hno with hno | ⟨z,hz⟩
        · have hn : aop P t H o = none:=by rw [ha]; unfold aclosed; rw [hno]; rfl
          unfold aopM
          rw [hn]
          unfold amapLen
          simp only [ho,hb,if_true,h,Option.map_some]
        · rw [hz] at h; simp [strOf] at h
    · rename_i el ho
      split at hm
      rotate_left
      · cases hm
      rename_i ht
      simp only [Option.bind_eq_some_iff] at hm
      obtain ⟨z,hz,hm⟩:=hm
      split at hm
      rotate_left
      · cases hm
      rename_i h1
      simp only [Option.some.injEq] at hm; subst hm
      have hn : aop P t H o = none:=by unfold aop; simp only [ho,ht,if_true]
      unfold aopM
      rw [hn]
      unfold amapLen
      simp only [ho,ht,if_true,hz,Option.bind_some,h1]
      simpa [csem] using h
    · rename_i el x ho
      split at hm
      rotate_left
      · cases hm
      rename_i ht
      simp only [Option.some.injEq] at hm; subst hm
      have hn : aop P t H o = none:=by unfold aop; simp only [ho,ht,if_true]
      unfold aopM
      rw [hn]
      unfold amapLen
      simp only [ho,ht,if_true]
      simpa [csem] using h
    rotate_left
    · cases hm
    rename_i c ho
    split at hm
    rotate_left
    · cases hm
    rename_i hf
    split at hm
    rotate_left
    · cases hm
    rename_i y k1 el hx h2
    simp only [Option.some.injEq] at hm; subst hm
    simp only [csem,Option.map_eq_some_iff] at h
    obtain ⟨v,h,rfl⟩:=h
    unfold lenMap at h
    split at h
    rotate_left
    · cases h
    rename_i b hb
    simp only [Option.map_eq_some_iff] at h
    obtain ⟨es,hes,rfl⟩:=h
    have hno : allClosed t o = false:=by
      unfold allClosed
      have hargs : c.args = #[y]:=by rw [← Array.toArray_toList (xs:=c.args),hx]
      simp [ho,Op.operands,Call.operands,hf,hargs,hb,AV.closed?]
    have hn : aop P t H o = none:=by
      unfold aop
      simp only [ho,hf,hx,List.map_cons,List.map_nil,hb,h2]
      unfold aclosed
      rw [hno]; rfl
    unfold aopM
    rw [hn]
    unfold amapLen
    simp only [ho,hf,hx,h2,hb,hes,Option.map_some]
  · obtain ⟨e0,h1,rfl⟩:=csem_ok hc h
    exact aopM_of h1
end Go.Hem
namespace Go.Hem
def Ev (P : Program) (pol : Pol) (T : Task) (H : AHeap) (Q : Out→AHeap→Prop) : Prop:=∃ n o H',run P pol n T H = some (o,H')∧Q o H'
theorem Ev.mono {P : Program} {pol : Pol} {T : Task} {H : AHeap} {Q R : Out→AHeap→Prop} (h : Ev P pol T H Q) (k : ∀ o H',Q o H'→R o H') : Ev P pol T H R:=by
  obtain ⟨n,o,H',h1,h2⟩:=h
  exact ⟨n,o,H',h1,k _ _ h2⟩
def Pv (P : Program) (pol : Pol) (f : FuncId) (args : List AV) (v : AV) : Prop :=
  AV.closedBs args = true∧∃ n v0 H0 H1,run P pol n (.call f args) {} = some (.val v0,H0)∧freeze v0 H0 = some (v,H1)∧AV.closedB v = true
structure CI where
  dst : Option Tmp
  guard : Option (Option Tmp × Bool)
  op : COp
  rd : List COp:=[]
def cwant (t : List AV) : Option (Option Tmp × Bool)→Option Bool
  | none => some true
  | some (d,want) =>
    match d.bind (t[·]?) with
    | some (.sc (.bool b)) => some (b == want)
    | some (.sc _) => some false
    | some .poison => none
    | some _ => some false
    | none => some false
def reK (P : Program) (t : List AV) (H : AHeap) (rd : List COp) (H' : AHeap) : Prop:=∀ c ∈ rd,csem P t H' c = csem P t H c
def PvF (P : Program) (pol : Pol) (K : AHeap→Prop) (H : AHeap) (Q : AV→AHeap→Prop) (f : FuncId) (args : List AV) : Prop :=
  ∃ args' H0 v,AV.closedBs args = false∧freezeL (freezeV 20) args H = some (args',H0)∧Pv P pol f args' v∧((v.flatB = true∧Q v H) ∨ (v.flatB = false∧K H0∧Q v H0))
def wpEff (P : Program) (pol : Pol) (K : AHeap→Prop) (H : AHeap) (Q : AV→AHeap→Prop) : Eff→Prop
  | .val v => Q v H
  | .new x mk => Q (mk H.next) (H.alloc x)
  | .mem v b x => K (H.put b (some (.cells x)))∧Q v (H.put b (some (.cells x)))
  | .memM v b es => K (H.put b (some (.map es)))∧Q v (H.put b (some (.map es)))
  | .fzn v => Q v H
  | .newT T x mk => Q (mk H.next) ((H.alloc x).addTg H.next T)
  | .move mk b x => K ((H.put b none).alloc (.cells x))∧Q (mk H.next) ((H.put b none).alloc (.cells x))
  | .moveT T mk b x => K (((H.put b none).alloc (.cells x)).addTg H.next T)∧Q (mk H.next) (((H.put b none).alloc (.cells x)).addTg H.next T)
  | .call f args => if pol.pure f = true then (∃ v,Pv P pol f args v∧Q v H) ∨ PvF P pol K H Q f args else Ev P pol (.call f args) H fun o H' => ∃ v,o = .val v∧K H'∧Q v H'
  | .yield l args => Ev P pol (.yield l args) H fun o H' => ∃ v,o = .val v∧K H'∧Q v H'
def wpOpt (P : Program) (pol : Pol) (K : AHeap→Prop) (H : AHeap) (Q : AV→AHeap→Prop) : Option Eff→Prop
  | some e => wpEff P pol K H Q e
  | none => False
def wpIns (P : Program) (pol : Pol) : List CI→List AV→AHeap→(List AV→AHeap→Prop)→Prop
  | [],t,H,Q => Q t H
  | i :: is,t,H,Q =>
    match cwant t i.guard with
    | some true => wpOpt P pol (reK P t H i.rd) H (fun v H' => wpIns P pol is (putT t i.dst v) H' Q) (csem P t H i.op)
    | some false => wpIns P pol is (putT t i.dst (.sc .undef)) H Q
    | none => False
def cguard (ops : Array Oper) (o : Oper) : Option (Option Tmp × Bool):=o.guard.map fun g => ((ops[g.1]?).bind (·.dst),g.2)
theorem cwant_eq (t : List AV) (ops : Array Oper) (o : Oper) : cwant t (cguard ops o) = awanted t ops o:=by
  unfold cguard awanted
  cases o.guard with
  | none => rfl
  | some g => rfl
def ci (P : Program) (ops : Array Oper) (o : Oper) : Option CI:=if plainOp o.op = true then (cop P o).map fun c => ⟨o.dst,cguard ops o,c,[]⟩ else none
def ciM (P : Program) (ops : Array Oper) (o : Oper) : Option CI:=if plainOp o.op = true then (copM P o).map fun c => ⟨o.dst,cguard ops o,c,[]⟩ else none
theorem doCall_pure {P : Program} {pol : Pol} {f : FuncId} {args : List AV} {v : AV} {H : AHeap} (hp : pol.pure f = true) (h : Pv P pol f args v) : ∃ n,doCall pol (run P pol n) f args H = some (v,H):=by
  obtain ⟨hc,n,v0,H0,H1,h1,h2,h3⟩:=h
  refine ⟨n,?_⟩
  unfold doCall
  simp [hp,hc,h1,h2,h3]
theorem doCall_pvf {P : Program} {pol : Pol} {f : FuncId} {args args' : List AV} {v : AV} {H H0 : AHeap} (hp : pol.pure f = true) (hc : AV.closedBs args = false) (hfz : freezeL (freezeV 20) args H = some (args',H0)) (h : Pv P pol f args' v) :
    ∃ n,doCall pol (run P pol n) f args H = some (v,if v.flatB = true then H else H0):=by
  obtain ⟨hcl,n,v0,H1,H2,h1,h2,h3⟩:=h
  refine ⟨n,?_⟩
  unfold doCall
  simp [hp,hc,hfz,hcl,h1,h2,h3]
theorem doCall_ev {P : Program} {pol : Pol} {f : FuncId} {args : List AV} {v : AV} {H H' : AHeap} {n : Nat} (hp : ¬ pol.pure f = true) (h : run P pol n (.call f args) H = some (.val v,H')) : doCall pol (run P pol n) f args H = some (v,H'):=by
  unfold doCall
  simp [hp,h]
theorem wpEff_V {P : Program} {pol : Pol} {K : AHeap→Prop} {H : AHeap} {Q : AV→AHeap→Prop} {e : Eff} (h : wpEff P pol K H Q e) :
    ∃ n v H',doEffV pol (run P pol n) H e = some (v,H')∧Q v H'∧(K H' ∨ HLe H H')∧((isVal e = true ∨ isNew e = true)→HLe H H'):=by
  cases e with
  | val v => exact ⟨0,v,H,rfl,h,.inr (HLe.refl H),fun _ => HLe.refl H⟩
  | new x mk => exact ⟨0,_,_,rfl,h,.inr (HLe.alloc H x),fun _ => HLe.alloc H x⟩
  | mem v b x => exact ⟨0,_,_,rfl,h.2,.inl h.1,fun q => by simp [isVal,isNew] at q⟩
  | memM v b x => exact ⟨0,_,_,rfl,h.2,.inl h.1,fun q => by simp [isVal,isNew] at q⟩
  | fzn v => exact ⟨0,v,H,rfl,h,.inr (HLe.refl H),fun _ => HLe.refl H⟩
  | newT T x mk => exact ⟨0,_,_,rfl,h,.inr ((HLe.alloc H x).addTg _ _),fun _ => (HLe.alloc H x).addTg _ _⟩
  | move mk b x => exact ⟨0,_,_,rfl,h.2,.inl h.1,fun q => by simp [isVal,isNew] at q⟩
  | moveT T mk b x => exact ⟨0,_,_,rfl,h.2,.inl h.1,fun q => by simp [isVal,isNew] at q⟩
  | call f args =>
    simp only [wpEff] at h
    split at h
    · rename_i hp
      rcases h with ⟨v,h1,h2⟩ | ⟨args',H0,v,hc,hfz,h1,h2⟩
      · obtain ⟨n,h3⟩:=doCall_pure (H:=H) hp h1
        exact ⟨n,v,H,h3,h2,.inr (HLe.refl H),fun _ => HLe.refl H⟩
      · obtain ⟨n,h3⟩:=doCall_pvf hp hc hfz h1
        rcases h2 with ⟨g1,g2⟩ | ⟨g1,g2,g3⟩
        · rw [if_pos g1] at h3
          exact ⟨n,v,H,h3,g2,.inr (HLe.refl H),fun _ => HLe.refl H⟩
        · rw [if_neg (by simp [g1])] at h3
          exact ⟨n,v,H0,h3,g3,.inl g2,fun q => by simp [isVal,isNew] at q⟩
    · rename_i hp
      obtain ⟨n,o,H',h1,v,rfl,h2,h3⟩:=h
      exact ⟨n,v,H',doCall_ev hp h1,h3,.inl h2,fun q => by simp [isVal,isNew] at q⟩
  | yield l args =>
    obtain ⟨n,o,H',h1,v,rfl,h2,h3⟩:=h
    exact ⟨n,v,H',by simp [doEffV,h1],h3,.inl h2,fun q => by simp [isVal,isNew] at q⟩
theorem ops_ok {P : Program} {pol : Pol} {ops : Array Oper} : ∀ {l : List Oper} {is : List CI} {t : List AV} {H : AHeap} {Q : List AV→AHeap→Prop},l.mapM (ciM P ops) = some is→wpIns P pol is t H Q →
    ∃ n r,doOps P pol (run P pol n) ops l t H = some r∧Q r.1 r.2
  | [],is,t,H,Q,hc,h => by simp at hc; subst hc; exact ⟨0,(t,H),rfl,h⟩
  | o :: l,is,t,H,Q,hc,h => by
    simp only [List.mapM_cons,Option.bind_eq_bind,Option.bind_eq_some_iff,Option.pure_def,Option.some.injEq] at hc
    obtain ⟨i,hi,is',his,rfl⟩:=hc
    unfold ciM at hi
    split at hi
    rotate_left
    · cases hi
    rename_i hp
    simp only [Option.map_eq_some_iff] at hi
    obtain ⟨c,hc,rfl⟩:=hi
    simp only [wpIns,cwant_eq] at h
    split at h
    · rename_i hw
      cases he : csem P t H c with
      | none => rw [he] at h; exact h.elim
      | some e =>
        rw [he] at h
        have h : wpEff P pol (reK P t H []) H (fun v H' => wpIns P pol is' (putT t o.dst v) H' Q) e:=h
        obtain ⟨n,v,H',h1,h2,_,_⟩:=wpEff_V h
        obtain ⟨m,r,h3,h4⟩:=ops_ok his h2
        refine ⟨max n m,r,?_,h4⟩
        have a1:=doEff_mono (run_le (Nat.le_max_left n m)) (doEff_of_V (t:=t) (dst:=o.dst) h1)
        have a2:=doOps_mono (run_le (Nat.le_max_right n m)) h3
        simp only [doOps,doOp,hw,hp,if_true,csemM_ok hc he,Option.bind_some,a1]
        exact a2
    · rename_i hw
      obtain ⟨m,r,h3,h4⟩:=ops_ok his h
      refine ⟨m,r,?_,h4⟩
      simp only [doOps,doOp,hw,Option.bind_some]
      exact h3
    · exact h.elim
structure Pend where
  j : Nat
  c : COp
  clean : Bool
def unclean (ops : Array Oper) (o : Oper) (p : Pend) : Pend :=
  match o.dst,ops[p.j]? with
  | some d,some r => { p with clean:=p.clean && !(looks ops r).contains d }
  | none,some _ => p
  | _,none => { p with clean:=false }
def compD (P : Program) (ops : Array Oper) (M : List Nat) : List Pend→List Nat→Option (List CI)
  | _,[] => some []
  | pend,j :: rest =>
    match ops[j]? with
    | none => none
    | some o =>
      (ci P ops o).bind fun i =>
      if isW o then
        (if (pend.filter fun r => !(M.getD j 0).testBit r.j).all (·.clean) then
          (compD P ops M ((pend.filter fun r => !(M.getD j 0).testBit r.j).map (unclean ops o)) rest).map fun is => { i with rd:=(pend.filter fun r => !(M.getD j 0).testBit r.j).map (·.c) } :: is
         else none)
      else (compD P ops M ((if readerKind o.op then ⟨j,i.op,true⟩ :: pend else pend).map (unclean ops o)) rest).map fun is => i :: is
theorem aclosed_val {P : Program} {t : List AV} {o : Oper} {e : Eff} (h : aclosed P t o = some e) : isVal e = true:=by
  unfold aclosed at h
  split at h
  · split at h
    · simp only [Option.map_eq_some_iff] at h
      obtain ⟨v,_,rfl⟩:=h; rfl
    · cases h
  · cases h
theorem map_val {x : Option AV} {e : Eff} (h : x.map Eff.val = some e) : isVal e = true:=by
  simp only [Option.map_eq_some_iff] at h
  obtain ⟨v,_,rfl⟩:=h; rfl
theorem aop_reads {P : Program} {t : List AV} {H : AHeap} {o : Oper} {e : Eff} (hr : readerKind o.op = true) (h : aop P t H o = some e) : isVal e = true:=by
  unfold aop at h
  cases ho : o.op <;> rw [ho] at hr h <;> simp only [readerKind,Bool.false_eq_true] at hr <;> simp only at h
  · exact map_val h
  · split at h
    · exact aclosed_val h
    · split at h
      · exact map_val h
      · exact map_val h
  · exact map_val h
theorem aop_light {P : Program} {t : List AV} {H : AHeap} {o : Oper} {e : Eff} (hl : heapless o.op = true) (h : aop P t H o = some e) : isVal e = true ∨ isNew e = true:=by
  unfold aop at h
  cases ho : o.op <;> rw [ho] at hl h <;> simp only [heapless,Bool.false_eq_true] at hl <;> simp only at h
  case move => simp only [Option.some.injEq] at h; subst h; exact .inl rfl
  case assign => simp only [Option.some.injEq] at h; subst h; exact .inl rfl
  case pick => split at h <;> first | (simp only [Option.some.injEq] at h; subst h; exact .inl rfl) | cases h
  case alloc =>
    split at h
    · cases h
    simp only [Option.bind_eq_some_iff] at h
    obtain ⟨z,_,h⟩:=h
    split at h
    · simp only [Option.some.injEq] at h; subst h; exact .inr rfl
    · cases h
  case box =>
    split at h
    · cases h
    split at h
    · simp only [Option.some.injEq] at h; subst h; exact .inr rfl
    · cases h
  case build => exact .inl (map_val h)
  case buildSlice =>
    unfold abuildSlice at h
    simp only [Option.bind_eq_bind,Option.bind_eq_some_iff] at h
    obtain ⟨e',_,n,_,h⟩:=h
    split at h
    · cases h
    · split at h
      · split at h
        · simp only [Option.some.injEq] at h; subst h; exact .inr rfl
        · cases h
      · simp only [Option.bind_eq_some_iff] at h
        obtain ⟨z,_,h⟩:=h
        split at h
        · cases h
        · simp only [Option.bind_eq_some_iff,Option.some.injEq] at h
          obtain ⟨cs,_,rfl⟩:=h
          exact .inr rfl
  case nilCheck => split at h <;> first | (simp only [Option.some.injEq] at h; subst h; exact .inl rfl) | (split at h <;> first | (simp only [Option.some.injEq] at h; subst h; exact .inl rfl) | cases h) | cases h
  case binOp =>
    split at h
    · simp only [Option.some.injEq] at h; subst h; exact .inl rfl
    · split at h
      · simp only [Option.some.injEq] at h; subst h; exact .inl rfl
      · cases hq : aclosed P t o with
        | some e' =>
          rw [hq,Option.some_or,Option.some.injEq] at h
          subst h
          exact .inl (aclosed_val hq)
        | none =>
          rw [hq,Option.none_or] at h
          exact .inl (map_val h)
  case makeFunc => simp only [Option.some.injEq] at h; subst h; exact .inl rfl
  case makeSlice =>
    unfold amakeSlice at h
    simp only [Option.bind_eq_bind,Option.bind_eq_some_iff] at h
    obtain ⟨e',_,n,_,i,_,l,_,c,_,h⟩:=h
    split at h
    · split at h
      · simp only [Option.some.injEq] at h; subst h; exact .inr rfl
      · simp only [Option.bind_eq_some_iff] at h
        obtain ⟨z,_,h⟩:=h
        split at h
        · cases h
        · simp only [Option.some.injEq] at h; subst h; exact .inr rfl
    · cases h
  case fieldAddr => exact .inl (map_val h)
  case field => exact .inl (map_val h)
  case indexAddr => exact .inl (map_val h)
  case extract => split at h <;> first | exact .inl (map_val h) | cases h
  case call c =>
    split at h
    · rename_i hf; rw [hf] at hl; cases hl
    · split at h
      · simp only [Option.some.injEq] at h; subst h; exact .inl rfl
      · simp only [Option.some.injEq] at h; subst h; exact .inl rfl
      · exact .inl (aclosed_val h)
    · rename_i hf; rw [hf] at hl; cases hl
    · rename_i hf; rw [hf] at hl; cases hl
    · rename_i hf; rw [hf] at hl; cases hl
    · rename_i hf; rw [hf] at hl; cases hl
    · exact .inl (aclosed_val h)
  case makeInterface => split at h <;> first | (simp only [Option.some.injEq] at h; subst h; exact .inl rfl) | cases h
  case makeMap T r =>
    unfold amakeMap at h
    split at h
    · simp only [Option.some.injEq] at h; subst h; exact .inr rfl
    · simp only [Option.map_eq_some_iff] at h
      obtain ⟨m,_,rfl⟩:=h
      exact .inr rfl
    · cases h
  case convert =>
    split at h
    · simp only [Option.map_eq_some_iff] at h
      obtain ⟨v,_,rfl⟩:=h
      exact .inr rfl
    · exact .inl (aclosed_val h)
  all_goals exact .inl (aclosed_val h)
theorem traceOps_head {P : Program} {pol : Pol} {rec : Run} {ops : Array Oper} {l : List Nat} {t t' : List AV} {H H' : AHeap} {tr : List Met} (h : traceOps P pol rec ops l t H = some (tr,t',H')) : nextH tr H' = H:=by
  cases l with
  | nil => simp only [traceOps,Option.some.injEq,Prod.mk.injEq] at h; obtain ⟨rfl,rfl,rfl⟩:=h; rfl
  | cons j l =>
    simp only [traceOps,Option.bind_eq_bind,Option.bind_eq_some_iff,Option.some.injEq,Prod.mk.injEq] at h
    obtain ⟨o,_,r,_,q,_,rfl,_,_⟩:=h
    rfl
theorem cop_reader {P : Program} {o : Oper} {c : COp} (hr : readerKind o.op = true) (hc' : cop P o = some c) :
    (∃ T a,o.op = .load T a∧(c = .load1 a ∨ ∃ n,c = .loadN n a)) ∨ (∃ T x lo hi,o.op = .slice T x lo hi none∧((∃ n,c = .slc n x lo hi) ∨ (∃ m n,c = .slcA m n x lo hi) ∨ c = .slcS x lo hi)) ∨ (∃ T x ix ok g ks z,o.op = .lookup T x ix ok∧c = .lkup g ks z ok x ix) ∨ (∃ T x lo hi m n,o.op = .slice T x lo hi (some m)∧c = .slc3 n x lo hi (some m)):=by
  have hc : cop0 P o = some c:=by
    rcases cop_cases hc' with ⟨c0,h1,h2⟩ | ⟨h1,_⟩
    · have : appEl P o = none:=by
        cases hT : appEl P o with
        | none => rfl
        | some T => rw [(appEl_W hT).2] at hr; cases hr
      rw [this] at h2
      have h3 : c = c0:=h2
      rw [h3]; exact h1
    · rw [hr] at h1; cases h1
  unfold cop0 at hc
  split at hc
  case h_8 T a ho =>
    refine .inl ⟨T,a,ho,?_⟩
    simp only [Option.bind_eq_some_iff] at hc
    obtain ⟨g,hg,hc⟩:=hc
    split at hc
    · simp only [Option.map_eq_some_iff] at hc
      obtain ⟨n,hn,rfl⟩:=hc
      exact .inr ⟨n,rfl⟩
    · simp only [Option.some.injEq] at hc; exact .inl hc.symm
  case h_13 T x lo hi ho =>
    refine .inr (.inl ⟨T,x,lo,hi,ho,?_⟩)
    split at hc
    · simp only [Option.map_eq_some_iff] at hc
      obtain ⟨n,hn,rfl⟩:=hc
      exact .inl ⟨n,rfl⟩
    · simp only [Option.some.injEq] at hc; exact .inr (.inr hc.symm)
    · simp only [Option.map_eq_some_iff] at hc
      obtain ⟨n,hn,rfl⟩:=hc
      exact .inr (.inl ⟨_,n,rfl⟩)
    · cases hc
  case h_23 T x ix ok ho =>
    simp only [Option.bind_eq_some_iff,Option.map_eq_some_iff] at hc
    obtain ⟨m,h1,ks,h2,g,h3,z,h4,rfl⟩:=hc
    exact .inr (.inr (.inl ⟨T,x,ix,ok,g,ks,z,ho,rfl⟩))
  case h_25 T x lo hi m ho =>
    split at hc
    · simp only [Option.map_eq_some_iff] at hc
      obtain ⟨n,hn,rfl⟩:=hc
      exact .inr (.inr (.inr ⟨T,x,lo,hi,m,n,ho,rfl⟩))
    · cases hc
  all_goals first
    | (rename_i ho; rw [ho] at hr; simp [readerKind] at hr; done)
    | cases hc
theorem bd_congr {t t' : List AV} {x : Option Operand} (h : ∀ y,x = some y→aev t y = aev t' y) : bd t x = bd t' x:=by
  funext d
  cases x with
  | none => rfl
  | some y => simp [bd,abound,h y rfl]
theorem bn_congr {t t' : List AV} {x : Option Operand} (h : ∀ y,x = some y→aev t y = aev t' y) : bn t x = bn t' x:=by
  cases x with
  | none => rfl
  | some y => simp [bn,h y rfl]
theorem csem_reader_congr {P : Program} {t t' : List AV} {H : AHeap} {o : Oper} {c : COp} (hr : readerKind o.op = true) (hc : cop P o = some c) (h : ∀ x ∈ o.op.operands,aev t x = aev t' x) : csem P t H c = csem P t' H c:=by
  rcases cop_reader hr hc with ⟨T,a,ho,rfl | ⟨n,rfl⟩⟩ | ⟨T,x,lo,hi,ho,⟨n,rfl⟩ | ⟨m,n,rfl⟩ | rfl⟩ | ⟨T,x,ix,ok,g,ks,z,ho,rfl⟩ | ⟨T,x,lo,hi,m,n,ho,rfl⟩
  rotate_right
  · have e1 : aev t x = aev t' x:=h x (by simp [ho,Op.operands])
    have e2 : bd t lo = bd t' lo:=bd_congr fun y e => h y (by subst e; simp [ho,Op.operands])
    have e3 : bn t hi = bn t' hi:=bn_congr fun y e => h y (by subst e; simp [ho,Op.operands])
    have e4 : bn t (some m) = bn t' (some m):=bn_congr fun y e => h y (by cases e; simp [ho,Op.operands])
    simp only [csem,e1,e2,e3,e4]
  · simp only [csem,h a (by simp [ho,Op.operands])]
  · simp only [csem,h a (by simp [ho,Op.operands])]
  rotate_right
  · simp only [csem,h x (by simp [ho,Op.operands]),h ix (by simp [ho,Op.operands])]
  all_goals
    have e1 : aev t x = aev t' x:=h x (by simp [ho,Op.operands])
    have e2 : bd t lo = bd t' lo:=bd_congr fun y e => h y (by subst e; simp [ho,Op.operands])
    have e3 : bd t hi = bd t' hi:=bd_congr fun y e => h y (by subst e; simp [ho,Op.operands])
    simp only [csem,e1,e2,e3]
theorem csem_reader_hle {P : Program} {t : List AV} {H H' : AHeap} {o : Oper} {c : COp} {e : Eff} (hr : readerKind o.op = true) (hc : cop P o = some c) (hle : HLe H H') (h : csem P t H c = some e) : csem P t H' c = some e:=by
  rcases cop_reader hr hc with ⟨T,a,ho,rfl | ⟨n,rfl⟩⟩ | ⟨T,x,lo,hi,ho,⟨n,rfl⟩ | ⟨m,n,rfl⟩ | rfl⟩ | ⟨T,x,ix,ok,g,ks,z,ho,rfl⟩ | ⟨T,x,lo,hi,m,n,ho,rfl⟩
  rotate_right
  · exact h
  · simp only [csem,Option.map_eq_some_iff] at h ⊢
    obtain ⟨v,h1,h2⟩:=h
    refine ⟨v,?_,h2⟩
    unfold read1 at h1 ⊢
    split at h1
    · simp only [Option.bind_eq_some_iff] at h1 ⊢
      obtain ⟨cs,h3,h4⟩:=h1
      exact ⟨cs,hle.2.2 _ _ h3,h4⟩
    · exact h1
    · cases h1
  · simp only [csem,Option.map_eq_some_iff] at h ⊢
    obtain ⟨v,h1,h2⟩:=h
    refine ⟨v,?_,h2⟩
    unfold readN at h1 ⊢
    split at h1
    · simp only [Option.bind_eq_some_iff] at h1 ⊢
      obtain ⟨cs,h3,h4⟩:=h1
      exact ⟨cs,hle.2.2 _ _ h3,h4⟩
    · exact h1
    · cases h1
  · exact h
  · simp only [csem,Option.map_eq_some_iff] at h ⊢
    obtain ⟨v,h1,h2⟩:=h
    refine ⟨v,?_,h2⟩
    unfold cutA at h1 ⊢
    split at h1
    · simp only [Option.bind_eq_some_iff] at h1 ⊢
      obtain ⟨a1,h3,a2,h4,cs,h5,h6⟩:=h1
      exact ⟨a1,h3,a2,h4,cs,hle.1 _ _ h5,h6⟩
    · cases h1
  · exact h
  · simp only [csem,Option.map_eq_some_iff] at h ⊢
    obtain ⟨v,h1,h2⟩:=h
    exact ⟨v,lookIn_hle hle h1,h2⟩
theorem ci_spec {P : Program} {ops : Array Oper} {o : Oper} {i : CI} (h : ci P ops o = some i) : plainOp o.op = true∧∃ c,cop P o = some c∧i = ⟨o.dst,cguard ops o,c,[]⟩:=by
  unfold ci at h
  split at h
  · rename_i hp
    simp only [Option.map_eq_some_iff] at h
    obtain ⟨c,hc,rfl⟩:=h
    exact ⟨hp,c,hc,rfl⟩
  · cases h
structure PendOK (P : Program) (ops : Array Oper) (p : Pend) (t : List AV) (H : AHeap) (o : Oper) (v : AV) (t0 : List AV) : Prop where
  op : ops[p.j]? = some o
  reader : readerKind o.op = true
  plain : plainOp o.op = true
  cop : cop P o = some p.c
  slots : p.clean = true→∀ u ∈ looks ops o,t[u]? = t0[u]?
  val : awanted t0 ops o = some true→aop P t0 H o = some (.val v)∧(p.clean = true→csem P t H p.c = some (.val v))
theorem PendOK.put {P : Program} {ops : Array Oper} {p : Pend} {t t0 : List AV} {H H1 : AHeap} {o o1 : Oper} {v v1 : AV} (h : PendOK P ops p t H o v t0) (k : HLe H H1 ∨ (p.clean = true∧csem P t H1 p.c = csem P t H p.c)) :
    PendOK P ops (unclean ops o1 p) (putT t o1.dst v1) H1 o v t0:=by
  have hj : (unclean ops o1 p).j = p.j∧(unclean ops o1 p).c = p.c:=by unfold unclean; split <;> exact ⟨rfl,rfl⟩
  have hcl : (unclean ops o1 p).clean = true→p.clean = true∧∀ u ∈ looks ops o,(putT t o1.dst v1)[u]? = t[u]?:=by
    unfold unclean
    rw [h.op]
    cases hd : o1.dst with
    | none => intro q; exact ⟨q,fun _ _ => rfl⟩
    | some d =>
      intro q
      simp only [Bool.and_eq_true,Bool.not_eq_true',List.contains_eq_mem,decide_eq_false_iff_not] at q
      refine ⟨q.1,fun u hu => ?_⟩
      rw [putT_get]
      rw [if_neg]
      intro e; cases e; exact q.2 hu
  refine ⟨by rw [hj.1]; exact h.op,h.reader,h.plain,by rw [hj.2]; exact h.cop,fun q u hu => by rw [(hcl q).2 u hu]; exact h.slots (hcl q).1 u hu,fun hw => ?_⟩
  obtain ⟨q1,q2⟩:=h.val hw
  have old : aop P t0 H1 o = some (.val v)∧(p.clean = true→csem P t H1 p.c = some (.val v)):=by
    rcases k with k | ⟨k1,k2⟩
    · exact ⟨aop_reader h.reader k q1,fun q => csem_reader_hle h.reader h.cop k (q2 q)⟩
    · have e:=q2 k1
      rw [← k2] at e
      refine ⟨?_,fun _ => e⟩
      rw [← aop_congr (operands_congr (h.slots k1)) h.plain]
      obtain ⟨e0,g1,g2⟩:=csem_ok h.cop e
      rw [tagE_of (.inr h.reader)] at g2
      rw [g2]; exact g1
  refine ⟨old.1,fun q => ?_⟩
  rw [hj.2,csem_reader_congr h.reader h.cop (operands_congr (hcl q).2)]
  exact old.2 (hcl q).1
theorem draw_ok {P : Program} {pol : Pol} {ops : Array Oper} {M : List Nat} : ∀ {l : List Nat} {pend : List Pend} {is : List CI} {t : List AV} {H : AHeap} {Q : List AV→AHeap→Prop},compD P ops M pend l = some is→wpIns P pol is t H Q →
    ∃ n tr t' H',traceOps P pol (run P pol n) ops l t H = some (tr,t',H')∧Q t' H'∧steadyAll P ops M tr H' = true ∧
      ∀ p ∈ pend,∀ o v t0,PendOK P ops p t H o v t0→steady P ops M p.j o v t0 tr H' = true
  | [],pend,is,t,H,Q,hc,h => by
    simp [compD] at hc; subst hc
    exact ⟨0,[],t,H,rfl,h,rfl,fun p _ o v t0 _ => rfl⟩
  | j :: l,pend,is,t,H,Q,hc,h => by
    unfold compD at hc
    split at hc
    · cases hc
    rename_i o ho
    simp only [Option.bind_eq_some_iff] at hc
    obtain ⟨i,hi,hc⟩:=hc
    obtain ⟨hp,c,hc0,rfl⟩:=ci_spec hi
    -- the head,then the rest
    have step : ∀ (rd : List COp) (pend' : List Pend) (is' : List CI),compD P ops M pend' l = some is'→wpIns P pol (⟨o.dst,cguard ops o,c,rd⟩ :: is') t H Q →
        ∃ n v H1 tr t' H',doOpV P pol (run P pol n) ops o t H = some (v,H1)∧traceOps P pol (run P pol n) ops (j :: l) t H = some (⟨j,v,t,H⟩ :: tr,t',H')∧Q t' H'∧nextH tr H' = H1∧steadyAll P ops M tr H' = true ∧
        (reK P t H rd H1 ∨ HLe H H1)∧(isW o = false→HLe H H1) ∧
        (awanted t ops o = some true→∃ e,csem P t H c = some (tagE P H o e)∧aop P t H o = some e) ∧
        ∀ p ∈ pend',∀ o2 v2 t0,PendOK P ops p (putT t o.dst v) H1 o2 v2 t0→steady P ops M p.j o2 v2 t0 tr H' = true:=by
      intro rd pend' is' hcd h
      simp only [wpIns,cwant_eq] at h
      split at h
      · rename_i hw
        cases he : csem P t H c with
        | none => rw [he] at h; exact h.elim
        | some e =>
          rw [he] at h
          have h : wpEff P pol (reK P t H rd) H (fun v H' => wpIns P pol is' (putT t o.dst v) H' Q) e:=h
          obtain ⟨n,v,H1,h1,h2,h3,h3'⟩:=wpEff_V h
          obtain ⟨m,tr,t',H',k1,k2,k3,k4⟩:=draw_ok hcd h2
          obtain ⟨e0,hop,rfl⟩:=csem_ok hc0 he
          have a1:=doEffV_mono (run_le (Nat.le_max_left n m)) h1
          have a2:=traceOps_mono (run_le (Nat.le_max_right n m)) k1
          have kind : ((heapless o.op && (isVal e0 || isNew e0)) || (readerKind o.op && isVal e0) || isW o) = true:=by
            unfold isW
            cases q1 : heapless o.op with
            | true => rcases aop_light q1 hop with q | q <;> simp [q]
            | false =>
              cases q2 : readerKind o.op with
              | true => simp [aop_reads q2 hop]
              | false => simp
          have hV : doOpV P pol (run P pol (max n m)) ops o t H = some (v,H1):=by
            unfold doOpV
            simp only [hw,hp,if_true,hop,kind]
            exact a1
          refine ⟨max n m,v,H1,tr,t',H',hV,?_,k2,traceOps_head k1,k3,h3,?_,fun _ => ⟨e0,rfl,hop⟩,k4⟩
          · simp only [traceOps,ho,hV,a2,Option.bind_eq_bind,Option.bind_some]
          · intro q
            refine h3' ?_
            unfold isW at q
            cases q1 : heapless o.op with
            | true => rw [tagE_of (.inl q1)]; exact aop_light q1 hop
            | false =>
              rw [q1] at q
              have q2 : readerKind o.op = true:=by simpa using q
              rw [tagE_of (.inr q2)]
              exact .inl (aop_reads q2 hop)
      · rename_i hw
        obtain ⟨m,tr,t',H',k1,k2,k3,k4⟩:=draw_ok hcd h
        have hV : doOpV P pol (run P pol m) ops o t H = some (.sc .undef,H):=by unfold doOpV; simp only [hw]
        refine ⟨m,.sc .undef,H,tr,t',H',hV,?_,k2,traceOps_head k1,k3,.inr (HLe.refl H),(fun _ => HLe.refl H),(fun q => by rw [hw] at q; cases q),k4⟩
        simp only [traceOps,ho,hV,k1,Option.bind_eq_bind,Option.bind_some]
      · exact h.elim
    split at hc
    · rename_i hW
      split at hc
      rotate_left
      · cases hc
      rename_i hclean
      simp only [Option.map_eq_some_iff] at hc
      obtain ⟨is',his,rfl⟩:=hc
      obtain ⟨n,v,H1,tr,t',H',hV,h1,h2,h3,h4,h5,_,_,h6⟩:=step _ _ is' his h
      have hnr : readerKind o.op = false:=by
        unfold isW at hW; simp only [Bool.and_eq_true,Bool.not_eq_true'] at hW; exact hW.2
      refine ⟨n,_,t',H',h1,h2,?_,?_⟩
      · simp only [steadyAll,ho,hnr,Bool.false_eq_true,if_false,Bool.true_and]; exact h4
      · intro p hpm o2 v2 t0 hok
        simp only [steady,ho,hW,if_true]
        split
        · rfl
        · rename_i hb
          have hmem : p ∈ pend.filter fun r => !(M.getD j 0).testBit r.j:=List.mem_filter.2 ⟨hpm,by simpa using hb⟩
          have hcl : p.clean = true:=by
            rw [List.all_eq_true] at hclean; exact hclean p hmem
          have hk : HLe H H1 ∨ (p.clean = true∧csem P t H1 p.c = csem P t H p.c):=by
            rcases h5 with q | q
            · exact .inr ⟨hcl,q p.c (List.mem_map.2 ⟨p,hmem,rfl⟩)⟩
            · exact .inl q
          have hput:=hok.put (o1:=o) (v1:=v) hk
          have hj : (unclean ops o p).j = p.j:=by unfold unclean; split <;> rfl
          have q1:=h6 (unclean ops o p) (List.mem_map.2 ⟨p,hmem,rfl⟩) o2 v2 t0 hput
          rw [hj] at q1
          rw [q1,h3,Bool.and_true]
          split
          · rename_i q
            rw [(hput.val q).1]; exact AV.beq_refl _
          · rfl
    · rename_i hW
      simp only [Bool.not_eq_true] at hW
      simp only [Option.map_eq_some_iff] at hc
      obtain ⟨is',his,rfl⟩:=hc
      obtain ⟨n,v,H1,tr,t',H',hV,h1,h2,h3,h4,_,h5,hval,h6⟩:=step _ _ is' his h
      have hle:=h5 hW
      refine ⟨n,_,t',H',h1,h2,?_,?_⟩
      · simp only [steadyAll,ho,h4,Bool.and_true]
        split
        · rename_i hk
          have h0 : PendOK P ops ⟨j,c,true⟩ t H o v t:=by
            refine ⟨ho,hk,hp,hc0,fun _ _ _ => rfl,fun q => ?_⟩
            obtain ⟨e,he1,he2⟩:=hval q
            rw [tagE_of (.inr hk)] at he1
            have : doOpV P pol (run P pol n) ops o t H = some (v,H1):=hV
            unfold doOpV at this
            rw [q] at this
            simp only [hp,if_true,he2,tagE_of (.inr hk)] at this
            have hv:=aop_reads hk he2
            cases e <;> simp only [isVal,Bool.false_eq_true] at hv
            rename_i u
            split at this
            · simp only [doEffV,Option.some.injEq,Prod.mk.injEq] at this
              obtain ⟨rfl,rfl⟩:=this
              exact ⟨he2,fun _ => he1⟩
            · cases this
          have hj : (unclean ops o ⟨j,c,true⟩).j = j:=by unfold unclean; split <;> rfl
          have q1:=h6 (unclean ops o ⟨j,c,true⟩) (List.mem_map.2 ⟨_,by rw [if_pos hk]; simp,rfl⟩) o v t (h0.put (o1:=o) (v1:=v) (.inl hle))
          rw [hj] at q1
          exact q1
        · rfl
      · intro p hpm o2 v2 t0 hok
        simp only [steady,ho,hW,Bool.false_eq_true,if_false]
        have hj : (unclean ops o p).j = p.j:=by unfold unclean; split <;> rfl
        have q1:=h6 (unclean ops o p) (List.mem_map.2 ⟨p,by split; exact List.mem_cons_of_mem _ hpm; exact hpm,rfl⟩) o2 v2 t0 (hok.put (o1:=o) (v1:=v) (.inl hle))
        rw [hj] at q1
        exact q1
end Go.Hem
