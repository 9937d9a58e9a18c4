import Derived.Test.YtgappelpgocboaaGreatDoorHemU
namespace Go.Hem
def Ev (P : Program) (pol : Pol) (T : Task) (H : AHeap) (Q : Out→AHeap→Prop) : Prop:=∃ n o H',run P pol n T H = some (o,H')∧Q o H'
theorem Ev.mono {P : Program} {pol : Pol} {T : Task} {H : AHeap} {Q R : Out→AHeap→Prop} (h : Ev P pol T H Q) (k : ∀ o H',Q o H'→R o H') : Ev P pol T H R:=by
  obtain ⟨n,o,H',h1,h2⟩:=h
  exact ⟨n,o,H',h1,k _ _ h2⟩
def Pv (P : Program) (pol : Pol) (f : FuncId) (args : List AV) (v : AV) : Prop :=
  AV.closedBs args = true∧∃ n v0 H0 H1,run P pol n (.call f args) {} = some (.val v0,H0)∧freeze v0 H0 = some (v,H1)∧AV.closedB v = true
structure CI where
  dst : Option Tmp
  guard : Option (Option Tmp × Bool)
  op : COp
  rd : List COp:=[]
def cwant (t : List AV) : Option (Option Tmp × Bool)→Option Bool
  | none => some true
  | some (d,want) =>
    match d.bind (t[·]?) with
    | some (.sc (.bool b)) => some (b == want)
    | some (.sc _) => some false
    | some .poison => none
    | some _ => some false
    | none => some false
def reK (P : Program) (t : List AV) (H : AHeap) (rd : List COp) (H' : AHeap) : Prop:=∀ c ∈ rd,csem P t H' c = csem P t H c
def PvF (P : Program) (pol : Pol) (K : AHeap→Prop) (H : AHeap) (Q : AV→AHeap→Prop) (f : FuncId) (args : List AV) : Prop :=
  ∃ args' H0 v,AV.closedBs args = false∧freezeL (freezeV 20) args H = some (args',H0)∧Pv P pol f args' v∧((v.flatB = true∧Q v H) ∨ (v.flatB = false∧K H0∧Q v H0))
def wpEff (P : Program) (pol : Pol) (K : AHeap→Prop) (H : AHeap) (Q : AV→AHeap→Prop) : Eff→Prop
  | .val v => Q v H
  | .new x mk => Q (mk H.next) (H.alloc x)
  | .mem v b x => K (H.put b (some (.cells x)))∧Q v (H.put b (some (.cells x)))
  | .memM v b es => K (H.put b (some (.map es)))∧Q v (H.put b (some (.map es)))
  | .fzn v => Q v H
  | .newT T x mk => Q (mk H.next) ((H.alloc x).addTg H.next T)
  | .move mk b x => K ((H.put b none).alloc (.cells x))∧Q (mk H.next) ((H.put b none).alloc (.cells x))
  | .moveT T mk b x => K (((H.put b none).alloc (.cells x)).addTg H.next T)∧Q (mk H.next) (((H.put b none).alloc (.cells x)).addTg H.next T)
  | .call f args => if pol.pure f = true then (∃ v,Pv P pol f args v∧Q v H) ∨ PvF P pol K H Q f args else Ev P pol (.call f args) H fun o H' => ∃ v,o = .val v∧K H'∧Q v H'
  | .yield l args => Ev P pol (.yield l args) H fun o H' => ∃ v,o = .val v∧K H'∧Q v H'
def wpOpt (P : Program) (pol : Pol) (K : AHeap→Prop) (H : AHeap) (Q : AV→AHeap→Prop) : Option Eff→Prop
  | some e => wpEff P pol K H Q e
  | none => False
def wpIns (P : Program) (pol : Pol) : List CI→List AV→AHeap→(List AV→AHeap→Prop)→Prop
  | [],t,H,Q => Q t H
  | i :: is,t,H,Q =>
    match cwant t i.guard with
    | some true => wpOpt P pol (reK P t H i.rd) H (fun v H' => wpIns P pol is (putT t i.dst v) H' Q) (csem P t H i.op)
    | some false => wpIns P pol is (putT t i.dst (.sc .undef)) H Q
    | none => False
def cguard (ops : Array Oper) (o : Oper) : Option (Option Tmp × Bool):=o.guard.map fun g => ((ops[g.1]?).bind (·.dst),g.2)
theorem cwant_eq (t : List AV) (ops : Array Oper) (o : Oper) : cwant t (cguard ops o) = awanted t ops o:=by
  unfold cguard awanted
  cases o.guard with
  | none => rfl
  | some g => rfl
def ci (P : Program) (ops : Array Oper) (o : Oper) : Option CI:=if plainOp o.op = true then (cop P o).map fun c => ⟨o.dst,cguard ops o,c,[]⟩ else none
def ciM (P : Program) (ops : Array Oper) (o : Oper) : Option CI:=if plainOp o.op = true then (copM P o).map fun c => ⟨o.dst,cguard ops o,c,[]⟩ else none
theorem doCall_pure {P : Program} {pol : Pol} {f : FuncId} {args : List AV} {v : AV} {H : AHeap} (hp : pol.pure f = true) (h : Pv P pol f args v) : ∃ n,doCall pol (run P pol n) f args H = some (v,H):=by
  obtain ⟨hc,n,v0,H0,H1,h1,h2,h3⟩:=h
  refine ⟨n,?_⟩
  unfold doCall
  simp [hp,hc,h1,h2,h3]
theorem doCall_pvf {P : Program} {pol : Pol} {f : FuncId} {args args' : List AV} {v : AV} {H H0 : AHeap} (hp : pol.pure f = true) (hc : AV.closedBs args = false) (hfz : freezeL (freezeV 20) args H = some (args',H0)) (h : Pv P pol f args' v) :
    ∃ n,doCall pol (run P pol n) f args H = some (v,if v.flatB = true then H else H0):=by
  obtain ⟨hcl,n,v0,H1,H2,h1,h2,h3⟩:=h
  refine ⟨n,?_⟩
  unfold doCall
  simp [hp,hc,hfz,hcl,h1,h2,h3]
theorem doCall_ev {P : Program} {pol : Pol} {f : FuncId} {args : List AV} {v : AV} {H H' : AHeap} {n : Nat} (hp : ¬ pol.pure f = true) (h : run P pol n (.call f args) H = some (.val v,H')) : doCall pol (run P pol n) f args H = some (v,H'):=by
  unfold doCall
  simp [hp,h]
theorem wpEff_V {P : Program} {pol : Pol} {K : AHeap→Prop} {H : AHeap} {Q : AV→AHeap→Prop} {e : Eff} (h : wpEff P pol K H Q e) :
    ∃ n v H',doEffV pol (run P pol n) H e = some (v,H')∧Q v H'∧(K H' ∨ HLe H H')∧((isVal e = true ∨ isNew e = true)→HLe H H'):=by
  cases e with
  | val v => exact ⟨0,v,H,rfl,h,.inr (HLe.refl H),fun _ => HLe.refl H⟩
  | new x mk => exact ⟨0,_,_,rfl,h,.inr (HLe.alloc H x),fun _ => HLe.alloc H x⟩
  | mem v b x => exact ⟨0,_,_,rfl,h.2,.inl h.1,fun q => by simp [isVal,isNew] at q⟩
  | memM v b x => exact ⟨0,_,_,rfl,h.2,.inl h.1,fun q => by simp [isVal,isNew] at q⟩
  | fzn v => exact ⟨0,v,H,rfl,h,.inr (HLe.refl H),fun _ => HLe.refl H⟩
  | newT T x mk => exact ⟨0,_,_,rfl,h,.inr ((HLe.alloc H x).addTg _ _),fun _ => (HLe.alloc H x).addTg _ _⟩
  | move mk b x => exact ⟨0,_,_,rfl,h.2,.inl h.1,fun q => by simp [isVal,isNew] at q⟩
  | moveT T mk b x => exact ⟨0,_,_,rfl,h.2,.inl h.1,fun q => by simp [isVal,isNew] at q⟩
  | call f args =>
    simp only [wpEff] at h
    split at h
    · rename_i hp
      rcases h with ⟨v,h1,h2⟩ | ⟨args',H0,v,hc,hfz,h1,h2⟩
      · obtain ⟨n,h3⟩:=doCall_pure (H:=H) hp h1
        exact ⟨n,v,H,h3,h2,.inr (HLe.refl H),fun _ => HLe.refl H⟩
      · obtain ⟨n,h3⟩:=doCall_pvf hp hc hfz h1
        rcases h2 with ⟨g1,g2⟩ | ⟨g1,g2,g3⟩
        · rw [if_pos g1] at h3
          exact ⟨n,v,H,h3,g2,.inr (HLe.refl H),fun _ => HLe.refl H⟩
        · rw [if_neg (by simp [g1])] at h3
          exact ⟨n,v,H0,h3,g3,.inl g2,fun q => by simp [isVal,isNew] at q⟩
    · rename_i hp
      obtain ⟨n,o,H',h1,v,rfl,h2,h3⟩:=h
      exact ⟨n,v,H',doCall_ev hp h1,h3,.inl h2,fun q => by simp [isVal,isNew] at q⟩
  | yield l args =>
    obtain ⟨n,o,H',h1,v,rfl,h2,h3⟩:=h
    exact ⟨n,v,H',by simp [doEffV,h1],h3,.inl h2,fun q => by simp [isVal,isNew] at q⟩
theorem ops_ok {P : Program} {pol : Pol} {ops : Array Oper} : ∀ {l : List Oper} {is : List CI} {t : List AV} {H : AHeap} {Q : List AV→AHeap→Prop},l.mapM (ciM P ops) = some is→wpIns P pol is t H Q →
    ∃ n r,doOps P pol (run P pol n) ops l t H = some r∧Q r.1 r.2
  | [],is,t,H,Q,hc,h => by simp at hc; subst hc; exact ⟨0,(t,H),rfl,h⟩
  | o :: l,is,t,H,Q,hc,h => by
    simp only [List.mapM_cons,Option.bind_eq_bind,Option.bind_eq_some_iff,Option.pure_def,Option.some.injEq] at hc
    obtain ⟨i,hi,is',his,rfl⟩:=hc
    unfold ciM at hi
    split at hi
    rotate_left
    · cases hi
    rename_i hp
    simp only [Option.map_eq_some_iff] at hi
    obtain ⟨c,hc,rfl⟩:=hi
    simp only [wpIns,cwant_eq] at h
    split at h
    · rename_i hw
      cases he : csem P t H c with
      | none => rw [he] at h; exact h.elim
      | some e =>
        rw [he] at h
        have h : wpEff P pol (reK P t H []) H (fun v H' => wpIns P pol is' (putT t o.dst v) H' Q) e:=h
        obtain ⟨n,v,H',h1,h2,_,_⟩:=wpEff_V h
        obtain ⟨m,r,h3,h4⟩:=ops_ok his h2
        refine ⟨max n m,r,?_,h4⟩
        have a1:=doEff_mono (run_le (Nat.le_max_left n m)) (doEff_of_V (t:=t) (dst:=o.dst) h1)
        have a2:=doOps_mono (run_le (Nat.le_max_right n m)) h3
        simp only [doOps,doOp,hw,hp,if_true,csemM_ok hc he,Option.bind_some,a1]
        exact a2
    · rename_i hw
      obtain ⟨m,r,h3,h4⟩:=ops_ok his h
      refine ⟨m,r,?_,h4⟩
      simp only [doOps,doOp,hw,Option.bind_some]
      exact h3
    · exact h.elim
structure Pend where
  j : Nat
  c : COp
  clean : Bool
def unclean (ops : Array Oper) (o : Oper) (p : Pend) : Pend :=
  match o.dst,ops[p.j]? with
  | some d,some r => { p with clean:=p.clean && !(looks ops r).contains d }
  | none,some _ => p
  | _,none => { p with clean:=false }
def compD (P : Program) (ops : Array Oper) (M : List Nat) : List Pend→List Nat→Option (List CI)
  | _,[] => some []
  | pend,j :: rest =>
    match ops[j]? with
    | none => none
    | some o =>
      (ci P ops o).bind fun i =>
      if isW o then
        (if (pend.filter fun r => !(M.getD j 0).testBit r.j).all (·.clean) then
          (compD P ops M ((pend.filter fun r => !(M.getD j 0).testBit r.j).map (unclean ops o)) rest).map fun is => { i with rd:=(pend.filter fun r => !(M.getD j 0).testBit r.j).map (·.c) } :: is
         else none)
      else (compD P ops M ((if readerKind o.op then ⟨j,i.op,true⟩ :: pend else pend).map (unclean ops o)) rest).map fun is => i :: is
theorem aclosed_val {P : Program} {t : List AV} {o : Oper} {e : Eff} (h : aclosed P t o = some e) : isVal e = true:=by
  unfold aclosed at h
  split at h
  · split at h
    · simp only [Option.map_eq_some_iff] at h
      obtain ⟨v,_,rfl⟩:=h; rfl
    · cases h
  · cases h
theorem map_val {x : Option AV} {e : Eff} (h : x.map Eff.val = some e) : isVal e = true:=by
  simp only [Option.map_eq_some_iff] at h
  obtain ⟨v,_,rfl⟩:=h; rfl
theorem aop_reads {P : Program} {t : List AV} {H : AHeap} {o : Oper} {e : Eff} (hr : readerKind o.op = true) (h : aop P t H o = some e) : isVal e = true:=by
  unfold aop at h
  cases ho : o.op <;> rw [ho] at hr h <;> simp only [readerKind,Bool.false_eq_true] at hr <;> simp only at h
  · exact map_val h
  · split at h
    · exact aclosed_val h
    · split at h
      · exact map_val h
      · exact map_val h
  · exact map_val h
theorem aop_light {P : Program} {t : List AV} {H : AHeap} {o : Oper} {e : Eff} (hl : heapless o.op = true) (h : aop P t H o = some e) : isVal e = true ∨ isNew e = true:=by
  unfold aop at h
  cases ho : o.op <;> rw [ho] at hl h <;> simp only [heapless,Bool.false_eq_true] at hl <;> simp only at h
  case move => simp only [Option.some.injEq] at h; subst h; exact .inl rfl
  case assign => simp only [Option.some.injEq] at h; subst h; exact .inl rfl
  case pick => split at h <;> first | (simp only [Option.some.injEq] at h; subst h; exact .inl rfl) | cases h
  case alloc =>
    split at h
    · cases h
    simp only [Option.bind_eq_some_iff] at h
    obtain ⟨z,_,h⟩:=h
    split at h
    · simp only [Option.some.injEq] at h; subst h; exact .inr rfl
    · cases h
  case box =>
    split at h
    · cases h
    split at h
    · simp only [Option.some.injEq] at h; subst h; exact .inr rfl
    · cases h
  case build => exact .inl (map_val h)
  case buildSlice =>
    unfold abuildSlice at h
    simp only [Option.bind_eq_bind,Option.bind_eq_some_iff] at h
    obtain ⟨e',_,n,_,h⟩:=h
    split at h
    · cases h
    · split at h
      · split at h
        · simp only [Option.some.injEq] at h; subst h; exact .inr rfl
        · cases h
      · simp only [Option.bind_eq_some_iff] at h
        obtain ⟨z,_,h⟩:=h
        split at h
        · cases h
        · simp only [Option.bind_eq_some_iff,Option.some.injEq] at h
          obtain ⟨cs,_,rfl⟩:=h
          exact .inr rfl
  case nilCheck => split at h <;> first | (simp only [Option.some.injEq] at h; subst h; exact .inl rfl) | (split at h <;> first | (simp only [Option.some.injEq] at h; subst h; exact .inl rfl) | cases h) | cases h
  case binOp =>
    split at h
    · simp only [Option.some.injEq] at h; subst h; exact .inl rfl
    · split at h
      · simp only [Option.some.injEq] at h; subst h; exact .inl rfl
      · exact .inl (aclosed_val h)
  case makeFunc => simp only [Option.some.injEq] at h; subst h; exact .inl rfl
  case makeSlice =>
    unfold amakeSlice at h
    simp only [Option.bind_eq_bind,Option.bind_eq_some_iff] at h
    obtain ⟨e',_,n,_,i,_,l,_,c,_,h⟩:=h
    split at h
    · split at h
      · simp only [Option.some.injEq] at h; subst h; exact .inr rfl
      · simp only [Option.bind_eq_some_iff] at h
        obtain ⟨z,_,h⟩:=h
        split at h
        · cases h
        · simp only [Option.some.injEq] at h; subst h; exact .inr rfl
    · cases h
  case fieldAddr => exact .inl (map_val h)
  case field => exact .inl (map_val h)
  case indexAddr => exact .inl (map_val h)
  case extract => split at h <;> first | exact .inl (map_val h) | cases h
  case call c =>
    split at h
    · rename_i hf; rw [hf] at hl; cases hl
    · split at h
      · simp only [Option.some.injEq] at h; subst h; exact .inl rfl
      · simp only [Option.some.injEq] at h; subst h; exact .inl rfl
      · exact .inl (aclosed_val h)
    · rename_i hf; rw [hf] at hl; cases hl
    · rename_i hf; rw [hf] at hl; cases hl
    · rename_i hf; rw [hf] at hl; cases hl
    · rename_i hf; rw [hf] at hl; cases hl
    · exact .inl (aclosed_val h)
  case makeInterface => split at h <;> first | (simp only [Option.some.injEq] at h; subst h; exact .inl rfl) | cases h
  case makeMap T r =>
    unfold amakeMap at h
    split at h
    · simp only [Option.some.injEq] at h; subst h; exact .inr rfl
    · simp only [Option.map_eq_some_iff] at h
      obtain ⟨m,_,rfl⟩:=h
      exact .inr rfl
    · cases h
  case convert =>
    split at h
    · simp only [Option.map_eq_some_iff] at h
      obtain ⟨v,_,rfl⟩:=h
      exact .inr rfl
    · exact .inl (aclosed_val h)
  all_goals exact .inl (aclosed_val h)
theorem traceOps_head {P : Program} {pol : Pol} {rec : Run} {ops : Array Oper} {l : List Nat} {t t' : List AV} {H H' : AHeap} {tr : List Met} (h : traceOps P pol rec ops l t H = some (tr,t',H')) : nextH tr H' = H:=by
  cases l with
  | nil => simp only [traceOps,Option.some.injEq,Prod.mk.injEq] at h; obtain ⟨rfl,rfl,rfl⟩:=h; rfl
  | cons j l =>
    simp only [traceOps,Option.bind_eq_bind,Option.bind_eq_some_iff,Option.some.injEq,Prod.mk.injEq] at h
    obtain ⟨o,_,r,_,q,_,rfl,_,_⟩:=h
    rfl
theorem cop_reader {P : Program} {o : Oper} {c : COp} (hr : readerKind o.op = true) (hc' : cop P o = some c) :
    (∃ T a,o.op = .load T a∧(c = .load1 a ∨ ∃ n,c = .loadN n a)) ∨ (∃ T x lo hi,o.op = .slice T x lo hi none∧((∃ n,c = .slc n x lo hi) ∨ (∃ m n,c = .slcA m n x lo hi) ∨ c = .slcS x lo hi)) ∨ (∃ T x ix ok g ks z,o.op = .lookup T x ix ok∧c = .lkup g ks z ok x ix) ∨ (∃ T x lo hi m n,o.op = .slice T x lo hi (some m)∧c = .slc3 n x lo hi (some m)):=by
  have hc : cop0 P o = some c:=by
    rcases cop_cases hc' with ⟨c0,h1,h2⟩ | ⟨h1,_⟩
    · have : appEl P o = none:=by
        cases hT : appEl P o with
        | none => rfl
        | some T => rw [(appEl_W hT).2] at hr; cases hr
      rw [this] at h2
      have h3 : c = c0:=h2
      rw [h3]; exact h1
    · rw [hr] at h1; cases h1
  unfold cop0 at hc
  split at hc
  case h_8 T a ho =>
    refine .inl ⟨T,a,ho,?_⟩
    simp only [Option.bind_eq_some_iff] at hc
    obtain ⟨g,hg,hc⟩:=hc
    split at hc
    · simp only [Option.map_eq_some_iff] at hc
      obtain ⟨n,hn,rfl⟩:=hc
      exact .inr ⟨n,rfl⟩
    · simp only [Option.some.injEq] at hc; exact .inl hc.symm
  case h_13 T x lo hi ho =>
    refine .inr (.inl ⟨T,x,lo,hi,ho,?_⟩)
    split at hc
    · simp only [Option.map_eq_some_iff] at hc
      obtain ⟨n,hn,rfl⟩:=hc
      exact .inl ⟨n,rfl⟩
    · simp only [Option.some.injEq] at hc; exact .inr (.inr hc.symm)
    · simp only [Option.map_eq_some_iff] at hc
      obtain ⟨n,hn,rfl⟩:=hc
      exact .inr (.inl ⟨_,n,rfl⟩)
    · cases hc
  case h_23 T x ix ok ho =>
    simp only [Option.bind_eq_some_iff,Option.map_eq_some_iff] at hc
    obtain ⟨m,h1,ks,h2,g,h3,z,h4,rfl⟩:=hc
    exact .inr (.inr (.inl ⟨T,x,ix,ok,g,ks,z,ho,rfl⟩))
  case h_25 T x lo hi m ho =>
    split at hc
    · simp only [Option.map_eq_some_iff] at hc
      obtain ⟨n,hn,rfl⟩:=hc
      exact .inr (.inr (.inr ⟨T,x,lo,hi,m,n,ho,rfl⟩))
    · cases hc
  all_goals first
    | (rename_i ho; rw [ho] at hr; simp [readerKind] at hr; done)
    | cases hc
theorem bd_congr {t t' : List AV} {x : Option Operand} (h : ∀ y,x = some y→aev t y = aev t' y) : bd t x = bd t' x:=by
  funext d
  cases x with
  | none => rfl
  | some y => simp [bd,abound,h y rfl]
theorem bn_congr {t t' : List AV} {x : Option Operand} (h : ∀ y,x = some y→aev t y = aev t' y) : bn t x = bn t' x:=by
  cases x with
  | none => rfl
  | some y => simp [bn,h y rfl]
theorem csem_reader_congr {P : Program} {t t' : List AV} {H : AHeap} {o : Oper} {c : COp} (hr : readerKind o.op = true) (hc : cop P o = some c) (h : ∀ x ∈ o.op.operands,aev t x = aev t' x) : csem P t H c = csem P t' H c:=by
  rcases cop_reader hr hc with ⟨T,a,ho,rfl | ⟨n,rfl⟩⟩ | ⟨T,x,lo,hi,ho,⟨n,rfl⟩ | ⟨m,n,rfl⟩ | rfl⟩ | ⟨T,x,ix,ok,g,ks,z,ho,rfl⟩ | ⟨T,x,lo,hi,m,n,ho,rfl⟩
  rotate_right
  · have e1 : aev t x = aev t' x:=h x (by simp [ho,Op.operands])
    have e2 : bd t lo = bd t' lo:=bd_congr fun y e => h y (by subst e; simp [ho,Op.operands])
    have e3 : bn t hi = bn t' hi:=bn_congr fun y e => h y (by subst e; simp [ho,Op.operands])
    have e4 : bn t (some m) = bn t' (some m):=bn_congr fun y e => h y (by cases e; simp [ho,Op.operands])
    simp only [csem,e1,e2,e3,e4]
  · simp only [csem,h a (by simp [ho,Op.operands])]
  · simp only [csem,h a (by simp [ho,Op.operands])]
  rotate_right
  · simp only [csem,h x (by simp [ho,Op.operands]),h ix (by simp [ho,Op.operands])]
  all_goals
    have e1 : aev t x = aev t' x:=h x (by simp [ho,Op.operands])
    have e2 : bd t lo = bd t' lo:=bd_congr fun y e => h y (by subst e; simp [ho,Op.operands])
    have e3 : bd t hi = bd t' hi:=bd_congr fun y e => h y (by subst e; simp [ho,Op.operands])
    simp only [csem,e1,e2,e3]
theorem csem_reader_hle {P : Program} {t : List AV} {H H' : AHeap} {o : Oper} {c : COp} {e : Eff} (hr : readerKind o.op = true) (hc : cop P o = some c) (hle : HLe H H') (h : csem P t H c = some e) : csem P t H' c = some e:=by
  rcases cop_reader hr hc with ⟨T,a,ho,rfl | ⟨n,rfl⟩⟩ | ⟨T,x,lo,hi,ho,⟨n,rfl⟩ | ⟨m,n,rfl⟩ | rfl⟩ | ⟨T,x,ix,ok,g,ks,z,ho,rfl⟩ | ⟨T,x,lo,hi,m,n,ho,rfl⟩
  rotate_right
  · exact h
  · simp only [csem,Option.map_eq_some_iff] at h ⊢
    obtain ⟨v,h1,h2⟩:=h
    refine ⟨v,?_,h2⟩
    unfold read1 at h1 ⊢
    split at h1
    · simp only [Option.bind_eq_some_iff] at h1 ⊢
      obtain ⟨cs,h3,h4⟩:=h1
      exact ⟨cs,hle.2.2 _ _ h3,h4⟩
    · exact h1
    · cases h1
  · simp only [csem,Option.map_eq_some_iff] at h ⊢
    obtain ⟨v,h1,h2⟩:=h
    refine ⟨v,?_,h2⟩
    unfold readN at h1 ⊢
    split at h1
    · simp only [Option.bind_eq_some_iff] at h1 ⊢
      obtain ⟨cs,h3,h4⟩:=h1
      exact ⟨cs,hle.2.2 _ _ h3,h4⟩
    · exact h1
    · cases h1
  · exact h
  · simp only [csem,Option.map_eq_some_iff] at h ⊢
    obtain ⟨v,h1,h2⟩:=h
    refine ⟨v,?_,h2⟩
    unfold cutA at h1 ⊢
    split at h1
    · simp only [Option.bind_eq_some_iff] at h1 ⊢
      obtain ⟨a1,h3,a2,h4,cs,h5,h6⟩:=h1
      exact ⟨a1,h3,a2,h4,cs,hle.1 _ _ h5,h6⟩
    · cases h1
  · exact h
  · simp only [csem,Option.map_eq_some_iff] at h ⊢
    obtain ⟨v,h1,h2⟩:=h
    exact ⟨v,lookIn_hle hle h1,h2⟩
theorem ci_spec {P : Program} {ops : Array Oper} {o : Oper} {i : CI} (h : ci P ops o = some i) : plainOp o.op = true∧∃ c,cop P o = some c∧i = ⟨o.dst,cguard ops o,c,[]⟩:=by
  unfold ci at h
  split at h
  · rename_i hp
    simp only [Option.map_eq_some_iff] at h
    obtain ⟨c,hc,rfl⟩:=h
    exact ⟨hp,c,hc,rfl⟩
  · cases h
structure PendOK (P : Program) (ops : Array Oper) (p : Pend) (t : List AV) (H : AHeap) (o : Oper) (v : AV) (t0 : List AV) : Prop where
  op : ops[p.j]? = some o
  reader : readerKind o.op = true
  plain : plainOp o.op = true
  cop : cop P o = some p.c
  slots : p.clean = true→∀ u ∈ looks ops o,t[u]? = t0[u]?
  val : awanted t0 ops o = some true→aop P t0 H o = some (.val v)∧(p.clean = true→csem P t H p.c = some (.val v))
theorem PendOK.put {P : Program} {ops : Array Oper} {p : Pend} {t t0 : List AV} {H H1 : AHeap} {o o1 : Oper} {v v1 : AV} (h : PendOK P ops p t H o v t0) (k : HLe H H1 ∨ (p.clean = true∧csem P t H1 p.c = csem P t H p.c)) :
    PendOK P ops (unclean ops o1 p) (putT t o1.dst v1) H1 o v t0:=by
  have hj : (unclean ops o1 p).j = p.j∧(unclean ops o1 p).c = p.c:=by unfold unclean; split <;> exact ⟨rfl,rfl⟩
  have hcl : (unclean ops o1 p).clean = true→p.clean = true∧∀ u ∈ looks ops o,(putT t o1.dst v1)[u]? = t[u]?:=by
    unfold unclean
    rw [h.op]
    cases hd : o1.dst with
    | none => intro q; exact ⟨q,fun _ _ => rfl⟩
    | some d =>
      intro q
      simp only [Bool.and_eq_true,Bool.not_eq_true',List.contains_eq_mem,decide_eq_false_iff_not] at q
      refine ⟨q.1,fun u hu => ?_⟩
      rw [putT_get]
      rw [if_neg]
      intro e; cases e; exact q.2 hu
  refine ⟨by rw [hj.1]; exact h.op,h.reader,h.plain,by rw [hj.2]; exact h.cop,fun q u hu => by rw [(hcl q).2 u hu]; exact h.slots (hcl q).1 u hu,fun hw => ?_⟩
  obtain ⟨q1,q2⟩:=h.val hw
  have old : aop P t0 H1 o = some (.val v)∧(p.clean = true→csem P t H1 p.c = some (.val v)):=by
    rcases k with k | ⟨k1,k2⟩
    · exact ⟨aop_reader h.reader k q1,fun q => csem_reader_hle h.reader h.cop k (q2 q)⟩
    · have e:=q2 k1
      rw [← k2] at e
      refine ⟨?_,fun _ => e⟩
      rw [← aop_congr (operands_congr (h.slots k1)) h.plain]
      obtain ⟨e0,g1,g2⟩:=csem_ok h.cop e
      rw [tagE_of (.inr h.reader)] at g2
      rw [g2]; exact g1
  refine ⟨old.1,fun q => ?_⟩
  rw [hj.2,csem_reader_congr h.reader h.cop (operands_congr (hcl q).2)]
  exact old.2 (hcl q).1
theorem draw_ok {P : Program} {pol : Pol} {ops : Array Oper} {M : List Nat} : ∀ {l : List Nat} {pend : List Pend} {is : List CI} {t : List AV} {H : AHeap} {Q : List AV→AHeap→Prop},compD P ops M pend l = some is→wpIns P pol is t H Q →
    ∃ n tr t' H',traceOps P pol (run P pol n) ops l t H = some (tr,t',H')∧Q t' H'∧steadyAll P ops M tr H' = true ∧
      ∀ p ∈ pend,∀ o v t0,PendOK P ops p t H o v t0→steady P ops M p.j o v t0 tr H' = true
  | [],pend,is,t,H,Q,hc,h => by
    simp [compD] at hc; subst hc
    exact ⟨0,[],t,H,rfl,h,rfl,fun p _ o v t0 _ => rfl⟩
  | j :: l,pend,is,t,H,Q,hc,h => by
    unfold compD at hc
    split at hc
    · cases hc
    rename_i o ho
    simp only [Option.bind_eq_some_iff] at hc
    obtain ⟨i,hi,hc⟩:=hc
    obtain ⟨hp,c,hc0,rfl⟩:=ci_spec hi
    -- the head,then the rest
    have step : ∀ (rd : List COp) (pend' : List Pend) (is' : List CI),compD P ops M pend' l = some is'→wpIns P pol (⟨o.dst,cguard ops o,c,rd⟩ :: is') t H Q →
        ∃ n v H1 tr t' H',doOpV P pol (run P pol n) ops o t H = some (v,H1)∧traceOps P pol (run P pol n) ops (j :: l) t H = some (⟨j,v,t,H⟩ :: tr,t',H')∧Q t' H'∧nextH tr H' = H1∧steadyAll P ops M tr H' = true ∧
        (reK P t H rd H1 ∨ HLe H H1)∧(isW o = false→HLe H H1) ∧
        (awanted t ops o = some true→∃ e,csem P t H c = some (tagE P H o e)∧aop P t H o = some e) ∧
        ∀ p ∈ pend',∀ o2 v2 t0,PendOK P ops p (putT t o.dst v) H1 o2 v2 t0→steady P ops M p.j o2 v2 t0 tr H' = true:=by
      intro rd pend' is' hcd h
      simp only [wpIns,cwant_eq] at h
      split at h
      · rename_i hw
        cases he : csem P t H c with
        | none => rw [he] at h; exact h.elim
        | some e =>
          rw [he] at h
          have h : wpEff P pol (reK P t H rd) H (fun v H' => wpIns P pol is' (putT t o.dst v) H' Q) e:=h
          obtain ⟨n,v,H1,h1,h2,h3,h3'⟩:=wpEff_V h
          obtain ⟨m,tr,t',H',k1,k2,k3,k4⟩:=draw_ok hcd h2
          obtain ⟨e0,hop,rfl⟩:=csem_ok hc0 he
          have a1:=doEffV_mono (run_le (Nat.le_max_left n m)) h1
          have a2:=traceOps_mono (run_le (Nat.le_max_right n m)) k1
          have kind : ((heapless o.op && (isVal e0 || isNew e0)) || (readerKind o.op && isVal e0) || isW o) = true:=by
            unfold isW
            cases q1 : heapless o.op with
            | true => rcases aop_light q1 hop with q | q <;> simp [q]
            | false =>
              cases q2 : readerKind o.op with
              | true => simp [aop_reads q2 hop]
              | false => simp
          have hV : doOpV P pol (run P pol (max n m)) ops o t H = some (v,H1):=by
            unfold doOpV
            simp only [hw,hp,if_true,hop,kind]
            exact a1
          refine ⟨max n m,v,H1,tr,t',H',hV,?_,k2,traceOps_head k1,k3,h3,?_,fun _ => ⟨e0,rfl,hop⟩,k4⟩
          · simp only [traceOps,ho,hV,a2,Option.bind_eq_bind,Option.bind_some]
          · intro q
            refine h3' ?_
            unfold isW at q
            cases q1 : heapless o.op with
            | true => rw [tagE_of (.inl q1)]; exact aop_light q1 hop
            | false =>
              rw [q1] at q
              have q2 : readerKind o.op = true:=by simpa using q
              rw [tagE_of (.inr q2)]
              exact .inl (aop_reads q2 hop)
      · rename_i hw
        obtain ⟨m,tr,t',H',k1,k2,k3,k4⟩:=draw_ok hcd h
        have hV : doOpV P pol (run P pol m) ops o t H = some (.sc .undef,H):=by unfold doOpV; simp only [hw]
        refine ⟨m,.sc .undef,H,tr,t',H',hV,?_,k2,traceOps_head k1,k3,.inr (HLe.refl H),(fun _ => HLe.refl H),(fun q => by rw [hw] at q; cases q),k4⟩
        simp only [traceOps,ho,hV,k1,Option.bind_eq_bind,Option.bind_some]
      · exact h.elim
    split at hc
    · rename_i hW
      split at hc
      rotate_left
      · cases hc
      rename_i hclean
      simp only [Option.map_eq_some_iff] at hc
      obtain ⟨is',his,rfl⟩:=hc
      obtain ⟨n,v,H1,tr,t',H',hV,h1,h2,h3,h4,h5,_,_,h6⟩:=step _ _ is' his h
      have hnr : readerKind o.op = false:=by
        unfold isW at hW; simp only [Bool.and_eq_true,Bool.not_eq_true'] at hW; exact hW.2
      refine ⟨n,_,t',H',h1,h2,?_,?_⟩
      · simp only [steadyAll,ho,hnr,Bool.false_eq_true,if_false,Bool.true_and]; exact h4
      · intro p hpm o2 v2 t0 hok
        simp only [steady,ho,hW,if_true]
        split
        · rfl
        · rename_i hb
          have hmem : p ∈ pend.filter fun r => !(M.getD j 0).testBit r.j:=List.mem_filter.2 ⟨hpm,by simpa using hb⟩
          have hcl : p.clean = true:=by
            rw [List.all_eq_true] at hclean; exact hclean p hmem
          have hk : HLe H H1 ∨ (p.clean = true∧csem P t H1 p.c = csem P t H p.c):=by
            rcases h5 with q | q
            · exact .inr ⟨hcl,q p.c (List.mem_map.2 ⟨p,hmem,rfl⟩)⟩
            · exact .inl q
          have hput:=hok.put (o1:=o) (v1:=v) hk
          have hj : (unclean ops o p).j = p.j:=by unfold unclean; split <;> rfl
          have q1:=h6 (unclean ops o p) (List.mem_map.2 ⟨p,hmem,rfl⟩) o2 v2 t0 hput
          rw [hj] at q1
          rw [q1,h3,Bool.and_true]
          split
          · rename_i q
            rw [(hput.val q).1]; exact AV.beq_refl _
          · rfl
    · rename_i hW
      simp only [Bool.not_eq_true] at hW
      simp only [Option.map_eq_some_iff] at hc
      obtain ⟨is',his,rfl⟩:=hc
      obtain ⟨n,v,H1,tr,t',H',hV,h1,h2,h3,h4,_,h5,hval,h6⟩:=step _ _ is' his h
      have hle:=h5 hW
      refine ⟨n,_,t',H',h1,h2,?_,?_⟩
      · simp only [steadyAll,ho,h4,Bool.and_true]
        split
        · rename_i hk
          have h0 : PendOK P ops ⟨j,c,true⟩ t H o v t:=by
            refine ⟨ho,hk,hp,hc0,fun _ _ _ => rfl,fun q => ?_⟩
            obtain ⟨e,he1,he2⟩:=hval q
            rw [tagE_of (.inr hk)] at he1
            have : doOpV P pol (run P pol n) ops o t H = some (v,H1):=hV
            unfold doOpV at this
            rw [q] at this
            simp only [hp,if_true,he2,tagE_of (.inr hk)] at this
            have hv:=aop_reads hk he2
            cases e <;> simp only [isVal,Bool.false_eq_true] at hv
            rename_i u
            split at this
            · simp only [doEffV,Option.some.injEq,Prod.mk.injEq] at this
              obtain ⟨rfl,rfl⟩:=this
              exact ⟨he2,fun _ => he1⟩
            · cases this
          have hj : (unclean ops o ⟨j,c,true⟩).j = j:=by unfold unclean; split <;> rfl
          have q1:=h6 (unclean ops o ⟨j,c,true⟩) (List.mem_map.2 ⟨_,by rw [if_pos hk]; simp,rfl⟩) o v t (h0.put (o1:=o) (v1:=v) (.inl hle))
          rw [hj] at q1
          exact q1
        · rfl
      · intro p hpm o2 v2 t0 hok
        simp only [steady,ho,hW,Bool.false_eq_true,if_false]
        have hj : (unclean ops o p).j = p.j:=by unfold unclean; split <;> rfl
        have q1:=h6 (unclean ops o p) (List.mem_map.2 ⟨p,by split; exact List.mem_cons_of_mem _ hpm; exact hpm,rfl⟩) o2 v2 t0 (hok.put (o1:=o) (v1:=v) (.inl hle))
        rw [hj] at q1
        exact q1
end Go.Hem
