import Derived.Test.YtldflacehmpjkaaGreatDoorHemJ
set_option linter.unusedSimpArgs false
set_option linter.unusedVariables false
namespace Go.Hem
def marks (rs : List Nat) : List Deferred:=rs.map fun r => { target:=.collected r,args:=#[] }
def Pin (G : Gh) (H : AHeap) (w : World) (r : Nat) : Prop:=w.heap[r]? = some (Obj.deferred (some []))∧G.fz r = none∧∀ b x,H.get b = some x→G.β b ≠ some r
theorem Pin.step {G G' : Gh} {H H' : AHeap} {w w' : World} {r : Nat} (h : Pin G H w r) (s : Step G H w G' H' w') : Pin G' H' w' r:=by
  obtain ⟨h1,h2,h3⟩:=h
  have hlt : r < w.heap.size:=(Array.getElem?_eq_some_iff.1 h1).1
  refine ⟨by rw [s.frame r hlt h3]; exact h1,?_,?_⟩
  · cases hf : G'.fz r with
    | none => rfl
    | some o =>
      rcases s.nfz r o hf h2 with h4 | ⟨b,x,h4,h5⟩
      · omega
      · exact absurd h5 (h3 b x h4)
  · intro b x hb hβ
    obtain ⟨b',x',h4,h5⟩:=s.img b x r hb hβ hlt
    exact h3 b' x' h4 h5
def RoundOK (b : Frame) (w : World) : Prop:=b.roundOf = none ∨ ∃ c l,b.roundOf = some c∧w.heap[c]? = some (Obj.loop l)
theorem RoundOK.step {G G' : Gh} {H H' : AHeap} {w w' : World} {b : Frame} (h : RoundOK b w) (s : Step G H w G' H' w') : RoundOK b w':=by
  rcases h with h | ⟨c,l,h1,h2⟩
  · exact .inl h
  · obtain ⟨l',h3⟩:=s.loops c l h2
    exact .inr ⟨c,l',h1,h3⟩
def Reach (P : Program) (m : Machine) (b : Frame) (k : List Item) (cs : List Frame) : AExit→Array Value→World→Prop
  | .normal,a,w => Steps P m (lone (fr b a k) cs w)
  | .exit id,a,w => ∃ todo,exitTo id todo = exitTo id k∧Steps P m (lone (fr b a (.code (.exit id) :: todo)) cs w)
  | .ret,a,w => ∃ todo,Steps P m (lone (fr b a (.code .ret :: todo)) cs w)
theorem Reach.of_steps {P : Program} {m m₁ : Machine} {b : Frame} {k : List Item} {cs : List Frame} {e : AExit} {a : Array Value} {w : World} (h : Steps P m m₁) (r : Reach P m₁ b k cs e a w) : Reach P m b k cs e a w:=by
  cases e with
  | normal => exact h.trans r
  | exit id => obtain ⟨todo,h1,h2⟩:=r; exact ⟨todo,h1,h.trans h2⟩
  | ret => obtain ⟨todo,h2⟩:=r; exact ⟨todo,h.trans h2⟩
def CallOK (P : Program) (B : World) (f : FuncId) (args : List AV) (H : AHeap) (v : AV) (H' : AHeap) : Prop :=
  ∀ G w (args' : Array Value),Sim B G H w→Clear G H.next H'.next→VRs G args args'.toList→∀ cs,∃ G' w' v' fr',Sim B G' H' w'∧Step G H w G' H' w'∧VR G' v v' ∧
    Steps P (lone (Frame.enter P f args' .normal) cs w) (lone fr' cs w')∧fr'.fn = f∧fr'.leaving P w' (.returned v')
def CodeOK (P : Program) (B : World) (start : Code→List Item) (c : Code) (t : List AV) (H : AHeap) (e : AExit) (t' : List AV) (H' : AHeap) : Prop :=
  ∀ G w a b k cs rs ds,Sim B G H w→Clear G H.next H'.next→LR G t a→RoundOK b w→b.defers = marks rs ++ ds→rs.Nodup→(∀ r ∈ rs,Pin G H w r) →
    ∃ G' w' a' rs',Sim B G' H' w'∧Step G H w G' H' w'∧LR G' t' a'∧rs'.Nodup∧(∀ r ∈ rs',Pin G' H' w' r∧(r ∈ rs ∨ w.heap.size ≤ r))∧(b.roundOf.isSome→rs' = rs) ∧
      Reach P (lone (fr b a (start c ++ k)) cs w) { b with defers:=marks rs' ++ ds } k cs e a' w'
def YieldOK (P : Program) (B : World) (l : Nat) (args : List AV) (H : AHeap) (v : AV) (H' : AHeap) : Prop :=
  ∀ G w (args' : Array Value) c,Sim B G H w→Clear G H.next H'.next→VRs G args args'.toList→G.β l = some c→∃ f tmps as bo,(Instr.yield c args').run P w = .ok (.round c f tmps as bo) w ∧
    ∀ caller cs,∃ G' w' v',Sim B G' H' w'∧Step G H w G' H' w'∧VR G' v v'∧Steps P (lone (Frame.round c f tmps as bo .normal) (caller :: cs) w) (lone (caller.finish v') cs w')
def TaskOK (P : Program) (B : World) : Task→AHeap→Out→AHeap→Prop
  | .call f args,H,.val v,H' => CallOK P B f args H v H'
  | .code c t,H,.ex e t',H' => CodeOK P B (fun c => [.code c]) c t H e t' H'
  | .loop c t,H,.ex e t',H' => CodeOK P B (fun c => [.code c,.inLoop c]) c t H e t' H'
  | .yield l args,H,.val v,H' => YieldOK P B l args H v H'
  | _,_,_,_ => False
def RecOK (P : Program) (B : World) (rec : Run) : Prop:=∀ T H o H',rec T H = some (o,H')→H.next ≤ H'.next∧TaskOK P B T H o H'
theorem Clear.mono {G : Gh} {lo hi hi' : Nat} (h : Clear G lo hi) (hle : hi' ≤ hi) : Clear G lo hi':=fun b h1 h2 => h b h1 (by omega)
theorem Clear.step {G G' : Gh} {H H' : AHeap} {w w' : World} {hi : Nat} (h : Clear G H.next hi) (s : Step G H w G' H' w') : Clear G' H'.next hi:=fun b h1 h2 => by
  cases hb : G'.β b with
  | none => rfl
  | some c =>
    rcases s.new b c hb with h3 | ⟨h3,h4⟩
    · rw [h b (by have:=s.le; omega) h2] at h3; cases h3
    · omega
theorem LR.eval {G : Gh} {t : List AV} {a : Array Value} (h : LR G t a) (b : Frame) (k : List Item) (x : Operand) : VR G (aev t x) ((fr b a k).eval x):=by
  cases x with
  | tmp i =>
    simp only [aev,Frame.eval,fr]
    cases hi : t[i]? with
    | some y =>
      obtain ⟨v,h1,h2⟩:=VRs.get h hi
      simp only [List.getD,hi,Option.getD_some]
      have : a.getD i undef = v:=by
        rw [Array.getD_eq_getD_getElem?]; simp at h1; simp [h1]
      rw [this]; exact h2
    | none =>
      simp only [List.getD,hi,Option.getD_none]
      have hl:=h.1
      have h0:=List.getElem?_eq_none_iff.1 hi
      have : a.getD i undef = undef:=by
        rw [Array.getD_eq_getD_getElem?,Array.getElem?_eq_none (by simp at hl; omega)]; rfl
      rw [this]; exact .sc .undef
  | const v =>
    simp only [aev,Frame.eval]
    cases hv : AV.of? v with
    | none => exact .poison _
    | some y => exact of_spec hv
  | global g => exact .sc (.glob g)
  | func f => exact VR.func (f':=[]) (c':=[]) rfl rfl (fun i h => by simp at h) (fun i h => by simp at h)
theorem LR.put {G : Gh} {t : List AV} {a : Array Value} (h : LR G t a) (dst : Option Tmp) {v : AV} {v' : Value} (hv : VR G v v') : LR G (putT t dst v) (putV a dst v'):=by
  cases dst with
  | none => exact h
  | some d =>
    simp only [LR,putT,putV,Array.toList_setIfInBounds] at *
    exact VRs.set d h hv
theorem LR.mono {G G' : Gh} {t : List AV} {a : Array Value} (h : LR G t a) (e : Ext G G') : LR G' t a:=VRs.mono e h
theorem wanted_spec {G : Gh} {t : List AV} {a : Array Value} (h : LR G t a) {ops : Array Oper} {o : Oper} {w : Bool} (hw : awanted t ops o = some w) : Region.wanted o (yielded ops a) = w:=by
  unfold awanted at hw
  unfold Region.wanted
  split at hw
  · rename_i hg; rw [hg]; simp at hw; subst hw; rfl
  · rename_i j want hg
    rw [hg]
    simp only [yielded]
    cases hd : (ops[j]?).bind (·.dst) with
    | none =>
      simp [hd] at hw ⊢
      exact hw
    | some d =>
      simp only [hd,Option.bind_some] at hw ⊢
      cases ht : t[d]? with
      | none =>
        have h0:=List.getElem?_eq_none_iff.1 ht
        have hl:=h.1
        rw [ht] at hw
        rw [Array.getElem?_eq_none (by simp at hl; omega)]
        simp at hw ⊢; exact hw
      | some y =>
        obtain ⟨v,h1,h2⟩:=VRs.get h ht
        simp only [Array.getElem?_toList] at h1
        rw [ht] at hw
        rw [h1]
        cases h2 with
        | sc s =>
          cases s <;> simp [Sc.val] at hw ⊢ <;> first | exact hw | skip
        | poison v => simp at hw
        | _ => simp at hw ⊢; exact hw
theorem closedBs_iff : ∀ {l : List AV},AV.closedBs l = true ↔ ∀ x ∈ l,AV.closedB x = true
  | [] => by simp [AV.closedBs]
  | a :: l => by simp [AV.closedBs,closedBs_iff (l:=l)]
theorem closedB_cells {a : AV} (h : AV.closedB a = true) : ∀ x ∈ a.cells,AV.closedB x = true:=by
  cases a with
  | agg cs => simp only [AV.closedB] at h; exact closedBs_iff.1 h
  | _ => intro x hx; simp only [AV.cells,List.mem_singleton] at hx; subst hx; exact h
theorem VR.closed {G G' : Gh} (hsy : G'.sym = G.sym) (hfz : ∀ c o,G.fz c = some o→G'.fz c = some o) {a : AV} {v : Value} (h : VR G a v) : AV.closedB a = true→VR G' a v:=by
  induction h with
  | sc s => intro _; exact .sc s
  | ptr h => intro hc; simp [AV.closedB] at hc
  | iptr vs h1 h2 h3 _ ih =>
    intro hc
    simp only [AV.closedB] at hc
    exact .iptr vs (hfz _ _ h1) h2 h3 (fun j h => ih j h (closedBs_iff.1 hc _ (List.getElem_mem _)))
  | slice => intro hc; simp [AV.closedB] at hc
  | immNil => intro _; exact .immNil
  | imm vs h1 h2 h3 h4 h5 _ ih =>
    intro hc
    simp only [AV.closedB] at hc
    exact .imm vs (hfz _ _ h1) h2 h3 h4 h5 (fun i h j h' => ih i h j h' (closedB_cells (closedBs_iff.1 hc _ (List.getElem_mem _)) _ (List.getElem_mem _)))
  | agg h _ ih => intro hc; simp only [AV.closedB] at hc; exact .agg h (fun i h1 h2 => ih i h1 h2 (closedBs_iff.1 hc _ (List.getElem_mem _)))
  | tup h _ ih => intro hc; simp only [AV.closedB] at hc; exact .tup h (fun i h1 h2 => ih i h1 h2 (closedBs_iff.1 hc _ (List.getElem_mem _)))
  | func h1 h2 _ _ ih1 ih2 =>
    intro hc
    simp only [AV.closedB,Bool.and_eq_true] at hc
    exact .func h1 h2 (fun i a b => ih1 i a b (closedBs_iff.1 hc.1 _ (List.getElem_mem _))) (fun i a b => ih2 i a b (closedBs_iff.1 hc.2 _ (List.getElem_mem _)))
  | iface _ ih => intro hc; simp only [AV.closedB] at hc; exact .iface (ih hc)
  | map => intro hc; simp [AV.closedB] at hc
  | yield => intro hc; simp [AV.closedB] at hc
  | poison v => intro _; exact .poison v
  | sym h1 h2 => intro _; rw [← hsy] at h1 h2 ⊢; exact .sym h1 h2
theorem no_get {b : Nat} {x : Blk} (h : ({} : AHeap).get b = some x) : False:=by rw [AHeap.get_ge (by simp)] at h; cases h
theorem flat_VR {G G' : Gh} {a : AV} {v : Value} (h : VR G a v) (hf : a.flatB = true) : VR G' a v:=by
  have sc : ∀ {a : AV} {v : Value},VR G a v→a.isSc = true→VR G' a v:=by
    intro a v h hf
    cases a <;> simp [AV.isSc] at hf
    cases h; exact .sc _
  have two : ∀ {a : AV} {v : Value},VR G a v→a.flat2 = true→VR G' a v:=by
    intro a v h hf
    cases a
    case agg cs =>
      simp only [AV.flat2,List.all_eq_true] at hf
      cases h with
      | agg hl hv => exact .agg hl fun i h1 h2 => sc (hv i h1 h2) (hf _ (List.getElem_mem _))
    all_goals exact sc h hf
  cases a
  case tup cs =>
    simp only [AV.flatB,List.all_eq_true] at hf
    cases h with
    | tup hl hv => exact .tup hl fun i h1 h2 => two (hv i h1 h2) (hf _ (List.getElem_mem _))
  all_goals exact two h hf
theorem alone_ok {P : Program} {B : World} {rec : Run} (hrec : RecOK P B rec) {f : FuncId} {args : List AV} {v0 v : AV} {H0 H1 : AHeap} (h0 : rec (.call f args) {} = some (.val v0,H0)) (h1 : freeze v0 H0 = some (v,H1)) (hcl : AV.closedBs args = true)
    {G : Gh} {H : AHeap} {w : World} {args' : Array Value} (hS : Sim B G H w) (hv : VRs G args args'.toList) (cs : List Frame) :
    ∃ G2 w1 y fr',G2.sym = G.sym∧Sim B G2 H1 w1∧VR G2 v y∧(∀ c o,G.fz c = some o→G2.fz c = some o)∧(∀ c s,G.sz c = some s→G2.sz c = some s)∧(∀ c,c < w.heap.size→w1.heap[c]? = w.heap[c]?)∧(∀ c o,G2.fz c = some o→G.fz c = none→w.heap.size ≤ c)∧w.heap.size ≤ w1.heap.size ∧
      (∀ (c : Nat) (l : Loop),w.heap[c]? = some (Obj.loop l)→∃ l' : Loop,w1.heap[c]? = some (Obj.loop l')) ∧
      Steps P (lone (Frame.enter P f args' .normal) cs w) (lone fr' cs w1)∧fr'.fn = f∧fr'.leaving P w1 (.returned y):=by
  obtain ⟨_,hok⟩:=hrec _ _ _ _ h0
  simp only [TaskOK] at hok
  let G0 : Gh:=⟨fun _ => none,G.fz,G.sz,G.sym⟩
  have hS0 : Sim B G0 {} w:=⟨hS.os,hS.tape,hS.output,hS.size,hS.base,hS.fz,fun b x c h1 _ => (no_get h1).elim,
    fun b b' x x' c h1 _ _ _ => (no_get h1).elim,fun b x c h1 _ => (no_get h1).elim,fun b c h => (by simp [G0] at h),hS.plain,hS.sz,hS.szr,⟨fun b cs h => (by cases h),fun b T h => (by cases h)⟩⟩
  have hv0 : VRs G0 args args'.toList:=⟨hv.1,fun i h1 h2 => VR.closed (G:=G) (G':=G0) rfl (fun _ _ h => h) (hv.2 i h1 h2) (closedBs_iff.1 hcl _ (List.getElem_mem _))⟩
  obtain ⟨G1,w1,y,fr',s1,t1,r1,st,hfn,hl⟩:=hok G0 w args' hS0 (fun b _ _ => rfl) hv0 cs
  obtain ⟨G2,s2,t2,r2⟩:=freeze_sim h1 s1 r1
  have t3:=t1.trans t2
  refine ⟨G2,w1,y,fr',t3.ext.sym,s2,r2,t3.ext.fz,t3.ext.sz,fun c hc => t3.frame c hc (fun b x hb => (no_get hb).elim),fun c o g1 g2 => ?_,t3.size,t3.loops,st,hfn,hl⟩
  rcases t3.nfz c o g1 g2 with g3 | ⟨b,x,g3,_⟩
  · exact g3
  · exact (no_get g3).elim
theorem alone_closed {P : Program} {B : World} {rec : Run} (hrec : RecOK P B rec) {f : FuncId} {args : List AV} {v0 v : AV} {H0 H1 : AHeap} (h0 : rec (.call f args) {} = some (.val v0,H0)) (h1 : freeze v0 H0 = some (v,H1)) (hcl : AV.closedBs args = true) (hcv : AV.closedB v = true)
    {G : Gh} {H : AHeap} {w : World} {args' : Array Value} (hS : Sim B G H w) (hv : VRs G args args'.toList) (cs : List Frame) :
    ∃ G' w' v' fr',Sim B G' H w'∧Step G H w G' H w'∧VR G' v v'∧Steps P (lone (Frame.enter P f args' .normal) cs w) (lone fr' cs w')∧fr'.fn = f∧fr'.leaving P w' (.returned v'):=by
  obtain ⟨G2,w1,y,fr',hsy,s2,r2,xf,xs,hno,hnfz,hsz,hlo,st,hfn,hl⟩:=alone_ok hrec h0 h1 hcl hS hv cs
  let G' : Gh:=⟨G.β,G2.fz,G2.sz,G.sym⟩
  have hx : Ext G G':=⟨fun _ _ h => h,xf,xs,rfl⟩
  refine ⟨G',w1,y,fr',?_,?_,VR.closed (G:=G2) (G':=G') hsy.symm (fun _ _ h => h) r2 hcv,st,hfn,hl⟩
  · refine ⟨s2.os,s2.tape,s2.output,s2.size,s2.base,s2.fz,?_,hS.inj,?_,?_,s2.plain,s2.sz,s2.szr,hS.frz.ext hx rfl⟩
    · intro b x c g1 g2
      obtain ⟨o,g3,g4⟩:=hS.live b x c g1 g2
      exact ⟨o,by rw [hno c (hS.rng b c g2)]; exact g3,g4.mono hx⟩
    · intro b x c g1 g2
      have g3:=hS.nofz b x c g1 g2
      show G2.fz c = none
      cases hf : G2.fz c with
      | none => rfl
      | some o => exact absurd (hnfz c o hf g3) (by have:=hS.rng b c g2; omega)
    · intro b c g; have:=hS.rng b c g; omega
  · exact ⟨hx,fun _ _ h => .inl h,Nat.le_refl _,hsz,fun c hc _ => hno c hc,fun _ _ h _ => h,fun b x c g1 g2 _ => ⟨b,x,g1,g2⟩,fun c o g1 g2 => .inl (hnfz c o g1 g2),hlo⟩
theorem alone_flat {P : Program} {B : World} {rec : Run} (hrec : RecOK P B rec) {f : FuncId} {args args0 : List AV} {v0 v : AV} {H0 H1 H2 : AHeap} (h0 : rec (.call f args0) {} = some (.val v0,H0)) (h1 : freeze v0 H0 = some (v,H1)) (hcl : AV.closedBs args0 = true) (hfl : v.flatB = true)
    {G : Gh} {H : AHeap} {w : World} {args' : Array Value} (hS : Sim B G H w) (hv : VRs G args args'.toList) (hfz : freezeL (freezeV 20) args H = some (args0,H2)) (cs : List Frame) :
    ∃ G' w' v' fr',Sim B G' H w'∧Step G H w G' H w'∧VR G' v v'∧Steps P (lone (Frame.enter P f args' .normal) cs w) (lone fr' cs w')∧fr'.fn = f∧fr'.leaving P w' (.returned v'):=by
  obtain ⟨Ga,a1,a2,a3⟩:=freezeL_sim (freezeV_sim 20) args H args0 H2 hfz G w args'.toList hS hv
  obtain ⟨G2,w1,y,fr',hsy,s2,r2,xf,xs,hno,hnfz,hsz,hlo,st,hfn,hl⟩:=alone_ok hrec h0 h1 hcl a1 a3 cs
  have rngfz : ∀ c o,G.fz c = some o→c < w.heap.size:=fun c o h => (Array.getElem?_eq_some_iff.1 (hS.fz c o h)).1
  let G' : Gh:=⟨G.β,fun c => if c < w.heap.size then G.fz c else G2.fz c,G2.sz,G.sym⟩
  have hx : Ext G G':=⟨fun _ _ h => h,fun c o h => by show (if c < w.heap.size then G.fz c else G2.fz c) = some o; rw [if_pos (rngfz c o h)]; exact h,fun c s h => xs c s (a2.ext.sz c s h),rfl⟩
  refine ⟨G',w1,y,fr',?_,?_,flat_VR r2 hfl,st,hfn,hl⟩
  · refine ⟨s2.os,s2.tape,s2.output,s2.size,?_,?_,?_,hS.inj,?_,?_,?_,s2.sz,s2.szr,hS.frz.ext hx rfl⟩
    rotate_right
    · intro c o g1 g2
      show _ ∨ (if c < w.heap.size then G.fz c else G2.fz c) = some o
      by_cases hc : c < w.heap.size
      · rw [if_pos hc]; rw [hno c hc] at g2; exact hS.plain c o g1 g2
      · rw [if_neg hc]; exact s2.plain c o g1 g2
    · intro c hc
      show (if c < w.heap.size then G.fz c else G2.fz c) = _
      rw [if_pos (by have:=hS.size; omega)]; exact hS.base c hc
    · intro c o h
      change (if c < w.heap.size then G.fz c else G2.fz c) = some o at h
      split at h
      · rename_i hc; rw [hno c hc]; exact hS.fz c o h
      · exact s2.fz c o h
    · intro b x c g1 g2
      obtain ⟨o,g3,g4⟩:=hS.live b x c g1 g2
      exact ⟨o,by rw [hno c (hS.rng b c g2)]; exact g3,g4.mono hx⟩
    · intro b x c g1 g2
      show (if c < w.heap.size then G.fz c else G2.fz c) = none
      rw [if_pos (hS.rng b c g2)]; exact hS.nofz b x c g1 g2
    · intro b c g; have:=hS.rng b c g; omega
  · refine ⟨hx,fun _ _ h => .inl h,Nat.le_refl _,hsz,fun c hc _ => hno c hc,fun _ _ h _ => h,fun b x c g1 g2 _ => ⟨b,x,g1,g2⟩,fun c o g1 g2 => ?_,hlo⟩
    change (if c < w.heap.size then G.fz c else G2.fz c) = some o at g1
    split at g1
    · rw [g1] at g2; cases g2
    · exact .inl (by omega)
theorem freezeL_next {g : AV→AHeap→Option (AV × AHeap)} (hg : ∀ v H v' H',g v H = some (v',H')→H'.next = H.next) : ∀ {l : List AV} {H : AHeap} {l' : List AV} {H' : AHeap},freezeL g l H = some (l',H')→H'.next = H.next
  | [],H,l',H',h => by simp [freezeL] at h; rw [← h.2]
  | v :: l,H,l',H',h => by
    simp only [freezeL,Option.bind_eq_some_iff,Option.map_eq_some_iff,Prod.mk.injEq] at h
    obtain ⟨⟨v1,H1⟩,h1,⟨l1,H2⟩,h2,h3,h4⟩:=h
    simp only at h2 h4
    rw [← h4,freezeL_next hg h2,hg _ _ _ _ h1]
theorem freezeV_next : ∀ {d : Nat} {v : AV} {H : AHeap} {v' : AV} {H' : AHeap},freezeV d v H = some (v',H')→H'.next = H.next
  | 0,v,H,v',H',h => by simp [freezeV] at h
  | d + 1,v,H,v',H',h => by
    unfold freezeV at h
    split at h
    · simp at h; rw [← h.2]
    · simp at h; rw [← h.2]
    · simp at h; rw [← h.2]
    · simp only [Option.map_eq_some_iff,Prod.mk.injEq] at h; obtain ⟨r,h1,h2,h3⟩:=h; rw [← h3]; exact freezeL_next (fun _ _ _ _ => freezeV_next) h1
    · simp only [Option.map_eq_some_iff,Prod.mk.injEq] at h; obtain ⟨r,h1,h2,h3⟩:=h; rw [← h3]; exact freezeL_next (fun _ _ _ _ => freezeV_next) h1
    · split at h
      · simp at h; rw [← h.2]
      · split at h
        · split at h
          · cases h
          · simp only [Option.map_eq_some_iff,Prod.mk.injEq] at h
            obtain ⟨r,h1,h2,h3⟩:=h
            rw [← h3,AHeap.next_addFr,freezeL_next (fun _ _ _ _ => freezeV_next) h1,AHeap.next_put]
        · simp only [Option.bind_eq_some_iff] at h
          obtain ⟨cs,_,h⟩:=h
          split at h
          · cases h
          · simp only [Option.some.injEq,Prod.mk.injEq] at h
            rw [h.2]
    · cases h
theorem doCall_ok {P : Program} {B : World} {pol : Pol} {rec : Run} (hrec : RecOK P B rec) {f : FuncId} {args : List AV} {H H' : AHeap} {v : AV} (h : doCall pol rec f args H = some (v,H')) :
    H.next ≤ H'.next∧CallOK P B f args H v H':=by
  unfold doCall at h
  split at h
  · rename_i hp
    simp only [Bool.and_eq_true] at hp
    split at h
    · rename_i v0 H0 h0
      split at h
      · rename_i v1 H1 h1
        split at h
        · rename_i hcl
          simp at h
          obtain ⟨rfl,rfl⟩:=h
          exact ⟨Nat.le_refl _,fun G w args' hS hC hv cs => alone_closed hrec h0 h1 hp.2 hcl hS hv cs⟩
        · cases h
      · cases h
    · cases h
  · split at h
    · split at h
      · rename_i args0 H2 hfz
        split at h
        · rename_i hcl0
          split at h
          · rename_i v0 H0 h0
            split at h
            · rename_i v1 H1 h1
              split at h
              · rename_i hcl
                simp only [Option.some.injEq,Prod.mk.injEq] at h
                obtain ⟨rfl,rfl⟩:=h
                by_cases hfl : v1.flatB = true
                · rw [if_pos hfl]
                  exact ⟨Nat.le_refl _,fun G w args' hS hC hv cs => alone_flat hrec h0 h1 hcl0 hfl hS hv hfz cs⟩
                · rw [if_neg hfl]
                  have hn:=freezeL_next (fun _ _ _ _ => freezeV_next) hfz
                  refine ⟨by omega,fun G w args' hS hC hv cs => ?_⟩
                  obtain ⟨Ga,a1,a2,a3⟩:=freezeL_sim (freezeV_sim 20) args H args0 H2 hfz G w args'.toList hS hv
                  obtain ⟨G',w',v',fr',b1,b2,b3,b4⟩:=alone_closed hrec h0 h1 hcl0 hcl a1 a3 cs
                  exact ⟨G',w',v',fr',b1,a2.trans b2,b3,b4⟩
              · cases h
            · cases h
          · cases h
        · cases h
      · split at h
        · rename_i v0 H0 h0
          simp at h
          obtain ⟨rfl,rfl⟩:=h
          obtain ⟨hle,hok⟩:=hrec _ _ _ _ h0
          exact ⟨hle,hok⟩
        · cases h
    · split at h
      · rename_i v0 H0 h0
        simp at h
        obtain ⟨rfl,rfl⟩:=h
        obtain ⟨hle,hok⟩:=hrec _ _ _ _ h0
        exact ⟨hle,hok⟩
      · cases h
theorem at_loopless {w : World} {c : Nat} {o : Obj} {cs : List AV} {G : Gh} (hcs : (w.heap[c]?).bind Obj.csize = Obj.csize o) (hb : BR G (.cells cs) o) : ∀ l,w.heap[c]? = some (Obj.loop l)→∃ l',o = Obj.loop l':=by
  intro l hl
  cases o <;> simp only [BR] at hb
  rw [hl] at hcs
  simp [Obj.csize] at hcs
theorem doOp_ok {P : Program} {B : World} {pol : Pol} {rec : Run} (hrec : RecOK P B rec) {ops : Array Oper} {o : Oper} {t t' : List AV} {H H' : AHeap} (h : doOp P pol rec ops o t H = some (t',H')) :
    H.next ≤ H'.next∧∀ G w a b k cs i rest,ops[i]? = some o→Sim B G H w→Clear G H.next H'.next→LR G t a→∃ G' w' a',Sim B G' H' w'∧Step G H w G' H' w'∧LR G' t' a' ∧
      Steps P (lone (fr b a (.inRegion ops (i :: rest) :: k)) cs w) (lone (fr b a' (.inRegion ops rest :: k)) cs w'):=by
  unfold doOp at h
  split at h
  · rename_i hw
    split at h
    · rename_i hp
      simp only [Option.bind_eq_some_iff] at h
      obtain ⟨e,he,hd⟩:=h
      have hsel : ∀ cs b,o.op ≠ .select cs b:=fun cs b e => by rw [e] at hp; cases hp
      cases e with
      | val v =>
        simp [doEff] at hd
        obtain ⟨rfl,rfl⟩:=hd
        refine ⟨Nat.le_refl _,fun G w a b k cs i rest ho hS hC hL => ?_⟩
        have hwt:=wanted_spec hL hw
        obtain ⟨n,h1,v',h2,h3⟩:=aopM_sim hS (hL.eval b []) hsel he
        exact ⟨G,w,putV a o.dst v',hS,Step.refl _ _ _,hL.put o.dst h2,.one (st_op_val ho hwt hp h1 h3)⟩
      | new x mk =>
        simp [doEff] at hd
        obtain ⟨rfl,rfl⟩:=hd
        refine ⟨by simp,fun G w a b k cs i rest ho hS hC hL => ?_⟩
        have hwt:=wanted_spec hL hw
        obtain ⟨v',w',ob,h1,h2,h3,h4,h5⟩:=aopM_sim hS (hL.eval b []) hsel he
        obtain ⟨s1,s2⟩:=sim_push hS h2 h3 h4 (hC _ (Nat.le_refl _) (by simp))
        exact ⟨_,w',putV a o.dst v',s1,s2,(hL.mono s2.ext).put o.dst (h5 _ _ s2.ext (by simp [Gh.at]) (by simp [Gh.at])),.one (st_op_val ho hwt hp h1 (.inl rfl))⟩
      | mem v b0 x =>
        simp [doEff] at hd
        obtain ⟨rfl,rfl⟩:=hd
        refine ⟨by simp,fun G w a b k cs i rest ho hS hC hL => ?_⟩
        have hwt:=wanted_spec hL hw
        obtain ⟨n,w',ob,y,c,h1,h2,h3,h4,h5,h6,h7,v',h8,h9⟩:=aopM_sim hS (hL.eval b []) hsel he
        obtain ⟨s1,s2⟩:=sim_at hS h2 h3 h4 h5 h6 h7 (at_loopless h5 h6)
        exact ⟨_,w',putV a o.dst v',s1,s2,(hL.mono s2.ext).put o.dst h8,.one (st_op_val ho hwt hp h1 h9)⟩
      | memM v b0 es =>
        simp [doEff] at hd
        obtain ⟨rfl,rfl⟩:=hd
        refine ⟨by simp,fun G w a b k cs i rest ho hS hC hL => ?_⟩
        have hwt:=wanted_spec hL hw
        obtain ⟨n,w',ob,y,c,h1,h2,h3,h4,h5,h6,h7,⟨v',h8,h9⟩,h10⟩:=aopM_sim hS (hL.eval b []) hsel he
        obtain ⟨s1,s2⟩:=sim_at hS h2 h3 h4 h5 h6 h7 (fun l e => absurd e (h10 l))
        exact ⟨_,w',putV a o.dst v',s1,s2,(hL.mono s2.ext).put o.dst h8,.one (st_op_val ho hwt hp h1 h9)⟩
      | newT T x mk =>
        simp [doEff] at hd
        obtain ⟨rfl,rfl⟩:=hd
        refine ⟨by simp,fun G w a b k cs i rest ho hS hC hL => ?_⟩
        have hwt:=wanted_spec hL hw
        obtain ⟨v',w',ob,h1,h2,h3,h4,h5,h6⟩:=aopM_sim hS (hL.eval b []) hsel he
        obtain ⟨s1,s2⟩:=sim_push hS h2 h3 h4 (hC _ (Nat.le_refl _) (by simp))
        exact ⟨_,w',putV a o.dst v',sim_addTg (c:=w.heap.size) s1 (by simp [Gh.at]) (by simp [Gh.at,h5]),step_addTg _ _ s2,(hL.mono s2.ext).put o.dst (h6 _ _ s2.ext (by simp [Gh.at]) (by simp [Gh.at])),.one (st_op_val ho hwt hp h1 (.inl rfl))⟩
      | fzn v =>
        simp [doEff] at hd
        obtain ⟨rfl,rfl⟩:=hd
        refine ⟨Nat.le_refl _,fun G w a b k cs i rest ho hS hC hL => ?_⟩
        have hwt:=wanted_spec hL hw
        obtain ⟨v',w',ob,h1,h2,h3⟩:=aopM_sim hS (hL.eval b []) hsel he
        obtain ⟨s1,s2⟩:=sim_pushF hS h2
        exact ⟨_,w',putV a o.dst v',s1,s2,(hL.mono s2.ext).put o.dst (h3 _ s2.ext (by simp [Gh.fzAt])),.one (st_op_val ho hwt hp h1 (.inl rfl))⟩
      | move mk b0 x =>
        simp [doEff] at hd
        obtain ⟨rfl,rfl⟩:=hd
        refine ⟨by simp,fun G w a b k cs i rest ho hS hC hL => ?_⟩
        have hwt:=wanted_spec hL hw
        obtain ⟨v',w',ob,y,c,c',h1,h2,h3,h4,h5,h6,h7⟩:=aopM_sim hS (hL.eval b []) hsel he
        have hcl:=hC H.next (Nat.le_refl _) (by simp)
        rcases h4 with ⟨rfl,h4,h4'⟩ | ⟨rfl,h4⟩
        · obtain ⟨s1,s2⟩:=sim_rename hS h2 h3 h4 h4' h5 h6 (at_loopless h4' h5) hcl
          exact ⟨_,w',putV a o.dst v',s1,s2,(hL.mono s2.ext).put o.dst (h7 _ _ s2.ext (by simp [Gh.at]) (by simp [Gh.at])),.one (st_op_val ho hwt hp h1 (.inl rfl))⟩
        · have hD:=sim_drop hS h2
          have hT:=step_drop (w:=w) h2 h3
          obtain ⟨s1,s2⟩:=sim_push hD h4 h5 h6 (by simpa using hcl)
          simp only [AHeap.next_put] at s1 s2
          exact ⟨_,w',putV a o.dst v',s1,hT.trans s2,(hL.mono s2.ext).put o.dst (h7 _ _ s2.ext (by simp [Gh.at]) (by simp [Gh.at])),.one (st_op_val ho hwt hp h1 (.inl rfl))⟩
      | moveT T mk b0 x =>
        simp [doEff] at hd
        obtain ⟨rfl,rfl⟩:=hd
        refine ⟨by simp,fun G w a b k cs i rest ho hS hC hL => ?_⟩
        have hwt:=wanted_spec hL hw
        obtain ⟨v',w',ob,y,c,c',h1,h2,h3,h4,h5,h6,hT,h7⟩:=aopM_sim hS (hL.eval b []) hsel he
        have hcl:=hC H.next (Nat.le_refl _) (by simp)
        rcases h4 with ⟨rfl,h4,h4'⟩ | ⟨rfl,h4⟩
        · obtain ⟨s1,s2⟩:=sim_rename hS h2 h3 h4 h4' h5 h6 (at_loopless h4' h5) hcl
          exact ⟨_,w',putV a o.dst v',sim_addTg (c:=c') s1 (by simp [Gh.at]) (by simpa [Gh.at] using hT),step_addTg _ _ s2,(hL.mono s2.ext).put o.dst (h7 _ _ s2.ext (by simp [Gh.at]) (by simp [Gh.at])),.one (st_op_val ho hwt hp h1 (.inl rfl))⟩
        · have hD:=sim_drop hS h2
          have hD':=step_drop (w:=w) h2 h3
          obtain ⟨s1,s2⟩:=sim_push hD h4 h5 h6 (by simpa using hcl)
          simp only [AHeap.next_put] at s1 s2
          exact ⟨_,w',putV a o.dst v',sim_addTg (c:=w.heap.size) s1 (by simp [Gh.at]) (by simpa [Gh.at] using hT),step_addTg _ _ (hD'.trans s2),(hL.mono s2.ext).put o.dst (h7 _ _ s2.ext (by simp [Gh.at]) (by simp [Gh.at])),.one (st_op_val ho hwt hp h1 (.inl rfl))⟩
      | call f args =>
        simp only [doEff,Option.map_eq_some_iff,Prod.mk.injEq] at hd
        obtain ⟨⟨v,H1⟩,h1,rfl,rfl⟩:=hd
        obtain ⟨hle,hok⟩:=doCall_ok hrec h1
        refine ⟨hle,fun G w a b k cs i rest ho hS hC hL => ?_⟩
        have hwt:=wanted_spec hL hw
        obtain ⟨args',h2,h3⟩:=aopM_sim hS (hL.eval b []) hsel he
        obtain ⟨G',w',v',fr',s1,s2,r,st,hfn,hl⟩:=hok G w args' hS hC h3 (fr b a (.inRegion ops (i :: rest) :: k) :: cs)
        refine ⟨G',w',putV a o.dst v',s1,s2,(hL.mono s2.ext).put o.dst r,.head (st_op_enter ho hwt hp h2) (st.trans (.one ?_))⟩
        rw [← finish_fr ho]
        exact step_leave_returned hl
      | yield l args =>
        simp only [doEff] at hd
        split at hd
        · rename_i v H1 h1
          simp at hd
          obtain ⟨rfl,rfl⟩:=hd
          obtain ⟨hle,hok⟩:=hrec _ _ _ _ h1
          simp only [TaskOK] at hok
          refine ⟨hle,fun G w a b k cs i rest ho hS hC hL => ?_⟩
          have hwt:=wanted_spec hL hw
          obtain ⟨c,args',h2,h3,h4⟩:=aopM_sim hS (hL.eval b []) hsel he
          obtain ⟨f,tmps,as,bo,h5,h6⟩:=hok G w args' c hS hC h4 h2
          obtain ⟨G',w',v',s1,s2,r,st⟩:=h6 (fr b a (.inRegion ops (i :: rest) :: k)) cs
          rw [h5] at h3
          refine ⟨G',w',putV a o.dst v',s1,s2,(hL.mono s2.ext).put o.dst r,.head (st_op_round ho hwt hp h3) ?_⟩
          rw [← finish_fr ho]
          exact st
        · cases hd
    · cases h
  · rename_i hw
    simp at h
    obtain ⟨rfl,rfl⟩:=h
    refine ⟨Nat.le_refl _,fun G w a b k cs i rest ho hS hC hL => ?_⟩
    exact ⟨G,w,putV a o.dst undef,hS,Step.refl _ _ _,hL.put o.dst (.sc .undef),.one (st_op_skip ho (wanted_spec hL hw))⟩
  · cases h
theorem doOps_ok {P : Program} {B : World} {pol : Pol} {rec : Run} (hrec : RecOK P B rec) {ops : Array Oper} : ∀ (os : List Oper) (i : Nat),(∀ j,os[j]? = ops[i + j]?)→∀ {t t' : List AV} {H H' : AHeap},
    doOps P pol rec ops os t H = some (t',H')→H.next ≤ H'.next∧∀ G w a b k cs,Sim B G H w→Clear G H.next H'.next→LR G t a→∃ G' w' a',Sim B G' H' w'∧Step G H w G' H' w'∧LR G' t' a' ∧
      Steps P (lone (fr b a (.inRegion ops (List.range' i os.length) :: k)) cs w) (lone (fr b a' k) cs w')
  | [],i,hi,t,t',H,H',h => by
    simp [doOps] at h
    obtain ⟨rfl,rfl⟩:=h
    exact ⟨Nat.le_refl _,fun G w a b k cs hS hC hL => ⟨G,w,a,hS,Step.refl _ _ _,hL,.one st_region_end⟩⟩
  | o :: os,i,hi,t,t',H,H',h => by
    simp only [doOps,Option.bind_eq_some_iff] at h
    obtain ⟨⟨t1,H1⟩,h1,h2⟩:=h
    obtain ⟨l1,k1⟩:=doOp_ok hrec h1
    obtain ⟨l2,k2⟩:=doOps_ok hrec os (i + 1) (fun j => by have:=hi (j + 1); simp at this; rw [this]; congr 1; omega) h2
    refine ⟨Nat.le_trans l1 l2,fun G w a b k cs hS hC hL => ?_⟩
    obtain ⟨G1,w1,a1,s1,e1,r1,st1⟩:=k1 G w a b k cs i (List.range' (i + 1) os.length) (by have:=hi 0; simpa using this.symm) hS (hC.mono l2) hL
    obtain ⟨G2,w2,a2,s2,e2,r2,st2⟩:=k2 G1 w1 a1 b k cs s1 (hC.step e1) r1
    exact ⟨G2,w2,a2,s2,e1.trans e2,r2,by simpa [List.range'_succ] using st1.trans st2⟩
end Go.Hem
