/- Joined. -/
import Derived.Test.YtldflacehmpjkaaGreatDoorHemN
set_option linter.unusedSimpArgs false
set_option linter.unusedVariables false
namespace Go.Hem
theorem sim_fill {B : World} {G : Gh} {H : AHeap} {w w' : World} {x : Blk} {o : Obj} {b : Nat} (hS : Sim B G H w) (hg : H.get b = some x) (hn : G.β b = none) (hp : Push w w' o) (hb : BR G x o) (hpl : Obj.plain o) :
    Sim B (G.at b w.heap.size (Obj.csize o)) H w':=by
  obtain ⟨hsame,hsz,hnew,hold⟩:=hp
  obtain ⟨e1,e2,e3⟩:=hsame.sim hS.os hS.tape hS.output
  have hz0 : G.sz w.heap.size = none:=by
    cases hq : G.sz w.heap.size with
    | none => rfl
    | some s => exact absurd (hS.szr _ _ hq) (by omega)
  have hx : Ext G (G.at b w.heap.size (Obj.csize o)):=Gh.ext_at hn (.inl hz0)
  have hβ : ∀ b',b' ≠ b→(G.at b w.heap.size (Obj.csize o)).β b' = G.β b':=fun b' hb => by simp [Gh.at,hb]
  have hβ' : (G.at b w.heap.size (Obj.csize o)).β b = some w.heap.size:=by simp [Gh.at]
  have hlt : ∀ {c o'},w.heap[c]? = some o'→c < w.heap.size:=fun h => (Array.getElem?_eq_some_iff.1 h).1
  have hlt' : ∀ {c o'},w'.heap[c]? = some o'→c < w'.heap.size:=fun h => (Array.getElem?_eq_some_iff.1 h).1
  refine ⟨e1,e2,e3,by have:=hS.size; omega,hS.base,?_,?_,?_,?_,?_,?_,?_,?_,hS.frz.ext hx rfl⟩
  · intro c o' h
    have h':=hS.fz c o' h
    rw [hold c (hlt h')]; exact h'
  · intro b' y c h1 h2
    by_cases e : b' = b
    · subst e
      rw [hβ'] at h2; cases h2
      rw [hg] at h1; cases h1
      exact ⟨o,hnew,hb.mono hx⟩
    · rw [hβ b' e] at h2
      obtain ⟨o',h4,h5⟩:=hS.live b' y c h1 h2
      exact ⟨o',by rw [hold c (hlt h4)]; exact h4,h5.mono hx⟩
  · intro b1 b2 y y' c h1 h2 h3 h4
    by_cases e : b1 = b <;> by_cases e' : b2 = b
    · rw [e,e']
    · subst e; rw [hβ'] at h3; rw [hβ b2 e'] at h4; cases h3
      exact absurd (hS.rng _ _ h4) (by omega)
    · subst e'; rw [hβ'] at h4; rw [hβ b1 e] at h3; cases h4
      exact absurd (hS.rng _ _ h3) (by omega)
    · rw [hβ b1 e] at h3; rw [hβ b2 e'] at h4
      exact hS.inj b1 b2 y y' c h1 h2 h3 h4
  · intro b' y c h1 h2
    by_cases e : b' = b
    · subst e; rw [hβ'] at h2; cases h2
      cases hf : G.fz w.heap.size with
      | none => exact hf
      | some o' => exact absurd (hlt (hS.fz _ _ hf)) (by omega)
    · rw [hβ b' e] at h2; exact hS.nofz b' y c h1 h2
  · intro b' c h
    by_cases e : b' = b
    · subst e; rw [hβ'] at h; cases h; omega
    · rw [hβ b' e] at h; have:=hS.rng b' c h; omega
  · intro c o' h1 h2
    by_cases e : c = w.heap.size
    · subst e; rw [hnew] at h2; cases h2; exact .inl hpl
    · have : c < w.heap.size:=by have:=hlt' h2; omega
      rw [hold c this] at h2; exact hS.plain c o' h1 h2
  · intro c o' h1 h2
    by_cases e : c = w.heap.size
    · subst e; rw [hnew] at h2; cases h2; simp [Gh.at]
    · have : c < w.heap.size:=by have:=hlt' h2; omega
      rw [hold c this] at h2
      simp only [Gh.at,if_neg e]; exact hS.sz c o' h1 h2
  · intro c s h
    by_cases e : c = w.heap.size
    · subst e; omega
    · simp only [Gh.at,if_neg e] at h; have:=hS.szr c s h; omega
theorem Step.fill {B : World} {G0 G : Gh} {H0 H : AHeap} {w0 w w' : World} {o : Obj} {b : Nat} (hT : Step G0 H0 w0 G H w) (hS : Sim B G H w) (hb0 : H0.next ≤ b) (hb1 : b < H.next) (hn : G.β b = none) (hp : Push w w' o) :
    Step G0 H0 w0 (G.at b w.heap.size (Obj.csize o)) H w':=by
  obtain ⟨hsame,hsz,hnew,hold⟩:=hp
  have hz0 : G.sz w.heap.size = none:=by
    cases hq : G.sz w.heap.size with
    | none => rfl
    | some s => exact absurd (hS.szr _ _ hq) (by omega)
  have hx : Ext G (G.at b w.heap.size (Obj.csize o)):=Gh.ext_at hn (.inl hz0)
  have hβ : ∀ b',b' ≠ b→(G.at b w.heap.size (Obj.csize o)).β b' = G.β b':=fun b' hb => by simp [Gh.at,hb]
  have hβ' : (G.at b w.heap.size (Obj.csize o)).β b = some w.heap.size:=by simp [Gh.at]
  have hs:=hT.size
  refine ⟨hT.ext.trans hx,?_,hT.le,by omega,fun c hc hno => by rw [hold c (by omega)]; exact hT.frame c hc hno,hT.pend,?_,hT.nfz,fun c l h => ?_⟩
  · intro b' c h
    by_cases e : b' = b
    · subst e; exact .inr ⟨hb0,hb1⟩
    · rw [hβ b' e] at h; exact hT.new b' c h
  · intro b' y c h1 h2 h3
    by_cases e : b' = b
    · subst e; rw [hβ'] at h2; cases h2; omega
    · rw [hβ b' e] at h2; exact hT.img b' y c h1 h2 h3
  · obtain ⟨l',h1⟩:=hT.loops c l h
    exact ⟨l',by rw [hold c (Array.getElem?_eq_some_iff.1 h1).1]; exact h1⟩
theorem sim_pend {B : World} {G : Gh} {H : AHeap} {w : World} {x : Blk} (hS : Sim B G H w) (hn : G.β H.next = none) : Sim B G (H.alloc x) w∧Step G H w G (H.alloc x) w:=by
  have getc : ∀ b y c,(H.alloc x).get b = some y→G.β b = some c→H.get b = some y:=fun b y c h hc => by
    by_cases e : b = H.next
    · subst e; rw [hn] at hc; cases hc
    · rw [AHeap.get_alloc_ne H x e] at h; exact h
  constructor
  · exact ⟨hS.os,hS.tape,hS.output,hS.size,hS.base,hS.fz,fun b y c h1 h2 => hS.live b y c (getc b y c h1 h2) h2,fun b b' y y' c h1 h2 h3 h4 => hS.inj b b' y y' c (getc _ _ _ h1 h3) (getc _ _ _ h2 h4) h3 h4,
      fun b y c h1 h2 => hS.nofz b y c (getc _ _ _ h1 h2) h2,hS.rng,hS.plain,hS.sz,hS.szr,hS.frz⟩
  · exact ⟨Ext.refl G,fun _ _ h => .inl h,by simp,Nat.le_refl _,fun _ _ _ => rfl,fun b y h1 _ => by rw [AHeap.get_alloc_lt H x (AHeap.get_lt h1)]; exact h1,fun b y c h1 h2 _ => ⟨b,y,getc b y c h1 h2,h2⟩,
      fun c o h1 h2 => (by rw [h2] at h1; cases h1),fun c l h => ⟨l,h⟩⟩
theorem aev_tmp {t t' : List AV} {i : Nat} (h : t[i]? = t'[i]?) : aev t (.tmp i) = aev t' (.tmp i):=by simp [aev,List.getD,h]
theorem map_congr' {f g : Operand→AV} (l : Array Operand) (h : ∀ x ∈ l,f x = g x) : l.toList.map f = l.toList.map g:=List.map_congr_left fun x hx => h x (by simpa using hx)
theorem aop_congr {P : Program} {t t' : List AV} {H : AHeap} {o : Oper} (h : ∀ x ∈ o.op.operands,aev t x = aev t' x) (hp : plainOp o.op = true) : aop P t H o = aop P t' H o:=by
  have hcl : aclosed P t o = aclosed P t' o:=by
    have h1 : allClosed t o = allClosed t' o:=by
      unfold allClosed
      rw [Bool.eq_iff_iff]
      simp only [Array.all_eq_true_iff_forall_mem]
      constructor
      · intro k x hx; rw [← h x hx]; exact k x hx
      · intro k x hx; rw [h x hx]; exact k x hx
    unfold aclosed
    rw [h1]
    split
    · have : execOp (closedEnv t) o = execOp (closedEnv t') o:=execOp_congr o (fun cs b e => by rw [e] at hp; cases hp) (fun x hx => by simp only [closedEnv,h x hx])
      rw [this]
    · rfl
  unfold aop
  cases ho : o.op <;> simp only [ho,Op.operands] at h <;> simp only [hcl]
  case move x => rw [h x (by simp)]
  case assign x => rw [h x (by simp)]
  case convert s d x => rw [h x (by simp)]
  case makeInterface T x => rw [h x (by simp)]
  case pick c a b => rw [h c (by simp),h a (by simp),h b (by simp)]
  case box e x => rw [h x (by simp)]
  case build T parts =>
    have : (parts.toList.map fun p => (p.1,aev t p.2)) = (parts.toList.map fun p => (p.1,aev t' p.2)):=List.map_congr_left fun p hp => by
      rw [h p.2 (by simp; exact ⟨p.1,by simpa using hp⟩)]
    rw [this]
  case buildSlice T len parts =>
    have : (parts.toList.map fun p => (p.1,aev t p.2)) = (parts.toList.map fun p => (p.1,aev t' p.2)):=List.map_congr_left fun p hp => by
      rw [h p.2 (by simp; exact ⟨p.1,by simpa using hp⟩)]
    rw [this]
  case load T x => rw [h x (by simp)]
  case store T a x => rw [h a (by simp),h x (by simp)]
  case nilCheck x => rw [h x (by simp)]
  case makeFunc fn first captured =>
    have h1:=map_congr' (f:=aev t) (g:=aev t') first (fun x hx => h x (by simp [hx]))
    have h2:=map_congr' (f:=aev t) (g:=aev t') captured (fun x hx => h x (by simp [hx]))
    rw [h1,h2]
  case makeSlice T l c => rw [h l (by simp),h c (by simp)]
  case slice T x lo hi mx =>
    have h1:=h x (by simp)
    have hlo : ∀ d,abound t lo d = abound t' lo d:=fun d => by
      cases lo with
      | none => rfl
      | some y => simp only [abound]; rw [h y (by simp)]
    have hhi : ∀ d,abound t hi d = abound t' hi d:=fun d => by
      cases hi with
      | none => rfl
      | some y => simp only [abound]; rw [h y (by simp)]
    have hs : ∀ v,aslice P H T t v lo hi = aslice P H T t' v lo hi:=fun v => by
      unfold aslice
      simp only [hlo,hhi]
    have hs3 : ∀ v,aslice3 P T t v lo hi mx = aslice3 P T t' v lo hi mx:=fun v => by
      have e1 : (hi.bind fun y => asNat (aev t y)) = hi.bind fun y => asNat (aev t' y):=by
        cases hi with
        | none => rfl
        | some y => simp only [Option.bind_some]; rw [h y (by simp)]
      have e2 : (mx.bind fun y => asNat (aev t y)) = mx.bind fun y => asNat (aev t' y):=by
        cases mx with
        | none => rfl
        | some y => simp only [Option.bind_some]; rw [h y (by simp)]
      unfold aslice3
      simp only [hlo,e1,e2]
    rw [h1]
    simp only [hs,hs3]
  case makeMap T r =>
    cases r with
    | none => rfl
    | some y => simp only [Option.map_some]; rw [h y (by simp)]
  case lookup T x ix ok => rw [h x (by simp),h ix (by simp)]
  case mapUpdate T m k x => rw [h m (by simp),h k (by simp),h x (by simp)]
  case fieldAddr s x f => rw [h x (by simp)]
  case field s x f => rw [h x (by simp)]
  case indexAddr T x ix => rw [h x (by simp),h ix (by simp)]
  case extract x ix => rw [h x (by simp)]
  case binOp op T x y yt => rw [h x (by simp),h y (by simp)]
  case call c =>
    simp only [Call.operands] at h
    have hm : c.args.toList.map (aev t) = c.args.toList.map (aev t'):=map_congr' c.args (fun x hx => h x (by simp [hx]))
    cases hc : c.callee with
    | value f =>
      simp only [hc] at h
      dsimp only
      rw [h f (by simp),hm]
    | invoke r m =>
      simp only [hc] at h
      dsimp only
      rw [h r (by simp),hm]
    | builtin b => simp only [hm]; cases b <;> rfl
theorem aop_heapless {P : Program} {t : List AV} {H H' : AHeap} {o : Oper} (h : heapless o.op = true) : aop P t H o = aop P t H' o:=by
  unfold aop
  split
  case h_8 ho => exfalso; rw [ho] at h; cases h
  case h_9 ho => exfalso; rw [ho] at h; cases h
  case h_13 ho => exfalso; rw [ho] at h; cases h
  case h_21 ho => exfalso; rw [ho] at h; cases h
  case h_22 ho => exfalso; rw [ho] at h; cases h
  case h_19 c ho =>
    rw [ho] at h
    simp only [heapless] at h
    split
    · rename_i hc; exact absurd h (by rw [hc]; simp)
    · rename_i hc; rfl
    · rename_i hc; exact absurd h (by rw [hc]; simp)
    · rename_i hc; exact absurd h (by rw [hc]; simp)
    · rename_i hc; exact absurd h (by rw [hc]; simp)
    · rename_i hc; exact absurd h (by rw [hc]; simp)
    · rfl
  all_goals rfl
def HLe (H H' : AHeap) : Prop:=(∀ b cs,H.cells b = some cs→H'.cells b = some cs)∧(∀ b es,H.map b = some es→H'.map b = some es)∧∀ b cs,H.rd b = some cs→H'.rd b = some cs
theorem map_get {H : AHeap} {b : Nat} {es : List (AV × AV)} (h : H.map b = some es) : H.get b = some (.map es):=by
  unfold AHeap.map at h
  split at h
  · rename_i q; cases h; exact q
  · cases h
theorem HLe.refl (H : AHeap) : HLe H H:=⟨fun _ _ h => h,fun _ _ h => h,fun _ _ h => h⟩
theorem HLe.addTg {H H' : AHeap} (h : HLe H H') (b : Nat) (T : Nat × TypeId) : HLe H (H'.addTg b T):=⟨h.1,h.2.1,h.2.2⟩
theorem HLe.alloc (H : AHeap) (x : Blk) : HLe H (H.alloc x):=⟨fun b cs h => by
  have:=cells_get h
  have hb:=AHeap.get_lt this
  simp only [AHeap.cells,AHeap.get_alloc_lt H x hb] at h ⊢
  exact h,fun b es h => by
  have:=map_get h
  have hb:=AHeap.get_lt this
  simp only [AHeap.map,AHeap.get_alloc_lt H x hb] at h ⊢
  exact h,fun b cs h => by
  unfold AHeap.rd at h ⊢
  cases hc : H.cells b with
  | some ds =>
    rw [hc] at h; cases h
    have hb:=AHeap.get_lt (cells_get hc)
    have : (H.alloc x).cells b = some cs:=by
      simp only [AHeap.cells,AHeap.get_alloc_lt H x hb] at hc ⊢
      exact hc
    rw [this]; rfl
  | none =>
    rw [hc] at h
    have h : H.frd b = some cs:=by simpa using h
    have h0:=h
    unfold AHeap.frd at h
    split at h
    · rename_i hb
      have : (H.alloc x).cells b = none:=by
        simp only [AHeap.cells,AHeap.get_alloc_lt H x hb] at hc ⊢
        exact hc
      rw [this]
      have e2 : (H.alloc x).frd b = some cs:=by
        unfold AHeap.frd
        rw [if_pos (show b < (H.alloc x).next by rw [AHeap.next_alloc]; omega)]; exact h
      simpa using e2
    · cases h⟩
theorem HLe.trans {a b c : AHeap} (h : HLe a b) (k : HLe b c) : HLe a c:=⟨fun x y e => k.1 x y (h.1 x y e),fun x y e => k.2.1 x y (h.2.1 x y e),fun x y e => k.2.2 x y (h.2.2 x y e)⟩
theorem lookIn_hle {H H' : AHeap} (hle : HLe H H') {g : Bool} {ks : List SK} {z : AV} {ok : Bool} {x k v : AV} (h : lookIn H g ks z ok x k = some v) : lookIn H' g ks z ok x k = some v:=by
  unfold lookIn at h ⊢
  split at h
  · rename_i q; rw [if_pos q]
    split at h
    · exact h
    · simp only [Option.bind_eq_some_iff] at h ⊢
      obtain ⟨es,h1,h2⟩:=h
      exact ⟨es,hle.2.1 _ _ h1,h2⟩
    · cases h
  · cases h
theorem aop_reader {P : Program} {t : List AV} {H H' : AHeap} {o : Oper} {v : AV} (hr : readerKind o.op = true) (hle : HLe H H') (h : aop P t H o = some (.val v)) : aop P t H' o = some (.val v):=by
  unfold aop at h ⊢
  cases ho : o.op <;> rw [ho] at hr <;> first | (simp [readerKind] at hr; done) | skip
  case load T a =>
    simp only [ho,Option.map_eq_some_iff] at h ⊢
    obtain ⟨x,h1,h2⟩:=h
    refine ⟨x,?_,h2⟩
    unfold aload at h1 ⊢
    split at h1
    · simp only [Option.bind_eq_some_iff] at h1 ⊢
      obtain ⟨cs,h3,h4⟩:=h1
      exact ⟨cs,hle.2.2 _ _ h3,h4⟩
    · exact h1
    · cases h1
  case slice T x lo hi mx =>
    simp only [ho] at h
    split at h
    · rename_i s hs
      simp only [hs]; exact h
    · rename_i y hno
      split at h
      · rename_i hm
        simp only [Option.map_eq_some_iff] at h
        obtain ⟨z,h1,h2⟩:=h
        have key : aslice P H' T t (aev t x) lo hi = some z:=by
          unfold aslice at h1 ⊢
          split at h1
          · exact h1
          · exact h1
          · exact h1
          · simp only [Option.bind_eq_bind,Option.bind_eq_some_iff] at h1 ⊢
            obtain ⟨p,g1,n,g2,hh,g3,l,g4,cs,g5,g6⟩:=h1
            exact ⟨p,g1,n,g2,hh,g3,l,g4,cs,hle.1 _ _ g5,g6⟩
          · cases h1
        simp only [key,hm,if_true,Option.map_some,h2]
      · rename_i hm
        simp only [hm,if_false,Bool.false_eq_true]
        exact h
  case lookup T x ix ok =>
    simp only [ho,Option.map_eq_some_iff] at h ⊢
    obtain ⟨u,h1,h2⟩:=h
    refine ⟨u,?_,h2⟩
    simp only [alookup,Option.bind_eq_some_iff] at h1 ⊢
    obtain ⟨m,g1,ks,g2,g,g3,z,g4,g5⟩:=h1
    exact ⟨m,g1,ks,g2,g,g3,z,g4,lookIn_hle hle g5⟩
end Go.Hem
set_option linter.unusedSimpArgs false
set_option linter.unusedVariables false
namespace Go.Hem
section
variable {P : Program} {B : World} {pol : Pol} {rec : Run} {ops : Array Oper} {M : List Nat}
def dstOf (ops : Array Oper) (j : Nat) : Option Tmp:=(ops[j]?).bind (·.dst)
structure Placed (ops : Array Oper) (M : List Nat) (pre : List Nat) (j : Nat) (o : Oper) : Prop where
  op : ops[j]? = some o
  fresh : j ∉ pre
  edges : ∀ e ∈ o.after,Region.binds .any e = true→e.on ∈ pre
  mask : M.getD j 0 = edgesMask o M
  held : ∀ i ∈ pre,∀ oi,ops[i]? = some oi→(clash ops oi o || isW oi) = true→(M.getD j 0).testBit i = true
theorem planOk_spec : ∀ (l : List Nat) (done : List (Nat × Oper)),(∀ x ∈ done,ops[x.1]? = some x.2)→planOk ops M l done = true→∀ pre j post,l = pre ++ j :: post→∃ o,Placed ops M (done.map (·.1) ++ pre) j o
  | [],done,hd,h,pre,j,post,e => by simp at e
  | i :: rest,done,hd,h,pre,j,post,e => by
    simp only [planOk] at h
    split at h
    · rename_i o ho
      simp only [Bool.and_eq_true,List.all_eq_true,bne_iff_ne,ne_eq,beq_iff_eq,Bool.or_eq_true,Bool.not_eq_true'] at h
      obtain ⟨⟨⟨⟨h1,h2⟩,h3⟩,h4⟩,h5⟩:=h
      cases pre with
      | nil =>
        simp only [List.nil_append,List.cons.injEq] at e
        obtain ⟨rfl,rfl⟩:=e
        refine ⟨o,ho,?_,?_,h3,?_⟩
        · simp only [List.append_nil,List.mem_map,not_exists,not_and]
          exact fun x hx e => h1 x hx e
        · intro ed hed hb
          simp only [readyAt,List.all_eq_true,Bool.or_eq_true,Bool.not_eq_true',List.contains_iff_mem] at h2
          have:=h2 ed (by simpa using hed)
          simp only [List.append_nil]
          exact this.resolve_left (by simp [hb])
        · intro k hk ok hok hc
          simp only [List.append_nil,List.mem_map] at hk
          obtain ⟨x,hx,rfl⟩:=hk
          have hx2:=hd x hx
          rw [hok] at hx2
          cases hx2
          rcases h4 x hx with h6 | h6
          · simp only [Bool.or_eq_false_iff] at h6
            rw [h6.1,h6.2] at hc; cases hc
          · exact h6
      | cons p pre' =>
        simp only [List.cons_append,List.cons.injEq] at e
        obtain ⟨rfl,e⟩:=e
        obtain ⟨o',hp⟩:=planOk_spec rest ((i,o) :: done) (fun x hx => by
          rcases List.mem_cons.1 hx with rfl | hx
          · exact ho
          · exact hd x hx) h5 pre' j post e
        refine ⟨o',hp.op,?_,?_,hp.mask,?_⟩
        · have:=hp.fresh
          simp only [List.map_cons,List.cons_append,List.mem_cons,List.mem_append,not_or] at this
          simp only [List.mem_append,List.mem_cons,not_or]
          exact ⟨this.2.1,this.1,this.2.2⟩
        · intro ed hed hb
          have:=hp.edges ed hed hb
          simp only [List.map_cons,List.cons_append,List.mem_cons,List.mem_append] at this ⊢
          rcases this with h | h | h
          · exact .inr (.inl h)
          · exact .inl h
          · exact .inr (.inr h)
        · intro k hk ok hok hc
          refine hp.held k ?_ ok hok hc
          simp only [List.map_cons,List.cons_append,List.mem_cons,List.mem_append] at hk ⊢
          rcases hk with h | h | h
          · exact .inr (.inl h)
          · exact .inl h
          · exact .inr (.inr h)
    · cases h
theorem edgesMask_bit {o : Oper} {M : List Nat} {i : Nat} (h : (edgesMask o M).testBit i = true) : ∃ e ∈ o.after,Region.binds .any e = true∧(i = e.on ∨ (M.getD e.on 0).testBit i = true):=by
  have key : ∀ (l : List Edge) (s : Nat),(l.foldl (fun s e => if Region.binds .any e then s ||| 2 ^ e.on ||| M.getD e.on 0 else s) s).testBit i = true →
      s.testBit i = true ∨ ∃ e ∈ l,Region.binds .any e = true∧(i = e.on ∨ (M.getD e.on 0).testBit i = true):=by
    intro l
    induction l with
    | nil => intro s h; exact .inl h
    | cons e l ih =>
      intro s h
      simp only [List.foldl_cons] at h
      rcases ih _ h with h1 | ⟨e',h1,h2⟩
      · split at h1
        · rename_i hb
          simp only [Nat.testBit_or,Bool.or_eq_true,Nat.testBit_two_pow,decide_eq_true_eq] at h1
          rcases h1 with (h1 | h1) | h1
          · exact .inl h1
          · exact .inr ⟨e,by simp,hb,.inl h1.symm⟩
          · exact .inr ⟨e,by simp,hb,.inr h1⟩
        · exact .inl h1
      · exact .inr ⟨e',by simp [h1],h2⟩
  rcases key o.after.toList 0 h with h1 | ⟨e,h1,h2⟩
  · simp at h1
  · exact ⟨e,by simpa using h1,h2⟩
def Down (ops : Array Oper) (ℓ : Nat→Bool) : Prop:=∀ j o,ℓ j = true→ops[j]? = some o→∀ e ∈ o.after,Region.binds .any e = true→ℓ e.on = true
theorem mask_listed {ord : List Nat} (hP : ∀ pre j post,ord = pre ++ j :: post→∃ o,Placed ops M pre j o) {ℓ : Nat→Bool} (hd : Down ops ℓ) : ∀ (n : Nat) (pre : List Nat) (j : Nat) (post : List Nat),pre.length = n→ord = pre ++ j :: post→∀ o,ops[j]? = some o →
    (∀ e ∈ o.after,Region.binds .any e = true→ℓ e.on = true)→∀ i,(M.getD j 0).testBit i = true→ℓ i = true:=by
  intro n
  induction n using Nat.strongRecOn with
  | _ n ih =>
    intro pre j post hn e o ho hall i hi
    obtain ⟨o',hp⟩:=hP pre j post e
    have : o' = o:=by have:=hp.op; rw [ho] at this; exact (Option.some.inj this).symm
    subst this
    rw [hp.mask] at hi
    obtain ⟨ed,h1,h2,h3⟩:=edgesMask_bit hi
    have hl:=hall ed h1 h2
    rcases h3 with rfl | h3
    · exact hl
    · have hmem:=hp.edges ed h1 h2
      obtain ⟨pre1,post1,hsplit⟩:=List.append_of_mem hmem
      have e2 : ord = pre1 ++ ed.on :: (post1 ++ j :: post):=by rw [e,hsplit]; simp
      obtain ⟨o2,hp2⟩:=hP pre1 ed.on _ e2
      exact ih pre1.length (by rw [← hn,hsplit]; simp) pre1 ed.on _ rfl e2 o2 hp2.op (fun e' he' hb' => hd ed.on o2 hl hp2.op e' he' hb') i h3
def applyTr (ops : Array Oper) (ℓ : Nat→Bool) (tr : List Met) (t : List AV) : List AV:=tr.foldl (fun t m => if ℓ m.j then putT t (dstOf ops m.j) m.v else t) t
def lookTr (ops : Array Oper) (ℓ : Nat→Bool) (u : Tmp) (tr : List Met) (x : Option AV) : Option AV:=tr.foldl (fun x m => if ℓ m.j = true∧dstOf ops m.j = some u then x.map fun _ => m.v else x) x
theorem putT_get (t : List AV) (dst : Option Tmp) (v : AV) (u : Tmp) : (putT t dst v)[u]? = if dst = some u then (t[u]?).map fun _ => v else t[u]?:=by
  cases dst with
  | none => simp [putT]
  | some d =>
    simp only [putT,List.getElem?_set,Option.some.injEq]
    split
    · rename_i e; subst e
      split
      · rename_i h; simp [h]
      · rename_i h; simp [List.getElem?_eq_none (Nat.le_of_not_lt h)]
    · rfl
theorem applyTr_get (ℓ : Nat→Bool) (u : Tmp) : ∀ (tr : List Met) (t : List AV),(applyTr ops ℓ tr t)[u]? = lookTr ops ℓ u tr (t[u]?)
  | [],t => rfl
  | m :: tr,t => by
    have ih:=applyTr_get ℓ u tr (if ℓ m.j then putT t (dstOf ops m.j) m.v else t)
    simp only [applyTr,lookTr,List.foldl_cons] at ih ⊢
    rw [ih]
    congr 1
    by_cases h1 : ℓ m.j = true
    · simp only [h1,if_true,true_and,putT_get]
    · simp only [h1,false_and,if_false,Bool.false_eq_true]
theorem lookTr_congr {ℓ ℓ' : Nat→Bool} {u : Tmp} : ∀ {tr : List Met} {x : Option AV},(∀ m ∈ tr,dstOf ops m.j = some u→ℓ m.j = ℓ' m.j)→lookTr ops ℓ u tr x = lookTr ops ℓ' u tr x
  | [],x,h => rfl
  | m :: tr,x,h => by
    simp only [lookTr,List.foldl_cons]
    have e : (if ℓ m.j = true∧dstOf ops m.j = some u then x.map fun _ => m.v else x) = (if ℓ' m.j = true∧dstOf ops m.j = some u then x.map fun _ => m.v else x):=by
      by_cases hd : dstOf ops m.j = some u
      · rw [h m (by simp) hd]
      · simp [hd]
    rw [e]
    exact lookTr_congr (fun m' hm' => h m' (by simp [hm']))
theorem lookTr_append (ℓ : Nat→Bool) (u : Tmp) (a b : List Met) (x : Option AV) : lookTr ops ℓ u (a ++ b) x = lookTr ops ℓ u b (lookTr ops ℓ u a x):=by simp [lookTr]
theorem lookTr_none {ℓ : Nat→Bool} {u : Tmp} : ∀ {b : List Met} {x : Option AV},(∀ m ∈ b,dstOf ops m.j = some u→ℓ m.j = false)→lookTr ops ℓ u b x = x
  | [],x,h => rfl
  | m :: b,x,h => by
    simp only [lookTr,List.foldl_cons]
    have e : (if ℓ m.j = true∧dstOf ops m.j = some u then x.map fun _ => m.v else x) = x:=by
      by_cases hd : dstOf ops m.j = some u
      · rw [h m (by simp) hd]; simp
      · simp [hd]
    rw [e]
    exact lookTr_none (fun m' hm' => h m' (by simp [hm']))
inductive Trace (P : Program) (pol : Pol) (rec : Run) (ops : Array Oper) : List Met→List AV→AHeap→List AV→AHeap→Prop
  | nil (t : List AV) (H : AHeap) : Trace P pol rec ops [] t H t H
  | cons {m : Met} {tr : List Met} {o : Oper} {t' : List AV} {H1 H' : AHeap} : ops[m.j]? = some o→doOpV P pol rec ops o m.t m.H = some (m.v,H1)→Trace P pol rec ops tr (putT m.t o.dst m.v) H1 t' H'→Trace P pol rec ops (m :: tr) m.t m.H t' H'
theorem traceOps_spec : ∀ (l : List Nat) {t t' : List AV} {H H' : AHeap} {tr : List Met},traceOps P pol rec ops l t H = some (tr,t',H')→Trace P pol rec ops tr t H t' H'∧tr.map (·.j) = l
  | [],t,t',H,H',tr,h => by
    simp [traceOps] at h
    obtain ⟨rfl,rfl,rfl⟩:=h
    exact ⟨.nil _ _,rfl⟩
  | j :: l,t,t',H,H',tr,h => by
    simp only [traceOps,Option.bind_eq_bind,Option.bind_eq_some_iff] at h
    obtain ⟨o,h1,⟨v,H1⟩,h2,⟨tr1,t1,H2⟩,h3,h4⟩:=h
    simp at h4
    obtain ⟨rfl,rfl,rfl⟩:=h4
    obtain ⟨k1,k2⟩:=traceOps_spec l h3
    exact ⟨.cons (m:=⟨j,v,t,H⟩) h1 h2 k1,by simp [k2]⟩
theorem Trace.split {a : List Met} : ∀ {m : Met} {b : List Met} {t t' : List AV} {H H' : AHeap},Trace P pol rec ops (a ++ m :: b) t H t' H'→∃ o H1,ops[m.j]? = some o∧doOpV P pol rec ops o m.t m.H = some (m.v,H1) ∧
    Trace P pol rec ops a t H m.t m.H∧Trace P pol rec ops b (putT m.t o.dst m.v) H1 t' H':=by
  induction a with
  | nil =>
    intro m b t t' H H' h
    cases h with
    | cons h1 h2 h3 => exact ⟨_,_,h1,h2,.nil _ _,h3⟩
  | cons x a ih =>
    intro m b t t' H H' h
    cases h with
    | cons h1 h2 h3 =>
      obtain ⟨o,H1,g1,g2,g3,g4⟩:=ih h3
      exact ⟨o,H1,g1,g2,.cons h1 h2 g3,g4⟩
theorem Trace.final {tr : List Met} {t t' : List AV} {H H' : AHeap} (h : Trace P pol rec ops tr t H t' H') : t' = applyTr ops (fun _ => true) tr t:=by
  induction h with
  | nil t H => rfl
  | cons h1 h2 h3 ih =>
    rename_i m tr o t' H1 H'
    rw [ih]
    simp only [applyTr,List.foldl_cons,if_true,dstOf,h1,Option.bind_some]
end
end Go.Hem
