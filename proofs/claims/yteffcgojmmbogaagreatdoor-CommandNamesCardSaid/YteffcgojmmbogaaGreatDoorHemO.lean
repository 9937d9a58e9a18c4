import Derived.Test.YteffcgojmmbogaaGreatDoorHemN
set_option linter.unusedSimpArgs false
set_option linter.unusedVariables false
namespace Go.Hem
theorem sim_fill {B : World} {G : Gh} {H : AHeap} {w w' : World} {x : Blk} {o : Obj} {b : Nat} (hS : Sim B G H w) (hg : H.get b = some x) (hn : G.β b = none) (hp : Push w w' o) (hb : BR G x o) (hpl : Obj.plain o) :
    Sim B (G.at b w.heap.size (Obj.csize o)) H w':=by
  obtain ⟨hsame,hsz,hnew,hold⟩:=hp
  obtain ⟨e1,e2,e3⟩:=hsame.sim hS.os hS.tape hS.output
  have hz0 : G.sz w.heap.size = none:=by
    cases hq : G.sz w.heap.size with
    | none => rfl
    | some s => exact absurd (hS.szr _ _ hq) (by omega)
  have hx : Ext G (G.at b w.heap.size (Obj.csize o)):=Gh.ext_at hn (.inl hz0)
  have hβ : ∀ b',b' ≠ b→(G.at b w.heap.size (Obj.csize o)).β b' = G.β b':=fun b' hb => by simp [Gh.at,hb]
  have hβ' : (G.at b w.heap.size (Obj.csize o)).β b = some w.heap.size:=by simp [Gh.at]
  have hlt : ∀ {c o'},w.heap[c]? = some o'→c < w.heap.size:=fun h => (Array.getElem?_eq_some_iff.1 h).1
  have hlt' : ∀ {c o'},w'.heap[c]? = some o'→c < w'.heap.size:=fun h => (Array.getElem?_eq_some_iff.1 h).1
  refine ⟨e1,e2,e3,by have:=hS.size; omega,hS.base,?_,?_,?_,?_,?_,?_,?_,?_,hS.frz.ext hx rfl⟩
  · intro c o' h
    have h':=hS.fz c o' h
    rw [hold c (hlt h')]; exact h'
  · intro b' y c h1 h2
    by_cases e : b' = b
    · subst e
      rw [hβ'] at h2; cases h2
      rw [hg] at h1; cases h1
      exact ⟨o,hnew,hb.mono hx⟩
    · rw [hβ b' e] at h2
      obtain ⟨o',h4,h5⟩:=hS.live b' y c h1 h2
      exact ⟨o',by rw [hold c (hlt h4)]; exact h4,h5.mono hx⟩
  · intro b1 b2 y y' c h1 h2 h3 h4
    by_cases e : b1 = b <;> by_cases e' : b2 = b
    · rw [e,e']
    · subst e; rw [hβ'] at h3; rw [hβ b2 e'] at h4; cases h3
      exact absurd (hS.rng _ _ h4) (by omega)
    · subst e'; rw [hβ'] at h4; rw [hβ b1 e] at h3; cases h4
      exact absurd (hS.rng _ _ h3) (by omega)
    · rw [hβ b1 e] at h3; rw [hβ b2 e'] at h4
      exact hS.inj b1 b2 y y' c h1 h2 h3 h4
  · intro b' y c h1 h2
    by_cases e : b' = b
    · subst e; rw [hβ'] at h2; cases h2
      cases hf : G.fz w.heap.size with
      | none => exact hf
      | some o' => exact absurd (hlt (hS.fz _ _ hf)) (by omega)
    · rw [hβ b' e] at h2; exact hS.nofz b' y c h1 h2
  · intro b' c h
    by_cases e : b' = b
    · subst e; rw [hβ'] at h; cases h; omega
    · rw [hβ b' e] at h; have:=hS.rng b' c h; omega
  · intro c o' h1 h2
    by_cases e : c = w.heap.size
    · subst e; rw [hnew] at h2; cases h2; exact .inl hpl
    · have : c < w.heap.size:=by have:=hlt' h2; omega
      rw [hold c this] at h2; exact hS.plain c o' h1 h2
  · intro c o' h1 h2
    by_cases e : c = w.heap.size
    · subst e; rw [hnew] at h2; cases h2; simp [Gh.at]
    · have : c < w.heap.size:=by have:=hlt' h2; omega
      rw [hold c this] at h2
      simp only [Gh.at,if_neg e]; exact hS.sz c o' h1 h2
  · intro c s h
    by_cases e : c = w.heap.size
    · subst e; omega
    · simp only [Gh.at,if_neg e] at h; have:=hS.szr c s h; omega
theorem Step.fill {B : World} {G0 G : Gh} {H0 H : AHeap} {w0 w w' : World} {o : Obj} {b : Nat} (hT : Step G0 H0 w0 G H w) (hS : Sim B G H w) (hb0 : H0.next ≤ b) (hb1 : b < H.next) (hn : G.β b = none) (hp : Push w w' o) :
    Step G0 H0 w0 (G.at b w.heap.size (Obj.csize o)) H w':=by
  obtain ⟨hsame,hsz,hnew,hold⟩:=hp
  have hz0 : G.sz w.heap.size = none:=by
    cases hq : G.sz w.heap.size with
    | none => rfl
    | some s => exact absurd (hS.szr _ _ hq) (by omega)
  have hx : Ext G (G.at b w.heap.size (Obj.csize o)):=Gh.ext_at hn (.inl hz0)
  have hβ : ∀ b',b' ≠ b→(G.at b w.heap.size (Obj.csize o)).β b' = G.β b':=fun b' hb => by simp [Gh.at,hb]
  have hβ' : (G.at b w.heap.size (Obj.csize o)).β b = some w.heap.size:=by simp [Gh.at]
  have hs:=hT.size
  refine ⟨hT.ext.trans hx,?_,hT.le,by omega,fun c hc hno => by rw [hold c (by omega)]; exact hT.frame c hc hno,hT.pend,?_,hT.nfz,fun c l h => ?_⟩
  · intro b' c h
    by_cases e : b' = b
    · subst e; exact .inr ⟨hb0,hb1⟩
    · rw [hβ b' e] at h; exact hT.new b' c h
  · intro b' y c h1 h2 h3
    by_cases e : b' = b
    · subst e; rw [hβ'] at h2; cases h2; omega
    · rw [hβ b' e] at h2; exact hT.img b' y c h1 h2 h3
  · obtain ⟨l',h1⟩:=hT.loops c l h
    exact ⟨l',by rw [hold c (Array.getElem?_eq_some_iff.1 h1).1]; exact h1⟩
theorem sim_pend {B : World} {G : Gh} {H : AHeap} {w : World} {x : Blk} (hS : Sim B G H w) (hn : G.β H.next = none) : Sim B G (H.alloc x) w∧Step G H w G (H.alloc x) w:=by
  have getc : ∀ b y c,(H.alloc x).get b = some y→G.β b = some c→H.get b = some y:=fun b y c h hc => by
    by_cases e : b = H.next
    · subst e; rw [hn] at hc; cases hc
    · rw [AHeap.get_alloc_ne H x e] at h; exact h
  constructor
  · exact ⟨hS.os,hS.tape,hS.output,hS.size,hS.base,hS.fz,fun b y c h1 h2 => hS.live b y c (getc b y c h1 h2) h2,fun b b' y y' c h1 h2 h3 h4 => hS.inj b b' y y' c (getc _ _ _ h1 h3) (getc _ _ _ h2 h4) h3 h4,
      fun b y c h1 h2 => hS.nofz b y c (getc _ _ _ h1 h2) h2,hS.rng,hS.plain,hS.sz,hS.szr,hS.frz⟩
  · exact ⟨Ext.refl G,fun _ _ h => .inl h,by simp,Nat.le_refl _,fun _ _ _ => rfl,fun b y h1 _ => by rw [AHeap.get_alloc_lt H x (AHeap.get_lt h1)]; exact h1,fun b y c h1 h2 _ => ⟨b,y,getc b y c h1 h2,h2⟩,
      fun c o h1 h2 => (by rw [h2] at h1; cases h1),fun c l h => ⟨l,h⟩⟩
theorem aev_tmp {t t' : List AV} {i : Nat} (h : t[i]? = t'[i]?) : aev t (.tmp i) = aev t' (.tmp i):=by simp [aev,List.getD,h]
theorem map_congr' {f g : Operand→AV} (l : Array Operand) (h : ∀ x ∈ l,f x = g x) : l.toList.map f = l.toList.map g:=List.map_congr_left fun x hx => h x (by simpa using hx)
theorem aop_congr {P : Program} {t t' : List AV} {H : AHeap} {o : Oper} (h : ∀ x ∈ o.op.operands,aev t x = aev t' x) (hp : plainOp o.op = true) : aop P t H o = aop P t' H o:=by
  have hcl : aclosed P t o = aclosed P t' o:=by
    have h1 : allClosed t o = allClosed t' o:=by
      unfold allClosed
      rw [Bool.eq_iff_iff]
      simp only [Array.all_eq_true_iff_forall_mem]
      constructor
      · intro k x hx; rw [← h x hx]; exact k x hx
      · intro k x hx; rw [h x hx]; exact k x hx
    unfold aclosed
    rw [h1]
    split
    · have : execOp (closedEnv t) o = execOp (closedEnv t') o:=execOp_congr o (fun cs b e => by rw [e] at hp; cases hp) (fun x hx => by simp only [closedEnv,h x hx])
      rw [this]
    · rfl
  unfold aop
  cases ho : o.op <;> simp only [ho,Op.operands] at h <;> simp only [hcl]
  case move x => rw [h x (by simp)]
  case assign x => rw [h x (by simp)]
  case convert s d x => rw [h x (by simp)]
  case pick c a b => rw [h c (by simp),h a (by simp),h b (by simp)]
  case box e x => rw [h x (by simp)]
  case build T parts =>
    have : (parts.toList.map fun p => (p.1,aev t p.2)) = (parts.toList.map fun p => (p.1,aev t' p.2)):=List.map_congr_left fun p hp => by
      rw [h p.2 (by simp; exact ⟨p.1,by simpa using hp⟩)]
    rw [this]
  case buildSlice T len parts =>
    have : (parts.toList.map fun p => (p.1,aev t p.2)) = (parts.toList.map fun p => (p.1,aev t' p.2)):=List.map_congr_left fun p hp => by
      rw [h p.2 (by simp; exact ⟨p.1,by simpa using hp⟩)]
    rw [this]
  case load T x => rw [h x (by simp)]
  case store T a x => rw [h a (by simp),h x (by simp)]
  case nilCheck x => rw [h x (by simp)]
  case makeFunc fn first captured =>
    have h1:=map_congr' (f:=aev t) (g:=aev t') first (fun x hx => h x (by simp [hx]))
    have h2:=map_congr' (f:=aev t) (g:=aev t') captured (fun x hx => h x (by simp [hx]))
    rw [h1,h2]
  case makeSlice T l c => rw [h l (by simp),h c (by simp)]
  case slice T x lo hi mx =>
    have h1:=h x (by simp)
    have hlo : ∀ d,abound t lo d = abound t' lo d:=fun d => by
      cases lo with
      | none => rfl
      | some y => simp only [abound]; rw [h y (by simp)]
    have hhi : ∀ d,abound t hi d = abound t' hi d:=fun d => by
      cases hi with
      | none => rfl
      | some y => simp only [abound]; rw [h y (by simp)]
    have hs : ∀ v,aslice P H T t v lo hi = aslice P H T t' v lo hi:=fun v => by
      unfold aslice
      simp only [hlo,hhi]
    have hs3 : ∀ v,aslice3 P T t v lo hi mx = aslice3 P T t' v lo hi mx:=fun v => by
      have e1 : (hi.bind fun y => asNat (aev t y)) = hi.bind fun y => asNat (aev t' y):=by
        cases hi with
        | none => rfl
        | some y => simp only [Option.bind_some]; rw [h y (by simp)]
      have e2 : (mx.bind fun y => asNat (aev t y)) = mx.bind fun y => asNat (aev t' y):=by
        cases mx with
        | none => rfl
        | some y => simp only [Option.bind_some]; rw [h y (by simp)]
      unfold aslice3
      simp only [hlo,e1,e2]
    rw [h1]
    simp only [hs,hs3]
  case makeMap T r =>
    cases r with
    | none => rfl
    | some y => simp only [Option.map_some]; rw [h y (by simp)]
  case lookup T x ix ok => rw [h x (by simp),h ix (by simp)]
  case mapUpdate T m k x => rw [h m (by simp),h k (by simp),h x (by simp)]
  case fieldAddr s x f => rw [h x (by simp)]
  case field s x f => rw [h x (by simp)]
  case indexAddr T x ix => rw [h x (by simp),h ix (by simp)]
  case extract x ix => rw [h x (by simp)]
  case binOp op T x y yt => rw [h x (by simp),h y (by simp)]
  case call c =>
    simp only [Call.operands] at h
    have hm : c.args.toList.map (aev t) = c.args.toList.map (aev t'):=map_congr' c.args (fun x hx => h x (by simp [hx]))
    cases hc : c.callee with
    | value f =>
      simp only [hc] at h
      dsimp only
      rw [h f (by simp),hm]
    | invoke r m => rfl
    | builtin b => simp only [hm]; cases b <;> rfl
theorem aop_heapless {P : Program} {t : List AV} {H H' : AHeap} {o : Oper} (h : heapless o.op = true) : aop P t H o = aop P t H' o:=by
  unfold aop
  split
  case h_8 ho => exfalso; rw [ho] at h; cases h
  case h_9 ho => exfalso; rw [ho] at h; cases h
  case h_13 ho => exfalso; rw [ho] at h; cases h
  case h_21 ho => exfalso; rw [ho] at h; cases h
  case h_22 ho => exfalso; rw [ho] at h; cases h
  case h_19 c ho =>
    rw [ho] at h
    simp only [heapless] at h
    split
    · rename_i hc; exact absurd h (by rw [hc]; simp)
    · rename_i hc; rfl
    · rename_i hc; exact absurd h (by rw [hc]; simp)
    · rename_i hc; exact absurd h (by rw [hc]; simp)
    · rename_i hc; exact absurd h (by rw [hc]; simp)
    · rfl
  all_goals rfl
def HLe (H H' : AHeap) : Prop:=(∀ b cs,H.cells b = some cs→H'.cells b = some cs)∧(∀ b es,H.map b = some es→H'.map b = some es)∧∀ b cs,H.rd b = some cs→H'.rd b = some cs
theorem map_get {H : AHeap} {b : Nat} {es : List (AV × AV)} (h : H.map b = some es) : H.get b = some (.map es):=by
  unfold AHeap.map at h
  split at h
  · rename_i q; cases h; exact q
  · cases h
theorem HLe.refl (H : AHeap) : HLe H H:=⟨fun _ _ h => h,fun _ _ h => h,fun _ _ h => h⟩
theorem HLe.alloc (H : AHeap) (x : Blk) : HLe H (H.alloc x):=⟨fun b cs h => by
  have:=cells_get h
  have hb:=AHeap.get_lt this
  simp only [AHeap.cells,AHeap.get_alloc_lt H x hb] at h ⊢
  exact h,fun b es h => by
  have:=map_get h
  have hb:=AHeap.get_lt this
  simp only [AHeap.map,AHeap.get_alloc_lt H x hb] at h ⊢
  exact h,fun b cs h => by
  unfold AHeap.rd at h ⊢
  cases hc : H.cells b with
  | some ds =>
    rw [hc] at h; cases h
    have hb:=AHeap.get_lt (cells_get hc)
    have : (H.alloc x).cells b = some cs:=by
      simp only [AHeap.cells,AHeap.get_alloc_lt H x hb] at hc ⊢
      exact hc
    rw [this]; rfl
  | none =>
    rw [hc] at h
    have h : H.frd b = some cs:=by simpa using h
    have h0:=h
    unfold AHeap.frd at h
    split at h
    · rename_i hb
      have : (H.alloc x).cells b = none:=by
        simp only [AHeap.cells,AHeap.get_alloc_lt H x hb] at hc ⊢
        exact hc
      rw [this]
      have e2 : (H.alloc x).frd b = some cs:=by
        unfold AHeap.frd
        rw [if_pos (show b < (H.alloc x).next by rw [AHeap.next_alloc]; omega)]; exact h
      simpa using e2
    · cases h⟩
theorem HLe.trans {a b c : AHeap} (h : HLe a b) (k : HLe b c) : HLe a c:=⟨fun x y e => k.1 x y (h.1 x y e),fun x y e => k.2.1 x y (h.2.1 x y e),fun x y e => k.2.2 x y (h.2.2 x y e)⟩
theorem lookIn_hle {H H' : AHeap} (hle : HLe H H') {g : Bool} {ks : List SK} {z : AV} {ok : Bool} {x k v : AV} (h : lookIn H g ks z ok x k = some v) : lookIn H' g ks z ok x k = some v:=by
  unfold lookIn at h ⊢
  split at h
  · rename_i q; rw [if_pos q]
    split at h
    · exact h
    · simp only [Option.bind_eq_some_iff] at h ⊢
      obtain ⟨es,h1,h2⟩:=h
      exact ⟨es,hle.2.1 _ _ h1,h2⟩
    · cases h
  · cases h
theorem aop_reader {P : Program} {t : List AV} {H H' : AHeap} {o : Oper} {v : AV} (hr : readerKind o.op = true) (hle : HLe H H') (h : aop P t H o = some (.val v)) : aop P t H' o = some (.val v):=by
  unfold aop at h ⊢
  cases ho : o.op <;> rw [ho] at hr <;> first | (simp [readerKind] at hr; done) | skip
  case load T a =>
    simp only [ho,Option.map_eq_some_iff] at h ⊢
    obtain ⟨x,h1,h2⟩:=h
    refine ⟨x,?_,h2⟩
    unfold aload at h1 ⊢
    split at h1
    · simp only [Option.bind_eq_some_iff] at h1 ⊢
      obtain ⟨cs,h3,h4⟩:=h1
      exact ⟨cs,hle.2.2 _ _ h3,h4⟩
    · exact h1
    · cases h1
  case slice T x lo hi mx =>
    simp only [ho] at h
    split at h
    · rename_i s hs
      simp only [hs]; exact h
    · rename_i y hno
      split at h
      · rename_i hm
        simp only [Option.map_eq_some_iff] at h
        obtain ⟨z,h1,h2⟩:=h
        have key : aslice P H' T t (aev t x) lo hi = some z:=by
          unfold aslice at h1 ⊢
          split at h1
          · exact h1
          · exact h1
          · exact h1
          · simp only [Option.bind_eq_bind,Option.bind_eq_some_iff] at h1 ⊢
            obtain ⟨p,g1,n,g2,hh,g3,l,g4,cs,g5,g6⟩:=h1
            exact ⟨p,g1,n,g2,hh,g3,l,g4,cs,hle.1 _ _ g5,g6⟩
          · cases h1
        simp only [key,hm,if_true,Option.map_some,h2]
      · rename_i hm
        simp only [hm,if_false,Bool.false_eq_true]
        exact h
  case lookup T x ix ok =>
    simp only [ho,Option.map_eq_some_iff] at h ⊢
    obtain ⟨u,h1,h2⟩:=h
    refine ⟨u,?_,h2⟩
    simp only [alookup,Option.bind_eq_some_iff] at h1 ⊢
    obtain ⟨m,g1,ks,g2,g,g3,z,g4,g5⟩:=h1
    exact ⟨m,g1,ks,g2,g,g3,z,g4,lookIn_hle hle g5⟩
end Go.Hem
