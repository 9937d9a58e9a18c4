import Derived.Test.YtgappelpgocboaaGreatDoorHemG
set_option linter.unusedSimpArgs false
set_option linter.unusedVariables false
namespace Go.Hem
theorem Same.sim {B w w' : World} (h : Same w w') (a : w.os = B.os) (b : w.tape = B.tape) (c : w.output = B.output) : w'.os = B.os∧w'.tape = B.tape∧w'.output = B.output :=
  ⟨h.os.trans a,h.tape.trans b,h.output.trans c⟩
theorem own_block {B : World} {G : Gh} {H : AHeap} {w : World} (hS : Sim B G H w) {b c : Nat} {x : Blk} (h : H.get b = some x) (hc : G.β b = some c) : B.heap.size ≤ c:=by
  rcases Nat.lt_or_ge c B.heap.size with hlt | hge
  · have h4:=hS.nofz b _ c h hc
    rw [hS.base c hlt] at h4
    simp at h4; omega
  · exact hge
def Gh.at (G : Gh) (b c : Nat) (s : Option (Nat × TypeId)) : Gh :=
  ⟨fun b' => if b' = b then some c else G.β b',G.fz,fun c' => if c' = c then s else G.sz c'⟩
theorem Gh.ext_at {G : Gh} {b c : Nat} {s : Option (Nat × TypeId)} (h : G.β b = none) (hs : G.sz c = none ∨ G.sz c = s) : Ext G (G.at b c s):=by
  refine ⟨fun b' c' h' => ?_,fun c' o h' => h',fun c' s' h' => ?_⟩
  · simp only [Gh.at]
    split
    · rename_i e; subst e; rw [h] at h'; cases h'
    · exact h'
  · simp only [Gh.at]
    split
    · rename_i e; subst e
      rcases hs with hs | hs
      · rw [hs] at h'; cases h'
      · rw [← hs]; exact h'
    · exact h'
theorem sim_push {B : World} {G : Gh} {H : AHeap} {w w' : World} {x : Blk} {o : Obj} (hS : Sim B G H w) (hp : Push w w' o) (hb : BR G x o) (hpl : Obj.plain o) (hn : G.β H.next = none) :
    Sim B (G.at H.next w.heap.size (Obj.csize o)) (H.alloc x) w'∧Step G H w (G.at H.next w.heap.size (Obj.csize o)) (H.alloc x) w':=by
  obtain ⟨hsame,hsz,hnew,hold⟩:=hp
  obtain ⟨e1,e2,e3⟩:=hsame.sim hS.os hS.tape hS.output
  have hz0 : G.sz w.heap.size = none:=by
    cases hq : G.sz w.heap.size with
    | none => rfl
    | some s => exact absurd (hS.szr _ _ hq) (by omega)
  have hx : Ext G (G.at H.next w.heap.size (Obj.csize o)):=Gh.ext_at hn (.inl hz0)
  have hβ : ∀ b,b ≠ H.next→(G.at H.next w.heap.size (Obj.csize o)).β b = G.β b:=fun b hb => by simp [Gh.at,hb]
  have hβ' : (G.at H.next w.heap.size (Obj.csize o)).β H.next = some w.heap.size:=by simp [Gh.at]
  have hlt : ∀ {c o'},w.heap[c]? = some o'→c < w.heap.size:=fun h => (Array.getElem?_eq_some_iff.1 h).1
  have hlt' : ∀ {c o'},w'.heap[c]? = some o'→c < w'.heap.size:=fun h => (Array.getElem?_eq_some_iff.1 h).1
  have getc : ∀ b y,(H.alloc x).get b = some y→(b = H.next∧y = x) ∨ (b ≠ H.next∧H.get b = some y):=fun b y h => by
    by_cases e : b = H.next
    · subst e; rw [AHeap.get_alloc_self] at h; exact .inl ⟨rfl,(Option.some.inj h).symm⟩
    · rw [AHeap.get_alloc_ne H x e] at h; exact .inr ⟨e,h⟩
  constructor
  · refine ⟨e1,e2,e3,by have:=hS.size; omega,hS.base,?_,?_,?_,?_,?_,?_,?_,?_,hS.frz.ext hx rfl⟩
    · intro c o' h
      have h':=hS.fz c o' h
      rw [hold c (hlt h')]; exact h'
    · intro b y c h1 h2
      rcases getc b y h1 with ⟨rfl,rfl⟩ | ⟨hne,h3⟩
      · rw [hβ'] at h2; cases h2
        exact ⟨o,hnew,hb.mono hx⟩
      · rw [hβ b hne] at h2
        obtain ⟨o',h4,h5⟩:=hS.live b y c h3 h2
        exact ⟨o',by rw [hold c (hlt h4)]; exact h4,h5.mono hx⟩
    · intro b b' y y' c h1 h2 h3 h4
      rcases getc b y h1 with ⟨rfl,rfl⟩ | ⟨hne,h5⟩ <;> rcases getc b' y' h2 with ⟨rfl,rfl⟩ | ⟨hne',h6⟩
      · rfl
      · rw [hβ'] at h3; rw [hβ b' hne'] at h4; cases h3
        exact absurd (hS.rng _ _ h4) (by omega)
      · rw [hβ'] at h4; rw [hβ b hne] at h3; cases h4
        exact absurd (hS.rng _ _ h3) (by omega)
      · rw [hβ b hne] at h3; rw [hβ b' hne'] at h4
        exact hS.inj b b' y y' c h5 h6 h3 h4
    · intro b y c h1 h2
      rcases getc b y h1 with ⟨rfl,rfl⟩ | ⟨hne,h3⟩
      · rw [hβ'] at h2; cases h2
        cases hf : G.fz w.heap.size with
        | none => exact hf
        | some o' => exact absurd (hlt (hS.fz _ _ hf)) (by omega)
      · rw [hβ b hne] at h2; exact hS.nofz b y c h3 h2
    · intro b c h
      by_cases e : b = H.next
      · subst e; rw [hβ'] at h; cases h; omega
      · rw [hβ b e] at h; have:=hS.rng b c h; omega
    · intro c o' h1 h2
      by_cases e : c = w.heap.size
      · subst e; rw [hnew] at h2; cases h2; exact .inl hpl
      · have : c < w.heap.size:=by have:=hlt' h2; rw [hsz] at this; omega
        rw [hold c this] at h2; exact hS.plain c o' h1 h2
    · intro c o' h1 h2
      by_cases e : c = w.heap.size
      · subst e; rw [hnew] at h2; cases h2; simp [Gh.at]
      · have : c < w.heap.size:=by have:=hlt' h2; rw [hsz] at this; omega
        rw [hold c this] at h2
        simp only [Gh.at,if_neg e]; exact hS.sz c o' h1 h2
    · intro c s h
      by_cases e : c = w.heap.size
      · subst e; omega
      · simp only [Gh.at,if_neg e] at h; have:=hS.szr c s h; omega
  · refine ⟨hx,?_,by simp,by omega,fun c hc _ => hold c hc,?_,?_,fun c o' h1 h2 => (by simp only [Gh.at] at h1; rw [h1] at h2; cases h2),fun c l h => ⟨l,by rw [hold c (hlt h)]; exact h⟩⟩
    · intro b c h
      by_cases e : b = H.next
      · exact .inr ⟨by omega,by simp; omega⟩
      · rw [hβ b e] at h; exact .inl h
    · intro b y h1 h2
      rw [AHeap.get_alloc_lt H x (AHeap.get_lt h1)]; exact h1
    · intro b y c h1 h2 h3
      rcases getc b y h1 with ⟨rfl,rfl⟩ | ⟨hne,h4⟩
      · rw [hβ'] at h2; cases h2; omega
      · rw [hβ b hne] at h2; exact ⟨b,y,h4,h2⟩
def Gh.fzAt (G : Gh) (c : Nat) (o : Obj) : Gh :=
  ⟨G.β,fun c' => if c' = c then some o else G.fz c',fun c' => if c' = c then Obj.csize o else G.sz c'⟩
theorem sim_pushF {B : World} {G : Gh} {H : AHeap} {w w' : World} {o : Obj} (hS : Sim B G H w) (hp : Push w w' o) :
    Sim B (G.fzAt w.heap.size o) H w'∧Step G H w (G.fzAt w.heap.size o) H w':=by
  obtain ⟨hsame,hsz,hnew,hold⟩:=hp
  obtain ⟨e1,e2,e3⟩:=hsame.sim hS.os hS.tape hS.output
  have hlt : ∀ {c o'},w.heap[c]? = some o'→c < w.heap.size:=fun h => (Array.getElem?_eq_some_iff.1 h).1
  have hlt' : ∀ {c o'},w'.heap[c]? = some o'→c < w'.heap.size:=fun h => (Array.getElem?_eq_some_iff.1 h).1
  have hfz : ∀ {c o'},G.fz c = some o'→c ≠ w.heap.size:=fun h e => by subst e; exact absurd (hlt (hS.fz _ _ h)) (by omega)
  have hsz' : ∀ {c s},G.sz c = some s→c ≠ w.heap.size:=fun h e => by subst e; exact absurd (hS.szr _ _ h) (by omega)
  have hx : Ext G (G.fzAt w.heap.size o):=⟨fun _ _ h => h,fun c o' h => by simp only [Gh.fzAt,if_neg (hfz h)]; exact h,fun c s h => by simp only [Gh.fzAt,if_neg (hsz' h)]; exact h⟩
  constructor
  · refine ⟨e1,e2,e3,by have:=hS.size; omega,?_,?_,?_,hS.inj,?_,?_,?_,?_,?_,hS.frz.ext hx rfl⟩
    · intro c hc
      have:=hS.size
      simp only [Gh.fzAt,if_neg (show c ≠ w.heap.size by omega)]; exact hS.base c hc
    · intro c o' h
      by_cases e : c = w.heap.size
      · subst e; simp only [Gh.fzAt,if_true,Option.some.injEq] at h; subst h; exact hnew
      · simp only [Gh.fzAt,if_neg e] at h
        have h':=hS.fz c o' h
        rw [hold c (hlt h')]; exact h'
    · intro b y c h1 h2
      obtain ⟨o',h4,h5⟩:=hS.live b y c h1 h2
      exact ⟨o',by rw [hold c (hlt h4)]; exact h4,h5.mono hx⟩
    · intro b y c h1 h2
      have:=hS.rng b c h2
      simp only [Gh.fzAt,if_neg (show c ≠ w.heap.size by omega)]; exact hS.nofz b y c h1 h2
    · intro b c h
      have:=hS.rng b c h; omega
    · intro c o' h1 h2
      by_cases e : c = w.heap.size
      · subst e; rw [hnew] at h2; cases h2; exact .inr (by simp [Gh.fzAt])
      · have : c < w.heap.size:=by have:=hlt' h2; rw [hsz] at this; omega
        rw [hold c this] at h2; exact (hS.plain c o' h1 h2).imp_right (hx.fz _ _)
    · intro c o' h1 h2
      by_cases e : c = w.heap.size
      · subst e; rw [hnew] at h2; cases h2; simp [Gh.fzAt]
      · have : c < w.heap.size:=by have:=hlt' h2; rw [hsz] at this; omega
        rw [hold c this] at h2
        simp only [Gh.fzAt,if_neg e]; exact hS.sz c o' h1 h2
    · intro c s h
      by_cases e : c = w.heap.size
      · subst e; omega
      · simp only [Gh.fzAt,if_neg e] at h; have:=hS.szr c s h; omega
  · refine ⟨hx,fun _ _ h => .inl h,Nat.le_refl _,by omega,fun c hc _ => hold c hc,fun _ _ h _ => h,fun b y c h1 h2 _ => ⟨b,y,h1,h2⟩,?_,fun c l h => ⟨l,by rw [hold c (hlt h)]; exact h⟩⟩
    intro c o' h1 h2
    by_cases e : c = w.heap.size
    · exact .inl (by omega)
    · simp only [Gh.fzAt,if_neg e] at h1; rw [h1] at h2; cases h2
theorem sim_at {B : World} {G : Gh} {H : AHeap} {w w' : World} {x y : Blk} {o : Obj} {b c : Nat} (hS : Sim B G H w) (hg : H.get b = some y) (hc : G.β b = some c) (hp : At w w' c o)
    (hcs : (w.heap[c]?).bind Obj.csize = Obj.csize o) (hb : BR G x o) (hpl : Obj.plain o) (hloop : ∀ l,w.heap[c]? = some (Obj.loop l)→∃ l',o = Obj.loop l') :
    Sim B G (H.put b (some x)) w'∧Step G H w G (H.put b (some x)) w':=by
  obtain ⟨hsame,hsz,hnew,hold⟩:=hp
  obtain ⟨e1,e2,e3⟩:=hsame.sim hS.os hS.tape hS.output
  have hnf:=hS.nofz b y c hg hc
  have getc : ∀ b' z,(H.put b (some x)).get b' = some z→(b' = b∧z = x) ∨ (b' ≠ b∧H.get b' = some z):=fun b' z h => by
    by_cases e : b' = b
    · subst e; rw [AHeap.get_put_self _ hg] at h; exact .inl ⟨rfl,(Option.some.inj h).symm⟩
    · rw [AHeap.get_put_ne H _ e] at h; exact .inr ⟨e,h⟩
  constructor
  · refine ⟨e1,e2,e3,by have:=hS.size; omega,hS.base,?_,?_,?_,?_,?_,?_,?_,?_,hS.frz.ext (Ext.refl G) (AHeap.fr_put H b _)⟩
    · intro c' o' h
      have hne : c' ≠ c:=fun e => by subst e; rw [hnf] at h; cases h
      rw [hold c' hne]; exact hS.fz c' o' h
    · intro b' z c' h1 h2
      rcases getc b' z h1 with ⟨rfl,rfl⟩ | ⟨hne,h3⟩
      · rw [hc] at h2; cases h2; exact ⟨o,hnew,hb⟩
      · obtain ⟨o',h4,h5⟩:=hS.live b' z c' h3 h2
        have hne' : c' ≠ c:=fun e => by subst e; exact hne (hS.inj b' b z y c' h3 hg h2 hc)
        exact ⟨o',by rw [hold c' hne']; exact h4,h5⟩
    · intro b1 b2 z1 z2 c' h1 h2 h3 h4
      rcases getc b1 z1 h1 with ⟨rfl,rfl⟩ | ⟨hne,h5⟩ <;> rcases getc b2 z2 h2 with ⟨rfl,rfl⟩ | ⟨hne',h6⟩
      · rfl
      · exact hS.inj _ _ y z2 c' hg h6 h3 h4
      · exact hS.inj _ _ z1 y c' h5 hg h3 h4
      · exact hS.inj _ _ z1 z2 c' h5 h6 h3 h4
    · intro b' z c' h1 h2
      rcases getc b' z h1 with ⟨rfl,rfl⟩ | ⟨hne,h3⟩
      · exact hS.nofz _ y c' hg h2
      · exact hS.nofz b' z c' h3 h2
    · intro b' c' h; rw [hsz]; exact hS.rng b' c' h
    · intro c' o' h1 h2
      by_cases e : c' = c
      · subst e; rw [hnew] at h2; cases h2; exact .inl hpl
      · rw [hold c' e] at h2; exact hS.plain c' o' h1 h2
    · intro c' o' h1 h2
      by_cases e : c' = c
      · subst e; rw [hnew] at h2; cases h2
        obtain ⟨oc,ho,_⟩:=hS.live b y c' hg hc
        rw [← hcs,ho]; exact hS.sz c' oc h1 ho
      · rw [hold c' e] at h2; exact hS.sz c' o' h1 h2
    · intro c' s h; rw [hsz]; exact hS.szr c' s h
  · refine ⟨Ext.refl G,fun _ _ h => .inl h,by simp,by omega,?_,?_,?_,fun c' o' h1 h2 => (by rw [h2] at h1; cases h1),?_⟩
    · intro c' hc' hno
      have hne : c' ≠ c:=fun e => by subst e; exact hno b y hg hc
      exact hold c' hne
    · intro b' z h1 h2
      have hne : b' ≠ b:=fun e => by subst e; rw [hc] at h2; cases h2
      rw [AHeap.get_put_ne H _ hne]; exact h1
    · intro b' z c' h1 h2 h3
      rcases getc b' z h1 with ⟨rfl,rfl⟩ | ⟨hne,h4⟩
      · exact ⟨_,y,hg,h2⟩
      · exact ⟨b',z,h4,h2⟩
    · intro c' l h
      by_cases e : c' = c
      · subst e
        obtain ⟨l',rfl⟩:=hloop l h
        exact ⟨l',hnew⟩
      · exact ⟨l,by rw [hold c' e]; exact h⟩
theorem sim_drop {B : World} {G : Gh} {H : AHeap} {w : World} {y : Blk} {b : Nat} (hS : Sim B G H w) (hg : H.get b = some y) : Sim B G (H.put b none) w:=by
  have getc : ∀ b' z,(H.put b none).get b' = some z→H.get b' = some z:=fun b' z h => by
    by_cases e : b' = b
    · subst e; rw [AHeap.get_put_self _ hg] at h; cases h
    · rw [AHeap.get_put_ne H _ e] at h; exact h
  exact ⟨hS.os,hS.tape,hS.output,hS.size,hS.base,hS.fz,fun b' z c h1 h2 => hS.live b' z c (getc b' z h1) h2,
    fun b1 b2 z1 z2 c h1 h2 h3 h4 => hS.inj b1 b2 z1 z2 c (getc _ _ h1) (getc _ _ h2) h3 h4,fun b' z c h1 h2 => hS.nofz b' z c (getc _ _ h1) h2,hS.rng,hS.plain,hS.sz,hS.szr,hS.frz.ext (Ext.refl G) (AHeap.fr_put H b _)⟩
theorem step_drop {G : Gh} {H : AHeap} {w : World} {y : Blk} {b c : Nat} (hg : H.get b = some y) (hc : G.β b = some c) : Step G H w G (H.put b none) w:=by
  refine ⟨Ext.refl G,fun _ _ h => .inl h,by simp,Nat.le_refl _,fun _ _ _ => rfl,?_,?_,fun c' o' h1 h2 => (by rw [h2] at h1; cases h1),fun c l h => ⟨l,h⟩⟩
  · intro b' z h1 h2
    have hne : b' ≠ b:=fun e => by subst e; rw [hc] at h2; cases h2
    rw [AHeap.get_put_ne H _ hne]; exact h1
  · intro b' z c' h1 h2 h3
    by_cases e : b' = b
    · subst e; exact ⟨_,y,hg,h2⟩
    · rw [AHeap.get_put_ne H _ e] at h1; exact ⟨b',z,h1,h2⟩
theorem sim_rename {B : World} {G : Gh} {H : AHeap} {w w' : World} {x y : Blk} {o : Obj} {b c : Nat} (hS : Sim B G H w) (hg : H.get b = some y) (hc : G.β b = some c) (hp : At w w' c o)
    (hcs : (w.heap[c]?).bind Obj.csize = Obj.csize o) (hb : BR G x o) (hpl : Obj.plain o) (hloop : ∀ l,w.heap[c]? = some (Obj.loop l)→∃ l',o = Obj.loop l') (hn : G.β H.next = none) :
    Sim B (G.at H.next c (Obj.csize o)) ((H.put b none).alloc x) w'∧Step G H w (G.at H.next c (Obj.csize o)) ((H.put b none).alloc x) w':=by
  obtain ⟨oc,hoc,_⟩:=hS.live b y c hg hc
  have hge:=own_block hS hg hc
  have hszc : G.sz c = Obj.csize o:=by rw [hS.sz c oc hge hoc,← hcs,hoc]; rfl
  have hx : Ext G (G.at H.next c (Obj.csize o)):=Gh.ext_at hn (.inr hszc)
  have hszeq : ∀ c',(G.at H.next c (Obj.csize o)).sz c' = G.sz c':=fun c' => by
    simp only [Gh.at]; split
    · rename_i e; subst e; exact hszc.symm
    · rfl
  obtain ⟨hsame,hsz,hnew,hold⟩:=hp
  obtain ⟨e1,e2,e3⟩:=hsame.sim hS.os hS.tape hS.output
  have hnf:=hS.nofz b y c hg hc
  have hbn : b ≠ H.next:=fun e => by have:=AHeap.get_lt hg; omega
  have hβ : ∀ b',b' ≠ H.next→(G.at H.next c (Obj.csize o)).β b' = G.β b':=fun b' hb => by simp [Gh.at,hb]
  have hβ' : (G.at H.next c (Obj.csize o)).β H.next = some c:=by simp [Gh.at]
  have getc : ∀ b' z,((H.put b none).alloc x).get b' = some z→(b' = H.next∧z = x) ∨ (b' ≠ H.next∧b' ≠ b∧H.get b' = some z):=fun b' z h => by
    by_cases e : b' = H.next
    · subst e
      have : (H.put b none).next = H.next:=AHeap.next_put H b none
      rw [← this,AHeap.get_alloc_self] at h; exact .inl ⟨rfl,(Option.some.inj h).symm⟩
    · rw [AHeap.get_alloc_ne _ x (by simpa using e)] at h
      by_cases e' : b' = b
      · subst e'; rw [AHeap.get_put_self _ hg] at h; cases h
      · rw [AHeap.get_put_ne H _ e'] at h; exact .inr ⟨e,e',h⟩
  constructor
  · refine ⟨e1,e2,e3,by have:=hS.size; omega,hS.base,?_,?_,?_,?_,?_,?_,?_,?_,hS.frz.ext hx (AHeap.fr_put H b _)⟩
    · intro c' o' h
      have hne : c' ≠ c:=fun e => by subst e; simp only [Gh.at] at h; rw [hnf] at h; cases h
      rw [hold c' hne]; exact hS.fz c' o' h
    · intro b' z c' h1 h2
      rcases getc b' z h1 with ⟨rfl,rfl⟩ | ⟨hne,hne2,h3⟩
      · rw [hβ'] at h2; cases h2; exact ⟨o,hnew,hb.mono hx⟩
      · rw [hβ b' hne] at h2
        obtain ⟨o',h4,h5⟩:=hS.live b' z c' h3 h2
        have hne' : c' ≠ c:=fun e => by subst e; exact hne2 (hS.inj b' b z y c' h3 hg h2 hc)
        exact ⟨o',by rw [hold c' hne']; exact h4,h5.mono hx⟩
    · intro b1 b2 z1 z2 c' h1 h2 h3 h4
      rcases getc b1 z1 h1 with ⟨rfl,rfl⟩ | ⟨hne,hne2,h5⟩ <;> rcases getc b2 z2 h2 with ⟨rfl,rfl⟩ | ⟨hne',hne2',h6⟩
      · rfl
      · rw [hβ'] at h3; cases h3; rw [hβ b2 hne'] at h4
        exact absurd (hS.inj b2 b z2 y _ h6 hg h4 hc) hne2'
      · rw [hβ'] at h4; cases h4; rw [hβ b1 hne] at h3
        exact absurd (hS.inj b1 b z1 y _ h5 hg h3 hc) hne2
      · rw [hβ b1 hne] at h3; rw [hβ b2 hne'] at h4
        exact hS.inj _ _ z1 z2 c' h5 h6 h3 h4
    · intro b' z c' h1 h2
      rcases getc b' z h1 with ⟨rfl,rfl⟩ | ⟨hne,hne2,h3⟩
      · rw [hβ'] at h2; cases h2; exact hnf
      · rw [hβ b' hne] at h2; exact hS.nofz b' z c' h3 h2
    · intro b' c' h
      by_cases e : b' = H.next
      · subst e; rw [hβ'] at h; cases h; rw [hsz]; exact hS.rng _ _ hc
      · rw [hβ b' e] at h; rw [hsz]; exact hS.rng b' c' h
    · intro c' o' h1 h2
      by_cases e : c' = c
      · subst e; rw [hnew] at h2; cases h2; exact .inl hpl
      · rw [hold c' e] at h2; exact hS.plain c' o' h1 h2
    · intro c' o' h1 h2
      rw [hszeq]
      by_cases e : c' = c
      · subst e; rw [hnew] at h2; cases h2; exact hszc
      · rw [hold c' e] at h2; exact hS.sz c' o' h1 h2
    · intro c' s h; rw [hszeq] at h; rw [hsz]; exact hS.szr c' s h
  · refine ⟨hx,?_,by simp,by omega,?_,?_,?_,fun c' o' h1 h2 => (by simp only [Gh.at] at h1; rw [h1] at h2; cases h2),?_⟩
    · intro b' c' h
      by_cases e : b' = H.next
      · exact .inr ⟨by omega,by simp; omega⟩
      · rw [hβ b' e] at h; exact .inl h
    · intro c' hc' hno
      have hne : c' ≠ c:=fun e => by subst e; exact hno b y hg hc
      exact hold c' hne
    · intro b' z h1 h2
      have hne : b' ≠ b:=fun e => by subst e; rw [hc] at h2; cases h2
      have hne' : b' ≠ H.next:=fun e => by have:=AHeap.get_lt h1; omega
      rw [AHeap.get_alloc_ne _ x (by simpa using hne'),AHeap.get_put_ne H _ hne]; exact h1
    · intro b' z c' h1 h2 h3
      rcases getc b' z h1 with ⟨rfl,rfl⟩ | ⟨hne,hne2,h4⟩
      · rw [hβ'] at h2; cases h2; exact ⟨b,y,hg,hc⟩
      · rw [hβ b' hne] at h2; exact ⟨b',z,h4,h2⟩
    · intro c' l h
      by_cases e : c' = c
      · subst e
        obtain ⟨l',rfl⟩:=hloop l h
        exact ⟨l',hnew⟩
      · exact ⟨l,by rw [hold c' e]; exact h⟩
end Go.Hem
