import Derived.Test.YtgappelpgocboaaGreatDoorHemB
namespace Go.Hem
structure Gh where
  β : Nat→Option Nat
  fz : Nat→Option Obj
  sz : Nat→Option (Nat × TypeId)
inductive VR (G : Gh) : AV→Value→Prop
  | sc (s : Sc) : VR G (.sc s) s.val
  | ptr {b off c : Nat} : G.β b = some c→VR G (.ptr b off) (.pointer (some ⟨c,off,none⟩))
  | iptr {cs : List AV} {c o : Nat} {cells : Array Value} {elem : TypeId} {fr : Nat × Nat} (vs : Nat→Value) :
      G.fz c = some (.cells cells elem fr)→(∀ j,j < cs.length→cells[o + j]? = some (vs j))→(∀ j,j < cs.length→(vs j).oneCell' = true) →
      (∀ j (h : j < cs.length),VR G (cs[j]) (vs j))→VR G (.iptr cs) (.pointer (some ⟨c,o,none⟩))
  | slice {b off len cap n c cap' : Nat} {s : Nat × TypeId} : G.β b = some c→len ≤ cap→cap ≤ cap'→G.sz c = some s→off + cap' * n ≤ s.1→VR G (.slice b off len cap n) (.slice (some ⟨c,off,none⟩) len cap')
  | immNil {a : Addr} {cap : Nat} : VR G (.imm []) (.slice (some a) 0 cap)
  | imm {l : List AV} {n c o cap : Nat} {cells : Array Value} {elem : TypeId} {fr : Nat × Nat} (vs : Nat→Nat→Value) :
      G.fz c = some (.cells cells elem fr)→(∀ i (h : i < l.length),(l[i]).cells.length = n)→l.length ≤ cap →
      (∀ i j,i < l.length→j < n→cells[o + i * n + j]? = some (vs i j))→(∀ i j,i < l.length→j < n→(vs i j).oneCell' = true) →
      (∀ i (h : i < l.length) j (h' : j < (l[i]).cells.length),VR G ((l[i]).cells[j]) (vs i j))→VR G (.imm l) (.slice (some ⟨c,o,none⟩) l.length cap)
  | agg {cs : List AV} {vs : List Value} : cs.length = vs.length→(∀ i (h : i < cs.length) (h' : i < vs.length),VR G (cs[i]) (vs[i]))→VR G (.agg cs) (.agg vs.toArray)
  | tup {cs : List AV} {vs : List Value} : cs.length = vs.length→(∀ i (h : i < cs.length) (h' : i < vs.length),VR G (cs[i]) (vs[i]))→VR G (.tup cs) (.tuple vs.toArray)
  | func {fn : Fn} {f c : List AV} {f' c' : List Value} : f.length = f'.length→c.length = c'.length →
      (∀ i (h : i < f.length) (h' : i < f'.length),VR G (f[i]) (f'[i]))→(∀ i (h : i < c.length) (h' : i < c'.length),VR G (c[i]) (c'[i])) →
      VR G (.func fn f c) (.func fn f'.toArray c'.toArray)
  | iface {t : TypeId} {v : AV} {v' : Value} : VR G v v'→VR G (.iface t v) (.iface t v')
  | map {b c : Nat} : G.β b = some c→VR G (.map b) (.map (some c))
  | yield {b c : Nat} : G.β b = some c→VR G (.yield b) (.func (.yield c) #[] #[])
  | poison (v : Value) : VR G .poison v
def VRs (G : Gh) (cs : List AV) (vs : List Value) : Prop:=cs.length = vs.length∧∀ i (h : i < cs.length) (h' : i < vs.length),VR G (cs[i]) (vs[i])
structure Ext (G G' : Gh) : Prop where
  β : ∀ b c,G.β b = some c→G'.β b = some c
  fz : ∀ c o,G.fz c = some o→G'.fz c = some o
  sz : ∀ c s,G.sz c = some s→G'.sz c = some s
theorem Ext.refl (G : Gh) : Ext G G:=⟨fun _ _ h => h,fun _ _ h => h,fun _ _ h => h⟩
theorem Ext.trans {a b c : Gh} (h : Ext a b) (k : Ext b c) : Ext a c:=⟨fun x y e => k.β x y (h.β x y e),fun x y e => k.fz x y (h.fz x y e),fun x y e => k.sz x y (h.sz x y e)⟩
theorem VR.mono {G G' : Gh} (e : Ext G G') {a : AV} {v : Value} (h : VR G a v) : VR G' a v:=by
  induction h with
  | sc s => exact .sc s
  | ptr h => exact .ptr (e.β _ _ h)
  | iptr vs h1 h2 h3 _ ih => exact .iptr vs (e.fz _ _ h1) h2 h3 ih
  | slice h h1 h2 h3 h4 => exact .slice (e.β _ _ h) h1 h2 (e.sz _ _ h3) h4
  | immNil => exact .immNil
  | imm vs h1 h2 h3 h4 h5 _ ih => exact .imm vs (e.fz _ _ h1) h2 h3 h4 h5 ih
  | agg h _ ih => exact .agg h ih
  | tup h _ ih => exact .tup h ih
  | func h1 h2 _ _ ih1 ih2 => exact .func h1 h2 ih1 ih2
  | iface _ ih => exact .iface ih
  | map h => exact .map (e.β _ _ h)
  | yield h => exact .yield (e.β _ _ h)
  | poison v => exact .poison v
theorem VRs.mono {G G' : Gh} (e : Ext G G') {a : List AV} {v : List Value} (h : VRs G a v) : VRs G' a v:=⟨h.1,fun i h1 h2 => (h.2 i h1 h2).mono e⟩
theorem VRs.nil {G : Gh} : VRs G [] []:=⟨rfl,fun i h => by simp at h⟩
theorem VRs.cons {G : Gh} {a : AV} {v : Value} {l : List AV} {m : List Value} (h : VR G a v) (t : VRs G l m) : VRs G (a :: l) (v :: m):=by
  refine ⟨by simp [t.1],fun i h1 h2 => ?_⟩
  cases i with
  | zero => simpa using h
  | succ i => simpa using t.2 i (by simpa using h1) (by simpa using h2)
theorem VRs.head {G : Gh} {a : AV} {v : Value} {l : List AV} {m : List Value} (h : VRs G (a :: l) (v :: m)) : VR G a v:=h.2 0 (by simp) (by simp)
theorem VRs.tail {G : Gh} {a : AV} {v : Value} {l : List AV} {m : List Value} (h : VRs G (a :: l) (v :: m)) : VRs G l m :=
  ⟨by simpa using h.1,fun i h1 h2 => h.2 (i + 1) (by simp; omega) (by simp; omega)⟩
theorem VRs.of_cons {G : Gh} {a : AV} {l : List AV} {m : List Value} (h : VRs G (a :: l) m) : ∃ v m',m = v :: m'∧VR G a v∧VRs G l m':=by
  cases m with
  | nil => simp [VRs] at h
  | cons v m' => exact ⟨v,m',rfl,h.head,h.tail⟩
theorem VRs.of_nil {G : Gh} {m : List Value} (h : VRs G [] m) : m = []:=by
  cases m with
  | nil => rfl
  | cons v m' => simp [VRs] at h
theorem VRs.append {G : Gh} {a b : List AV} {v w : List Value} (h : VRs G a v) (k : VRs G b w) : VRs G (a ++ b) (v ++ w):=by
  refine ⟨by simp [h.1,k.1],fun i h1 h2 => ?_⟩
  have e:=h.1
  by_cases hi : i < a.length
  · rw [List.getElem_append_left hi,List.getElem_append_left (by omega)]
    exact h.2 i hi (by omega)
  · rw [List.getElem_append_right (by omega),List.getElem_append_right (by omega)]
    have:=k.2 (i - a.length) (by simp at h1; omega) (by simp at h1; have:=k.1; omega)
    simpa [e] using this
theorem VRs.take {G : Gh} {a : List AV} {v : List Value} (n : Nat) (h : VRs G a v) : VRs G (a.take n) (v.take n):=by
  refine ⟨by simp [h.1],fun i h1 h2 => ?_⟩
  simp only [List.getElem_take]
  exact h.2 i (by simp at h1; omega) (by simp at h2; omega)
theorem VRs.drop {G : Gh} {a : List AV} {v : List Value} (n : Nat) (h : VRs G a v) : VRs G (a.drop n) (v.drop n):=by
  refine ⟨by simp [h.1],fun i h1 h2 => ?_⟩
  simp only [List.getElem_drop]
  exact h.2 (n + i) (by simp at h1; omega) (by simp at h2; omega)
theorem VRs.set {G : Gh} {a : List AV} {v : List Value} {x : AV} {y : Value} (n : Nat) (h : VRs G a v) (k : VR G x y) : VRs G (a.set n x) (v.set n y):=by
  refine ⟨by simp [h.1],fun i h1 h2 => ?_⟩
  simp only [List.getElem_set]
  split
  · exact k
  · exact h.2 i (by simpa using h1) (by simpa using h2)
theorem VRs.get {G : Gh} {a : List AV} {v : List Value} (h : VRs G a v) {i : Nat} {x : AV} (hx : a[i]? = some x) : ∃ y,v[i]? = some y∧VR G x y:=by
  obtain ⟨hi,rfl⟩:=List.getElem?_eq_some_iff.1 hx
  have e:=h.1
  exact ⟨v[i]'(by omega),by simp [show i < v.length by omega],h.2 i hi (by omega)⟩
theorem VRs.len {G : Gh} {a : List AV} {v : List Value} (h : VRs G a v) : a.length = v.length:=h.1
theorem VRs.rep {G : Gh} {a : List AV} {v : List Value} (h : VRs G a v) : ∀ n,VRs G (rep n a) ((List.replicate n v).flatten)
  | 0 => by simpa [Hem.rep] using VRs.nil
  | n + 1 => by simpa [Hem.rep,List.replicate_succ] using h.append (VRs.rep h n)
theorem VR.sc_inv {G : Gh} {s : Sc} {v : Value} (h : VR G (.sc s) v) : v = s.val:=by cases h; rfl
theorem scalar_spec {G : Gh} {a : AV} {v v' : Value} (h : AV.scalar? a = some v) (r : VR G a v') : v' = v:=by
  cases a <;> simp [AV.scalar?] at h
  subst h; exact r.sc_inv
theorem scalars_spec {G : Gh} : ∀ {cs : List AV} {vs vs' : List Value},cs.mapM AV.scalar? = some vs→VRs G cs vs'→vs' = vs
  | [],vs,vs',h,r => by simp at h; subst h; exact r.of_nil
  | a :: cs,vs,vs',h,r => by
    obtain ⟨v,m,rfl,r1,r2⟩:=r.of_cons
    simp only [List.mapM_cons,Option.bind_eq_bind,Option.bind_eq_some_iff,Option.pure_def,Option.some.injEq] at h
    obtain ⟨x,hx,y,hy,rfl⟩:=h
    rw [scalar_spec hx r1,scalars_spec hy r2]
theorem closed_spec {G : Gh} {a : AV} {v v' : Value} (h : AV.closed? a = some v) (r : VR G a v') : v' = v:=by
  cases a <;> simp only [AV.closed?,reduceCtorEq] at h
  case sc s => simp at h; subst h; exact r.sc_inv
  case agg cs =>
    simp only [Option.map_eq_some_iff] at h
    obtain ⟨vs,h1,rfl⟩:=h
    cases r with
    | agg hl hv => rw [scalars_spec h1 ⟨hl,hv⟩]
  case tup cs =>
    simp only [Option.map_eq_some_iff] at h
    obtain ⟨vs,h1,rfl⟩:=h
    cases r with
    | tup hl hv => rw [scalars_spec h1 ⟨hl,hv⟩]
theorem Sc.of_val {v : Value} {s : Sc} (h : Sc.of? v = some s) : s.val = v:=by
  unfold Sc.of? at h
  split at h <;> simp at h <;> subst h <;> rfl
theorem ofCell_spec {G : Gh} {v : Value} {a : AV} (h : AV.ofCell? v = some a) : VR G a v:=by
  simp only [AV.ofCell?,Option.map_eq_some_iff] at h
  obtain ⟨s,h1,rfl⟩:=h
  rw [← Sc.of_val h1]; exact .sc s
theorem ofCells_spec {G : Gh} : ∀ {vs : List Value} {cs : List AV},vs.mapM AV.ofCell? = some cs→VRs G cs vs
  | [],cs,h => by simp at h; subst h; exact VRs.nil
  | v :: vs,cs,h => by
    simp only [List.mapM_cons,Option.bind_eq_bind,Option.bind_eq_some_iff,Option.pure_def,Option.some.injEq] at h
    obtain ⟨x,hx,y,hy,rfl⟩:=h
    exact VRs.cons (ofCell_spec hx) (ofCells_spec hy)
theorem of_spec {G : Gh} {v : Value} {a : AV} (h : AV.of? v = some a) : VR G a v:=by
  unfold AV.of? at h
  split at h
  · rename_i cs
    simp only [Option.map_eq_some_iff] at h
    obtain ⟨x,h1,rfl⟩:=h
    have:=ofCells_spec (G:=G) h1
    have e:=VR.agg this.1 this.2
    simpa using e
  · rename_i cs
    split at h
    · rename_i h0
      simp at h; subst h
      have : cs = #[]:=by simpa using h0
      subst this; exact .sc .undef
    · simp only [Option.map_eq_some_iff] at h
      obtain ⟨x,h1,rfl⟩:=h
      have:=ofCells_spec (G:=G) h1
      have e:=VR.tup this.1 this.2
      simpa using e
  · exact ofCell_spec h
theorem VR.cells {G : Gh} {a : AV} {v : Value} (h : VR G a v) (hs : AV.ones a.cells = true) : VRs G a.cells v.cells.toList:=by
  have one : ∀ {a : AV} {v : Value},VR G a v→VRs G [a] [v]:=fun h => VRs.cons h VRs.nil
  cases h with
  | agg hl hv => exact ⟨hl,hv⟩
  | poison v => simp [AV.ones,AV.one,AV.cells] at hs
  | sc s => cases s <;> exact one (.sc _)
  | ptr h => exact one (.ptr h)
  | iptr vs h1 h2 h3 h4 => exact one (.iptr vs h1 h2 h3 h4)
  | slice h h1 h2 h3 h4 => exact one (.slice h h1 h2 h3 h4)
  | immNil => exact one .immNil
  | imm vs h1 h2 h3 h4 h5 h6 => exact one (.imm vs h1 h2 h3 h4 h5 h6)
  | tup h1 h2 => exact one (.tup h1 h2)
  | func h1 h2 h3 h4 => exact one (.func h1 h2 h3 h4)
  | iface h => exact one (.iface h)
  | map h => exact one (.map h)
  | yield h => exact one (.yield h)
theorem VR.one {G : Gh} {a : AV} {v : Value} (h : VR G a v) (hs : a.one = true) : v.oneCell' = true:=by
  cases h with
  | agg hl hv => simp [AV.one] at hs
  | tup hl hv => simp [AV.one] at hs
  | poison v => simp [AV.one] at hs
  | sc s => cases s <;> first | rfl | simp [AV.one] at hs
  | _ => rfl
theorem VRs.ones {G : Gh} {a : List AV} {v : List Value} (h : VRs G a v) (hs : AV.ones a = true) : ∀ u ∈ v,u.oneCell' = true:=by
  intro u hu
  obtain ⟨i,hi,rfl⟩:=List.mem_iff_getElem.1 hu
  have e:=h.1
  refine (h.2 i (by omega) hi).one ?_
  simp only [AV.ones,List.all_eq_true] at hs
  exact hs _ (List.getElem_mem _)
def LR (G : Gh) (t : List AV) (a : Array Value) : Prop:=VRs G t a.toList
def BR (G : Gh) : Blk→Obj→Prop
  | .cells cs,.cells cells _ fr => fr = (0,0)∧cs.length ≤ cells.size∧∀ j (h : j < cs.length) (h' : j < cells.size),VR G (cs[j]) (cells[j])∧(cells[j]).oneCell' = true
  | .map es,.map entries _ => es.length = entries.size∧∀ i (h : i < es.length) (h' : i < entries.size),VR G (es[i]).1 (entries[i]).key∧VR G (es[i]).2 (entries[i]).val
  | .loop st pe t ps as bo,.loop l => l.state = st∧l.pending = pe∧LR G t l.tmps∧l.params.toList = ps∧l.assign = as∧l.body = bo
  | _,_ => False
theorem BR.mono {G G' : Gh} (e : Ext G G') {x : Blk} {o : Obj} (h : BR G x o) : BR G' x o:=by
  cases x <;> cases o <;> simp only [BR] at h ⊢
  · exact ⟨h.1,h.2.1,fun j a b => ⟨(h.2.2 j a b).1.mono e,(h.2.2 j a b).2⟩⟩
  · exact ⟨h.1,fun j a b => ⟨(h.2 j a b).1.mono e,(h.2 j a b).2.mono e⟩⟩
  · exact ⟨h.1,h.2.1,VRs.mono e h.2.2.1,h.2.2.2⟩
def Obj.plain : Obj→Prop
  | .cells _ _ fr => fr = (0,0)
  | _ => True
def Obj.csize : Obj→Option (Nat × TypeId)
  | .cells c e _ => some (c.size,e)
  | _ => none
def SzIs (T : Nat × TypeId) (s : Option (Nat × TypeId)) : Prop:=∃ n,s = some (n,T.2)∧(T.1 ≠ 0→n = T.1)
structure FrOK (G : Gh) (fr : Fr) : Prop where
  rd : ∀ b cs,frGet fr b = some cs→∃ c cells e,G.β b = some c∧G.fz c = some (.cells cells e (0,0))∧BR G (.cells cs) (.cells cells e (0,0))
  tg : ∀ b T,(b,T) ∈ fr.tg→∃ c,G.β b = some c∧SzIs T (G.sz c)
theorem FrOK.ext {G G' : Gh} {fr fr' : Fr} (h : FrOK G fr) (hx : Ext G G') (e : fr' = fr) : FrOK G' fr':=by
  subst e
  refine ⟨fun b cs hb => ?_,fun b T hb => ?_⟩
  · obtain ⟨c,cells,el,h1,h2,h3⟩:=h.rd b cs hb
    exact ⟨c,cells,el,hx.β _ _ h1,hx.fz _ _ h2,h3.mono hx⟩
  · obtain ⟨c,h1,n,h2,h3⟩:=h.tg b T hb
    exact ⟨c,hx.β _ _ h1,n,hx.sz _ _ h2,h3⟩
structure Sim (B : World) (G : Gh) (H : AHeap) (w : World) : Prop where
  os : w.os = B.os
  tape : w.tape = B.tape
  output : w.output = B.output
  size : B.heap.size ≤ w.heap.size
  base : ∀ c,c < B.heap.size→G.fz c = B.heap[c]?
  fz : ∀ c o,G.fz c = some o→w.heap[c]? = some o
  live : ∀ b x c,H.get b = some x→G.β b = some c→∃ o,w.heap[c]? = some o∧BR G x o
  inj : ∀ b b' x x' c,H.get b = some x→H.get b' = some x'→G.β b = some c→G.β b' = some c→b = b'
  nofz : ∀ b x c,H.get b = some x→G.β b = some c→G.fz c = none
  rng : ∀ b c,G.β b = some c→c < w.heap.size
  plain : ∀ c o,B.heap.size ≤ c→w.heap[c]? = some o→Obj.plain o ∨ G.fz c = some o
  sz : ∀ c o,B.heap.size ≤ c→w.heap[c]? = some o→G.sz c = Obj.csize o
  szr : ∀ c s,G.sz c = some s→c < w.heap.size
  frz : FrOK G H.fr
structure Step (G : Gh) (H : AHeap) (w : World) (G' : Gh) (H' : AHeap) (w' : World) : Prop where
  ext : Ext G G'
  new : ∀ b c,G'.β b = some c→G.β b = some c ∨ (H.next ≤ b∧b < H'.next)
  le : H.next ≤ H'.next
  size : w.heap.size ≤ w'.heap.size
  frame : ∀ c,c < w.heap.size→(∀ b x,H.get b = some x→G.β b ≠ some c)→w'.heap[c]? = w.heap[c]?
  pend : ∀ b x,H.get b = some x→G.β b = none→H'.get b = some x
  img : ∀ b x c,H'.get b = some x→G'.β b = some c→c < w.heap.size→∃ b' x',H.get b' = some x'∧G.β b' = some c
  nfz : ∀ c o,G'.fz c = some o→G.fz c = none→w.heap.size ≤ c ∨ ∃ b x,H.get b = some x∧G.β b = some c
  loops : ∀ (c : Nat) (l : Loop),w.heap[c]? = some (Obj.loop l)→∃ l' : Loop,w'.heap[c]? = some (Obj.loop l')
theorem Step.refl (G : Gh) (H : AHeap) (w : World) : Step G H w G H w :=
  ⟨Ext.refl G,fun _ _ h => .inl h,Nat.le_refl _,Nat.le_refl _,fun _ _ _ => rfl,fun _ _ h _ => h,fun b x c h1 h2 _ => ⟨b,x,h1,h2⟩,fun c o h1 h2 => (by rw [h2] at h1; cases h1),fun _ l h => ⟨l,h⟩⟩
def Clear (G : Gh) (lo hi : Nat) : Prop:=∀ b,lo ≤ b→b < hi→G.β b = none
theorem Step.trans {G G' G'' : Gh} {H H' H'' : AHeap} {w w' w'' : World} (h : Step G H w G' H' w') (k : Step G' H' w' G'' H'' w'') : Step G H w G'' H'' w'':=by
  refine ⟨h.ext.trans k.ext,?_,Nat.le_trans h.le k.le,Nat.le_trans h.size k.size,?_,?_,?_,?_,fun c l hl => let ⟨l',h1⟩:=h.loops c l hl; k.loops c l' h1⟩
  · intro b c hb
    rcases k.new b c hb with h1 | ⟨h1,h2⟩
    · rcases h.new b c h1 with h3 | ⟨h3,h4⟩
      · exact .inl h3
      · exact .inr ⟨h3,Nat.lt_of_lt_of_le h4 k.le⟩
    · exact .inr ⟨Nat.le_trans h.le h1,h2⟩
  · intro c hc hno
    rw [k.frame c (Nat.lt_of_lt_of_le hc h.size) ?_,h.frame c hc hno]
    intro b x hb hβ
    obtain ⟨b',x',h1,h2⟩:=h.img b x c hb hβ hc
    exact hno b' x' h1 h2
  · intro b x hb hn
    have h1:=h.pend b x hb hn
    refine k.pend b x h1 ?_
    cases hg : G'.β b with
    | none => rfl
    | some c =>
      rcases h.new b c hg with h2 | ⟨h2,_⟩
      · rw [hn] at h2; cases h2
      · have:=AHeap.get_lt hb; omega
  · intro b x c hb hβ hc
    obtain ⟨b',x',h1,h2⟩:=k.img b x c hb hβ (Nat.lt_of_lt_of_le hc h.size)
    exact h.img b' x' c h1 h2 hc
  · intro c o h1 h2
    cases hg : G'.fz c with
    | some o' => exact h.nfz c o' hg h2
    | none =>
      rcases k.nfz c o h1 hg with h3 | ⟨b,x,h3,h4⟩
      · exact .inl (Nat.le_trans h.size h3)
      · by_cases hc : c < w.heap.size
        · exact .inr (h.img b x c h3 h4 hc)
        · exact .inl (by omega)
end Go.Hem
