/- Joined. -/
import Derived.Test.YtldflacehmpjkaaGreatDoorHemB
import Derived.Laws.AppendOwn
namespace Go.Hem
structure Gh where
  β : Nat→Option Nat
  fz : Nat→Option Obj
  sz : Nat→Option (Nat × TypeId)
  sym : Int:=0
inductive VR (G : Gh) : AV→Value→Prop
  | sc (s : Sc) : VR G (.sc s) s.val
  | ptr {b off c : Nat} : G.β b = some c→VR G (.ptr b off) (.pointer (some ⟨c,off,none⟩))
  | iptr {cs : List AV} {c o : Nat} {cells : Array Value} {elem : TypeId} {fr : Nat × Nat} (vs : Nat→Value) :
      G.fz c = some (.cells cells elem fr)→(∀ j,j < cs.length→cells[o + j]? = some (vs j))→(∀ j,j < cs.length→(vs j).oneCell' = true) →
      (∀ j (h : j < cs.length),VR G (cs[j]) (vs j))→VR G (.iptr cs) (.pointer (some ⟨c,o,none⟩))
  | slice {b off len cap n c cap' : Nat} {s : Nat × TypeId} : G.β b = some c→len ≤ cap→cap ≤ cap'→G.sz c = some s→off + cap' * n ≤ s.1→VR G (.slice b off len cap n) (.slice (some ⟨c,off,none⟩) len cap')
  | immNil {a : Addr} {cap : Nat} : VR G (.imm []) (.slice (some a) 0 cap)
  | imm {l : List AV} {n c o cap : Nat} {cells : Array Value} {elem : TypeId} {fr : Nat × Nat} (vs : Nat→Nat→Value) :
      G.fz c = some (.cells cells elem fr)→(∀ i (h : i < l.length),(l[i]).cells.length = n)→l.length ≤ cap →
      (∀ i j,i < l.length→j < n→cells[o + i * n + j]? = some (vs i j))→(∀ i j,i < l.length→j < n→(vs i j).oneCell' = true) →
      (∀ i (h : i < l.length) j (h' : j < (l[i]).cells.length),VR G ((l[i]).cells[j]) (vs i j))→VR G (.imm l) (.slice (some ⟨c,o,none⟩) l.length cap)
  | agg {cs : List AV} {vs : List Value} : cs.length = vs.length→(∀ i (h : i < cs.length) (h' : i < vs.length),VR G (cs[i]) (vs[i]))→VR G (.agg cs) (.agg vs.toArray)
  | tup {cs : List AV} {vs : List Value} : cs.length = vs.length→(∀ i (h : i < cs.length) (h' : i < vs.length),VR G (cs[i]) (vs[i]))→VR G (.tup cs) (.tuple vs.toArray)
  | func {fn : Fn} {f c : List AV} {f' c' : List Value} : f.length = f'.length→c.length = c'.length →
      (∀ i (h : i < f.length) (h' : i < f'.length),VR G (f[i]) (f'[i]))→(∀ i (h : i < c.length) (h' : i < c'.length),VR G (c[i]) (c'[i])) →
      VR G (.func fn f c) (.func fn f'.toArray c'.toArray)
  | iface {t : TypeId} {v : AV} {v' : Value} : VR G v v'→VR G (.iface t v) (.iface t v')
  | map {b c : Nat} : G.β b = some c→VR G (.map b) (.map (some c))
  | yield {b c : Nat} : G.β b = some c→VR G (.yield b) (.func (.yield c) #[] #[])
  | poison (v : Value) : VR G .poison v
  | sym : 0 ≤ G.sym→G.sym ≤ 99→VR G .sym (.int .i64 G.sym)
def VRs (G : Gh) (cs : List AV) (vs : List Value) : Prop:=cs.length = vs.length∧∀ i (h : i < cs.length) (h' : i < vs.length),VR G (cs[i]) (vs[i])
structure Ext (G G' : Gh) : Prop where
  β : ∀ b c,G.β b = some c→G'.β b = some c
  fz : ∀ c o,G.fz c = some o→G'.fz c = some o
  sz : ∀ c s,G.sz c = some s→G'.sz c = some s
  sym : G'.sym = G.sym
theorem Ext.refl (G : Gh) : Ext G G:=⟨fun _ _ h => h,fun _ _ h => h,fun _ _ h => h,rfl⟩
theorem Ext.trans {a b c : Gh} (h : Ext a b) (k : Ext b c) : Ext a c:=⟨fun x y e => k.β x y (h.β x y e),fun x y e => k.fz x y (h.fz x y e),fun x y e => k.sz x y (h.sz x y e),k.sym.trans h.sym⟩
theorem VR.mono {G G' : Gh} (e : Ext G G') {a : AV} {v : Value} (h : VR G a v) : VR G' a v:=by
  induction h with
  | sc s => exact .sc s
  | ptr h => exact .ptr (e.β _ _ h)
  | iptr vs h1 h2 h3 _ ih => exact .iptr vs (e.fz _ _ h1) h2 h3 ih
  | slice h h1 h2 h3 h4 => exact .slice (e.β _ _ h) h1 h2 (e.sz _ _ h3) h4
  | immNil => exact .immNil
  | imm vs h1 h2 h3 h4 h5 _ ih => exact .imm vs (e.fz _ _ h1) h2 h3 h4 h5 ih
  | agg h _ ih => exact .agg h ih
  | tup h _ ih => exact .tup h ih
  | func h1 h2 _ _ ih1 ih2 => exact .func h1 h2 ih1 ih2
  | iface _ ih => exact .iface ih
  | map h => exact .map (e.β _ _ h)
  | yield h => exact .yield (e.β _ _ h)
  | poison v => exact .poison v
  | sym h1 h2 => rw [← e.sym] at h1 h2 ⊢; exact .sym h1 h2
theorem VRs.mono {G G' : Gh} (e : Ext G G') {a : List AV} {v : List Value} (h : VRs G a v) : VRs G' a v:=⟨h.1,fun i h1 h2 => (h.2 i h1 h2).mono e⟩
theorem VRs.nil {G : Gh} : VRs G [] []:=⟨rfl,fun i h => by simp at h⟩
theorem VRs.cons {G : Gh} {a : AV} {v : Value} {l : List AV} {m : List Value} (h : VR G a v) (t : VRs G l m) : VRs G (a :: l) (v :: m):=by
  refine ⟨by simp [t.1],fun i h1 h2 => ?_⟩
  cases i with
  | zero => simpa using h
  | succ i => simpa using t.2 i (by simpa using h1) (by simpa using h2)
theorem VRs.head {G : Gh} {a : AV} {v : Value} {l : List AV} {m : List Value} (h : VRs G (a :: l) (v :: m)) : VR G a v:=h.2 0 (by simp) (by simp)
theorem VRs.tail {G : Gh} {a : AV} {v : Value} {l : List AV} {m : List Value} (h : VRs G (a :: l) (v :: m)) : VRs G l m :=
  ⟨by simpa using h.1,fun i h1 h2 => h.2 (i + 1) (by simp; omega) (by simp; omega)⟩
theorem VRs.of_cons {G : Gh} {a : AV} {l : List AV} {m : List Value} (h : VRs G (a :: l) m) : ∃ v m',m = v :: m'∧VR G a v∧VRs G l m':=by
  cases m with
  | nil => simp [VRs] at h
  | cons v m' => exact ⟨v,m',rfl,h.head,h.tail⟩
theorem VRs.of_nil {G : Gh} {m : List Value} (h : VRs G [] m) : m = []:=by
  cases m with
  | nil => rfl
  | cons v m' => simp [VRs] at h
theorem VRs.append {G : Gh} {a b : List AV} {v w : List Value} (h : VRs G a v) (k : VRs G b w) : VRs G (a ++ b) (v ++ w):=by
  refine ⟨by simp [h.1,k.1],fun i h1 h2 => ?_⟩
  have e:=h.1
  by_cases hi : i < a.length
  · rw [List.getElem_append_left hi,List.getElem_append_left (by omega)]
    exact h.2 i hi (by omega)
  · rw [List.getElem_append_right (by omega),List.getElem_append_right (by omega)]
    have:=k.2 (i - a.length) (by simp at h1; omega) (by simp at h1; have:=k.1; omega)
    simpa [e] using this
theorem VRs.take {G : Gh} {a : List AV} {v : List Value} (n : Nat) (h : VRs G a v) : VRs G (a.take n) (v.take n):=by
  refine ⟨by simp [h.1],fun i h1 h2 => ?_⟩
  simp only [List.getElem_take]
  exact h.2 i (by simp at h1; omega) (by simp at h2; omega)
theorem VRs.drop {G : Gh} {a : List AV} {v : List Value} (n : Nat) (h : VRs G a v) : VRs G (a.drop n) (v.drop n):=by
  refine ⟨by simp [h.1],fun i h1 h2 => ?_⟩
  simp only [List.getElem_drop]
  exact h.2 (n + i) (by simp at h1; omega) (by simp at h2; omega)
theorem VRs.set {G : Gh} {a : List AV} {v : List Value} {x : AV} {y : Value} (n : Nat) (h : VRs G a v) (k : VR G x y) : VRs G (a.set n x) (v.set n y):=by
  refine ⟨by simp [h.1],fun i h1 h2 => ?_⟩
  simp only [List.getElem_set]
  split
  · exact k
  · exact h.2 i (by simpa using h1) (by simpa using h2)
theorem VRs.get {G : Gh} {a : List AV} {v : List Value} (h : VRs G a v) {i : Nat} {x : AV} (hx : a[i]? = some x) : ∃ y,v[i]? = some y∧VR G x y:=by
  obtain ⟨hi,rfl⟩:=List.getElem?_eq_some_iff.1 hx
  have e:=h.1
  exact ⟨v[i]'(by omega),by simp [show i < v.length by omega],h.2 i hi (by omega)⟩
theorem VRs.len {G : Gh} {a : List AV} {v : List Value} (h : VRs G a v) : a.length = v.length:=h.1
theorem VRs.rep {G : Gh} {a : List AV} {v : List Value} (h : VRs G a v) : ∀ n,VRs G (rep n a) ((List.replicate n v).flatten)
  | 0 => by simpa [Hem.rep] using VRs.nil
  | n + 1 => by simpa [Hem.rep,List.replicate_succ] using h.append (VRs.rep h n)
theorem VR.sc_inv {G : Gh} {s : Sc} {v : Value} (h : VR G (.sc s) v) : v = s.val:=by cases h; rfl
theorem scalar_spec {G : Gh} {a : AV} {v v' : Value} (h : AV.scalar? a = some v) (r : VR G a v') : v' = v:=by
  cases a <;> simp [AV.scalar?] at h
  subst h; exact r.sc_inv
theorem scalars_spec {G : Gh} : ∀ {cs : List AV} {vs vs' : List Value},cs.mapM AV.scalar? = some vs→VRs G cs vs'→vs' = vs
  | [],vs,vs',h,r => by simp at h; subst h; exact r.of_nil
  | a :: cs,vs,vs',h,r => by
    obtain ⟨v,m,rfl,r1,r2⟩:=r.of_cons
    simp only [List.mapM_cons,Option.bind_eq_bind,Option.bind_eq_some_iff,Option.pure_def,Option.some.injEq] at h
    obtain ⟨x,hx,y,hy,rfl⟩:=h
    rw [scalar_spec hx r1,scalars_spec hy r2]
theorem closed_spec {G : Gh} {a : AV} {v v' : Value} (h : AV.closed? a = some v) (r : VR G a v') : v' = v:=by
  cases a <;> simp only [AV.closed?,reduceCtorEq] at h
  case sc s => simp at h; subst h; exact r.sc_inv
  case agg cs =>
    simp only [Option.map_eq_some_iff] at h
    obtain ⟨vs,h1,rfl⟩:=h
    cases r with
    | agg hl hv => rw [scalars_spec h1 ⟨hl,hv⟩]
  case tup cs =>
    simp only [Option.map_eq_some_iff] at h
    obtain ⟨vs,h1,rfl⟩:=h
    cases r with
    | tup hl hv => rw [scalars_spec h1 ⟨hl,hv⟩]
theorem Sc.of_val {v : Value} {s : Sc} (h : Sc.of? v = some s) : s.val = v:=by
  unfold Sc.of? at h
  split at h <;> simp at h <;> subst h <;> rfl
theorem ofCell_spec {G : Gh} {v : Value} {a : AV} (h : AV.ofCell? v = some a) : VR G a v:=by
  simp only [AV.ofCell?,Option.map_eq_some_iff] at h
  obtain ⟨s,h1,rfl⟩:=h
  rw [← Sc.of_val h1]; exact .sc s
theorem ofCells_spec {G : Gh} : ∀ {vs : List Value} {cs : List AV},vs.mapM AV.ofCell? = some cs→VRs G cs vs
  | [],cs,h => by simp at h; subst h; exact VRs.nil
  | v :: vs,cs,h => by
    simp only [List.mapM_cons,Option.bind_eq_bind,Option.bind_eq_some_iff,Option.pure_def,Option.some.injEq] at h
    obtain ⟨x,hx,y,hy,rfl⟩:=h
    exact VRs.cons (ofCell_spec hx) (ofCells_spec hy)
theorem of_spec {G : Gh} {v : Value} {a : AV} (h : AV.of? v = some a) : VR G a v:=by
  unfold AV.of? at h
  split at h
  · rename_i cs
    simp only [Option.map_eq_some_iff] at h
    obtain ⟨x,h1,rfl⟩:=h
    have:=ofCells_spec (G:=G) h1
    have e:=VR.agg this.1 this.2
    simpa using e
  · rename_i cs
    split at h
    · rename_i h0
      simp at h; subst h
      have : cs = #[]:=by simpa using h0
      subst this; exact .sc .undef
    · simp only [Option.map_eq_some_iff] at h
      obtain ⟨x,h1,rfl⟩:=h
      have:=ofCells_spec (G:=G) h1
      have e:=VR.tup this.1 this.2
      simpa using e
  · exact ofCell_spec h
theorem VR.cells {G : Gh} {a : AV} {v : Value} (h : VR G a v) (hs : AV.ones a.cells = true) : VRs G a.cells v.cells.toList:=by
  have one : ∀ {a : AV} {v : Value},VR G a v→VRs G [a] [v]:=fun h => VRs.cons h VRs.nil
  cases h with
  | agg hl hv => exact ⟨hl,hv⟩
  | poison v => simp [AV.ones,AV.one,AV.cells] at hs
  | sc s => cases s <;> exact one (.sc _)
  | ptr h => exact one (.ptr h)
  | iptr vs h1 h2 h3 h4 => exact one (.iptr vs h1 h2 h3 h4)
  | slice h h1 h2 h3 h4 => exact one (.slice h h1 h2 h3 h4)
  | immNil => exact one .immNil
  | imm vs h1 h2 h3 h4 h5 h6 => exact one (.imm vs h1 h2 h3 h4 h5 h6)
  | tup h1 h2 => exact one (.tup h1 h2)
  | func h1 h2 h3 h4 => exact one (.func h1 h2 h3 h4)
  | iface h => exact one (.iface h)
  | map h => exact one (.map h)
  | yield h => exact one (.yield h)
  | sym h1 h2 => exact one (.sym h1 h2)
theorem VR.one {G : Gh} {a : AV} {v : Value} (h : VR G a v) (hs : a.one = true) : v.oneCell' = true:=by
  cases h with
  | agg hl hv => simp [AV.one] at hs
  | tup hl hv => simp [AV.one] at hs
  | poison v => simp [AV.one] at hs
  | sc s => cases s <;> first | rfl | simp [AV.one] at hs
  | _ => rfl
theorem VRs.ones {G : Gh} {a : List AV} {v : List Value} (h : VRs G a v) (hs : AV.ones a = true) : ∀ u ∈ v,u.oneCell' = true:=by
  intro u hu
  obtain ⟨i,hi,rfl⟩:=List.mem_iff_getElem.1 hu
  have e:=h.1
  refine (h.2 i (by omega) hi).one ?_
  simp only [AV.ones,List.all_eq_true] at hs
  exact hs _ (List.getElem_mem _)
theorem VR.ins1 {G : Gh} {a : AV} {v : Value} (h : VR G a v) : VR G (a.ins1 G.sym) v:=by
  cases a
  case sym => cases h; exact .sc (.int .i64 G.sym)
  all_goals exact h
theorem VR.ins {G : Gh} {a : AV} {v : Value} (h : VR G a v) : VR G (a.ins G.sym) v:=by
  cases a
  case sym => cases h; exact .sc (.int .i64 G.sym)
  case agg cs =>
    cases h with
    | agg hl hv =>
      simp only [AV.ins]
      exact .agg (by simpa using hl) fun i h1 h2 => by
        simp only [List.getElem_map]
        exact (hv i (by simpa using h1) h2).ins1
  all_goals exact h
def LR (G : Gh) (t : List AV) (a : Array Value) : Prop:=VRs G t a.toList
def BR (G : Gh) : Blk→Obj→Prop
  | .cells cs,.cells cells _ fr => fr = (0,0)∧cs.length ≤ cells.size∧∀ j (h : j < cs.length) (h' : j < cells.size),VR G (cs[j]) (cells[j])∧(cells[j]).oneCell' = true
  | .map es,.map entries _ => es.length = entries.size∧∀ i (h : i < es.length) (h' : i < entries.size),VR G (es[i]).1 (entries[i]).key∧VR G (es[i]).2 (entries[i]).val
  | .loop st pe t ps as bo,.loop l => l.state = st∧l.pending = pe∧LR G t l.tmps∧l.params.toList = ps∧l.assign = as∧l.body = bo
  | _,_ => False
theorem BR.mono {G G' : Gh} (e : Ext G G') {x : Blk} {o : Obj} (h : BR G x o) : BR G' x o:=by
  cases x <;> cases o <;> simp only [BR] at h ⊢
  · exact ⟨h.1,h.2.1,fun j a b => ⟨(h.2.2 j a b).1.mono e,(h.2.2 j a b).2⟩⟩
  · exact ⟨h.1,fun j a b => ⟨(h.2 j a b).1.mono e,(h.2 j a b).2.mono e⟩⟩
  · exact ⟨h.1,h.2.1,VRs.mono e h.2.2.1,h.2.2.2⟩
def Obj.plain : Obj→Prop
  | .cells _ _ fr => fr = (0,0)
  | _ => True
def Obj.csize : Obj→Option (Nat × TypeId)
  | .cells c e _ => some (c.size,e)
  | _ => none
def SzIs (T : Nat × TypeId) (s : Option (Nat × TypeId)) : Prop:=∃ n,s = some (n,T.2)∧(T.1 ≠ 0→n = T.1)
structure FrOK (G : Gh) (fr : Fr) : Prop where
  rd : ∀ b cs,frGet fr b = some cs→∃ c cells e,G.β b = some c∧G.fz c = some (.cells cells e (0,0))∧BR G (.cells cs) (.cells cells e (0,0))
  tg : ∀ b T,(b,T) ∈ fr.tg→∃ c,G.β b = some c∧SzIs T (G.sz c)
theorem FrOK.ext {G G' : Gh} {fr fr' : Fr} (h : FrOK G fr) (hx : Ext G G') (e : fr' = fr) : FrOK G' fr':=by
  subst e
  refine ⟨fun b cs hb => ?_,fun b T hb => ?_⟩
  · obtain ⟨c,cells,el,h1,h2,h3⟩:=h.rd b cs hb
    exact ⟨c,cells,el,hx.β _ _ h1,hx.fz _ _ h2,h3.mono hx⟩
  · obtain ⟨c,h1,n,h2,h3⟩:=h.tg b T hb
    exact ⟨c,hx.β _ _ h1,n,hx.sz _ _ h2,h3⟩
structure Sim (B : World) (G : Gh) (H : AHeap) (w : World) : Prop where
  os : w.os = B.os
  tape : w.tape = B.tape
  output : w.output = B.output
  size : B.heap.size ≤ w.heap.size
  base : ∀ c,c < B.heap.size→G.fz c = B.heap[c]?
  fz : ∀ c o,G.fz c = some o→w.heap[c]? = some o
  live : ∀ b x c,H.get b = some x→G.β b = some c→∃ o,w.heap[c]? = some o∧BR G x o
  inj : ∀ b b' x x' c,H.get b = some x→H.get b' = some x'→G.β b = some c→G.β b' = some c→b = b'
  nofz : ∀ b x c,H.get b = some x→G.β b = some c→G.fz c = none
  rng : ∀ b c,G.β b = some c→c < w.heap.size
  plain : ∀ c o,B.heap.size ≤ c→w.heap[c]? = some o→Obj.plain o ∨ G.fz c = some o
  sz : ∀ c o,B.heap.size ≤ c→w.heap[c]? = some o→G.sz c = Obj.csize o
  szr : ∀ c s,G.sz c = some s→c < w.heap.size
  frz : FrOK G H.fr
structure Step (G : Gh) (H : AHeap) (w : World) (G' : Gh) (H' : AHeap) (w' : World) : Prop where
  ext : Ext G G'
  new : ∀ b c,G'.β b = some c→G.β b = some c ∨ (H.next ≤ b∧b < H'.next)
  le : H.next ≤ H'.next
  size : w.heap.size ≤ w'.heap.size
  frame : ∀ c,c < w.heap.size→(∀ b x,H.get b = some x→G.β b ≠ some c)→w'.heap[c]? = w.heap[c]?
  pend : ∀ b x,H.get b = some x→G.β b = none→H'.get b = some x
  img : ∀ b x c,H'.get b = some x→G'.β b = some c→c < w.heap.size→∃ b' x',H.get b' = some x'∧G.β b' = some c
  nfz : ∀ c o,G'.fz c = some o→G.fz c = none→w.heap.size ≤ c ∨ ∃ b x,H.get b = some x∧G.β b = some c
  loops : ∀ (c : Nat) (l : Loop),w.heap[c]? = some (Obj.loop l)→∃ l' : Loop,w'.heap[c]? = some (Obj.loop l')
theorem Step.refl (G : Gh) (H : AHeap) (w : World) : Step G H w G H w :=
  ⟨Ext.refl G,fun _ _ h => .inl h,Nat.le_refl _,Nat.le_refl _,fun _ _ _ => rfl,fun _ _ h _ => h,fun b x c h1 h2 _ => ⟨b,x,h1,h2⟩,fun c o h1 h2 => (by rw [h2] at h1; cases h1),fun _ l h => ⟨l,h⟩⟩
def Clear (G : Gh) (lo hi : Nat) : Prop:=∀ b,lo ≤ b→b < hi→G.β b = none
theorem Step.trans {G G' G'' : Gh} {H H' H'' : AHeap} {w w' w'' : World} (h : Step G H w G' H' w') (k : Step G' H' w' G'' H'' w'') : Step G H w G'' H'' w'':=by
  refine ⟨h.ext.trans k.ext,?_,Nat.le_trans h.le k.le,Nat.le_trans h.size k.size,?_,?_,?_,?_,fun c l hl => let ⟨l',h1⟩:=h.loops c l hl; k.loops c l' h1⟩
  · intro b c hb
    rcases k.new b c hb with h1 | ⟨h1,h2⟩
    · rcases h.new b c h1 with h3 | ⟨h3,h4⟩
      · exact .inl h3
      · exact .inr ⟨h3,Nat.lt_of_lt_of_le h4 k.le⟩
    · exact .inr ⟨Nat.le_trans h.le h1,h2⟩
  · intro c hc hno
    rw [k.frame c (Nat.lt_of_lt_of_le hc h.size) ?_,h.frame c hc hno]
    intro b x hb hβ
    obtain ⟨b',x',h1,h2⟩:=h.img b x c hb hβ hc
    exact hno b' x' h1 h2
  · intro b x hb hn
    have h1:=h.pend b x hb hn
    refine k.pend b x h1 ?_
    cases hg : G'.β b with
    | none => rfl
    | some c =>
      rcases h.new b c hg with h2 | ⟨h2,_⟩
      · rw [hn] at h2; cases h2
      · have:=AHeap.get_lt hb; omega
  · intro b x c hb hβ hc
    obtain ⟨b',x',h1,h2⟩:=k.img b x c hb hβ (Nat.lt_of_lt_of_le hc h.size)
    exact h.img b' x' c h1 h2 hc
  · intro c o h1 h2
    cases hg : G'.fz c with
    | some o' => exact h.nfz c o' hg h2
    | none =>
      rcases k.nfz c o h1 hg with h3 | ⟨b,x,h3,h4⟩
      · exact .inl (Nat.le_trans h.size h3)
      · by_cases hc : c < w.heap.size
        · exact .inr (h.img b x c h3 h4 hc)
        · exact .inl (by omega)
end Go.Hem
set_option linter.unusedSimpArgs false
set_option linter.unusedVariables false
namespace Go.Hem
def CellsAt (G : Gh) (cs : List AV) (w : World) (c o : Nat) : Prop :=
  ∃ vs,VRs G cs vs∧(∀ j u,vs[j]? = some u→w.cell? ⟨c,o + j,none⟩ = some u)∧∀ u ∈ vs,u.oneCell' = true
theorem CellsAt.drop {G : Gh} {cs : List AV} {w : World} {c o : Nat} (k : Nat) (h : CellsAt G cs w c o) : CellsAt G (cs.drop k) w c (o + k):=by
  obtain ⟨vs,h1,h2,h3⟩:=h
  refine ⟨vs.drop k,h1.drop k,fun j u hu => ?_,fun u hu => h3 u (List.mem_of_mem_drop hu)⟩
  rw [List.getElem?_drop] at hu
  have:=h2 _ u hu
  rwa [← Nat.add_assoc] at this
theorem CellsAt.take {G : Gh} {cs : List AV} {w : World} {c o : Nat} (k : Nat) (h : CellsAt G cs w c o) : CellsAt G (cs.take k) w c o:=by
  obtain ⟨vs,h1,h2,h3⟩:=h
  refine ⟨vs.take k,h1.take k,fun j u hu => ?_,fun u hu => h3 u (List.mem_of_mem_take hu)⟩
  rw [List.getElem?_take] at hu
  split at hu
  · exact h2 j u hu
  · cases hu
theorem cell_of {w : World} {c o : Nat} {cells : Array Value} {e : TypeId} {fr : Nat × Nat} (h : w.heap[c]? = some (.cells cells e fr)) : w.cell? ⟨c,o,none⟩ = cells[o]?:=by
  simp [World.cell?,h]
theorem cellsAt_block {G : Gh} {cs : List AV} {w : World} {c : Nat} {cells : Array Value} {e : TypeId} {fr : Nat × Nat} (h : w.heap[c]? = some (.cells cells e fr))
    (b : BR G (.cells cs) (.cells cells e fr)) : CellsAt G cs w c 0:=by
  obtain ⟨hfr,hl,hc⟩:=b
  refine ⟨cells.toList.take cs.length,⟨by simp; omega,fun i h1 h2 => ?_⟩,fun j u hu => ?_,fun u hu => ?_⟩
  · simp only [List.getElem_take,Array.getElem_toList]
    exact (hc i h1 (by simp at h2; omega)).1
  · rw [cell_of h,Nat.zero_add]
    rw [List.getElem?_take] at hu
    split at hu
    · simpa using hu
    · cases hu
  · obtain ⟨i,hi,rfl⟩:=List.mem_iff_getElem.1 hu
    simp only [List.getElem_take,Array.getElem_toList]
    exact (hc i (by simp at hi; omega) (by simp at hi; omega)).2
theorem cellsAt_frozen {G : Gh} {cs : List AV} {w : World} {c o : Nat} {cells : Array Value} {e : TypeId} {fr : Nat × Nat} (h : w.heap[c]? = some (.cells cells e fr)) (vs : Nat→Value)
    (h1 : ∀ j,j < cs.length→cells[o + j]? = some (vs j)) (h2 : ∀ j,j < cs.length→(vs j).oneCell' = true) (h3 : ∀ j (h : j < cs.length),VR G (cs[j]) (vs j)) : CellsAt G cs w c o:=by
  refine ⟨(List.range cs.length).map vs,⟨by simp,fun i a b => by simpa using h3 i a⟩,fun j u hu => ?_,fun u hu => ?_⟩
  · by_cases hj : j < cs.length
    · simp [hj] at hu
      subst hu
      rw [cell_of h]; exact h1 j hj
    · simp [hj] at hu
  · simp only [List.mem_map,List.mem_range] at hu
    obtain ⟨j,hj,rfl⟩:=hu
    exact h2 j hj
theorem run_und {P : Program} {t : TypeId} {d : TypeDesc} (h : P.underlying t = some d) (w : World) : (underlying t).run P w = .ok d w:=run_underlying h w
theorem run_szOf {P : Program} {t : TypeId} {n : Nat} (h : szOf P t = some n) (w : World) : (sizeOf t).run P w = .ok n w:=by
  simp only [szOf,Option.map_eq_some_iff] at h
  obtain ⟨i,hi,rfl⟩:=h
  simp [sizeOf,typeInfo,hi]
theorem run_isAgg {P : Program} {t : TypeId} {b : Bool} (h : isAggB P t = some b) (w : World) : (isAgg t).run P w = .ok b w:=by
  simp only [isAggB,Option.map_eq_some_iff] at h
  obtain ⟨d,hd,rfl⟩:=h
  unfold isAgg
  rw [Sem.run_bind,run_und hd]
  cases d <;> rfl
theorem run_zeroV {P : Program} {t : TypeId} {i : TypeInfo} {z : Value} (h : P.info? t = some i) (hz : i.zero = some z) (w : World) : (zeroValue t).run P w = .ok z w:=by
  simp [zeroValue,typeInfo,h,hz]
theorem azero_spec {P : Program} {t : TypeId} {z : AV} (h : azero P t = some z) : ∃ i v,P.info? t = some i∧i.zero = some v∧AV.of? v = some z:=by
  simp only [azero,Option.bind_eq_bind,Option.bind_eq_some_iff] at h
  obtain ⟨i,h1,v,h2,h3⟩:=h
  exact ⟨i,v,h1,h2,h3⟩
theorem addr_add (c o n : Nat) : (⟨c,o,none⟩ : Addr).add n = ⟨c,o + n,none⟩:=by
  unfold Addr.add; split <;> simp_all
theorem run_cells_list {P : Program} (w : World) (a : Addr) (n : Nat) (vs : List Value) (hn : vs.length = n) (h : ∀ j u,vs[j]? = some u→w.cell? (a.add j) = some u) :
    (loadCells a n).run P w = .ok vs.toArray w:=by
  subst hn
  exact run_loadCells_list w a vs h
theorem loadVar_sim {P : Program} {G : Gh} {cs : List AV} {w : World} {c o off : Nat} {T : TypeId} {v : AV} (h : CellsAt G cs w c o) (hr : aread P T cs off = some v) :
    ∃ v',(loadVar T ⟨c,o + off,none⟩).run P w = .ok v' w∧VR G v v':=by
  unfold aread at hr
  simp only [Option.bind_eq_bind,Option.bind_eq_some_iff] at hr
  obtain ⟨b,hb,hr⟩:=hr
  unfold loadVar
  rw [Sem.run_bind,run_isAgg hb]
  cases b with
  | true =>
    simp only [if_true,Option.bind_eq_some_iff] at hr
    obtain ⟨n,hn,hr⟩:=hr
    split at hr
    · rename_i hle
      simp at hr; subst hr
      obtain ⟨vs,h1,h2,h3⟩:=(h.drop off).take n
      refine ⟨.agg vs.toArray,?_,.agg h1.1 h1.2⟩
      have hl : vs.length = n:=by have:=h1.1; simp at this; omega
      simp only [Result.andThen_ok,if_true,Sem.run_bind,run_szOf hn]
      rw [run_cells_list w _ n vs hl (fun j u hu => by rw [addr_add]; exact h2 j u hu)]
      rfl
    · cases hr
  | false =>
    simp only [Bool.false_eq_true,if_false] at hr
    obtain ⟨vs,h1,h2,h3⟩:=h
    obtain ⟨y,hy,hv⟩:=h1.get hr
    refine ⟨y,?_,hv⟩
    simp [h2 off y hy]
structure Same (w w' : World) : Prop where
  os : w'.os = w.os
  tape : w'.tape = w.tape
  output : w'.output = w.output
def At (w w' : World) (c : Nat) (o : Obj) : Prop:=Same w w'∧w'.heap.size = w.heap.size∧w'.heap[c]? = some o∧∀ k,k ≠ c→w'.heap[k]? = w.heap[k]?
def Push (w w' : World) (o : Obj) : Prop:=Same w w'∧w'.heap.size = w.heap.size + 1∧w'.heap[w.heap.size]? = some o∧∀ k,k < w.heap.size→w'.heap[k]? = w.heap[k]?
def NV (G : Gh) (v : AV) (n : Next) : Prop:=∃ v',VR G v v'∧(n = .value v' ∨ (n = .skip∧v' = undef))
def OpSim (P : Program) (G : Gh) (H : AHeap) (w : World) (r : Result Next) : Eff→Prop
  | .val v => ∃ n,r = .ok n w∧NV G v n
  | .new x mk => ∃ v' w' o,r = .ok (.value v') w'∧Push w w' o∧BR G x o∧Obj.plain o∧∀ b G',Ext G G'→G'.β b = some w.heap.size→G'.sz w.heap.size = Obj.csize o→VR G' (mk b) v'
  | .mem v b x => ∃ n w' o y c,r = .ok n w'∧H.get b = some y∧G.β b = some c∧At w w' c o∧(w.heap[c]?).bind Obj.csize = Obj.csize o∧BR G (.cells x) o∧Obj.plain o∧NV G v n
  | .memM v b es => ∃ n w' o y c,r = .ok n w'∧H.get b = some y∧G.β b = some c∧At w w' c o∧(w.heap[c]?).bind Obj.csize = Obj.csize o∧BR G (.map es) o∧Obj.plain o∧NV G v n∧∀ l,w.heap[c]? ≠ some (Obj.loop l)
  | .move mk b x => ∃ v' w' o y c c',r = .ok (.value v') w'∧H.get b = some y∧G.β b = some c∧(c' = c∧At w w' c o∧(w.heap[c]?).bind Obj.csize = Obj.csize o ∨ c' = w.heap.size∧Push w w' o)∧BR G (.cells x) o∧Obj.plain o ∧
      ∀ b' G',Ext G G'→G'.β b' = some c'→G'.sz c' = Obj.csize o→VR G' (mk b') v'
  | .moveT T mk b x => ∃ v' w' o y c c',r = .ok (.value v') w'∧H.get b = some y∧G.β b = some c∧(c' = c∧At w w' c o∧(w.heap[c]?).bind Obj.csize = Obj.csize o ∨ c' = w.heap.size∧Push w w' o)∧BR G (.cells x) o∧Obj.plain o∧SzIs T (Obj.csize o) ∧
      ∀ b' G',Ext G G'→G'.β b' = some c'→G'.sz c' = Obj.csize o→VR G' (mk b') v'
  | .newT T x mk => ∃ v' w' o,r = .ok (.value v') w'∧Push w w' o∧BR G x o∧Obj.plain o∧SzIs T (Obj.csize o)∧∀ b G',Ext G G'→G'.β b = some w.heap.size→G'.sz w.heap.size = Obj.csize o→VR G' (mk b) v'
  | .fzn v => ∃ v' w' o,r = .ok (.value v') w'∧Push w w' o∧∀ G',Ext G G'→G'.fz w.heap.size = some o→VR G' v v'
  | .call f args => ∃ args' : Array Value,r = .ok (.enter f args') w∧VRs G args args'.toList
  | .yield l args => ∃ c,∃ args' : Array Value,G.β l = some c∧r = (Instr.yield c args').run P w∧VRs G args args'.toList
theorem push_alloc (w : World) (o : Obj) : Push w (w.alloc o) o :=
  ⟨⟨rfl,rfl,rfl⟩,by simp,by show (w.heap.push o)[w.heap.size]? = _; simp,fun k hk => by show (w.heap.push o)[k]? = _; rw [Array.getElem?_push,if_neg (by omega)]⟩
theorem push_alloc_drew (w : World) (o : Obj) : Push w (w.drew.alloc o) o :=
  ⟨⟨rfl,rfl,rfl⟩,by simp,by show (w.heap.push o)[w.heap.size]? = _; simp,fun k hk => by show (w.heap.push o)[k]? = _; rw [Array.getElem?_push,if_neg (by omega)]⟩
theorem at_setRow (w : World) (c : Nat) (old new : Array Value) (e : TypeId) (fr : Nat × Nat) (h : w.heap[c]? = some (.cells old e fr)) : At w (w.setRow c new) c (.cells new e fr) :=
  ⟨⟨rfl,rfl,rfl⟩,by simp [World.setRow],setRow_heap w c old new e fr h,fun k hk => setRow_other w c k new hk⟩
theorem live_cells {B : World} {G : Gh} {H : AHeap} {w : World} (hS : Sim B G H w) {b c : Nat} {cs : List AV} (h : H.cells b = some cs) (hc : G.β b = some c) :
    ∃ cells e,w.heap[c]? = some (.cells cells e (0,0))∧BR G (.cells cs) (.cells cells e (0,0))∧H.get b = some (.cells cs):=by
  have hg : H.get b = some (.cells cs):=by
    unfold AHeap.cells at h
    split at h
    · simp at h; subst h; assumption
    · cases h
  obtain ⟨o,ho,hb⟩:=hS.live b _ c hg hc
  cases o <;> simp only [BR] at hb
  rename_i cells e fr
  obtain ⟨rfl,h1,h2⟩:=hb
  exact ⟨cells,e,ho,⟨rfl,h1,h2⟩,hg⟩
theorem live_rd {B : World} {G : Gh} {H : AHeap} {w : World} (hS : Sim B G H w) {b c : Nat} {cs : List AV} (h : H.rd b = some cs) (hc : G.β b = some c) :
    ∃ cells e,w.heap[c]? = some (.cells cells e (0,0))∧BR G (.cells cs) (.cells cells e (0,0)):=by
  unfold AHeap.rd at h
  cases hb : H.cells b with
  | some ds =>
    rw [hb] at h; cases h
    obtain ⟨cells,e,h1,h2,_⟩:=live_cells hS hb hc
    exact ⟨cells,e,h1,h2⟩
  | none =>
    rw [hb] at h
    obtain ⟨c',cells,e,h1,h2,h3⟩:=hS.frz.rd b cs (AHeap.frd_get (by simpa using h))
    rw [hc] at h1; cases h1
    exact ⟨cells,e,hS.fz _ _ h2,h3⟩
theorem live_sz {B : World} {G : Gh} {H : AHeap} {w : World} (hS : Sim B G H w) {b c : Nat} {cs : List AV} (h : H.cells b = some cs) (hc : G.β b = some c) : ∃ s,G.sz c = some s∧cs.length ≤ s.1:=by
  obtain ⟨cells,e,h1,h2,h3⟩:=live_cells hS h hc
  have hle : B.heap.size ≤ c:=by
    rcases Nat.lt_or_ge c B.heap.size with hlt | hge
    · have h4:=hS.nofz b _ c h3 hc
      rw [hS.base c hlt] at h4
      simp at h4; omega
    · exact hge
  exact ⟨_,hS.sz c _ hle h1,h2.2.1⟩
theorem aload_sim {P : Program} {B : World} {G : Gh} {H : AHeap} {w : World} (hS : Sim B G H w) {T : TypeId} {a v : AV} {a' : Value} (ha : VR G a a') (h : aload P T H a = some v) :
    ∃ v',(Instr.loadAt T a').run P w = .ok v' w∧VR G v v':=by
  cases a <;> simp only [aload,reduceCtorEq] at h
  case ptr b off =>
    simp only [Option.bind_eq_some_iff] at h
    obtain ⟨cs,h1,h2⟩:=h
    cases ha with
    | ptr hc =>
      obtain ⟨cells,e,h3,h4⟩:=live_rd hS h1 hc
      obtain ⟨v',h5,h6⟩:=loadVar_sim (P:=P) (cellsAt_block h3 h4) h2
      exact ⟨v',by simpa [Instr.loadAt,Instr.sureAddr] using h5,h6⟩
  case iptr cs =>
    cases ha with
    | iptr vs h1 h2 h3 h4 =>
      obtain ⟨v',h5,h6⟩:=loadVar_sim (P:=P) (cellsAt_frozen (hS.fz _ _ h1) vs h2 h3 h4) h
      exact ⟨v',by simpa [Instr.loadAt,Instr.sureAddr] using h5,h6⟩
theorem structOf_spec {P : Program} {s : TypeId} {fs : Array Field} (h : structOf P s = some fs) : P.underlying s = some (.struct fs):=by
  unfold structOf at h
  split at h
  · simp at h; subst h; assumption
  · cases h
theorem sliceElem_spec {P : Program} {s e : TypeId} (h : sliceElem P s = some e) : P.underlying s = some (.slice e):=by
  unfold sliceElem at h
  split at h
  · simp at h; subst h; assumption
  · cases h
theorem arrayOf_spec {P : Program} {s e : TypeId} {n : Nat} (h : arrayOf P s = some (n,e)) : P.underlying s = some (.array n e):=by
  unfold arrayOf at h
  split at h
  · simp at h; obtain ⟨rfl,rfl⟩:=h; assumption
  · cases h
theorem iptr_drop {G : Gh} {cs : List AV} {c o : Nat} (k : Nat) (h : VR G (.iptr cs) (.pointer (some ⟨c,o,none⟩))) : VR G (.iptr (cs.drop k)) (.pointer (some ⟨c,o + k,none⟩)):=by
  cases h with
  | iptr vs h1 h2 h3 h4 =>
    refine .iptr (fun j => vs (k + j)) h1 (fun j hj => ?_) (fun j hj => h3 _ (by simp at hj; omega)) (fun j hj => ?_)
    · rw [Nat.add_assoc]; exact h2 _ (by simp at hj; omega)
    · simp only [List.getElem_drop]; exact h4 _ (by simp at hj; omega)
theorem afieldAddr_sim {P : Program} {G : Gh} {w : World} {s : TypeId} {f : Nat} {a v : AV} {a' : Value} (ha : VR G a a') (h : afieldAddr P s a f = some v) :
    ∃ v',(Instr.fieldAt s a' f).run P w = .ok v' w∧VR G v v':=by
  simp only [afieldAddr,Option.bind_eq_bind,Option.bind_eq_some_iff] at h
  obtain ⟨fs,h1,fd,h2,n,h3,h⟩:=h
  split at h
  · cases h
  · rename_i hn
    have key : ∀ ad : Addr,(fieldPlace ad fd).run P w = .ok (ad.add fd.offset) w:=fun ad => by
      unfold fieldPlace
      rw [Sem.run_bind,run_szOf h3]
      simp [hn]
    have run : ∀ ad : Addr,(Instr.fieldAt s (.pointer (some ad)) f).run P w = .ok (.pointer (some (ad.add fd.offset))) w:=fun ad => by
      unfold Instr.fieldAt
      rw [Sem.run_bind,run_und (structOf_spec h1)]
      simp [h2,Instr.sureAddr,key]
    cases a <;> simp only [reduceCtorEq,Option.some.injEq] at h
    case ptr b off =>
      subst h
      cases ha with
      | ptr hc => exact ⟨_,run _,by rw [addr_add]; exact .ptr hc⟩
    case iptr cs =>
      subst h
      cases ha with
      | iptr vs g1 g2 g3 g4 => exact ⟨_,run _,by rw [addr_add]; exact iptr_drop _ (.iptr vs g1 g2 g3 g4)⟩
theorem asNat_spec {G : Gh} {a : AV} {i : Nat} {v : Value} (h : asNat a = some i) (r : VR G a v) : ∃ k,v = .int k i:=by
  unfold asNat at h
  split at h
  · split at h
    · rename_i k n hn
      simp at h; subst h
      refine ⟨k,?_⟩
      rw [r.sc_inv]
      show Value.int k n = _
      congr 1; omega
    · cases h
  · cases h
theorem aindexAddr_sim {P : Program} {G : Gh} {w : World} {T : TypeId} {a ix v : AV} {a' ix' : Value} (ha : VR G a a') (hi : VR G ix ix') (h : aindexAddr P T a ix = some v) :
    ∃ v',(Instr.indexAt T a' ix').run P w = .ok v' w∧VR G v v':=by
  simp only [aindexAddr,Option.bind_eq_bind,Option.bind_eq_some_iff] at h
  obtain ⟨i,h1,h⟩:=h
  obtain ⟨k,rfl⟩:=asNat_spec h1 hi
  have slc : ∀ (ad : Addr) (len cap e n : Nat),P.underlying T = some (.slice e)→szOf P e = some n→i < len →
      (Instr.indexAt T (.slice (some ad) len cap) (.int k i)).run P w = .ok (.pointer (some (ad.add (i * n)))) w:=fun ad len cap e n hu hn hl => by
    unfold Instr.indexAt
    simp [asIntOf,run_und hu,run_szOf hn,hl]
  have arr : ∀ (ad : Addr) (len e n : Nat),P.underlying T = some (.array len e)→szOf P e = some n→i < len →
      (Instr.indexAt T (.pointer (some ad)) (.int k i)).run P w = .ok (.pointer (some (ad.add (i * n)))) w:=fun ad len e n hu hn hl => by
    unfold Instr.indexAt
    simp [asIntOf,run_und hu,run_szOf hn,hl,Instr.sureAddr]
  cases a <;> simp only [reduceCtorEq,Option.bind_eq_some_iff] at h
  case slice b off len cap n' =>
    obtain ⟨e,h2,n,h3,h⟩:=h
    split at h
    · rename_i hlt
      simp at h; subst h
      cases ha with
      | slice hc h4 h5 => exact ⟨_,slc _ _ _ _ _ (sliceElem_spec h2) h3 hlt.1,by rw [addr_add]; exact .ptr hc⟩
    · cases h
  case imm l =>
    obtain ⟨e,h2,n,h3,x,h4,h⟩:=h
    split at h
    · rename_i hx
      simp at h; subst h
      obtain ⟨hl,rfl⟩:=List.getElem?_eq_some_iff.1 h4
      cases ha with
      | immNil => simp at hl
      | imm vs g1 g2 g3 g4 g5 g6 =>
        refine ⟨_,slc _ _ _ _ _ (sliceElem_spec h2) h3 hl,?_⟩
        rw [addr_add]
        have hn:=g2 i hl
        rw [hx.1] at hn
        subst hn
        exact .iptr (vs i) g1 (fun j hj => g4 i j hl (by rw [hx.1] at hj; exact hj)) (fun j hj => g5 i j hl (by rw [hx.1] at hj; exact hj)) (fun j hj => g6 i hl j hj)
    · cases h
  case ptr b off =>
    obtain ⟨⟨m,e⟩,h2,n,h3,h⟩:=h
    simp only at h
    split at h
    · simp at h; subst h
      cases ha with
      | ptr hc => exact ⟨_,arr _ _ _ _ (arrayOf_spec h2) h3 (by assumption),by rw [addr_add]; exact .ptr hc⟩
    · cases h
  case iptr cs =>
    obtain ⟨⟨m,e⟩,h2,n,h3,h⟩:=h
    simp only at h
    split at h
    · simp at h; subst h
      cases ha with
      | iptr vs g1 g2 g3 g4 => exact ⟨_,arr _ _ _ _ (arrayOf_spec h2) h3 (by assumption),by rw [addr_add]; exact iptr_drop _ (.iptr vs g1 g2 g3 g4)⟩
    · cases h
end Go.Hem
