import Derived.Test.YtgappelpgocboaaGreatDoorHemC
import Derived.Laws.AppendOwn
set_option linter.unusedSimpArgs false
set_option linter.unusedVariables false
namespace Go.Hem
def CellsAt (G : Gh) (cs : List AV) (w : World) (c o : Nat) : Prop :=
  ∃ vs,VRs G cs vs∧(∀ j u,vs[j]? = some u→w.cell? ⟨c,o + j,none⟩ = some u)∧∀ u ∈ vs,u.oneCell' = true
theorem CellsAt.drop {G : Gh} {cs : List AV} {w : World} {c o : Nat} (k : Nat) (h : CellsAt G cs w c o) : CellsAt G (cs.drop k) w c (o + k):=by
  obtain ⟨vs,h1,h2,h3⟩:=h
  refine ⟨vs.drop k,h1.drop k,fun j u hu => ?_,fun u hu => h3 u (List.mem_of_mem_drop hu)⟩
  rw [List.getElem?_drop] at hu
  have:=h2 _ u hu
  rwa [← Nat.add_assoc] at this
theorem CellsAt.take {G : Gh} {cs : List AV} {w : World} {c o : Nat} (k : Nat) (h : CellsAt G cs w c o) : CellsAt G (cs.take k) w c o:=by
  obtain ⟨vs,h1,h2,h3⟩:=h
  refine ⟨vs.take k,h1.take k,fun j u hu => ?_,fun u hu => h3 u (List.mem_of_mem_take hu)⟩
  rw [List.getElem?_take] at hu
  split at hu
  · exact h2 j u hu
  · cases hu
theorem cell_of {w : World} {c o : Nat} {cells : Array Value} {e : TypeId} {fr : Nat × Nat} (h : w.heap[c]? = some (.cells cells e fr)) : w.cell? ⟨c,o,none⟩ = cells[o]?:=by
  simp [World.cell?,h]
theorem cellsAt_block {G : Gh} {cs : List AV} {w : World} {c : Nat} {cells : Array Value} {e : TypeId} {fr : Nat × Nat} (h : w.heap[c]? = some (.cells cells e fr))
    (b : BR G (.cells cs) (.cells cells e fr)) : CellsAt G cs w c 0:=by
  obtain ⟨hfr,hl,hc⟩:=b
  refine ⟨cells.toList.take cs.length,⟨by simp; omega,fun i h1 h2 => ?_⟩,fun j u hu => ?_,fun u hu => ?_⟩
  · simp only [List.getElem_take,Array.getElem_toList]
    exact (hc i h1 (by simp at h2; omega)).1
  · rw [cell_of h,Nat.zero_add]
    rw [List.getElem?_take] at hu
    split at hu
    · simpa using hu
    · cases hu
  · obtain ⟨i,hi,rfl⟩:=List.mem_iff_getElem.1 hu
    simp only [List.getElem_take,Array.getElem_toList]
    exact (hc i (by simp at hi; omega) (by simp at hi; omega)).2
theorem cellsAt_frozen {G : Gh} {cs : List AV} {w : World} {c o : Nat} {cells : Array Value} {e : TypeId} {fr : Nat × Nat} (h : w.heap[c]? = some (.cells cells e fr)) (vs : Nat→Value)
    (h1 : ∀ j,j < cs.length→cells[o + j]? = some (vs j)) (h2 : ∀ j,j < cs.length→(vs j).oneCell' = true) (h3 : ∀ j (h : j < cs.length),VR G (cs[j]) (vs j)) : CellsAt G cs w c o:=by
  refine ⟨(List.range cs.length).map vs,⟨by simp,fun i a b => by simpa using h3 i a⟩,fun j u hu => ?_,fun u hu => ?_⟩
  · by_cases hj : j < cs.length
    · simp [hj] at hu
      subst hu
      rw [cell_of h]; exact h1 j hj
    · simp [hj] at hu
  · simp only [List.mem_map,List.mem_range] at hu
    obtain ⟨j,hj,rfl⟩:=hu
    exact h2 j hj
theorem run_und {P : Program} {t : TypeId} {d : TypeDesc} (h : P.underlying t = some d) (w : World) : (underlying t).run P w = .ok d w:=run_underlying h w
theorem run_szOf {P : Program} {t : TypeId} {n : Nat} (h : szOf P t = some n) (w : World) : (sizeOf t).run P w = .ok n w:=by
  simp only [szOf,Option.map_eq_some_iff] at h
  obtain ⟨i,hi,rfl⟩:=h
  simp [sizeOf,typeInfo,hi]
theorem run_isAgg {P : Program} {t : TypeId} {b : Bool} (h : isAggB P t = some b) (w : World) : (isAgg t).run P w = .ok b w:=by
  simp only [isAggB,Option.map_eq_some_iff] at h
  obtain ⟨d,hd,rfl⟩:=h
  unfold isAgg
  rw [Sem.run_bind,run_und hd]
  cases d <;> rfl
theorem run_zeroV {P : Program} {t : TypeId} {i : TypeInfo} {z : Value} (h : P.info? t = some i) (hz : i.zero = some z) (w : World) : (zeroValue t).run P w = .ok z w:=by
  simp [zeroValue,typeInfo,h,hz]
theorem azero_spec {P : Program} {t : TypeId} {z : AV} (h : azero P t = some z) : ∃ i v,P.info? t = some i∧i.zero = some v∧AV.of? v = some z:=by
  simp only [azero,Option.bind_eq_bind,Option.bind_eq_some_iff] at h
  obtain ⟨i,h1,v,h2,h3⟩:=h
  exact ⟨i,v,h1,h2,h3⟩
theorem addr_add (c o n : Nat) : (⟨c,o,none⟩ : Addr).add n = ⟨c,o + n,none⟩:=by
  unfold Addr.add; split <;> simp_all
theorem run_cells_list {P : Program} (w : World) (a : Addr) (n : Nat) (vs : List Value) (hn : vs.length = n) (h : ∀ j u,vs[j]? = some u→w.cell? (a.add j) = some u) :
    (loadCells a n).run P w = .ok vs.toArray w:=by
  subst hn
  exact run_loadCells_list w a vs h
theorem loadVar_sim {P : Program} {G : Gh} {cs : List AV} {w : World} {c o off : Nat} {T : TypeId} {v : AV} (h : CellsAt G cs w c o) (hr : aread P T cs off = some v) :
    ∃ v',(loadVar T ⟨c,o + off,none⟩).run P w = .ok v' w∧VR G v v':=by
  unfold aread at hr
  simp only [Option.bind_eq_bind,Option.bind_eq_some_iff] at hr
  obtain ⟨b,hb,hr⟩:=hr
  unfold loadVar
  rw [Sem.run_bind,run_isAgg hb]
  cases b with
  | true =>
    simp only [if_true,Option.bind_eq_some_iff] at hr
    obtain ⟨n,hn,hr⟩:=hr
    split at hr
    · rename_i hle
      simp at hr; subst hr
      obtain ⟨vs,h1,h2,h3⟩:=(h.drop off).take n
      refine ⟨.agg vs.toArray,?_,.agg h1.1 h1.2⟩
      have hl : vs.length = n:=by have:=h1.1; simp at this; omega
      simp only [Result.andThen_ok,if_true,Sem.run_bind,run_szOf hn]
      rw [run_cells_list w _ n vs hl (fun j u hu => by rw [addr_add]; exact h2 j u hu)]
      rfl
    · cases hr
  | false =>
    simp only [Bool.false_eq_true,if_false] at hr
    obtain ⟨vs,h1,h2,h3⟩:=h
    obtain ⟨y,hy,hv⟩:=h1.get hr
    refine ⟨y,?_,hv⟩
    simp [h2 off y hy]
structure Same (w w' : World) : Prop where
  os : w'.os = w.os
  tape : w'.tape = w.tape
  output : w'.output = w.output
def At (w w' : World) (c : Nat) (o : Obj) : Prop:=Same w w'∧w'.heap.size = w.heap.size∧w'.heap[c]? = some o∧∀ k,k ≠ c→w'.heap[k]? = w.heap[k]?
def Push (w w' : World) (o : Obj) : Prop:=Same w w'∧w'.heap.size = w.heap.size + 1∧w'.heap[w.heap.size]? = some o∧∀ k,k < w.heap.size→w'.heap[k]? = w.heap[k]?
def NV (G : Gh) (v : AV) (n : Next) : Prop:=∃ v',VR G v v'∧(n = .value v' ∨ (n = .skip∧v' = undef))
def OpSim (P : Program) (G : Gh) (H : AHeap) (w : World) (r : Result Next) : Eff→Prop
  | .val v => ∃ n,r = .ok n w∧NV G v n
  | .new x mk => ∃ v' w' o,r = .ok (.value v') w'∧Push w w' o∧BR G x o∧Obj.plain o∧∀ b G',Ext G G'→G'.β b = some w.heap.size→G'.sz w.heap.size = Obj.csize o→VR G' (mk b) v'
  | .mem v b x => ∃ n w' o y c,r = .ok n w'∧H.get b = some y∧G.β b = some c∧At w w' c o∧(w.heap[c]?).bind Obj.csize = Obj.csize o∧BR G (.cells x) o∧Obj.plain o∧NV G v n
  | .memM v b es => ∃ n w' o y c,r = .ok n w'∧H.get b = some y∧G.β b = some c∧At w w' c o∧(w.heap[c]?).bind Obj.csize = Obj.csize o∧BR G (.map es) o∧Obj.plain o∧NV G v n∧∀ l,w.heap[c]? ≠ some (Obj.loop l)
  | .move mk b x => ∃ v' w' o y c c',r = .ok (.value v') w'∧H.get b = some y∧G.β b = some c∧(c' = c∧At w w' c o∧(w.heap[c]?).bind Obj.csize = Obj.csize o ∨ c' = w.heap.size∧Push w w' o)∧BR G (.cells x) o∧Obj.plain o ∧
      ∀ b' G',Ext G G'→G'.β b' = some c'→G'.sz c' = Obj.csize o→VR G' (mk b') v'
  | .moveT T mk b x => ∃ v' w' o y c c',r = .ok (.value v') w'∧H.get b = some y∧G.β b = some c∧(c' = c∧At w w' c o∧(w.heap[c]?).bind Obj.csize = Obj.csize o ∨ c' = w.heap.size∧Push w w' o)∧BR G (.cells x) o∧Obj.plain o∧SzIs T (Obj.csize o) ∧
      ∀ b' G',Ext G G'→G'.β b' = some c'→G'.sz c' = Obj.csize o→VR G' (mk b') v'
  | .newT T x mk => ∃ v' w' o,r = .ok (.value v') w'∧Push w w' o∧BR G x o∧Obj.plain o∧SzIs T (Obj.csize o)∧∀ b G',Ext G G'→G'.β b = some w.heap.size→G'.sz w.heap.size = Obj.csize o→VR G' (mk b) v'
  | .fzn v => ∃ v' w' o,r = .ok (.value v') w'∧Push w w' o∧∀ G',Ext G G'→G'.fz w.heap.size = some o→VR G' v v'
  | .call f args => ∃ args' : Array Value,r = .ok (.enter f args') w∧VRs G args args'.toList
  | .yield l args => ∃ c,∃ args' : Array Value,G.β l = some c∧r = (Instr.yield c args').run P w∧VRs G args args'.toList
theorem push_alloc (w : World) (o : Obj) : Push w (w.alloc o) o :=
  ⟨⟨rfl,rfl,rfl⟩,by simp,by show (w.heap.push o)[w.heap.size]? = _; simp,fun k hk => by show (w.heap.push o)[k]? = _; rw [Array.getElem?_push,if_neg (by omega)]⟩
theorem push_alloc_drew (w : World) (o : Obj) : Push w (w.drew.alloc o) o :=
  ⟨⟨rfl,rfl,rfl⟩,by simp,by show (w.heap.push o)[w.heap.size]? = _; simp,fun k hk => by show (w.heap.push o)[k]? = _; rw [Array.getElem?_push,if_neg (by omega)]⟩
theorem at_setRow (w : World) (c : Nat) (old new : Array Value) (e : TypeId) (fr : Nat × Nat) (h : w.heap[c]? = some (.cells old e fr)) : At w (w.setRow c new) c (.cells new e fr) :=
  ⟨⟨rfl,rfl,rfl⟩,by simp [World.setRow],setRow_heap w c old new e fr h,fun k hk => setRow_other w c k new hk⟩
theorem live_cells {B : World} {G : Gh} {H : AHeap} {w : World} (hS : Sim B G H w) {b c : Nat} {cs : List AV} (h : H.cells b = some cs) (hc : G.β b = some c) :
    ∃ cells e,w.heap[c]? = some (.cells cells e (0,0))∧BR G (.cells cs) (.cells cells e (0,0))∧H.get b = some (.cells cs):=by
  have hg : H.get b = some (.cells cs):=by
    unfold AHeap.cells at h
    split at h
    · simp at h; subst h; assumption
    · cases h
  obtain ⟨o,ho,hb⟩:=hS.live b _ c hg hc
  cases o <;> simp only [BR] at hb
  rename_i cells e fr
  obtain ⟨rfl,h1,h2⟩:=hb
  exact ⟨cells,e,ho,⟨rfl,h1,h2⟩,hg⟩
theorem live_rd {B : World} {G : Gh} {H : AHeap} {w : World} (hS : Sim B G H w) {b c : Nat} {cs : List AV} (h : H.rd b = some cs) (hc : G.β b = some c) :
    ∃ cells e,w.heap[c]? = some (.cells cells e (0,0))∧BR G (.cells cs) (.cells cells e (0,0)):=by
  unfold AHeap.rd at h
  cases hb : H.cells b with
  | some ds =>
    rw [hb] at h; cases h
    obtain ⟨cells,e,h1,h2,_⟩:=live_cells hS hb hc
    exact ⟨cells,e,h1,h2⟩
  | none =>
    rw [hb] at h
    obtain ⟨c',cells,e,h1,h2,h3⟩:=hS.frz.rd b cs (AHeap.frd_get (by simpa using h))
    rw [hc] at h1; cases h1
    exact ⟨cells,e,hS.fz _ _ h2,h3⟩
theorem live_sz {B : World} {G : Gh} {H : AHeap} {w : World} (hS : Sim B G H w) {b c : Nat} {cs : List AV} (h : H.cells b = some cs) (hc : G.β b = some c) : ∃ s,G.sz c = some s∧cs.length ≤ s.1:=by
  obtain ⟨cells,e,h1,h2,h3⟩:=live_cells hS h hc
  have hle : B.heap.size ≤ c:=by
    rcases Nat.lt_or_ge c B.heap.size with hlt | hge
    · have h4:=hS.nofz b _ c h3 hc
      rw [hS.base c hlt] at h4
      simp at h4; omega
    · exact hge
  exact ⟨_,hS.sz c _ hle h1,h2.2.1⟩
theorem aload_sim {P : Program} {B : World} {G : Gh} {H : AHeap} {w : World} (hS : Sim B G H w) {T : TypeId} {a v : AV} {a' : Value} (ha : VR G a a') (h : aload P T H a = some v) :
    ∃ v',(Instr.loadAt T a').run P w = .ok v' w∧VR G v v':=by
  cases a <;> simp only [aload,reduceCtorEq] at h
  case ptr b off =>
    simp only [Option.bind_eq_some_iff] at h
    obtain ⟨cs,h1,h2⟩:=h
    cases ha with
    | ptr hc =>
      obtain ⟨cells,e,h3,h4⟩:=live_rd hS h1 hc
      obtain ⟨v',h5,h6⟩:=loadVar_sim (P:=P) (cellsAt_block h3 h4) h2
      exact ⟨v',by simpa [Instr.loadAt,Instr.sureAddr] using h5,h6⟩
  case iptr cs =>
    cases ha with
    | iptr vs h1 h2 h3 h4 =>
      obtain ⟨v',h5,h6⟩:=loadVar_sim (P:=P) (cellsAt_frozen (hS.fz _ _ h1) vs h2 h3 h4) h
      exact ⟨v',by simpa [Instr.loadAt,Instr.sureAddr] using h5,h6⟩
theorem structOf_spec {P : Program} {s : TypeId} {fs : Array Field} (h : structOf P s = some fs) : P.underlying s = some (.struct fs):=by
  unfold structOf at h
  split at h
  · simp at h; subst h; assumption
  · cases h
theorem sliceElem_spec {P : Program} {s e : TypeId} (h : sliceElem P s = some e) : P.underlying s = some (.slice e):=by
  unfold sliceElem at h
  split at h
  · simp at h; subst h; assumption
  · cases h
theorem arrayOf_spec {P : Program} {s e : TypeId} {n : Nat} (h : arrayOf P s = some (n,e)) : P.underlying s = some (.array n e):=by
  unfold arrayOf at h
  split at h
  · simp at h; obtain ⟨rfl,rfl⟩:=h; assumption
  · cases h
theorem iptr_drop {G : Gh} {cs : List AV} {c o : Nat} (k : Nat) (h : VR G (.iptr cs) (.pointer (some ⟨c,o,none⟩))) : VR G (.iptr (cs.drop k)) (.pointer (some ⟨c,o + k,none⟩)):=by
  cases h with
  | iptr vs h1 h2 h3 h4 =>
    refine .iptr (fun j => vs (k + j)) h1 (fun j hj => ?_) (fun j hj => h3 _ (by simp at hj; omega)) (fun j hj => ?_)
    · rw [Nat.add_assoc]; exact h2 _ (by simp at hj; omega)
    · simp only [List.getElem_drop]; exact h4 _ (by simp at hj; omega)
theorem afieldAddr_sim {P : Program} {G : Gh} {w : World} {s : TypeId} {f : Nat} {a v : AV} {a' : Value} (ha : VR G a a') (h : afieldAddr P s a f = some v) :
    ∃ v',(Instr.fieldAt s a' f).run P w = .ok v' w∧VR G v v':=by
  simp only [afieldAddr,Option.bind_eq_bind,Option.bind_eq_some_iff] at h
  obtain ⟨fs,h1,fd,h2,n,h3,h⟩:=h
  split at h
  · cases h
  · rename_i hn
    have key : ∀ ad : Addr,(fieldPlace ad fd).run P w = .ok (ad.add fd.offset) w:=fun ad => by
      unfold fieldPlace
      rw [Sem.run_bind,run_szOf h3]
      simp [hn]
    have run : ∀ ad : Addr,(Instr.fieldAt s (.pointer (some ad)) f).run P w = .ok (.pointer (some (ad.add fd.offset))) w:=fun ad => by
      unfold Instr.fieldAt
      rw [Sem.run_bind,run_und (structOf_spec h1)]
      simp [h2,Instr.sureAddr,key]
    cases a <;> simp only [reduceCtorEq,Option.some.injEq] at h
    case ptr b off =>
      subst h
      cases ha with
      | ptr hc => exact ⟨_,run _,by rw [addr_add]; exact .ptr hc⟩
    case iptr cs =>
      subst h
      cases ha with
      | iptr vs g1 g2 g3 g4 => exact ⟨_,run _,by rw [addr_add]; exact iptr_drop _ (.iptr vs g1 g2 g3 g4)⟩
theorem asNat_spec {G : Gh} {a : AV} {i : Nat} {v : Value} (h : asNat a = some i) (r : VR G a v) : ∃ k,v = .int k i:=by
  unfold asNat at h
  split at h
  · split at h
    · rename_i k n hn
      simp at h; subst h
      refine ⟨k,?_⟩
      rw [r.sc_inv]
      show Value.int k n = _
      congr 1; omega
    · cases h
  · cases h
theorem aindexAddr_sim {P : Program} {G : Gh} {w : World} {T : TypeId} {a ix v : AV} {a' ix' : Value} (ha : VR G a a') (hi : VR G ix ix') (h : aindexAddr P T a ix = some v) :
    ∃ v',(Instr.indexAt T a' ix').run P w = .ok v' w∧VR G v v':=by
  simp only [aindexAddr,Option.bind_eq_bind,Option.bind_eq_some_iff] at h
  obtain ⟨i,h1,h⟩:=h
  obtain ⟨k,rfl⟩:=asNat_spec h1 hi
  have slc : ∀ (ad : Addr) (len cap e n : Nat),P.underlying T = some (.slice e)→szOf P e = some n→i < len →
      (Instr.indexAt T (.slice (some ad) len cap) (.int k i)).run P w = .ok (.pointer (some (ad.add (i * n)))) w:=fun ad len cap e n hu hn hl => by
    unfold Instr.indexAt
    simp [asIntOf,run_und hu,run_szOf hn,hl]
  have arr : ∀ (ad : Addr) (len e n : Nat),P.underlying T = some (.array len e)→szOf P e = some n→i < len →
      (Instr.indexAt T (.pointer (some ad)) (.int k i)).run P w = .ok (.pointer (some (ad.add (i * n)))) w:=fun ad len e n hu hn hl => by
    unfold Instr.indexAt
    simp [asIntOf,run_und hu,run_szOf hn,hl,Instr.sureAddr]
  cases a <;> simp only [reduceCtorEq,Option.bind_eq_some_iff] at h
  case slice b off len cap n' =>
    obtain ⟨e,h2,n,h3,h⟩:=h
    split at h
    · rename_i hlt
      simp at h; subst h
      cases ha with
      | slice hc h4 h5 => exact ⟨_,slc _ _ _ _ _ (sliceElem_spec h2) h3 hlt.1,by rw [addr_add]; exact .ptr hc⟩
    · cases h
  case imm l =>
    obtain ⟨e,h2,n,h3,x,h4,h⟩:=h
    split at h
    · rename_i hx
      simp at h; subst h
      obtain ⟨hl,rfl⟩:=List.getElem?_eq_some_iff.1 h4
      cases ha with
      | immNil => simp at hl
      | imm vs g1 g2 g3 g4 g5 g6 =>
        refine ⟨_,slc _ _ _ _ _ (sliceElem_spec h2) h3 hl,?_⟩
        rw [addr_add]
        have hn:=g2 i hl
        rw [hx.1] at hn
        subst hn
        exact .iptr (vs i) g1 (fun j hj => g4 i j hl (by rw [hx.1] at hj; exact hj)) (fun j hj => g5 i j hl (by rw [hx.1] at hj; exact hj)) (fun j hj => g6 i hl j hj)
    · cases h
  case ptr b off =>
    obtain ⟨⟨m,e⟩,h2,n,h3,h⟩:=h
    simp only at h
    split at h
    · simp at h; subst h
      cases ha with
      | ptr hc => exact ⟨_,arr _ _ _ _ (arrayOf_spec h2) h3 (by assumption),by rw [addr_add]; exact .ptr hc⟩
    · cases h
  case iptr cs =>
    obtain ⟨⟨m,e⟩,h2,n,h3,h⟩:=h
    simp only at h
    split at h
    · simp at h; subst h
      cases ha with
      | iptr vs g1 g2 g3 g4 => exact ⟨_,arr _ _ _ _ (arrayOf_spec h2) h3 (by assumption),by rw [addr_add]; exact iptr_drop _ (.iptr vs g1 g2 g3 g4)⟩
    · cases h
end Go.Hem
