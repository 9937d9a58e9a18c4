/- Joined. -/
import Derived.Test.YtldflacehmpjkaaGreatDoorHemKnown
set_option linter.unusedVariables false
set_option linter.unusedSimpArgs false
namespace Go.Hem
open Go.RowKit
theorem at_setCell {w : World} {c : Nat} {cells : Array Value} {e : TypeId} {fr : Nat × Nat} (off : Nat) (v : Value) (h : w.heap[c]? = some (.cells cells e fr)) : At w (w.setCell ⟨c,off,none⟩ v) c (.cells (cells.setIfInBounds off v) e fr):=by
  refine ⟨⟨rfl,rfl,rfl⟩,by simp [World.setCell],?_,fun k hk => ?_⟩
  · simp [World.setCell,Array.getElem?_modify,h]
  · simp only [World.setCell,Array.getElem?_modify]
    rw [if_neg (fun e => hk e.symm)]
def ccEff (TB : TypeId) (args : List AV) (H : AHeap) : Option (AV × AHeap) :=
  match args with
  | [.ptr b 0] =>
    match H.cells b with
    | some [.sc .nilp,y] => if (b,2,TB) ∈ H.fr.tg then some (.tup [],H.put b (some (.cells [.ptr b 0,y]))) else none
    | some [.ptr b' 0,y] => if b' = b then some (.tup [],H) else none
    | _ => none
  | _ => none
theorem cc_ok {P : Program} {B : World} {f : FuncId} {TB : TypeId}
    (used : ∀ c w,w.cell? ⟨c,0,none⟩ = some (.pointer (some ⟨c,0,none⟩))→Calls P f #[.pointer (some ⟨c,0,none⟩)] w fun e w' => e = .returned (.tuple #[])∧w' = w)
    (fresh : ∀ c w,w.cell? ⟨c,0,none⟩ = some (.pointer none)→w.shape? c = some (TB,2)→w.frozen? ⟨c,0,none⟩ = false→Calls P f #[.pointer (some ⟨c,0,none⟩)] w fun e w' => e = .returned (.tuple #[])∧w' = w.setCell ⟨c,0,none⟩ (.pointer (some ⟨c,0,none⟩)))
    {args : List AV} {H H' : AHeap} {v : AV} (h : ccEff TB args H = some (v,H')) : H.next ≤ H'.next∧CallOK P B f args H v H':=by
  unfold ccEff at h
  split at h
  rotate_left
  · cases h
  rename_i b
  split at h
  · rename_i y hcs
    split at h
    rotate_left
    · cases h
    rename_i htg
    simp only [Option.some.injEq,Prod.mk.injEq] at h
    obtain ⟨rfl,rfl⟩:=h
    refine ⟨by simp,callOK_of fun G w args' hS hC hv => ?_⟩
    obtain ⟨u1,m1,e1,v1,hv⟩:=hv.of_cons
    have e3:=hv.of_nil
    subst e3
    have ea : args' = #[u1]:=by rw [← Array.toArray_toList (xs:=args'),e1]
    subst ea
    cases v1 with
    | ptr hc =>
      rename_i c
      obtain ⟨cells,el,h1,h2,h3⟩:=live_cells hS hcs hc
      obtain ⟨c',t1,n2,t2,t3⟩:=hS.frz.tg b (2,TB) htg
      have t3:=t3 (by simp)
      simp only at t3
      subst t3
      rw [hc] at t1
      cases t1
      have hge:=own_block hS h3 hc
      have hsz:=hS.sz c _ hge h1
      rw [t2] at hsz
      simp only [Obj.csize,Option.some.injEq,Prod.mk.injEq] at hsz
      obtain ⟨hs2,rfl⟩:=hsz
      have hV : ∀ j (a : j < 2),VR G ([AV.sc .nilp,y][j]'(by simpa using a)) (cells[j]'(by omega)):=fun j a => (h2.2.2 j (by simpa using a) (by omega)).1
      have hO : ∀ j (a : j < 2),(cells[j]'(by omega)).oneCell' = true:=fun j a => (h2.2.2 j (by simpa using a) (by omega)).2
      have c0 : cells[0]? = some (.pointer none):=by
        rw [Array.getElem?_eq_getElem (by omega)]
        exact congrArg some (hV 0 (by omega)).sc_inv
      have hcell : w.cell? ⟨c,0,none⟩ = some (.pointer none):=by
        show (match w.heap[c]? with | some (.cells cc _ _) => (if (none : Option _).isSome = true then none else cc[0]?) | _ => none) = _
        rw [h1]; exact c0
      have hsh : w.shape? c = some (TB,2):=by
        unfold World.shape?
        rw [h1,hs2]
      have hfz : w.frozen? ⟨c,0,none⟩ = false:=by
        unfold World.frozen?
        rw [h1]; simp
      have hat:=at_setCell (w:=w) 0 (.pointer (some ⟨c,0,none⟩)) h1
      obtain ⟨s1,s2⟩:=sim_at (x:=.cells [.ptr b 0,y]) hS h3 hc hat (by simp [h1,Obj.csize]) ⟨rfl,by simp; omega,fun j a d => by
        have d' : j < cells.size:=by simpa using d
        rcases j with _ | _ | j
        · exact ⟨by simpa using VR.ptr hc,by simp [Value.oneCell']⟩
        · have q1:=hV 1 (by omega)
          have q2:=hO 1 (by omega)
          have q3 : (cells.setIfInBounds 0 (.pointer (some ⟨c,0,none⟩)))[0 + 1]'d = cells[1]'(by omega):=by
            exact Array.getElem_setIfInBounds_ne (by simpa using d) (by decide)
          rw [q3]
          exact ⟨q1,q2⟩
        · simp at a; omega⟩ rfl (fun l e => by rw [h1] at e; cases e)
      exact ⟨G,_,.tuple #[],s1,s2,.tup (cs:=[]) (vs:=[]) rfl (fun i a => by simp at a),fresh c w hcell hsh hfz⟩
  · rename_i b' y hcs
    split at h
    rotate_left
    · cases h
    rename_i hbb
    simp only [Option.some.injEq,Prod.mk.injEq] at h
    obtain ⟨rfl,rfl⟩:=h
    subst hbb
    refine ⟨Nat.le_refl _,callOK_of fun G w args' hS hC hv => ?_⟩
    obtain ⟨u1,m1,e1,v1,hv⟩:=hv.of_cons
    have e3:=hv.of_nil
    subst e3
    have ea : args' = #[u1]:=by rw [← Array.toArray_toList (xs:=args'),e1]
    subst ea
    cases v1 with
    | ptr hc =>
      rename_i c
      obtain ⟨cells,el,h1,h2,h3⟩:=live_cells hS hcs hc
      have hl : 2 ≤ cells.size:=h2.2.1
      have q:=(h2.2.2 0 (by simp) (by omega)).1
      have c0 : cells[0]? = some (.pointer (some ⟨c,0,none⟩)):=by
        rw [Array.getElem?_eq_getElem (by omega)]
        simp only [List.getElem_cons_zero] at q
        generalize cells[0] = z at q
        cases q with
        | ptr hc' => rw [hc] at hc'; cases hc'; rfl
      have hcell : w.cell? ⟨c,0,none⟩ = some (.pointer (some ⟨c,0,none⟩)):=by
        show (match w.heap[c]? with | some (.cells cc _ _) => (if (none : Option _).isSome = true then none else cc[0]?) | _ => none) = _
        rw [h1]; exact c0
      exact ⟨G,w,.tuple #[],hS,Step.refl _ _ _,.tup (cs:=[]) (vs:=[]) rfl (fun i a => by simp at a),used c w hcell⟩
  · cases h
end Go.Hem
set_option linter.unusedVariables false
set_option linter.unusedSimpArgs false
namespace Go.Hem
open Go.RowKit
theorem sim_fall {B : World} {G : Gh} {H : AHeap} {w w' : World} {y : Blk} {o : Obj} {b c : Nat} (hS : Sim B G H w) (hg : H.get b = some y) (hc : G.β b = some c) (hp : At w w' c o)
    (hcs : (w.heap[c]?).bind Obj.csize = Obj.csize o) (hloop : ∀ l,w.heap[c]? = some (Obj.loop l)→∃ l',o = Obj.loop l') :
    Sim B (G.frz w' c) (H.put b none) w'∧Step G H w (G.frz w' c) (H.put b none) w':=by
  obtain ⟨hsame,hsz,hnew,hold⟩:=hp
  obtain ⟨e1,e2,e3⟩:=hsame.sim hS.os hS.tape hS.output
  have hD:=sim_drop hS hg
  have hnf:=hS.nofz b y c hg hc
  have hge:=own_block hS hg hc
  have hx : Ext G (G.frz w' c):=⟨fun _ _ h => h,fun c' o h => by
    simp only [Gh.frz]; split
    · rename_i e; subst e; rw [hnf] at h; cases h
    · exact h,fun _ _ h => h,rfl⟩
  have getc : ∀ b' z,(H.put b none).get b' = some z→b' ≠ b∧H.get b' = some z:=fun b' z h => by
    by_cases e : b' = b
    · subst e; rw [AHeap.get_put_self _ hg] at h; cases h
    · rw [AHeap.get_put_ne H _ e] at h; exact ⟨e,h⟩
  constructor
  · refine ⟨e1,e2,e3,by have:=hS.size; omega,?_,?_,?_,hD.inj,?_,?_,?_,?_,?_,hS.frz.ext hx (AHeap.fr_put H b _)⟩
    · intro c' h; simp only [Gh.frz]; rw [if_neg (by omega)]; exact hS.base c' h
    · intro c' o' h
      simp only [Gh.frz] at h
      split at h
      · rename_i e; subst e; exact h
      · rename_i e; rw [hold c' e]; exact hS.fz c' o' h
    · intro b' z c' h1 h2
      obtain ⟨hne,h3⟩:=getc b' z h1
      have hne' : c' ≠ c:=fun e => by subst e; exact hne (hS.inj b' b z y c' h3 hg h2 hc)
      obtain ⟨o',h4,h5⟩:=hS.live b' z c' h3 h2
      exact ⟨o',by rw [hold c' hne']; exact h4,h5.mono hx⟩
    · intro b' z c' h1 h2
      obtain ⟨hne,h3⟩:=getc b' z h1
      simp only [Gh.frz]
      have hne' : c' ≠ c:=fun e => by subst e; exact hne (hS.inj b' b z y c' h3 hg h2 hc)
      rw [if_neg hne']; exact hS.nofz b' z c' h3 h2
    · intro b' c' h; rw [hsz]; exact hS.rng b' c' h
    · intro c' o' h1 h2
      by_cases e : c' = c
      · subst e; exact .inr (by simp only [Gh.frz,if_true]; exact h2)
      · rw [hold c' e] at h2
        exact (hS.plain c' o' h1 h2).imp_right (hx.fz _ _)
    · intro c' o' h1 h2
      by_cases e : c' = c
      · subst e; rw [hnew] at h2; cases h2
        obtain ⟨oc,ho,_⟩:=hS.live b y c' hg hc
        rw [← hcs,ho]; exact hS.sz c' oc h1 ho
      · rw [hold c' e] at h2; exact hS.sz c' o' h1 h2
    · intro c' s h; rw [hsz]; exact hS.szr c' s h
  · refine ⟨hx,fun _ _ h => .inl h,by simp,by omega,?_,?_,?_,?_,?_⟩
    · intro c' hc' hno
      have hne : c' ≠ c:=fun e => by subst e; exact hno b y hg hc
      exact hold c' hne
    · intro b' z h1 h2
      have hne : b' ≠ b:=fun e => by subst e; rw [hc] at h2; cases h2
      rw [AHeap.get_put_ne H _ hne]; exact h1
    · intro b' z c' h1 h2 h3
      obtain ⟨hne,h4⟩:=getc b' z h1
      exact ⟨b',z,h4,h2⟩
    · intro c' o' h1 h2
      simp only [Gh.frz] at h1
      split at h1
      · rename_i e; subst e; exact .inr ⟨b,y,hg,hc⟩
      · rw [h1] at h2; cases h2
    · intro c' l h
      by_cases e : c' = c
      · subst e
        obtain ⟨l',rfl⟩:=hloop l h
        exact ⟨l',hnew⟩
      · exact ⟨l,by rw [hold c' e]; exact h⟩
def byteS : AV→Option UInt8
  | .sc (.int .u8 n) => if 0 ≤ n∧n < 256 then some (UInt8.ofNat n.toNat) else none
  | _ => none
theorem byteS_inv {v : AV} {x : UInt8} (h : byteS v = some x) : v = .sc (.int .u8 x.toNat):=by
  unfold byteS at h
  split at h
  rotate_left
  · cases h
  rename_i n
  split at h
  rotate_left
  · cases h
  rename_i hn
  simp only [Option.some.injEq] at h
  subst h
  congr 2
  rw [UInt8.toNat_ofNat']
  omega
theorem bytesS_inv : ∀ {cs : List AV} {l : List UInt8},cs.mapM byteS = some l→cs = l.map fun x => AV.sc (.int .u8 x.toNat)
  | [],l,h => by simp at h; subst h; rfl
  | c :: cs,l,h => by
    simp only [List.mapM_cons,Option.bind_eq_bind,Option.bind_eq_some_iff,Option.pure_def,Option.some.injEq] at h
    obtain ⟨b,hb,l',hl,rfl⟩:=h
    rw [byteS_inv hb,bytesS_inv hl]; rfl
def strEff (T : TypeId) (args : List AV) (H : AHeap) : Option (AV × AHeap) :=
  match args with
  | [.ptr b 0] =>
    match H.cells b with
    | some [_,.sc .nils] => some (.sc (.str .empty),H)
    | some [_,.slice d 0 len _ 1] =>
      if hasTg T d H.fr.tg = true∧len ≠ 0∧len ≤ 140737488355328 then
        (H.cells d).bind fun cs => if len ≤ cs.length then ((cs.take len).mapM byteS).map fun l => (.sc (.str ⟨l.toArray⟩),H.put d none) else none
      else none
    | _ => none
  | _ => none
theorem at_freeze {w : World} {c n : Nat} {cells : Array Value} {e : TypeId} (hn : n ≠ 0) (h : w.heap[c]? = some (.cells cells e (0,0))) : At w (w.drew.freeze ⟨c,0,none⟩ n) c (.cells cells e (0,n)):=by
  have hd : w.drew.heap = w.heap:=rfl
  refine ⟨?_,?_,?_,fun k hk => ?_⟩
  · unfold World.freeze; rw [if_neg hn]; exact ⟨rfl,rfl,rfl⟩
  · unfold World.freeze; rw [if_neg hn]; simp [hd]
  · unfold World.freeze; rw [if_neg hn]
    simp only [hd,Array.getElem?_modify,if_true,h]
    simp
  · unfold World.freeze; rw [if_neg hn]
    simp only [hd,Array.getElem?_modify]
    rw [if_neg (fun e => hk e.symm)]
theorem str_ok {P : Program} {B : World} {f : FuncId} {T : TypeId}
    (row : ∀ b g cap cells (l : List UInt8) w,w.cell? ⟨b,1,none⟩ = some (.slice (some ⟨g,0,none⟩) l.length cap)→cap ≠ 0→w.shape? g = some (T,cells)→l ≠ []→l.length ≤ cells→l.length ≤ 9223372036854775807 →
      (∀ j x,l[j]? = some x→w.cell? ((⟨g,0,none⟩ : Addr).add j) = some (.int .u8 x.toNat))→Calls P f #[.pointer (some ⟨b,0,none⟩)] w fun e w' => e = .returned (.string ⟨l.toArray⟩)∧w' = w.drew.freeze ⟨g,0,none⟩ l.length)
    (nil : ∀ b w,w.cell? ⟨b,1,none⟩ = some (.slice none 0 0)→Calls P f #[.pointer (some ⟨b,0,none⟩)] w fun e w' => e = .returned (.string .empty)∧w' = w.drew)
    {args : List AV} {H H' : AHeap} {v : AV} (h : strEff T args H = some (v,H')) : H.next ≤ H'.next∧CallOK P B f args H v H':=by
  unfold strEff at h
  split at h
  rotate_left
  · cases h
  rename_i b
  split at h
  · rename_i y hcs
    simp only [Option.some.injEq,Prod.mk.injEq] at h
    obtain ⟨rfl,rfl⟩:=h
    refine ⟨Nat.le_refl _,callOK_of fun G w args' hS hC hv => ?_⟩
    obtain ⟨u1,m1,e1,v1,hv⟩:=hv.of_cons
    have e3:=hv.of_nil
    subst e3
    have ea : args' = #[u1]:=by rw [← Array.toArray_toList (xs:=args'),e1]
    subst ea
    cases v1 with
    | ptr hc =>
      rename_i c
      obtain ⟨cells,el,h1,h2,h3⟩:=live_cells hS hcs hc
      have hl : 2 ≤ cells.size:=h2.2.1
      have q:=(h2.2.2 1 (by simp) (by omega)).1
      have c1 : w.cell? ⟨c,1,none⟩ = some (.slice none 0 0):=by
        show (match w.heap[c]? with | some (.cells cc _ _) => (if (none : Option _).isSome = true then none else cc[1]?) | _ => none) = _
        rw [h1]
        show cells[1]? = _
        rw [Array.getElem?_eq_getElem (by omega)]
        exact congrArg some q.sc_inv
      exact ⟨G,w.drew,.string .empty,hS.drew,step_drew _ _ _,.sc (.str .empty),nil c w c1⟩
  · rename_i y d len cap hcs
    split at h
    rotate_left
    · cases h
    rename_i hcond
    obtain ⟨htg,hlen0,hlenB⟩:=hcond
    simp only [Option.bind_eq_some_iff] at h
    obtain ⟨cs,hd,h⟩:=h
    split at h
    rotate_left
    · cases h
    rename_i hle
    simp only [Option.map_eq_some_iff,Prod.mk.injEq] at h
    obtain ⟨l,hl,rfl,rfl⟩:=h
    have hl:=bytesS_inv hl
    have hll : l.length = len:=by have:=congrArg List.length hl; simp at this; omega
    subst hll
    refine ⟨by simp,callOK_of fun G w args' hS hC hv => ?_⟩
    obtain ⟨u1,m1,e1,v1,hv⟩:=hv.of_cons
    have e3:=hv.of_nil
    subst e3
    have ea : args' = #[u1]:=by rw [← Array.toArray_toList (xs:=args'),e1]
    subst ea
    cases v1 with
    | ptr hc =>
      rename_i c
      obtain ⟨cells,el,h1,h2,h3⟩:=live_cells hS hcs hc
      have hl2 : 2 ≤ cells.size:=h2.2.1
      have q:=(h2.2.2 1 (by simp) (by omega)).1
      simp only [List.getElem_cons_succ,List.getElem_cons_zero] at q
      have c1 : ∃ z,cells[1]? = some z∧VR G (.slice d 0 l.length cap 1) z:=⟨_,Array.getElem?_eq_getElem (by omega),q⟩
      obtain ⟨z,c1,q⟩:=c1
      cases q with
      | @slice _ _ _ _ _ g cap' sz hg l1 l2 l3 l4 =>
        obtain ⟨cellsd,eld,k1,k2,k3⟩:=live_cells hS hd hg
        obtain ⟨g2,r1,n2,r2,_⟩:=hS.frz.tg _ _ (hasTg_mem htg)
        rw [hg] at r1
        cases r1
        have hge:=own_block hS k3 hg
        have hsz:=hS.sz g _ hge k1
        rw [r2] at hsz
        simp only [Obj.csize,Option.some.injEq,Prod.mk.injEq] at hsz
        obtain ⟨rfl,rfl⟩:=hsz
        have hcell1 : w.cell? ⟨c,1,none⟩ = some (.slice (some ⟨g,0,none⟩) l.length cap'):=by
          show (match w.heap[c]? with | some (.cells cc _ _) => (if (none : Option _).isSome = true then none else cc[1]?) | _ => none) = _
          rw [h1]; exact c1
        have hshape : w.shape? g = some (T,cellsd.size):=by unfold World.shape?; rw [k1]
        have hcsz : cs.length ≤ cellsd.size:=k2.2.1
        have hbytes : ∀ j x,l[j]? = some x→w.cell? ((⟨g,0,none⟩ : Addr).add j) = some (.int .u8 x.toNat):=fun j x hx => by
          have hj : j < l.length:=(List.getElem?_eq_some_iff.1 hx).1
          have hjc : j < cs.length:=by omega
          have hv1:=(k2.2.2 j hjc (by omega)).1
          have hcj : cs[j] = .sc (.int .u8 x.toNat):=by
            have e5 : (cs.take l.length)[j]? = some (.sc (.int .u8 x.toNat)):=by rw [hl]; simp [hx]
            rw [List.getElem?_take_of_lt hj,List.getElem?_eq_getElem hjc] at e5
            exact Option.some.inj e5
          rw [hcj] at hv1
          have e6:=hv1.sc_inv
          rw [addr_add]
          show (match w.heap[g]? with | some (.cells cc _ _) => (if (none : Option _).isSome = true then none else cc[0 + j]?) | _ => none) = _
          rw [k1]
          show cellsd[0 + j]? = _
          rw [Nat.zero_add,Array.getElem?_eq_getElem (by omega)]
          exact congrArg some e6
        have hat:=at_freeze (w:=w) (n:=l.length) hlen0 k1
        obtain ⟨s1,s2⟩:=sim_fall hS k3 hg hat (by simp [k1,Obj.csize]) (fun l e => by rw [k1] at e; cases e)
        exact ⟨_,_,.string ⟨l.toArray⟩,s1,s2,.sc (.str _),row c g cap' cellsd.size l w hcell1 (by omega) hshape (by intro e; subst e; exact hlen0 rfl) (by omega) (by omega) hbytes⟩
  · cases h
end Go.Hem
