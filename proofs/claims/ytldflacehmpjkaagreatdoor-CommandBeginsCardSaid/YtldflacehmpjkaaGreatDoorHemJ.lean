/- Joined. -/
import Derived.Test.YtldflacehmpjkaaGreatDoorHemH
set_option linter.unusedSimpArgs false
set_option linter.unusedVariables false
namespace Go.Hem
theorem VR.cells_one {G : Gh} {a : AV} {v : Value} (h : VR G a v) (hv : v.oneCell' = true) : a.cells = [a]:=by
  cases h <;> first | rfl | (simp [Value.oneCell'] at hv)
theorem rows_len (n : Nat) : ∀ k cs,(rows n k cs).length = k
  | 0,_ => rfl
  | k + 1,cs => by simp [rows,rows_len n k]
theorem rows_get (n : Nat) (hn : n ≠ 0) : ∀ k cs,k * n ≤ cs.length→(∀ x ∈ cs,x.cells = [x])→∀ i (h : i < (rows n k cs).length),(rows n k cs)[i].cells = (cs.drop (i * n)).take n
  | 0,_,_,_,i,h => by simp [rows] at h
  | k + 1,cs,hl,hx,0,h => by
    simp only [rows,List.getElem_cons_zero,Nat.zero_mul,List.drop_zero]
    split
    · rename_i h1
      subst h1
      cases cs with
      | nil => simp at hl
      | cons x l => simp; exact hx x (by simp)
    · rfl
  | k + 1,cs,hl,hx,i + 1,h => by
    simp only [rows,List.getElem_cons_succ]
    rw [rows_get n hn k (cs.drop n) (by rw [Nat.add_mul] at hl; simp; omega) (fun x h => hx x (List.mem_of_mem_drop h)) i (by simpa [rows] using h),List.drop_drop]
    congr 2
    rw [Nat.add_mul]; omega
def Gh.frz (G : Gh) (w : World) (c : Nat) : Gh:=⟨G.β,fun c' => if c' = c then w.heap[c]? else G.fz c',G.sz,G.sym⟩
theorem sim_freeze {B : World} {G : Gh} {H : AHeap} {w : World} {y : Blk} {b c : Nat} (hS : Sim B G H w) (hg : H.get b = some y) (hc : G.β b = some c) :
    Sim B (G.frz w c) (H.put b none) w∧Step G H w (G.frz w c) (H.put b none) w:=by
  have hD:=sim_drop hS hg
  have hT:=step_drop (w:=w) hg hc
  have hnf:=hS.nofz b y c hg hc
  have hge:=own_block hS hg hc
  have hx : Ext G (G.frz w c):=⟨fun _ _ h => h,fun c' o h => by
    simp only [Gh.frz]; split
    · rename_i e; subst e; rw [hnf] at h; cases h
    · exact h,fun _ _ h => h,rfl⟩
  have getc : ∀ b' z,(H.put b none).get b' = some z→b' ≠ b∧H.get b' = some z:=fun b' z h => by
    by_cases e : b' = b
    · subst e; rw [AHeap.get_put_self _ hg] at h; cases h
    · rw [AHeap.get_put_ne H _ e] at h; exact ⟨e,h⟩
  constructor
  · refine ⟨hD.os,hD.tape,hD.output,hD.size,?_,?_,?_,hD.inj,?_,hD.rng,fun c o h1 h2 => (hD.plain c o h1 h2).imp_right (hx.fz _ _),hD.sz,hD.szr,hS.frz.ext hx (AHeap.fr_put H b _)⟩
    · intro c' h; simp only [Gh.frz]; rw [if_neg (by omega)]; exact hS.base c' h
    · intro c' o h
      simp only [Gh.frz] at h
      split at h
      · rename_i e; subst e; exact h
      · exact hS.fz c' o h
    · intro b' z c' h1 h2
      obtain ⟨o,h3,h4⟩:=hD.live b' z c' h1 h2
      exact ⟨o,h3,h4.mono hx⟩
    · intro b' z c' h1 h2
      obtain ⟨hne,h3⟩:=getc b' z h1
      simp only [Gh.frz]
      have hne' : c' ≠ c:=fun e => by subst e; exact hne (hS.inj b' b z y c' h3 hg h2 hc)
      rw [if_neg hne']; exact hS.nofz b' z c' h3 h2
  · refine ⟨hx,fun _ _ h => .inl h,by simp,Nat.le_refl _,fun _ _ _ => rfl,hT.pend,hT.img,?_,fun c l h => ⟨l,h⟩⟩
    intro c' o h1 h2
    simp only [Gh.frz] at h1
    split at h1
    · rename_i e; subst e; exact .inr ⟨b,y,hg,hc⟩
    · rw [h1] at h2; cases h2
def FzOK (B : World) (fz : AV→AHeap→Option (AV × AHeap)) : Prop:=∀ v H v' H',fz v H = some (v',H')→∀ (G : Gh) (w : World) (y : Value),Sim B G H w→VR G v y →
    ∃ G',Sim B G' H' w∧Step G H w G' H' w∧VR G' v' y
theorem freezeL_sim {B : World} {fz : AV→AHeap→Option (AV × AHeap)} (hf : FzOK B fz) : ∀ (l : List AV) (H : AHeap) (l' : List AV) (H' : AHeap),freezeL fz l H = some (l',H')→∀ (G : Gh) (w : World) (vs : List Value),Sim B G H w→VRs G l vs →
    ∃ G',Sim B G' H' w∧Step G H w G' H' w∧VRs G' l' vs
  | [],H,l',H',h,G,w,vs,hS,hv => by
    simp [freezeL] at h
    obtain ⟨rfl,rfl⟩:=h
    exact ⟨G,hS,Step.refl _ _ _,hv⟩
  | v :: l,H,l',H',h,G,w,vs,hS,hv => by
    simp only [freezeL,Option.bind_eq_some_iff,Option.map_eq_some_iff,Prod.mk.injEq] at h
    obtain ⟨⟨v1,H1⟩,h1,⟨l1,H2⟩,h2,h3,h4⟩:=h
    simp only at h2 h3 h4
    subst h3 h4
    obtain ⟨y,vs',rfl,hy,hvs⟩:=hv.of_cons
    obtain ⟨G1,g1,g2,g3⟩:=hf v H v1 H1 h1 G w y hS hy
    obtain ⟨G2,g4,g5,g6⟩:=freezeL_sim hf l H1 l1 H2 h2 G1 w vs' g1 (hvs.mono g2.ext)
    exact ⟨G2,g4,g2.trans g5,VRs.cons (g3.mono g5.ext) g6⟩
theorem sim_addFr {B : World} {G : Gh} {H : AHeap} {w : World} {b c : Nat} {cs : List AV} {cells : Array Value} {e : TypeId} (hS : Sim B G H w) (hc : G.β b = some c) (hf : G.fz c = some (.cells cells e (0,0))) (hb : BR G (.cells cs) (.cells cells e (0,0))) : Sim B G (H.addFr b cs) w :=
  ⟨hS.os,hS.tape,hS.output,hS.size,hS.base,hS.fz,hS.live,hS.inj,hS.nofz,hS.rng,hS.plain,hS.sz,hS.szr,fun b' cs' h => by
    simp only [AHeap.fr_addFr,frGet,frGetL] at h
    split at h
    · rename_i e; cases h; subst e; exact ⟨c,cells,_,hc,hf,hb⟩
    · exact hS.frz.rd b' cs' h,fun b' T h => hS.frz.tg b' T h⟩
theorem sim_addTg {B : World} {G : Gh} {H : AHeap} {w : World} {b c : Nat} {T : Nat × TypeId} (hS : Sim B G H w) (hc : G.β b = some c) (hs : SzIs T (G.sz c)) : Sim B G (H.addTg b T) w :=
  ⟨hS.os,hS.tape,hS.output,hS.size,hS.base,hS.fz,hS.live,hS.inj,hS.nofz,hS.rng,hS.plain,hS.sz,hS.szr,fun b' cs' h => hS.frz.rd b' cs' h,fun b' T' h => by
    rcases List.mem_cons.1 h with e | e
    · cases e; exact ⟨c,hc,hs⟩
    · exact hS.frz.tg b' T' e⟩
theorem step_addTg {G G' : Gh} {H H' : AHeap} {w w' : World} (b : Nat) (T : Nat × TypeId) (h : Step G H w G' H' w') : Step G H w G' (H'.addTg b T) w' :=
  ⟨h.ext,h.new,h.le,h.size,h.frame,h.pend,h.img,h.nfz,h.loops⟩
theorem step_addFr {G G' : Gh} {H H' : AHeap} {w w' : World} (b : Nat) (cs : List AV) (h : Step G H w G' H' w') : Step G H w G' (H'.addFr b cs) w' :=
  ⟨h.ext,h.new,h.le,h.size,h.frame,h.pend,h.img,h.nfz,h.loops⟩
theorem imm_rows {G : Gh} {c off len cap' n : Nat} {cells : Array Value} {el : TypeId} {r : List AV} {vs2 : List Value} (hn : n ≠ 0) (hfz : G.fz c = some (.cells cells el (0,0))) (g3 : VRs G r vs2) (hrl : r.length = len * n) (k2 : ∀ j u,vs2[j]? = some u→cells[off + j]? = some u) (k3 : ∀ u ∈ vs2,u.oneCell' = true) (hcap : len ≤ cap') :
    VR G (.imm (rows n len r)) (.slice (some ⟨c,off,none⟩) len cap'):=by
  have hvl:=g3.1
  have hone : ∀ x ∈ r,x.cells = [x]:=fun x hx => by
    obtain ⟨i,hi,rfl⟩:=List.mem_iff_getElem.1 hx
    exact (g3.2 i hi (by have:=g3.1; omega)).cells_one (k3 _ (List.getElem_mem _))
  have hrows:=rows_get n hn len r (by omega) hone
  have hlen:=rows_len n len r
  have vget : ∀ i j,i < len→j < n→i * n + j < vs2.length:=fun i j hi hj => by
    have : (i + 1) * n ≤ len * n:=Nat.mul_le_mul_right n hi
    rw [Nat.add_mul] at this
    omega
  have:=VR.imm (G:=G) (l:=rows n len r) (n:=n) (c:=c) (o:=off) (cap:=cap') (fun i j => vs2.getD (i * n + j) undef) hfz
    (fun i hi => by rw [hrows i hi]; rw [hlen] at hi; have:=vget i (n - 1) hi (by omega); simp; omega) (by omega)
    (fun i j hi hj => by
      rw [hlen] at hi
      have h8:=vget i j hi hj
      have h9:=k2 (i * n + j) (vs2[i * n + j]) (by simp [h8])
      rw [show off + i * n + j = off + (i * n + j) by omega,h9]
      simp [List.getD,h8])
    (fun i j hi hj => by
      rw [hlen] at hi
      have h8:=vget i j hi hj
      simp only [List.getD,List.getElem?_eq_getElem h8,Option.getD_some]
      exact k3 _ (List.getElem_mem _))
    (fun i hi j hj => by
      have h7:=hj
      simp only [hrows i hi] at hj ⊢
      rw [hlen] at hi
      simp only [List.length_take,List.length_drop] at hj
      have h8:=vget i j hi (by omega)
      simp only [List.getElem_take,List.getElem_drop,List.getD,List.getElem?_eq_getElem h8,Option.getD_some]
      exact g3.2 _ _ _)
  rw [hlen] at this
  exact this
theorem freezeV_sim {B : World} : ∀ (d : Nat),FzOK B (freezeV d)
  | 0 => fun v H v' H' h => by simp [freezeV] at h
  | d + 1 => fun v H v1 H1 h1 G w y hS hy => by
      have ih:=freezeL_sim (freezeV_sim (B:=B) d)
      unfold freezeV at h1
      cases v <;> simp only [reduceCtorEq,Option.some.injEq,Prod.mk.injEq] at h1
      case sc s => obtain ⟨rfl,rfl⟩:=h1; exact ⟨G,hS,Step.refl _ _ _,hy⟩
      case sym => obtain ⟨rfl,rfl⟩:=h1; exact ⟨G,hS,Step.refl _ _ _,hy⟩
      case imm xs => obtain ⟨rfl,rfl⟩:=h1; exact ⟨G,hS,Step.refl _ _ _,hy⟩
      case agg cs =>
        simp only [Option.map_eq_some_iff] at h1
        obtain ⟨⟨r,Hr⟩,h4,h5⟩:=h1
        simp at h5
        obtain ⟨rfl,rfl⟩:=h5
        cases hy with
        | agg e1 e2 =>
          obtain ⟨G1,g1,g2,g3⟩:=ih cs H r Hr h4 G w _ hS ⟨e1,e2⟩
          exact ⟨G1,g1,g2,.agg g3.1 g3.2⟩
      case tup cs =>
        simp only [Option.map_eq_some_iff] at h1
        obtain ⟨⟨r,Hr⟩,h4,h5⟩:=h1
        simp at h5
        obtain ⟨rfl,rfl⟩:=h5
        cases hy with
        | tup e1 e2 =>
          obtain ⟨G1,g1,g2,g3⟩:=ih cs H r Hr h4 G w _ hS ⟨e1,e2⟩
          exact ⟨G1,g1,g2,.tup g3.1 g3.2⟩
      case slice b off len cap n =>
        split at h1
        · rename_i h0
          subst h0
          simp at h1
          obtain ⟨rfl,rfl⟩:=h1
          cases hy with
          | slice _ _ _ _ _ => exact ⟨G,hS,Step.refl _ _ _,.immNil⟩
        · split at h1
          · rename_i cs h4
            split at h1
            · cases h1
            rename_i hc
            simp only [not_or,Nat.not_lt] at hc
            simp only [Option.map_eq_some_iff,Prod.mk.injEq] at h1
            obtain ⟨⟨r,Hr⟩,h5,h6,h7⟩:=h1
            simp only at h6 h7
            subst h6 h7
            cases hy with
            | @slice _ _ _ _ _ c cap' sz hcb l1 l2 l3 l4 =>
              obtain ⟨cells,el,e1,e2,e3⟩:=live_cells hS h4 hcb
              obtain ⟨f1,f2⟩:=sim_freeze hS e3 hcb
              obtain ⟨vs2,k1,k2,k3⟩:=((cellsAt_block e1 e2).drop off).take (len * n)
              have hvl:=k1.1
              simp at hvl
              obtain ⟨G2,g1,g2,g3⟩:=ih _ _ r Hr h5 _ w _ f1 (k1.mono f2.ext)
              have hfz : G2.fz c = some (.cells cells el (0,0)):=g2.ext.fz c _ (by simp [Gh.frz,e1])
              have hrl : r.length = len * n:=by have:=g3.1; omega
              have k2' : ∀ j u,vs2[j]? = some u→cells[off + j]? = some u:=fun j u hu => by
                have h9:=k2 j u hu
                rw [cell_of e1] at h9
                rw [show off + j = 0 + off + j by omega]; exact h9
              have hcl : cs.length ≤ cells.size:=e2.2.1
              refine ⟨G2,sim_addFr g1 (g2.ext.β _ _ (f2.ext.β _ _ hcb)) hfz ⟨rfl,by simp; omega,fun j a b => ?_⟩,step_addFr _ _ (f2.trans g2),imm_rows hc.1 hfz g3 hrl k2' k3 (by omega)⟩
              by_cases hj : j < off
              · rw [List.getElem_append_left (by simpa using hj)]
                simp only [List.getElem_replicate]
                refine ⟨.poison _,?_⟩
                exact (e2.2.2 j (by omega) b).2
              · rw [List.getElem_append_right (by simp; omega)]
                simp only [List.length_replicate]
                have hj2 : j - off < vs2.length:=by simp at a; omega
                have h9:=k2' (j - off) (vs2[j - off]) (by simp [hj2])
                rw [show off + (j - off) = j by omega] at h9
                have h10 : cells[j] = vs2[j - off]:=by
                  rw [Array.getElem?_eq_getElem b] at h9
                  exact Option.some.inj h9
                rw [h10]
                exact ⟨g3.2 _ (by simp at a; omega) hj2,k3 _ (List.getElem_mem _)⟩
          · rename_i h4
            simp only [Option.bind_eq_some_iff] at h1
            obtain ⟨cs,h5,h1⟩:=h1
            split at h1
            · cases h1
            rename_i hc
            simp only [not_or,Nat.not_lt] at hc
            simp only [Option.some.injEq,Prod.mk.injEq] at h1
            obtain ⟨rfl,rfl⟩:=h1
            cases hy with
            | @slice _ _ _ _ _ c cap' sz hcb l1 l2 l3 l4 =>
              obtain ⟨c',cells,el,q1,q2,q3⟩:=hS.frz.rd b cs (AHeap.frd_get h5)
              rw [hcb] at q1; cases q1
              have e1:=hS.fz _ _ q2
              obtain ⟨vs2,k1,k2,k3⟩:=((cellsAt_block e1 q3).drop off).take (len * n)
              refine ⟨G,hS,Step.refl _ _ _,imm_rows hc.1 q2 k1 (by simp; omega) (fun j u hu => ?_) k3 (by omega)⟩
              have h9:=k2 j u hu
              rw [cell_of e1] at h9
              rw [show off + j = 0 + off + j by omega]; exact h9
theorem freeze_sim {B : World} {v v' : AV} {H H' : AHeap} (h : freeze v H = some (v',H')) {G : Gh} {w : World} {y : Value} (hS : Sim B G H w) (hv : VR G v y) :
    ∃ G',Sim B G' H' w∧Step G H w G' H' w∧VR G' v' y:=freezeV_sim 20 v H v' H' h G w y hS hv
end Go.Hem
set_option linter.unusedSimpArgs false
set_option linter.unusedVariables false
namespace Go.Hem
def fr (b : Frame) (a : Array Value) (todo : List Item) : Frame:={ b with tmps:=a,todo:=todo,mode:=.run }
section
variable {P : Program} {b : Frame} {a : Array Value} {k : List Item} {cs : List Frame} {w : World}
theorem st_skip : step P (lone (fr b a (.code .skip :: k)) cs w) = .next (lone (fr b a k) cs w) :=
  step_lone_go (by simp [stepG,stepG.exec,fr])
theorem st_label {l : Nat} : step P (lone (fr b a (.code (.label l) :: k)) cs w) = .next (lone (fr b a k) cs w) :=
  step_lone_go (by simp [stepG,stepG.exec,fr])
theorem st_inBlock {id : Nat} : step P (lone (fr b a (.inBlock id :: k)) cs w) = .next (lone (fr b a k) cs w) :=
  step_lone_go (by simp [stepG,stepG.exec,fr])
theorem st_inScope {c : Code} : step P (lone (fr b a (.inScope c :: k)) cs w) = .next (lone (fr b a k) cs w) :=
  step_lone_go (by simp [stepG,stepG.exec,fr])
theorem st_seq {x y : Code} : step P (lone (fr b a (.code (.seq x y) :: k)) cs w) = .next (lone (fr b a (.code x :: .code y :: k)) cs w) :=
  step_lone_go (by simp [stepG,stepG.exec,fr])
theorem st_cond {c : Operand} {x y : Code} {t : Bool} (h : (fr b a k).eval c = .bool t) :
    step P (lone (fr b a (.code (.cond c x y) :: k)) cs w) = .next (lone (fr b a (.code (if t then x else y) :: k)) cs w) :=
  step_lone_go (by
    have : (fr b a (.code (.cond c x y) :: k)).eval c = .bool t:=by rw [← h]; cases c <;> rfl
    simp only [fr] at this
    simp [stepG,stepG.exec,fr,this])
theorem st_block {id : Nat} {c : Code} : step P (lone (fr b a (.code (.block id c) :: k)) cs w) = .next (lone (fr b a (.code c :: .inBlock id :: k)) cs w) :=
  step_lone_go (by simp [stepG,stepG.exec,fr])
theorem st_loop {c : Code} : step P (lone (fr b a (.code (.loop c) :: k)) cs w) = .next (lone (fr b a (.code c :: .inLoop c :: k)) cs w) :=
  step_lone_go (by simp [stepG,stepG.exec,fr])
theorem st_inLoop {c : Code} : step P (lone (fr b a (.inLoop c :: k)) cs w) = .next (lone (fr b a (.code c :: .inLoop c :: k)) cs w) :=
  step_lone_go (by simp [stepG,stepG.exec,fr])
theorem st_scope {c : Code} : step P (lone (fr b a (.code (.scope c) :: k)) cs w) = .next (lone (fr b a (.code c :: .inScope c :: k)) cs w) :=
  step_lone_go (by simp [stepG,stepG.exec,fr])
theorem st_exit {id : Nat} {k' : List Item} (h : exitTo id k = some k') : step P (lone (fr b a (.code (.exit id) :: k)) cs w) = .next (lone (fr b a k') cs w) :=
  step_lone_go (by simp [stepG,stepG.exec,fr,h])
theorem st_ret (hr : b.roundOf = none) : step P (lone (fr b a (.code .ret :: k)) cs w) = .next (lone { fr b a (.code .ret :: k) with mode:=.returning } cs w) :=
  step_lone_go (by simp [stepG,stepG.exec,fr,hr])
theorem st_end (hr : b.roundOf = none) : step P (lone (fr b a []) cs w) = .next (lone { fr b a [] with mode:=.returning } cs w) :=
  step_lone_go (by simp [stepG,stepG.exec,fr,hr])
theorem st_region {id : Nat} {ops : Array Oper} : step P (lone (fr b a (.code (.region id ops false) :: k)) cs w) = .next (lone (fr b a (.inRegion ops (List.range ops.size) :: k)) cs w) :=
  step_lone_go (by simp [stepG,stepG.exec,fr])
theorem st_region_draw {id : Nat} {ops : Array Oper} : step P (lone (fr b a (.code (.region id ops true) :: k)) cs w) =
    .next (lone (fr b a (.inRegion ops (Region.schedule (P.follows .mixedOrders) ops (w.tape w.drawn (.order b.fn id))) :: k)) cs w.drew) :=
  step_lone_go (by simp [stepG,stepG.exec,fr,choose,Sem.run,Question.forced,Question.cut])
theorem st_region_end {ops : Array Oper} : step P (lone (fr b a (.inRegion ops [] :: k)) cs w) = .next (lone (fr b a k) cs w) :=
  step_lone_go (by simp [stepG,stepG.exec,fr])
theorem fr_eval (b : Frame) (a : Array Value) (k k' : List Item) (x : Operand) : (fr b a k).eval x = (fr b a k').eval x:=by cases x <;> rfl
def putV (a : Array Value) (dst : Option Tmp) (v : Value) : Array Value :=
  match dst with
  | some d => a.setIfInBounds d v
  | none => a
theorem finish_fr {ops : Array Oper} {i : Nat} {rest : List Nat} {o : Oper} (ho : ops[i]? = some o) (v : Value) :
    (fr b a (.inRegion ops (i :: rest) :: k)).finish v = fr b (putV a o.dst v) (.inRegion ops rest :: k):=by
  cases h : o.dst <;> simp [Frame.finish,fr,putV,ho,h]
theorem st_op_skip {ops : Array Oper} {i : Nat} {rest : List Nat} {o : Oper} (ho : ops[i]? = some o) (h : Region.wanted o (yielded ops a) = false) :
    step P (lone (fr b a (.inRegion ops (i :: rest) :: k)) cs w) = .next (lone (fr b (putV a o.dst undef) (.inRegion ops rest :: k)) cs w):=by
  rw [← finish_fr ho]
  exact step_lone_go (by simp [stepG,stepG.exec,fr,ho,h])
theorem stG_op {ops : Array Oper} {i : Nat} {rest : List Nat} {o : Oper} (ho : ops[i]? = some o) (hw : Region.wanted o (yielded ops a) = true) (hp : plainOp o.op = true) :
    stepG P true { frame:=fr b a (.inRegion ops (i :: rest) :: k),callers:=cs,status:=.running,dying:=none } w =
      stepG.apply P true (fr b a (.inRegion ops (i :: rest) :: k)) cs none (execOp (fr b a []).eval o) w:=by
  have he : (fr b a (.inRegion ops (i :: rest) :: k)).eval = (fr b a []).eval:=funext fun x => fr_eval b a _ _ x
  simp only [fr] at he
  have hd : ∀ c,o.op ≠ .defer c:=fun c e => by rw [e] at hp; cases hp
  simp only [stepG,stepG.exec,fr,ho,Option.map_some,Option.getD_some,hw,if_true,stepG.oper,Frame.oper?]
  split
  · rename_i l c h1 h2; exact absurd h2 (hd c)
  · rw [he]
theorem st_op_val {ops : Array Oper} {i : Nat} {rest : List Nat} {o : Oper} {n : Next} {v : Value} {w' : World} (ho : ops[i]? = some o) (hw : Region.wanted o (yielded ops a) = true) (hp : plainOp o.op = true)
    (hr : (execOp (fr b a []).eval o).run P w = .ok n w') (hn : n = .value v ∨ (n = .skip∧v = undef)) :
    step P (lone (fr b a (.inRegion ops (i :: rest) :: k)) cs w) = .next (lone (fr b (putV a o.dst v) (.inRegion ops rest :: k)) cs w'):=by
  rw [← finish_fr ho]
  refine step_lone_go ?_
  rw [stG_op ho hw hp]
  rcases hn with rfl | ⟨rfl,rfl⟩ <;> simp [stepG.apply,hr]
theorem st_op_enter {ops : Array Oper} {i : Nat} {rest : List Nat} {o : Oper} {f : FuncId} {args : Array Value} {w' : World} (ho : ops[i]? = some o) (hw : Region.wanted o (yielded ops a) = true) (hp : plainOp o.op = true)
    (hr : (execOp (fr b a []).eval o).run P w = .ok (.enter f args) w') :
    step P (lone (fr b a (.inRegion ops (i :: rest) :: k)) cs w) = .next (lone (Frame.enter P f args .normal) (fr b a (.inRegion ops (i :: rest) :: k) :: cs) w') :=
  step_lone_go (by
    have hF : (fr b a (.inRegion ops (i :: rest) :: k)).todo = .inRegion ops (i :: rest) :: k:=rfl
    rw [stG_op ho hw hp]
    generalize fr b a (.inRegion ops (i :: rest) :: k) = F at hF ⊢
    simp [stepG.apply,hr,hF])
theorem st_op_round {ops : Array Oper} {i : Nat} {rest : List Nat} {o : Oper} {l : Nat} {f : FuncId} {tmps : Array Value} {as bo : Code} {w' : World} (ho : ops[i]? = some o) (hw : Region.wanted o (yielded ops a) = true) (hp : plainOp o.op = true)
    (hr : (execOp (fr b a []).eval o).run P w = .ok (.round l f tmps as bo) w') :
    step P (lone (fr b a (.inRegion ops (i :: rest) :: k)) cs w) = .next (lone (Frame.round l f tmps as bo .normal) (fr b a (.inRegion ops (i :: rest) :: k) :: cs) w') :=
  step_lone_go (by rw [stG_op ho hw hp]; simp [stepG.apply,hr])
end
end Go.Hem
