/- Joined. -/
import Derived.Test.YtldflacehmpjkaaGreatDoorHemR
import Derived.Lib.AppendZerosOnto
import Derived.Below
set_option linter.unusedVariables false
set_option linter.unusedSimpArgs false
namespace Go.Hem
open Go.Lib
theorem run_copy_at {P : Program} {w : World} {ts : Array TypeId} {T el : TypeId} {n : Nat} (ty : TypeId) (t0 : ts[0]? = some T) (hu : P.underlying T = some (.slice el)) (h2 : szOf P el = some n) {c off dLen dCap m : Nat} {x' : Value} {ys : List Value} {cells : Array Value} {e : TypeId}
    (hm : (Builtin.lenOf x').run P w = .ok m w) (hx : (Builtin.firstCells n (min m dLen) x').run P w = .ok ys.toArray w) (hw : w.heap[c]? = some (.cells cells e (0,0))) (hf : off + ys.length ≤ cells.size) (h1 : ∀ u ∈ ys,u.oneCell' = true) :
    (Builtin.copy_ ts ty #[.slice (some ⟨c,off,none⟩) dLen dCap,x']).run P w = .ok (goInt (min m dLen : Nat)) (w.setRow c (cells.toList.take off ++ ys ++ cells.toList.drop (off + ys.length)).toArray):=by
  have hst:=run_storeCells_at P c off e ys 0 cells w hw (by simpa using hf) h1
  simp only [Nat.add_zero] at hst
  have hmin : Nat.min m dLen = min m dLen:=rfl
  simp [Builtin.copy_,t0,run_underlying hu,hm,hmin,run_szOf h2,hx,hst,goInt]
theorem run_firstCells_row {P : Program} {w : World} {c off n m len cap : Nat} {cells : Array Value} {el : TypeId} (g : w.heap[c]? = some (.cells cells el (0,0))) (h : off + m * n ≤ cells.size) :
    (Builtin.firstCells n m (.slice (some ⟨c,off,none⟩) len cap)).run P w = .ok ((cells.toList.drop off).take (m * n)).toArray w:=by
  refine run_cells_list w _ _ _ (by simp; omega) (fun j u hu => ?_)
  rw [addr_add,cell_of g]
  rw [List.getElem?_take] at hu
  split at hu
  · rw [List.getElem?_drop,Array.getElem?_toList] at hu
    exact hu
  · cases hu
theorem drop_alloc {H : AHeap} {b : Nat} {Z : Blk} (hb : b < H.next) : (H.alloc Z).put b none = (H.put b none).alloc Z:=by
  unfold AHeap.put AHeap.alloc
  rw [if_pos hb]
  simp only
  rw [if_pos (by omega)]
  obtain ⟨k,hk⟩ : ∃ k,H.next + 1 - 1 - b = k + 1:=⟨H.next - 1 - b,by omega⟩
  have hk2 : H.next - 1 - b = k:=by omega
  rw [hk,hk2,List.set_cons_succ]
theorem at_trans {w w1 w2 : World} {c : Nat} {o o' : Obj} (h : At w w1 c o) (k : At w1 w2 c o') : At w w2 c o' :=
  ⟨⟨k.1.os.trans h.1.os,k.1.tape.trans h.1.tape,k.1.output.trans h.1.output⟩,k.2.1.trans h.2.1,k.2.2.1,fun j hj => (k.2.2.2 j hj).trans (h.2.2.2 j hj)⟩
theorem push_at {w w1 w2 : World} {o o' : Obj} (h : Push w w1 o) (k : At w1 w2 w.heap.size o') : Push w w2 o' :=
  ⟨⟨k.1.os.trans h.1.os,k.1.tape.trans h.1.tape,k.1.output.trans h.1.output⟩,k.2.1.trans h.2.1,k.2.2.1,fun j hj => (k.2.2.2 j (by omega)).trans (h.2.2.2 j hj)⟩
theorem at_drew {w w' : World} {c : Nat} {o : Obj} (h : At w.drew w' c o) : At w w' c o:=⟨⟨h.1.os,h.1.tape,h.1.output⟩,h.2.1,h.2.2.1,h.2.2.2⟩
theorem rowA {α : Type} {O Y Z : List α} {p q : Nat} (hp : O.length = p) (hq : Y.length = q) : (O ++ Z).take p ++ Y ++ (O ++ Z).drop (p + q) = O ++ Y ++ Z.drop q:=by
  subst hp; subst hq
  simp [List.drop_append]
theorem rowB {α : Type} {C Y : List α} {p q r : Nat} (hq : Y.length = q) (hc : p + q + r ≤ C.length) :
    (C.take (p + q) ++ (C.drop p).take r ++ C.drop (p + q + r)).take p ++ Y ++ (C.take (p + q) ++ (C.drop p).take r ++ C.drop (p + q + r)).drop (p + q) = C.take p ++ Y ++ ((C.drop p).take r ++ C.drop (p + q + r)):=by
  have h1 : (C.take (p + q) ++ (C.drop p).take r ++ C.drop (p + q + r)).take p = C.take p:=by
    rw [List.append_assoc,List.take_append_of_le_length (by simp; omega),List.take_take]
    congr 1; omega
  have h2 : (C.take (p + q) ++ (C.drop p).take r ++ C.drop (p + q + r)).drop (p + q) = (C.drop p).take r ++ C.drop (p + q + r):=by
    have hl : (C.take (p + q)).length = p + q:=by simp; omega
    rw [List.append_assoc]
    exact List.drop_left' hl
  rw [h1,h2]
structure InsFn (P : Program) (f : FuncId) (T e n by' : Nat) : Prop where
  hu : P.underlying T = some (.slice e)
  hk : ∃ kn,P.underlying 3 = some (.int kn)
  hi : ∃ i zv,P.info? e = some i∧i.zero = some zv∧i.size = n∧i.bytes = by'∧zv.cells.size = n
  nz : n ≠ 0
  bz : by' ≠ 0
  skip : ∀ (a a2 : Option Addr) (len cap i cp : Nat) (w : World),i ≤ len→len ≤ cap→(a = none→cap = 0) →
    Calls P f #[.slice a len cap,.int .i64 i,.slice a2 0 cp] w fun e w' => e = .returned (.slice a len cap)∧w' = w
  nil : ∀ (m cp : Nat) (a : Option Addr) (w w1 : World) (v : Value),0 < m→(∀ ty,(Builtin.append_ #[T,T] ty #[.slice none 0 0,.slice a m cp]).run P w = .ok v w1) →
    Calls P f #[.slice none 0 0,.int .i64 0,.slice a m cp] w fun e w' => e = .returned v∧w' = w1
  behind : ∀ (c len cap m cp : Nat) (a : Option Addr) (w w1 : World) (v : Value),0 < m→len ≤ cap→(∀ ty,(Builtin.append_ #[T,T] ty #[.slice (some ⟨c,0,none⟩) len cap,.slice a m cp]).run P w = .ok v w1) →
    Calls P f #[.slice (some ⟨c,0,none⟩) len cap,.int .i64 len,.slice a m cp] w fun e w' => e = .returned v∧w' = w1
  grow : ∀ (c len cap i m cp K N : Nat) (a : Addr) (w w1 w2 w3 : World),i < len→0 < m→len ≤ cap→cap < len + m→len + m < 2 ^ 40→len + m ≤ K →
    (∀ ty,(Builtin.append_ #[T,3] ty #[.slice (some ⟨c,0,none⟩) i cap,.int .i64 ((len : Int) + (m : Int) - (i : Int))]).run P w = .ok (.slice (some ⟨N,0,none⟩) (len + m) K) w1) →
    (∀ ty,(Builtin.copy_ #[T,T] ty #[.slice (some ⟨N,i * n,none⟩) (len + m - i) (K - i),.slice (some a) m cp]).run P w1 = .ok (goInt m) w2) →
    (∀ ty,(Builtin.copy_ #[T,T] ty #[.slice (some ⟨N,(i + m) * n,none⟩) (len + m - (i + m)) (K - (i + m)),.slice (some ⟨c,i * n,none⟩) (len - i) (cap - i)]).run P w2.drew = .ok (goInt (len - i : Nat)) w3) →
    Calls P f #[.slice (some ⟨c,0,none⟩) len cap,.int .i64 i,.slice (some a) m cp] w fun e w' => e = .returned (.slice (some ⟨N,0,none⟩) (len + m) K)∧w' = w3
  room : ∀ (c cv o len cap i m cp : Nat) (w w1 w2 : World) (cells cellsv : Array Value) (el ev : TypeId),i < len→0 < m→len ≤ cap→len + m ≤ cap→len + m < 2 ^ 40→cv ≠ c →
    w.heap[cv]? = some (.cells cellsv ev (0,0))→w.heap[c]? = some (.cells cells el (0,0))→cells.size ≠ 0 →
    (∀ ty,(Builtin.copy_ #[T,T] ty #[.slice (some ⟨c,(i + m) * n,none⟩) (len + m - (i + m)) (cap - (i + m)),.slice (some ⟨c,i * n,none⟩) (len + m - i) (cap - i)]).run P w.drew = .ok (goInt (len - i : Nat)) w1) →
    (∀ ty,(Builtin.copy_ #[T,T] ty #[.slice (some ⟨c,i * n,none⟩) (len + m - i) (cap - i),.slice (some ⟨cv,o,none⟩) m cp]).run P w1 = .ok (goInt m) w2) →
    Calls P f #[.slice (some ⟨c,0,none⟩) len cap,.int .i64 i,.slice (some ⟨cv,o,none⟩) m cp] w fun e w' => e = .returned (.slice (some ⟨c,0,none⟩) (len + m) cap)∧w' = w2
def insE (n by' : Nat) (s : AV) (i : Int) (bv ov m cp nv : Nat) (H : AHeap) : Option (AV × AHeap) :=
  match s with
  | .sc .nils =>
    if i = 0 then
      if m = 0 then some (.sc .nils,H)
      else if (2 * m + 1000) * by' ≤ 2 ^ 47 then (asrc n H (.slice bv ov m cp nv) m).map fun xs => (.slice H.next 0 m m n,H.alloc (.cells xs)) else none
    else none
  | .slice b off len cap n' =>
    if 0 ≤ i∧i ≤ len then
      if m = 0 then some (s,H)
      else if off = 0∧n ≤ n'∧b ≠ bv∧(2 * (len + m) + 1000) * by' ≤ 2 ^ 47∧len + m < 2 ^ 40 then
        (H.cells b).bind fun cs => (asrc n H (.slice bv ov m cp nv) m).bind fun xs =>
          if len * n ≤ cs.length then some (.slice H.next 0 (len + m) (len + m) n,(H.put b none).alloc (.cells ((cs.take (len * n)).take (i.toNat * n) ++ xs ++ (cs.take (len * n)).drop (i.toNat * n)))) else none
      else none
    else none
  | _ => none
def insEff (n by' : Nat) : List AV→AHeap→Option (AV × AHeap)
  | [s,.sc (.int .i64 i),.slice bv ov m cp nv],H => insE n by' s i bv ov m cp nv H
  | _,_ => none
theorem callOK_of {P : Program} {B : World} {f : FuncId} {args : List AV} {H H' : AHeap} {v : AV}
    (h : ∀ G w (args' : Array Value),Sim B G H w→Clear G H.next H'.next→VRs G args args'.toList→∃ G' w' v',Sim B G' H' w'∧Step G H w G' H' w'∧VR G' v v'∧Calls P f args' w fun e w'' => e = .returned v'∧w'' = w') :
    CallOK P B f args H v H':=by
  intro G w args' hS hC hv cs
  obtain ⟨G',w',v',h1,h2,h3,h4⟩:=h G w args' hS hC hv
  obtain ⟨e,w'',fr',⟨rfl,rfl⟩,k2,k3,k4⟩:=h4 cs
  exact ⟨G',_,v',fr',h1,h2,h3,k2,k3,k4⟩
theorem insFn_ok {P : Program} {B : World} {f : FuncId} {T e n by' : Nat} (I : InsFn P f T e n by') {args : List AV} {H H' : AHeap} {v : AV} (h : insEff n by' args H = some (v,H')) :
    H.next ≤ H'.next∧CallOK P B f args H v H':=by
  unfold insEff at h
  split at h
  rotate_left
  · cases h
  rename_i s i bv ov m cp nv
  obtain ⟨ti,zv,hi,hz,hsz,hby,hzv⟩:=I.hi
  obtain ⟨kn,hk⟩:=I.hk
  have hsO : szOf P e = some n:=by simp [szOf,hi,hsz]
  have hnz:=I.nz
  have hbz:=I.bz
  unfold insE at h
  split at h
  · -- nil
    split at h
    rotate_left
    · cases h
    rename_i hi0
    subst hi0
    split at h
    · rename_i hm; subst hm
      simp only [Option.some.injEq,Prod.mk.injEq] at h
      obtain ⟨rfl,rfl⟩:=h
      refine ⟨Nat.le_refl _,callOK_of fun G w args' hS hC hv => ?_⟩
      obtain ⟨u1,m1,e1,v1,hv⟩:=hv.of_cons
      obtain ⟨u2,m2,e2,v2,hv⟩:=hv.of_cons
      obtain ⟨u3,m3,e3,v3,hv⟩:=hv.of_cons
      have e4:=hv.of_nil
      subst e4 e3 e2
      have ea : args' = #[u1,u2,u3]:=by rw [← Array.toArray_toList (xs:=args'),e1]
      subst ea
      rw [v1.sc_inv,v2.sc_inv]
      cases v3 with
      | slice => exact ⟨G,w,_,hS,Step.refl _ _ _,.sc .nils,I.skip none _ 0 0 0 _ w (Nat.le_refl _) (Nat.le_refl _) (fun _ => rfl)⟩
    · rename_i hm
      split at h
      rotate_left
      · cases h
      rename_i hbig
      simp only [Option.map_eq_some_iff,Prod.mk.injEq] at h
      obtain ⟨xs,hx,rfl,rfl⟩:=h
      refine ⟨by simp,callOK_of fun G w args' hS hC hv => ?_⟩
      obtain ⟨u1,m1,e1,v1,hv⟩:=hv.of_cons
      obtain ⟨u2,m2,e2,v2,hv⟩:=hv.of_cons
      obtain ⟨u3,m3,e3,v3,hv⟩:=hv.of_cons
      have e4:=hv.of_nil
      subst e4 e3 e2
      have ea : args' = #[u1,u2,u3]:=by rw [← Array.toArray_toList (xs:=args'),e1]
      subst ea
      rw [v1.sc_inv,v2.sc_inv]
      obtain ⟨ys,k1,k2,k3,k4⟩:=asrc_sim (P:=P) hS.drew v3 hx
      have hlen : (Builtin.lenOf u3).run P w = .ok m w:=alen_spec v3 rfl
      have hn : G.β H.next = none:=hC _ (Nat.le_refl _) (by simp)
      obtain ⟨cap',rest,q1,q2,q3⟩:=run_append_grow (P:=P) (w:=w) (ts:=#[T,T]) (a:=none) (len:=0) (cap:=0) (ys:=[]) 0 rfl rfl I.hu I.hu (.inl ⟨e,rfl⟩) hi hz (by omega) hlen (by simp [Builtin.firstCells]) (by rw [hsz]; exact k1) (by omega) (by rw [hby]; simpa using hbig) (by simp) (by have:=k2.1; rw [hsz]; omega) (by omega)
      simp only [Nat.zero_add,List.nil_append] at q1 q2 q3
      have hb:=BR_cells (e:=e) rest k2 k3
      obtain ⟨s1,s2⟩:=sim_push hS (push_alloc_drew w _) hb rfl hn
      rw [hsz] at q3
      cases v3 with
      | @slice _ _ _ _ _ c3 cap3 z3 w1 w2 w3 w4 w5 =>
        exact ⟨_,_,_,s1,s2,.slice (by simp [Gh.at]) (Nat.le_refl _) q1 (by simp only [Gh.at,if_true]; rfl) (by simpa using q3),I.nil m cap3 _ w _ _ (by omega) (fun ty => q2)⟩
  · rename_i b off len cap n'
    split at h
    rotate_left
    · cases h
    rename_i hil
    obtain ⟨i0,i1⟩:=hil
    obtain ⟨j,rfl⟩ : ∃ j : Nat,i = (j : Int):=⟨i.toNat,by omega⟩
    have hj : j ≤ len:=by omega
    split at h
    · rename_i hm; subst hm
      simp only [Option.some.injEq,Prod.mk.injEq] at h
      obtain ⟨rfl,rfl⟩:=h
      refine ⟨Nat.le_refl _,callOK_of fun G w args' hS hC hv => ?_⟩
      obtain ⟨u1,m1,e1,v1,hv⟩:=hv.of_cons
      obtain ⟨u2,m2,e2,v2,hv⟩:=hv.of_cons
      obtain ⟨u3,m3,e3,v3,hv⟩:=hv.of_cons
      have e4:=hv.of_nil
      subst e4 e3 e2
      have ea : args' = #[u1,u2,u3]:=by rw [← Array.toArray_toList (xs:=args'),e1]
      subst ea
      rw [v2.sc_inv]
      have v1':=v1
      cases v3 with
      | slice =>
        cases v1 with
        | slice a1 a2 a3 a4 a5 => exact ⟨G,w,_,hS,Step.refl _ _ _,v1',I.skip _ _ _ _ j _ w hj (by omega) (fun e => by cases e)⟩
    · rename_i hm
      split at h
      rotate_left
      · cases h
      rename_i hc
      obtain ⟨rfl,hnn,hbb,hbig,h40⟩:=hc
      simp only [Option.bind_eq_some_iff] at h
      obtain ⟨cs,hcs,xs,hx,h⟩:=h
      split at h
      rotate_left
      · cases h
      rename_i hfit
      simp only [Option.some.injEq,Prod.mk.injEq,Int.toNat_natCast] at h
      obtain ⟨rfl,rfl⟩:=h
      refine ⟨by simp,callOK_of fun G w args' hS hC hv => ?_⟩
      obtain ⟨u1,m1,e1,v1,hv⟩:=hv.of_cons
      obtain ⟨u2,m2,e2,v2,hv⟩:=hv.of_cons
      obtain ⟨u3,m3,e3,v3,hv⟩:=hv.of_cons
      have e4:=hv.of_nil
      subst e4 e3 e2
      have ea : args' = #[u1,u2,u3]:=by rw [← Array.toArray_toList (xs:=args'),e1]
      subst ea
      rw [v2.sc_inv]
      obtain ⟨ys,k1,k2,k3,k4⟩:=asrc_sim (P:=P) hS v3 hx
      obtain ⟨ysd,d1,d2,d3,d4⟩:=asrc_sim (P:=P) hS.drew v3 hx
      have hlen : ∀ w,(Builtin.lenOf u3).run P w = .ok m w:=fun w => by cases v3; rfl
      have hn : G.β H.next = none:=hC _ (Nat.le_refl _) (by simp)
      have hg:=cells_get hcs
      have hbl:=AHeap.get_lt hg
      obtain ⟨cv,ov',hu3,hcv⟩ : ∃ cv cp',u3 = .slice (some ⟨cv,ov,none⟩) m cp'∧G.β bv = some cv:=by
        cases v3 with
        | slice a1 => exact ⟨_,_,rfl,a1⟩
      cases v1 with
      | @slice _ _ _ _ _ c cap' sz hcb l1 l2 l3 l4 =>
        have l4 : 0 + cap' * n ≤ sz.1:=Nat.le_trans (by have:=Nat.mul_le_mul_left cap' hnn; omega) l4
        obtain ⟨cells,el',f1,f2,f3⟩:=live_cells hS hcs hcb
        have hlc : cs.length ≤ cells.size:=f2.2.1
        have hcs' : cells.size = sz.1:=by
          have hge : B.heap.size ≤ c:=by
            rcases Nat.lt_or_ge c B.heap.size with hlt | hge
            · have h4:=hS.nofz b _ c f3 hcb
              rw [hS.base c hlt] at h4
              simp at h4; omega
            · exact hge
          have q3:=hS.sz c _ hge f1
          rw [l3] at q3
          simp [Obj.csize] at q3
          rw [q3]
        have hyl : ys.length = m * n:=by have:=k2.1; omega
        have hydl : ysd.length = m * n:=by have:=d2.1; omega
        have hV : VRs G (cs.take (len * n)) (cells.toList.take (len * n)):=⟨by simp; omega,fun i a b => by
          simp only [List.getElem_take,Array.getElem_toList]
          exact (f2.2.2 i (by simp at a; omega) (by simp at b; omega)).1⟩
        have hO : ∀ u ∈ cells.toList.take (len * n),u.oneCell' = true:=fun u hu => by
          obtain ⟨i,hi,rfl⟩:=List.mem_iff_getElem.1 hu
          simp only [List.getElem_take,Array.getElem_toList]
          exact (f2.2.2 i (by simp at hi; omega) (by simp at hi; omega)).2
        have hjn : j * n ≤ len * n:=Nat.mul_le_mul_right _ hj
        have hBR : ∀ (zs rest : List Value),VRs G xs zs→(∀ u ∈ zs,u.oneCell' = true)→∀ e0,BR G (.cells ((cs.take (len * n)).take (j * n) ++ xs ++ (cs.take (len * n)).drop (j * n))) (.cells ((((cells.toList.take (len * n)).take (j * n) ++ zs ++ (cells.toList.take (len * n)).drop (j * n))) ++ rest).toArray e0 (0,0)):=fun zs rest hz1 hz2 e0 =>
          BR_cells rest (((hV.take _).append hz1).append (hV.drop _)) (fun u hu => by
            rcases List.mem_append.1 hu with hu | hu
            · rcases List.mem_append.1 hu with hu | hu
              · exact hO u (List.mem_of_mem_take hu)
              · exact hz2 u hu
            · exact hO u (List.mem_of_mem_drop hu))
        have hloop : ∀ (o : Obj) l,w.heap[c]? = some (Obj.loop l)→∃ l',o = Obj.loop l':=fun o l hl => by rw [f1] at hl; cases hl
        have hCl : ∀ k,cells.toList.length = k→cells.size = k:=fun k hk => by simpa using hk
        have hmn : len * n + m * n = (len + m) * n:=(Nat.add_mul _ _ _).symm
        have hjm : j * n + m * n = (j + m) * n:=(Nat.add_mul _ _ _).symm
        have hlj : j * n + (len - j) * n = len * n:=by rw [← Nat.add_mul]; congr 1; omega
        subst hu3
        have hne : cv ≠ c:=fun he => by
          subst he
          unfold asrc at hx
          simp only [Option.bind_eq_some_iff] at hx
          obtain ⟨csv,hcsv,_⟩:=hx
          unfold AHeap.rd at hcsv
          cases hv : H.cells bv with
          | some ds => exact hbb (hS.inj b bv _ _ cv f3 (cells_get hv) hcb hcv)
          | none =>
            rw [hv] at hcsv
            obtain ⟨c',cl,el,q1,q2,_⟩:=hS.frz.rd bv csv (AHeap.frd_get (by simpa using hcsv))
            rw [hcv] at q1; cases q1
            rw [hS.nofz b _ cv f3 hcb] at q2; cases q2
        obtain ⟨cellsv,ev,gv,hvfit⟩ : ∃ cellsv ev,w.heap[cv]? = some (.cells cellsv ev (0,0))∧ov + m * n ≤ cellsv.size:=by
          unfold asrc at hx
          simp only [Option.bind_eq_some_iff] at hx
          obtain ⟨csv,hcsv,hx⟩:=hx
          split at hx
          · rename_i hfv
            obtain ⟨cellsv,ev,x1,x2⟩:=live_rd hS hcsv hcv
            have:=x2.2.1
            exact ⟨cellsv,ev,x1,by omega⟩
          · cases hx
        have hys : ys = (cellsv.toList.drop ov).take (m * n):=by
          have k1':=run_firstCells_row (P:=P) (n:=n) (m:=m) (len:=m) (cap:=ov') gv hvfit
          rw [k1'] at k1
          simpa using k1.symm
        by_cases hroom : len + m ≤ cap'
        · -- in place
          have hsize : (len + m) * n ≤ cells.size:=by
            have:=Nat.mul_le_mul_right n hroom
            omega
          by_cases hje : j = len
          · subst hje
            have hr:=run_append_room (P:=P) (w:=w) (ts:=#[T,T]) (off:=0) (len:=j) (cap:=cap') 0 rfl rfl I.hu I.hu (.inl ⟨e,rfl⟩) hi (hlen w) (by rw [hsz]; exact k1) hroom f1 (by rw [hsz]; omega) k3
            rw [hsz] at hr
            simp only [Nat.zero_add] at hr
            have ha:=at_setRow w c cells (cells.toList.take (j * n) ++ ys ++ cells.toList.drop (j * n + ys.length)).toArray el' (0,0) f1
            have hb:=hBR ys (cells.toList.drop (j * n + ys.length)) k2 k3 el'
            have heq : (cells.toList.take (j * n)).take (j * n) ++ ys ++ (cells.toList.take (j * n)).drop (j * n) ++ cells.toList.drop (j * n + ys.length) = cells.toList.take (j * n) ++ ys ++ cells.toList.drop (j * n + ys.length):=by
              rw [List.take_take,List.drop_take]
              simp
            rw [heq] at hb
            have hcsz : (w.heap[c]?).bind Obj.csize = Obj.csize (.cells (cells.toList.take (j * n) ++ ys ++ cells.toList.drop (j * n + ys.length)).toArray el' (0,0)):=by
              simp [f1,Obj.csize]; omega
            obtain ⟨s1,s2⟩:=sim_rename hS f3 hcb ha hcsz hb rfl (hloop _) hn
            refine ⟨_,_,_,s1,s2,.slice (by simp [Gh.at]) (Nat.le_refl _) hroom (by simp only [Gh.at,if_true]; rw [← hcsz,f1]; rfl) (by rw [hcs']; exact l4),I.behind c j cap' m _ _ w _ _ (by omega) (by omega) (fun ty => hr)⟩
          · have hjl : j < len:=by omega
            have hM : ((cells.toList.drop (j * n)).take ((len - j) * n)).length = (len - j) * n:=by simp; omega
            have hmin : min (len + m - j) (len + m - (j + m)) = len - j:=by omega
            have hmin2 : min m (len + m - j) = m:=by omega
            have rA:=run_copy_at (P:=P) (w:=w.drew) (ts:=#[T,T]) (T:=T) (el:=e) (n:=n) 0 rfl I.hu hsO (c:=c) (off:=(j + m) * n) (dLen:=len + m - (j + m)) (dCap:=cap' - (j + m)) (m:=len + m - j) (x':=.slice (some ⟨c,j * n,none⟩) (len + m - j) (cap' - j)) (ys:=(cells.toList.drop (j * n)).take ((len - j) * n)) (cells:=cells) (e:=el') rfl (by rw [hmin]; exact run_firstCells_row (w:=w.drew) f1 (by omega)) f1 (by rw [hM]; omega) (fun u hu => by
              obtain ⟨i,hi,rfl⟩:=List.mem_iff_getElem.1 hu
              simp only [List.length_take,List.length_drop,Array.length_toList] at hi
              simp only [List.getElem_take,List.getElem_drop,Array.getElem_toList]
              exact (f2.2.2 _ (by omega) (by omega)).2)
            rw [hmin,hM] at rA
            have aA:=at_setRow w.drew c cells (cells.toList.take ((j + m) * n) ++ (cells.toList.drop (j * n)).take ((len - j) * n) ++ cells.toList.drop ((j + m) * n + (len - j) * n)).toArray el' (0,0) f1
            generalize hw1 : w.drew.setRow c (cells.toList.take ((j + m) * n) ++ (cells.toList.drop (j * n)).take ((len - j) * n) ++ cells.toList.drop ((j + m) * n + (len - j) * n)).toArray = w1 at rA aA
            have g1 : w1.heap[cv]? = some (.cells cellsv ev (0,0)):=(aA.2.2.2 cv hne).trans gv
            have rB:=run_copy_at (P:=P) (w:=w1) (ts:=#[T,T]) (T:=T) (el:=e) (n:=n) 0 rfl I.hu hsO (c:=c) (off:=j * n) (dLen:=len + m - j) (dCap:=cap' - j) (m:=m) (x':=.slice (some ⟨cv,ov,none⟩) m ov') (ys:=ys) (e:=el') rfl (by rw [hmin2,hys]; exact run_firstCells_row g1 hvfit) aA.2.2.1 (by simp; omega) k3
            rw [hmin2,hyl] at rB
            have aB:=at_setRow w1 c _ (cells.toList.take (j * n) ++ ys ++ ((cells.toList.drop (j * n)).take ((len - j) * n) ++ cells.toList.drop ((j + m) * n + (len - j) * n))).toArray el' (0,0) aA.2.2.1
            have aAB:=at_trans (at_drew aA) aB
            have heq:=rowB (C:=cells.toList) (Y:=ys) (p:=j * n) (q:=m * n) (r:=(len - j) * n) hyl (by simp; omega)
            rw [hjm] at heq
            simp only [List.toList_toArray] at rB
            rw [hjm,heq] at rB
            have hb:=hBR ys (cells.toList.drop ((j + m) * n + (len - j) * n)) k2 k3 el'
            have heq2 : (cells.toList.take (len * n)).take (j * n) ++ ys ++ (cells.toList.take (len * n)).drop (j * n) ++ cells.toList.drop ((j + m) * n + (len - j) * n) = cells.toList.take (j * n) ++ ys ++ ((cells.toList.drop (j * n)).take ((len - j) * n) ++ cells.toList.drop ((j + m) * n + (len - j) * n)):=by
              rw [List.take_take,List.drop_take,Nat.min_eq_left hjn,show len * n - j * n = (len - j) * n by omega]
              simp
            rw [heq2] at hb
            have hcsz : (w.heap[c]?).bind Obj.csize = Obj.csize (.cells (cells.toList.take (j * n) ++ ys ++ ((cells.toList.drop (j * n)).take ((len - j) * n) ++ cells.toList.drop ((j + m) * n + (len - j) * n))).toArray el' (0,0)):=by
              simp [f1,Obj.csize]; omega
            obtain ⟨s1,s2⟩:=sim_rename hS f3 hcb aAB hcsz hb rfl (hloop _) hn
            exact ⟨_,_,_,s1,s2,.slice (by simp [Gh.at]) (Nat.le_refl _) hroom (by simp only [Gh.at,if_true]; rw [← hcsz,f1]; rfl) (by rw [hcs']; exact l4),I.room c cv ov len cap' j m ov' w w1 _ cells cellsv el' ev hjl (by omega) (by omega) hroom h40 hne gv f1 (by have:=Nat.mul_pos (show 0 < len + m by omega) (Nat.pos_of_ne_zero hnz); omega) (fun ty => rA) (fun ty => rB)⟩
        · -- a new row
          have hcw : c < w.heap.size:=(Array.getElem?_eq_some_iff.1 f1).1
          have hvw : cv < w.heap.size:=(Array.getElem?_eq_some_iff.1 gv).1
          have hga : ∀ X,(H.alloc X).get b = some (.cells cs):=fun X => by rw [AHeap.get_alloc_lt H X hbl]; exact f3
          by_cases hje : j = len
          · subst hje
            have hold:=run_firstCells_row (P:=P) (n:=n) (m:=j) (len:=j) (cap:=cap') (w:=w.drew) (c:=c) (off:=0) f1 (by omega)
            simp only [List.drop_zero] at hold
            obtain ⟨cap'',rest,q1,q2,q3⟩:=run_append_grow (P:=P) (w:=w) (ts:=#[T,T]) (a:=some ⟨c,0,none⟩) (len:=j) (cap:=cap') (ys:=cells.toList.take (j * n)) 0 rfl rfl I.hu I.hu (.inl ⟨e,rfl⟩) hi hz (by omega) (hlen w) (by rw [hsz]; exact hold) (by rw [hsz]; exact d1) (by omega) (by rw [hby]; exact hbig) (by rw [hsz]; simp; omega) (by rw [hsz]; exact hydl) (by omega)
            have hb:=hBR ysd rest d2 d3 e
            have heq : (cells.toList.take (j * n)).take (j * n) ++ ysd ++ (cells.toList.take (j * n)).drop (j * n) ++ rest = cells.toList.take (j * n) ++ ysd ++ rest:=by
              rw [List.take_take,List.drop_take]
              simp
            rw [heq] at hb
            rw [hsz] at q3
            obtain ⟨s1,s2⟩:=sim_push hS (push_alloc_drew w _) hb rfl hn
            have s3:=sim_drop s1 (hga _)
            have s4:=s2.trans (step_drop (hga _) (s2.ext.β _ _ hcb))
            rw [drop_alloc hbl] at s3 s4
            exact ⟨_,_,_,s3,s4,.slice (by simp [Gh.at]) (Nat.le_refl _) q1 (by simp only [Gh.at,if_true]; rfl) q3,I.behind c j cap' m _ _ w _ _ (by omega) (by omega) (fun ty => q2)⟩
          · have hjl : j < len:=by omega
            have hsum : j + (len + m - j) = len + m:=by omega
            have hcast : ((len + m - j : Nat) : Int) = (len : Int) + (m : Int) - (j : Int):=by omega
            have hold:=run_firstCells_row (P:=P) (n:=n) (m:=j) (len:=j) (cap:=cap') (w:=w.drew) (c:=c) (off:=0) f1 (by omega)
            simp only [List.drop_zero] at hold
            have hnc:=nextcap_le (len + m) cap' (by omega)
            have hb47 : Builtin.nextslicecap (len + m) cap' * by' ≤ 2 ^ 47:=Nat.le_trans (Nat.mul_le_mul_right _ hnc) hbig
            have hkb : (len + m - j) * by' ≤ 2 ^ 47:=Nat.le_trans (Nat.mul_le_mul_right _ (by omega)) hbig
            have r0:=run_append_grow_zeros (P:=P) w T 3 0 e ti zv .i64 kn I.hu hk hi hz (some ⟨c,0,none⟩) j cap' (cells.toList.take (j * n)) (by rw [hsz]; exact hold) (len + m - j) (by omega) (by omega) (by omega) (by omega) (by rw [hby]; omega) (by rw [hsum,hby]; omega)
            rw [hsum,hcast] at r0
            have hK:=grownCap_ge w (len + m) cap' e
            generalize grownCap w (len + m) cap' e = K at r0 hK
            have hZ : ∃ Z : List Value,(cells.toList.take (j * n)).toArray ++ Builtin.zeroCells zv.cells (len + m - j) ++ Builtin.zeroCells zv.cells (K - (len + m)) = (cells.toList.take (j * n) ++ Z).toArray∧Z.length = (len + m - j) * n + (K - (len + m)) * n :=
              ⟨(Builtin.zeroCells zv.cells (len + m - j) ++ Builtin.zeroCells zv.cells (K - (len + m))).toList,by apply Array.ext'; simp,by simp [size_zeroCells,hzv]⟩
            obtain ⟨Z,hZ1,hZ2⟩:=hZ
            rw [hZ1] at r0
            have p1:=push_alloc_drew w (.cells (cells.toList.take (j * n) ++ Z).toArray e)
            generalize hw1 : w.drew.alloc (.cells (cells.toList.take (j * n) ++ Z).toArray e) = w1 at r0 p1
            have hOl : (cells.toList.take (j * n)).length = j * n:=by simp; omega
            have hKn : (len + m) * n + (K - (len + m)) * n = K * n:=by rw [← Nat.add_mul]; congr 1; omega
            have hlmj : j * n + (len + m - j) * n = (len + m) * n:=by rw [← Nat.add_mul]; congr 1
            have hmin2 : min m (len + m - j) = m:=by omega
            have hmin3 : min (len - j) (len + m - (j + m)) = len - j:=by omega
            have g1 : w1.heap[cv]? = some (.cells cellsv ev (0,0)):=(p1.2.2.2 cv hvw).trans gv
            have rA:=run_copy_at (P:=P) (w:=w1) (ts:=#[T,T]) (T:=T) (el:=e) (n:=n) 0 rfl I.hu hsO (c:=w.heap.size) (off:=j * n) (dLen:=len + m - j) (dCap:=K - j) (m:=m) (x':=.slice (some ⟨cv,ov,none⟩) m ov') (ys:=ys) (e:=e) rfl (by rw [hmin2,hys]; exact run_firstCells_row g1 hvfit) p1.2.2.1 (by simp; omega) k3
            rw [hmin2,hyl] at rA
            simp only [List.toList_toArray] at rA
            rw [rowA hOl hyl] at rA
            have aA:=at_setRow w1 w.heap.size _ (cells.toList.take (j * n) ++ ys ++ Z.drop (m * n)).toArray e (0,0) p1.2.2.1
            generalize hw2 : w1.setRow w.heap.size (cells.toList.take (j * n) ++ ys ++ Z.drop (m * n)).toArray = w2 at rA aA
            have p2:=push_at p1 aA
            have g2 : w2.heap[c]? = some (.cells cells el' (0,0)):=(p2.2.2.2 c hcw).trans f1
            have hM : ((cells.toList.drop (j * n)).take ((len - j) * n)).length = (len - j) * n:=by simp; omega
            have rB:=run_copy_at (P:=P) (w:=w2.drew) (ts:=#[T,T]) (T:=T) (el:=e) (n:=n) 0 rfl I.hu hsO (c:=w.heap.size) (off:=(j + m) * n) (dLen:=len + m - (j + m)) (dCap:=K - (j + m)) (m:=len - j) (x':=.slice (some ⟨c,j * n,none⟩) (len - j) (cap' - j)) (ys:=(cells.toList.drop (j * n)).take ((len - j) * n)) (e:=e) rfl (by rw [hmin3]; exact run_firstCells_row (w:=w2.drew) g2 (by omega)) aA.2.2.1 (by rw [hM]; simp; omega) (fun u hu => by
              obtain ⟨i,hi,rfl⟩:=List.mem_iff_getElem.1 hu
              simp only [List.length_take,List.length_drop,Array.length_toList] at hi
              simp only [List.getElem_take,List.getElem_drop,Array.getElem_toList]
              exact (f2.2.2 _ (by omega) (by omega)).2)
            rw [hmin3,hM] at rB
            simp only [List.toList_toArray] at rB
            rw [rowA (by simp; omega) hM] at rB
            have aB:=at_setRow w2.drew w.heap.size _ (cells.toList.take (j * n) ++ ys ++ (cells.toList.drop (j * n)).take ((len - j) * n) ++ (Z.drop (m * n)).drop ((len - j) * n)).toArray e (0,0) aA.2.2.1
            have p3:=push_at p2 (at_drew aB)
            have hb:=hBR ys ((Z.drop (m * n)).drop ((len - j) * n)) k2 k3 e
            have heq2 : (cells.toList.take (len * n)).take (j * n) ++ ys ++ (cells.toList.take (len * n)).drop (j * n) ++ (Z.drop (m * n)).drop ((len - j) * n) = cells.toList.take (j * n) ++ ys ++ (cells.toList.drop (j * n)).take ((len - j) * n) ++ (Z.drop (m * n)).drop ((len - j) * n):=by
              rw [List.take_take,List.drop_take,Nat.min_eq_left hjn,show len * n - j * n = (len - j) * n by omega]
            rw [heq2] at hb
            obtain ⟨s1,s2⟩:=sim_push hS p3 hb rfl hn
            have s3:=sim_drop s1 (hga _)
            have s4:=s2.trans (step_drop (hga _) (s2.ext.β _ _ hcb))
            rw [drop_alloc hbl] at s3 s4
            exact ⟨_,_,_,s3,s4,.slice (by simp [Gh.at]) (Nat.le_refl _) hK (by simp only [Gh.at,if_true]; rfl) (by simp; omega),I.grow c len cap' j m ov' K w.heap.size ⟨cv,ov,none⟩ w w1 w2 _ hjl (by omega) (by omega) (by omega) h40 hK (fun ty => r0) (fun ty => rA) (fun ty => rB)⟩
  · cases h
end Go.Hem
set_option linter.unusedVariables false
set_option linter.unusedSimpArgs false
namespace Go.Hem
open Go.RowKit
def grownG (G : Gh) (w w' : World) : Gh where
  β:=G.β
  fz:=fun c => if c < w.heap.size then G.fz c else w'.heap[c]?
  sz:=fun c => if c < w.heap.size then G.sz c else (w'.heap[c]?).bind Obj.csize
  sym:=G.sym
theorem grownG_ext {B : World} {G : Gh} {H : AHeap} {w w' : World} (hS : Sim B G H w) : Ext G (grownG G w w'):=by
  refine ⟨fun _ _ h => h,fun c o h => ?_,fun c s h => ?_,rfl⟩
  · have h1:=hS.fz c o h
    have : c < w.heap.size:=by
      rcases Nat.lt_or_ge c w.heap.size with q | q
      · exact q
      · rw [Array.getElem?_eq_none q] at h1; cases h1
    simp only [grownG,if_pos this]; exact h
  · simp only [grownG,if_pos (hS.szr c s h)]; exact h
theorem lt_of_some {w : World} {c : Nat} {o : Obj} (h : w.heap[c]? = some o) : c < w.heap.size:=by
  rcases Nat.lt_or_ge c w.heap.size with q | q
  · exact q
  · rw [Array.getElem?_eq_none q] at h; cases h
theorem sim_grown {B : World} {G : Gh} {H : AHeap} {w w' : World} (hS : Sim B G H w) (hb : Below w.heap.size w w') : Sim B (grownG G w w') H w' where
  os:=hb.os.trans hS.os
  tape:=hb.tape.trans hS.tape
  output:=hb.output.trans hS.output
  size:=Nat.le_trans hS.size hb.size
  base c hc:=by
    have:=hS.size
    simp only [grownG,if_pos (show c < w.heap.size by omega)]
    exact hS.base c hc
  fz c o h:=by
    simp only [grownG] at h
    split at h
    · rename_i q; rw [hb.block c q]; exact hS.fz c o h
    · exact h
  live b x c h k:=by
    obtain ⟨o,h1,h2⟩:=hS.live b x c h k
    exact ⟨o,by rw [hb.block c (lt_of_some h1)]; exact h1,h2.mono (grownG_ext hS)⟩
  inj b b' x x' c h h' k k':=hS.inj b b' x x' c h h' k k'
  nofz b x c h k:=by
    simp only [grownG,if_pos (hS.rng b c k)]
    exact hS.nofz b x c h k
  rng b c k:=Nat.lt_of_lt_of_le (hS.rng b c k) hb.size
  plain c o hc h:=by
    by_cases q : c < w.heap.size
    · simp only [grownG,if_pos q]
      exact hS.plain c o hc (by rw [← hb.block c q]; exact h)
    · simp only [grownG,if_neg q]
      exact .inr h
  sz c o hc h:=by
    by_cases q : c < w.heap.size
    · simp only [grownG,if_pos q]
      exact hS.sz c o hc (by rw [← hb.block c q]; exact h)
    · simp only [grownG,if_neg q,h]; rfl
  szr c s h:=by
    simp only [grownG] at h
    split at h
    · rename_i q; exact Nat.lt_of_lt_of_le q hb.size
    · simp only [Option.bind_eq_some_iff] at h
      obtain ⟨o,h1,_⟩:=h
      exact lt_of_some h1
  frz:=hS.frz.ext (grownG_ext hS) rfl
theorem callOK_below {P : Program} {B : World} {f : FuncId} {args : List AV} {H : AHeap} {s : Sc}
    (h : ∀ G w (args' : Array Value),Sim B G H w→VRs G args args'.toList→Calls P f args' w fun e w' => e = .returned s.val∧Below w.heap.size w w') :
    CallOK P B f args H (.sc s) H:=by
  intro G w args' hS hC hv cs
  obtain ⟨e,w'',fr',⟨rfl,hb⟩,k2,k3,k4⟩:=h G w args' hS hv cs
  refine ⟨grownG G w w'',w'',s.val,fr',sim_grown hS hb,⟨grownG_ext hS,fun b c k => .inl k,Nat.le_refl _,hb.size,fun c hc _ => hb.block c hc,fun b x h _ => h,fun b x c h1 h2 _ => ⟨b,x,h1,h2⟩,fun c o h1 h2 => ?_,fun c l hl => ⟨l,by rw [hb.block c (lt_of_some hl)]; exact hl⟩⟩,.sc s,k2,k3,k4⟩
  simp only [grownG] at h1
  split at h1
  · rw [h2] at h1; cases h1
  · rename_i q; exact .inl (Nat.le_of_not_lt q)
end Go.Hem
