import Derived.Test.YtnlhhjmheghnnaaHemOw
namespace Go.Hem
variable {P : Program} {pol : Pol}
theorem ev_range {f : Operand} {ps : Array Tmp} {a b : Code} {ca cb : CC} {t : List AV} {H : AHeap} {Q : Post} {g : FuncId} {first captured : List AV} (hf : aev t f = .func (.func g) first captured)
    (hc : acallee P g (first ++ [.yield H.next] ++ captured) = some (.call g (first ++ [.yield H.next] ++ captured)))
    (h : ∀ a b,comp P a = some ca→comp P b = some cb→Ev P pol (.call g (first ++ [.yield H.next] ++ captured)) (H.alloc (.loop .ready none t ps.toList a b)) fun o H1 => ∃ v,o = .val v∧∃ st pe t' ps' a' b' e,H1.get H.next = some (.loop st pe t' ps' a' b')∧st ≠ .busy∧exitOf pe = some e ∧
      Q e t (H1.put H.next (some (.loop .exhausted pe t' ps' a' b')))) : wpC P pol (.range f ps a b ca cb) t H Q:=by
  intro ha hb
  obtain ⟨n,o,H1,h1,v,rfl,st,pe,t',ps',a',b',e,h2,h3,h4,h5⟩:=h a b ha hb
  refine ⟨n + 1,.ex e t,_,?_,e,t,rfl,h5⟩
  rw [code_succ]
  simp only [doCode,doRange,hf,hc,h1,h2]
  rw [if_neg h3,h4]; rfl
theorem ev_yield {l : Nat} {args : List AV} {H : AHeap} {Q : Out→AHeap→Prop} {pe : Option Code} {t t0 : List AV} {ps : List Tmp} {a b : Code} {ca cb : CC} (hl : H.get l = some (.loop .ready pe t ps a b)) (hp : setParams t ps args = some t0)
    (ha : comp P a = some ca) (hb : comp P b = some cb)
    (h : wpC P pol ca t0 H fun e t1 H1 => e = .normal∧∃ pe' t' ps' a' b',H1.get l = some (.loop .ready pe' t' ps' a' b')∧wpC P pol cb t1 (H1.put l (some (.loop .busy pe' t' ps' a' b'))) fun e _ H2 =>
      ∃ st pe2 t2 ps2 a2 b2,H2.get l = some (.loop st pe2 t2 ps2 a2 b2)∧Q (.val (.sc (.bool (jumpOf e).isNone))) (H2.put l (some (.loop (if (jumpOf e).isNone then .ready else .done) (jumpOf e) t2 ps2 a2 b2)))) :
    Ev P pol (.yield l args) H Q:=by
  obtain ⟨n,o,H1,h1,e1,t1,rfl,rfl,pe',t',ps',a',b',h2,h3⟩:=comp_ok ha h
  obtain ⟨m,o,H2,k1,e2,t2',rfl,st,pe2,t2,ps2,a2,b2,k2,k3⟩:=comp_ok hb h3
  refine ⟨max n m + 1,_,_,?_,k3⟩
  have a1:=run_le (Nat.le_max_left n m) _ _ _ h1
  have a2:=run_le (Nat.le_max_right n m) _ _ _ k1
  show stepTask P pol _ (run P pol (max n m)) (.yield l args) H = _
  simp only [stepTask,doYield,hl,hp,Option.bind_some,a1,h2,a2,k2]
theorem ev_round2 {l : Nat} {args : List AV} {H H1 : AHeap} {Q : Out→AHeap→Prop} {pe : Option Code} {t t0 t1 : List AV} {ps : List Tmp} {a b : Code} {ca cb : CC} (hl : H.get l = some (.loop .ready pe t ps a b)) (hp : setParams t ps args = some t0)
    (ha : comp P a = some ca) (hb : comp P b = some cb) (h1 : wpC P pol ca t0 H fun e t' H' => e = .normal∧t1 = t'∧H1 = H') (hl1 : H1.get l = some (.loop .ready pe t ps a b))
    (h2 : wpC P pol cb t1 (H1.put l (some (.loop .busy pe t ps a b))) fun e _ H2 => H2.get l = some (.loop .busy pe t ps a b) ∧
      Q (.val (.sc (.bool (jumpOf e).isNone))) (H2.put l (some (.loop (if (jumpOf e).isNone then .ready else .done) (jumpOf e) t ps a b)))) :
    Ev P pol (.yield l args) H Q:=by
  refine ev_yield hl hp ha hb (wpC_mono ?_ h1)
  rintro e t' H' ⟨rfl,rfl,rfl⟩
  exact ⟨rfl,pe,t,ps,a,b,hl1,wpC_mono (fun e _ H2 h => ⟨_,_,_,_,_,_,h.1,h.2⟩) h2⟩
theorem wA_yield {x : AV} {t : List AV} {H : AHeap} {is : List CI} {dst : Option Tmp} {rd : List COp} {R : List AV→AHeap→Prop} {l : Nat} {args : List AV}
    (h : Ev P pol (.yield l args) H fun o H' => ∃ v,o = .val v∧reK P (x :: t) H rd H'∧wpIns P pol is (putT (x :: t) dst v) H' R) : wA P pol rd is dst (x :: t) H R (some true) (some (.yield l args)):=h
theorem e_cally {l : Nat} {args : List AV} : callvOf P (.yield l) args = some (.yield l args):=rfl
theorem e_callf {f : FuncId} {first captured args : List AV} : callvOf P (.func (.func f) first captured) args = acallee P f (first ++ args ++ captured):=rfl
theorem cr_nil {t : List AV} {H : AHeap} : cresults t H [] = some (.tup []):=rfl
theorem cells_get' {H : AHeap} {b : Nat} {z : List AV} (h : H.cells b = some z) : H.get b = some (.cells z):=by
  unfold AHeap.cells at h
  split at h
  · rename_i cs q; cases h; exact q
  · cases h
theorem hg_lt {H : AHeap} {b : Nat} {x : Blk} (h : H.get b = some x) : b < H.next:=AHeap.get_lt h
theorem g_alloc_ne {H : AHeap} {b : Nat} {x : Blk} (h : b ≠ H.next) : (H.alloc x).get b = H.get b:=AHeap.get_alloc_ne H x h
theorem g_alloc {H : AHeap} {x : Blk} : (H.alloc x).get H.next = some x:=AHeap.get_alloc_self H x
theorem g_put_ne {H : AHeap} {b c : Nat} {x : Option Blk} (h : b ≠ c) : (H.put c x).get b = H.get b:=AHeap.get_put_ne H x h
theorem g_put {H : AHeap} {b : Nat} {x : Option Blk} {y : Blk} (h : H.get b = some y) : (H.put b x).get b = x:=AHeap.get_put_self x h
theorem c_alloc_ne {H : AHeap} {b : Nat} {x : Blk} (h : b ≠ H.next) : (H.alloc x).cells b = H.cells b:=cells_of_get (AHeap.get_alloc_ne H _ h)
theorem c_put_ne {H : AHeap} {b c : Nat} {x : Option Blk} (h : b ≠ c) : (H.put c x).cells b = H.cells b:=cells_of_get (AHeap.get_put_ne H _ h)
end Go.Hem
