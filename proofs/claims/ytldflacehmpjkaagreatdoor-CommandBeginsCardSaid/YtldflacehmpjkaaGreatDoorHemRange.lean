import Derived.Test.YtldflacehmpjkaaGreatDoorHemOw
namespace Go.Hem
variable {P : Program} {pol : Pol}
theorem ev_yield {l : Nat} {args : List AV} {H : AHeap} {Q : Out→AHeap→Prop} {pe : Option Code} {t t0 : List AV} {ps : List Tmp} {a b : Code} {ca cb : CC} (hl : H.get l = some (.loop .ready pe t ps a b)) (hp : setParams t ps args = some t0)
    (ha : comp P a = some ca) (hb : comp P b = some cb)
    (h : wpC P pol ca t0 H fun e t1 H1 => e = .normal∧∃ pe' t' ps' a' b',H1.get l = some (.loop .ready pe' t' ps' a' b')∧wpC P pol cb t1 (H1.put l (some (.loop .busy pe' t' ps' a' b'))) fun e _ H2 =>
      ∃ st pe2 t2 ps2 a2 b2,H2.get l = some (.loop st pe2 t2 ps2 a2 b2)∧Q (.val (.sc (.bool (jumpOf e).isNone))) (H2.put l (some (.loop (if (jumpOf e).isNone then .ready else .done) (jumpOf e) t2 ps2 a2 b2)))) :
    Ev P pol (.yield l args) H Q:=by
  obtain ⟨n,o,H1,h1,e1,t1,rfl,rfl,pe',t',ps',a',b',h2,h3⟩:=comp_ok ha h
  obtain ⟨m,o,H2,k1,e2,t2',rfl,st,pe2,t2,ps2,a2,b2,k2,k3⟩:=comp_ok hb h3
  refine ⟨max n m + 1,_,_,?_,k3⟩
  have a1:=run_le (Nat.le_max_left n m) _ _ _ h1
  have a2:=run_le (Nat.le_max_right n m) _ _ _ k1
  show stepTask P pol _ (run P pol (max n m)) (.yield l args) H = _
  simp only [stepTask,doYield,hl,hp,Option.bind_some,a1,h2,a2,k2]
theorem cells_get' {H : AHeap} {b : Nat} {z : List AV} (h : H.cells b = some z) : H.get b = some (.cells z):=by
  unfold AHeap.cells at h
  split at h
  · rename_i cs q; cases h; exact q
  · cases h
end Go.Hem
