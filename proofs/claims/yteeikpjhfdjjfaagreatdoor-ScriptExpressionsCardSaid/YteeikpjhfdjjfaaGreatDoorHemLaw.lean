import Derived.Test.YteeikpjhfdjjfaaGreatDoorHemOpen
namespace Go.Hem
open Go.RowKit
variable {P : Program} {pol : Pol}
theorem sim_heap {W W' : World} {G : Gh} {H : AHeap} (h : Sim W G H W') {k : Nat} (hk : k < W.heap.size) : W'.heap[k]? = W.heap[k]?:=by
  have h1:=h.base k hk
  rw [Array.getElem?_eq_getElem hk] at h1 ⊢
  exact h.fz k _ h1
def Grown2 (W w' : World) : Prop:=W.keptBut w' (fun _ => False)∧(∀ a,a.block < W.heap.size→w'.frozen? a = W.frozen? a)∧W.heap.size ≤ w'.heap.size
theorem grown_of_sim {W W' : World} {G : Gh} {H : AHeap} (h : Sim W G H W') : Grown2 W W':=by
  refine ⟨⟨h.os,h.output,fun i hi => ?_⟩,fun a ha => ?_,h.size⟩
  · rw [sim_heap h hi]
    cases W.heap[i]? with
    | none => rfl
    | some o => cases o <;> simp
  · unfold World.frozen?; rw [sim_heap h ha]
theorem below_of_sim {W W' : World} {G : Gh} {H : AHeap} (h : Sim W G H W') : Below W.heap.size W W':=⟨h.os,h.tape,h.output,h.size,fun _ hk => sim_heap h hk⟩
theorem freeze_is_sc {v : AV} {H H1 : AHeap} {s : Sc} (h : freeze v H = some (.sc s,H1)) : v = .sc s:=by
  unfold freeze freezeV at h
  split at h
  · simp only [Option.some.injEq,Prod.mk.injEq] at h; rw [h.1]
  · simp at h
  · simp only [Option.map_eq_some_iff] at h; obtain ⟨r,_,h⟩:=h; simp at h
  · simp only [Option.map_eq_some_iff] at h; obtain ⟨r,_,h⟩:=h; simp at h
  · split at h
    · simp at h
    · split at h
      · split at h
        · cases h
        · simp only [Option.map_eq_some_iff] at h; obtain ⟨r,_,h⟩:=h; simp at h
      · simp only [Option.bind_eq_some_iff] at h
        obtain ⟨cs,_,h⟩:=h
        split at h
        · cases h
        · simp at h
  · cases h
theorem law_walk (hm : P.follows .mixedOrders = true) {f : FuncId} {as : List AV} (h : Pv P pol f as (.sc (.bool true))) {W : World} {args : Array Value} (hv : VRs (start W) as args.toList) (hpol : PolOK P W pol:=by exact polOK_none rfl) :
    Calls P f args W fun e W' => e = .returned (.bool true)∧Grown2 W W'∧Below W.heap.size W W':=by
  obtain ⟨_,n,v0,H0,H1,h1,h2,_⟩:=h
  have:=freeze_is_sc h2
  subst this
  refine (calls_of_run hpol hm h1 hv).mono fun e W' ⟨G',v',he,hr,hs⟩ => ?_
  refine ⟨?_,grown_of_sim hs,below_of_sim hs⟩
  rw [he,hr.sc_inv]; rfl
end Go.Hem
