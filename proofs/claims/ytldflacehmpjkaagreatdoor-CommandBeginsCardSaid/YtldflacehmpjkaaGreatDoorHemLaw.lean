/- Joined. -/
import Derived.Test.YtldflacehmpjkaaGreatDoorHemOw
import Derived.OpenShut
import Derived.Carry
import Derived.WalkKit
set_option linter.unusedVariables false
namespace Go.Hem
inductive Sh where
  | int (k : IntKind)
  | bool
  | str
  | slice (e : Sh)
  | struct (fs : List Sh)
mutual
def Sh.len : Sh→Nat
  | .struct fs => Sh.lens fs
  | _ => 1
def Sh.lens : List Sh→Nat
  | [] => 0
  | s :: l => Sh.len s + Sh.lens l
end
def Sh.agg : Sh→Bool
  | .struct _ => true
  | _ => false
def Canon (e : Sh) (v : AV) : Prop:=if e.agg = true then v = .agg v.cells else v.cells = [v]
mutual
def Sh.ok : Sh→List AV→Prop
  | .int k,as => ∃ n,as = [.sc (.int k n)]∧k.min ≤ n∧n ≤ k.max
  | .bool,as => ∃ b,as = [.sc (.bool b)]
  | .str,as => ∃ s : ByteArray,as = [.sc (.str s)]∧s.size ≤ maxLen
  | .slice e,as => as = [.sc .nils] ∨ ∃ l : List AV,as = [.imm l]∧l.length ≤ maxLen∧∀ v ∈ l,Sh.ok e v.cells∧Canon e v
  | .struct fs,as => Sh.oks fs as
def Sh.oks : List Sh→List AV→Prop
  | [],as => as = []
  | s :: l,as => ∃ a b,as = a ++ b∧Sh.ok s a∧Sh.oks l b
end
def shFs (P : Program) (g : TypeId→Option Sh) : List Field→Nat→Option (List Sh × Nat)
  | [],o => some ([],o)
  | f :: fs,o => if f.offset = o then (g f.type).bind fun s => if s.len = P.cellsOf f.type then (shFs P g fs (o + s.len)).map fun r => (s :: r.1,r.2) else none else none
def shOf (P : Program) : Nat→TypeId→Option Sh
  | 0,_ => none
  | d + 1,t =>
    match P.underlying t with
    | some (.int k) => some (.int k)
    | some .bool => some .bool
    | some .string => some .str
    | some (.slice e) => (shOf P d e).bind fun s => if s.len = P.cellsOf e∧s.len ≠ 0 then some (.slice s) else none
    | some (.struct fs) => (shFs P (shOf P d) fs.toList 0).bind fun r => if r.2 = P.cellsOf t then some (.struct r.1) else none
    | some (.array n e) => (shOf P d e).bind fun s => if s.len = P.cellsOf e∧n * s.len = P.cellsOf t then some (.struct (List.replicate n s)) else none
    | _ => none
section
variable {H : Type} {enc : TypeId × Value→H} {P : Program} {w : World} {spare : Nat→Bool} {held : Bool}
def Opened (w : World) (sh : Sh) (cs : List Value) : Prop:=∃ as,sh.ok as∧as.length = sh.len∧AV.ones as = true∧VRs (start w) as cs
end
end Go.Hem
namespace Go.Hem
open Go.RowKit
variable {P : Program} {pol : Pol}
theorem sim_heap {W W' : World} {G : Gh} {H : AHeap} (h : Sim W G H W') {k : Nat} (hk : k < W.heap.size) : W'.heap[k]? = W.heap[k]?:=by
  have h1:=h.base k hk
  rw [Array.getElem?_eq_getElem hk] at h1 ⊢
  exact h.fz k _ h1
def Grown2 (W w' : World) : Prop:=W.keptBut w' (fun _ => False)∧(∀ a,a.block < W.heap.size→w'.frozen? a = W.frozen? a)∧W.heap.size ≤ w'.heap.size
theorem grown_of_sim {W W' : World} {G : Gh} {H : AHeap} (h : Sim W G H W') : Grown2 W W':=by
  refine ⟨⟨h.os,h.output,fun i hi => ?_⟩,fun a ha => ?_,h.size⟩
  · rw [sim_heap h hi]
    cases W.heap[i]? with
    | none => rfl
    | some o => cases o <;> simp
  · unfold World.frozen?; rw [sim_heap h ha]
theorem below_of_sim {W W' : World} {G : Gh} {H : AHeap} (h : Sim W G H W') : Below W.heap.size W W':=⟨h.os,h.tape,h.output,h.size,fun _ hk => sim_heap h hk⟩
theorem freeze_is_sc {v : AV} {H H1 : AHeap} {s : Sc} (h : freeze v H = some (.sc s,H1)) : v = .sc s:=by
  unfold freeze freezeV at h
  split at h
  · simp only [Option.some.injEq,Prod.mk.injEq] at h; rw [h.1]
  · simp at h
  · simp at h
  · simp only [Option.map_eq_some_iff] at h; obtain ⟨r,_,h⟩:=h; simp at h
  · simp only [Option.map_eq_some_iff] at h; obtain ⟨r,_,h⟩:=h; simp at h
  · split at h
    · simp at h
    · split at h
      · split at h
        · cases h
        · simp only [Option.map_eq_some_iff] at h; obtain ⟨r,_,h⟩:=h; simp at h
      · simp only [Option.bind_eq_some_iff] at h
        obtain ⟨cs,_,h⟩:=h
        split at h
        · cases h
        · simp at h
  · cases h
theorem vr_sym {w : World} {σ : Int} (h0 : 0 ≤ σ) (h1 : σ ≤ 99) : VR (start w σ) .sym (.int .i64 σ):=VR.sym (G:=start w σ) h0 h1
theorem law_walk (hm : P.follows .mixedOrders = true) {f : FuncId} {as : List AV} (h : Pv P pol f as (.sc (.bool true))) {W : World} {args : Array Value} {σ : Int} (hv : VRs (start W σ) as args.toList) (hpol : PolOK P W pol:=by exact polOK_none rfl) :
    Calls P f args W fun e W' => e = .returned (.bool true)∧Grown2 W W'∧Below W.heap.size W W':=by
  obtain ⟨_,n,v0,H0,H1,h1,h2,_⟩:=h
  have:=freeze_is_sc h2
  subst this
  refine (calls_of_run hpol hm h1 hv).mono fun e W' ⟨G',v',he,hr,hs⟩ => ?_
  refine ⟨?_,grown_of_sim hs,below_of_sim hs⟩
  rw [he,hr.sc_inv]; rfl
end Go.Hem
