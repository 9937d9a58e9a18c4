/- Joined. -/
import Derived.Test.YtgappelpgocboaaGreatDoorHemOw
import Derived.OpenShut
import Derived.Carry
import Derived.WalkKit
set_option linter.unusedVariables false
namespace Go.Hem
inductive Sh where
  | int (k : IntKind)
  | bool
  | str
  | slice (e : Sh)
  | struct (fs : List Sh)
mutual
def Sh.len : Sh→Nat
  | .struct fs => Sh.lens fs
  | _ => 1
def Sh.lens : List Sh→Nat
  | [] => 0
  | s :: l => Sh.len s + Sh.lens l
end
def Sh.agg : Sh→Bool
  | .struct _ => true
  | _ => false
def Canon (e : Sh) (v : AV) : Prop:=if e.agg = true then v = .agg v.cells else v.cells = [v]
mutual
def Sh.ok : Sh→List AV→Prop
  | .int k,as => ∃ n,as = [.sc (.int k n)]∧k.min ≤ n∧n ≤ k.max
  | .bool,as => ∃ b,as = [.sc (.bool b)]
  | .str,as => ∃ s : ByteArray,as = [.sc (.str s)]∧s.size ≤ maxLen
  | .slice e,as => as = [.sc .nils] ∨ ∃ l : List AV,as = [.imm l]∧l.length ≤ maxLen∧∀ v ∈ l,Sh.ok e v.cells∧Canon e v
  | .struct fs,as => Sh.oks fs as
def Sh.oks : List Sh→List AV→Prop
  | [],as => as = []
  | s :: l,as => ∃ a b,as = a ++ b∧Sh.ok s a∧Sh.oks l b
end
def shFs (P : Program) (g : TypeId→Option Sh) : List Field→Nat→Option (List Sh × Nat)
  | [],o => some ([],o)
  | f :: fs,o => if f.offset = o then (g f.type).bind fun s => if s.len = P.cellsOf f.type then (shFs P g fs (o + s.len)).map fun r => (s :: r.1,r.2) else none else none
def shOf (P : Program) : Nat→TypeId→Option Sh
  | 0,_ => none
  | d + 1,t =>
    match P.underlying t with
    | some (.int k) => some (.int k)
    | some .bool => some .bool
    | some .string => some .str
    | some (.slice e) => (shOf P d e).bind fun s => if s.len = P.cellsOf e∧s.len ≠ 0 then some (.slice s) else none
    | some (.struct fs) => (shFs P (shOf P d) fs.toList 0).bind fun r => if r.2 = P.cellsOf t then some (.struct r.1) else none
    | some (.array n e) => (shOf P d e).bind fun s => if s.len = P.cellsOf e∧n * s.len = P.cellsOf t then some (.struct (List.replicate n s)) else none
    | _ => none
section
variable {H : Type} {enc : TypeId × Value→H} {P : Program} {w : World} {spare : Nat→Bool} {held : Bool}
def Opened (w : World) (sh : Sh) (cs : List Value) : Prop:=∃ as,sh.ok as∧as.length = sh.len∧AV.ones as = true∧VRs (start w) as cs
theorem ones_append {a b : List AV} (h : AV.ones a = true) (k : AV.ones b = true) : AV.ones (a ++ b) = true:=by
  simp only [AV.ones,List.all_append,Bool.and_eq_true] at *; exact ⟨h,k⟩
theorem fields_open {n : Nat} {g : TypeId→Option Sh} (hg : ∀ t sh cs x,g t = some sh→DataW.trod enc P w 0 spare held n t cs = some x→Opened w sh cs) {cs : List Value} :
    ∀ (fs : List Field) (o : Nat) (r : List Sh × Nat),shFs P g fs o = some r→r.2 = cs.length→(∀ f ∈ fs,∃ x,DataW.trod enc P w 0 spare held n f.type ((cs.drop f.offset).take (P.cellsOf f.type)) = some x) →
      ∃ as,Sh.oks r.1 as∧as.length = Sh.lens r.1∧AV.ones as = true∧VRs (start w) as (cs.drop o)
  | [],o,r,h,hr,_ => by
    simp only [shFs,Option.some.injEq] at h; subst h
    simp only at hr; subst hr
    exact ⟨[],rfl,rfl,rfl,by rw [List.drop_length]; exact VRs.nil⟩
  | f :: fs,o,r,h,hr,hf => by
    simp only [shFs] at h
    split at h
    rotate_left
    · cases h
    rename_i ho
    simp only [Option.bind_eq_some_iff] at h
    obtain ⟨s,hs,h⟩:=h
    split at h
    rotate_left
    · cases h
    rename_i hl
    simp only [Option.map_eq_some_iff] at h
    obtain ⟨q,hq,rfl⟩:=h
    obtain ⟨x,hx⟩:=hf f (by simp)
    obtain ⟨a,a1,a2,a3,a4⟩:=hg _ _ _ _ hs hx
    obtain ⟨b,b1,b2,b3,b4⟩:=fields_open hg fs (o + s.len) q hq hr (fun f hf' => hf f (by simp [hf']))
    refine ⟨a ++ b,⟨a,b,rfl,a1,b1⟩,by simp [a2,b2,Sh.lens],ones_append a3 b3,?_⟩
    rw [ho,← hl] at a4
    have e : cs.drop o = (cs.drop o).take s.len ++ cs.drop (o + s.len):=by
      rw [← List.drop_drop,List.take_append_drop]
    rw [e]
    exact a4.append b4
theorem canon_of {sh : Sh} {as : List AV} (h : sh.ok as) (hl : as.length = sh.len) (ho : AV.ones as = true) : ∃ v : AV,v.cells = as∧Canon sh v:=by
  by_cases ha : sh.agg = true
  · exact ⟨.agg as,rfl,by unfold Canon; rw [if_pos ha]; rfl⟩
  · have e : sh.len = 1:=by cases sh <;> simp [Sh.agg,Sh.len] at *
    match as,hl with
    | [v],_ =>
      have hv : v.cells = [v]:=by
        simp only [AV.ones,List.all_cons,List.all_nil,Bool.and_true] at ho
        cases v <;> simp [AV.one] at ho <;> rfl
      exact ⟨v,hv,by unfold Canon; rw [if_neg ha]; exact hv⟩
    | [],hl => simp [e] at hl
    | _ :: _ :: _,hl => simp [e] at hl
theorem cell_block {a : Addr} {v : Value} (h : w.cell? a = some v) : a.spot = none∧∃ c t fr,w.heap[a.block]? = some (.cells c t fr)∧c[a.off]? = some v:=by
  unfold World.cell? at h
  split at h
  · rename_i c t fr hb
    split at h
    · cases h
    · rename_i hs
      exact ⟨by simpa using hs,c,t,fr,hb,h⟩
  · cases h
theorem trod_arr {t e : TypeId} {m fuel : Nat} {cs : List Value} {x : DataW H × List MemPlace} (ht : P.underlying t = some (.array m e)) (h : DataW.trod enc P w 0 spare held fuel t cs = some x) :
    ∃ n,cs.length = P.cellsOf t∧∀ i,i < m→∃ y,DataW.trod enc P w 0 spare held n e ((cs.drop (i * P.cellsOf e)).take (P.cellsOf e)) = some y:=by
  cases fuel with
  | zero => simp [DataW.trod] at h
  | succ n =>
    unfold DataW.trod at h
    simp only [ht] at h
    split at h
    · rename_i hl
      simp only [Option.map_eq_some_iff] at h
      obtain ⟨ys,h1,_⟩:=h
      refine ⟨n,hl,fun i hi => ?_⟩
      have key : ∀ (l : List Nat) (ys : List (DataW H × List MemPlace)),(l.mapM fun i => DataW.trod enc P w 0 spare held n e ((cs.drop (i * P.cellsOf e)).take (P.cellsOf e))) = some ys→∀ i ∈ l,∃ y,DataW.trod enc P w 0 spare held n e ((cs.drop (i * P.cellsOf e)).take (P.cellsOf e)) = some y:=by
        intro l
        induction l with
        | nil => intro _ _ i h; simp at h
        | cons b l ih =>
          intro ys hys i hi
          simp only [List.mapM_cons,Option.bind_eq_bind,Option.bind_eq_some_iff,Option.pure_def,Option.some.injEq] at hys
          obtain ⟨u,hu,us,hus,rfl⟩:=hys
          rcases List.mem_cons.1 hi with rfl | hi
          · exact ⟨u,hu⟩
          · exact ih us hus i hi
      exact key _ _ h1 i (by simpa using hi)
    · cases h
theorem add_block {a : Addr} {i : Nat} : (a.add i).block = a.block:=by unfold Addr.add; split <;> rfl
theorem add_off {a : Addr} {i : Nat} : (a.add i).off = a.off + i:=by unfold Addr.add; split <;> simp_all
theorem open_trod : ∀ (d : Nat) (t : TypeId) (sh : Sh) (fuel : Nat) (cs : List Value) (x : DataW H × List MemPlace),shOf P d t = some sh→DataW.trod enc P w 0 spare held fuel t cs = some x→Opened w sh cs
  | 0,_,_,_,_,_,h,_ => by cases h
  | d + 1,t,sh,fuel,cs,x,h,hx => by
    unfold shOf at h
    split at h
    · rename_i k ht
      cases h
      obtain ⟨n,rfl,_,hw⟩:=DataW.trod_int ht hx
      simp only [Lit.wf,Bool.and_eq_true,decide_eq_true_eq] at hw
      exact ⟨[.sc (.int k n)],⟨n,rfl,hw⟩,rfl,rfl,VRs.cons (.sc (.int k n)) VRs.nil⟩
    · rename_i ht
      cases h
      obtain ⟨b,rfl,_⟩:=DataW.trod_bool ht hx
      exact ⟨[.sc (.bool b)],⟨b,rfl⟩,rfl,rfl,VRs.cons (.sc (.bool b)) VRs.nil⟩
    · rename_i ht
      cases h
      obtain ⟨s,rfl,_,hs⟩:=DataW.trod_string ht hx
      exact ⟨[.sc (.str s)],⟨s,rfl,hs⟩,rfl,rfl,VRs.cons (.sc (.str s)) VRs.nil⟩
    · rename_i e ht
      simp only [Option.bind_eq_some_iff] at h
      obtain ⟨s,hs,h⟩:=h
      split at h
      rotate_left
      · cases h
      rename_i hl
      cases h
      rcases DataW.trod_slice ht hx with ⟨rfl,_⟩ | ⟨a,len,cap,elems,rest,n,_,rfl,_,_,h1,h2,h3,h4,_⟩
      · exact ⟨[.sc .nils],.inl rfl,rfl,rfl,VRs.cons (.sc .nils) VRs.nil⟩
      · have each : ∀ i,∃ v : AV,i < len→Sh.ok s v.cells∧Canon s v∧v.cells.length = s.len∧AV.ones v.cells = true∧∃ ci,w.cells? 0 (a.add (i * s.len)) s.len = some ci∧VRs (start w) v.cells ci:=by
          intro i
          by_cases hi : i < len
          · have:=h4 i hi
            rw [List.getElem?_eq_getElem (by omega)] at this
            simp only [Option.bind_eq_some_iff] at this
            obtain ⟨ci,c1,c2⟩:=this
            obtain ⟨as,a1,a2,a3,a4⟩:=open_trod d e s n ci _ hs c2
            obtain ⟨v,rfl,v2⟩:=canon_of a1 a2 a3
            exact ⟨v,fun _ => ⟨a1,v2,a2,a3,ci,by rw [hl.1]; exact c1,a4⟩⟩
          · exact ⟨.poison,fun h => absurd h hi⟩
        obtain ⟨f,hf⟩:=Classical.axiomOfChoice each
        refine ⟨[.imm ((List.range len).map f)],.inr ⟨_,rfl,by simp; omega,?_⟩,rfl,rfl,VRs.cons ?_ VRs.nil⟩
        · intro v hv
          simp only [List.mem_map,List.mem_range] at hv
          obtain ⟨i,hi,rfl⟩:=hv
          exact ⟨(hf i hi).1,(hf i hi).2.1⟩
        · by_cases h0 : len = 0
          · subst h0; exact .immNil
          · have cellAt : ∀ i j,i < len→j < s.len→∃ v,w.cell? ((a.add (i * s.len)).add j) = some v∧∀ ci,w.cells? 0 (a.add (i * s.len)) s.len = some ci→ci[j]? = some v:=by
              intro i j hi hj
              obtain ⟨_,_,e1,_,ci,c1,c2⟩:=hf i hi
              have c1':=c1
              unfold World.cells? at c1'
              rw [if_pos (Nat.zero_le _)] at c1'
              have hl2 : ci.length = s.len:=by rw [← c2.1,e1]
              have key : ∀ (l : List Nat) (ci : List Value),(l.mapM fun i' => w.cell? ((a.add (i * s.len)).add i')) = some ci→∀ j (h : j < l.length),w.cell? ((a.add (i * s.len)).add l[j]) = ci[j]?:=by
                intro l
                induction l with
                | nil => intro ci _ j h; simp at h
                | cons b l ih =>
                  intro ci hci j hj
                  simp only [List.mapM_cons,Option.bind_eq_bind,Option.bind_eq_some_iff,Option.pure_def,Option.some.injEq] at hci
                  obtain ⟨u,hu,us,hus,rfl⟩:=hci
                  cases j with
                  | zero => simpa using hu
                  | succ j => simpa using ih us hus j (by simpa using hj)
              have:=key _ _ c1' j (by simpa using hj)
              simp only [List.getElem_range] at this
              refine ⟨ci[j]'(by omega),by rw [this]; simp,fun ci' hci' => ?_⟩
              rw [c1] at hci'; cases hci'; simp
            obtain ⟨v0,hv0,_⟩:=cellAt 0 0 (by omega) (by omega)
            obtain ⟨hsp,c,ty,fr,hb,_⟩:=cell_block hv0
            have hspot : a.spot = none:=by simpa [Addr.add] using hsp
            have hb' : w.heap[a.block]? = some (.cells c ty fr):=by simpa [Addr.add] using hb
            have hc : ∀ i j,i < len→j < s.len→∃ v,c[a.off + i * s.len + j]? = some v∧∀ ci,w.cells? 0 (a.add (i * s.len)) s.len = some ci→ci[j]? = some v:=by
              intro i j hi hj
              obtain ⟨v,hv,hv2⟩:=cellAt i j hi hj
              obtain ⟨_,c',ty',fr',hb2,hv3⟩:=cell_block hv
              have hb3 : w.heap[a.block]? = some (.cells c' ty' fr'):=by simpa only [add_block] using hb2
              rw [hb'] at hb3; cases hb3
              refine ⟨v,?_,hv2⟩
              simpa only [add_off] using hv3
            obtain ⟨ab,ao,asp⟩:=a
            simp only at hspot hb'
            subst hspot
            have hlen : ((List.range len).map f).length = len:=by simp
            have:=VR.imm (G:=start w) (l:=(List.range len).map f) (n:=s.len) (c:=ab) (o:=ao) (cap:=cap) (cells:=c) (elem:=ty) (fr:=fr) (fun i j => (c[ao + i * s.len + j]?).getD undef) hb' (fun i hi => by
                simp only [List.getElem_map,List.getElem_range]
                exact (hf i (by simpa using hi)).2.2.1) (by simp; omega) (fun i j hi hj => by
                obtain ⟨v,hv,_⟩:=hc i j (by simpa using hi) hj
                simp only at hv; rw [hv]; rfl) (fun i j hi hj => by
                obtain ⟨v,hv,hv2⟩:=hc i j (by simpa using hi) hj
                simp only at hv; rw [hv]
                obtain ⟨_,_,e1,e2,ci,c1,c2⟩:=hf i (by simpa using hi)
                have h5:=hv2 ci c1
                obtain ⟨hj2,rfl⟩:=List.getElem?_eq_some_iff.1 h5
                exact c2.ones e2 _ (List.getElem_mem hj2)) (fun i hi j hj => by
                have hi' : i < len:=by simpa using hi
                obtain ⟨_,_,e1,e2,ci,c1,c2⟩:=hf i hi'
                simp only [List.getElem_map,List.getElem_range] at hj ⊢
                obtain ⟨v,hv,hv2⟩:=hc i j hi' (by omega)
                simp only at hv; rw [hv]
                have h5:=hv2 ci c1
                obtain ⟨hj2,rfl⟩:=List.getElem?_eq_some_iff.1 h5
                exact c2.2 j hj hj2)
            rw [hlen] at this
            exact this
    · rename_i fs ht
      simp only [Option.bind_eq_some_iff] at h
      obtain ⟨r,hr,h⟩:=h
      split at h
      rotate_left
      · cases h
      rename_i hr2
      cases h
      obtain ⟨xs,n,_,_,hlen,hxs,hf⟩:=DataW.trod_struct ht hx
      obtain ⟨as,a1,a2,a3,a4⟩:=fields_open (enc:=enc) (spare:=spare) (held:=held) (n:=n) (g:=shOf P d) (fun t sh cs x => open_trod d t sh n cs x) fs.toList 0 r hr (by rw [hr2,hlen]) (fun f hf' => by
        obtain ⟨i,hi,rfl⟩:=List.getElem_of_mem hf'
        have h6:=hf i fs.toList[i] (by simp [show i < fs.size by simpa using hi])
        rw [List.getElem?_eq_getElem (by rw [hxs]; simpa using hi)] at h6
        exact ⟨_,h6⟩)
      exact ⟨as,a1,a2,a3,by simpa using a4⟩
    · rename_i m e ht
      simp only [Option.bind_eq_some_iff] at h
      obtain ⟨s,hs,h⟩:=h
      split at h
      rotate_left
      · cases h
      rename_i hl
      cases h
      obtain ⟨n,hlen,hf⟩:=trod_arr ht hx
      have go : ∀ k o,k + o = m→∃ as,Sh.oks (List.replicate k s) as∧as.length = Sh.lens (List.replicate k s)∧AV.ones as = true∧VRs (start w) as (cs.drop (o * s.len)):=by
        intro k
        induction k with
        | zero =>
          intro o ho
          refine ⟨[],rfl,rfl,rfl,?_⟩
          rw [List.drop_of_length_le (by rw [hlen,← hl.2,show o = m by omega]; exact Nat.le_refl _)]
          exact VRs.nil
        | succ k ih =>
          intro o ho
          obtain ⟨b,b1,b2,b3,b4⟩:=ih (o + 1) (by omega)
          obtain ⟨x',hx'⟩:=hf o (by omega)
          obtain ⟨a,a1,a2,a3,a4⟩:=open_trod d e s n _ _ hs hx'
          rw [← hl.1] at a4
          refine ⟨a ++ b,⟨a,b,rfl,a1,b1⟩,by simp [a2,b2,Sh.lens,List.replicate_succ],ones_append a3 b3,?_⟩
          have e1 : cs.drop (o * s.len) = (cs.drop (o * s.len)).take s.len ++ cs.drop ((o + 1) * s.len):=by
            rw [Nat.succ_mul,← List.drop_drop,List.take_append_drop]
          rw [e1]
          exact a4.append b4
      obtain ⟨as,a1,a2,a3,a4⟩:=go m 0 (by omega)
      exact ⟨as,a1,a2,a3,by simpa using a4⟩
    · cases h
end
end Go.Hem
namespace Go.Hem
open Go.RowKit
variable {P : Program} {pol : Pol}
theorem sim_heap {W W' : World} {G : Gh} {H : AHeap} (h : Sim W G H W') {k : Nat} (hk : k < W.heap.size) : W'.heap[k]? = W.heap[k]?:=by
  have h1:=h.base k hk
  rw [Array.getElem?_eq_getElem hk] at h1 ⊢
  exact h.fz k _ h1
def Grown2 (W w' : World) : Prop:=W.keptBut w' (fun _ => False)∧(∀ a,a.block < W.heap.size→w'.frozen? a = W.frozen? a)∧W.heap.size ≤ w'.heap.size
theorem grown_of_sim {W W' : World} {G : Gh} {H : AHeap} (h : Sim W G H W') : Grown2 W W':=by
  refine ⟨⟨h.os,h.output,fun i hi => ?_⟩,fun a ha => ?_,h.size⟩
  · rw [sim_heap h hi]
    cases W.heap[i]? with
    | none => rfl
    | some o => cases o <;> simp
  · unfold World.frozen?; rw [sim_heap h ha]
theorem below_of_sim {W W' : World} {G : Gh} {H : AHeap} (h : Sim W G H W') : Below W.heap.size W W':=⟨h.os,h.tape,h.output,h.size,fun _ hk => sim_heap h hk⟩
theorem freeze_is_sc {v : AV} {H H1 : AHeap} {s : Sc} (h : freeze v H = some (.sc s,H1)) : v = .sc s:=by
  unfold freeze freezeV at h
  split at h
  · simp only [Option.some.injEq,Prod.mk.injEq] at h; rw [h.1]
  · simp at h
  · simp only [Option.map_eq_some_iff] at h; obtain ⟨r,_,h⟩:=h; simp at h
  · simp only [Option.map_eq_some_iff] at h; obtain ⟨r,_,h⟩:=h; simp at h
  · split at h
    · simp at h
    · split at h
      · split at h
        · cases h
        · simp only [Option.map_eq_some_iff] at h; obtain ⟨r,_,h⟩:=h; simp at h
      · simp only [Option.bind_eq_some_iff] at h
        obtain ⟨cs,_,h⟩:=h
        split at h
        · cases h
        · simp at h
  · cases h
theorem law_walk (hm : P.follows .mixedOrders = true) {f : FuncId} {as : List AV} (h : Pv P pol f as (.sc (.bool true))) {W : World} {args : Array Value} (hv : VRs (start W) as args.toList) (hpol : PolOK P W pol:=by exact polOK_none rfl) :
    Calls P f args W fun e W' => e = .returned (.bool true)∧Grown2 W W'∧Below W.heap.size W W':=by
  obtain ⟨_,n,v0,H0,H1,h1,h2,_⟩:=h
  have:=freeze_is_sc h2
  subst this
  refine (calls_of_run hpol hm h1 hv).mono fun e W' ⟨G',v',he,hr,hs⟩ => ?_
  refine ⟨?_,grown_of_sim hs,below_of_sim hs⟩
  rw [he,hr.sc_inv]; rfl
theorem okStruct {w : World} {t : TypeId} {v : Value} {fs : Array Field} {r : _root_.Go.Reach} {b : Nat} (ht : P.underlying t = some (.struct fs)) (h : Value.okWide P w r b t v) : ∃ cs,v = .agg cs:=by
  simp only [Value.okWide,ht] at h
  obtain ⟨cs,h1,_⟩:=h
  exact ⟨cs,h1⟩
theorem arg_struct {H : Type} {enc : TypeId × Value→H} {w : World} {held : Bool} {spare : Nat→Bool} {t : TypeId} {v : Value} {d : DataW H} {ps : List MemPlace} {fs : Array Field} {r : _root_.Go.Reach} {b k : Nat} {sh : Sh} (ht : P.underlying t = some (.struct fs)) (hok : Value.okWide P w r b t v)
    (hs : shOf P k t = some sh) (h : DataW.Trod enc P w 0 spare held t v d ps) : ∃ as,sh.ok as∧VR (start w) (.agg as) v:=by
  obtain ⟨cs,rfl⟩:=okStruct ht hok
  obtain ⟨fuel,hf⟩:=h
  obtain ⟨as,a1,_,_,a4⟩:=open_trod k t sh fuel _ _ hs hf
  have:=VR.agg (G:=start w) a4.1 a4.2
  exact ⟨as,a1,by simpa [Value.cells] using this⟩
end Go.Hem
