import Derived.Test.YtgappelpgocboaaGreatDoorHemIns
import Derived.Below
set_option linter.unusedVariables false
set_option linter.unusedSimpArgs false
namespace Go.Hem
open Go.RowKit
def grownG (G : Gh) (w w' : World) : Gh where
  β:=G.β
  fz:=fun c => if c < w.heap.size then G.fz c else w'.heap[c]?
  sz:=fun c => if c < w.heap.size then G.sz c else (w'.heap[c]?).bind Obj.csize
theorem grownG_ext {B : World} {G : Gh} {H : AHeap} {w w' : World} (hS : Sim B G H w) : Ext G (grownG G w w'):=by
  refine ⟨fun _ _ h => h,fun c o h => ?_,fun c s h => ?_⟩
  · have h1:=hS.fz c o h
    have : c < w.heap.size:=by
      rcases Nat.lt_or_ge c w.heap.size with q | q
      · exact q
      · rw [Array.getElem?_eq_none q] at h1; cases h1
    simp only [grownG,if_pos this]; exact h
  · simp only [grownG,if_pos (hS.szr c s h)]; exact h
theorem lt_of_some {w : World} {c : Nat} {o : Obj} (h : w.heap[c]? = some o) : c < w.heap.size:=by
  rcases Nat.lt_or_ge c w.heap.size with q | q
  · exact q
  · rw [Array.getElem?_eq_none q] at h; cases h
theorem sim_grown {B : World} {G : Gh} {H : AHeap} {w w' : World} (hS : Sim B G H w) (hb : Below w.heap.size w w') : Sim B (grownG G w w') H w' where
  os:=hb.os.trans hS.os
  tape:=hb.tape.trans hS.tape
  output:=hb.output.trans hS.output
  size:=Nat.le_trans hS.size hb.size
  base c hc:=by
    have:=hS.size
    simp only [grownG,if_pos (show c < w.heap.size by omega)]
    exact hS.base c hc
  fz c o h:=by
    simp only [grownG] at h
    split at h
    · rename_i q; rw [hb.block c q]; exact hS.fz c o h
    · exact h
  live b x c h k:=by
    obtain ⟨o,h1,h2⟩:=hS.live b x c h k
    exact ⟨o,by rw [hb.block c (lt_of_some h1)]; exact h1,h2.mono (grownG_ext hS)⟩
  inj b b' x x' c h h' k k':=hS.inj b b' x x' c h h' k k'
  nofz b x c h k:=by
    simp only [grownG,if_pos (hS.rng b c k)]
    exact hS.nofz b x c h k
  rng b c k:=Nat.lt_of_lt_of_le (hS.rng b c k) hb.size
  plain c o hc h:=by
    by_cases q : c < w.heap.size
    · simp only [grownG,if_pos q]
      exact hS.plain c o hc (by rw [← hb.block c q]; exact h)
    · simp only [grownG,if_neg q]
      exact .inr h
  sz c o hc h:=by
    by_cases q : c < w.heap.size
    · simp only [grownG,if_pos q]
      exact hS.sz c o hc (by rw [← hb.block c q]; exact h)
    · simp only [grownG,if_neg q,h]; rfl
  szr c s h:=by
    simp only [grownG] at h
    split at h
    · rename_i q; exact Nat.lt_of_lt_of_le q hb.size
    · simp only [Option.bind_eq_some_iff] at h
      obtain ⟨o,h1,_⟩:=h
      exact lt_of_some h1
  frz:=hS.frz.ext (grownG_ext hS) rfl
theorem callOK_below {P : Program} {B : World} {f : FuncId} {args : List AV} {H : AHeap} {s : Sc}
    (h : ∀ G w (args' : Array Value),Sim B G H w→VRs G args args'.toList→Calls P f args' w fun e w' => e = .returned s.val∧Below w.heap.size w w') :
    CallOK P B f args H (.sc s) H:=by
  intro G w args' hS hC hv cs
  obtain ⟨e,w'',fr',⟨rfl,hb⟩,k2,k3,k4⟩:=h G w args' hS hv cs
  refine ⟨grownG G w w'',w'',s.val,fr',sim_grown hS hb,⟨grownG_ext hS,fun b c k => .inl k,Nat.le_refl _,hb.size,fun c hc _ => hb.block c hc,fun b x h _ => h,fun b x c h1 h2 _ => ⟨b,x,h1,h2⟩,fun c o h1 h2 => ?_,fun c l hl => ⟨l,by rw [hb.block c (lt_of_some hl)]; exact hl⟩⟩,.sc s,k2,k3,k4⟩
  simp only [grownG] at h1
  split at h1
  · rw [h2] at h1; cases h1
  · rename_i q; exact .inl (Nat.le_of_not_lt q)
end Go.Hem
