import Derived.WalkKit
import Derived.ProofKit
import Derived.JoinedOf
set_option maxRecDepth 100000
namespace Go.Hem
open Go
def bitC (m g : Nat) : Bool:=Nat.beq (Nat.land (Nat.shiftRight m g) 1) 1
theorem bitC_eq (m g : Nat) : bitC m g = m.testBit g:=by
  rw [Nat.testBit_eq_decide_div_mod_eq,Bool.eq_iff_iff,decide_eq_true_iff]
  unfold bitC
  rw [Nat.beq_eq]
  show (m >>> g) &&& 1 = 1 ↔ _
  rw [Nat.and_one_is_mod,Nat.shiftRight_eq_div_pow]
noncomputable def appC (a b : List Nat) : List Nat:=List.rec (motive:=fun _ => List Nat) b (fun x _ ih => x :: ih) a
theorem appC_eq (a b : List Nat) : appC a b = a ++ b:=by
  induction a with
  | nil => rfl
  | cons x a ih => show x :: appC a b = _; rw [ih]; rfl
noncomputable def getC (rows : List (List Nat)) : Nat→List Nat :=
  List.rec (motive:=fun _ => Nat→List Nat) (fun _ => []) (fun r _ ih g => Nat.rec (motive:=fun _ => List Nat) r (fun k _ => ih k) g) rows
theorem getC_eq (rows : List (List Nat)) : ∀ g,getC rows g = (rows[g]?).getD []:=by
  induction rows with
  | nil => intro g; rfl
  | cons r rows ih =>
    intro g
    cases g with
    | zero => rfl
    | succ k => show getC rows k = _; rw [ih]; simp
noncomputable def closM (rows : List (List Nat)) (n : Nat) : List Nat→Nat→List Nat→List Nat :=
  Nat.rec (motive:=fun _ => List Nat→Nat→List Nat→List Nat) (fun _ _ seen => seen.reverse)
    (fun _ ih todo m seen => List.rec (motive:=fun _ => List Nat) seen.reverse
      (fun g rest _ => bif bitC m g then ih rest m seen else ih (appC (getC rows g) rest) (Nat.lor m (Nat.shiftLeft 1 g)) (g :: seen)) todo) n
theorem closM_cons (rows : List (List Nat)) (n g : Nat) (todo : List Nat) (m : Nat) (seen : List Nat) :
    closM rows (n + 1) (g :: todo) m seen = bif bitC m g then closM rows n todo m seen else closM rows n (appC (getC rows g) todo) (Nat.lor m (Nat.shiftLeft 1 g)) (g :: seen):=rfl
theorem closM_eq {P : Program} {rows : List (List Nat)} (h : ∀ g : Nat,(P.funcs[g]?).elim [] P.leadsTo = (rows[g]?).getD []) :
    ∀ (n : Nat) (todo : List Nat) (m : Nat) (seen : List Nat),(∀ g,seen.contains g = m.testBit g)→P.closureVia n todo seen = closM rows n todo m seen
  | 0,_,_,_,_ => rfl
  | n + 1,[],_,_,_ => rfl
  | n + 1,g :: todo,m,seen,hs => by
    rw [closM_cons,bitC_eq,Program.closureVia,hs g]
    cases q : m.testBit g with
    | true => simp only [cond_true,if_true]; exact closM_eq h n todo m seen hs
    | false =>
      simp only [cond_false,Bool.false_eq_true,if_false]
      rw [closM_eq h n _ (Nat.lor m (Nat.shiftLeft 1 g)) (g :: seen),h g,appC_eq,getC_eq]
      intro k
      show _ = (m ||| (1 <<< g)).testBit k
      rw [List.contains_cons,hs k,Nat.testBit_or,Nat.one_shiftLeft,Nat.testBit_two_pow]
      cases m.testBit k <;> by_cases e : k = g
      · simp [e]
      · have e' : ¬ g = k:=fun x => e x.symm
        simp [e,e']
      · simp
      · simp
noncomputable def closF (rows : List (List Nat)) (f : Nat) : List Nat:=closM rows (1 + (rows.map fun r => r.length + 1).sum) [f] 0 []
theorem closure_of {P : Program} {rows : List (List Nat)} (h : P.funcs.toList.map P.leadsTo = rows) (f : Nat) : P.closure f = closF rows f:=by
  subst h
  unfold Program.closure closF
  rw [closM_eq (P:=P) (rows:=P.funcs.toList.map P.leadsTo) _ _ _ 0 []]
  · rw [List.map_map]; rfl
  all_goals intro g
  all_goals first | (rw [List.getElem?_map,Array.getElem?_toList]; cases P.funcs[g]? <;> rfl) | simp
theorem inPlace_of {P : Program} {f : Nat} {L : List Nat} {ns : List String} (h : P.closure f = L)
    (hn : (L.filterMap fun g => (P.funcs[g]?).bind fun fn => if fn.ours || fn.body.isNone || fn.name == "runtime.NumGoroutine" then some fn.name else none) = ns) : P.inPlace f = ns := by
  unfold Program.inPlace
  rw [h]
  exact hn
theorem varsNamed_of {P : Program} {f : Nat} {L G : List Nat} {a b c : List String} (h : P.closure f = L)
    (hg : (L.flatMap fun g => ((P.funcs[g]?).bind (·.body)).elim [] Code.globalsNamed).eraseDups = G)
    (ha : G.filterMap (fun g => (P.globals[g]?).map (·.name)) = a)
    (hb : (L.filterMap fun g => (P.funcs[g]?).bind fun fn => if fn.body.isNone then entryReads.lookup fn.name else none) = b)
    (hc : (a ++ b).eraseDups = c) : P.varsNamed f = c:=by
  unfold Program.varsNamed
  rw [h,hg,ha,hb,hc]
theorem beq_of {a b : List String} (h : b = a) : (a == b) = true:=by rw [h]; exact beq_self_eq_true a
end Go.Hem
