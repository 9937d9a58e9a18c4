import Derived.Test.YteffcgojmmbogaaGreatDoorHemKer
set_option linter.unusedVariables false
namespace Go.Hem
def isV (r : XR AV) (v : AV) : Bool :=
  match r with
  | .ok w => AV.beq w v
  | .error _ => false
theorem isV_spec {r : XR AV} {v : AV} (h : isV r v = true) : r = .ok v:=by
  unfold isV at h
  split at h
  · rw [AV.eq_of_beq _ _ h]
  · cases h
abbrev MemoL:=List (FuncId × List AV × AV)
noncomputable def memoC (e : FuncId × List AV × AV) (_ : MemoL) (ih : Memo) (f : FuncId) (args : List AV) : Option AV :=
  Bool.rec (motive:=fun _ => Option AV) (ih f args) (Bool.rec (motive:=fun _ => Option AV) (ih f args) (some e.2.2) (AV.beqs e.2.1 args)) (Nat.beq e.1 f)
noncomputable def memoOf (l : MemoL) : Memo:=List.rec (motive:=fun _ => Memo) (fun _ _ => none) memoC l
def MemosOk (P : Program) (pol : Pol) : MemoL→Prop
  | [] => True
  | e :: l => Pv P pol e.1 e.2.1 e.2.2∧MemosOk P pol l
theorem memoOf_ok {P : Program} {pol : Pol} : ∀ {l : MemoL},MemosOk P pol l→MemoOk P pol (memoOf l)
  | [],_ => fun f args v h => by cases h
  | e :: l,h => fun f args v hv hc => by
    have hv : memoC e l (memoOf l) f args = some v:=hv
    unfold memoC at hv
    cases q1 : Nat.beq e.1 f with
    | false => rw [q1] at hv; exact memoOf_ok h.2 f args v hv hc
    | true =>
      rw [q1] at hv
      cases q2 : AV.beqs e.2.1 args with
      | false => rw [q2] at hv; exact memoOf_ok h.2 f args v hv hc
      | true =>
        rw [q2] at hv
        cases hv
        rw [← Nat.eq_of_beq_eq_true q1,← AV.eq_of_beqs _ _ q2]
        exact h.1
end Go.Hem
