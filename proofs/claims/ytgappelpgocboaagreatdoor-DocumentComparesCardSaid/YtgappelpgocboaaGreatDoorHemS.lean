import Derived.Test.YtgappelpgocboaaGreatDoorHemR
namespace Go.Hem
def Le (r s : Run) : Prop:=∀ T H x,r T H = some x→s T H = some x
theorem doCall_mono {pol : Pol} {r s : Run} (h : Le r s) {f args H x} (e : doCall pol r f args H = some x) : doCall pol s f args H = some x:=by
  unfold doCall at e ⊢
  split
  · rename_i hc; rw [if_pos hc] at e
    split at e
    · rename_i q; rw [h _ _ _ q]; exact e
    · cases e
  · rename_i hc; rw [if_neg hc] at e
    split
    · rename_i hp; rw [if_pos hp] at e
      split
      · rename_i a H0 hfz
        rw [hfz] at e
        simp only at e
        split
        · rename_i hcl; rw [if_pos hcl] at e
          split at e
          · rename_i q; rw [h _ _ _ q]; exact e
          · cases e
        · rename_i hcl; rw [if_neg hcl] at e; cases e
      · rename_i hfz
        rw [hfz] at e
        simp only at e
        split at e
        · rename_i q; rw [h _ _ _ q]; exact e
        · cases e
    · rename_i hp; rw [if_neg hp] at e
      split at e
      · rename_i q; rw [h _ _ _ q]; exact e
      · cases e
theorem doEff_mono {pol : Pol} {r s : Run} (h : Le r s) {t dst H e x} (q : doEff pol r t dst H e = some x) : doEff pol s t dst H e = some x:=by
  cases e with
  | call f args =>
    simp only [doEff,Option.map_eq_some_iff] at q ⊢
    obtain ⟨a,q1,q2⟩:=q
    exact ⟨a,doCall_mono h q1,q2⟩
  | yield l args =>
    simp only [doEff] at q ⊢
    split at q
    · rename_i q1; rw [h _ _ _ q1]; exact q
    · cases q
  | _ => exact q
theorem doOp_mono {P : Program} {pol : Pol} {r s : Run} (h : Le r s) {ops o t H x} (q : doOp P pol r ops o t H = some x) : doOp P pol s ops o t H = some x:=by
  unfold doOp at q ⊢
  split at q
  · split at q
    · rename_i hp
      rw [if_pos hp]
      simp only [Option.bind_eq_some_iff] at q ⊢
      obtain ⟨e,q1,q2⟩:=q
      exact ⟨e,q1,doEff_mono h q2⟩
    · cases q
  · exact q
  · cases q
theorem doOps_mono {P : Program} {pol : Pol} {r s : Run} (h : Le r s) {ops} : ∀ {os t H x},doOps P pol r ops os t H = some x→doOps P pol s ops os t H = some x
  | [],_,_,_,q => q
  | o :: os,t,H,x,q => by
    simp only [doOps,Option.bind_eq_some_iff] at q ⊢
    obtain ⟨e,q1,q2⟩:=q
    exact ⟨e,doOp_mono h q1,doOps_mono h q2⟩
theorem doEffV_mono {pol : Pol} {r s : Run} (h : Le r s) {H e x} (q : doEffV pol r H e = some x) : doEffV pol s H e = some x:=by
  cases e with
  | call f args => exact doCall_mono h q
  | yield l args =>
    simp only [doEffV] at q ⊢
    split at q
    · rename_i q1; rw [h _ _ _ q1]; exact q
    · cases q
  | _ => exact q
theorem doOpV_mono {P : Program} {pol : Pol} {r s : Run} (h : Le r s) {ops o t H x} (q : doOpV P pol r ops o t H = some x) : doOpV P pol s ops o t H = some x:=by
  unfold doOpV at q ⊢
  split at q
  · split at q
    · rename_i hp
      rw [if_pos hp]
      split at q
      · split at q
        · rename_i hc
          simp only [hc,if_true]
          exact doEffV_mono h q
        · cases q
      · cases q
    · cases q
  · exact q
  · cases q
theorem traceOps_mono {P : Program} {pol : Pol} {r s : Run} (h : Le r s) {ops} : ∀ {os t H x},traceOps P pol r ops os t H = some x→traceOps P pol s ops os t H = some x
  | [],_,_,_,q => q
  | j :: os,t,H,x,q => by
    simp only [traceOps,Option.bind_eq_bind,Option.bind_eq_some_iff] at q ⊢
    obtain ⟨o,q0,e,q1,y,q2,q3⟩:=q
    exact ⟨o,q0,e,doOpV_mono h q1,y,traceOps_mono h q2,q3⟩
theorem doDraw_mono {P : Program} {pol : Pol} {r s : Run} (h : Le r s) {t H ops x} (q : doDraw P pol r t H ops = some x) : doDraw P pol s t H ops = some x:=by
  unfold doDraw at q ⊢
  simp only at q ⊢
  split at q
  · rename_i hc; rw [if_pos hc]
    split at q
    · rename_i q1; rw [traceOps_mono h q1]; exact q
    · cases q
  · cases q
theorem doYield_mono {r s : Run} (h : Le r s) {l args H x} (q : doYield r l args H = some x) : doYield s l args H = some x:=by
  unfold doYield at q ⊢
  split at q
  · simp only [Option.bind_eq_some_iff] at q ⊢
    obtain ⟨t0,q0,q⟩:=q
    refine ⟨t0,q0,?_⟩
    split at q
    · rename_i q1; rw [h _ _ _ q1]
      simp only
      split at q
      · split at q
        · rename_i q2; rw [h _ _ _ q2]; exact q
        · cases q
      · cases q
    · cases q
  · cases q
theorem doRange_mono {P : Program} {r s : Run} (h : Le r s) {f ps a b t H x} (q : doRange P r f ps a b t H = some x) : doRange P s f ps a b t H = some x:=by
  unfold doRange at q ⊢
  split at q
  · split at q
    · split at q
      · rename_i q1; rw [h _ _ _ q1]; exact q
      · cases q
    · cases q
  · cases q
theorem doCode_mono {P : Program} {pol : Pol} {r s : Run} (h : Le r s) {c t H x} (q : doCode P pol (doDraw P pol) r t H c = some x) : doCode P pol (doDraw P pol) s t H c = some x:=by
  unfold doCode at q ⊢
  split at q
  · exact q
  · exact q
  · simp only [Option.map_eq_some_iff] at q ⊢
    obtain ⟨a,q1,q2⟩:=q
    exact ⟨a,doOps_mono h q1,q2⟩
  · simp only [Option.map_eq_some_iff] at q ⊢
    obtain ⟨a,q1,q2⟩:=q
    exact ⟨a,doDraw_mono h q1,q2⟩
  · split at q
    · rename_i q1; rw [h _ _ _ q1]; exact h _ _ _ q
    · rename_i q1
      rw [h _ _ _ q]
      split
      · rename_i q2
        cases q2
        exact absurd q (by intro h'; exact q1 _ _ h')
      · rfl
  · split at q
    · exact h _ _ _ q
    · exact h _ _ _ q
    · cases q
  · split at q
    · rename_i q1; rw [h _ _ _ q1]; exact q
    · rename_i q1
      rw [h _ _ _ q]
      split
      · rename_i q2
        cases q2
        exact absurd q (by intro h'; exact q1 _ _ _ h')
      · rfl
  · exact h _ _ _ q
  · exact h _ _ _ q
  · exact q
  · exact q
  · exact doRange_mono h q
  · cases q
theorem step_mono {P : Program} {pol : Pol} {r s : Run} (h : Le r s) : Le (stepTask P pol (doDraw P pol) r) (stepTask P pol (doDraw P pol) s):=by
  intro T H x q
  cases T with
  | call f args =>
    simp only [stepTask] at q ⊢
    by_cases hi : insB P f = true
    · rw [if_pos hi] at q ⊢; exact q
    rw [if_neg hi] at q ⊢
    split at q
    · split at q
      · split at q
        · rename_i q1; rw [h _ _ _ q1]; exact q
        · rename_i q1; rw [h _ _ _ q1]; exact q
        · cases q
      · cases q
    · cases q
  | code c t => exact doCode_mono h q
  | loop c t =>
    simp only [stepTask] at q ⊢
    split at q
    · rename_i q1; rw [h _ _ _ q1]; exact h _ _ _ q
    · rename_i q1
      rw [h _ _ _ q]
      split
      · rename_i q2
        cases q2
        exact absurd q (by intro h'; exact q1 _ _ h')
      · rfl
  | yield l args => exact doYield_mono h q
theorem run_succ {P : Program} {pol : Pol} : ∀ n,Le (run P pol n) (run P pol (n + 1))
  | 0 => fun _ _ _ h => by cases h
  | n + 1 => step_mono (run_succ n)
theorem run_le {P : Program} {pol : Pol} {n m : Nat} (h : n ≤ m) : Le (run P pol n) (run P pol m):=by
  induction h with
  | refl => exact fun _ _ _ h => h
  | step _ ih => exact fun T H x q => run_succ _ T H x (ih T H x q)
end Go.Hem
