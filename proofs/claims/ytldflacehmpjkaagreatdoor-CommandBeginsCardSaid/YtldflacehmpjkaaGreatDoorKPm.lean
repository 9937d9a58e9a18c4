/- Values of a score of k measures,the policy with the rules as effects,what is known of the parts. -/
import Derived.Test.YtldflacehmpjkaaGreatDoorHemTab
import Derived.Test.YtldflacehmpjkaaGreatDoorPolM
import Derived.Test.YtldflacehmpjkaaGreatDoorHemIso
set_option maxRecDepth 100000
set_option linter.unusedSimpArgs false
set_option linter.unusedVariables false
namespace Go.Hem
/-- The event of a measure,its voice,the measure,the score,the checker in front of a rule. -/
def evV (i : Nat) : AV:=.agg [.sym,.sc (.int .i64 (Int.ofNat (2 * i + 2))),.sc (.int .i64 3),.sc (.int .i64 0),.sc (.int .i64 0),.sc .nils,.sc .nils,.sc (.int .i64 0),.sc (.int .i64 0),.sc (.int .i64 0),.sc .nils,.sc (.int .i64 0),.sc (.int .i64 0)]
def vcV (i : Nat) : AV:=.agg [.imm [evV i],.sc .nils]
def msV (i : Nat) : AV:=.agg [.sym,.sc (.int .i64 (Int.ofNat (2 * i + 1))),.sc (.int .i64 4),.sc (.int .i64 4),.sc (.int .i64 0),.sc (.int .i64 0),.sc (.int .i64 0),.sc (.int .i64 0),.sc (.int .i64 0),.sc (.int .i64 0),.sc (.int .i64 0),.sc (.int .i64 0),.sc (.bool false),.sc (.int .i64 0),.sc (.int .i64 0),.sc (.int .i64 0),.sc (.int .i64 0),.sc (.int .i64 0),.sc (.int .i64 0),.sc (.str ⟨#[]⟩),.sc .nils,.imm [.agg [.sc .nils,.imm [vcV i]]]]
def scL (k : Nat) : List AV:=[.sc (.str ⟨#[]⟩),.sc (.bool false),.imm [.agg [.sym,.sc (.int .i64 1),.sc (.str ⟨#[]⟩),.sc (.int .i64 0),.sc (.int .i64 0),.imm [.agg [.sym,.sc (.int .i64 2),.sc (.int .i64 1)]]]],.imm ((List.range k).map fun i => msV (i + 1)),.sc .nils,.imm [.agg [.sym,.sc (.int .i64 (Int.ofNat (2 * k + 2)))]]]
def scV (k : Nat) : AV:=.agg (scL k)
def csR (r k : Nat) : List AV:=scL k ++ [.sc (.int .i64 (Int.ofNat r)),.sc .nils]
def idsV (k : Nat) : AV:=.imm ((List.range (2 * k + 2)).map fun i => .agg [.sym,.sc (.int .i64 (Int.ofNat (i + 1)))])
def startsV (k : Nat) : AV:=.imm ((List.range (k + 1)).map fun i => .sc (.int .i64 (Int.ofNat (1935360 * i))))
theorem sc_closed (k : Nat) : AV.closedBs (scL k) = true:=by
  have h1 : ∀ l : List Nat,AV.closedBs (l.map fun i => msV (i + 1)) = true:=by
    intro l
    induction l with
    | nil => rfl
    | cons x l ih =>
      rw [List.map_cons]
      show (AV.closedB (msV (x + 1)) && _) = true
      rw [ih]; rfl
  simp only [scL,AV.closedB,AV.closedBs,h1,Bool.and_self,Bool.and_true,Bool.true_and]
theorem scV_closed (k : Nat) : AV.closedBs [scV k] = true:=by
  show (AV.closedB (scV k) && true) = true
  simp only [scV,AV.closedB,sc_closed,Bool.and_true]
theorem csR_closed (r k : Nat) : AV.closedBs (csR r k) = true:=by
  have : AV.closedBs (scL k ++ [.sc (.int .i64 (Int.ofNat r)),.sc .nils]) = true:=closedBs_iff.2 fun x hx => by
    rcases List.mem_append.1 hx with h | h
    · exact closedBs_iff.1 (sc_closed k) x h
    · rcases List.mem_cons.1 h with rfl | h
      · rfl
      · rcases List.mem_cons.1 h with rfl | h
        · rfl
        · cases h
  exact this
theorem MemosOk.app {P : Program} {pol : Pol} : ∀ {l m : MemoL},MemosOk P pol l→MemosOk P pol m→MemosOk P pol (l ++ m)
  | [],_,_,hm => hm
  | _ :: _,_,hl,hm => ⟨hl.1,MemosOk.app hl.2 hm⟩
theorem upTo40 {p : Nat→Prop} (h1 : p 1) (h2 : p 2) (h3 : p 3) (h4 : p 4) (h5 : p 5) (h6 : p 6) (h7 : p 7) (h8 : p 8) (h9 : p 9) (h10 : p 10) (h11 : p 11) (h12 : p 12) (h13 : p 13) (h14 : p 14) (h15 : p 15) (h16 : p 16) (h17 : p 17) (h18 : p 18) (h19 : p 19) (h20 : p 20) (h21 : p 21) (h22 : p 22) (h23 : p 23) (h24 : p 24) (h25 : p 25) (h26 : p 26) (h27 : p 27) (h28 : p 28) (h29 : p 29) (h30 : p 30) (h31 : p 31) (h32 : p 32) (h33 : p 33) (h34 : p 34) (h35 : p 35) (h36 : p 36) (h37 : p 37) (h38 : p 38) (h39 : p 39) (h40 : p 40) : ∀ {k : Nat},1 ≤ k→k ≤ 40→p k:=by
  intro k a b
  match k,a,b with
  | 1,_,_ => exact h1
  | 2,_,_ => exact h2
  | 3,_,_ => exact h3
  | 4,_,_ => exact h4
  | 5,_,_ => exact h5
  | 6,_,_ => exact h6
  | 7,_,_ => exact h7
  | 8,_,_ => exact h8
  | 9,_,_ => exact h9
  | 10,_,_ => exact h10
  | 11,_,_ => exact h11
  | 12,_,_ => exact h12
  | 13,_,_ => exact h13
  | 14,_,_ => exact h14
  | 15,_,_ => exact h15
  | 16,_,_ => exact h16
  | 17,_,_ => exact h17
  | 18,_,_ => exact h18
  | 19,_,_ => exact h19
  | 20,_,_ => exact h20
  | 21,_,_ => exact h21
  | 22,_,_ => exact h22
  | 23,_,_ => exact h23
  | 24,_,_ => exact h24
  | 25,_,_ => exact h25
  | 26,_,_ => exact h26
  | 27,_,_ => exact h27
  | 28,_,_ => exact h28
  | 29,_,_ => exact h29
  | 30,_,_ => exact h30
  | 31,_,_ => exact h31
  | 32,_,_ => exact h32
  | 33,_,_ => exact h33
  | 34,_,_ => exact h34
  | 35,_,_ => exact h35
  | 36,_,_ => exact h36
  | 37,_,_ => exact h37
  | 38,_,_ => exact h38
  | 39,_,_ => exact h39
  | 40,_,_ => exact h40
  | n + 41,_,b => omega
end Go.Hem
namespace Go.Hem
open Go.Proofs
/-- The rules: methods of the checker. -/
def ruleCF (f : FuncId) : Option CF :=
  match f with
  | 36 => some cf36
  | 37 => some cf37
  | 38 => some cf38
  | 39 => some cf39
  | 40 => some cf40
  | 41 => some cf41
  | 42 => some cf42
  | 43 => some cf43
  | 44 => some cf44
  | 45 => some cf45
  | 46 => some cf46
  | 47 => some cf47
  | 48 => some cf48
  | 49 => some cf49
  | 50 => some cf50
  | 51 => some cf51
  | 52 => some cf52
  | _ => none
/-- The checker in front of a rule,of a score of 1 to 40 measures. -/
noncomputable def isCs (r : Nat) (cs : List AV) : Bool :=
  match cs with
  | _ :: _ :: _ :: .imm l :: _ => (Nat.ble 1 (lenL l) && Nat.ble (lenL l) 40) && avQs cs (csR r (lenL l))
  | _ => false
theorem isCs_spec {r : Nat} {cs : List AV} (h : isCs r cs = true) : ∃ k,1 ≤ k∧k ≤ 40∧cs = csR r k:=by
  unfold isCs at h
  split at h
  · simp only [Bool.and_eq_true] at h
    exact ⟨_,Nat.le_of_ble_eq_true h.1.1,Nat.le_of_ble_eq_true h.1.2,avQs_ok _ _ h.2⟩
  · cases h
noncomputable def effB (f : FuncId) (cf : CF) (b : Nat) (H : AHeap) : Option (AV × AHeap) :=
  match bodyY prog polK memo0 tab 1000 f cf [.ptr b 0] H with
  | .ok r => some r
  | .error _ => none
noncomputable def effR (f : FuncId) (cf : CF) (args : List AV) (H : AHeap) : Option (AV × AHeap) :=
  match args with
  | [.ptr b 0] =>
    match hCells H b with
    | some cs => Bool.rec (motive:=fun _ => Option (AV × AHeap)) (effB f cf b H) (some (.tup [],H)) (isCs (f - 35) cs)
    | none => none
  | _ => none
noncomputable def effI (f : FuncId) (args : List AV) (H : AHeap) : Option (AV × AHeap) :=
  match ruleCF f with
  | some cf => effR f cf args H
  | none => polE f args H
noncomputable def polI : Pol:={ pure:=pureK,eff:=effI }
end Go.Hem
namespace Go.Hem
theorem pvAll {memo : Memo} (hm : MemoOk prog polK memo) {f : FuncId} {a : Nat→List AV} {v : AV} (hc : ∀ i,AV.closedBs (a i) = true) {n : Nat} (h : ((List.range n).all fun i => isV (xPure (Y prog polK memo tab 1000) f (a (i + 1))) v) = true) : MemosOk prog polK ((List.range n).map fun i => (f,a (i + 1),v)):=by
  have key : ∀ l : List Nat,(∀ i ∈ l,isV (xPure (Y prog polK memo tab 1000) f (a (i + 1))) v = true)→MemosOk prog polK (l.map fun i => (f,a (i + 1),v)):=by
    intro l
    induction l with
    | nil => intro _; trivial
    | cons x l ih => intro hx; exact ⟨pv_of_y tab_ok hm (hc _) (isV_spec (hx x (by simp))),ih fun i hi => hx i (by simp [hi])⟩
  exact key _ fun i hi => List.all_eq_true.1 h i hi
def evL : MemoL:=(List.range 40).map fun i => (99,(fun i => [evV i]) (i + 1),.sc (.int .i64 0))
theorem ev_run : ((List.range 40).all fun i => isV (xPure (Y prog polK memo0 tab 1000) 99 ((fun i => [evV i]) (i + 1))) (.sc (.int .i64 0))) = true:=by decide +kernel
theorem evL_ok : MemosOk prog polK evL:=pvAll (a:=fun i => [evV i]) memo0_ok (fun _ => rfl) ev_run
def evM : MemoL:=evL
theorem evM_ok : MemosOk prog polK evM:=evL_ok
def vcL : MemoL:=(List.range 40).map fun i => (202,(fun i => [vcV i,.sc (.int .i64 1935360)]) (i + 1),.sc (.int .i64 0))
theorem vc_run : ((List.range 40).all fun i => isV (xPure (Y prog polK (memoOf evM) tab 1000) 202 ((fun i => [vcV i,.sc (.int .i64 1935360)]) (i + 1))) (.sc (.int .i64 0))) = true:=by decide +kernel
theorem vcL_ok : MemosOk prog polK vcL:=pvAll (a:=fun i => [vcV i,.sc (.int .i64 1935360)]) (memoOf_ok evM_ok) (fun _ => rfl) vc_run
def vcM : MemoL:=vcL ++ evM
theorem vcM_ok : MemosOk prog polK vcM:=vcL_ok.app evM_ok
def lnL : MemoL:=(List.range 40).map fun i => (54,(fun i => [msV i]) (i + 1),.tup [.sc (.int .i64 1935360),.sc (.int .i64 0)])
theorem ln_run : ((List.range 40).all fun i => isV (xPure (Y prog polK (memoOf vcM) tab 1000) 54 ((fun i => [msV i]) (i + 1))) (.tup [.sc (.int .i64 1935360),.sc (.int .i64 0)])) = true:=by decide +kernel
theorem lnL_ok : MemosOk prog polK lnL:=pvAll (a:=fun i => [msV i]) (memoOf_ok vcM_ok) (fun _ => rfl) ln_run
def lnM : MemoL:=lnL ++ vcM
theorem lnM_ok : MemosOk prog polK lnM:=lnL_ok.app vcM_ok
def slL : MemoL:=(List.range 40).map fun i => (55,(fun i => [msV i]) (i + 1),.tup [.imm [.agg [.sc (.int .i64 0),.sc (.int .i64 0),.sc (.int .i64 0),.sc (.int .i64 0),.sc (.int .i64 1935360)]],.sc (.int .i64 0)])
theorem sl_run : ((List.range 40).all fun i => isV (xPure (Y prog polK (memoOf lnM) tab 1000) 55 ((fun i => [msV i]) (i + 1))) (.tup [.imm [.agg [.sc (.int .i64 0),.sc (.int .i64 0),.sc (.int .i64 0),.sc (.int .i64 0),.sc (.int .i64 1935360)]],.sc (.int .i64 0)])) = true:=by decide +kernel
theorem slL_ok : MemosOk prog polK slL:=pvAll (a:=fun i => [msV i]) (memoOf_ok lnM_ok) (fun _ => rfl) sl_run
def slM : MemoL:=slL ++ lnM
theorem slM_ok : MemosOk prog polK slM:=slL_ok.app lnM_ok
theorem sort_run : isV (xPure (X prog polK memo0 100) 21 [.sc .nils]) (.sc .nils) = true:=by decide +kernel
theorem sort_pv : Pv prog polK 21 [.sc .nils] (.sc .nils):=xPure_ok (X_ok memo0_ok 100) rfl (isV_spec sort_run)
def cmL : MemoL:=(21,[.sc .nils],.sc .nils) :: slM
theorem cmL_ok : MemosOk prog polK cmL:=⟨sort_pv,slM_ok⟩
noncomputable def isoR (f : FuncId) (cf : CF) (k : Nat) : Bool:=isoB prog polK (memoOf cmL) tab 1000 f cf (csR (f - 35) k)
end Go.Hem
namespace Go.Hem
theorem pvAllI {memo : Memo} (hm : MemoOk prog polI memo) {f : FuncId} {a : Nat→List AV} {v : AV} (hc : ∀ i,AV.closedBs (a i) = true) {n : Nat} (h : ((List.range n).all fun i => isV (xPure (Y prog polI memo tab 1000) f (a (i + 1))) v) = true) : MemosOk prog polI ((List.range n).map fun i => (f,a (i + 1),v)):=by
  have key : ∀ l : List Nat,(∀ i ∈ l,isV (xPure (Y prog polI memo tab 1000) f (a (i + 1))) v = true)→MemosOk prog polI (l.map fun i => (f,a (i + 1),v)):=by
    intro l
    induction l with
    | nil => intro _; trivial
    | cons x l ih => intro hx; exact ⟨pv_of_y tab_ok hm (hc _) (isV_spec (hx x (by simp))),ih fun i hi => hx i (by simp [hi])⟩
  exact key _ fun i hi => List.all_eq_true.1 h i hi
def evIL : MemoL:=(List.range 40).map fun i => (99,(fun i => [evV i]) (i + 1),.sc (.int .i64 0))
theorem evI_run : ((List.range 40).all fun i => isV (xPure (Y prog polI memo0 tab 1000) 99 ((fun i => [evV i]) (i + 1))) (.sc (.int .i64 0))) = true:=by decide +kernel
theorem evIL_ok : MemosOk prog polI evIL:=pvAllI (a:=fun i => [evV i]) memo0_ok (fun _ => rfl) evI_run
def evIM : MemoL:=evIL
theorem evIM_ok : MemosOk prog polI evIM:=evIL_ok
def vcIL : MemoL:=(List.range 40).map fun i => (202,(fun i => [vcV i,.sc (.int .i64 1935360)]) (i + 1),.sc (.int .i64 0))
theorem vcI_run : ((List.range 40).all fun i => isV (xPure (Y prog polI (memoOf evIM) tab 1000) 202 ((fun i => [vcV i,.sc (.int .i64 1935360)]) (i + 1))) (.sc (.int .i64 0))) = true:=by decide +kernel
theorem vcIL_ok : MemosOk prog polI vcIL:=pvAllI (a:=fun i => [vcV i,.sc (.int .i64 1935360)]) (memoOf_ok evIM_ok) (fun _ => rfl) vcI_run
def vcIM : MemoL:=vcIL ++ evIM
theorem vcIM_ok : MemosOk prog polI vcIM:=vcIL_ok.app evIM_ok
def lnIL : MemoL:=(List.range 40).map fun i => (54,(fun i => [msV i]) (i + 1),.tup [.sc (.int .i64 1935360),.sc (.int .i64 0)])
theorem lnI_run : ((List.range 40).all fun i => isV (xPure (Y prog polI (memoOf vcIM) tab 1000) 54 ((fun i => [msV i]) (i + 1))) (.tup [.sc (.int .i64 1935360),.sc (.int .i64 0)])) = true:=by decide +kernel
theorem lnIL_ok : MemosOk prog polI lnIL:=pvAllI (a:=fun i => [msV i]) (memoOf_ok vcIM_ok) (fun _ => rfl) lnI_run
def lnIM : MemoL:=lnIL ++ vcIM
theorem lnIM_ok : MemosOk prog polI lnIM:=lnIL_ok.app vcIM_ok
def slIL : MemoL:=(List.range 40).map fun i => (55,(fun i => [msV i]) (i + 1),.tup [.imm [.agg [.sc (.int .i64 0),.sc (.int .i64 0),.sc (.int .i64 0),.sc (.int .i64 0),.sc (.int .i64 1935360)]],.sc (.int .i64 0)])
theorem slI_run : ((List.range 40).all fun i => isV (xPure (Y prog polI (memoOf lnIM) tab 1000) 55 ((fun i => [msV i]) (i + 1))) (.tup [.imm [.agg [.sc (.int .i64 0),.sc (.int .i64 0),.sc (.int .i64 0),.sc (.int .i64 0),.sc (.int .i64 1935360)]],.sc (.int .i64 0)])) = true:=by decide +kernel
theorem slIL_ok : MemosOk prog polI slIL:=pvAllI (a:=fun i => [msV i]) (memoOf_ok lnIM_ok) (fun _ => rfl) slI_run
def slIM : MemoL:=slIL ++ lnIM
theorem slIM_ok : MemosOk prog polI slIM:=slIL_ok.app lnIM_ok
theorem sortI_run : isV (xPure (X prog polI memo0 100) 21 [.sc .nils]) (.sc .nils) = true:=by decide +kernel
theorem sortI_pv : Pv prog polI 21 [.sc .nils] (.sc .nils):=xPure_ok (X_ok memo0_ok 100) rfl (isV_spec sortI_run)
def cmIL : MemoL:=(21,[.sc .nils],.sc .nils) :: slIM
theorem cmIL_ok : MemosOk prog polI cmIL:=⟨sortI_pv,slIM_ok⟩
def ms0 : AV:=.agg [.sc (.int .i64 0),.sc (.int .i64 0),.sc (.int .i64 0),.sc (.int .i64 0),.sc (.int .i64 0),.sc (.int .i64 0),.sc (.int .i64 0),.sc (.int .i64 0),.sc (.int .i64 0),.sc (.int .i64 0),.sc (.int .i64 0),.sc (.int .i64 0),.sc (.bool false),.sc (.int .i64 0),.sc (.int .i64 0),.sc (.int .i64 0),.sc (.int .i64 0),.sc (.int .i64 0),.sc (.int .i64 0),.sc (.str ⟨#[]⟩),.sc .nils,.sc .nils]
def ms1 : AV:=.agg [.sc (.int .i64 0),.sc (.int .i64 0),.sc (.int .i64 4),.sc (.int .i64 4),.sc (.int .i64 0),.sc (.int .i64 0),.sc (.int .i64 0),.sc (.int .i64 0),.sc (.int .i64 0),.sc (.int .i64 0),.sc (.int .i64 0),.sc (.int .i64 0),.sc (.bool false),.sc (.int .i64 0),.sc (.int .i64 0),.sc (.int .i64 0),.sc (.int .i64 0),.sc (.int .i64 0),.sc (.int .i64 0),.sc (.str ⟨#[]⟩),.sc .nils,.sc .nils]
def mt4 : AV:=.agg [.sc (.int .i64 4),.sc (.int .i64 4),.sc (.int .i64 0),.sc (.int .i64 0),.sc (.int .i64 0),.sc (.int .i64 0),.sc (.int .i64 0),.sc (.int .i64 0)]
theorem sh_run : isV (xPure (Y prog polI (memoOf cmIL) tab 1000) 33 [ms0,mt4,.sc (.int .i64 0)]) (.tup [ms1,.sc (.int .i64 0)]) = true:=by decide +kernel
def shL : MemoL:=(33,[ms0,mt4,.sc (.int .i64 0)],.tup [ms1,.sc (.int .i64 0)]) :: cmIL
theorem shL_ok : MemosOk prog polI shL:=⟨pv_of_y tab_ok (memoOf_ok cmIL_ok) rfl (isV_spec sh_run),cmIL_ok⟩
noncomputable def emB (k : Nat) : Bool:=isV (xPure (Y prog polI (memoOf shL) tab 1000) 5 [.sym,.sc (.int .i64 (Int.ofNat k))]) (.tup [scV k,.sc (.int .i64 0)])
noncomputable def idB (k : Nat) : Bool:=isV (xPure (Y prog polI (memoOf shL) tab 1000) 8 [scV k]) (idsV k)
noncomputable def vaB (k : Nat) : Bool:=isV (xPure (Y prog polI (memoOf shL) tab 1000) 7 [scV k]) (.sc (.bool true))
noncomputable def noB (k : Nat) : Bool:=isV (xPure (Y prog polI (memoOf shL) tab 1000) 9 [scV k]) (.tup [.sc .nils,.sc (.int .i64 0)])
noncomputable def stB (k : Nat) : Bool:=isV (xPure (Y prog polI (memoOf shL) tab 1000) 10 [scV k]) (.tup [startsV k,.sc (.int .i64 0)])
def lwM (k : Nat) : MemoL:=(4,[],.sc (.bool true)) :: (5,[.sym,.sc (.int .i64 (Int.ofNat k))],.tup [scV k,.sc (.int .i64 0)]) :: (8,[scV k],idsV k) :: (7,[scV k],.sc (.bool true)) :: (9,[scV k],.tup [.sc .nils,.sc (.int .i64 0)]) :: (10,[scV k],.tup [startsV k,.sc (.int .i64 0)]) :: []
noncomputable def lwB (k : Nat) : Bool:=isV (xPure (Y prog polI (memoOf (lwM k)) tab 1000) 3 [.sym,.sc (.int .i64 (Int.ofNat k))]) (.sc (.bool true))
end Go.Hem
