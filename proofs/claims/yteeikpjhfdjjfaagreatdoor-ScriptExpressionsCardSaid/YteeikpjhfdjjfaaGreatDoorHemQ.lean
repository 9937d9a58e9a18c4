import Derived.Test.YteeikpjhfdjjfaaGreatDoorHemP
set_option linter.unusedSimpArgs false
set_option linter.unusedVariables false
namespace Go.Hem
section
variable {P : Program} {B : World} {pol : Pol} {rec : Run} {ops : Array Oper} {M : List Nat}
theorem doEff_of_V {t : List AV} {dst : Option Tmp} {H H' : AHeap} {v : AV} {e : Eff} (h : doEffV pol rec H e = some (v,H')) : doEff pol rec t dst H e = some (putT t dst v,H'):=by
  cases e <;> simp only [doEffV] at h <;> simp only [doEff]
  case val => simp at h; simp [h]
  case new => simp at h; simp [h]
  case mem => simp at h; simp [h]
  case memM => simp at h; simp [h]
  case fzn => simp at h; simp [h]
  case move => simp at h; simp [h]
  case call => simp [h]
  case yield =>
    split at h
    · rename_i hy; simp at h; obtain ⟨rfl,rfl⟩:=h; simp [hy]
    · cases h
theorem doOp_of_V {o : Oper} {t : List AV} {H H' : AHeap} {v : AV} (h : doOpV P pol rec ops o t H = some (v,H')) : doOp P pol rec ops o t H = some (putT t o.dst v,H'):=by
  unfold doOpV at h
  unfold doOp
  cases hw : awanted t ops o with
  | none => rw [hw] at h; cases h
  | some b =>
    rw [hw] at h
    cases b with
    | false => simp at h; simp [h]
    | true =>
      simp only at h ⊢
      split at h
      · rename_i hp
        simp only [hp,if_true]
        cases he : aop P t H o with
        | none => rw [he] at h; cases h
        | some e =>
          rw [he] at h
          rw [aopM_of he]
          simp only at h
          split at h
          · exact doEff_of_V h
          · cases h
      · cases h
theorem doOpV_cases {o : Oper} {t : List AV} {H H' : AHeap} {v : AV} (h : doOpV P pol rec ops o t H = some (v,H')) :
    (awanted t ops o = some false∧v = .sc .undef∧H' = H) ∨
    (awanted t ops o = some true∧plainOp o.op = true∧heapless o.op = true∧aop P t H o = some (.val v)∧H' = H) ∨
    (awanted t ops o = some true∧plainOp o.op = true∧readerKind o.op = true∧aop P t H o = some (.val v)∧H' = H) ∨
    (awanted t ops o = some true∧plainOp o.op = true∧heapless o.op = true∧∃ x mk,aop P t H o = some (.new x mk)∧v = mk H.next∧H' = H.alloc x) ∨
    (awanted t ops o = some true∧plainOp o.op = true∧heapless o.op = true∧aop P t H o = some (.fzn v)∧H' = H) ∨ isW o = true:=by
  unfold doOpV at h
  split at h
  · rename_i hw
    split at h
    · rename_i hp
      split at h
      · rename_i e he
        split at h
        · rename_i hk
          by_cases hW : isW o = true
          · exact .inr (.inr (.inr (.inr (.inr hW))))
          · simp only [hW,Bool.or_false,Bool.or_eq_true,Bool.and_eq_true] at hk
            cases e with
            | val v' =>
              simp [doEffV] at h
              obtain ⟨rfl,rfl⟩:=h
              rcases hk with ⟨h1,_⟩ | ⟨h1,_⟩
              · exact .inr (.inl ⟨hw,hp,h1,he,rfl⟩)
              · exact .inr (.inr (.inl ⟨hw,hp,h1,he,rfl⟩))
            | new x mk =>
              simp [doEffV] at h
              obtain ⟨rfl,rfl⟩:=h
              rcases hk with ⟨h1,_⟩ | ⟨_,h1⟩
              · exact .inr (.inr (.inr (.inl ⟨hw,hp,h1,x,mk,he,rfl,rfl⟩)))
              · simp [isVal] at h1
            | fzn v' =>
              simp [doEffV] at h
              obtain ⟨rfl,rfl⟩:=h
              rcases hk with ⟨h1,_⟩ | ⟨_,h1⟩
              · exact .inr (.inr (.inr (.inr (.inl ⟨hw,hp,h1,he,rfl⟩))))
              · simp [isVal] at h1
            | _ => simp [isVal,isNew] at hk
        · cases h
      · cases h
    · cases h
  · rename_i hw
    simp at h
    exact .inl ⟨hw,h.1.symm,h.2.symm⟩
  · cases h
theorem doOpV_next {o : Oper} {t : List AV} {H H' : AHeap} {v : AV} (hrec : RecOK P B rec) (h : doOpV P pol rec ops o t H = some (v,H')) : H.next ≤ H'.next:=(doOp_ok hrec (doOp_of_V h)).1
theorem Trace.next (hrec : RecOK P B rec) {tr : List Met} {t t' : List AV} {H H' : AHeap} (h : Trace P pol rec ops tr t H t' H') : H.next ≤ H'.next:=by
  induction h with
  | nil => exact Nat.le_refl _
  | cons h1 h2 h3 ih => exact Nat.le_trans (doOpV_next hrec h2) ih
theorem doOpV_hle {o : Oper} {t : List AV} {H H' : AHeap} {v : AV} (h : doOpV P pol rec ops o t H = some (v,H')) (hW : isW o = false) : HLe H H'∧∀ b x,H.get b = some x→H'.get b = some x:=by
  rcases doOpV_cases h with ⟨_,_,rfl⟩ | ⟨_,_,_,_,rfl⟩ | ⟨_,_,_,_,rfl⟩ | ⟨_,_,_,x,mk,_,_,rfl⟩ | ⟨_,_,_,_,rfl⟩ | hw
  · exact ⟨HLe.refl _,fun _ _ h => h⟩
  · exact ⟨HLe.refl _,fun _ _ h => h⟩
  · exact ⟨HLe.refl _,fun _ _ h => h⟩
  · exact ⟨HLe.alloc _ _,fun b y hb => by rw [AHeap.get_alloc_lt _ _ (AHeap.get_lt hb)]; exact hb⟩
  · exact ⟨HLe.refl _,fun _ _ h => h⟩
  · rw [hw] at hW; cases hW
def headW (ops : Array Oper) (ℓ : Nat→Bool) : List Met→AHeap→AHeap
  | [],H => H
  | m :: tr,H => if ((ops[m.j]?).map isW).getD false = true∧ℓ m.j = false then m.H else headW ops ℓ tr H
def isAlloc (P : Program) (ops : Array Oper) (m : Met) : Option Blk :=
  match ops[m.j]? with
  | some o =>
    if awanted m.t ops o = some true∧heapless o.op = true then
      match aop P m.t m.H o with
      | some (.new x _) => some x
      | _ => none
    else none
  | none => none
theorem Trace.mem_next (hrec : RecOK P B rec) {tr : List Met} {t t' : List AV} {H H' : AHeap} (h : Trace P pol rec ops tr t H t' H') : ∀ m ∈ tr,H.next ≤ m.H.next∧m.H.next ≤ H'.next:=by
  induction h with
  | nil => intro m hm; simp at hm
  | @cons m tr o t' H1 H' h1 h2 h3 ih =>
    intro m' hm'
    have l1:=doOpV_next hrec h2
    rcases List.mem_cons.1 hm' with rfl | hm'
    · exact ⟨Nat.le_refl _,Nat.le_trans l1 (h3.next hrec)⟩
    · exact ⟨Nat.le_trans l1 (ih m' hm').1,(ih m' hm').2⟩
theorem isAlloc_some {m : Met} {x : Blk} (h : isAlloc P ops m = some x) : ∃ o mk,ops[m.j]? = some o∧awanted m.t ops o = some true∧heapless o.op = true∧aop P m.t m.H o = some (.new x mk):=by
  unfold isAlloc at h
  split at h
  · rename_i o ho
    split at h
    · rename_i hc
      split at h
      · rename_i y mk hy
        simp at h; subst h
        exact ⟨o,mk,ho,hc.1,hc.2,hy⟩
      · cases h
    · cases h
  · cases h
theorem heapless_noW {o : Oper} (h : heapless o.op = true) : isW o = false:=by simp [isW,h]
theorem Trace.headW_next (hrec : RecOK P B rec) {ℓ : Nat→Bool} {tr : List Met} {t t' : List AV} {H H' : AHeap} (h : Trace P pol rec ops tr t H t' H') : H.next ≤ (headW ops ℓ tr H').next∧(headW ops ℓ tr H').next ≤ H'.next:=by
  induction h with
  | nil => exact ⟨Nat.le_refl _,Nat.le_refl _⟩
  | @cons m tr o t' H1 H' h1 h2 h3 ih =>
    have l1:=doOpV_next hrec h2
    simp only [headW]
    split
    · exact ⟨Nat.le_refl _,Nat.le_trans l1 (h3.next hrec)⟩
    · exact ⟨Nat.le_trans l1 ih.1,ih.2⟩
theorem adv (hrec : RecOK P B rec) {ℓ : Nat→Bool} {w : World} : ∀ {tr : List Met} {t t' : List AV} {H H' : AHeap},Trace P pol rec ops tr t H t' H'→(∀ m ∈ tr,ℓ m.j = false)→∀ {G : Gh},Sim B G H w→Clear G H.next (headW ops ℓ tr H').next →
    Sim B G (headW ops ℓ tr H') w∧Step G H w G (headW ops ℓ tr H') w∧(∀ m ∈ tr,∀ x,isAlloc P ops m = some x→m.H.next < (headW ops ℓ tr H').next→(headW ops ℓ tr H').get m.H.next = some x)∧H.next ≤ (headW ops ℓ tr H').next ∧
      (∀ b x,H.get b = some x→(headW ops ℓ tr H').get b = some x):=by
  intro tr t t' H H' h
  induction h with
  | nil t H => intro _ G hS _; exact ⟨hS,Step.refl _ _ _,fun m hm => by simp at hm,Nat.le_refl _,fun _ _ h => h⟩
  | @cons m tr o t' H1 H' h1 h2 h3 ih =>
    intro hl G hS hC
    have hlm:=hl m (by simp)
    by_cases hW : isW o = true
    · have e : headW ops ℓ (m :: tr) H' = m.H:=by simp [headW,h1,hW,hlm]
      rw [e] at hC ⊢
      refine ⟨hS,Step.refl _ _ _,fun m' hm' x hx hlt => ?_,Nat.le_refl _,fun _ _ h => h⟩
      rcases List.mem_cons.1 hm' with rfl | hm'
      · obtain ⟨o',mk,g1,g2,g3,g4⟩:=isAlloc_some hx
        rw [h1] at g1; cases g1
        rw [heapless_noW g3] at hW; cases hW
      · have:=(h3.mem_next hrec m' hm').1
        have:=doOpV_next hrec h2
        omega
    · simp only [Bool.not_eq_true] at hW
      have e : headW ops ℓ (m :: tr) H' = headW ops ℓ tr H':=by simp [headW,h1,hW]
      rw [e] at hC ⊢
      have rest : ∀ {G : Gh},Sim B G H1 w→Clear G H1.next (headW ops ℓ tr H').next→_:=fun a b => ih (fun m' hm' => hl m' (by simp [hm'])) a b
      have same : H1 = m.H→isAlloc P ops m = none→_:=fun e1 e2 => by
        subst e1
        obtain ⟨k1,k2,k3,k4,k5⟩:=rest hS hC
        exact (⟨k1,k2,fun m' hm' x hx hlt => by
          rcases List.mem_cons.1 hm' with rfl | hm'
          · rw [e2] at hx; cases hx
          · exact k3 m' hm' x hx hlt,k4,k5⟩ : Sim B G (headW ops ℓ tr H') w∧Step G m.H w G (headW ops ℓ tr H') w∧(∀ m' ∈ m :: tr,∀ x,isAlloc P ops m' = some x→m'.H.next < (headW ops ℓ tr H').next→(headW ops ℓ tr H').get m'.H.next = some x)∧m.H.next ≤ (headW ops ℓ tr H').next ∧
      (∀ b x,m.H.get b = some x→(headW ops ℓ tr H').get b = some x))
      have noal : (∀ x mk,aop P m.t m.H o ≠ some (.new x mk)) ∨ awanted m.t ops o ≠ some true→isAlloc P ops m = none:=fun hh => by
        cases hq : isAlloc P ops m with
        | none => rfl
        | some x =>
          obtain ⟨o',mk,g1,g2,g3,g4⟩:=isAlloc_some hq
          rw [h1] at g1; cases g1
          rcases hh with hh | hh
          · exact absurd g4 (hh _ _)
          · exact absurd g2 hh
      rcases doOpV_cases h2 with ⟨g1,_,g2⟩ | ⟨_,_,_,g1,g2⟩ | ⟨_,_,_,g1,g2⟩ | ⟨g0,g1,g2,x,mk,g3,g4,g5⟩ | ⟨_,_,_,g1,g2⟩ | hw
      · exact same g2 (noal (.inr (by rw [g1]; simp)))
      · exact same g2 (noal (.inl (by rw [g1]; simp)))
      · exact same g2 (noal (.inl (by rw [g1]; simp)))
      · subst g5
        have hlen : (m.H.alloc x).next ≤ (headW ops ℓ tr H').next:=(h3.headW_next hrec).1
        have hn : G.β m.H.next = none:=hC _ (Nat.le_refl _) (by simp at hlen; omega)
        obtain ⟨s1,s2⟩:=sim_pend (x:=x) hS hn
        obtain ⟨k1,k2,k3,k4,k5⟩:=rest s1 (hC.step s2)
        refine ⟨k1,s2.trans k2,fun m' hm' y hy hlt => ?_,by simp at k4; omega,fun b y hb => k5 b y (by rw [AHeap.get_alloc_lt _ _ (AHeap.get_lt hb)]; exact hb)⟩
        rcases List.mem_cons.1 hm' with rfl | hm'
        · obtain ⟨o',mk',q1,q2,q3,q4⟩:=isAlloc_some hy
          rw [h1] at q1; cases q1
          rw [g3] at q4; cases q4
          exact k5 _ _ (AHeap.get_alloc_self _ _)
        · exact k3 m' hm' y hy hlt
      · exact same g2 (noal (.inl (by rw [g1]; simp)))
      · rw [hw] at hW; cases hW
theorem Trace.nextH_eq {tr : List Met} {t t' : List AV} {H H' : AHeap} (h : Trace P pol rec ops tr t H t' H') : nextH tr H' = H:=by
  cases h <;> rfl
theorem steady_spec (hrec : RecOK P B rec) {ℓ : Nat→Bool} {o : Oper} {j : Nat} {v : AV} {t : List AV} (hr : readerKind o.op = true) (hw : awanted t ops o = some true) : ∀ {b : List Met} {tc t' : List AV} {Hc H' : AHeap},Trace P pol rec ops b tc Hc t' H' →
    steady P ops M j o v t b H' = true→aop P t Hc o = some (.val v)→(∀ x ∈ b,∀ ox,ops[x.j]? = some ox→isW ox = true→ℓ x.j = true→(M.getD x.j 0).testBit j = false)→aop P t (headW ops ℓ b H') o = some (.val v):=by
  intro b tc t' Hc H' h
  induction h with
  | nil => intro _ ha _; exact ha
  | @cons m tr o' t' H1 H' h1 h2 h3 ih =>
    intro hs ha hb
    simp only [headW,h1,Option.map_some,Option.getD_some]
    simp only [steady,h1] at hs
    by_cases hW : isW o' = true
    · simp only [hW,if_true,true_and] at hs ⊢
      by_cases hl : ℓ m.j = true
      · have hbit:=hb m (by simp) o' h1 hW hl
        simp only [hl,Bool.true_eq_false,if_false,hbit,Bool.false_eq_true,if_false,hw,Bool.and_eq_true] at hs ⊢
        obtain ⟨hs1,hs2⟩:=hs
        have hH : nextH tr H' = H1:=h3.nextH_eq
        rw [hH] at hs1
        split at hs1
        · rename_i v' hv'
          have:=AV.eq_of_beq _ _ hs1
          subst this
          exact ih hs2 hv' (fun x hx => hb x (by simp [hx]))
        · cases hs1
      · simp only [Bool.not_eq_true] at hl
        simp only [hl,if_true]
        exact ha
    · simp only [hW,Bool.false_eq_true,if_false,false_and] at hs ⊢
      have hle:=(doOpV_hle h2 (by simpa using hW)).1
      exact ih hs (aop_reader hr hle ha) (fun x hx => hb x (by simp [hx]))
theorem steadyAll_split {H' : AHeap} : ∀ {a : List Met} {m : Met} {b : List Met},steadyAll P ops M (a ++ m :: b) H' = true→∀ o,ops[m.j]? = some o→readerKind o.op = true→steady P ops M m.j o m.v m.t b H' = true
  | [],m,b,h,o,ho,hr => by
    simp only [List.nil_append,steadyAll,ho,hr,if_true,Bool.and_eq_true] at h
    exact h.1
  | x :: a,m,b,h,o,ho,hr => by
    simp only [List.cons_append,steadyAll,Bool.and_eq_true] at h
    exact steadyAll_split h.2 o ho hr
theorem headW_congr {ℓ ℓ' : Nat→Bool} {H' : AHeap} : ∀ {tr : List Met},(∀ m ∈ tr,∀ o,ops[m.j]? = some o→isW o = true→ℓ m.j = ℓ' m.j)→headW ops ℓ tr H' = headW ops ℓ' tr H'
  | [],h => rfl
  | m :: tr,h => by
    simp only [headW]
    have ih:=headW_congr (H':=H') (tr:=tr) (fun m' hm' => h m' (by simp [hm']))
    cases ho : ops[m.j]? with
    | none => simpa using ih
    | some o =>
      simp only [Option.map_some,Option.getD_some]
      by_cases hW : isW o = true
      · rw [h m (by simp) o ho hW,ih]
      · simpa [hW] using ih
theorem headW_skip {ℓ : Nat→Bool} {H' : AHeap} {b : List Met} : ∀ {a : List Met},(∀ m ∈ a,∀ o,ops[m.j]? = some o→isW o = true→ℓ m.j = true)→headW ops ℓ (a ++ b) H' = headW ops ℓ b H'
  | [],h => rfl
  | m :: a,h => by
    simp only [List.cons_append,headW]
    have ih:=headW_skip (H':=H') (b:=b) (a:=a) (fun m' hm' => h m' (by simp [hm']))
    cases ho : ops[m.j]? with
    | none => simpa using ih
    | some o =>
      simp only [Option.map_some,Option.getD_some]
      by_cases hW : isW o = true
      · simpa [h m (by simp) o ho hW] using ih
      · simpa [hW] using ih
theorem awanted_congr {t t' : List AV} {o : Oper} (h : ∀ u ∈ looks ops o,t[u]? = t'[u]?) : awanted t ops o = awanted t' ops o:=by
  unfold awanted
  cases hg : o.guard with
  | none => rfl
  | some g =>
    obtain ⟨j,want⟩:=g
    simp only
    cases hd : (ops[j]?).bind (·.dst) with
    | none => rfl
    | some d =>
      have : d ∈ looks ops o:=by simp [looks,hg,hd]
      simp only [Option.bind_some,h d this]
theorem operands_congr {t t' : List AV} {o : Oper} (h : ∀ u ∈ looks ops o,t[u]? = t'[u]?) : ∀ x ∈ o.op.operands,aev t x = aev t' x:=by
  intro x hx
  cases x with
  | tmp u => exact aev_tmp (h u (by simp only [looks,List.mem_append,List.mem_filterMap]; exact .inl ⟨.tmp u,by simpa using hx,rfl⟩))
  | const v => rfl
  | global g => rfl
  | func f => rfl
theorem doOpV_congr {t t' : List AV} {H : AHeap} {o : Oper} (h : ∀ u ∈ looks ops o,t[u]? = t'[u]?) : doOpV P pol rec ops o t H = doOpV P pol rec ops o t' H:=by
  unfold doOpV
  rw [awanted_congr h]
  cases awanted t' ops o with
  | none => rfl
  | some w =>
    cases w with
    | false => rfl
    | true =>
      simp only
      split
      · rename_i hp
        rw [aop_congr (operands_congr h) hp]
      · rfl
end
end Go.Hem
