/- Joined. -/
import Derived.Test.YtldflacehmpjkaaGreatDoorHemP
set_option linter.unusedSimpArgs false
set_option linter.unusedVariables false
namespace Go.Hem
section
variable {P : Program} {B : World} {pol : Pol} {rec : Run} {ops : Array Oper} {M : List Nat}
theorem doEff_of_V {t : List AV} {dst : Option Tmp} {H H' : AHeap} {v : AV} {e : Eff} (h : doEffV pol rec H e = some (v,H')) : doEff pol rec t dst H e = some (putT t dst v,H'):=by
  cases e <;> simp only [doEffV] at h <;> simp only [doEff]
  case val => simp at h; simp [h]
  case new => simp at h; simp [h]
  case newT => simp at h; simp [h]
  case mem => simp at h; simp [h]
  case memM => simp at h; simp [h]
  case fzn => simp at h; simp [h]
  case move => simp at h; simp [h]
  case moveT => simp at h; simp [h]
  case call => simp [h]
  case yield =>
    split at h
    · rename_i hy; simp at h; obtain ⟨rfl,rfl⟩:=h; simp [hy]
    · cases h
theorem doOp_of_V {o : Oper} {t : List AV} {H H' : AHeap} {v : AV} (h : doOpV P pol rec ops o t H = some (v,H')) : doOp P pol rec ops o t H = some (putT t o.dst v,H'):=by
  unfold doOpV at h
  unfold doOp
  cases hw : awanted t ops o with
  | none => rw [hw] at h; cases h
  | some b =>
    rw [hw] at h
    cases b with
    | false => simp at h; simp [h]
    | true =>
      simp only at h ⊢
      split at h
      · rename_i hp
        simp only [hp,if_true]
        cases he : aop P t H o with
        | none => rw [he] at h; cases h
        | some e =>
          rw [he] at h
          rw [aopM_of he]
          simp only at h
          split at h
          · exact doEff_of_V h
          · cases h
      · cases h
theorem doOpV_cases {o : Oper} {t : List AV} {H H' : AHeap} {v : AV} (h : doOpV P pol rec ops o t H = some (v,H')) :
    (awanted t ops o = some false∧v = .sc .undef∧H' = H) ∨
    (awanted t ops o = some true∧plainOp o.op = true∧heapless o.op = true∧aop P t H o = some (.val v)∧H' = H) ∨
    (awanted t ops o = some true∧plainOp o.op = true∧readerKind o.op = true∧aop P t H o = some (.val v)∧H' = H) ∨
    (awanted t ops o = some true∧plainOp o.op = true∧heapless o.op = true∧∃ x mk,aop P t H o = some (.new x mk)∧v = mk H.next∧H' = H.alloc x) ∨
    (awanted t ops o = some true∧plainOp o.op = true∧heapless o.op = true∧aop P t H o = some (.fzn v)∧H' = H) ∨ isW o = true:=by
  unfold doOpV at h
  split at h
  · rename_i hw
    split at h
    · rename_i hp
      split at h
      · rename_i e he
        split at h
        · rename_i hk
          by_cases hW : isW o = true
          · exact .inr (.inr (.inr (.inr (.inr hW))))
          · simp only [hW,Bool.or_false,Bool.or_eq_true,Bool.and_eq_true] at hk
            rw [tagE_of (hk.elim (fun k => .inl k.1) (fun k => .inr k.1))] at h
            cases e with
            | val v' =>
              simp [doEffV] at h
              obtain ⟨rfl,rfl⟩:=h
              rcases hk with ⟨h1,_⟩ | ⟨h1,_⟩
              · exact .inr (.inl ⟨hw,hp,h1,he,rfl⟩)
              · exact .inr (.inr (.inl ⟨hw,hp,h1,he,rfl⟩))
            | new x mk =>
              simp [doEffV] at h
              obtain ⟨rfl,rfl⟩:=h
              rcases hk with ⟨h1,_⟩ | ⟨_,h1⟩
              · exact .inr (.inr (.inr (.inl ⟨hw,hp,h1,x,mk,he,rfl,rfl⟩)))
              · simp [isVal] at h1
            | fzn v' =>
              simp [doEffV] at h
              obtain ⟨rfl,rfl⟩:=h
              rcases hk with ⟨h1,_⟩ | ⟨_,h1⟩
              · exact .inr (.inr (.inr (.inr (.inl ⟨hw,hp,h1,he,rfl⟩))))
              · simp [isVal] at h1
            | _ => simp [isVal,isNew] at hk
        · cases h
      · cases h
    · cases h
  · rename_i hw
    simp at h
    exact .inl ⟨hw,h.1.symm,h.2.symm⟩
  · cases h
theorem doOpV_next {o : Oper} {t : List AV} {H H' : AHeap} {v : AV} (hrec : RecOK P B rec) (h : doOpV P pol rec ops o t H = some (v,H')) : H.next ≤ H'.next:=(doOp_ok hrec (doOp_of_V h)).1
theorem Trace.next (hrec : RecOK P B rec) {tr : List Met} {t t' : List AV} {H H' : AHeap} (h : Trace P pol rec ops tr t H t' H') : H.next ≤ H'.next:=by
  induction h with
  | nil => exact Nat.le_refl _
  | cons h1 h2 h3 ih => exact Nat.le_trans (doOpV_next hrec h2) ih
theorem doOpV_hle {o : Oper} {t : List AV} {H H' : AHeap} {v : AV} (h : doOpV P pol rec ops o t H = some (v,H')) (hW : isW o = false) : HLe H H'∧∀ b x,H.get b = some x→H'.get b = some x:=by
  rcases doOpV_cases h with ⟨_,_,rfl⟩ | ⟨_,_,_,_,rfl⟩ | ⟨_,_,_,_,rfl⟩ | ⟨_,_,_,x,mk,_,_,rfl⟩ | ⟨_,_,_,_,rfl⟩ | hw
  · exact ⟨HLe.refl _,fun _ _ h => h⟩
  · exact ⟨HLe.refl _,fun _ _ h => h⟩
  · exact ⟨HLe.refl _,fun _ _ h => h⟩
  · exact ⟨HLe.alloc _ _,fun b y hb => by rw [AHeap.get_alloc_lt _ _ (AHeap.get_lt hb)]; exact hb⟩
  · exact ⟨HLe.refl _,fun _ _ h => h⟩
  · rw [hw] at hW; cases hW
def headW (ops : Array Oper) (ℓ : Nat→Bool) : List Met→AHeap→AHeap
  | [],H => H
  | m :: tr,H => if ((ops[m.j]?).map isW).getD false = true∧ℓ m.j = false then m.H else headW ops ℓ tr H
def isAlloc (P : Program) (ops : Array Oper) (m : Met) : Option Blk :=
  match ops[m.j]? with
  | some o =>
    if awanted m.t ops o = some true∧heapless o.op = true then
      match aop P m.t m.H o with
      | some (.new x _) => some x
      | _ => none
    else none
  | none => none
theorem Trace.mem_next (hrec : RecOK P B rec) {tr : List Met} {t t' : List AV} {H H' : AHeap} (h : Trace P pol rec ops tr t H t' H') : ∀ m ∈ tr,H.next ≤ m.H.next∧m.H.next ≤ H'.next:=by
  induction h with
  | nil => intro m hm; simp at hm
  | @cons m tr o t' H1 H' h1 h2 h3 ih =>
    intro m' hm'
    have l1:=doOpV_next hrec h2
    rcases List.mem_cons.1 hm' with rfl | hm'
    · exact ⟨Nat.le_refl _,Nat.le_trans l1 (h3.next hrec)⟩
    · exact ⟨Nat.le_trans l1 (ih m' hm').1,(ih m' hm').2⟩
theorem isAlloc_some {m : Met} {x : Blk} (h : isAlloc P ops m = some x) : ∃ o mk,ops[m.j]? = some o∧awanted m.t ops o = some true∧heapless o.op = true∧aop P m.t m.H o = some (.new x mk):=by
  unfold isAlloc at h
  split at h
  · rename_i o ho
    split at h
    · rename_i hc
      split at h
      · rename_i y mk hy
        simp at h; subst h
        exact ⟨o,mk,ho,hc.1,hc.2,hy⟩
      · cases h
    · cases h
  · cases h
theorem heapless_noW {o : Oper} (h : heapless o.op = true) : isW o = false:=by simp [isW,h]
theorem Trace.headW_next (hrec : RecOK P B rec) {ℓ : Nat→Bool} {tr : List Met} {t t' : List AV} {H H' : AHeap} (h : Trace P pol rec ops tr t H t' H') : H.next ≤ (headW ops ℓ tr H').next∧(headW ops ℓ tr H').next ≤ H'.next:=by
  induction h with
  | nil => exact ⟨Nat.le_refl _,Nat.le_refl _⟩
  | @cons m tr o t' H1 H' h1 h2 h3 ih =>
    have l1:=doOpV_next hrec h2
    simp only [headW]
    split
    · exact ⟨Nat.le_refl _,Nat.le_trans l1 (h3.next hrec)⟩
    · exact ⟨Nat.le_trans l1 ih.1,ih.2⟩
theorem adv (hrec : RecOK P B rec) {ℓ : Nat→Bool} {w : World} : ∀ {tr : List Met} {t t' : List AV} {H H' : AHeap},Trace P pol rec ops tr t H t' H'→(∀ m ∈ tr,ℓ m.j = false)→∀ {G : Gh},Sim B G H w→Clear G H.next (headW ops ℓ tr H').next →
    Sim B G (headW ops ℓ tr H') w∧Step G H w G (headW ops ℓ tr H') w∧(∀ m ∈ tr,∀ x,isAlloc P ops m = some x→m.H.next < (headW ops ℓ tr H').next→(headW ops ℓ tr H').get m.H.next = some x)∧H.next ≤ (headW ops ℓ tr H').next ∧
      (∀ b x,H.get b = some x→(headW ops ℓ tr H').get b = some x):=by
  intro tr t t' H H' h
  induction h with
  | nil t H => intro _ G hS _; exact ⟨hS,Step.refl _ _ _,fun m hm => by simp at hm,Nat.le_refl _,fun _ _ h => h⟩
  | @cons m tr o t' H1 H' h1 h2 h3 ih =>
    intro hl G hS hC
    have hlm:=hl m (by simp)
    by_cases hW : isW o = true
    · have e : headW ops ℓ (m :: tr) H' = m.H:=by simp [headW,h1,hW,hlm]
      rw [e] at hC ⊢
      refine ⟨hS,Step.refl _ _ _,fun m' hm' x hx hlt => ?_,Nat.le_refl _,fun _ _ h => h⟩
      rcases List.mem_cons.1 hm' with rfl | hm'
      · obtain ⟨o',mk,g1,g2,g3,g4⟩:=isAlloc_some hx
        rw [h1] at g1; cases g1
        rw [heapless_noW g3] at hW; cases hW
      · have:=(h3.mem_next hrec m' hm').1
        have:=doOpV_next hrec h2
        omega
    · simp only [Bool.not_eq_true] at hW
      have e : headW ops ℓ (m :: tr) H' = headW ops ℓ tr H':=by simp [headW,h1,hW]
      rw [e] at hC ⊢
      have rest : ∀ {G : Gh},Sim B G H1 w→Clear G H1.next (headW ops ℓ tr H').next→_:=fun a b => ih (fun m' hm' => hl m' (by simp [hm'])) a b
      have same : H1 = m.H→isAlloc P ops m = none→_:=fun e1 e2 => by
        subst e1
        obtain ⟨k1,k2,k3,k4,k5⟩:=rest hS hC
        exact (⟨k1,k2,fun m' hm' x hx hlt => by
          rcases List.mem_cons.1 hm' with rfl | hm'
          · rw [e2] at hx; cases hx
          · exact k3 m' hm' x hx hlt,k4,k5⟩ : Sim B G (headW ops ℓ tr H') w∧Step G m.H w G (headW ops ℓ tr H') w∧(∀ m' ∈ m :: tr,∀ x,isAlloc P ops m' = some x→m'.H.next < (headW ops ℓ tr H').next→(headW ops ℓ tr H').get m'.H.next = some x)∧m.H.next ≤ (headW ops ℓ tr H').next ∧
      (∀ b x,m.H.get b = some x→(headW ops ℓ tr H').get b = some x))
      have noal : (∀ x mk,aop P m.t m.H o ≠ some (.new x mk)) ∨ awanted m.t ops o ≠ some true→isAlloc P ops m = none:=fun hh => by
        cases hq : isAlloc P ops m with
        | none => rfl
        | some x =>
          obtain ⟨o',mk,g1,g2,g3,g4⟩:=isAlloc_some hq
          rw [h1] at g1; cases g1
          rcases hh with hh | hh
          · exact absurd g4 (hh _ _)
          · exact absurd g2 hh
      rcases doOpV_cases h2 with ⟨g1,_,g2⟩ | ⟨_,_,_,g1,g2⟩ | ⟨_,_,_,g1,g2⟩ | ⟨g0,g1,g2,x,mk,g3,g4,g5⟩ | ⟨_,_,_,g1,g2⟩ | hw
      · exact same g2 (noal (.inr (by rw [g1]; simp)))
      · exact same g2 (noal (.inl (by rw [g1]; simp)))
      · exact same g2 (noal (.inl (by rw [g1]; simp)))
      · subst g5
        have hlen : (m.H.alloc x).next ≤ (headW ops ℓ tr H').next:=(h3.headW_next hrec).1
        have hn : G.β m.H.next = none:=hC _ (Nat.le_refl _) (by simp at hlen; omega)
        obtain ⟨s1,s2⟩:=sim_pend (x:=x) hS hn
        obtain ⟨k1,k2,k3,k4,k5⟩:=rest s1 (hC.step s2)
        refine ⟨k1,s2.trans k2,fun m' hm' y hy hlt => ?_,by simp at k4; omega,fun b y hb => k5 b y (by rw [AHeap.get_alloc_lt _ _ (AHeap.get_lt hb)]; exact hb)⟩
        rcases List.mem_cons.1 hm' with rfl | hm'
        · obtain ⟨o',mk',q1,q2,q3,q4⟩:=isAlloc_some hy
          rw [h1] at q1; cases q1
          rw [g3] at q4; cases q4
          exact k5 _ _ (AHeap.get_alloc_self _ _)
        · exact k3 m' hm' y hy hlt
      · exact same g2 (noal (.inl (by rw [g1]; simp)))
      · rw [hw] at hW; cases hW
theorem Trace.nextH_eq {tr : List Met} {t t' : List AV} {H H' : AHeap} (h : Trace P pol rec ops tr t H t' H') : nextH tr H' = H:=by
  cases h <;> rfl
theorem steady_spec (hrec : RecOK P B rec) {ℓ : Nat→Bool} {o : Oper} {j : Nat} {v : AV} {t : List AV} (hr : readerKind o.op = true) (hw : awanted t ops o = some true) : ∀ {b : List Met} {tc t' : List AV} {Hc H' : AHeap},Trace P pol rec ops b tc Hc t' H' →
    steady P ops M j o v t b H' = true→aop P t Hc o = some (.val v)→(∀ x ∈ b,∀ ox,ops[x.j]? = some ox→isW ox = true→ℓ x.j = true→(M.getD x.j 0).testBit j = false)→aop P t (headW ops ℓ b H') o = some (.val v):=by
  intro b tc t' Hc H' h
  induction h with
  | nil => intro _ ha _; exact ha
  | @cons m tr o' t' H1 H' h1 h2 h3 ih =>
    intro hs ha hb
    simp only [headW,h1,Option.map_some,Option.getD_some]
    simp only [steady,h1] at hs
    by_cases hW : isW o' = true
    · simp only [hW,if_true,true_and] at hs ⊢
      by_cases hl : ℓ m.j = true
      · have hbit:=hb m (by simp) o' h1 hW hl
        simp only [hl,Bool.true_eq_false,if_false,hbit,Bool.false_eq_true,if_false,hw,Bool.and_eq_true] at hs ⊢
        obtain ⟨hs1,hs2⟩:=hs
        have hH : nextH tr H' = H1:=h3.nextH_eq
        rw [hH] at hs1
        split at hs1
        · rename_i v' hv'
          have:=AV.eq_of_beq _ _ hs1
          subst this
          exact ih hs2 hv' (fun x hx => hb x (by simp [hx]))
        · cases hs1
      · simp only [Bool.not_eq_true] at hl
        simp only [hl,if_true]
        exact ha
    · simp only [hW,Bool.false_eq_true,if_false,false_and] at hs ⊢
      have hle:=(doOpV_hle h2 (by simpa using hW)).1
      exact ih hs (aop_reader hr hle ha) (fun x hx => hb x (by simp [hx]))
theorem steadyAll_split {H' : AHeap} : ∀ {a : List Met} {m : Met} {b : List Met},steadyAll P ops M (a ++ m :: b) H' = true→∀ o,ops[m.j]? = some o→readerKind o.op = true→steady P ops M m.j o m.v m.t b H' = true
  | [],m,b,h,o,ho,hr => by
    simp only [List.nil_append,steadyAll,ho,hr,if_true,Bool.and_eq_true] at h
    exact h.1
  | x :: a,m,b,h,o,ho,hr => by
    simp only [List.cons_append,steadyAll,Bool.and_eq_true] at h
    exact steadyAll_split h.2 o ho hr
theorem headW_congr {ℓ ℓ' : Nat→Bool} {H' : AHeap} : ∀ {tr : List Met},(∀ m ∈ tr,∀ o,ops[m.j]? = some o→isW o = true→ℓ m.j = ℓ' m.j)→headW ops ℓ tr H' = headW ops ℓ' tr H'
  | [],h => rfl
  | m :: tr,h => by
    simp only [headW]
    have ih:=headW_congr (H':=H') (tr:=tr) (fun m' hm' => h m' (by simp [hm']))
    cases ho : ops[m.j]? with
    | none => simpa using ih
    | some o =>
      simp only [Option.map_some,Option.getD_some]
      by_cases hW : isW o = true
      · rw [h m (by simp) o ho hW,ih]
      · simpa [hW] using ih
theorem headW_skip {ℓ : Nat→Bool} {H' : AHeap} {b : List Met} : ∀ {a : List Met},(∀ m ∈ a,∀ o,ops[m.j]? = some o→isW o = true→ℓ m.j = true)→headW ops ℓ (a ++ b) H' = headW ops ℓ b H'
  | [],h => rfl
  | m :: a,h => by
    simp only [List.cons_append,headW]
    have ih:=headW_skip (H':=H') (b:=b) (a:=a) (fun m' hm' => h m' (by simp [hm']))
    cases ho : ops[m.j]? with
    | none => simpa using ih
    | some o =>
      simp only [Option.map_some,Option.getD_some]
      by_cases hW : isW o = true
      · simpa [h m (by simp) o ho hW] using ih
      · simpa [hW] using ih
theorem awanted_congr {t t' : List AV} {o : Oper} (h : ∀ u ∈ looks ops o,t[u]? = t'[u]?) : awanted t ops o = awanted t' ops o:=by
  unfold awanted
  cases hg : o.guard with
  | none => rfl
  | some g =>
    obtain ⟨j,want⟩:=g
    simp only
    cases hd : (ops[j]?).bind (·.dst) with
    | none => rfl
    | some d =>
      have : d ∈ looks ops o:=by simp [looks,hg,hd]
      simp only [Option.bind_some,h d this]
theorem operands_congr {t t' : List AV} {o : Oper} (h : ∀ u ∈ looks ops o,t[u]? = t'[u]?) : ∀ x ∈ o.op.operands,aev t x = aev t' x:=by
  intro x hx
  cases x with
  | tmp u => exact aev_tmp (h u (by simp only [looks,List.mem_append,List.mem_filterMap]; exact .inl ⟨.tmp u,by simpa using hx,rfl⟩))
  | const v => rfl
  | global g => rfl
  | func f => rfl
theorem doOpV_congr {t t' : List AV} {H : AHeap} {o : Oper} (h : ∀ u ∈ looks ops o,t[u]? = t'[u]?) : doOpV P pol rec ops o t H = doOpV P pol rec ops o t' H:=by
  unfold doOpV
  rw [awanted_congr h]
  cases awanted t' ops o with
  | none => rfl
  | some w =>
    cases w with
    | false => rfl
    | true =>
      simp only
      split
      · rename_i hp
        rw [aop_congr (operands_congr h) hp]
      · rfl
end
end Go.Hem
set_option linter.unusedSimpArgs false
set_option linter.unusedVariables false
namespace Go.Hem
section
variable {P : Program} {B : World} {pol : Pol} {rec : Run} {ops : Array Oper} {M : List Nat}
theorem clash_left {x y : Oper} {u : Tmp} (h : x.dst = some u) (hu : u ∈ looks ops y ∨ y.dst = some u) : clash ops x y = true:=by
  unfold clash
  rw [h]
  rcases hu with hu | hu
  · simp [hu]
  · simp [hu]
theorem clash_right {x y : Oper} {u : Tmp} (h : y.dst = some u) (hu : u ∈ looks ops x) : clash ops x y = true:=by
  unfold clash
  rw [h]
  simp [hu]
theorem getD_listed {listed : Array Bool} {i j : Nat} (hi : i < listed.size) : (listed.setIfInBounds i true).getD j false = (decide (j = i) || listed.getD j false):=by
  by_cases h : i = j
  · subst h; simp [hi]
  · rw [getD_set_ne false h]
    have : decide (j = i) = false:=by simpa using fun e => h e.symm
    simp [this]
theorem lookTr_cons (ℓ : Nat→Bool) (u : Tmp) (m : Met) (tb : List Met) (y : Option AV) : lookTr ops ℓ u (m :: tb) y = lookTr ops ℓ u tb (if ℓ m.j = true∧dstOf ops m.j = some u then y.map fun _ => m.v else y):=rfl
theorem alloc_lt (hrec : RecOK P B rec) {a : List Met} {m : Met} {b : List Met} {t t' : List AV} {H H' : AHeap} (h : Trace P pol rec ops (a ++ m :: b) t H t' H') {x : Blk} (hx : isAlloc P ops m = some x) :
    ∃ H1,Trace P pol rec ops b (putT m.t (dstOf ops m.j) m.v) H1 t' H'∧H1 = m.H.alloc x∧∃ o mk,ops[m.j]? = some o∧heapless o.op = true∧awanted m.t ops o = some true∧plainOp o.op = true∧aop P m.t m.H o = some (.new x mk)∧m.v = mk m.H.next:=by
  obtain ⟨o,H1,g1,g2,g3,g4⟩:=h.split
  obtain ⟨o',mk,k1,k2,k3,k4⟩:=isAlloc_some hx
  rw [g1] at k1; cases k1
  have hd : dstOf ops m.j = o.dst:=by simp [dstOf,g1]
  rcases doOpV_cases g2 with ⟨q1,_,_⟩ | ⟨_,_,_,q1,_⟩ | ⟨_,_,_,q1,_⟩ | ⟨_,q0,_,x',mk',q1,q2,q3⟩ | ⟨_,_,_,q1,_⟩ | hw
  · rw [q1] at k2; cases k2
  · rw [q1] at k4; cases k4
  · rw [q1] at k4; cases k4
  · rw [k4] at q1; cases q1
    exact ⟨H1,by rw [hd]; exact g4,q3,o,mk,g1,k3,k2,q0,k4,q2⟩
  · rw [q1] at k4; cases k4
  · rw [heapless_noW k3] at hw; cases hw
theorem draw_run {ord : List Nat} {tr : List Met} {t0 t' : List AV} {H0 H' : AHeap} (hrec : RecOK P B rec) (hP : ∀ pre j post,ord = pre ++ j :: post→∃ o,Placed ops M pre j o) (hall : ∀ j,j < ops.size→j ∈ ord) (hlt : ∀ j ∈ ord,j < ops.size)
    (htr : Trace P pol rec ops tr t0 H0 t' H') (hj : tr.map (·.j) = ord) (hst : steadyAll P ops M tr H' = true) (b : Frame) (k : List Item) (cs : List Frame) {G0 : Gh} {w0 : World} :
    ∀ (fuel tt : Nat) (listed : Array Bool) (G : Gh) (w : World) (a : Array Value),listed.size = ops.size→Down ops (fun j => listed.getD j false) →
    (ord.filter (fun j => !listed.getD j false)).length ≤ fuel →
    Sim B G (headW ops (fun j => listed.getD j false) tr H') w→Step G0 H0 w0 G (headW ops (fun j => listed.getD j false) tr H') w→LR G (applyTr ops (fun j => listed.getD j false) tr t0) a →
    Clear G (headW ops (fun j => listed.getD j false) tr H').next H'.next →
    (∀ m ∈ tr,∀ x,isAlloc P ops m = some x→listed.getD m.j false = false→G.β m.H.next = none∧(m.H.next < (headW ops (fun j => listed.getD j false) tr H').next→(headW ops (fun j => listed.getD j false) tr H').get m.H.next = some x)) →
    ∃ G' w' a',Sim B G' H' w'∧Step G0 H0 w0 G' H' w'∧LR G' t' a'∧Steps P (lone (fr b a (.inRegion ops (Region.linearise.go .any ops fuel tt listed []) :: k)) cs w) (lone (fr b a' k) cs w'):=by
  have hnodup : ∀ pre j post,ord = pre ++ j :: post→j ∉ pre∧j ∉ post:=fun pre j post e => by
    obtain ⟨o,hp⟩:=hP pre j post e
    refine ⟨hp.fresh,fun hmem => ?_⟩
    obtain ⟨p1,p2,rfl⟩:=List.append_of_mem hmem
    obtain ⟨o2,hp2⟩:=hP (pre ++ j :: p1) j p2 (by rw [e]; simp)
    exact hp2.fresh (by simp)
  -- at the end
  have done : ∀ (listed : Array Bool) (G : Gh) (w : World) (a : Array Value),(∀ j ∈ ord,listed.getD j false = true)→Sim B G (headW ops (fun j => listed.getD j false) tr H') w→Step G0 H0 w0 G (headW ops (fun j => listed.getD j false) tr H') w →
      LR G (applyTr ops (fun j => listed.getD j false) tr t0) a→∃ G' w' a',Sim B G' H' w'∧Step G0 H0 w0 G' H' w'∧LR G' t' a'∧Steps P (lone (fr b a (.inRegion ops [] :: k)) cs w) (lone (fr b a' k) cs w'):=by
    intro listed G w a hl hS hT hL
    have hm : ∀ m ∈ tr,listed.getD m.j false = true:=fun m hm => hl m.j (by rw [← hj]; exact List.mem_map_of_mem hm)
    have e1 : headW ops (fun j => listed.getD j false) tr H' = H':=by
      have:=headW_skip (ops:=ops) (ℓ:=fun j => listed.getD j false) (H':=H') (b:=[]) (a:=tr) (fun m hm' _ _ _ => hm m hm')
      simpa [headW] using this
    have e2 : applyTr ops (fun j => listed.getD j false) tr t0 = t':=by
      rw [htr.final]
      apply List.ext_getElem?
      intro u
      rw [applyTr_get,applyTr_get]
      exact lookTr_congr (fun m hm' _ => hm m hm')
    rw [e1] at hS hT
    rw [e2] at hL
    exact ⟨G,w,a,hS,hT,hL,.one st_region_end⟩
  have noready : ∀ (listed : Array Bool),listed.size = ops.size→Region.ready .any ops listed = []→∀ j ∈ ord,listed.getD j false = true:=by
    intro listed hsz hr
    have key : ∀ (n : Nat) pre j post,pre.length = n→ord = pre ++ j :: post→listed.getD j false = true:=by
      intro n
      induction n using Nat.strongRecOn with
      | _ n ih =>
        intro pre j post hn e
        cases hq : listed.getD j false with
        | true => rfl
        | false =>
          obtain ⟨o,hp⟩:=hP pre j post e
          have hjlt:=hlt j (by rw [e]; simp)
          have : j ∈ Region.ready .any ops listed:=by
            rw [mem_ready]
            refine ⟨?_,o,hp.op,fun ed hed hb => ?_⟩
            · have hjl : j < listed.size:=by omega
              simpa [hjl] using hq
            · have hmem:=hp.edges ed hed hb
              obtain ⟨p1,p2,hs⟩:=List.append_of_mem hmem
              exact ih p1.length (by rw [← hn,hs]; simp) p1 ed.on (p2 ++ j :: post) rfl (by rw [e,hs]; simp)
          rw [hr] at this; cases this
    intro j hjm
    obtain ⟨pre,post,e⟩:=List.append_of_mem hjm
    exact key _ pre j post rfl e
  intro fuel
  induction fuel with
  | zero =>
    intro tt listed G w a hsz hd hcnt hS hT hL hC hpend
    have hl : ∀ j ∈ ord,listed.getD j false = true:=fun j hjm => by
      have h0 : ord.filter (fun j => !listed.getD j false) = []:=List.eq_nil_of_length_eq_zero (by omega)
      have:=(List.filter_eq_nil_iff.1 h0) j hjm
      simpa using this
    exact done listed G w a hl hS hT hL
  | succ fuel ih =>
    intro tt listed G w a hsz hd hcnt hS hT hL hC hpend
    simp only [Region.linearise.go]
    change ∃ G' w' a',Sim B G' H' w'∧Step G0 H0 w0 G' H' w'∧LR G' t' a'∧Steps P (lone (fr b a (.inRegion ops (match (Region.ready .any ops listed)[tt % (Region.ready .any ops listed).length]? with
      | some i => Region.linearise.go .any ops fuel (tt / (Region.ready .any ops listed).length) (listed.setIfInBounds i true) [i]
      | none => [].reverse) :: k)) cs w) (lone (fr b a' k) cs w')
    cases hi : (Region.ready .any ops listed)[tt % (Region.ready .any ops listed).length]? with
    | none =>
      have hnil : Region.ready .any ops listed = []:=by
        cases hr : Region.ready .any ops listed with
        | nil => rfl
        | cons x xs =>
          rw [hr] at hi
          have hlt : tt % (x :: xs).length < (x :: xs).length:=Nat.mod_lt _ (by simp)
          simp at hi
          simp at hlt
          omega
      exact done listed G w a (noready listed hsz hnil) hS hT hL
    | some i =>
      simp only []
      rw [linearise_go_acc,List.reverse_singleton,List.singleton_append]
      have hready:=mem_ready.1 (List.mem_of_getElem? hi)
      obtain ⟨hun,o,ho,hedges⟩:=hready
      have hilt : i < ops.size:=(Array.getElem?_eq_some_iff.1 ho).1
      have hil : i < listed.size:=by omega
      have hun' : listed.getD i false = false:=by simpa [hil] using hun
      have hio:=hall i hilt
      rw [← hj] at hio
      obtain ⟨m,hm,hmi⟩:=List.mem_map.1 hio
      obtain ⟨ta,tb,hsplit⟩:=List.append_of_mem hm
      subst hmi
      have eord : ord = ta.map (·.j) ++ m.j :: tb.map (·.j):=by rw [← hj,hsplit]; simp
      obtain ⟨o',hpl⟩:=hP _ _ _ eord
      have : o' = o:=by have:=hpl.op; rw [ho] at this; exact (Option.some.inj this).symm
      subst this
      obtain ⟨nd1,nd2⟩:=hnodup _ _ _ eord
      let ℓ : Nat→Bool:=fun j => listed.getD j false
      let ℓ' : Nat→Bool:=fun j => (listed.setIfInBounds m.j true).getD j false
      have hℓ' : ∀ j,ℓ' j = (decide (j = m.j) || ℓ j):=fun j => getD_listed hil
      have hℓm : ℓ m.j = false:=hun'
      -- what lies ahead of it,and behind it
      have F1 : ∀ x ∈ ta,∀ ox,ops[x.j]? = some ox→(clash ops ox o' || isW ox) = true→ℓ x.j = true:=fun x hx ox hox hc =>
        mask_listed hP hd _ _ _ _ rfl eord o' ho (fun e he hb => hedges e he hb) x.j (hpl.held x.j (List.mem_map_of_mem hx) ox hox hc)
      have F2 : ∀ x ∈ tb,∀ ox,ops[x.j]? = some ox→(clash ops o' ox || isW o') = true→ℓ x.j = false:=fun x hx ox hox hc => by
        cases hq : ℓ x.j with
        | false => rfl
        | true =>
          obtain ⟨tb1,tb2,htb⟩:=List.append_of_mem hx
          have e2 : ord = (ta.map (·.j) ++ m.j :: tb1.map (·.j)) ++ x.j :: tb2.map (·.j):=by rw [eord,htb]; simp
          obtain ⟨ox',hpx⟩:=hP _ _ _ e2
          have : ox' = ox:=by have:=hpx.op; rw [hox] at this; exact (Option.some.inj this).symm
          subst this
          have:=mask_listed hP hd _ _ _ _ rfl e2 ox' hox (fun e he hb => hd x.j ox' hq hox e he hb) m.j (hpx.held m.j (by simp) o' ho hc)
          exact absurd (show ℓ m.j = true from this) (by rw [hℓm]; simp)
      have hne1 : ∀ x ∈ ta,x.j ≠ m.j:=fun x hx e => nd1 (by rw [← e]; exact List.mem_map_of_mem hx)
      have hne2 : ∀ x ∈ tb,x.j ≠ m.j:=fun x hx e => nd2 (by rw [← e]; exact List.mem_map_of_mem hx)
      obtain ⟨o2,H1,g1,g2,g3,g4⟩:=(hsplit ▸ htr).split
      have : o2 = o':=by rw [ho] at g1; exact (Option.some.inj g1).symm
      subst this
      have hdst : dstOf ops m.j = o2.dst:=by simp [dstOf,ho]
      have opOf : ∀ {x : Met} {u : Tmp},dstOf ops x.j = some u→∃ ox,ops[x.j]? = some ox∧ox.dst = some u:=fun {x u} h => by
        simp only [dstOf,Option.bind_eq_some_iff] at h
        exact h
      -- the operands
      have hops : ∀ u ∈ looks ops o2,(applyTr ops ℓ tr t0)[u]? = m.t[u]?:=fun u hu => by
        rw [g3.final,applyTr_get,applyTr_get,hsplit,lookTr_append]
        rw [lookTr_none (b:=m :: tb),lookTr_congr (tr:=ta) (ℓ:=ℓ) (ℓ':=fun _ => true)]
        · intro x hx hdx
          obtain ⟨ox,q1,q2⟩:=opOf hdx
          exact F1 x hx ox q1 (by rw [clash_left q2 (.inl hu)]; rfl)
        · intro x hx hdx
          rcases List.mem_cons.1 hx with rfl | hx
          · exact hℓm
          · obtain ⟨ox,q1,q2⟩:=opOf hdx
            exact F2 x hx ox q1 (by rw [clash_right q2 hu]; rfl)
      -- the slots behind it
      have hslots : applyTr ops ℓ' tr t0 = putT (applyTr ops ℓ tr t0) o2.dst m.v:=by
        apply List.ext_getElem?
        intro u
        rw [putT_get,applyTr_get,applyTr_get,hsplit,lookTr_append,lookTr_append]
        have ea : lookTr ops ℓ' u ta (t0[u]?) = lookTr ops ℓ u ta (t0[u]?):=lookTr_congr fun x hx _ => by rw [hℓ']; simp [hne1 x hx]
        rw [ea]
        rw [lookTr_cons,lookTr_cons]
        have hm' : ℓ' m.j = true:=by rw [hℓ']; simp
        rw [hm',hℓm,hdst]
        have etb : ∀ y,lookTr ops ℓ' u tb y = lookTr ops ℓ u tb y:=fun y => lookTr_congr fun x hx _ => by rw [hℓ']; simp [hne2 x hx]
        rw [etb]
        simp only [Bool.false_eq_true,false_and,if_false,true_and]
        by_cases hu : o2.dst = some u
        · simp only [hu,if_true]
          have nb : ∀ y,lookTr ops ℓ u tb y = y:=fun y => lookTr_none fun x hx hdx => by
            obtain ⟨ox,q1,q2⟩:=opOf hdx
            exact F2 x hx ox q1 (by rw [clash_left hu (.inr q2)]; rfl)
          rw [nb,nb]
        · simp only [hu,if_false]
      have hd' : Down ops ℓ':=fun j oj hjl hoj e he hb => by
        rw [hℓ'] at hjl ⊢
        simp only [Bool.or_eq_true,decide_eq_true_eq] at hjl ⊢
        rcases hjl with rfl | hjl
        · rw [ho] at hoj; cases hoj
          exact .inr (hedges e he hb)
        · exact .inr (hd j oj hjl hoj e he hb)
      have hcnt' : (ord.filter (fun j => !ℓ' j)).length ≤ fuel:=by
        have e1 : ord.filter (fun j => !ℓ' j) = (ta.map (·.j)).filter (fun j => !ℓ j) ++ (tb.map (·.j)).filter (fun j => !ℓ j):=by
          rw [eord,List.filter_append,List.filter_cons]
          have : (!ℓ' m.j) = false:=by rw [hℓ']; simp
          rw [this]
          simp only [Bool.false_eq_true,if_false]
          congr 1
          · apply List.filter_congr
            intro j hjm
            obtain ⟨x,hx,rfl⟩:=List.mem_map.1 hjm
            rw [hℓ']; simp [hne1 x hx]
          · apply List.filter_congr
            intro j hjm
            obtain ⟨x,hx,rfl⟩:=List.mem_map.1 hjm
            rw [hℓ']; simp [hne2 x hx]
        have e2 : ord.filter (fun j => !ℓ j) = (ta.map (·.j)).filter (fun j => !ℓ j) ++ m.j :: (tb.map (·.j)).filter (fun j => !ℓ j):=by
          rw [eord,List.filter_append,List.filter_cons]
          simp [hℓm]
        have h3 : (ord.filter (fun j => !ℓ j)).length ≤ fuel + 1:=hcnt
        rw [e1]; rw [e2] at h3
        simp at h3 ⊢; omega
      have hsz' : (listed.setIfInBounds m.j true).size = ops.size:=by simpa using hsz
      have hskip : headW ops ℓ tr H' = headW ops ℓ (m :: tb) H':=by
        rw [hsplit]; exact headW_skip fun x hx ox hox hW => F1 x hx ox hox (by rw [hW]; simp)
      have nextOf : ∀ {x : Met} {y : Blk},x ∈ ta→isAlloc P ops x = some y→x.H.next < m.H.next:=fun {x y} hx hy => by
        obtain ⟨ta1,ta2,hta⟩:=List.append_of_mem hx
        obtain ⟨Hx,q1,q2,_⟩:=alloc_lt hrec (hta ▸ g3) hy
        have:=q1.next hrec
        rw [q2] at this; simp at this; omega
      have nextOf2 : ∀ {x : Met},x ∈ tb→H1.next ≤ x.H.next:=fun {x} hx => (g4.mem_next hrec x hx).1
      by_cases hW : isW o2 = true
      · -- a writer: the first that is not done
        have hK : headW ops ℓ tr H' = m.H:=by rw [hskip]; simp [headW,ho,hW,hℓm]
        have hS' : Sim B G m.H w:=by rw [← hK]; exact hS
        have hT' : Step G0 H0 w0 G m.H w:=by rw [← hK]; exact hT
        have hC' : Clear G m.H.next H'.next:=by have:=hC; rw [show (headW ops (fun j => listed.getD j false) tr H') = m.H from hK] at this; exact this
        have hV : doOpV P pol rec ops o2 (applyTr ops ℓ tr t0) m.H = some (m.v,H1):=by rw [doOpV_congr hops]; exact g2
        obtain ⟨l1,k1⟩:=doOp_ok hrec (doOp_of_V hV)
        have l2 : H1.next ≤ H'.next:=g4.next hrec
        obtain ⟨G1,w1,a1,s1,e1,r1,st1⟩:=k1 G w a b k cs m.j (Region.linearise.go .any ops fuel (tt / (Region.ready .any ops listed).length) (listed.setIfInBounds m.j true) []) ho hS' (hC'.mono l2) hL
        have hun2 : ∀ x ∈ tb,ℓ' x.j = false:=fun x hx => by
          rw [hℓ']
          simp only [Bool.or_eq_false_iff,decide_eq_false_iff_not]
          refine ⟨hne2 x hx,?_⟩
          obtain ⟨p1,p2,hp12⟩:=List.append_of_mem hx
          obtain ⟨ox,_,q1,_⟩:=(hp12 ▸ g4).split
          exact F2 x hx ox q1 (by rw [hW]; simp)
        have hcl1:=hC'.step e1
        have hb2:=g4.headW_next (ℓ:=ℓ') hrec
        obtain ⟨s2,e2,al2,_,keep2⟩:=adv hrec g4 hun2 s1 (hcl1.mono hb2.2)
        have hK' : headW ops ℓ' tr H' = headW ops ℓ' tb H':=by
          rw [hsplit,headW_skip fun x hx ox hox hWx => by rw [hℓ']; simp [F1 x hx ox hox (by rw [hWx]; simp)]]
          have hm' : ℓ' m.j = true:=by rw [hℓ']; simp
          simp [headW,hm']
        have hpend' : ∀ x ∈ tr,∀ y,isAlloc P ops x = some y→ℓ' x.j = false→G1.β x.H.next = none∧(x.H.next < (headW ops ℓ' tr H').next→(headW ops ℓ' tr H').get x.H.next = some y):=fun x hx y hy hxl => by
          rw [hK']
          rw [hsplit] at hx
          have hxl0 : ℓ x.j = false:=by rw [hℓ'] at hxl; simp only [Bool.or_eq_false_iff] at hxl; exact hxl.2
          rcases List.mem_append.1 hx with hx | hx
          · have hlt1:=nextOf hx hy
            obtain ⟨q1,q2⟩:=hpend x (by rw [hsplit]; simp [hx]) y hy hxl0
            have q3 : m.H.get x.H.next = some y:=by
              have:=q2 (by rw [show (headW ops (fun j => listed.getD j false) tr H') = m.H from hK]; exact hlt1)
              rw [show (headW ops (fun j => listed.getD j false) tr H') = m.H from hK] at this
              exact this
            refine ⟨?_,fun _ => keep2 _ _ (e1.pend _ _ q3 q1)⟩
            cases hq : G1.β x.H.next with
            | none => rfl
            | some c =>
              rcases e1.new _ _ hq with h5 | ⟨h5,_⟩
              · rw [q1] at h5; cases h5
              · omega
          · rcases List.mem_cons.1 hx with rfl | hx
            · rw [hℓ'] at hxl; simp at hxl
            · have h6:=nextOf2 hx
              obtain ⟨p1,p2,hp12⟩:=List.append_of_mem hx
              obtain ⟨Hx,q1,q2,_⟩:=alloc_lt hrec (hp12 ▸ g4) hy
              have h7:=q1.next hrec
              rw [q2] at h7; simp at h7
              exact ⟨hcl1 _ h6 (by omega),fun hlt2 => al2 x hx y hy hlt2⟩
        obtain ⟨G',w',a',s3,e3,r3,st3⟩:=ih (tt / (Region.ready .any ops listed).length) (listed.setIfInBounds m.j true) G1 w1 a1 hsz' hd' hcnt' (by rw [show (headW ops (fun j => (listed.setIfInBounds m.j true).getD j false) tr H') = headW ops ℓ' tb H' from hK']; exact s2)
          (by rw [show (headW ops (fun j => (listed.setIfInBounds m.j true).getD j false) tr H') = headW ops ℓ' tb H' from hK']; exact (hT'.trans e1).trans e2) (by show LR G1 (applyTr ops ℓ' tr t0) a1; rw [hslots]; exact r1)
          (by rw [show (headW ops (fun j => (listed.setIfInBounds m.j true).getD j false) tr H') = headW ops ℓ' tb H' from hK']; exact hcl1.step e2) hpend'
        exact ⟨G',w',a',s3,e3,r3,st1.trans st3⟩
      · simp only [Bool.not_eq_true] at hW
        have hKsame : headW ops ℓ' tr H' = headW ops ℓ tr H':=headW_congr fun x hx ox hox hWx => by
          rw [hℓ']
          have : x.j ≠ m.j:=fun e => by rw [e,ho] at hox; cases hox; rw [hWx] at hW; cases hW
          simp [this]
        have hKb : headW ops ℓ tr H' = headW ops ℓ tb H':=by rw [hskip]; simp [headW,ho,hW]
        -- where the world stays
        have stay : doOp P pol rec ops o2 (applyTr ops ℓ tr t0) (headW ops ℓ tr H') = some (putT (applyTr ops ℓ tr t0) o2.dst m.v,headW ops ℓ tr H')→∃ G' w' a',Sim B G' H' w'∧Step G0 H0 w0 G' H' w'∧LR G' t' a' ∧
            Steps P (lone (fr b a (.inRegion ops (m.j :: Region.linearise.go .any ops fuel (tt / (Region.ready .any ops listed).length) (listed.setIfInBounds m.j true) []) :: k)) cs w) (lone (fr b a' k) cs w'):=fun hV => by
          obtain ⟨_,k1⟩:=doOp_ok hrec hV
          obtain ⟨G1,w1,a1,s1,e1,r1,st1⟩:=k1 G w a b k cs m.j (Region.linearise.go .any ops fuel (tt / (Region.ready .any ops listed).length) (listed.setIfInBounds m.j true) []) ho hS (fun x h1 h2 => absurd h1 (by omega)) hL
          have hpend' : ∀ x ∈ tr,∀ y,isAlloc P ops x = some y→ℓ' x.j = false→G1.β x.H.next = none∧(x.H.next < (headW ops ℓ tr H').next→(headW ops ℓ tr H').get x.H.next = some y):=fun x hx y hy hxl => by
            have hxl0 : ℓ x.j = false:=by rw [hℓ'] at hxl; simp only [Bool.or_eq_false_iff] at hxl; exact hxl.2
            obtain ⟨q1,q2⟩:=hpend x hx y hy hxl0
            refine ⟨?_,q2⟩
            cases hq : G1.β x.H.next with
            | none => rfl
            | some c =>
              rcases e1.new _ _ hq with h5 | ⟨h5,h6⟩
              · rw [q1] at h5; cases h5
              · omega
          obtain ⟨G',w',a',s3,e3,r3,st3⟩:=ih (tt / (Region.ready .any ops listed).length) (listed.setIfInBounds m.j true) G1 w1 a1 hsz' hd' hcnt' (by rw [show (headW ops (fun j => (listed.setIfInBounds m.j true).getD j false) tr H') = headW ops ℓ tr H' from hKsame]; exact s1)
            (by rw [show (headW ops (fun j => (listed.setIfInBounds m.j true).getD j false) tr H') = headW ops ℓ tr H' from hKsame]; exact hT.trans e1) (by show LR G1 (applyTr ops ℓ' tr t0) a1; rw [hslots]; exact r1)
            (by rw [show (headW ops (fun j => (listed.setIfInBounds m.j true).getD j false) tr H') = headW ops ℓ tr H' from hKsame]; exact hC.step e1) (by rw [show (headW ops (fun j => (listed.setIfInBounds m.j true).getD j false) tr H') = headW ops ℓ tr H' from hKsame]; exact hpend')
          exact ⟨G',w',a',s3,e3,r3,st1.trans st3⟩
        have hwt : awanted (applyTr ops ℓ tr t0) ops o2 = awanted m.t ops o2:=awanted_congr hops
        rcases doOpV_cases g2 with ⟨q1,q2,q3⟩ | ⟨q0,q1,q2,q3,q4⟩ | ⟨q0,q1,q2,q3,q4⟩ | ⟨q0,q1,q2,x,mk,q3,q4,q5⟩ | ⟨q0,q1,q2,q3,q4⟩ | hw
        · refine stay ?_
          unfold doOp; rw [hwt,q1,q2]
        · refine stay ?_
          unfold doOp; rw [hwt,q0]
          simp only [q1,if_true]
          rw [aopM_of ((aop_congr (operands_congr hops) q1).trans ((aop_heapless q2 (H':=m.H)).trans q3)),tagE_of (.inl q2)]; rfl
        · refine stay ?_
          unfold doOp; rw [hwt,q0]
          simp only [q1,if_true]
          have hs:=steadyAll_split (hsplit ▸ hst) o2 ho q2
          have:=steady_spec (ℓ:=ℓ) hrec q2 q0 g4 hs (by rw [q4]; exact q3) (fun x hx ox hox hWx hlx => by
            cases hq : (M.getD x.j 0).testBit m.j with
            | false => rfl
            | true =>
              obtain ⟨tb1,tb2,htb⟩:=List.append_of_mem hx
              have e2 : ord = (ta.map (·.j) ++ m.j :: tb1.map (·.j)) ++ x.j :: tb2.map (·.j):=by rw [eord,htb]; simp
              have:=mask_listed hP hd _ _ _ _ rfl e2 ox hox (fun e he hb => hd x.j ox hlx hox e he hb) m.j hq
              exact absurd (show ℓ m.j = true from this) (by rw [hℓm]; simp))
          rw [← hKb] at this
          rw [aopM_of ((aop_congr (operands_congr hops) q1).trans this),tagE_val]; rfl
        · -- a block is laid
          have hlt2 : m.H.next < (headW ops ℓ tr H').next:=by
            have:=(g4.headW_next (ℓ:=ℓ) hrec).1
            rw [← hKb,q5] at this; simp at this; omega
          have hal : isAlloc P ops m = some x:=by
            unfold isAlloc; rw [ho]; simp only [q0,q2,and_self,if_true,q3]
          obtain ⟨p1,p2⟩:=hpend m (by rw [hsplit]; simp) x hal hℓm
          have p3:=p2 hlt2
          have ha : aop P (applyTr ops ℓ tr t0) (headW ops ℓ tr H') o2 = some (.new x mk):=by
            rw [aop_congr (operands_congr hops) q1,aop_heapless q2 (H':=m.H),q3]
          have hsel : ∀ cs b,o2.op ≠ .select cs b:=fun cs b e => by rw [e] at q1; cases q1
          obtain ⟨v',w1,ob,k1,k2,k3,k4,k5⟩:=aop_sim hS (hL.eval b []) hsel ha
          have s1:=sim_fill hS p3 p1 k2 k3 k4
          have hH0 : H0.next ≤ m.H.next:=(htr.mem_next hrec m (by rw [hsplit]; simp)).1
          have e1:=hT.fill hS hH0 hlt2 p1 k2
          have hx : Ext G (G.at m.H.next w.heap.size (Obj.csize ob)):=Gh.ext_at p1 (by
            cases hq : G.sz w.heap.size with
            | none => exact .inl rfl
            | some s => exact absurd (hS.szr _ _ hq) (by omega))
          have hcl2 : Clear (G.at m.H.next w.heap.size (Obj.csize ob)) (headW ops ℓ tr H').next H'.next:=fun c h1 h2 => by
            have : c ≠ m.H.next:=fun e => by omega
            simp [Gh.at,this]; exact hC c h1 h2
          have hval:=k5 m.H.next _ hx (by simp [Gh.at]) (by simp [Gh.at])
          rw [← q4] at hval
          have hwt':=wanted_spec hL (hwt.trans q0)
          have st1:=st_op_val (k:=k) (cs:=cs) (rest:=Region.linearise.go .any ops fuel (tt / (Region.ready .any ops listed).length) (listed.setIfInBounds m.j true) []) ho hwt' q1 k1 (.inl rfl)
          have hpend' : ∀ y ∈ tr,∀ z,isAlloc P ops y = some z→ℓ' y.j = false→(G.at m.H.next w.heap.size (Obj.csize ob)).β y.H.next = none∧(y.H.next < (headW ops ℓ tr H').next→(headW ops ℓ tr H').get y.H.next = some z):=fun y hy z hz hyl => by
            have hyl0 : ℓ y.j = false:=by rw [hℓ'] at hyl; simp only [Bool.or_eq_false_iff] at hyl; exact hyl.2
            have hyne : y.j ≠ m.j:=fun e => by rw [hℓ'] at hyl; simp [e] at hyl
            obtain ⟨r1,r2⟩:=hpend y hy z hz hyl0
            have hne : y.H.next ≠ m.H.next:=by
              rw [hsplit] at hy
              rcases List.mem_append.1 hy with hy | hy
              · have:=nextOf hy hz; omega
              · rcases List.mem_cons.1 hy with rfl | hy
                · exact absurd rfl hyne
                · have:=nextOf2 hy; rw [q5] at this; simp at this; omega
            exact ⟨by simp [Gh.at,hne]; exact r1,r2⟩
          obtain ⟨G',w',a',s3,e3,r3,st3⟩:=ih (tt / (Region.ready .any ops listed).length) (listed.setIfInBounds m.j true) _ w1 (putV a o2.dst v') hsz' hd' hcnt' (by rw [show (headW ops (fun j => (listed.setIfInBounds m.j true).getD j false) tr H') = headW ops ℓ tr H' from hKsame]; exact s1)
            (by rw [show (headW ops (fun j => (listed.setIfInBounds m.j true).getD j false) tr H') = headW ops ℓ tr H' from hKsame]; exact e1)
            (by show LR _ (applyTr ops ℓ' tr t0) _; rw [hslots]; exact (hL.mono hx).put o2.dst hval)
            (by rw [show (headW ops (fun j => (listed.setIfInBounds m.j true).getD j false) tr H') = headW ops ℓ tr H' from hKsame]; exact hcl2)
            (by rw [show (headW ops (fun j => (listed.setIfInBounds m.j true).getD j false) tr H') = headW ops ℓ tr H' from hKsame]; exact hpend')
          exact ⟨G',w',a',s3,e3,r3,.head st1 st3⟩
        · refine stay ?_
          unfold doOp; rw [hwt,q0]
          simp only [q1,if_true]
          rw [aopM_of ((aop_congr (operands_congr hops) q1).trans ((aop_heapless q2 (H':=m.H)).trans q3)),tagE_of (.inl q2)]; rfl
        · rw [hw] at hW; cases hW
theorem step_drew (G : Gh) (H : AHeap) (w : World) : Step G H w G H w.drew :=
  ⟨Ext.refl G,fun _ _ h => .inl h,Nat.le_refl _,Nat.le_refl _,fun _ _ _ => rfl,fun _ _ h _ => h,fun b x c h1 h2 _ => ⟨b,x,h1,h2⟩,fun c o h1 h2 => (by rw [h2] at h1; cases h1),fun c l h => ⟨l,h⟩⟩
theorem applyTr_false : ∀ (tr : List Met) (t : List AV),applyTr ops (fun _ => false) tr t = t
  | [],t => rfl
  | m :: tr,t => by simp only [applyTr,List.foldl_cons]; exact applyTr_false tr t
theorem doDraw_ok (hm : P.follows .mixedOrders = true) : DrawOK P B (doDraw P pol):=by
  intro rec hrec t H ops t' H' h
  unfold doDraw at h
  simp only at h
  split at h
  rotate_left
  · cases h
  rename_i hc
  obtain ⟨c1,c2,c3⟩:=hc
  split at h
  rotate_left
  · cases h
  rename_i tr t1 H1 h1
  split at h
  rotate_left
  · cases h
  rename_i hst
  simp only [Option.some.injEq,Prod.mk.injEq] at h
  obtain ⟨rfl,rfl⟩:=h
  obtain ⟨htr,hj⟩:=traceOps_spec _ h1
  have hP : ∀ pre j post,(mkPlan ops).ord = pre ++ j :: post→∃ o,Placed ops (mkPlan ops).masks pre j o:=fun pre j post e => by
    obtain ⟨o,hp⟩:=planOk_spec (mkPlan ops).ord [] (by simp) c2 pre j post e
    exact ⟨o,by simpa using hp⟩
  have hall : ∀ j,j < ops.size→j ∈ (mkPlan ops).ord:=fun j hj => by
    simp only [List.all_eq_true,List.mem_range,List.contains_iff_mem] at c3
    exact c3 j hj
  have hlt : ∀ j ∈ (mkPlan ops).ord,j < ops.size:=fun j hj => by
    obtain ⟨pre,post,e⟩:=List.append_of_mem hj
    obtain ⟨o,hp⟩:=hP pre j post e
    exact (Array.getElem?_eq_some_iff.1 hp.op).1
  refine ⟨htr.next hrec,fun G w a b k cs id hS hC hL => ?_⟩
  let listed : Array Bool:=Array.replicate ops.size false
  have hl : (fun j => listed.getD j false) = fun _ => false:=funext fun j => by
    by_cases hj : j < ops.size <;> simp [listed,hj]
  obtain ⟨s1,e1,al,_,_⟩:=adv (ℓ:=fun _ => false) hrec htr (fun _ _ => rfl) (hS.drew) (hC.mono (htr.headW_next hrec).2)
  have e0:=(step_drew G H w).trans e1
  obtain ⟨G',w',a',s3,e3,r3,st3⟩:=draw_run hrec hP hall hlt htr hj hst b k cs ops.size (w.tape w.drawn (.order b.fn id)) listed G w.drew a (by simp [listed])
    (fun j o hj => by have h2:=(congrFun hl j).symm.trans hj; cases h2)
    (by
      have:=List.length_filter_le (fun j => !listed.getD j false) (mkPlan ops).ord
      omega)
    (by rw [hl]; exact s1) (by rw [hl]; exact e0) (by rw [hl,applyTr_false]; exact hL) (by rw [hl]; exact hC.step e0)
    (fun m hmem x hx _ => by
      rw [hl]
      obtain ⟨ta,tb,hsplit⟩:=List.append_of_mem hmem
      obtain ⟨H2,q1,q2,_⟩:=alloc_lt hrec (hsplit ▸ htr) hx
      have l1:=(htr.mem_next hrec m hmem).1
      have l2:=q1.next hrec
      rw [q2] at l2; simp at l2
      exact ⟨hC _ l1 (by omega),fun h2 => al m hmem x hx h2⟩)
  refine ⟨G',w',a',s3,e3,r3,.head st_region_draw ?_⟩
  have : Region.schedule (P.follows .mixedOrders) ops (w.tape w.drawn (.order b.fn id)) = Region.linearise.go .any ops ops.size (w.tape w.drawn (.order b.fn id)) listed []:=by
    simp [Region.schedule,hm,Region.linearise,listed]
  rw [this]
  exact st3
theorem run_ok (hpol : PolOK P B pol) (hm : P.follows .mixedOrders = true) (n : Nat) : RecOK P B (run P pol n):=runD_ok hpol (doDraw_ok hm) n
def start (w : World) (σ : Int:=0) : Gh:=⟨fun _ => none,fun c => w.heap[c]?,fun _ => none,σ⟩
theorem sim_start (w : World) (σ : Int:=0) : Sim w (start w σ) {} w :=
  ⟨rfl,rfl,rfl,Nat.le_refl _,fun _ _ => rfl,fun _ _ h => h,fun b x c h1 _ => (no_get h1).elim,fun b b' x x' c h1 _ _ _ => (no_get h1).elim,fun b x c h1 _ => (no_get h1).elim,fun b c h => (by cases h),
    fun c o h1 h2 => absurd (Array.getElem?_eq_some_iff.1 h2).1 (by omega),fun c o h1 h2 => absurd (Array.getElem?_eq_some_iff.1 h2).1 (by omega),fun c s h => (by cases h),⟨fun b cs h => (by cases h),fun b T h => (by cases h)⟩⟩
theorem calls_of_run {w : World} (hpol : PolOK P w pol) (hm : P.follows .mixedOrders = true) {n : Nat} {f : FuncId} {args : List AV} {v : AV} {H : AHeap} (h : run P pol n (.call f args) {} = some (.val v,H)) {args' : Array Value} {σ : Int} (hv : VRs (start w σ) args args'.toList) :
    Calls P f args' w fun e w' => ∃ G' v',e = .returned v'∧VR G' v v'∧Sim w G' H w':=by
  obtain ⟨_,hok⟩:=run_ok (B:=w) hpol hm n _ _ _ _ h
  intro cs
  obtain ⟨G',w',v',fr',s1,e1,r,st,hfn,hl⟩:=hok (start w σ) w args' (sim_start w σ) (fun _ _ _ => rfl) hv cs
  exact ⟨.returned v',w',fr',⟨G',v',rfl,r,s1⟩,st,hfn,hl⟩
end
end Go.Hem
