import Derived.Test.YtldflacehmpjkaaGreatDoorHemK
set_option linter.unusedSimpArgs false
set_option linter.unusedVariables false
namespace Go.Hem
def DrawOK (P : Program) (B : World) (draw : Run→DrawF) : Prop:=∀ rec,RecOK P B rec→∀ t H ops t' H',draw rec t H ops = some (t',H')→H.next ≤ H'.next ∧
  ∀ G w a b k cs id,Sim B G H w→Clear G H.next H'.next→LR G t a→∃ G' w' a',Sim B G' H' w'∧Step G H w G' H' w'∧LR G' t' a' ∧
    Steps P (lone (fr b a (.code (.region id ops true) :: k)) cs w) (lone (fr b a' k) cs w')
theorem frame_marks (b : Frame) (rs : List Nat) (ds : List Deferred) (h : b.defers = marks rs ++ ds) : { b with defers:=marks rs ++ ds } = b:=by
  cases b; simp_all
theorem Reach.pass {P : Program} {m : Machine} {b : Frame} {k : List Item} {cs : List Frame} {e : AExit} {a : Array Value} {w : World} {x : Item} (hx : ∀ id,exitTo id (x :: k) = exitTo id k) (hn : e ≠ .normal)
    (h : Reach P m b (x :: k) cs e a w) : Reach P m b k cs e a w:=by
  cases e with
  | normal => exact absurd rfl hn
  | exit id => obtain ⟨todo,h1,h2⟩:=h; exact ⟨todo,by rw [h1,hx],h2⟩
  | ret => exact h
theorem pins_trans {G : Gh} {H : AHeap} {w w0 w1 : World} {Q : Nat→Prop} {rs rs1 rs2 : List Nat} (h1 : ∀ r ∈ rs1,Q r∧(r ∈ rs ∨ w0.heap.size ≤ r)) (h2 : ∀ r ∈ rs2,Pin G H w r∧(r ∈ rs1 ∨ w1.heap.size ≤ r)) (hle : w0.heap.size ≤ w1.heap.size) :
    ∀ r ∈ rs2,Pin G H w r∧(r ∈ rs ∨ w0.heap.size ≤ r):=fun r hr => by
  obtain ⟨a,b⟩:=h2 r hr
  refine ⟨a,?_⟩
  rcases b with b | b
  · exact (h1 r b).2
  · exact .inr (Nat.le_trans hle b)
section
variable {P : Program} {B : World} {pol : Pol} {draw : Run→DrawF} {rec : Run}
theorem code_done {c : Code} {t : List AV} {H : AHeap} (h : ∀ b a k cs w,Steps P (lone (fr b a (.code c :: k)) cs w) (lone (fr b a k) cs w)) : CodeOK P B (fun c => [.code c]) c t H .normal t H:=by
  intro G w a b k cs rs ds hS hC hL hR hb hn hp
  exact ⟨G,w,a,rs,hS,Step.refl _ _ _,hL,hn,fun r hr => ⟨hp r hr,.inl hr⟩,fun _ => rfl,by rw [frame_marks b rs ds hb]; exact h b a k cs w⟩
theorem code_region {ops : Array Oper} {id : Nat} {d : Bool} {t t' : List AV} {H H' : AHeap}
    (h : ∀ G w a b k cs,Sim B G H w→Clear G H.next H'.next→LR G t a→∃ G' w' a',Sim B G' H' w'∧Step G H w G' H' w'∧LR G' t' a' ∧
      Steps P (lone (fr b a (.code (.region id ops d) :: k)) cs w) (lone (fr b a' k) cs w')) : CodeOK P B (fun c => [.code c]) (.region id ops d) t H .normal t' H':=by
  intro G w a b k cs rs ds hS hC hL hR hb hn hp
  obtain ⟨G',w',a',s1,s2,s3,s4⟩:=h G w a b k cs hS hC hL
  exact ⟨G',w',a',rs,s1,s2,s3,hn,fun r hr => ⟨(hp r hr).step s2,.inl hr⟩,fun _ => rfl,by rw [frame_marks b rs ds hb]; exact s4⟩
theorem code_seq {start : Code→List Item} {x y : Code} {t t1 t' : List AV} {H H1 H' : AHeap} {e : AExit} (st : ∀ b a k cs w,Steps P (lone (fr b a (.code (.seq x y) :: k)) cs w) (lone (fr b a (.code x :: .code y :: k)) cs w))
    (h1 : CodeOK P B (fun c => [.code c]) x t H .normal t1 H1) (h2 : CodeOK P B (fun c => [.code c]) y t1 H1 e t' H') (l2 : H1.next ≤ H'.next) :
    CodeOK P B (fun c => [.code c]) (.seq x y) t H e t' H':=by
  intro G w a b k cs rs ds hS hC hL hR hb hn hp
  obtain ⟨G1,w1,a1,rs1,s1,e1,r1,n1,p1,q1,m1⟩:=h1 G w a b (.code y :: k) cs rs ds hS (hC.mono l2) hL hR hb hn hp
  obtain ⟨G2,w2,a2,rs2,s2,e2,r2,n2,p2,q2,m2⟩:=h2 G1 w1 a1 { b with defers:=marks rs1 ++ ds } k cs rs1 ds s1 (hC.step e1) r1 (hR.step e1) rfl n1 (fun r hr => (p1 r hr).1)
  exact ⟨G2,w2,a2,rs2,s2,e1.trans e2,r2,n2,pins_trans p1 p2 e1.size,fun h => (q2 h).trans (q1 h),Reach.of_steps (Steps.trans (st b a k cs w) m1) m2⟩
theorem code_pass {c x : Code} {t t' : List AV} {H H' : AHeap} {e : AExit} (item : Item) (hx : ∀ id k,exitTo id (item :: k) = exitTo id k) (hn : e ≠ .normal)
    (st : ∀ b a k cs w,Steps P (lone (fr b a (.code c :: k)) cs w) (lone (fr b a (.code x :: item :: k)) cs w))
    (h1 : CodeOK P B (fun c => [.code c]) x t H e t' H') : CodeOK P B (fun c => [.code c]) c t H e t' H':=by
  intro G w a b k cs rs ds hS hC hL hR hb hnd hp
  obtain ⟨G1,w1,a1,rs1,s1,e1,r1,n1,p1,q1,m1⟩:=h1 G w a b (item :: k) cs rs ds hS hC hL hR hb hnd hp
  exact ⟨G1,w1,a1,rs1,s1,e1,r1,n1,p1,q1,Reach.of_steps (st b a k cs w) (m1.pass (fun id => hx id k) hn)⟩
theorem doCode_ok (hdraw : DrawOK P B draw) (hrec : RecOK P B rec) {c : Code} {t : List AV} {H H' : AHeap} {o : Out} (h : doCode P pol draw rec t H c = some (o,H')) (hrange : ∀ f ps a b,c ≠ .rangeFunc f ps a b) :
    H.next ≤ H'.next∧TaskOK P B (.code c t) H o H':=by
  cases c <;> simp only [doCode,reduceCtorEq] at h
  case skip =>
    simp at h; obtain ⟨rfl,rfl⟩:=h
    exact ⟨Nat.le_refl _,code_done fun b a k cs w => .one st_skip⟩
  case label l =>
    simp at h; obtain ⟨rfl,rfl⟩:=h
    exact ⟨Nat.le_refl _,code_done fun b a k cs w => .one st_label⟩
  case exit id =>
    simp at h; obtain ⟨rfl,rfl⟩:=h
    refine ⟨Nat.le_refl _,?_⟩
    intro G w a b k cs rs ds hS hC hL hR hb hn hp
    exact ⟨G,w,a,rs,hS,Step.refl _ _ _,hL,hn,fun r hr => ⟨hp r hr,.inl hr⟩,fun _ => rfl,by rw [frame_marks b rs ds hb]; exact ⟨k,rfl,.refl _ _⟩⟩
  case ret =>
    simp at h; obtain ⟨rfl,rfl⟩:=h
    refine ⟨Nat.le_refl _,?_⟩
    intro G w a b k cs rs ds hS hC hL hR hb hn hp
    exact ⟨G,w,a,rs,hS,Step.refl _ _ _,hL,hn,fun r hr => ⟨hp r hr,.inl hr⟩,fun _ => rfl,by rw [frame_marks b rs ds hb]; exact ⟨k,.refl _ _⟩⟩
  case region id ops d =>
    cases d with
    | false =>
      simp only [doCode,Option.map_eq_some_iff,Prod.mk.injEq] at h
      obtain ⟨⟨t',H1⟩,h1,rfl,rfl⟩:=h
      obtain ⟨l1,k1⟩:=doOps_ok hrec ops.toList 0 (fun j => by simp) h1
      refine ⟨l1,code_region fun G w a b k cs hS hC hL => ?_⟩
      obtain ⟨G',w',a',s1,s2,s3,s4⟩:=k1 G w a b k cs hS hC hL
      refine ⟨G',w',a',s1,s2,s3,.head st_region ?_⟩
      rw [List.range_eq_range']; simpa using s4
    | true =>
      simp only [doCode,Option.map_eq_some_iff,Prod.mk.injEq] at h
      obtain ⟨⟨t',H1⟩,h1,rfl,rfl⟩:=h
      obtain ⟨l1,k1⟩:=hdraw rec hrec _ _ _ _ _ h1
      exact ⟨l1,code_region fun G w a b k cs hS hC hL => k1 G w a b k cs id hS hC hL⟩
  case seq x y =>
    split at h
    · rename_i t1 H1 h1
      obtain ⟨l1,k1⟩:=hrec _ _ _ _ h1
      obtain ⟨l2,k2⟩:=hrec _ _ _ _ h
      refine ⟨Nat.le_trans l1 l2,?_⟩
      cases o with
      | val v => exact k2.elim
      | ex e t' => exact code_seq (start:=fun c => [.code c]) (fun b a k cs w => .one st_seq) k1 k2 l2
    · rename_i hno
      obtain ⟨l1,k1⟩:=hrec _ _ _ _ h
      refine ⟨l1,?_⟩
      cases o with
      | val v => exact k1.elim
      | ex e t' =>
        have hne : e ≠ .normal:=fun e0 => by subst e0; exact hno _ _ h
        exact code_pass (.code y) (fun _ _ => rfl) hne (fun b a k cs w => .one st_seq) k1
  case cond c x y =>
    split at h
    · rename_i hc
      obtain ⟨l1,k1⟩:=hrec _ _ _ _ h
      refine ⟨l1,?_⟩
      cases o with
      | val v => exact k1.elim
      | ex e t' =>
        intro G w a b k cs rs ds hS hC hL hR hb hn hp
        obtain ⟨G1,w1,a1,rs1,s1,e1,r1,n1,p1,q1,m1⟩:=k1 G w a b k cs rs ds hS hC hL hR hb hn hp
        have:=(hc ▸ hL.eval b k c).sc_inv
        exact ⟨G1,w1,a1,rs1,s1,e1,r1,n1,p1,q1,Reach.of_steps (.one (st_cond (t:=true) this)) m1⟩
    · rename_i hc
      obtain ⟨l1,k1⟩:=hrec _ _ _ _ h
      refine ⟨l1,?_⟩
      cases o with
      | val v => exact k1.elim
      | ex e t' =>
        intro G w a b k cs rs ds hS hC hL hR hb hn hp
        obtain ⟨G1,w1,a1,rs1,s1,e1,r1,n1,p1,q1,m1⟩:=k1 G w a b k cs rs ds hS hC hL hR hb hn hp
        have:=(hc ▸ hL.eval b k c).sc_inv
        exact ⟨G1,w1,a1,rs1,s1,e1,r1,n1,p1,q1,Reach.of_steps (.one (st_cond (t:=false) this)) m1⟩
    · cases h
  case block id x =>
    split at h
    · rename_i id' t1 H1 h1
      obtain ⟨l1,k1⟩:=hrec _ _ _ _ h1
      split at h
      · rename_i hid
        subst hid
        simp at h; obtain ⟨rfl,rfl⟩:=h
        refine ⟨l1,?_⟩
        intro G w a b k cs rs ds hS hC hL hR hb hn hp
        obtain ⟨G1,w1,a1,rs1,s1,e1,r1,n1,p1,q1,todo,m1,m2⟩:=k1 G w a b (.inBlock id' :: k) cs rs ds hS hC hL hR hb hn hp
        refine ⟨G1,w1,a1,rs1,s1,e1,r1,n1,p1,q1,?_⟩
        have : exitTo id' (.inBlock id' :: k) = some k:=by simp [exitTo]
        exact (Steps.head st_block m2).trans (.one (st_exit (m1.trans this)))
      · rename_i hid
        simp at h; obtain ⟨rfl,rfl⟩:=h
        refine ⟨l1,?_⟩
        intro G w a b k cs rs ds hS hC hL hR hb hn hp
        obtain ⟨G1,w1,a1,rs1,s1,e1,r1,n1,p1,q1,todo,m1,m2⟩:=k1 G w a b (.inBlock id :: k) cs rs ds hS hC hL hR hb hn hp
        refine ⟨G1,w1,a1,rs1,s1,e1,r1,n1,p1,q1,todo,?_,Steps.head st_block m2⟩
        rw [m1]
        have : (id == id') = false:=by simpa using fun e => hid e.symm
        simp [exitTo,this]
    · rename_i hno
      obtain ⟨l1,k1⟩:=hrec _ _ _ _ h
      refine ⟨l1,?_⟩
      cases o with
      | val v => exact k1.elim
      | ex e t' =>
        intro G w a b k cs rs ds hS hC hL hR hb hn hp
        obtain ⟨G1,w1,a1,rs1,s1,e1,r1,n1,p1,q1,m1⟩:=k1 G w a b (.inBlock id :: k) cs rs ds hS hC hL hR hb hn hp
        refine ⟨G1,w1,a1,rs1,s1,e1,r1,n1,p1,q1,?_⟩
        cases e with
        | normal => exact (Steps.head st_block m1).trans (.one st_inBlock)
        | exit id' => exact absurd h (hno _ _ _)
        | ret => obtain ⟨todo,m2⟩:=m1; exact ⟨todo,Steps.head st_block m2⟩
  case loop x =>
    obtain ⟨l1,k1⟩:=hrec _ _ _ _ h
    refine ⟨l1,?_⟩
    cases o with
    | val v => exact k1.elim
    | ex e t' =>
      intro G w a b k cs rs ds hS hC hL hR hb hn hp
      obtain ⟨G1,w1,a1,rs1,s1,e1,r1,n1,p1,q1,m1⟩:=k1 G w a b k cs rs ds hS hC hL hR hb hn hp
      exact ⟨G1,w1,a1,rs1,s1,e1,r1,n1,p1,q1,Reach.of_steps (.one st_loop) m1⟩
  case scope x =>
    obtain ⟨l1,k1⟩:=hrec _ _ _ _ h
    refine ⟨l1,?_⟩
    cases o with
    | val v => exact k1.elim
    | ex e t' =>
      intro G w a b k cs rs ds hS hC hL hR hb hn hp
      obtain ⟨G1,w1,a1,rs1,s1,e1,r1,n1,p1,q1,m1⟩:=k1 G w a b (.inScope x :: k) cs rs ds hS hC hL hR hb hn hp
      refine ⟨G1,w1,a1,rs1,s1,e1,r1,n1,p1,q1,?_⟩
      by_cases hne : e = .normal
      · subst hne; exact (Steps.head st_scope m1).trans (.one st_inScope)
      · exact Reach.of_steps (.one st_scope) (m1.pass (fun id => rfl) hne)
  case rangeFunc f ps a b => exact absurd rfl (hrange f ps a b)
theorem loop_ok (hrec : RecOK P B rec) {c : Code} {t : List AV} {H H' : AHeap} {o : Out}
    (h : stepTask P pol draw rec (.loop c t) H = some (o,H')) : H.next ≤ H'.next∧TaskOK P B (.loop c t) H o H':=by
  simp only [stepTask] at h
  split at h
  · rename_i t1 H1 h1
    obtain ⟨l1,k1⟩:=hrec _ _ _ _ h1
    obtain ⟨l2,k2⟩:=hrec _ _ _ _ h
    refine ⟨Nat.le_trans l1 l2,?_⟩
    cases o with
    | val v => exact k2.elim
    | ex e t' =>
      intro G w a b k cs rs ds hS hC hL hR hb hn hp
      obtain ⟨G1,w1,a1,rs1,s1,e1,r1,n1,p1,q1,m1⟩:=k1 G w a b (.inLoop c :: k) cs rs ds hS (hC.mono l2) hL hR hb hn hp
      obtain ⟨G2,w2,a2,rs2,s2,e2,r2,n2,p2,q2,m2⟩:=k2 G1 w1 a1 { b with defers:=marks rs1 ++ ds } k cs rs1 ds s1 (hC.step e1) r1 (hR.step e1) rfl n1 (fun r hr => (p1 r hr).1)
      exact ⟨G2,w2,a2,rs2,s2,e1.trans e2,r2,n2,pins_trans p1 p2 e1.size,fun h => (q2 h).trans (q1 h),Reach.of_steps (Steps.trans m1 (.one st_inLoop)) m2⟩
  · rename_i hno
    obtain ⟨l1,k1⟩:=hrec _ _ _ _ h
    refine ⟨l1,?_⟩
    cases o with
    | val v => exact k1.elim
    | ex e t' =>
      intro G w a b k cs rs ds hS hC hL hR hb hn hp
      obtain ⟨G1,w1,a1,rs1,s1,e1,r1,n1,p1,q1,m1⟩:=k1 G w a b (.inLoop c :: k) cs rs ds hS hC hL hR hb hn hp
      have hne : e ≠ .normal:=fun e0 => by subst e0; exact hno _ _ h
      exact ⟨G1,w1,a1,rs1,s1,e1,r1,n1,p1,q1,m1.pass (fun _ => rfl) hne⟩
end
end Go.Hem
