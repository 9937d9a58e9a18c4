/- Walks. -/
import Derived.Test.YtnlhhjmheghnnaaWalks1
import Derived.Test.YtnlhhjmheghnnaaWalks0
set_option maxRecDepth 10000
set_option maxHeartbeats 4000000
set_option linter.unusedSimpArgs false
set_option linter.unusedVariables false
namespace Go.Hem
variable {pol : Pol}
end Go.Hem
namespace Go.Hem
variable {pol : Pol}
def delCode (n bytes : Nat) (z : List AV) : CF:=⟨.seq (.ops [⟨some 6,none,.mv (.const (.slice none 0 0)),[]⟩]) (.seq (.ops [⟨some 8,none,.mv (.tmp 0),[]⟩,⟨some 9,none,.mv (.tmp 1),[]⟩,⟨some 10,none,.mv (.tmp 2),[]⟩,⟨some 11,none,.mv (.tmp 0),[]⟩,⟨some 12,none,.len (.tmp 11),[]⟩,⟨some 13,none,.slc3 n (.tmp 8) (some (.tmp 9)) (some (.tmp 10)) (some (.tmp 12)),[]⟩]) (.seq (.seq (.ops [⟨some 14,none,.mv (.tmp 1),[]⟩,⟨some 15,none,.mv (.tmp 2),[]⟩,⟨some 16,none,.bint .eql (.tmp 14) (.tmp 15),[]⟩]) (.cond (.tmp 16) (.seq (.ops [⟨some 17,none,.mv (.tmp 0),[]⟩,⟨some 6,none,.mv (.tmp 17),[]⟩]) .ret) .skip)) (.seq (.ops [⟨some 18,none,.mv (.tmp 0),[]⟩,⟨some 19,none,.len (.tmp 18),[]⟩,⟨some 7,none,.mv (.tmp 19),[]⟩]) (.seq (.ops [⟨some 20,none,.mv (.tmp 0),[]⟩,⟨some 21,none,.mv (.tmp 1),[]⟩,⟨some 22,none,.slc n (.tmp 20) none (some (.tmp 21)),[]⟩,⟨some 23,none,.mv (.tmp 0),[]⟩,⟨some 24,none,.mv (.tmp 2),[]⟩,⟨some 25,none,.slc n (.tmp 23) (some (.tmp 24)) none,[]⟩,⟨some 26,none,.app n bytes (.tmp 22) (.tmp 25),[]⟩,⟨some 0,none,.mv (.tmp 26),[]⟩]) (.seq (.ops [⟨some 27,none,.mv (.tmp 0),[]⟩,⟨some 28,none,.mv (.tmp 0),[]⟩,⟨some 29,none,.len (.tmp 28),[]⟩,⟨some 30,none,.mv (.tmp 7),[]⟩,⟨some 31,none,.slc n (.tmp 27) (some (.tmp 29)) (some (.tmp 30)),[]⟩,⟨none,none,.clr n z (.tmp 31),[]⟩]) (.seq (.ops [⟨some 32,none,.mv (.tmp 0),[]⟩,⟨some 6,none,.mv (.tmp 32),[]⟩]) .ret)))))),33,[.tmp 6]⟩
theorem ok108d : compF prog 108 = some (delCode 2 48 [.sc .nils,.sc .nils]):=ok108
theorem ok109d : compF prog 109 = some (delCode 6 72 [.sc (.int .i64 0),.sc (.int .i64 0),.sc (.str ⟨#[]⟩),.sc (.int .i64 0),.sc (.int .i64 0),.sc .nils]):=ok109
def Sl.del {α : Type} (s : Sl α) (i j : Nat) : Sl α:=s.map fun l => l.take i ++ l.drop j
theorem del_own {α : Type} {f : α→AV} {d n bytes fn i j : Nat} {z : List AV} {H0 : AHeap} {v : AV} {s : Sl α} {fp : List Nat} (row : RowOf n f) (hn1 : n ≠ 1) (hf : compF prog fn = some (delCode n bytes z)) (hz : z.length = n) (hzo : AV.ones z = true) (h : OwnX false (d + 1) H0 v (slm f s) fp) (hij : i ≤ j) (hj : j ≤ s.l.length) (hbig : s.l.length < 1000000) :
    Ev prog pol (.call fn [v,.sc (.int .i64 i),.sc (.int .i64 j)]) H0 fun o H' => ∃ v' fp',o = .val v'∧OwnX false (d + 1) H' v' (slm f (s.del i j)) fp'∧(∀ b ∈ fp',b ∈ fp)∧(∀ b,b ∉ fp→H'.cells b = H0.cells b)∧H0.next ≤ H'.next:=by
  refine (wpF_ok hf (Q:=fun v' H' => ∃ fp',OwnX false (d + 1) H' v' (slm f (s.del i j)) fp'∧(∀ b ∈ fp',b ∈ fp)∧(∀ b,b ∉ fp→H'.cells b = H0.cells b)∧H0.next ≤ H'.next) ?_).mono ?_
  rotate_left
  · rintro o H' ⟨v',rfl,fp',h⟩; exact ⟨v',fp',rfl,h⟩
  have hlen:=(own_len h).1
  have h':=h
  cases v with
  | sc x =>
    simp only [OwnX] at h
    obtain ⟨h1,rfl⟩:=h
    cases s with
    | some l => simp [slm] at h1
    | none =>
      simp only [slm,AV.sc.injEq] at h1
      subst h1
      have hj0 : j = 0:=by simpa [Sl.l] using hj
      have hi0 : i = 0:=by omega
      subst hj0 hi0
      simp -implicitDefEqProofs (maxDischargeDepth:=12) only [wpF,delCode,WW,List.replicate,e_splice,if_true,if_false,ite_true,ite_false,true_or,ne_eq,seval,h_putc,beq_self_eq_true,eq_self,exists_eq_left,exists_eq_left',s_slc3,e_cut3n,e_bns]
      exact ⟨[],h',by simp⟩
  | slice b off len cap n' =>
    simp only [lenOf,Option.some.injEq,AV.sc.injEq,Sc.int.injEq,true_and] at hlen
    have hlen : len = s.l.length:=by omega
    subst hlen
    simp only [OwnX] at h
    rcases h with ⟨h0,_⟩ | ⟨cs,us,fp',h1,⟨h2,h2'⟩,h3,h4,h5,h6,hq,h7,rfl⟩
    · cases h0
    have h3:=h3 trivial
    obtain ⟨rfl,h3⟩:=h3
    obtain ⟨l,rfl⟩ : ∃ l,s = some l:=by
      cases s with
      | none => simp [slm] at h7
      | some l => exact ⟨l,rfl⟩
    simp only [l_some] at *
    simp only [slm,AV.imm.injEq] at h7
    simp only [Nat.zero_add,List.drop_zero] at h4 h5
    have hul : us.length = l.length * n':=by
      have:=h5.len
      simp only [List.length_take] at this
      omega
    by_cases hl0 : l.length = 0
    · have hj0 : j = 0:=by omega
      have hi0 : i = 0:=by omega
      subst hj0 hi0
      have hl : l = []:=List.length_eq_zero_iff.1 hl0
      subst hl
      simp -implicitDefEqProofs (maxDischargeDepth:=12) only [wpF,delCode,WW,List.replicate,e_splice,if_true,if_false,ite_true,ite_false,true_or,ne_eq,seval,h_putc,beq_self_eq_true,eq_self,exists_eq_left,exists_eq_left',s_slc3,e_cut3,e_bns]
      refine ⟨_,h',fun _ h => h,?_⟩
      simp
    have hnq : n' = n:=by
      cases hl : l with
      | nil => rw [hl] at hl0; simp at hl0
      | cons y r =>
        rw [hl] at h7
        simp only [List.map_cons,List.length_cons,rows,List.cons.injEq] at h7
        have ry:=row.2 y
        rw [if_neg hn1] at ry
        have e3:=h7.1
        rw [if_neg (by omega : ¬ n' = 1),ry.2] at e3
        simp only [AV.agg.injEq] at e3
        have e4:=congrArg List.length e3
        rw [ry.1,List.length_take,hul,hl,List.length_cons,Nat.succ_mul] at e4
        omega
    subst hnq
    have hus:=own_rows row hn1 l us hul h7
    subst hus
    have c1 : i ≤ l.length:=by omega
    have hcap0 : ¬ 0 = cap:=by omega
    by_cases hijq : i = j
    · subst hijq
      have hpost : ∃ fp'_1,OwnX false (d + 1) H0 (.slice b 0 l.length cap n') (slm f (Sl.del (some l) i i)) fp'_1∧(∀ c ∈ fp'_1,c ∈ b :: fp')∧(∀ c,c ∉ b :: fp'→H0.cells c = H0.cells c)∧H0.next ≤ H0.next :=
        ⟨_,by rw [Sl.del,Option.map_some,List.take_append_drop]; exact h',fun _ h => h,fun _ _ => rfl,Nat.le_refl _⟩
      by_cases c2 : i = l.length
      · subst c2
        simp -implicitDefEqProofs (maxDischargeDepth:=12) only [wpF,delCode,WW,List.replicate,e_splice,if_true,if_false,ite_true,ite_false,true_or,ne_eq,seval,h_putc,beq_self_eq_true,eq_self,exists_eq_left,exists_eq_left',s_slc3,e_cut3,e_bns,h2']
        simpa using hpost
      · simp -implicitDefEqProofs (maxDischargeDepth:=12) only [wpF,delCode,WW,List.replicate,e_splice,if_true,if_false,ite_true,ite_false,true_or,ne_eq,seval,h_putc,beq_self_eq_true,eq_self,exists_eq_left,exists_eq_left',s_slc3,e_cut3,e_bns,c1,h2',c2]
        simpa using hpost
    have c2 : ¬ i = l.length:=by omega
    have c3 : ¬ (i : Int) = (j : Int):=by omega
    have c4 : i ≤ cap:=by omega
    have c5 : j ≤ cap:=by omega
    have hbl:=h_lt h1
    have m1 : i * n' + (j - i) * n' = j * n':=by rw [← Nat.add_mul]; congr 1; omega
    have m2 : j * n' + (l.length - j) * n' = l.length * n':=by rw [← Nat.add_mul]; congr 1; omega
    have m3 : (i + (l.length - j)) * n' = i * n' + (l.length - j) * n':=Nat.add_mul _ _ _
    have m4 : (l.length - (i + (l.length - j))) = j - i:=by omega
    have hnp : 0 < n':=by omega
    generalize hX : (cs.drop (j * n')).take ((l.length - j) * n') = X
    have hXl : X.length = (l.length - j) * n':=by rw [← hX]; simp; omega
    have hsp : (splice cs (i * n') X).length = cs.length:=splice_len2 (by omega)
    have hfin : ∀ Z : List AV,Z.length = (j - i) * n'→∃ fq,OwnX false (d + 1) ((H0.put b (some (.cells (splice cs (i * n') X)))).put b (some (.cells (splice (splice cs (i * n') X) ((i + (l.length - j)) * n') Z)))) (.slice b 0 (i + (l.length - j)) cap n') (slm f (Sl.del (some l) i j)) fq∧(∀ c ∈ fq,c ∈ b :: fp') ∧
        (∀ c,c ∉ b :: fp'→((H0.put b (some (.cells (splice cs (i * n') X)))).put b (some (.cells (splice (splice cs (i * n') X) ((i + (l.length - j)) * n') Z)))).cells c = H0.cells c)∧H0.next ≤ ((H0.put b (some (.cells (splice cs (i * n') X)))).put b (some (.cells (splice (splice cs (i * n') X) ((i + (l.length - j)) * n') Z)))).next:=by
      intro Z hZ
      obtain ⟨f1,g1,p1,p2,p3,p4⟩:=h5.split (i * n')
      obtain ⟨f2,g2,q1,q2,q3,q4⟩:=p2.split ((j - i) * n')
      rw [List.drop_drop,List.drop_drop,m1] at q2
      rw [flat_take row c1] at p1
      rw [flat_drop row hj,List.drop_take,show l.length * n' - j * n' = (l.length - j) * n' by omega,hX] at q2
      rw [List.take_take,Nat.min_eq_left (by omega)] at p1
      have s1 : ∀ c ∈ f1,c ∈ fp':=fun c hc => by rw [p4]; exact List.mem_append.2 (.inl hc)
      have s2 : ∀ c ∈ g2,c ∈ fp':=fun c hc => by rw [p4,q4]; exact List.mem_append.2 (.inr (List.mem_append.2 (.inr hc)))
      have hap : Apart f1 g2:=fun c hc hc2 => p3 c hc (by rw [q4]; exact List.mem_append.2 (.inr hc2))
      have hin : ∀ c ∈ f1 ++ g2,c ∈ fp':=fun c hc => (List.mem_append.1 hc).elim (s1 c) (s2 c)
      refine ⟨b :: (f1 ++ g2),.inr ⟨_,(l.take i ++ l.drop j).flatMap fun x => (f x).cells,f1 ++ g2,h_put_self (h_put_self h1),⟨row.1,by omega⟩,fun _ => ⟨rfl,by omega⟩,?_,?_,fun hc => h6 (hin _ hc),fun e => absurd e hn1,?_,rfl⟩,?_,?_,by simp⟩
      · rw [splice_len2 (by omega),hsp]; omega
      · rw [List.drop_zero,splice_take0 (by omega) (by omega),m3,← hXl,splice_take (by omega),List.flatMap_append]
        refine (p1.append q2 hap).fr fun c hc => ?_
        have hcb : c ≠ b:=fun e => h6 (e ▸ hin c hc)
        rw [c_put_ne hcb,c_put_ne hcb]
      · have : i + (l.length - j) = (l.take i ++ l.drop j).length:=by simp; omega
        rw [this,rows_map row]; rfl
      · intro c hc
        rcases List.mem_cons.1 hc with rfl | hc
        · simp
        · simp [hin c hc]
      · intro c hc; exact (c_put_ne fun e => hc (by simp [e])).trans (c_put_ne fun e => hc (by simp [e]))
    have c6 : i + (l.length - j) ≤ cap:=by omega
    have c7 : i + (l.length - j) ≤ l.length:=by omega
    have c8 : ¬ i + (l.length - j) = cap:=by omega
    have c9 : (i + (l.length - j)) * n' ≤ cs.length:=by omega
    have happ : ∀ x,alen x = some (l.length - j)→asrc n' H0 x (l.length - j) = some X→appTo n' bytes H0 (.slice b 0 i cap n') x = some (.mem (.slice b 0 (i + (l.length - j)) cap n') b (splice cs (i * n') X)):=fun x e1 e2 => by
      simp only [appTo,e1,e2,Option.bind_some,h1,ne_eq,not_true,if_false,if_pos c6,Nat.zero_add,if_pos c9]
    have hp1 : (H0.put b (some (.cells (splice cs (i * n') X)))).cells b = some (splice cs (i * n') X):=h_put_self h1
    have hclr : clrTo n' z (H0.put b (some (.cells (splice cs (i * n') X)))) (.slice b ((i + (l.length - j)) * n') (j - i) (cap - (i + (l.length - j))) n') = some (.mem (.sc .undef) b (splice (splice cs (i * n') X) ((i + (l.length - j)) * n') (rep (j - i) z))):=by
      simp only [clrTo,if_neg (show ¬ j - i = 0 by omega),hp1,Option.bind_some]
      rw [if_pos ⟨by trivial,by rw [hsp,← Nat.add_mul]; exact Nat.le_trans (Nat.mul_le_mul_right _ (by omega)) h4,hz,hzo⟩]
    have hZ:=hfin (rep (j - i) z) (by rw [rep_len,hz])
    by_cases hjc : j = cap
    · have e1 : alen (.imm []) = some (l.length - j):=by simp only [alen,List.length_nil,Option.some.injEq]; omega
      have e2 : asrc n' H0 (.imm []) (l.length - j) = some X:=by
        have h0 : l.length - j = 0:=by omega
        have hX0 : X = []:=List.length_eq_zero_iff.1 (by rw [hXl,h0,Nat.zero_mul])
        rw [h0,hX0]; simp [asrc,uniform]
      subst hjc
      simp -implicitDefEqProofs (maxDischargeDepth:=12) only [wpF,delCode,WW,List.replicate,if_true,if_false,ite_true,ite_false,true_or,ne_eq,seval,beq_self_eq_true,eq_self,exists_eq_left,exists_eq_left',s_slc3,e_cut3,e_bns,c1,c2,c3,c4,h2',hcap0,hj,Nat.zero_mul,Nat.sub_zero]
      rw [happ _ e1 e2]
      simp -implicitDefEqProofs (maxDischargeDepth:=12) only [WW,List.replicate,if_true,if_false,ite_true,ite_false,true_or,ne_eq,seval,beq_self_eq_true,eq_self,exists_eq_left,exists_eq_left',s_clr,c6,c7,c8,m4,h2',Nat.zero_mul,Nat.sub_zero,Nat.zero_add]
      rw [hclr]
      simp -implicitDefEqProofs (maxDischargeDepth:=12) only [WW,List.replicate,if_true,if_false,ite_true,ite_false,true_or,ne_eq,seval,beq_self_eq_true,eq_self,exists_eq_left,exists_eq_left']
      obtain ⟨fq,z1,z2,z3,_⟩:=hZ
      exact ⟨fq,z1,z2,z3⟩
    · have e1 : alen (.slice b (j * n') (l.length - j) (cap - j) n') = some (l.length - j):=rfl
      have e2 : asrc n' H0 (.slice b (j * n') (l.length - j) (cap - j) n') (l.length - j) = some X:=by
        simp only [asrc,AHeap.rd,h1,Option.some_or,Option.bind_some]
        rw [if_pos ⟨Nat.le_refl _,by omega⟩,hX]
      simp -implicitDefEqProofs (maxDischargeDepth:=12) only [wpF,delCode,WW,List.replicate,if_true,if_false,ite_true,ite_false,true_or,ne_eq,seval,beq_self_eq_true,eq_self,exists_eq_left,exists_eq_left',s_slc3,e_cut3,e_bns,hij,c1,c2,c3,c4,c5,h2',hcap0,hj,hjc,Nat.zero_mul,Nat.sub_zero]
      rw [happ _ e1 e2]
      simp -implicitDefEqProofs (maxDischargeDepth:=12) only [WW,List.replicate,if_true,if_false,ite_true,ite_false,true_or,ne_eq,seval,beq_self_eq_true,eq_self,exists_eq_left,exists_eq_left',s_clr,c6,c7,c8,m4,h2',Nat.zero_mul,Nat.sub_zero,Nat.zero_add]
      rw [hclr]
      simp -implicitDefEqProofs (maxDischargeDepth:=12) only [WW,List.replicate,if_true,if_false,ite_true,ite_false,true_or,ne_eq,seval,beq_self_eq_true,eq_self,exists_eq_left,exists_eq_left']
      obtain ⟨fq,z1,z2,z3,_⟩:=hZ
      exact ⟨fq,z1,z2,z3⟩
  | _ => simp [OwnX] at h; try (obtain ⟨_,e,_⟩:=h; cases s <;> simp [slm] at e)
end Go.Hem
namespace Go.Hem
variable {pol : Pol}
def Chg2 (pol : Pol) (g : FuncId) (cap : List AV) (H0 : AHeap) (s a : Score) : Prop:=∀ (H : AHeap) (q : Nat) (R : List Nat),Keep H0.next H0 H→H0.next ≤ q→q < H.next→q ∉ R→(∀ b ∈ R,H0.next ≤ b∧b < H.next)→OwnScore H q R s.cl →
  Ev prog pol (.call g ([.ptr q 0] ++ cap)) H fun o H' => ∃ v R',o = .val v∧OwnScore H' q R' a∧(∀ b ∈ R',b ∈ R ∨ H.next ≤ b)∧(∀ b,b < H.next→b ≠ q→b ∉ R→H'.cells b = H.cells b)∧H.next ≤ H'.next
theorem with_ok2 (hp : PrPol pol) (h29 : pol.pure 29 = true) (s : Score) (hx : s.tame) (a : Score) (ha : a.tame) (hT : Tame a) (l : List Part) (hl : a.parts = some l) (H0 : AHeap) (g : FuncId) (cap : List AV) (hg : pol.pure g = false) (hcal : ∀ args,acallee prog g args = some (.call g args)) (hchg : Chg2 pol g cap H0 s a) :
    Ev prog pol (.call 93 [s.enc,.func (.func g) [] cap]) H0 fun o H' => o = .val a.pr.enc∧Keep H0.next H0 H':=by
  refine (wpF_ok ok93 (Q:=fun v H' => v = a.pr.enc∧Keep H0.next H0 H') ?_).mono ?_
  rotate_left
  · rintro o H' ⟨v,rfl,rfl,h⟩
    exact ⟨rfl,h⟩
  generalize hn0 : H0.next = n
  simp -implicitDefEqProofs (maxDischargeDepth:=12) only [wpF,cf93,WW,List.replicate,e_splice,if_true,if_false,ite_true,ite_false,true_or,ne_eq,seval,h_putc,beq_self_eq_true,eq_self,exists_eq_left,exists_eq_left',s.enc_eq,hn0,nq1,mq1,addq,nq2,mq2,mq12,mq21]
  rw [← s.enc_eq]
  refine wA_call (hp.1 _ (by decide)) ((sClone_ok hp.1 s hx _).mono ?_)
  rintro o H1 ⟨cs,fp,rfl,ho,hlen,hones,hF,hN,hK⟩
  refine ⟨_,rfl,by simp only [k_nil],?_⟩
  simp only [AHeap.next_alloc,hn0] at hF hN hK
  have g1 : H1.cells (n + 1) = some [.sc (.str ⟨#[]⟩),.sc (.bool false),.sc .nils,.sc .nils,.sc .nils,.sc .nils]:=(hK (n + 1) (by omega)).trans (by simp -implicitDefEqProofs (maxDischargeDepth:=12) only [WW,List.replicate,e_splice,if_true,if_false,ite_true,ite_false,true_or,ne_eq,seval,h_putc,beq_self_eq_true,eq_self,exists_eq_left,exists_eq_left',hn0])
  have hK1 : Keep n H0 H1:=fun b hb => by rw [hK b (by omega),c_alloc_ne (by simp only [AHeap.next_alloc,hn0]; omega),c_alloc_ne (by omega)]
  generalize hq : H1.next = q
  have hlt:=ho.lts
  have hsp : splice [.sc (.str ⟨#[]⟩),.sc (.bool false),.sc .nils,.sc .nils,.sc .nils,.sc .nils] 0 cs = cs:=splice_full hlen.symm
  simp -implicitDefEqProofs (maxDischargeDepth:=12) only [WW,List.replicate,if_true,if_false,ite_true,ite_false,true_or,ne_eq,seval,beq_self_eq_true,eq_self,exists_eq_left,exists_eq_left',hones,hlen,hq,hsp]
  rw [e_callf,hcal]
  generalize hH2 : AHeap.put _ q _ = H2
  have n2 : H2.next = q + 1:=by subst hH2; simp only [AHeap.next_put,AHeap.next_alloc,hq]
  have a0 : ∀ b,b < q→H2.cells b = H1.cells b:=fun b hb => by
    subst hH2
    rw [c_put_ne (by omega),c_alloc_ne (by omega)]
  have aq : H2.cells q = some cs:=by
    subst hH2
    refine h_put_self (y:=[.sc (.str ⟨#[]⟩),.sc (.bool false),.sc .nils,.sc .nils,.sc .nils,.sc .nils]) ?_
    rw [h_alloc,if_pos hq.symm]
  clear hH2
  have hfl : ∀ b ∈ fp,n + 2 ≤ b∧b < q:=fun b hb => ⟨hF b hb,by have:=hlt b hb; omega⟩
  refine wA_call hg ((hchg H2 q fp (fun b hb => by rw [a0 b (by omega),hK1 b (by omega)]) (by omega) (by omega) (fun h => by have:=hfl _ h; omega) (fun b hb => by have:=hfl b hb; omega) ⟨cs,fp,aq,ho.fr fun b hb => a0 b (hfl b hb).2,fun _ h => h⟩).mono ?_)
  rintro o H3 ⟨v,R',rfl,⟨cs3,fp3,hS3,ho3,hR3⟩,x2,x3,x4⟩
  refine ⟨_,rfl,by simp only [k_nil],?_⟩
  have hfp3 : ∀ b ∈ fp3,n + 2 ≤ b∧b ≠ q:=fun b hb => by
    rcases x2 b (hR3 b hb) with h | h
    · have:=hfl b h; omega
    · omega
  have z1 : H3.cells (n + 1) = _:=((x3 (n + 1) (by omega) (by omega) (fun h => by have:=hfl _ h; omega)).trans (a0 _ (by omega))).trans g1
  have hl3:=ho3.len
  have hl3 : cs3.length = 6:=hl3
  have hcs3 : List.take 6 cs3 = cs3:=List.take_of_length_le (by omega)
  have hle3 : 6 ≤ cs3.length:=by omega
  simp -implicitDefEqProofs (maxDischargeDepth:=12) only [WW,List.replicate,e_splice,if_true,if_false,ite_true,ite_false,true_or,ne_eq,seval,h_putc,beq_self_eq_true,eq_self,exists_eq_left,exists_eq_left',hS3,hcs3,hle3]
  have o1 : Own 20 H3 (.agg cs3) a.enc fp3:=⟨_,rfl,ho3.le fun _ _ _ a => (a.up).mono (by decide)⟩
  have hcl : AV.closedBs cs3 = false:=by
    obtain ⟨v2,v3,v4,v5,f2,f3,f4,f5,rfl,c2,c3,c4,c5,s2,s3,s4,s5⟩:=own6 ho3
    rw [hl] at c2
    simp only [AV.closedBs,AV.closedB,own_some c2,Bool.false_and,Bool.and_false]
  refine wA_pvf h29 (pvf_ownA (fp:=fp3 ++ []) (by simp only [AV.closedBs,AV.closedB,hcl,Bool.false_and]) (.cons o1 .nil Apart.nil_right) (prune_pv hp a ha hT) fun H4 hless => ?_)
  rw [List.append_nil] at hless
  refine ⟨by simp only [k_nil],?_⟩
  have z4:=(cells_of_get (hless (n + 1) (fun h => by have:=hfp3 _ h; omega))).trans z1
  have k4 : Keep n H0 H4:=fun b hb => by rw [cells_of_get (hless b (fun h => by have:=hfp3 _ h; omega)),x3 b (by omega) (by omega) (fun h => by have:=hfl _ h; omega),a0 b (by omega),hK1 b hb]
  simp -implicitDefEqProofs (maxDischargeDepth:=12) only [WW,List.replicate,e_splice,if_true,if_false,ite_true,ite_false,true_or,ne_eq,seval,h_putc,beq_self_eq_true,eq_self,exists_eq_left,exists_eq_left',z4,a.pr.enc_eq]
  exact k4.put (by omega)
theorem own_put {H : AHeap} {q : Nat} {R : List Nat} {a a' : Score} {cs : List AV} {fp : List Nat} {j : Nat} {u u' : AV} (hS : H.cells q = some cs) (ho : OwnL (OwnX false 7) H cs a.enc.cells fp) (hR : ∀ b ∈ fp,b ∈ R) (hq : q ∉ R) (hj : a.enc.cells[j]? = some u) (ha : a'.enc.cells = a.enc.cells.set j u') :
    ∃ v f,cs[j]? = some v∧OwnX false 7 H v u f∧(∀ b ∈ f,b ∈ R)∧∀ (H' : AHeap) v' f',OwnX false 7 H' v' u' f'→(∀ b ∈ R,b ∉ f→H'.cells b = H.cells b)→(∀ b ∈ f',b ∈ f ∨ b ∉ R)→q ∉ f'→H'.cells q = some cs→v'.cells = [v']→OwnScore (H'.put q (some (.cells (cs.set j v')))) q (R ++ f') a':=by
  obtain ⟨v,f,e1,h1,h2,h3⟩:=ho.fit hj
  refine ⟨v,f,e1,h1,fun b hb => hR b (h2 b hb),fun H' v' f' k1 k2 k3 k4 k5 _ => ?_⟩
  obtain ⟨fq,r1,r2⟩:=h3 v' u' H' f' k1 (fun b hb hb2 => k2 b (hR b hb) hb2) (fun b hb => (k3 b hb).imp id fun h h' => h (hR b h'))
  have hfq : ∀ b ∈ fq,b ∈ R ++ f':=fun b hb => by
    rcases r2 b hb with h | h
    · exact List.mem_append.2 (.inr h)
    · exact List.mem_append.2 (.inl (hR b h.1))
  rw [← ha] at r1
  refine ⟨cs.set j v',fq,h_put_self k5,r1.fr fun b hb => c_put_ne fun e => ?_,hfq⟩
  subst e
  rcases List.mem_append.1 (hfq _ hb) with h | h
  · exact hq h
  · exact k4 h
end Go.Hem
namespace Go.Hem
variable {pol : Pol}
theorem ins_del {α : Type} {l el : List α} {i : Nat} (hi : i ≤ l.length) : (l.take i ++ el ++ l.drop i).take i ++ (l.take i ++ el ++ l.drop i).drop (i + el.length) = l:=by
  have hl : (l.take i).length = i:=by simp; omega
  have e1 : (l.take i ++ el ++ l.drop i).take i = l.take i:=by
    rw [List.append_assoc,List.take_left' hl]
  have e2 : (l.take i ++ el ++ l.drop i).drop (i + el.length) = l.drop i:=List.drop_left' (by simp; omega)
  rw [e1,e2,List.take_append_drop]
end Go.Hem
namespace Go.Hem
variable {pol : Pol}
end Go.Hem
namespace Go.Hem
theorem tame_short (s : Score) : Tame s.short:=by
  have e1 : s.short.parts.l = (s.parts.l.take 4).map Part.short:=l_of
  have e2 : s.short.measures.l = (s.measures.l.take 5).map Measure.short:=l_of
  have len_map : ∀ {α : Type} {x : Sl α} {n : Nat},Sl.l (x.map (·.take n)) = x.l.take n:=by intro α x n; cases x <;> simp [Sl.l]
  have e3 : s.short.spanners.l = s.spanners.l.take 6:=len_map
  have mm : ∀ (m : Nat) y,s.short.measures.l[m]? = some y→∃ x : Measure,y = x.short:=by
    intro m y h
    rw [e2,List.getElem?_map] at h
    cases hx : (s.measures.l.take 5)[m]? with
    | none => rw [hx] at h; cases h
    | some x => rw [hx] at h; cases h; exact ⟨x,rfl⟩
  have cc : ∀ (x : Measure) (c : Nat) q,x.short.cells.l[c]? = some q→∃ y : Cell,q = y.short:=by
    intro x c q h
    rw [show x.short.cells.l = (x.cells.l.take 6).map Cell.short from l_of,List.getElem?_map] at h
    cases hx : (x.cells.l.take 6)[c]? with
    | none => rw [hx] at h; cases h
    | some x => rw [hx] at h; cases h; exact ⟨x,rfl⟩
  have vv : ∀ (x : Cell) (c : Nat) q,x.short.voices.l[c]? = some q→∃ y : Voice,q = y.short:=by
    intro x c q h
    rw [show x.short.voices.l = (x.voices.l.take 3).map Voice.short from l_of,List.getElem?_map] at h
    cases hx : (x.voices.l.take 3)[c]? with
    | none => rw [hx] at h; cases h
    | some x => rw [hx] at h; cases h; exact ⟨x,rfl⟩
  have b1 : ∀ x : Measure,x.short.cells.l.length ≤ 6:=fun x => by rw [show x.short.cells.l = (x.cells.l.take 6).map Cell.short from l_of]; simp; omega
  have b2 : ∀ x : Cell,x.short.voices.l.length ≤ 3:=fun x => by rw [show x.short.voices.l = (x.voices.l.take 3).map Voice.short from l_of]; simp; omega
  have b3 : ∀ x : Voice,x.short.events.l.length ≤ 5:=fun x => by rw [show x.short.events.l = (x.events.l.take 5).map Event.short from l_of]; simp; omega
  have b4 : ∀ x : Part,x.short.staves.l.length ≤ 3:=fun x => by rw [show x.short.staves.l = x.staves.l.take 3 from len_map]; simp; omega
  have l1 : ∀ (l : List Staff) st,(objStaves st l).length = l.length:=by intro l; induction l with
    | nil => intro _; rfl
    | cons x l ih => intro st; simp [objStaves,ih]
  have l2 : ∀ (l : List Part) i st,(objParts i st (l.map Part.short)).length ≤ 4 * l.length:=by intro l; induction l with
    | nil => intro _ _; simp [objParts]
    | cons x l ih => intro i st; have:=ih (i + 1) (st + x.short.staves.l.length); have:=b4 x; simp [objParts,l1]; omega
  have l3 : ∀ (l : List Event) m c v e,(objEvents m c v e l).length = l.length:=by intro l; induction l with
    | nil => intro _ _ _ _; rfl
    | cons x l ih => intro m c v e; simp [objEvents,ih]
  have l4 : ∀ (l : List Voice) m c v,(objVoices m c v (l.map Voice.short)).length ≤ 5 * l.length:=by intro l; induction l with
    | nil => intro _ _ _; simp [objVoices]
    | cons x l ih => intro m c v; have:=ih m c (v + 1); have:=b3 x; simp [objVoices,l3]; omega
  have l5 : ∀ (l : List Cell) m c,(objCells m c (l.map Cell.short)).length ≤ 15 * l.length:=by intro l; induction l with
    | nil => intro _ _; simp [objCells]
    | cons x l ih =>
      intro m c; have h1:=ih m (c + 1); have h2:=l4 (x.voices.l.take 3) m c 0
      rw [← show x.short.voices.l = (x.voices.l.take 3).map Voice.short from l_of] at h2
      simp only [List.length_take] at h2
      simp only [List.map_cons,objCells,List.length_append,List.length_cons]; omega
  have l6 : ∀ (l : List Measure) m,(objMeasures m (l.map Measure.short)).length ≤ 91 * l.length:=by intro l; induction l with
    | nil => intro _; simp [objMeasures]
    | cons x l ih =>
      intro m; have h1:=ih (m + 1); have h2:=l5 (x.cells.l.take 6) m 0
      rw [← show x.short.cells.l = (x.cells.l.take 6).map Cell.short from l_of] at h2
      simp only [List.length_take] at h2
      simp only [List.map_cons,objMeasures,List.length_append,List.length_cons]; omega
  have l7 : ∀ (l : List Spanner) i,(objSpanners i l).length = l.length:=by intro l; induction l with
    | nil => intro _; rfl
    | cons x l ih => intro i; simp [objSpanners,ih]
  have b5 : stavesOf s.short.parts.l ≤ 12:=by
    have : ∀ l : List Part,stavesOf (l.map Part.short) ≤ 3 * l.length:=by
      intro l; induction l with
      | nil => simp [stavesOf]
      | cons p l ih =>
        have e : stavesOf ((p :: l).map Part.short) = p.short.staves.l.length + stavesOf (l.map Part.short):=by simp [stavesOf]
        have:=b4 p; simp only [List.length_cons]; omega
    rw [e1]; have:=this (s.parts.l.take 4); simp only [List.length_take] at this; omega
  refine ⟨?_,by omega,by rw [e1]; simp; omega,by rw [e2]; simp; omega,by rw [e3]; simp; omega,?_,?_,?_⟩
  · unfold objs
    have h2:=l2 (s.parts.l.take 4) 0 0
    have h6:=l6 (s.measures.l.take 5) 0
    rw [← e1] at h2
    rw [← e2] at h6
    simp only [List.length_take] at h2 h6
    simp only [List.length_append,l7,e3,List.length_take]; omega
  · intro m y h; obtain ⟨x,rfl⟩:=mm m y h; have:=b1 x; omega
  · intro m y c q h h'; obtain ⟨x,rfl⟩:=mm m y h; obtain ⟨z,rfl⟩:=cc _ _ _ h'; have:=b2 z; omega
  · intro m y c q v z h h' h''; obtain ⟨x,rfl⟩:=mm m y h; obtain ⟨u,rfl⟩:=cc _ _ _ h'; obtain ⟨w,rfl⟩:=vv _ _ _ h''; have:=b3 w; omega
end Go.Hem
namespace Go.Hem
def Voice.small (v : Voice) : Prop:=v.events.l.length ≤ 5∧v.tuplets.l.length ≤ 10∧∀ e ∈ v.events.l,e.tame
def Cell.small (c : Cell) : Prop:=c.clefs.l.length ≤ 10∧c.voices.l.length ≤ 3∧∀ v ∈ c.voices.l,v.small
def Measure.small (m : Measure) : Prop:=m.tempi.l.length ≤ 10∧m.cells.l.length ≤ 50∧∀ c ∈ m.cells.l,c.small
structure Score.small (s : Score) : Prop where
  parts : s.parts.l.length ≤ 40
  staves : ∀ p ∈ s.parts.l,p.staves.l.length ≤ 10
  measures : s.measures.l.length ≤ 20
  meas : ∀ m ∈ s.measures.l,m.small
  spanners : s.spanners.l.length ≤ 10
  last : s.last.l.length ≤ 10
theorem Voice.small.tame {v : Voice} (h : v.small) : v.tame:=⟨by have:=h.1; omega,by have:=h.2.1; omega,h.2.2⟩
theorem Cell.small.tame {v : Cell} (h : v.small) : v.tame:=⟨by have:=h.1; omega,by have:=h.2.1; omega,fun v hv => (h.2.2 v hv).tame⟩
theorem Measure.small.tame {v : Measure} (h : v.small) : v.tame:=⟨by have:=h.1; omega,by have:=h.2.1; omega,fun v hv => (h.2.2 v hv).tame⟩
theorem Score.small.tame {s : Score} (h : s.small) : s.tame:=by
  obtain ⟨h1,h2,h3,h4,h5,h6⟩:=h
  exact ⟨by omega,fun p hp => by have:=h2 p hp; unfold Part.tame; omega,by omega,fun m hm => (h4 m hm).tame,by omega,by omega⟩
theorem len_staves : ∀ (l : List Staff) st,(objStaves st l).length = l.length
  | [],_ => rfl
  | x :: l,st => by simp [objStaves,len_staves l]
theorem len_parts : ∀ (l : List Part) i st,(∀ p ∈ l,p.staves.l.length ≤ 10)→(objParts i st l).length ≤ 11 * l.length
  | [],_,_,_ => by simp [objParts]
  | x :: l,i,st,h => by
    have:=len_parts l (i + 1) (st + x.staves.l.length) fun p hp => h p (by simp [hp])
    have:=h x (by simp)
    simp only [objParts,List.length_cons,List.length_append,len_staves]; omega
theorem len_events : ∀ (l : List Event) m c v e,(objEvents m c v e l).length = l.length
  | [],_,_,_,_ => rfl
  | x :: l,m,c,v,e => by simp [objEvents,len_events l]
theorem len_voices : ∀ (l : List Voice) m c v,(∀ p ∈ l,p.small)→(objVoices m c v l).length ≤ 5 * l.length
  | [],_,_,_,_ => by simp [objVoices]
  | x :: l,m,c,v,h => by
    have:=len_voices l m c (v + 1) fun p hp => h p (by simp [hp])
    have:=(h x (by simp)).1
    simp only [objVoices,List.length_append,List.length_cons,len_events]; omega
theorem len_cells : ∀ (l : List Cell) m c,(∀ p ∈ l,p.small)→(objCells m c l).length ≤ 15 * l.length
  | [],_,_,_ => by simp [objCells]
  | x :: l,m,c,h => by
    have:=len_cells l m (c + 1) fun p hp => h p (by simp [hp])
    obtain ⟨_,h1,h2⟩:=h x (by simp)
    have:=len_voices x.voices.l m c 0 h2
    simp only [objCells,List.length_append,List.length_cons]; omega
theorem len_measures : ∀ (l : List Measure) m,(∀ p ∈ l,p.small)→(objMeasures m l).length ≤ 751 * l.length
  | [],_,_ => by simp [objMeasures]
  | x :: l,m,h => by
    have:=len_measures l (m + 1) fun p hp => h p (by simp [hp])
    obtain ⟨_,h1,h2⟩:=h x (by simp)
    have:=len_cells x.cells.l m 0 h2
    simp only [objMeasures,List.length_append,List.length_cons]; omega
theorem len_spanners : ∀ (l : List Spanner) i,(objSpanners i l).length = l.length
  | [],_ => rfl
  | x :: l,i => by simp [objSpanners,len_spanners l]
theorem staves_le : ∀ l : List Part,(∀ p ∈ l,p.staves.l.length ≤ 10)→stavesOf l ≤ 10 * l.length
  | [],_ => by simp [stavesOf]
  | p :: l,h => by
    have:=staves_le l fun q hq => h q (by simp [hq])
    have:=h p (by simp)
    have e : stavesOf (p :: l) = p.staves.l.length + stavesOf l:=by simp [stavesOf]
    simp only [List.length_cons]; omega
theorem Score.small.Tame {s : Score} (h : s.small) : Tame s:=by
  obtain ⟨h1,h2,h3,h4,h5,h6⟩:=h
  refine ⟨?_,by have:=staves_le _ h2; omega,by omega,by omega,by omega,fun m y hy => ?_,fun m y c q hy hq => ?_,fun m y c q v z hy hq hz => ?_⟩
  · have:=len_parts _ 0 0 h2
    have:=len_measures _ 0 h4
    have:=len_spanners s.spanners.l 0
    simp only [objs,List.length_append]; omega
  · have:=(h4 y (List.mem_of_getElem? hy)).2.1; omega
  · have:=((h4 y (List.mem_of_getElem? hy)).2.2 q (List.mem_of_getElem? hq)).2.1; omega
  · have:=(((h4 y (List.mem_of_getElem? hy)).2.2 q (List.mem_of_getElem? hq)).2.2 z (List.mem_of_getElem? hz)).1; omega
theorem Voice.small_short (v : Voice) : v.short.small:=by
  have e : v.short.events.l = (v.events.l.take 5).map Event.short:=l_of
  have e2 : v.short.tuplets.l = v.tuplets.l.take 3:=sl_take_len
  refine ⟨by rw [e]; simp; omega,by rw [e2]; simp; omega,fun x hx => ?_⟩
  rw [e] at hx
  obtain ⟨w,_,rfl⟩:=List.mem_map.1 hx
  exact w.tame_short
theorem Cell.small_short (v : Cell) : v.short.small:=by
  have e : v.short.voices.l = (v.voices.l.take 3).map Voice.short:=l_of
  have e2 : v.short.clefs.l = v.clefs.l.take 3:=sl_take_len
  refine ⟨by rw [e2]; simp; omega,by rw [e]; simp; omega,fun x hx => ?_⟩
  rw [e] at hx
  obtain ⟨w,_,rfl⟩:=List.mem_map.1 hx
  exact w.small_short
theorem Measure.small_short (v : Measure) : v.short.small:=by
  have e : v.short.cells.l = (v.cells.l.take 6).map Cell.short:=l_of
  have e2 : v.short.tempi.l = v.tempi.l.take 3:=sl_take_len
  refine ⟨by rw [e2]; simp; omega,by rw [e]; simp; omega,fun x hx => ?_⟩
  rw [e] at hx
  obtain ⟨w,_,rfl⟩:=List.mem_map.1 hx
  exact w.small_short
theorem Score.small_short (s : Score) : s.short.small:=by
  have e1 : s.short.parts.l = (s.parts.l.take 4).map Part.short:=l_of
  have e2 : s.short.measures.l = (s.measures.l.take 5).map Measure.short:=l_of
  have e3 : s.short.spanners.l = s.spanners.l.take 6:=sl_take_len
  have e4 : s.short.last.l = s.last.l.take 4:=sl_take_len
  refine ⟨by rw [e1]; simp; omega,fun p hp => ?_,by rw [e2]; simp; omega,fun m hm => ?_,by rw [e3,List.length_take]; omega,by rw [e4,List.length_take]; omega⟩
  · rw [e1] at hp
    obtain ⟨w,_,rfl⟩:=List.mem_map.1 hp
    have : w.short.staves.l = w.staves.l.take 3:=sl_take_len
    rw [this,List.length_take]; omega
  · rw [e2] at hm
    obtain ⟨w,_,rfl⟩:=List.mem_map.1 hm
    exact w.small_short
theorem Voice.small_cl {v : Voice} (h : v.small) : v.cl.small:=by
  obtain ⟨h1,h2,h3⟩:=h
  have e1 : v.cl.events.l = v.events.l:=l_of
  have e2 : v.cl.tuplets.l = v.tuplets.l:=l_of
  exact ⟨by rw [e1]; exact h1,by rw [e2]; exact h2,by rw [e1]; exact h3⟩
theorem Cell.small_cl {v : Cell} (h : v.small) : v.cl.small:=by
  obtain ⟨h1,h2,h3⟩:=h
  have e1 : v.cl.voices.l = v.voices.l.map Voice.cl:=l_of
  refine ⟨h1,by rw [e1,List.length_map]; exact h2,fun x hx => ?_⟩
  rw [e1] at hx
  obtain ⟨w,hw,rfl⟩:=List.mem_map.1 hx
  exact Voice.small_cl (h3 w hw)
theorem Measure.small_cl {v : Measure} (h : v.small) : v.cl.small:=by
  obtain ⟨h1,h2,h3⟩:=h
  have e1 : v.cl.cells.l = v.cells.l.map Cell.cl:=l_of
  refine ⟨h1,by rw [e1,List.length_map]; exact h2,fun x hx => ?_⟩
  rw [e1] at hx
  obtain ⟨w,hw,rfl⟩:=List.mem_map.1 hx
  exact Cell.small_cl (h3 w hw)
theorem Score.small_cl {v : Score} (h : v.small) : v.cl.small:=by
  obtain ⟨h1,h2,h3,h4,h5,h6⟩:=h
  have e1 : v.cl.measures.l = v.measures.l.map Measure.cl:=rfl
  refine ⟨h1,h2,by rw [e1,List.length_map]; exact h3,fun x hx => ?_,h5,h6⟩
  rw [e1] at hx
  obtain ⟨w,hw,rfl⟩:=List.mem_map.1 hx
  exact Measure.small_cl (h4 w hw)
theorem Score.small_pr {v : Score} (h : v.small) : v.pr.small:=by
  obtain ⟨h1,h2,h3,h4,h5,h6⟩:=Score.small_cl h
  refine ⟨h1,h2,h3,h4,?_,h6⟩
  have e1 : v.pr.spanners.l = v.spanners.l.filter fun x => isEv (objs v) x.from_ && isEv (objs v) x.to:=by
    show Sl.l (v.spanners.map _) = _
    cases v.spanners <;> rfl
  rw [e1]
  exact Nat.le_trans (List.length_filter_le _ _) h5
theorem Score.small_none : Score.none.small:=by
  refine ⟨by decide,fun p hp => ?_,by decide,fun p hp => ?_,by decide,by decide⟩
  · simp [Score.none,Sl.l] at hp
  · simp [Score.none,Sl.l] at hp
theorem objVoices_cn (m c : Nat) : ∀ (l : List Voice) (v : Nat),objVoices m c v (l.map Voice.cn) = objVoices m c v l
  | [],_ => rfl
  | x :: l,v => by
    have e : x.cn.events.l = x.events.l.map Event.cn:=l_of
    have e2 : ∀ (l : List Event) i,objEvents m c v i (l.map Event.cn) = objEvents m c v i l:=by
      intro l
      induction l with
      | nil => intro i; rfl
      | cons y l ih => intro i; simp only [List.map_cons,objEvents,ih]; rfl
    simp only [List.map_cons,objVoices,objVoices_cn m c l,e,e2]
theorem objCells_cn (m : Nat) : ∀ (l : List Cell) (c : Nat),objCells m c (l.map Cell.cn) = objCells m c l
  | [],_ => rfl
  | x :: l,c => by
    have e : x.cn.voices.l = x.voices.l.map Voice.cn:=l_of
    simp only [List.map_cons,objCells,objCells_cn m l,e,objVoices_cn]
theorem objMeasures_cn : ∀ (l : List Measure) (m : Nat),objMeasures m (l.map Measure.cn) = objMeasures m l
  | [],_ => rfl
  | x :: l,m => by
    have e : x.cn.cells.l = x.cells.l.map Cell.cn:=l_of
    have e2 : oMeasure m x.cn = oMeasure m x:=rfl
    simp only [List.map_cons,objMeasures,objMeasures_cn l,e,e2,objCells_cn]
theorem objParts_cn : ∀ (l : List Part) (i st : Nat),objParts i st (l.map Part.cn) = objParts i st l
  | [],_,_ => rfl
  | x :: l,i,st => by
    have e : x.cn.staves.l = x.staves.l:=l_of
    have e2 : oPart i x.cn = oPart i x:=rfl
    simp only [List.map_cons,objParts,objParts_cn l,e,e2]
theorem objs_cn (s : Score) : objs s.cn = objs s:=by
  have e : s.cn.measures.l = s.measures.l.map Measure.cn:=l_of
  have e2 : s.cn.parts.l = s.parts.l.map Part.cn:=l_of
  have e3 : s.cn.spanners.l = s.spanners.l:=l_of
  unfold objs
  rw [e,e2,e3,objMeasures_cn,objParts_cn]
theorem pruned_cn (a : Score) : a.pruned.cn = { a.cn with spanners:=Sl.of (a.cn.spanners.l.filter fun p => isEv (objs a.cn) p.from_ && isEv (objs a.cn) p.to) }:=by
  have e3 : a.cn.spanners.l = a.spanners.l:=l_of
  have e4 : a.pruned.spanners.l = a.spanners.l.filter fun p => isEv (objs a) p.from_ && isEv (objs a) p.to:=l_of
  rw [objs_cn,e3]
  unfold Score.cn
  rw [e4]; rfl
theorem pruned_congr {a b : Score} (h : a.cn = b.cn) : a.pruned.cn = b.pruned.cn:=by rw [pruned_cn,pruned_cn,h]
theorem map_cl_cn2 (l : List Cell) : (l.map Cell.cl).map Cell.cn = l.map Cell.cn:=by
  rw [List.map_map]; congr 1; funext v; exact v.cl_cn
end Go.Hem
namespace Go.Hem
variable {pol : Pol}
def pures9 : List Nat:=[29,30,32,42,43,44,45,52] ++ pures8
def Cell.none : Cell:=⟨Option.none,Option.none⟩
def Measure.first (m : Measure) : Cell:=(m.cells.l[0]?).getD Cell.none
end Go.Hem
namespace Go.Hem
end Go.Hem
namespace Go.Hem
variable {pol : Pol}
theorem app_fr {P : Program} {K : AHeap→Prop} {H : AHeap} {Q : AV→AHeap→Prop} {n bytes : Nat} {v x : AV} (h : wpOpt P pol (fun H' => H'.fr = H.fr→K H') H (fun v H' => H'.fr = H.fr→Q v H') (appTo n bytes H v x)) : wpOpt P pol K H Q (appTo n bytes H v x):=by
  unfold appTo at h ⊢
  cases hm : alen x with
  | none => rw [hm] at h; exact h.elim
  | some m =>
    rw [hm,Option.bind_some] at h
    rw [Option.bind_some]
    cases hx : asrc n H x m with
    | none => rw [hx] at h; exact h.elim
    | some xs =>
      rw [hx,Option.bind_some] at h
      rw [Option.bind_some]
      cases v <;> try exact h.elim
      case sc s =>
        cases s <;> try exact h.elim
        simp only at h ⊢
        split at h
        · rename_i h0; rw [if_pos h0]; exact h rfl
        · rename_i h0; rw [if_neg h0]
          split at h
          · rename_i h1; rw [if_pos h1]; exact h rfl
          · exact h.elim
      case slice b off len cap n' =>
        simp only at h ⊢
        cases hc : H.cells b with
        | none => rw [hc] at h; exact h.elim
        | some cs =>
          rw [hc,Option.bind_some] at h
          rw [Option.bind_some]
          split at h
          · exact h.elim
          rename_i h0; rw [if_neg h0]
          split at h
          · rename_i h1; rw [if_pos h1]
            split at h
            · rename_i h2; rw [if_pos h2]
              exact ⟨h.1 (AHeap.fr_put _ _ _),h.2 (AHeap.fr_put _ _ _)⟩
            · exact h.elim
          · rename_i h1; rw [if_neg h1]
            split at h
            · rename_i h2; rw [if_pos h2]
              have e : ∀ z,((H.put b none).alloc (.cells z)).fr = H.fr:=fun z => by rw [AHeap.fr_alloc,AHeap.fr_put]
              exact ⟨h.1 (e _),h.2 (e _)⟩
            · exact h.elim
theorem wA_app3F {α : Type} {f : α→AV} {I : Bool} {d n bytes : Nat} {P : Program} {pol : Pol} {is : List CI} {dst : Option Tmp} {rd : List COp} {R : List AV→AHeap→Prop} {y : AV} {t : List AV} {H : AHeap} {v x : AV} {l : List α} {fp fp1 : List Nat} {ys : List α} {cs1 : List AV}
    (hf : RowOf n f) (h : AccX I d n f H v (some l) fp) (hm : alen x = some ys.length) (hx : asrc n H x ys.length = some cs1)
    (ho : OwnL (OwnX I d) H cs1 (ys.flatMap fun y => (f y).cells) fp1) (ha : Apart fp fp1) (hb : (2 * (l.length + ys.length) + 1000) * bytes ≤ 2 ^ 47)
    (k : ∀ v' H' fp',AccX I d n f H' v' (some (l ++ ys)) fp'→H.next ≤ H'.next→(∀ b,b ∉ fp→b < H.next→H'.cells b = H.cells b)→(∀ b ∈ fp',b ∈ fp ∨ b ∈ fp1 ∨ H.next ≤ b)→v'.one = true→v'.cells = [v']→H'.fr = H.fr →
      reK P (y :: t) H rd H'∧wpIns P pol is (putT (y :: t) dst v') H' R) :
    wA P pol rd is dst (y :: t) H R (some true) (appTo n bytes H v x):=by
  by_cases hy : ys = []
  · subst hy
    have hl1 : cs1 = []:=List.length_eq_zero_iff.1 (by rw [ho.len]; rfl)
    subst hl1
    have hx' : asrc n H x 0 = some []:=hx
    have hm' : alen x = some 0:=hm
    have hA:=h
    have h2:=hA
    rcases h2 with ⟨_,h1,_⟩ | ⟨b,cap,cs,rest,fp',l',h1,rfl,h3,h4,h5,h6,h7,h8,rfl⟩
    · cases h1
    cases h1
    have e : appTo n bytes H (.slice b 0 l.length cap n) x = some (.mem (.slice b 0 l.length cap n) b (cs ++ rest)):=by
      simp only [appTo,hm',hx',Option.bind_some,h4,ne_eq,not_true,if_false,Nat.add_zero,if_pos h3]
      rw [if_pos (by
        have e1 : (cap - l.length) * n = cap * n - l.length * n:=Nat.sub_mul _ _ _
        simp only [List.length_append]; omega)]
      simp [splice]
    have hs : ∀ c,(H.put b (some (.cells (cs ++ rest)))).cells c = H.cells c:=fun c => by
      by_cases hc : c = b
      · subst hc; rw [h_put_self h4,h4]
      · rw [h_put_ne hc]
    have:=k _ (H.put b (some (.cells (cs ++ rest)))) (b :: fp') (by rw [List.append_nil]; exact hA.fr fun c _ => hs c) (by simp) (fun c _ hc => hs c) (fun c hc => .inl hc) hA.one hA.cells (AHeap.fr_put _ _ _)
    rw [e,wA_mem]
    exact this
  · show wpOpt P pol _ H _ (appTo n bytes H v x)
    refine app_fr (AccX.app hf h hy hm hx ho ha hb fun v' H' fp' a1 a2 a3 a4 => ?_)
    have:=fun hfr => k v' H' fp' a1 a2 (fun b h1 h2 => cells_of_get (a3 b h1 h2)) a4 a1.one a1.cells hfr
    exact ⟨fun hfr => (this hfr).1,fun hfr => (this hfr).2⟩
def OwnR {α : Type} (f : α→AV) (n : Nat) (H : AHeap) (v : AV) (l : List α) : Prop:=(l = []∧v = .sc .nils) ∨ ∃ b cap,v = .slice b 0 l.length cap n∧Fzn H b (l.flatMap fun x => (f x).cells)
theorem OwnR.len {α : Type} {f : α→AV} {n : Nat} {H : AHeap} {v : AV} {l : List α} (h : OwnR f n H v l) : lenOf v = some (.sc (.int .i64 l.length))∧alen v = some l.length:=by
  rcases h with ⟨rfl,rfl⟩ | ⟨b,cap,rfl,_⟩ <;> exact ⟨rfl,rfl⟩
theorem OwnR.src {α : Type} {f : α→AV} {n : Nat} {H : AHeap} {v : AV} {l : List α} (row : RowOf n f) (h : OwnR f n H v l) : asrc n H v l.length = some (l.flatMap fun x => (f x).cells):=by
  rcases h with ⟨rfl,rfl⟩ | ⟨b,cap,rfl,hz⟩
  · rfl
  · simp only [asrc,hz.rd,Option.bind_some,Nat.zero_add,List.drop_zero]
    have:=flat_len row l
    rw [if_pos ⟨Nat.le_refl _,by omega⟩,List.take_of_length_le (by omega)]
theorem OwnR.alloc {α : Type} {f : α→AV} {n : Nat} {H : AHeap} {v : AV} {l : List α} {x : Blk} (h : OwnR f n H v l) : OwnR f n (H.alloc x) v l:=by
  rcases h with h | ⟨b,cap,h1,h2⟩
  · exact .inl h
  · exact .inr ⟨b,cap,h1,h2.alloc⟩
theorem OwnR.put {α : Type} {f : α→AV} {n c : Nat} {H : AHeap} {v : AV} {l : List α} {x : Option Blk} (h : OwnR f n H v l) (hc : (H.cells c).isSome = true) : OwnR f n (H.put c x) v l:=by
  rcases h with h | ⟨b,cap,h1,h2⟩
  · exact .inl h
  · exact .inr ⟨b,cap,h1,h2.put fun e => by subst e; rw [h2.2.1] at hc; cases hc⟩
theorem OwnR.lf {α : Type} {f : α→AV} {n : Nat} {H H1 : AHeap} {v : AV} {l : List α} (h : OwnR f n H v l) (k : LF H H1) : OwnR f n H1 v l:=by
  rcases h with h | ⟨b,cap,h1,h2⟩
  · exact .inl h
  · exact .inr ⟨b,cap,h1,h2.lf k⟩
theorem OwnR.to {α : Type} {f : α→AV} {n : Nat} {H H1 : AHeap} {v : AV} {l : List α} {fp : List Nat} (h : OwnR f n H v l) (hfr : H1.fr = H.fr) (hn : H.next ≤ H1.next) (hk : ∀ b,b ∉ fp→b < H.next→H1.cells b = H.cells b) (hfp : ∀ b ∈ fp,(H.cells b).isSome = true) : OwnR f n H1 v l:=by
  rcases h with h | ⟨b,cap,h1,h2⟩
  · exact .inl h
  · have hb : b ∉ fp:=fun hb => by have:=hfp b hb; rw [h2.2.1] at this; cases this
    exact .inr ⟨b,cap,h1,by have:=h2.1; omega,by rw [hk b hb h2.1]; exact h2.2.1,by rw [hfr]; exact h2.2.2⟩
end Go.Hem
namespace Go.Hem
theorem splice_in {ds : List AV} {o n j : Nat} {w : AV} (h : o + n ≤ ds.length) (hj : j < n) : splice ds (o + j) [w] = splice ds o (((ds.drop o).take n).set j w):=by
  have hl : (((ds.drop o).take n).set j w).length = n:=by simp; omega
  apply List.ext_getElem?
  intro k
  have e1 : (splice ds (o + j) [w]).length = ds.length:=splice_len2 (by simp; omega)
  have e2 : (splice ds o (((ds.drop o).take n).set j w)).length = ds.length:=splice_len2 (by omega)
  by_cases hk : k < ds.length
  · have g : ∀ (xs : List AV) (p : Nat),p + xs.length ≤ ds.length→(splice ds p xs)[k]? = if k < p then ds[k]? else if k < p + xs.length then xs[k - p]? else ds[k]?:=by
      intro xs p hp
      unfold splice
      by_cases c1 : k < p
      · rw [if_pos c1,List.append_assoc,List.getElem?_append_left (by simp; omega),List.getElem?_take_of_lt c1]
      · rw [if_neg c1]
        by_cases c2 : k < p + xs.length
        · rw [if_pos c2,List.getElem?_append_left (by simp; omega),List.getElem?_append_right (by simp; omega)]
          congr 1; simp; omega
        · rw [if_neg c2,List.getElem?_append_right (by simp; omega),List.getElem?_drop]
          congr 1; simp; omega
    have hT : ((ds.drop o).take n).length = n:=by simp; omega
    rw [g [w] (o + j) (by simp; omega),g _ o (by omega),hl]
    simp only [List.length_cons,List.length_nil,Nat.zero_add]
    by_cases c1 : k < o
    · rw [if_pos (show k < o + j by omega),if_pos c1]
    rw [if_neg c1]
    by_cases c2 : k < o + n
    · rw [if_pos c2,List.getElem?_set]
      by_cases c3 : k = o + j
      · subst c3
        rw [if_neg (show ¬ o + j < o + j by omega),if_pos (show o + j < o + j + 1 by omega),if_pos (show j = o + j - o by omega),if_pos (by rw [hT]; exact hj)]
        simp
      · rw [if_neg (show ¬ j = k - o by omega),List.getElem?_take_of_lt (by omega),List.getElem?_drop,show o + (k - o) = k by omega]
        by_cases c4 : k < o + j
        · rw [if_pos c4]
        · rw [if_neg c4,if_neg (show ¬ k < o + j + 1 by omega)]
    · rw [if_neg c2,if_neg (show ¬ k < o + j by omega),if_neg (show ¬ k < o + j + 1 by omega)]
  · rw [List.getElem?_eq_none (by omega),List.getElem?_eq_none (by omega)]
theorem slot_put {α : Type} {f : α→AV} {d n i j : Nat} {H : AHeap} {v u : AV} {s : Sl α} {fp : List Nat} {x : α} (row : RowOf n f) (hn1 : n ≠ 1) (h : OwnX false (d + 2) H v (slm f s) fp) (hi : s.l[i]? = some x) (hj : (f x).cells[j]? = some u) :
    ∃ b off cap ds w fw,v = .slice b off s.l.length cap n∧H.cells b = some ds∧off + i * n + j + 1 ≤ ds.length∧b ∈ fp∧ds[off + i * n + j]? = some w∧OwnX false (d + 1) H w u fw∧(∀ c ∈ fw,c ∈ fp∧c ≠ b) ∧
      ∀ (x' : α) u',(f x').cells = (f x).cells.set j u'→∀ H' w' f',OwnX false (d + 1) H' w' u' f'→H'.cells b = some (splice ds (off + i * n + j) [w'])→(∀ c ∈ fp,c ≠ b→c ∉ fw→H'.cells c = H.cells c)→(∀ c ∈ f',c ∈ fw ∨ c ∉ fp)→b ∉ f' →
        ∃ fp',OwnX false (d + 2) H' v (slm f (some (s.l.set i x'))) fp'∧∀ c ∈ fp',c ∈ fp ∨ c ∈ f':=by
  obtain ⟨b,off,cap,ds,fp2,h1,h2,h3,h4,h5,h6,h7,h8⟩:=own_elem_fit row hn1 h hi
  obtain ⟨w,fw,e1,k1,k2,k3⟩:=h7.fit hj
  have hjn : j < n:=by
    have:=(List.getElem?_eq_some_iff.1 hj).1
    rw [(row.2 x).1] at this; exact this
  have ew : ds[off + i * n + j]? = some w:=by
    rw [List.getElem?_take_of_lt hjn,List.getElem?_drop] at e1
    exact e1
  refine ⟨b,off,cap,ds,w,fw,h1,h2,by omega,h4,ew,k1,fun c hc => ⟨h6 c (k2 c hc),fun e => h5 (e ▸ k2 c hc)⟩,fun x' u' hx' H' w' f' a1 a2 a3 a4 a5 => ?_⟩
  obtain ⟨fq,r1,r2⟩:=k3 w' u' H' f' a1 (fun c hc hc2 => a3 c (h6 c hc) (fun e => h5 (e ▸ hc)) hc2) (fun c hc => (a4 c hc).imp id fun h h' => h (h6 c h'))
  rw [← hx'] at r1
  have hbq : b ∉ fq:=fun hb => by
    rcases r2 b hb with h | h
    · exact a5 h
    · exact h5 h.1
  obtain ⟨fp',q1,q2⟩:=h8 x' H' (b :: fq) ⟨_,fq,by rw [a2,splice_in h3 hjn],by simp; omega,r1,hbq,rfl⟩ (fun c hc hc2 => a3 c hc (fun e => hc2 (by simp [e])) (fun hw => hc2 (by simp [k2 c hw]))) (fun c hc => by
    rcases List.mem_cons.1 hc with rfl | hc
    · exact .inl (by simp)
    · rcases r2 c hc with h | h
      · rcases a4 c h with h | h
        · exact .inl (by simp [k2 c h])
        · exact .inr h
      · exact .inl (by simp [h.1]))
  refine ⟨fp',q1,fun c hc => ?_⟩
  rcases q2 c hc with h | h
  · rcases List.mem_cons.1 h with rfl | h
    · exact .inl h4
    · rcases r2 c h with h | h
      · exact .inr h
      · exact .inl (h6 c h.1)
  · exact .inl h.1
end Go.Hem
namespace Go.Hem
variable {pol : Pol}
theorem ins76 : insB prog 76 = true:=by decide +kernel
theorem ins77 : insB prog 77 = true:=by decide +kernel
abbrev rowE (r : Sl Cell) : AV:=slm Cell.enc r
theorem rowE_c (r : Sl Cell) : (rowE r).cells = [rowE r]:=by cases r <;> rfl
theorem rowE_closed (r : Sl Cell) : AV.closedB (rowE r) = true:=closedB_slm Cell.enc_closed
def badR (n : Nat) (r : Sl Cell) : Bool:=!decide (r.l.length = n)
theorem rne74 {H : AHeap} {b : Nat} {p : Part} (hb : H.cells b = some p.enc.cells) (r : Sl Cell) :
    Ev prog pol (.call 74 [rowE r,.ptr b 0]) H fun o H' => o = .val (.sc (.bool (badR p.staves.l.length r)))∧Keep H.next H H'∧H.next ≤ H'.next:=by
  refine (wpF_ok ok74 (Q:=fun v H' => v = .sc (.bool (badR p.staves.l.length r))∧Keep H.next H H'∧H.next ≤ H'.next) ?_).mono ?_
  rotate_left
  · rintro o H' ⟨v,rfl,rfl,h⟩
    exact ⟨rfl,h⟩
  simp only [p.enc_eq,c_agg] at hb
  by_cases h1 : r.l.length = p.staves.l.length
  · have hbm : badR p.staves.l.length r = false:=by simp [badR,h1]
    have h2 : (r.l.length : Int) = (p.staves.l.length : Int):=by omega
    rw [hbm]
    simp -implicitDefEqProofs (maxDischargeDepth:=12) only [wpF,cf74,WW,List.replicate,e_splice,if_true,if_false,ite_true,ite_false,true_or,ne_eq,seval,h_putc,beq_self_eq_true,eq_self,exists_eq_left,exists_eq_left',hb,h2]
    exact Keep.refl
  · have hbm : badR p.staves.l.length r = true:=by simp [badR,h1]
    have h2 : ¬ (r.l.length : Int) = (p.staves.l.length : Int):=by omega
    rw [hbm]
    simp -implicitDefEqProofs (maxDischargeDepth:=12) only [wpF,cf74,WW,List.replicate,e_splice,if_true,if_false,ite_true,ite_false,true_or,ne_eq,seval,h_putc,beq_self_eq_true,eq_self,exists_eq_left,exists_eq_left',hb,h2]
    exact Keep.refl
theorem index_rows {H0 : AHeap} {bq : Nat} {p : Part} {s : Sl (Sl Cell)} (hp : pol.pure 74 = false) (hq : H0.cells bq = some p.enc.cells) (hl : s.l.length < 1000000) :
    Ev prog pol (.call 116 [slm rowE s,.func (.func 74) [] [.ptr bq 0]]) H0 fun o H' => o = .val (idxAV (s.l.findIdx? (badR p.staves.l.length)))∧Keep H0.next H0 H'∧H0.next ≤ H'.next:=by
  refine (wpF_ok ok116 (Q:=fun v H' => v = idxAV (s.l.findIdx? (badR p.staves.l.length))∧Keep H0.next H0 H'∧H0.next ≤ H'.next) ?_).mono ?_
  rotate_left
  · rintro o H' ⟨v,rfl,rfl,h⟩
    exact ⟨rfl,h⟩
  have b2:=h_lt hq
  simp -implicitDefEqProofs (maxDischargeDepth:=12) only [wpF,cf116,WW,List.replicate,e_splice,if_true,if_false,ite_true,ite_false,true_or,ne_eq,seval,h_putc,beq_self_eq_true,eq_self,exists_eq_left,exists_eq_left']
  refine wp_loop (Inv:=fun k t H => ∃ (i : Nat),i + k = s.l.length∧Keep H0.next H0 H∧H0.next ≤ H.next∧(∀ j x,j < i→s.l[j]? = some x→badR p.staves.l.length x = false) ∧
    ∃ x : Nat→AV,t = [slm rowE s,.func (.func 74) [] [.ptr bq 0],x 2,x 3,.sc (.int .i64 0),x 5,slm rowE s,.sc (.int .i64 s.l.length),.sc (.int .i64 i),x 9,x 10,x 11,x 12,x 13,x 14,x 15,x 16,x 17,x 18]) (k:=s.l.length) ?_
    ⟨0,by omega,Keep.refl,Nat.le_refl _,by simp,ex_x rfl⟩
  rintro k t H ⟨i,hk,hK,hn,hbad,x,rfl⟩
  have c2:=hK.cells hq b2
  by_cases h1 : (i : Int) < (s.l.length : Int)
  · obtain ⟨y,hy⟩ : ∃ y,s.l[i]? = some y:=⟨_,List.getElem?_eq_getElem (by omega)⟩
    have e2 : IntKind.i64.wrap ((i : Int) + 1) = ((i + 1 : Nat) : Int):=by rw [w64 (by omega) (by omega)]; omega
    have h1n : i < s.l.length:=by omega
    simp -implicitDefEqProofs (maxDischargeDepth:=12) only [WW,List.replicate,e_splice,if_true,if_false,ite_true,ite_false,true_or,ne_eq,seval,h_putc,beq_self_eq_true,eq_self,exists_eq_left,exists_eq_left',h1,h1n,hy,rowE_c]
    rw [show callvOf prog (.func (.func 74) [] [.ptr bq 0]) [rowE y] = some (.call 74 [rowE y,.ptr bq 0]) from rfl]
    refine wA_call hp ((rne74 c2 y).mono fun o H' h => ?_)
    obtain ⟨rfl,hK2,hn2⟩:=h
    refine ⟨_,rfl,by simp only [k_nil],?_⟩
    have hK3 : Keep H0.next H0 H':=hK.trans (hK2.le hn)
    cases hbb : badR p.staves.l.length y with
    | true =>
      have hyes : s.l.findIdx? (badR p.staves.l.length) = some i:=by
        rw [List.findIdx?_eq_some_iff_getElem]
        refine ⟨h1n,by rw [(List.getElem?_eq_some_iff.1 hy).2]; exact hbb,fun j hj => ?_⟩
        have:=hbad j (s.l[j]'(by omega)) hj (List.getElem?_eq_getElem (by omega))
        simp [this]
      simp -implicitDefEqProofs (maxDischargeDepth:=12) only [WW,List.replicate,e_splice,if_true,if_false,ite_true,ite_false,true_or,ne_eq,seval,h_putc,beq_self_eq_true,eq_self,exists_eq_left,exists_eq_left',e2]
      exact ⟨by rw [hyes]; rfl,hK3,by omega⟩
    | false =>
      simp -implicitDefEqProofs (maxDischargeDepth:=12) only [WW,List.replicate,e_splice,if_true,if_false,ite_true,ite_false,true_or,ne_eq,seval,h_putc,beq_self_eq_true,eq_self,exists_eq_left,exists_eq_left',e2]
      refine ⟨k - 1,by omega,i + 1,by omega,hK3,by omega,fun j z hj hz => ?_,ex_x rfl⟩
      by_cases hji : j = i
      · subst hji; rw [hy] at hz; cases hz; exact hbb
      · exact hbad j z (by omega) hz
  · simp -implicitDefEqProofs (maxDischargeDepth:=12) only [WW,List.replicate,e_splice,if_true,if_false,ite_true,ite_false,true_or,ne_eq,seval,h_putc,beq_self_eq_true,eq_self,exists_eq_left,exists_eq_left',h1]
    have hno : s.l.findIdx? (badR p.staves.l.length) = none:=by
      rw [List.findIdx?_eq_none_iff]
      intro z hz
      obtain ⟨j,hj⟩:=List.getElem?_of_mem hz
      have:=(List.getElem?_eq_some_iff.1 hj).1
      exact hbad j z (by omega) hj
    exact ⟨by rw [hno]; rfl,hK,hn⟩
theorem cont_rows {H0 : AHeap} {bq : Nat} {p : Part} {s : Sl (Sl Cell)} (h116 : pol.pure 116 = false) (hp : pol.pure 74 = false) (hq : H0.cells bq = some p.enc.cells) (hl : s.l.length < 1000000) :
    Ev prog pol (.call 73 [slm rowE s,.func (.func 74) [] [.ptr bq 0]]) H0 fun o H' => o = .val (.sc (.bool (s.l.any (badR p.staves.l.length))))∧Keep H0.next H0 H'∧H0.next ≤ H'.next:=by
  refine (wpF_ok ok73 (Q:=fun v H' => v = .sc (.bool (s.l.any (badR p.staves.l.length)))∧Keep H0.next H0 H'∧H0.next ≤ H'.next) ?_).mono ?_
  rotate_left
  · rintro o H' ⟨v,rfl,rfl,h⟩
    exact ⟨rfl,h⟩
  simp -implicitDefEqProofs (maxDischargeDepth:=12) only [wpF,cf73,WW,List.replicate,e_splice,if_true,if_false,ite_true,ite_false,true_or,ne_eq,seval,h_putc,beq_self_eq_true,eq_self,exists_eq_left,exists_eq_left']
  refine wA_call h116 ((index_rows hp hq hl).mono fun o H' h => ?_)
  obtain ⟨rfl,hK,hn⟩:=h
  refine ⟨_,rfl,by simp only [k_nil],?_⟩
  rcases idx_any (l:=s.l) (p:=badR p.staves.l.length) with ⟨i,h1,h2⟩ | ⟨h1,h2⟩
  · have h0 : (0 : Int) ≤ (i : Int):=by omega
    rw [h1,h2]
    simp -implicitDefEqProofs (maxDischargeDepth:=12) only [idxAV,WW,List.replicate,e_splice,if_true,if_false,ite_true,ite_false,true_or,ne_eq,seval,h_putc,beq_self_eq_true,eq_self,exists_eq_left,exists_eq_left',h0]
    exact ⟨hK,hn⟩
  · rw [h1,h2]
    simp -implicitDefEqProofs (maxDischargeDepth:=12) only [idxAV,WW,List.replicate,e_splice,if_true,if_false,ite_true,ite_false,true_or,ne_eq,seval,h_putc,beq_self_eq_true,eq_self,exists_eq_left,exists_eq_left']
    exact ⟨hK,hn⟩
def IpPol (pol : Pol) : Prop:=ClPol pol∧WhPol pol∧pol.pure 72 = true∧pol.pure 73 = false∧pol.pure 74 = false∧pol.pure 116 = false∧pol.pure 76 = false∧pol.pure 77 = false∧pol.eff = insPol
def Measure.insC (m : Measure) (i : Nat) (el : List Cell) : Measure:={ m with cells:=m.cells.ins i el }
def insNew (first : Nat) (m : Measure) (r : Sl Cell) : Measure:=m.cl.insC first (r.l.map Cell.cl)
def Score.firstOf (s : Score) (at_ : Nat) : Nat:=stavesOf (s.parts.l.take at_)
def Score.insP (s : Score) (at_ : Nat) (p : Part) (cells : Sl (Sl Cell)) : Score :=
  { s.cl with parts:=s.cl.parts.ins at_ [p],measures:=some (List.zipWith (insNew (s.firstOf at_)) s.measures.l cells.l) }
theorem insp_er (s : Score) (i : Int) (p : Part) (cells : Sl (Sl Cell)) (h : i < 0 ∨ (s.parts.l.length : Int) < i) : Pv prog pol 34 [s.enc,.sc (.int .i64 i),p.enc,slm rowE cells] (erAV 2):=by
  refine Pv_of' ok34 (by simp only [AV.closedBs,Score.enc_closed,Part.enc_closed,AV.closedB,closedB_slm rowE_closed,Bool.and_self]) ?_
  by_cases h0 : i < 0
  · simp -implicitDefEqProofs (maxDischargeDepth:=12) only [wpF,cf34,WW,List.replicate,e_splice,if_true,if_false,ite_true,ite_false,true_or,ne_eq,seval,h_putc,beq_self_eq_true,eq_self,exists_eq_left,exists_eq_left',s.enc_eq,p.enc_eq,h0]
    exact frz_plain rfl (plain_er 2)
  · have h1 : (s.parts.l.length : Int) < i:=by omega
    simp -implicitDefEqProofs (maxDischargeDepth:=12) only [wpF,cf34,WW,List.replicate,e_splice,if_true,if_false,ite_true,ite_false,true_or,ne_eq,seval,h_putc,beq_self_eq_true,eq_self,exists_eq_left,exists_eq_left',s.enc_eq,p.enc_eq,h0,h1]
    exact frz_plain rfl (plain_er 2)
theorem insp_fo (hp : IpPol pol) (s : Score) (hT : Tame s) (i : Nat) (p : Part) (cells : Sl (Sl Cell)) (h : i ≤ s.parts.l.length) (h2 : s.parts.l.length < 32) (hw : wholeB s = false) : Pv prog pol 34 [s.enc,.sc (.int .i64 i),p.enc,slm rowE cells] (erAV 3):=by
  obtain ⟨hc,hwh,h72,h73,h74,h116,h76,h77,heff⟩:=hp
  refine Pv_of' ok34 (by simp only [AV.closedBs,Score.enc_closed,Part.enc_closed,AV.closedB,closedB_slm rowE_closed,Bool.and_self]) ?_
  have h0 : ¬ (i : Int) < 0:=by omega
  have h1 : ¬ (s.parts.l.length : Int) < (i : Int):=by omega
  have h3 : ¬ (32 : Int) ≤ (s.parts.l.length : Int):=by omega
  simp -implicitDefEqProofs (maxDischargeDepth:=12) only [wpF,cf34,WW,List.replicate,e_splice,if_true,if_false,ite_true,ite_false,true_or,ne_eq,seval,h_putc,beq_self_eq_true,eq_self,exists_eq_left,exists_eq_left',s.enc_eq,p.enc_eq,h0,h1,h3]
  try rw [← s.enc_eq]
  refine wA_pure h72 (whole_pv hwh s hT) ?_
  rw [hw]
  simp -implicitDefEqProofs (maxDischargeDepth:=12) only [WW,List.replicate,e_splice,if_true,if_false,ite_true,ite_false,true_or,ne_eq,seval,h_putc,beq_self_eq_true,eq_self,exists_eq_left,exists_eq_left']
  exact frz_plain rfl (plain_er 3)
theorem insp_le (hp : IpPol pol) (s : Score) (hT : Tame s) (i : Nat) (p : Part) (cells : Sl (Sl Cell)) (h : i ≤ s.parts.l.length) (h2 : s.parts.l.length < 32) (hw : wholeB s = true) (hcb : cells.l.length < 1000000) (hbad : cells.l.length ≠ s.measures.l.length ∨ cells.l.any (badR p.staves.l.length) = true) : Pv prog pol 34 [s.enc,.sc (.int .i64 i),p.enc,slm rowE cells] (erAV 20):=by
  obtain ⟨hc,hwh,h72,h73,h74,h116,h76,h77,heff⟩:=hp
  refine Pv_of' ok34 (by simp only [AV.closedBs,Score.enc_closed,Part.enc_closed,AV.closedB,closedB_slm rowE_closed,Bool.and_self]) ?_
  have h0 : ¬ (i : Int) < 0:=by omega
  have h1 : ¬ (s.parts.l.length : Int) < (i : Int):=by omega
  have h3 : ¬ (32 : Int) ≤ (s.parts.l.length : Int):=by omega
  simp -implicitDefEqProofs (maxDischargeDepth:=12) only [wpF,cf34,WW,List.replicate,e_splice,if_true,if_false,ite_true,ite_false,true_or,ne_eq,seval,h_putc,beq_self_eq_true,eq_self,exists_eq_left,exists_eq_left',s.enc_eq,p.enc_eq,h0,h1,h3]
  try rw [← s.enc_eq]
  refine wA_pure h72 (whole_pv hwh s hT) ?_
  rw [hw]
  by_cases h4 : cells.l.length = s.measures.l.length
  · have h5 : (cells.l.length : Int) = (s.measures.l.length : Int):=by omega
    have hb : cells.l.any (badR p.staves.l.length) = true:=hbad.resolve_left fun h => h h4
    simp -implicitDefEqProofs (maxDischargeDepth:=12) only [WW,List.replicate,e_splice,if_true,if_false,ite_true,ite_false,true_or,ne_eq,seval,h_putc,beq_self_eq_true,eq_self,exists_eq_left,exists_eq_left',h5]
    refine wA_call h73 ((cont_rows (p:=p) h116 h74 ?_ hcb).mono fun o H1 h => ?_)
    · simp -implicitDefEqProofs (maxDischargeDepth:=12) only [WW,List.replicate,e_splice,if_true,if_false,ite_true,ite_false,true_or,ne_eq,seval,h_putc,beq_self_eq_true,eq_self,exists_eq_left,exists_eq_left',p.enc_eq]
    obtain ⟨rfl,hK,hn⟩:=h
    refine ⟨_,rfl,by simp only [k_nil],?_⟩
    have g2 : H1.cells 2 = some [.sc (.str ⟨#[]⟩),.sc (.bool false),.sc .nils,.sc .nils,.sc .nils,.sc .nils]:=(hK 2 (by simp -implicitDefEqProofs (maxDischargeDepth:=12) only [WW,List.replicate,e_splice,if_true,if_false,ite_true,ite_false,true_or,ne_eq,seval,h_putc,beq_self_eq_true,eq_self,exists_eq_left,exists_eq_left'])).trans (by simp -implicitDefEqProofs (maxDischargeDepth:=12) only [WW,List.replicate,e_splice,if_true,if_false,ite_true,ite_false,true_or,ne_eq,seval,h_putc,beq_self_eq_true,eq_self,exists_eq_left,exists_eq_left'])
    rw [hb]
    simp -implicitDefEqProofs (maxDischargeDepth:=12) only [WW,List.replicate,e_splice,if_true,if_false,ite_true,ite_false,true_or,ne_eq,seval,h_putc,beq_self_eq_true,eq_self,exists_eq_left,exists_eq_left',g2]
    exact frz_plain rfl (plain_er 20)
  · have h5 : ¬ (cells.l.length : Int) = (s.measures.l.length : Int):=by omega
    simp -implicitDefEqProofs (maxDischargeDepth:=12) only [WW,List.replicate,e_splice,if_true,if_false,ite_true,ite_false,true_or,ne_eq,seval,h_putc,beq_self_eq_true,eq_self,exists_eq_left,exists_eq_left',h5]
    exact frz_plain rfl (plain_er 20)
end Go.Hem
namespace Go.Hem
variable {pol : Pol}
def Score.withMs (s : Score) (l : List Measure) : Score:={ s with measures:=some l }
theorem insp_ok (hp : IpPol pol) (s : Score) (hs : s.tame) (hT : Tame s) (i : Nat) (p : Part) (hpt : p.tame) (cells : Sl (Sl Cell)) (h : i ≤ s.parts.l.length) (h2 : s.parts.l.length < 32) (hw : wholeB s = true) (hcl : cells.l.length = s.measures.l.length) (hbad : cells.l.any (badR p.staves.l.length) = false)
    (hst : stavesOf s.parts.l < 1000) (hps : p.staves.l.length < 1000) (hct : ∀ r ∈ cells.l,∀ c ∈ r.l,c.tame) : Pv prog pol 34 [s.enc,.sc (.int .i64 i),p.enc,slm rowE cells] (okAV (s.insP i p cells)):=by
  obtain ⟨hc,hwh,h72,h73,h74,h116,h76,h77,heff⟩:=hp
  refine Pv_of' ok34 (by simp only [AV.closedBs,Score.enc_closed,Part.enc_closed,AV.closedB,closedB_slm rowE_closed,Bool.and_self]) ?_
  have h0 : ¬ (i : Int) < 0:=by omega
  have h1 : ¬ (s.parts.l.length : Int) < (i : Int):=by omega
  have h3 : ¬ (32 : Int) ≤ (s.parts.l.length : Int):=by omega
  have hmb:=hT.measures
  have h5 : (cells.l.length : Int) = (s.measures.l.length : Int):=by omega
  simp -implicitDefEqProofs (maxDischargeDepth:=12) only [wpF,cf34,WW,List.replicate,e_splice,if_true,if_false,ite_true,ite_false,true_or,ne_eq,seval,h_putc,beq_self_eq_true,eq_self,exists_eq_left,exists_eq_left',s.enc_eq,p.enc_eq,h0,h1,h3]
  try rw [← s.enc_eq]
  refine wA_pure h72 (whole_pv hwh s hT) ?_
  rw [hw]
  simp -implicitDefEqProofs (maxDischargeDepth:=12) only [WW,List.replicate,e_splice,if_true,if_false,ite_true,ite_false,true_or,ne_eq,seval,h_putc,beq_self_eq_true,eq_self,exists_eq_left,exists_eq_left',h5]
  refine wA_call h73 ((cont_rows (p:=p) h116 h74 ?_ (by omega)).mono fun o H1 h => ?_)
  · simp -implicitDefEqProofs (maxDischargeDepth:=12) only [WW,List.replicate,e_splice,if_true,if_false,ite_true,ite_false,true_or,ne_eq,seval,h_putc,beq_self_eq_true,eq_self,exists_eq_left,exists_eq_left',p.enc_eq]
  obtain ⟨rfl,hK,hn⟩:=h
  refine ⟨_,rfl,by simp only [k_nil],?_⟩
  have g0 : H1.cells 0 = some [.sc (.str s.title),.sc (.bool s.written),slm Part.enc s.parts,slm Measure.enc s.measures,slm Spanner.enc s.spanners,slm ID.enc s.last]:=(hK 0 (by simp -implicitDefEqProofs (maxDischargeDepth:=12) only [WW,List.replicate,e_splice,if_true,if_false,ite_true,ite_false,true_or,ne_eq,seval,h_putc,beq_self_eq_true,eq_self,exists_eq_left,exists_eq_left'])).trans (by simp -implicitDefEqProofs (maxDischargeDepth:=12) only [WW,List.replicate,e_splice,if_true,if_false,ite_true,ite_false,true_or,ne_eq,seval,h_putc,beq_self_eq_true,eq_self,exists_eq_left,exists_eq_left'])
  have g1 : H1.cells 1 = some p.enc.cells:=(hK 1 (by simp -implicitDefEqProofs (maxDischargeDepth:=12) only [WW,List.replicate,e_splice,if_true,if_false,ite_true,ite_false,true_or,ne_eq,seval,h_putc,beq_self_eq_true,eq_self,exists_eq_left,exists_eq_left'])).trans (by simp -implicitDefEqProofs (maxDischargeDepth:=12) only [WW,List.replicate,e_splice,if_true,if_false,ite_true,ite_false,true_or,ne_eq,seval,h_putc,beq_self_eq_true,eq_self,exists_eq_left,exists_eq_left',p.enc_eq])
  have g2 : H1.cells 2 = some [.sc (.str ⟨#[]⟩),.sc (.bool false),.sc .nils,.sc .nils,.sc .nils,.sc .nils]:=(hK 2 (by simp -implicitDefEqProofs (maxDischargeDepth:=12) only [WW,List.replicate,e_splice,if_true,if_false,ite_true,ite_false,true_or,ne_eq,seval,h_putc,beq_self_eq_true,eq_self,exists_eq_left,exists_eq_left'])).trans (by simp -implicitDefEqProofs (maxDischargeDepth:=12) only [WW,List.replicate,e_splice,if_true,if_false,ite_true,ite_false,true_or,ne_eq,seval,h_putc,beq_self_eq_true,eq_self,exists_eq_left,exists_eq_left'])
  simp -implicitDefEqProofs (maxDischargeDepth:=12) only [WW,List.replicate,e_splice,if_true,if_false,ite_true,ite_false,true_or,ne_eq,seval,h_putc,beq_self_eq_true,eq_self,exists_eq_left,exists_eq_left'] at hn
  rw [hbad]
  simp -implicitDefEqProofs (maxDischargeDepth:=12) only [WW,List.replicate,e_splice,if_true,if_false,ite_true,ite_false,true_or,ne_eq,seval,h_putc,beq_self_eq_true,eq_self,exists_eq_left,exists_eq_left',g0,g2]
  try rw [← s.enc_eq]
  refine wA_call (hc _ (by decide)) ((sClone_ok2 hc s hs _).mono ?_)
  rintro o H2 ⟨cs,fp,rfl,ho,hlc,hones,⟨hrp,-⟩,hF,hN2,hK2⟩
  refine ⟨_,rfl,by simp only [k_nil],?_⟩
  have x0:=hK2.cells g0 (by omega)
  have x1:=hK2.cells g1 (by omega)
  have x2:=hK2.cells g2 (by omega)
  generalize hq : H2.next = q
  have hlt2:=ho.lts
  have hsp : splice [.sc (.str ⟨#[]⟩),.sc (.bool false),.sc .nils,.sc .nils,.sc .nils,.sc .nils] 0 cs = cs:=splice_full hlc.symm
  simp -implicitDefEqProofs (maxDischargeDepth:=12) only [WW,List.replicate,if_true,if_false,ite_true,ite_false,true_or,ne_eq,seval,beq_self_eq_true,eq_self,exists_eq_left,exists_eq_left',hones,hlc,hq,hsp]
  generalize hHA : AHeap.put _ q _ = HA
  have nA : HA.next = q + 1:=by subst hHA; simp only [AHeap.next_put,AHeap.next_alloc,hq]
  have a0 : ∀ b,b < q→HA.cells b = H2.cells b:=fun b hb => by
    subst hHA
    rw [c_put_ne (by omega),c_alloc_ne (by omega)]
  have aq : HA.cells q = some cs:=by
    subst hHA
    refine h_put_self (y:=[.sc (.str ⟨#[]⟩),.sc (.bool false),.sc .nils,.sc .nils,.sc .nils,.sc .nils]) ?_
    rw [h_alloc,if_pos hq.symm]
  clear hHA
  have hR : ∀ b ∈ fp,3 ≤ b∧b < q:=fun b hb => ⟨by have:=hF b hb; omega,by have:=hlt2 b hb; omega⟩
  have hN : 3 ≤ q:=by omega
  have hoA : OwnL (OwnX false 7) HA cs s.cl.enc.cells fp:=ho.fr fun b hb => a0 b (hR b hb).2
  have xA0:=(a0 0 (by omega)).trans x0
  have xA1:=(a0 1 (by omega)).trans x1
  have xA2:=(a0 2 (by omega)).trans x2
  clear a0 x0 x1 x2 g0 g1 g2 hK hK2 ho hF hlt2
  simp -implicitDefEqProofs (maxDischargeDepth:=12) only [WW,List.replicate,e_splice,if_true,if_false,ite_true,ite_false,true_or,ne_eq,seval,h_putc,beq_self_eq_true,eq_self,exists_eq_left,exists_eq_left',xA0,e_cutm Part.enc_len,h]
  have hXp : Sl.l (Option.map (fun x => List.take i x) s.parts) = s.parts.l.take i:=sl_take s.parts i
  have hle:=stavesOf_le (l:=s.parts.l) (i:=i)
  have hst0:=staves_pv (pol:=pol) (⟨⟨#[]⟩,false,Option.map (fun x => List.take i x) s.parts,Option.none,Option.none,Option.none⟩ : Score) (by show stavesOf (Sl.l _) < _; rw [hXp]; omega) (by show (Sl.l _).length < _; rw [hXp,List.length_take]; omega)
  refine wA_pure hwh.1 hst0 ?_
  clear hst0
  obtain ⟨F,hF⟩ : ∃ F,F = s.firstOf i:=⟨_,rfl⟩
  have hF2 : stavesOf (Sl.l (Option.map (fun x => List.take i x) s.parts)) = F:=by rw [hXp,hF]; rfl
  rw [show (Score.parts ⟨⟨#[]⟩,false,Option.map (fun x => List.take i x) s.parts,Option.none,Option.none,Option.none⟩) = Option.map (fun x => List.take i x) s.parts from rfl,hF2]
  have hFle : F ≤ stavesOf s.parts.l:=by rw [hF]; exact hle
  obtain ⟨v2,v3,v4,v5,f2,f3,f4,f5,rfl,d2,d3,d4,d5,s2,s3,s4,s5⟩:=own6 hoA
  simp only [List.getD_cons_zero,List.getD_cons_succ] at hrp
  have hml : s.cl.measures.l.length = s.measures.l.length:=by show (s.measures.l.map Measure.cl).length = _; rw [List.length_map]
  have hlv3:=(own_len d3).1
  rw [hml] at hlv3
  have hwh2 : ∀ m ∈ s.measures.l,m.cells.l.length = stavesOf s.parts.l:=fun m hm => by
    unfold wholeB at hw
    rw [List.all_eq_true] at hw
    simpa using hw m hm
  have hrl : ∀ r ∈ cells.l,r.l.length = p.staves.l.length:=fun r hr => by
    rw [List.any_eq_false] at hbad
    have:=hbad r hr
    simpa [badR] using this
  simp -implicitDefEqProofs (maxDischargeDepth:=12) only [WW,List.replicate,e_splice,if_true,if_false,ite_true,ite_false,true_or,ne_eq,seval,h_putc,beq_self_eq_true,eq_self,exists_eq_left,exists_eq_left',aq,hlv3]
  refine wp_loop (Inv:=fun k t H => ∃ (j : Nat) (fp2 : List Nat) (X : List Measure),j + k = s.measures.l.length∧X.length = s.measures.l.length∧(∀ c m r,c < j→s.measures.l[c]? = some m→cells.l[c]? = some r→X[c]? = some (insNew F m r))∧(∀ c m,j ≤ c→s.measures.l[c]? = some m→X[c]? = some m.cl) ∧
    H.cells q = some [.sc (.str s.cl.title),.sc (.bool s.cl.written),v2,v3,v4,v5]∧(∀ b,b < 3→H.cells b = HA.cells b)∧OwnL (OwnX false 7) H [.sc (.str s.cl.title),.sc (.bool s.cl.written),v2,v3,v4,v5] (s.cl.withMs X).enc.cells fp2∧(∀ b ∈ fp2,3 ≤ b∧b ≠ q)∧q < H.next ∧
    ∃ y : Nat→AV,t = [s.enc,.sc (.int .i64 i),p.enc,slm rowE cells,.ptr 0 0,y 5,.ptr 1 0,y 7,.ptr 2 0,.sc (.int .i64 0),.ptr q 0,.sc (.int .i64 F),y 12,y 13,y 14,y 15,y 16,y 17,y 18,y 19,y 20,y 21,y 22,y 23,y 24,y 25,y 26,y 27,y 28,y 29,y 30,y 31,y 32,y 33,y 34,y 35,y 36,y 37,y 38,y 39,y 40,y 41,y 42,y 43,y 44,y 45,y 46,y 47,y 48,y 49,y 50,y 51,y 52,y 53,y 54,y 55,y 56,y 57,y 58,y 59,.ptr q 3,v3,.sc (.int .i64 s.measures.l.length),.sc (.int .i64 j),y 64,y 65,y 66,y 67,y 68,y 69,y 70,y 71,y 72,y 73,y 74,y 75,y 76,y 77,y 78,y 79,y 80,y 81,y 82,y 83,y 84,y 85,y 86,y 87,y 88,y 89,y 90,y 91,y 92,y 93,y 94,y 95,y 96,y 97,y 98,y 99,y 100,y 101,y 102,y 103,y 104,y 105,y 106,y 107,y 108,y 109,y 110]) (k:=s.measures.l.length) ?_
    ⟨0,fp,s.measures.l.map Measure.cl,by omega,by rw [List.length_map],fun c m r hc => by omega,fun c m _ hm => by rw [List.getElem?_map,hm]; rfl,aq,fun _ _ => rfl,hoA,fun b hb => ⟨(hR b hb).1,by have:=hR b hb; omega⟩,by omega,ex_x rfl⟩
  rintro k t H ⟨j,fp2,X,hk,hXl,hX1,hX2,hq',h3',hoH,hfp2,hqn,y,rfl⟩
  have hlts:=hoH.lts
  by_cases c1 : (j : Int) < (s.measures.l.length : Int)
  · obtain ⟨m,hm⟩ : ∃ m,s.measures.l[j]? = some m:=⟨_,List.getElem?_eq_getElem (by omega)⟩
    obtain ⟨r,hr⟩ : ∃ r,cells.l[j]? = some r:=⟨_,List.getElem?_eq_getElem (by omega)⟩
    have hrm:=List.mem_of_getElem? hr
    have hrlen:=hrl r hrm
    have e2 : IntKind.i64.wrap ((j : Int) + 1) = ((j + 1 : Nat) : Int):=by rw [w64 (by omega) (by omega)]; omega
    obtain ⟨v,f3',e3,w1,w2,w3⟩:=hoH.fit (j:=3) (u:=slm Measure.enc (some X)) rfl
    cases e3
    obtain ⟨b,off,cap,ds,w,fw,rfl,k1,k2,k3,k4,k5,k6,k7⟩:=slot_put (d:=5) (j:=21) (u:=slm Cell.enc m.cl.cells) row_Measure (by decide) w1 (show (Sl.l (some X))[j]? = some m.cl from hX2 j m (Nat.le_refl _) hm) rfl
    try simp only [l_some] at k2
    have hjX : j < X.length:=by omega
    have hbH:=h_lt k1
    have m1 : (48 : Int) * ((r.l.length : Nat) : Int) ≤ 140737488355328:=by omega
    have m2 : r.l.length < 2 ^ 40:=by omega
    simp -implicitDefEqProofs (maxDischargeDepth:=12) only [WW,List.replicate,e_splice,if_true,if_false,ite_true,ite_false,true_or,ne_eq,seval,h_putc,beq_self_eq_true,eq_self,exists_eq_left,exists_eq_left',c1,hq',hjX,hr,rowE_c,mksOf,m1,m2]
    refine wp_loop (Inv:=fun k t H' => ∃ (jj : Nat) (fp3 : List Nat) (a : AV),jj + k = r.l.length∧(∀ c,c < H.next→H'.cells c = H.cells c)∧AccX false 4 2 Cell.enc H' a (some ((r.l.take jj).map Cell.cl)) fp3∧(∀ c ∈ fp3,H.next ≤ c)∧H.next ≤ H'.next ∧
      ∃ y : Nat→AV,t = [s.enc,.sc (.int .i64 i),p.enc,slm rowE cells,.ptr 0 0,y 5,.ptr 1 0,y 7,.ptr 2 0,.sc (.int .i64 0),.ptr q 0,.sc (.int .i64 F),.sc (.int .i64 j),.ptr b (off + j * 22),a,y 15,y 16,y 17,y 18,y 19,y 20,y 21,y 22,y 23,y 24,y 25,y 26,y 27,y 28,y 29,y 30,y 31,y 32,y 33,y 34,y 35,y 36,y 37,y 38,y 39,y 40,y 41,y 42,y 43,y 44,y 45,y 46,y 47,y 48,y 49,y 50,y 51,y 52,y 53,y 54,y 55,y 56,y 57,y 58,y 59,.ptr q 3,.slice b off X.length cap 22,.sc (.int .i64 s.measures.l.length),.sc (.int .i64 j),y 64,y 65,y 66,y 67,y 68,y 69,y 70,y 71,y 72,y 73,y 74,y 75,y 76,y 77,y 78,rowE r,.sc (.int .i64 r.l.length),.sc (.int .i64 jj),y 82,y 83,y 84,y 85,y 86,y 87,y 88,y 89,y 90,y 91,y 92,y 93,y 94,y 95,y 96,y 97,y 98,y 99,y 100,y 101,y 102,y 103,y 104,y 105,y 106,y 107,y 108,y 109,y 110]) (k:=r.l.length) ?_
      ⟨0,[H.next],_,by omega,fun c hc => by rw [c_alloc_ne (by omega)],acc_room (z:=[.sc .nils,.sc .nils]) rfl (by rw [h_alloc,if_pos rfl]),fun c hc => by simp only [List.mem_singleton] at hc; omega,by simp only [AHeap.next_alloc]; omega,ex_x rfl⟩
    clear y
    rintro k' t H' ⟨jj,fp3,a,hk',hKp,hE,hfp3,hnx,y,rfl⟩
    by_cases c2 : (jj : Int) < (r.l.length : Int)
    · obtain ⟨e,he⟩ : ∃ y,r.l[jj]? = some y:=⟨_,List.getElem?_eq_getElem (by omega)⟩
      have e3 : IntKind.i64.wrap ((jj : Int) + 1) = ((jj + 1 : Nat) : Int):=by rw [w64 (by omega) (by omega)]; omega
      simp -implicitDefEqProofs (maxDischargeDepth:=12) only [WW,List.replicate,e_splice,if_true,if_false,ite_true,ite_false,true_or,ne_eq,seval,h_putc,beq_self_eq_true,eq_self,exists_eq_left,exists_eq_left',c2,he,e.enc_eq]
      rw [← e.enc_eq]
      refine wA_call (hc _ (by decide)) ((cClone_ok hc e (hct r hrm e (List.mem_of_getElem? he)) _).mono ?_)
      rintro o H3 ⟨cm,fp4,rfl,hom,hlm,honm,hF3,hN3,hK3⟩
      refine ⟨_,rfl,by simp only [k_nil],?_⟩
      simp only [AHeap.next_alloc,AHeap.next_put] at hF3 hN3
      have hold : ∀ c,c < H'.next→H3.cells c = H'.cells c:=fun c hc => by
        rw [hK3 c (by simp only [AHeap.next_alloc,AHeap.next_put]; omega),c_put_ne (by omega),c_alloc_ne (by omega)]
      have hE1 : AccX false 4 2 Cell.enc H3 a (some ((r.l.take jj).map Cell.cl)) fp3:=hE.fr fun c hc => hold c (hE.lts c hc)
      simp -implicitDefEqProofs (maxDischargeDepth:=12) only [WW,List.replicate,e_splice,if_true,if_false,ite_true,ite_false,true_or,ne_eq,seval,h_putc,beq_self_eq_true,eq_self,exists_eq_left,exists_eq_left',hlm,honm,ones_take hlm]
      have apf : Apart fp3 fp4:=fun c hc hc2 => by
        have:=hE.lts c hc
        have:=hF3 c hc2; omega
      refine wA_app2 row_Cell hE1 (by repeat (first | exact Keep.refl | refine Keep.put (by (try simp only [AHeap.next_alloc,AHeap.next_put]); omega) ?_ | refine Keep.alloc (by (try simp only [AHeap.next_alloc,AHeap.next_put]); omega) ?_)) (by simp) (ys:=[e.cl]) (by simp) rfl (asrc_new rfl (by simpa using hlm)) (fp1:=fp4) (by
        have : ([e.cl].flatMap fun y => (Cell.enc y).cells) = (e.cl).enc.cells:=by simp
        rw [this]
        exact hom.fr fun c hc => c_alloc_ne (by have:=hom.lts c hc; omega)) apf ?_ ?_
      · simp only [Sl.l,Option.getD_some,List.length_map,List.length_take,List.length_cons,List.length_nil]; omega
      intro v' H4 fp' hE' hn4 hk4 hfp4 ho4 hc4
      rw [some_map_succ he] at hE'
      have hfp5 : ∀ c ∈ fp',H.next ≤ c:=fun c hc => by
        rcases hfp4 c hc with h | h | h
        · exact hfp3 c h
        · have:=hF3 c h; omega
        · omega
      simp -implicitDefEqProofs (maxDischargeDepth:=12) only [WW,List.replicate,e_splice,if_true,if_false,ite_true,ite_false,true_or,ne_eq,seval,h_putc,beq_self_eq_true,eq_self,exists_eq_left,exists_eq_left',e3]
      refine ⟨k' - 1,by omega,jj + 1,fp',v',by omega,fun c hc => ?_,hE',hfp5,by omega,ex_x rfl⟩
      rw [hk4 c (fun h => by have:=hfp3 c h; omega) (by omega),hold c (by omega),hKp c hc]
    have hjj : jj = r.l.length:=by omega
    subst hjj
    rw [List.take_length] at hE
    rcases hE with ⟨_,h,_⟩ | ⟨bl,capl,cb,rest,fb,l',h5',rfl,h6,h7,h8,h9,h10,h11,rfl⟩
    · cases h
    cases h5'
    have hbl:=hfp3 bl (by simp)
    have hbl2:=h_lt h7
    have kb:=(hKp b hbH).trans k1
    simp -implicitDefEqProofs (maxDischargeDepth:=12) only [WW,List.replicate,e_splice,if_true,if_false,ite_true,ite_false,true_or,ne_eq,seval,h_putc,beq_self_eq_true,eq_self,exists_eq_left,exists_eq_left',c2,kb,k4]
    have hf3 : ∀ c ∈ f3',c < H.next:=fun c hc => hlts c (w2 c hc)
    have hwH' : OwnX false 6 H' w (slm Cell.enc m.cl.cells) fw:=k5.frame fun c hc => hKp c (hf3 c (k6 c hc).1)
    have hmcl : m.cl.cells.l.length = m.cells.l.length:=by
      have e : m.cl.cells.l = m.cells.l.map Cell.cl:=l_of
      rw [e,List.length_map]
    have hmst:=hwh2 m (List.mem_of_getElem? hm)
    obtain ⟨v',H6,f6,t1,t2,t3,t4,t5⟩:=ins_own (d:=5) (by':=48) (i:=F) (bv:=bl) (m:=(r.l.map Cell.cl).length) (cp:=capl) (nv:=2) (H:=H') (el:=r.l.map Cell.cl) (ys:=cb) (fx:=fb) row_Cell (by decide) hwH' (fun b off len cap n' e => by subst e; exact own_two hwH') (by rw [hmcl,hmst]; exact hFle) h7 rfl (by rw [List.length_append]; omega) (by rw [List.take_left' h8]) (OwnL.mono h10 (by decide))
      (fun c hc hc2 => by have:=hf3 c (k6 c hc).1; have:=hfp3 c (by simp [hc2]); omega) (fun h => by have:=hf3 _ (k6 _ h).1; omega) (by rw [hmcl,hmst,List.length_map]; omega) (by rw [hmcl,hmst,List.length_map]; omega)
    have hei : pol.eff 76 [w,.sc (.int .i64 F),.slice bl 0 (r.l.map Cell.cl).length capl 2] H' = some (v',H6):=by rw [heff]; exact t1
    refine wA_call h76 (ev_eff ins76 hei ⟨_,rfl,by simp only [k_nil],?_⟩)
    have u : ∀ c,c < H.next→c ∉ fw→H6.cells c = H.cells c:=fun c hc hc2 => by rw [t4 c hc2 (by omega),hKp c hc]
    have hbw : b ∉ fw:=fun h => (k6 b h).2 rfl
    have kb6:=(u b hbH hbw).trans k1
    simp -implicitDefEqProofs (maxDischargeDepth:=12) only [WW,List.replicate,if_true,if_false,ite_true,ite_false,true_or,ne_eq,seval,beq_self_eq_true,eq_self,exists_eq_left,exists_eq_left',kb6,k2,e2,(own_len t2).2.1,(own_len t2).2.2,os_cons,os_nil]
    have hf6 : ∀ c ∈ f6,c ∈ fw ∨ H.next ≤ c:=fun c hc => by
      rcases t3 c hc with h | h | h
      · exact .inl h
      · exact .inr (hfp3 c (by simp [h]))
      · exact .inr (by omega)
    have hb6 : b ∉ f6:=fun h => by
      rcases hf6 b h with h | h
      · exact hbw h
      · omega
    have hput : ∀ (z : Option Blk) c,c ≠ b→(H6.put b z).cells c = H6.cells c:=fun z c hc => c_put_ne hc
    obtain ⟨fp',r1,r2⟩:=k7 (insNew F m r) (slm Cell.enc (m.cl.cells.ins F (r.l.map Cell.cl))) rfl (H6.put b (some (.cells (splice ds (off + j * 22 + 21) [v'])))) v' f6 (t2.frame fun c hc => hput _ c (fun e => hb6 (e ▸ hc))) (h_put_self kb6)
      (fun c hc hcb hcw => by rw [hput _ c hcb,u c (hf3 c hc) hcw]) (fun c hc => (hf6 c hc).imp id fun h h' => by have:=hf3 c h'; omega) hb6
    obtain ⟨fq,q1,q2⟩:=w3 _ (slm Measure.enc (some (X.set j (insNew F m r)))) _ fp' r1 (fun c hc hc2 => by
      have hcb : c ≠ b:=fun e => hc2 (e ▸ k3)
      rw [hput _ c hcb,u c (hlts c hc) (fun h => hc2 (k6 c h).1)]) (fun c hc => by
      rcases r2 c hc with h | h
      · exact .inl h
      · rcases hf6 c h with h | h
        · exact .inl (k6 c h).1
        · exact .inr fun h' => by have:=hlts c h'; omega)
    have hbq : b ≠ q:=(hfp2 b (w2 b k3)).2
    refine ⟨k - 1,by omega,j + 1,fq,X.set j (insNew F m r),by omega,by rw [List.length_set]; exact hXl,fun c m' r' hc hm' hr' => ?_,fun c m' hc hm' => ?_,?_,fun c hc => ?_,q1,fun c hc => ?_,by (try simp only [AHeap.next_put]); omega,ex_x rfl⟩
    · rw [List.getElem?_set]
      by_cases e : j = c
      · subst e
        rw [hm] at hm'; rw [hr] at hr'; cases hm'; cases hr'
        rw [if_pos rfl,if_pos hjX]
      · rw [if_neg e]; exact hX1 c m' r' (by omega) hm' hr'
    · rw [List.getElem?_set_ne (by omega)]; exact hX2 c m' (by omega) hm'
    · rw [hput _ q (fun e => hbq e.symm),u q hqn (fun h => (hfp2 q (w2 q (k6 q h).1)).2 rfl)]; exact hq'
    · have h9:=hfp2 b (w2 b k3)
      rw [hput _ c (by omega),u c (by omega) (fun h => by have:=hfp2 c (w2 c (k6 c h).1); omega)]; exact h3' c hc
    · rcases q2 c hc with h | h
      · rcases r2 c h with h | h
        · exact hfp2 c (w2 c h)
        · rcases hf6 c h with h | h
          · exact hfp2 c (w2 c (k6 c h).1)
          · omega
      · exact hfp2 c h.1
  have hj : j = s.measures.l.length:=by omega
  subst hj
  have hX : X = List.zipWith (insNew F) s.measures.l cells.l:=by
    apply List.ext_getElem?
    intro c
    by_cases hc : c < s.measures.l.length
    · obtain ⟨m,hm⟩ : ∃ m,s.measures.l[c]? = some m:=⟨_,List.getElem?_eq_getElem hc⟩
      obtain ⟨r,hr⟩ : ∃ r,cells.l[c]? = some r:=⟨_,List.getElem?_eq_getElem (by omega)⟩
      rw [hX1 c m r hc hm hr,List.getElem?_zipWith,hm,hr]
    · rw [List.getElem?_eq_none (by omega),List.getElem?_eq_none (by simp; omega)]
  subst hX
  obtain ⟨v,f2',e3,w1,w2,w3⟩:=hoH.fit (j:=2) (u:=slm Part.enc s.cl.parts) rfl
  cases e3
  have z1:=(h3' 1 (by omega)).trans xA1
  have z2:=(h3' 2 (by omega)).trans xA2
  simp only [p.enc_eq,c_agg] at z1
  simp -implicitDefEqProofs (maxDischargeDepth:=12) only [WW,List.replicate,e_splice,if_true,if_false,ite_true,ite_false,true_or,ne_eq,seval,h_putc,beq_self_eq_true,eq_self,exists_eq_left,exists_eq_left',c1,hq',z1]
  rw [← p.enc_eq]
  refine wA_call (hc _ (by decide)) ((pClone_ok (hc _ (by decide)) p hpt _).mono ?_)
  rintro o H3 ⟨cp,fpp,rfl,hop,hlp,honp,hF3,hN3,hK3⟩
  have y1:=hK3.cells z1 (by omega)
  have y2:=hK3.cells z2 (by omega)
  have yq:=hK3.cells hq' (by omega)
  refine ⟨_,rfl,by simp -implicitDefEqProofs (maxDischargeDepth:=12) only [WW,List.replicate,e_splice,if_true,if_false,ite_true,ite_false,true_or,ne_eq,seval,h_putc,beq_self_eq_true,eq_self,exists_eq_left,exists_eq_left',yq,hq'],?_⟩
  have hlp3:=hop.lts
  have w1' : OwnX false 7 H3 v2 (slm Part.enc s.cl.parts) f2':=w1.frame fun c hc => hK3 c (hlts c (w2 c hc))
  simp -implicitDefEqProofs (maxDischargeDepth:=12) only [WW,List.replicate,e_splice,if_true,if_false,ite_true,ite_false,true_or,ne_eq,seval,h_putc,beq_self_eq_true,eq_self,exists_eq_left,exists_eq_left',hlp,honp,ones_take hlp]
  have hpl : s.cl.parts.l.length = s.parts.l.length:=rfl
  obtain ⟨v',H6,f6,t1,t2,t3,t4,t5⟩:=ins_own (d:=6) (by':=72) (i:=i) (bv:=H3.next) (m:=1) (cp:=1) (nv:=6) (H:=H3.alloc (.cells cp)) (el:=[p]) (ys:=cp) (fx:=fpp) row_Part (by decide) (w1'.frame fun c hc => c_alloc_ne (by have:=hlts c (w2 c hc); omega)) hrp (by rw [hpl]; exact h) (by rw [h_alloc,if_pos rfl]) rfl (by omega) (by rw [List.take_of_length_le (by omega)])
    (by
      have : ([p].flatMap fun y => (Part.enc y).cells) = p.enc.cells:=by simp
      rw [this]
      exact (OwnL.mono hop (by decide)).fr fun c hc => c_alloc_ne (by have:=hlp3 c hc; omega))
    (fun c hc hc2 => by have:=hlts c (w2 c hc); have:=hF3 c hc2; omega) (fun h => by have:=hlts _ (w2 _ h); omega) (by rw [hpl]; omega) (by rw [hpl]; omega)
  have hei : pol.eff 77 [v2,.sc (.int .i64 i),.slice H3.next 0 1 1 6] (H3.alloc (.cells cp)) = some (v',H6):=by rw [heff]; exact t1
  refine wA_call h77 (ev_eff ins77 hei ⟨_,rfl,by simp only [k_nil],?_⟩)
  simp only [AHeap.next_alloc] at t3 t4 t5
  have u : ∀ c,c < H.next→c ∉ f2'→H6.cells c = H.cells c:=fun c hc hc2 => by rw [t4 c hc2 (by omega),c_alloc_ne (by omega),hK3 c hc]
  have nq : ¬ 2 = q:=by omega
  have nq' : ¬ q = 2:=by omega
  have u2:=(u 2 (by omega) (fun h => by have:=hfp2 _ (w2 _ h); omega)).trans z2
  have uq:=(u q hqn (fun h => (hfp2 _ (w2 _ h)).2 rfl)).trans hq'
  have hv4:=(own_len d4).2.1
  have hv5:=(own_len d5).2.1
  have hv3:=(own_len d3).2.1
  simp -implicitDefEqProofs (maxDischargeDepth:=12) only [WW,List.replicate,e_splice,if_true,if_false,ite_true,ite_false,true_or,ne_eq,seval,h_putc,beq_self_eq_true,eq_self,exists_eq_left,exists_eq_left',u2,uq,nq,nq',hv3,hv4,hv5,(own_len t2).2.1,(own_len t2).2.2]
  have hf6 : ∀ c ∈ f6,c ∈ f2' ∨ H.next ≤ c:=fun c hc => by
    rcases t3 c hc with h | h | h
    · exact .inl h
    · exact .inr (hF3 c h)
    · exact .inr (by omega)
  have hPP : ∀ x y : Option Blk,∀ c,c ≠ 2→c ≠ q→((H6.put q x).put 2 y).cells c = H6.cells c:=fun x y c h1 h2 => by rw [c_put_ne h1,c_put_ne h2]
  obtain ⟨fq,r1,r2⟩:=w3 v' (slm Part.enc (s.cl.parts.ins i [p])) H6 f6 t2 (fun c hc hc2 => u c (hlts c hc) hc2) (fun c hc => (hf6 c hc).imp id fun h h' => by have:=hlts c h'; omega)
  refine frz_tup (I:=false) (d:=8) (fp:=fq) (u:=(s.insP i p cells).enc) ?_ (by decide)
  refine ⟨(s.insP i p cells).enc.cells,rfl,?_⟩
  subst hF
  refine (show OwnL (OwnX false 7) H6 _ (s.insP i p cells).enc.cells fq from r1).fr fun c hc => ?_
  have hcc : c ≠ 2∧c ≠ q:=by
    rcases r2 c hc with h | ⟨h,_⟩
    · rcases hf6 c h with h | h
      · have:=hfp2 c (w2 c h); exact ⟨by omega,this.2⟩
      · omega
    · have:=hfp2 c h; exact ⟨by omega,this.2⟩
  exact hPP _ _ c hcc.1 hcc.2
end Go.Hem
namespace Go.Hem
variable {pol : Pol}
def Measure.delC (m : Measure) (i j : Nat) : Measure:={ m with cells:=m.cells.del i j }
def delNew (first n : Nat) (m : Measure) : Measure:=m.cl.delC first (first + n)
def Score.delP (s : Score) (at_ n : Nat) : Score:={ s.cl with parts:=s.cl.parts.del at_ (at_ + 1),measures:=some (s.measures.l.map (delNew (s.firstOf at_) n)) }
def DpPol (pol : Pol) : Prop:=PrPol pol∧WhPol pol∧pol.pure 29 = true∧pol.pure 72 = true∧pol.pure 93 = false∧pol.pure 107 = false∧pol.pure 108 = false∧pol.pure 109 = false
theorem chg_delp (h108 : pol.pure 108 = false) (h109 : pol.pure 109 = false) {H0 : AHeap} {s : Score} {ba bc i : Nat} {p : Part} (ha : H0.cells ba = some [.sc (.int .i64 i)]) (hc : H0.cells bc = some [.sc (.int .i64 (s.firstOf i))]) (hp : s.parts.l[i]? = some p)
    (hwh : ∀ m ∈ s.measures.l,s.firstOf i + p.staves.l.length ≤ m.cells.l.length∧m.cells.l.length < 1000000) (hb : s.measures.l.length < 1000000) (hb2 : s.parts.l.length < 1000000) : Chg2 pol 107 [.ptr ba 0,.ptr bc 0] H0 s (s.delP i p.staves.l.length):=by
  intro H1 q R hK hq1 hq2 hqR hR hO
  refine wpF_ok ok107 (Q:=fun v H' => ∃ R',OwnScore H' q R' (s.delP i p.staves.l.length)∧(∀ b ∈ R',b ∈ R ∨ H1.next ≤ b)∧(∀ b,b < H1.next→b ≠ q→b ∉ R→H'.cells b = H1.cells b)∧H1.next ≤ H'.next) ?_ |>.mono ?_
  rotate_left
  · rintro o H' ⟨v,rfl,R',h⟩; exact ⟨v,R',rfl,h⟩
  have c1:=hK.cells ha (h_lt ha)
  have c2:=hK.cells hc (h_lt hc)
  have hba : ba ≠ q∧ba ∉ R:=⟨by have:=h_lt ha; omega,fun h => by have:=h_lt ha; have:=hR _ h; omega⟩
  have hbc : bc ≠ q∧bc ∉ R:=⟨by have:=h_lt hc; omega,fun h => by have:=h_lt hc; have:=hR _ h; omega⟩
  have hba1 : ba < H1.next:=h_lt c1
  have hbc1 : bc < H1.next:=h_lt c2
  obtain ⟨cs,fp,hS,ho,hfR⟩:=hO
  obtain ⟨v2,v3,v4,v5,f2,f3,f4,f5,rfl,d2,d3,d4,d5,s2,s3,s4,s5⟩:=own6 ho
  have hml : s.cl.measures.l.length = s.measures.l.length:=by show (s.measures.l.map Measure.cl).length = _; rw [List.length_map]
  have hlv3:=(own_len d3).1
  rw [hml] at hlv3
  have hip : i < s.parts.l.length:=(List.getElem?_eq_some_iff.1 hp).1
  obtain ⟨b,off,cap,ds,w,fw,rfl,k1,k2,k3,k4,k5,k6,k7⟩:=slot_put (d:=5) (j:=5) (u:=slm Staff.enc p.staves) row_Part (by decide) d2 (show (Sl.l s.cl.parts)[i]? = some p from hp) rfl
  clear k7
  have hpl : s.cl.parts.l.length = s.parts.l.length:=rfl
  rw [hpl] at d2 hS ho
  have hlw:=(own_len k5).1
  generalize hF : s.firstOf i = F at *
  generalize hN : p.staves.l.length = N at *
  simp -implicitDefEqProofs (maxDischargeDepth:=12) only [wpF,cf107,WW,List.replicate,e_splice,if_true,if_false,ite_true,ite_false,true_or,ne_eq,seval,h_putc,beq_self_eq_true,eq_self,exists_eq_left,exists_eq_left',hS,c1,c2,hip,k1,k4,hlw,hlv3]
  have hFN : ∀ m ∈ s.measures.l,F + N < 1000000:=fun m hm => by have:=hwh m hm; omega
  refine wp_loop (Inv:=fun k t H => ∃ (j : Nat) (fp2 : List Nat) (X : List Measure),j + k = s.measures.l.length∧X.length = s.measures.l.length∧(∀ c m,c < j→s.measures.l[c]? = some m→X[c]? = some (delNew F N m))∧(∀ c m,j ≤ c→s.measures.l[c]? = some m→X[c]? = some m.cl) ∧
    H.cells q = some [.sc (.str s.cl.title),.sc (.bool s.cl.written),.slice b off s.parts.l.length cap 6,v3,v4,v5]∧(∀ b,b < H1.next→b ≠ q→b ∉ R→H.cells b = H1.cells b)∧OwnL (OwnX false 7) H [.sc (.str s.cl.title),.sc (.bool s.cl.written),.slice b off s.parts.l.length cap 6,v3,v4,v5] (s.cl.withMs X).enc.cells fp2∧(∀ b ∈ fp2,b ∈ R)∧H1.next ≤ H.next ∧
    ∃ y : Nat→AV,t = [.ptr q 0,.ptr ba 0,.ptr bc 0,y 3,.sc (.int .i64 N),y 5,y 6,y 7,y 8,y 9,y 10,y 11,y 12,y 13,y 14,y 15,y 16,y 17,y 18,.sc (.int .i64 s.measures.l.length),.sc (.int .i64 j),y 21,y 22,y 23,y 24,y 25,y 26,y 27,y 28,y 29,y 30,y 31,y 32,y 33,y 34,y 35,y 36,y 37,y 38,y 39,y 40,y 41,y 42,y 43,y 44,y 45,y 46,y 47,y 48,y 49,y 50,y 51,y 52,y 53,y 54]) (k:=s.measures.l.length) ?_
    ⟨0,fp,s.measures.l.map Measure.cl,by omega,by rw [List.length_map],fun c m hc => by omega,fun c m _ hm => by rw [List.getElem?_map,hm]; rfl,hS,fun _ _ _ _ => rfl,ho,hfR,Nat.le_refl _,ex_x rfl⟩
  clear k1 k2 k3 k4 k5 k6 hlw d2 d3 d4 d5 s2 s3 s4 s5 hlv3 hfR ho hS
  rintro k t H ⟨j,fp2,X,hk,hXl,hX1,hX2,hq',hsm,hoH,hfp2,hn,y,rfl⟩
  have cc1:=(hsm ba hba1 hba.1 hba.2).trans c1
  have cc2:=(hsm bc hbc1 hbc.1 hbc.2).trans c2
  by_cases c3 : (j : Int) < (s.measures.l.length : Int)
  · obtain ⟨m,hm⟩ : ∃ m,s.measures.l[j]? = some m:=⟨_,List.getElem?_eq_getElem (by omega)⟩
    have hmm:=List.mem_of_getElem? hm
    have hFNm:=hFN m hmm
    have hwm:=hwh m hmm
    have e2 : IntKind.i64.wrap ((j : Int) + 1) = ((j + 1 : Nat) : Int):=by rw [w64 (by omega) (by omega)]; omega
    have e3 : IntKind.i64.wrap ((F : Int) + (N : Int)) = ((F + N : Nat) : Int):=by rw [w64 (by omega) (by omega)]; omega
    obtain ⟨v,f3',e4,w1,w2,w3⟩:=hoH.fit (j:=3) (u:=slm Measure.enc (some X)) rfl
    cases e4
    obtain ⟨b',off',cap',ds',w',fw',rfl,k1,k2,k3,k4,k5,k6,k7⟩:=slot_put (d:=5) (j:=21) (u:=slm Cell.enc m.cl.cells) row_Measure (by decide) w1 (show (Sl.l (some X))[j]? = some m.cl from hX2 j m (Nat.le_refl _) hm) rfl
    try simp only [l_some] at k2
    have hjX : j < X.length:=by omega
    have hmcl : m.cl.cells.l.length = m.cells.l.length:=by
      have e : m.cl.cells.l = m.cells.l.map Cell.cl:=l_of
      rw [e,List.length_map]
    simp -implicitDefEqProofs (maxDischargeDepth:=12) only [WW,List.replicate,e_splice,if_true,if_false,ite_true,ite_false,true_or,ne_eq,seval,h_putc,beq_self_eq_true,eq_self,exists_eq_left,exists_eq_left',c3,hq',hjX,k1,k4,cc1,cc2,e3]
    refine wA_call h108 ((del_own (d:=5) row_Cell (by decide) ok108d rfl rfl k5 (Nat.le_add_right F N) (by rw [hmcl]; exact hwm.1) (by rw [hmcl]; exact hwm.2)).mono ?_)
    rintro o H6 ⟨v',f6,rfl,t2,t3,t4,t5⟩
    have hbw : b' ∉ fw':=fun h => (k6 b' h).2 rfl
    have hqf : q ∉ fw':=fun h => hqR (hfp2 q (w2 q (k6 q h).1))
    have uq:=(t4 q hqf).trans hq'
    have kb6:=(t4 b' hbw).trans k1
    refine ⟨_,rfl,by simp -implicitDefEqProofs (maxDischargeDepth:=12) only [WW,List.replicate,e_splice,if_true,if_false,ite_true,ite_false,true_or,ne_eq,seval,h_putc,beq_self_eq_true,eq_self,exists_eq_left,exists_eq_left',uq,hq'],?_⟩
    simp -implicitDefEqProofs (maxDischargeDepth:=12) only [WW,List.replicate,if_true,if_false,ite_true,ite_false,true_or,ne_eq,seval,beq_self_eq_true,eq_self,exists_eq_left,exists_eq_left',kb6,k2,e2,hjX,(own_len t2).2.1,(own_len t2).2.2,os_cons,os_nil]
    have hb6 : b' ∉ f6:=fun h => hbw (t3 b' h)
    have hput : ∀ (z : Option Blk) c,c ≠ b'→(H6.put b' z).cells c = H6.cells c:=fun z c hc => c_put_ne hc
    obtain ⟨fp',r1,r2⟩:=k7 (delNew F N m) (slm Cell.enc (m.cl.cells.del F (F + N))) rfl (H6.put b' (some (.cells (splice ds' (off' + j * 22 + 21) [v'])))) v' f6 (t2.frame fun c hc => hput _ c (fun e => hb6 (e ▸ hc))) (h_put_self kb6)
      (fun c hc hcb hcw => by rw [hput _ c hcb,t4 c hcw]) (fun c hc => .inl (t3 c hc)) hb6
    obtain ⟨fq,q1,q2⟩:=w3 _ (slm Measure.enc (some (X.set j (delNew F N m)))) _ fp' r1 (fun c hc hc2 => by
      have hcb : c ≠ b':=fun e => hc2 (e ▸ k3)
      rw [hput _ c hcb,t4 c (fun h => hc2 (k6 c h).1)]) (fun c hc => by
      rcases r2 c hc with h | h
      · exact .inl h
      · exact .inl (k6 c (t3 c h)).1)
    have hbR:=hfp2 b' (w2 b' k3)
    have hbq : b' ≠ q:=fun e => hqR (e ▸ hbR)
    refine ⟨k - 1,by omega,j + 1,fq,X.set j (delNew F N m),by omega,by rw [List.length_set]; exact hXl,fun c m' hc hm' => ?_,fun c m' hc hm' => ?_,?_,fun c hc hcq hcR => ?_,q1,fun c hc => ?_,by (try simp only [AHeap.next_put]); omega,ex_x rfl⟩
    · rw [List.getElem?_set]
      by_cases e : j = c
      · subst e
        rw [hm] at hm'; cases hm'
        rw [if_pos rfl,if_pos hjX]
      · rw [if_neg e]; exact hX1 c m' (by omega) hm'
    · rw [List.getElem?_set_ne (by omega)]; exact hX2 c m' (by omega) hm'
    · rw [hput _ q (fun e => hbq e.symm)]; exact uq
    · rw [hput _ c (fun e => hcR (e ▸ hbR)),t4 c (fun h => hcR (hfp2 c (w2 c (k6 c h).1)))]; exact hsm c hc hcq hcR
    · rcases q2 c hc with h | h
      · rcases r2 c h with h | h
        · exact hfp2 c (w2 c h)
        · exact hfp2 c (w2 c (k6 c (t3 c h)).1)
      · exact hfp2 c h.1
  have hj : j = s.measures.l.length:=by omega
  subst hj
  have hX : X = s.measures.l.map (delNew F N):=by
    apply List.ext_getElem?
    intro c
    by_cases hc : c < s.measures.l.length
    · obtain ⟨m,hm⟩ : ∃ m,s.measures.l[c]? = some m:=⟨_,List.getElem?_eq_getElem hc⟩
      rw [hX1 c m hc hm,List.getElem?_map,hm]; rfl
    · rw [List.getElem?_eq_none (by omega),List.getElem?_eq_none (by simp; omega)]
  subst hX
  have e5 : IntKind.i64.wrap ((i : Int) + 1) = ((i + 1 : Nat) : Int):=by rw [w64 (by omega) (by omega)]; omega
  obtain ⟨v,f2',e4,w1,w2,w3⟩:=own_put (a:=s.cl.withMs (s.measures.l.map (delNew F N))) (a':=s.delP i N) (j:=2) (u:=slm Part.enc s.cl.parts) (u':=slm Part.enc (s.cl.parts.del i (i + 1))) hq' hoH hfp2 hqR rfl (by rw [← hF]; rfl)
  cases e4
  simp -implicitDefEqProofs (maxDischargeDepth:=12) only [WW,List.replicate,e_splice,if_true,if_false,ite_true,ite_false,true_or,ne_eq,seval,h_putc,beq_self_eq_true,eq_self,exists_eq_left,exists_eq_left',c3,hq',cc1,e5]
  refine wA_call h109 ((del_own (d:=6) row_Part (by decide) ok109d rfl rfl w1 (Nat.le_succ i) (by rw [hpl]; omega) (by rw [hpl]; exact hb2)).mono ?_)
  rintro o H6 ⟨v',f',rfl,k1,k2,k3,k4⟩
  refine ⟨_,rfl,by simp only [k_nil],?_⟩
  have z:=(k3 q (fun h => hqR (w2 q h))).trans hq'
  simp -implicitDefEqProofs (maxDischargeDepth:=12) only [WW,List.replicate,if_true,if_false,ite_true,ite_false,true_or,ne_eq,seval,beq_self_eq_true,eq_self,exists_eq_left,exists_eq_left',z,(own_len k1).2.1,(own_len k1).2.2,cr_nil]
  have hfin:=w3 H6 v' f' k1 (fun b _ hb2 => k3 b hb2) (fun b hb => .inl (k2 b hb)) (fun h => hqR (w2 q (k2 q h))) z (own_len k1).2.2
  refine ⟨R ++ f',hfin,fun b hb => ?_,fun b hb hbq hbR => ?_,by (try simp only [AHeap.next_put]); omega⟩
  · rcases List.mem_append.1 hb with h | h
    · exact .inl h
    · exact .inl (w2 b (k2 b h))
  · rw [c_put_ne hbq,k3 b (fun h => hbR (w2 b h))]; exact hsm b hb hbq hbR
end Go.Hem
namespace Go.Hem
variable {pol : Pol}
theorem callee107 (args : List AV) : acallee prog 107 args = some (.call 107 args):=by kernel_rfl
theorem stavesOf_atP {p : Part} : ∀ {l : List Part} {i : Nat},l[i]? = some p→stavesOf (l.take i) + p.staves.l.length ≤ stavesOf l
  | [],i,h => by simp at h
  | q :: l,0,h => by
    simp only [List.getElem?_cons_zero,Option.some.injEq] at h
    subst h
    simp [stavesOf]
  | q :: l,i + 1,h => by
    have:=stavesOf_atP (l:=l) (i:=i) (by simpa using h)
    simp only [List.take_succ_cons,stavesOf,List.map_cons,List.sum_cons] at this ⊢
    omega
theorem delp_er (s : Score) (i : Int) (h : i < 0 ∨ (s.parts.l.length : Int) ≤ i) : Pv prog pol 61 [s.enc,.sc (.int .i64 i)] (erAV 2):=by
  refine Pv_of' ok61 (by simp only [AV.closedBs,Score.enc_closed,AV.closedB,Bool.and_self]) ?_
  by_cases h0 : i < 0
  · simp -implicitDefEqProofs (maxDischargeDepth:=12) only [wpF,cf61,WW,List.replicate,e_splice,if_true,if_false,ite_true,ite_false,true_or,ne_eq,seval,h_putc,beq_self_eq_true,eq_self,exists_eq_left,exists_eq_left',s.enc_eq,h0]
    exact frz_plain rfl (plain_er 2)
  · have h1 : (s.parts.l.length : Int) ≤ i:=by omega
    simp -implicitDefEqProofs (maxDischargeDepth:=12) only [wpF,cf61,WW,List.replicate,e_splice,if_true,if_false,ite_true,ite_false,true_or,ne_eq,seval,h_putc,beq_self_eq_true,eq_self,exists_eq_left,exists_eq_left',s.enc_eq,h0,h1]
    exact frz_plain rfl (plain_er 2)
theorem delp_fo (hp : DpPol pol) (s : Score) (hT : Tame s) (i : Nat) (h : i < s.parts.l.length) (hw : wholeB s = false) : Pv prog pol 61 [s.enc,.sc (.int .i64 i)] (erAV 3):=by
  obtain ⟨hpr,hwh,h29,h72,h93,h107,h108,h109⟩:=hp
  refine Pv_of' ok61 (by simp only [AV.closedBs,Score.enc_closed,AV.closedB,Bool.and_self]) ?_
  have h0 : ¬ (i : Int) < 0:=by omega
  have h1 : ¬ (s.parts.l.length : Int) ≤ (i : Int):=by omega
  simp -implicitDefEqProofs (maxDischargeDepth:=12) only [wpF,cf61,WW,List.replicate,e_splice,if_true,if_false,ite_true,ite_false,true_or,ne_eq,seval,h_putc,beq_self_eq_true,eq_self,exists_eq_left,exists_eq_left',s.enc_eq,h0,h1]
  try rw [← s.enc_eq]
  refine wA_pure h72 (whole_pv hwh s hT) ?_
  rw [hw]
  simp -implicitDefEqProofs (maxDischargeDepth:=12) only [WW,List.replicate,e_splice,if_true,if_false,ite_true,ite_false,true_or,ne_eq,seval,h_putc,beq_self_eq_true,eq_self,exists_eq_left,exists_eq_left']
  exact frz_plain rfl (plain_er 3)
theorem delp_ok (hp : DpPol pol) (s : Score) (hs : s.tame) (hT : Tame s) (i : Nat) (p : Part) (hi : s.parts.l[i]? = some p) (hw : wholeB s = true) (hst : stavesOf s.parts.l < 1000) (hpn : s.parts.l.length < 1000) (ha : (s.delP i p.staves.l.length).tame) (hTa : Tame (s.delP i p.staves.l.length)) : Pv prog pol 61 [s.enc,.sc (.int .i64 i)] (okAV (s.delP i p.staves.l.length).pr):=by
  obtain ⟨hpr,hwh,h29,h72,h93,h107,h108,h109⟩:=hp
  refine Pv_of' ok61 (by simp only [AV.closedBs,Score.enc_closed,AV.closedB,Bool.and_self]) ?_
  have hil : i < s.parts.l.length:=(List.getElem?_eq_some_iff.1 hi).1
  have h0 : ¬ (i : Int) < 0:=by omega
  have h1 : ¬ (s.parts.l.length : Int) ≤ (i : Int):=by omega
  have hmb:=hT.measures
  have h : i ≤ s.parts.l.length:=by omega
  simp -implicitDefEqProofs (maxDischargeDepth:=12) only [wpF,cf61,WW,List.replicate,e_splice,if_true,if_false,ite_true,ite_false,true_or,ne_eq,seval,h_putc,beq_self_eq_true,eq_self,exists_eq_left,exists_eq_left',s.enc_eq,h0,h1]
  try rw [← s.enc_eq]
  refine wA_pure h72 (whole_pv hwh s hT) ?_
  rw [hw]
  simp -implicitDefEqProofs (maxDischargeDepth:=12) only [WW,List.replicate,e_splice,if_true,if_false,ite_true,ite_false,true_or,ne_eq,seval,h_putc,beq_self_eq_true,eq_self,exists_eq_left,exists_eq_left',e_cutm Part.enc_len,h]
  have hXp : Sl.l (Option.map (fun x => List.take i x) s.parts) = s.parts.l.take i:=sl_take s.parts i
  have hle:=stavesOf_le (l:=s.parts.l) (i:=i)
  have hst0:=staves_pv (pol:=pol) (⟨⟨#[]⟩,false,Option.map (fun x => List.take i x) s.parts,Option.none,Option.none,Option.none⟩ : Score) (by show stavesOf (Sl.l _) < _; rw [hXp]; omega) (by show (Sl.l _).length < _; rw [hXp,List.length_take]; omega)
  refine wA_pure hwh.1 hst0 ?_
  clear hst0
  rw [show (Score.parts ⟨⟨#[]⟩,false,Option.map (fun x => List.take i x) s.parts,Option.none,Option.none,Option.none⟩) = Option.map (fun x => List.take i x) s.parts from rfl,hXp]
  simp -implicitDefEqProofs (maxDischargeDepth:=12) only [WW,List.replicate,e_splice,if_true,if_false,ite_true,ite_false,true_or,ne_eq,seval,h_putc,beq_self_eq_true,eq_self,exists_eq_left,exists_eq_left']
  try rw [← s.enc_eq]
  have hwhs : ∀ m ∈ s.measures.l,s.firstOf i + p.staves.l.length ≤ m.cells.l.length∧m.cells.l.length < 1000000:=fun m hm => by
    unfold wholeB at hw
    rw [List.all_eq_true] at hw
    have e : m.cells.l.length = stavesOf s.parts.l:=by simpa using hw m hm
    have:=stavesOf_atP hi
    unfold Score.firstOf
    omega
  refine wA_call h93 ((with_ok2 hpr h29 s hs (s.delP i p.staves.l.length) ha hTa _ rfl _ 107 _ h107 callee107 (chg_delp (ba:=1) (bc:=3) h108 h109 ?_ ?_ hi hwhs hmb (by omega))).mono ?_)
  · simp -implicitDefEqProofs (maxDischargeDepth:=12) only [WW,List.replicate,e_splice,if_true,if_false,ite_true,ite_false,true_or,ne_eq,seval,h_putc,beq_self_eq_true,eq_self,exists_eq_left,exists_eq_left']
  · simp -implicitDefEqProofs (maxDischargeDepth:=12) only [WW,List.replicate,e_splice,if_true,if_false,ite_true,ite_false,true_or,ne_eq,seval,h_putc,beq_self_eq_true,eq_self,exists_eq_left,exists_eq_left']
    rfl
  rintro o H1 ⟨rfl,hK⟩
  refine ⟨_,rfl,by simp only [k_nil],?_⟩
  have g2 : H1.cells 2 = some (Score.enc Score.none).cells:=(hK 2 (by simp -implicitDefEqProofs (maxDischargeDepth:=12) only [WW,List.replicate,e_splice,if_true,if_false,ite_true,ite_false,true_or,ne_eq,seval,h_putc,beq_self_eq_true,eq_self,exists_eq_left,exists_eq_left'])).trans (by simp -implicitDefEqProofs (maxDischargeDepth:=12) only [WW,List.replicate,e_splice,if_true,if_false,ite_true,ite_false,true_or,ne_eq,seval,h_putc,beq_self_eq_true,eq_self,exists_eq_left,exists_eq_left']; rfl)
  simp only [Score.none,Score.enc_eq,c_agg] at g2
  simp -implicitDefEqProofs (maxDischargeDepth:=12) only [WW,List.replicate,e_splice,if_true,if_false,ite_true,ite_false,true_or,ne_eq,seval,h_putc,beq_self_eq_true,eq_self,exists_eq_left,exists_eq_left',g2,(Score.pr _).enc_eq]
  exact frz_plain rfl (plain_ok _)
end Go.Hem
namespace Go.Hem
variable {pol : Pol}
def Measure.withC (m : Measure) (l : List Cell) : Measure:={ m with cells:=some l }
def rdelC (F N : Nat) (m : Measure) : Measure:=m.withC (m.cells.l.take F ++ m.cells.l.drop (F + N))
def Score.rdelP (s : Score) (i N : Nat) : Score:={ s with parts:=some (s.parts.l.take i ++ s.parts.l.drop (i + 1)),measures:=Sl.of (s.measures.l.map (rdelC (s.firstOf i) N)) }
theorem own_withC {m : Measure} {H : AHeap} {v : AV} {l : List Cell} {fp : List Nat} (h : Acc 1 2 Cell.enc H v (some l) fp) : ∃ fq,OwnL (OwnX true 3) H (m.enc.cells.take 21 ++ [v]) (m.withC l).enc.cells fq∧∀ b ∈ fq,b ∈ fp:=by
  obtain ⟨fq,hO,hq⟩:=h.own row_Cell
  refine ⟨[] ++ (fq ++ []),?_,fun b hb => hq b (by simpa using hb)⟩
  have e : (m.withC l).enc.cells = m.enc.cells.take 21 ++ [slm Cell.enc (some l)]:=by
    rw [m.enc_eq,Measure.enc_eq]; rfl
  rw [e]
  refine OwnL.append (OwnL.plain (d:=2) fun x hx => ?_) (.cons (hO.mono (by decide)) .nil Apart.nil_right) Apart.nil_left
  have:=Measure.enc_plain m
  rw [m.enc_eq] at this hx
  simp only [AV.plain2,List.all_eq_true] at this
  exact this x (List.mem_of_mem_take hx)
theorem rdelp_er (s : Score) (i : Int) (h : i < 0 ∨ (s.parts.l.length : Int) ≤ i) : Pv prog pol 62 [s.enc,.sc (.int .i64 i)] (erAV 2):=by
  refine Pv_of' ok62 (by simp only [AV.closedBs,Score.enc_closed,AV.closedB,Bool.and_self]) ?_
  by_cases h0 : i < 0
  · simp -implicitDefEqProofs (maxDischargeDepth:=12) only [wpF,cf62,WW,List.replicate,e_splice,if_true,if_false,ite_true,ite_false,true_or,ne_eq,seval,h_putc,beq_self_eq_true,eq_self,exists_eq_left,exists_eq_left',s.enc_eq,h0]
    exact frz_plain rfl (plain_er 2)
  · have h1 : (s.parts.l.length : Int) ≤ i:=by omega
    simp -implicitDefEqProofs (maxDischargeDepth:=12) only [wpF,cf62,WW,List.replicate,e_splice,if_true,if_false,ite_true,ite_false,true_or,ne_eq,seval,h_putc,beq_self_eq_true,eq_self,exists_eq_left,exists_eq_left',s.enc_eq,h0,h1]
    exact frz_plain rfl (plain_er 2)
theorem rdelp_fo (h20 : pol.pure 20 = true) (h106 : pol.pure 106 = true) (s : Score) (hT : Tame s) (i : Nat) (h : i < s.parts.l.length) (hw : wholeB s = false) : Pv prog pol 62 [s.enc,.sc (.int .i64 i)] (erAV 3):=by
  refine Pv_of' ok62 (by simp only [AV.closedBs,Score.enc_closed,AV.closedB,Bool.and_self]) ?_
  have h0 : ¬ (i : Int) < 0:=by omega
  have h1 : ¬ (s.parts.l.length : Int) ≤ (i : Int):=by omega
  simp -implicitDefEqProofs (maxDischargeDepth:=12) only [wpF,cf62,WW,List.replicate,e_splice,if_true,if_false,ite_true,ite_false,true_or,ne_eq,seval,h_putc,beq_self_eq_true,eq_self,exists_eq_left,exists_eq_left',s.enc_eq,h0,h1]
  try rw [← s.enc_eq]
  refine wA_pure h106 (rformed_pv h20 s hT) ?_
  rw [hw]
  simp -implicitDefEqProofs (maxDischargeDepth:=12) only [WW,List.replicate,e_splice,if_true,if_false,ite_true,ite_false,true_or,ne_eq,seval,h_putc,beq_self_eq_true,eq_self,exists_eq_left,exists_eq_left']
  exact frz_plain rfl (plain_er 3)
theorem rdelp_ok (h20 : pol.pure 20 = true) (h24 : pol.pure 24 = true) (h30 : pol.pure 30 = true) (h16 : pol.pure 16 = true) (h71 : pol.pure 71 = true) (h106 : pol.pure 106 = true) (s : Score) (hT : Tame s) (i : Nat) (p : Part) (hi : s.parts.l[i]? = some p) (hw : wholeB s = true) (hst : stavesOf s.parts.l < 1000) (hpn : s.parts.l.length < 1000) (hTa : Tame (s.rdelP i p.staves.l.length)) : Pv prog pol 62 [s.enc,.sc (.int .i64 i)] (okAV (s.rdelP i p.staves.l.length).pruned):=by
  refine Pv_of' ok62 (by simp only [AV.closedBs,Score.enc_closed,AV.closedB,Bool.and_self]) ?_
  have hil : i < s.parts.l.length:=(List.getElem?_eq_some_iff.1 hi).1
  have h0 : ¬ (i : Int) < 0:=by omega
  have h1 : ¬ (s.parts.l.length : Int) ≤ (i : Int):=by omega
  have hmb:=hT.measures
  have h : i ≤ s.parts.l.length:=by omega
  simp -implicitDefEqProofs (maxDischargeDepth:=12) only [wpF,cf62,WW,List.replicate,e_splice,if_true,if_false,ite_true,ite_false,true_or,ne_eq,seval,h_putc,beq_self_eq_true,eq_self,exists_eq_left,exists_eq_left',s.enc_eq,h0,h1]
  try rw [← s.enc_eq]
  refine wA_pure h106 (rformed_pv h20 s hT) ?_
  rw [hw]
  simp -implicitDefEqProofs (maxDischargeDepth:=12) only [WW,List.replicate,e_splice,if_true,if_false,ite_true,ite_false,true_or,ne_eq,seval,h_putc,beq_self_eq_true,eq_self,exists_eq_left,exists_eq_left',hi,p.enc_eq]
  try rw [← s.enc_eq]
  refine wA_pure h24 (rfirst_pv s i (by omega) (by omega) h) ?_
  simp -implicitDefEqProofs (maxDischargeDepth:=12) only [WW,List.replicate,e_splice,if_true,if_false,ite_true,ite_false,true_or,ne_eq,seval,h_putc,beq_self_eq_true,eq_self,exists_eq_left,exists_eq_left']
  have hFd : s.firstOf i = stavesOf (s.parts.l.take i):=rfl
  have hwhs : ∀ m ∈ s.measures.l,s.firstOf i + p.staves.l.length ≤ m.cells.l.length∧m.cells.l.length < 1000:=fun m hm => by
    unfold wholeB at hw
    rw [List.all_eq_true] at hw
    have e : m.cells.l.length = stavesOf s.parts.l:=by simpa using hw m hm
    have:=stavesOf_atP hi
    rw [hFd]
    omega
  rw [← hFd]
  clear hFd
  generalize hF : s.firstOf i = F at *
  generalize hN : p.staves.l.length = N at *
  have fC : ∀ v,(Cell.enc v).cells.length = 2:=Cell.enc_len
  refine wp_loop (Inv:=fun k t H => ∃ (j : Nat) (fp : List Nat) (a : AV),j + k = s.measures.l.length∧H.cells 0 = some s.enc.cells∧H.cells 1 = some [.sc (.str ⟨#[]⟩),.sc (.bool false),.sc .nils,.sc .nils,.sc .nils,.sc .nils] ∧
    Acc 3 22 Measure.enc H a (Sl.of ((s.measures.l.take j).map (rdelC F N))) fp∧(∀ b ∈ fp,2 ≤ b) ∧
    ∃ y : Nat→AV,t = [s.enc,.sc (.int .i64 i),.ptr 0 0,y 3,.ptr 1 0,.sc (.int .i64 0),.sc (.int .i64 F),.sc (.int .i64 N),a,.sc (.int .i64 j),y 10,y 11,y 12,y 13,y 14,y 15,y 16,y 17,y 18,y 19,y 20,y 21,y 22,y 23,y 24,y 25,y 26,y 27,y 28,y 29,y 30,y 31,y 32,y 33,y 34,y 35,y 36,y 37,y 38,y 39,y 40,y 41,y 42,y 43,y 44,y 45,y 46,y 47,y 48,y 49,y 50,y 51,y 52,y 53,y 54,y 55,y 56,y 57,y 58,y 59,y 60,y 61,y 62,y 63,y 64,y 65,y 66,y 67,y 68,y 69,y 70,y 71,y 72,y 73,y 74,y 75,y 76,y 77,y 78,y 79,y 80,y 81]) (k:=s.measures.l.length) ?_
    ⟨0,[],_,by omega,?_,?_,acc_none,by simp,ex_x rfl⟩
  rotate_left
  · simp -implicitDefEqProofs (maxDischargeDepth:=12) only [WW,List.replicate,e_splice,if_true,if_false,ite_true,ite_false,true_or,ne_eq,seval,h_putc,beq_self_eq_true,eq_self,exists_eq_left,exists_eq_left']; rfl
  · simp -implicitDefEqProofs (maxDischargeDepth:=12) only [WW,List.replicate,e_splice,if_true,if_false,ite_true,ite_false,true_or,ne_eq,seval,h_putc,beq_self_eq_true,eq_self,exists_eq_left,exists_eq_left']
  rintro k t H ⟨j,fp,a,hk,g0,g1,hA,hfp,y,rfl⟩
  simp only [s.enc_eq,c_agg] at g0
  by_cases c1 : (j : Int) < (s.measures.l.length : Int)
  · obtain ⟨m,hm⟩ : ∃ m,s.measures.l[j]? = some m:=⟨_,List.getElem?_eq_getElem (by omega)⟩
    have hwm:=hwhs m (List.mem_of_getElem? hm)
    have e2 : IntKind.i64.wrap ((j : Int) + 1) = ((j + 1 : Nat) : Int):=by rw [w64 (by omega) (by omega)]; omega
    have e3 : IntKind.i64.wrap ((F : Int) + (N : Int)) = ((F + N : Nat) : Int):=by rw [w64 (by omega) (by omega)]; omega
    have q1 : F ≤ m.cells.l.length:=by omega
    have q2 : F + N ≤ m.cells.l.length:=hwm.1
    have n0 : ¬ 0 = H.next:=by have:=h_lt g0; omega
    have n1 : ¬ H.next = H.next + 1:=by omega
    have n2 : ¬ H.next + 1 = H.next:=by omega
    simp -implicitDefEqProofs (maxDischargeDepth:=12) only [WW,List.replicate,e_splice,if_true,if_false,ite_true,ite_false,true_or,ne_eq,seval,h_putc,beq_self_eq_true,eq_self,exists_eq_left,exists_eq_left',c1,g0,hm,m.enc_eq,e3,e_cutm fC,q1,q2,n0,n1,n2]
    generalize hHa : AHeap.alloc _ (Blk.cells []) = Ha
    have hNa : Ha.next = H.next + 2:=by subst hHa; simp only [AHeap.next_put,AHeap.next_alloc]
    have a0 : ∀ b,b < H.next→Ha.cells b = H.cells b:=fun b hb => by subst hHa; rw [c_alloc_ne (by simp only [AHeap.next_put,AHeap.next_alloc]; omega),c_put_ne (by omega),c_alloc_ne (by omega)]
    have gM : Ha.cells H.next = some m.enc.cells:=by subst hHa; simp -implicitDefEqProofs (maxDischargeDepth:=12) only [WW,List.replicate,e_splice,if_true,if_false,ite_true,ite_false,true_or,ne_eq,seval,h_putc,beq_self_eq_true,eq_self,exists_eq_left,exists_eq_left',n0,n1,n2,m.enc_eq]
    have gE : Ha.cells (H.next + 1) = some []:=by subst hHa; simp -implicitDefEqProofs (maxDischargeDepth:=12) only [WW,List.replicate,e_splice,if_true,if_false,ite_true,ite_false,true_or,ne_eq,seval,h_putc,beq_self_eq_true,eq_self,exists_eq_left,exists_eq_left',n0,n1,n2]
    simp only [m.enc_eq,c_agg] at gM
    clear hHa
    refine wA_app3F row_Cell (I:=true) (d:=1) (l:=[]) (fp:=[H.next + 1]) (ys:=m.cells.l.take F) (.inr ⟨H.next + 1,0,[],[],[],[],rfl,rfl,Nat.le_refl _,gE,rfl,by simp,.nil,by simp,rfl⟩) (by rw [e_alenm,sl_take]) (by rw [e_srcm fC (by rw [sl_take]; omega),sl_take,List.take_length]) (own_flat Cell.enc_plain (fun v => ⟨_,rfl⟩) _) Apart.nil_right ?_ ?_
    · simp only [List.length_take,List.length_nil]; omega
    intro va Hb fpa hAa hna hka hfpa hoa hca hfra
    have fa : ∀ b ∈ fpa,H.next + 1 ≤ b:=fun b hb => by rcases hfpa b hb with h | h | h <;> first | omega | (simp at h; done) | (simp at h; omega)
    have gM':=gM
    have hka1 : ∀ b,b < H.next + 1→Hb.cells b = Ha.cells b:=fun b hb => hka b (by rw [List.mem_singleton]; omega) (by omega)
    replace gM:=(hka1 H.next (by omega)).trans gM
    clear hka hfra hfpa gE
    simp -implicitDefEqProofs (maxDischargeDepth:=12) only [WW,List.replicate,e_splice,if_true,if_false,ite_true,ite_false,true_or,ne_eq,seval,h_putc,beq_self_eq_true,eq_self,exists_eq_left,exists_eq_left',c1,gM,gM',e3,e_cutm fC,q1,q2,n0,n1,n2]
    have a2 : alen (slm Cell.enc (Option.map (fun x => (x.take m.cells.l.length).drop (F + N)) m.cells)) = some (m.cells.l.drop (F + N)).length:=by rw [e_alenm,sl_drop]
    have a3 : ∀ H,asrc 2 H (slm Cell.enc (Option.map (fun x => (x.take m.cells.l.length).drop (F + N)) m.cells)) (m.cells.l.drop (F + N)).length = some ((m.cells.l.drop (F + N)).flatMap fun v => (Cell.enc v).cells):=fun H => by rw [e_srcm fC (by rw [sl_drop]; omega),sl_drop,List.take_length]
    refine wA_app3F (f:=Cell.enc) (bytes:=48) row_Cell hAa (ys:=m.cells.l.drop (F + N)) a2 (a3 _) (own_flat Cell.enc_plain (fun v => ⟨_,rfl⟩) _) Apart.nil_right (by simp only [List.nil_append,List.length_take,List.length_drop]; omega) ?_
    intro vb Hc fpb hAb hnb hkb hfpb hob hcb hfrb
    have fb : ∀ b ∈ fpb,H.next + 1 ≤ b:=fun b hb => by rcases hfpb b hb with h | h | h <;> first | exact fa b h | omega | (simp at h; done)
    have hkb1 : ∀ b,b < H.next + 1→Hc.cells b = Ha.cells b:=fun b hb => (hkb b (fun h => by have:=fa b h; omega) (by omega)).trans (hka1 b hb)
    replace gM:=(hkb1 H.next (by omega)).trans gM'
    clear hkb hfpb hfrb hAa hka1 gM'
    simp -implicitDefEqProofs (maxDischargeDepth:=12) only [WW,List.replicate,e_splice,if_true,if_false,ite_true,ite_false,true_or,ne_eq,seval,h_putc,beq_self_eq_true,eq_self,exists_eq_left,exists_eq_left',gM,hob,hcb]
    generalize hHe : AHeap.alloc _ (Blk.cells _) = He
    have hNe : He.next = Hc.next + 1:=by subst hHe; simp only [AHeap.next_put,AHeap.next_alloc]
    have gZ : He.cells Hc.next = some (m.enc.cells.take 21 ++ [vb]):=by subst hHe; rw [h_alloc,if_pos (by simp only [AHeap.next_put])]; rw [m.enc_eq]; rfl
    have ae : ∀ b,b < Hc.next→b ≠ H.next→He.cells b = Hc.cells b:=fun b hb h => by subst hHe; rw [c_alloc_ne (by simp only [AHeap.next_put]; omega),c_put_ne h]
    clear hHe
    have hAe : Acc 1 2 Cell.enc He vb (some ([] ++ m.cells.l.take F ++ m.cells.l.drop (F + N))) fpb:=hAb.fr fun b hb => ae b (hAb.lts b hb) (by have:=fb b hb; omega)
    obtain ⟨fq,hOw,hqf⟩:=own_withC (m:=m) hAe
    have hlt:=hA.lts
    have hAe2 : Acc 3 22 Measure.enc He a (Sl.of ((s.measures.l.take j).map (rdelC F N))) fp:=hA.fr fun b hb => by
      have:=hlt b hb
      rw [ae b (by omega) (by omega),hkb1 b (by omega),a0 b (by omega)]
    have hz : (m.enc.cells.take 21 ++ [vb]).length = 22:=by rw [List.length_append,List.length_take,Measure.enc_len]; rfl
    have hjl : j < s.measures.l.length:=by omega
    refine wA_app2 row_Measure hAe2 (by repeat (first | exact Keep.refl | refine Keep.put (by (try simp only [AHeap.next_alloc,AHeap.next_put]); omega) ?_ | refine Keep.alloc (by (try simp only [AHeap.next_alloc,AHeap.next_put]); omega) ?_)) (by simp) (ys:=[rdelC F N m]) (cs1:=m.enc.cells.take 21 ++ [vb]) (fp1:=fq) (by simp) rfl ?_ ?_ ?_ ?_ ?_
    · simp only [asrc,AHeap.rd,gZ,Option.some_or,Option.bind_some,Nat.zero_add,List.drop_zero,Nat.mul_one,Nat.one_mul,List.length_cons,List.length_nil]
      rw [if_pos (by omega),List.take_of_length_le (by omega)]
    · have : ([rdelC F N m].flatMap fun y => (Measure.enc y).cells) = (m.withC ([] ++ m.cells.l.take F ++ m.cells.l.drop (F + N))).enc.cells:=by
        simp only [List.flatMap_cons,List.flatMap_nil,List.append_nil,List.nil_append]; rfl
      rw [this]
      exact hOw
    · intro b h1 h2
      have:=hlt b h1
      have:=fb b (hqf b h2); omega
    · rw [l_of,List.length_map,List.length_take]; simp only [List.length_cons,List.length_nil]; omega
    intro v' H2 fp' hA' hn2 hk2 hfp2 ho2 hc2
    rw [of_snoc'] at hA'
    have hs : (s.measures.l.take j).map (rdelC F N) ++ [rdelC F N m] = (s.measures.l.take (j + 1)).map (rdelC F N):=by
      rw [List.take_add_one,hm,List.map_append]; rfl
    rw [hs] at hA'
    have hall : ∀ b,b < 2→b < H.next→H2.cells b = H.cells b:=fun b hb hb1 => by
      rw [hk2 b (fun h => by have:=hfp b h; omega) (by omega),ae b (by omega) (by omega),hkb1 b (by omega),a0 b (by omega)]
    have l0:=h_lt g0
    have l1:=h_lt g1
    simp -implicitDefEqProofs (maxDischargeDepth:=12) only [WW,List.replicate,e_splice,if_true,if_false,ite_true,ite_false,true_or,ne_eq,seval,h_putc,beq_self_eq_true,eq_self,exists_eq_left,exists_eq_left',e2]
    refine ⟨k - 1,by omega,j + 1,fp',v',by omega,(hall 0 (by omega) l0).trans (by rw [g0,s.enc_eq]; rfl),(hall 1 (by omega) l1).trans g1,hA',fun b hb => ?_,ex_x rfl⟩
    rcases hfp2 b hb with h | h | h
    · exact hfp b h
    · have:=fb b (hqf b h); omega
    · omega
  have hj : j = s.measures.l.length:=by omega
  subst hj
  rw [List.take_length] at hA
  have fP : ∀ v,(Part.enc v).cells.length = 6:=Part.enc_len
  have e5 : IntKind.i64.wrap ((i : Int) + 1) = ((i + 1 : Nat) : Int):=by rw [w64 (by omega) (by omega)]; omega
  have q1 : i ≤ s.parts.l.length:=by omega
  have q2 : i + 1 ≤ s.parts.l.length:=by omega
  have n0 : ¬ 0 = H.next:=by have:=h_lt g0; omega
  have l1:=h_lt g1
  simp -implicitDefEqProofs (maxDischargeDepth:=12) only [WW,List.replicate,e_splice,if_true,if_false,ite_true,ite_false,true_or,ne_eq,seval,h_putc,beq_self_eq_true,eq_self,exists_eq_left,exists_eq_left',c1,g0,e5,e_cutm fP,q1,q2,n0]
  have kE : (H.alloc (Blk.cells [])).cells H.next = some []:=by rw [h_alloc,if_pos rfl]
  refine wA_app3F row_Part (I:=true) (d:=1) (l:=[]) (fp:=[H.next]) (ys:=s.parts.l.take i) (.inr ⟨H.next,0,[],[],[],[],rfl,rfl,Nat.le_refl _,kE,rfl,by simp,.nil,by simp,rfl⟩) (by rw [e_alenm,sl_take]) (by rw [e_srcm fP (by rw [sl_take]; omega),sl_take,List.take_length]) (own_flat Part.enc_plain (fun v => ⟨_,rfl⟩) _) Apart.nil_right ?_ ?_
  · simp only [List.length_take,List.length_nil]; omega
  intro va Ha fpa hAa hna hka hfpa hoa hca hfra
  simp only [AHeap.next_alloc] at hna hka hfpa
  have fa : ∀ b ∈ fpa,H.next ≤ b:=fun b hb => by rcases hfpa b hb with h | h | h <;> first | omega | (simp at h; done) | (simp at h; omega)
  have ka : ∀ b,b < H.next→Ha.cells b = H.cells b:=fun b hb => by rw [hka b (by rw [List.mem_singleton]; omega) (by omega),c_alloc_ne (by omega)]
  have g0':=(ka 0 (h_lt g0)).trans g0
  clear hka hfra hfpa kE
  simp -implicitDefEqProofs (maxDischargeDepth:=12) only [WW,List.replicate,e_splice,if_true,if_false,ite_true,ite_false,true_or,ne_eq,seval,h_putc,beq_self_eq_true,eq_self,exists_eq_left,exists_eq_left',g0,g0',e5,e_cutm fP,q1,q2,n0]
  have a2 : alen (slm Part.enc (Option.map (fun x => (x.take s.parts.l.length).drop (i + 1)) s.parts)) = some (s.parts.l.drop (i + 1)).length:=by rw [e_alenm,sl_drop]
  have a3 : ∀ H,asrc 6 H (slm Part.enc (Option.map (fun x => (x.take s.parts.l.length).drop (i + 1)) s.parts)) (s.parts.l.drop (i + 1)).length = some ((s.parts.l.drop (i + 1)).flatMap fun v => (Part.enc v).cells):=fun H => by rw [e_srcm fP (by rw [sl_drop]; omega),sl_drop,List.take_length]
  refine wA_app3F (f:=Part.enc) (bytes:=72) row_Part hAa (ys:=s.parts.l.drop (i + 1)) a2 (a3 _) (own_flat Part.enc_plain (fun v => ⟨_,rfl⟩) _) Apart.nil_right (by simp only [List.nil_append,List.length_take,List.length_drop]; omega) ?_
  intro vb Hb fpb hAb hnb hkb hfpb hob hcb hfrb
  have fb : ∀ b ∈ fpb,H.next ≤ b:=fun b hb => by rcases hfpb b hb with h | h | h <;> first | exact fa b h | omega | (simp at h; done)
  have kb : ∀ b,b < H.next→Hb.cells b = H.cells b:=fun b hb => (hkb b (fun h => by have:=fa b h; omega) (by omega)).trans (ka b hb)
  have x0:=(kb 0 (h_lt g0)).trans g0
  have x1:=(kb 1 l1).trans g1
  have hlt:=hA.lts
  have hAx : Acc 3 22 Measure.enc Hb a (Sl.of (s.measures.l.map (rdelC F N))) fp:=hA.fr fun b hb => kb b (hlt b hb)
  clear hkb hfrb hfpb hA hAa ka g0 g0' g1 kb
  have l0:=h_lt x0
  have oo : a.one = true∧a.cells = [a]:=⟨hAx.one,hAx.cells⟩
  simp -implicitDefEqProofs (maxDischargeDepth:=12) only [WW,List.replicate,e_splice,if_true,if_false,ite_true,ite_false,true_or,ne_eq,seval,h_putc,beq_self_eq_true,eq_self,exists_eq_left,exists_eq_left',x0,hob,hcb,oo.1,oo.2]
  generalize hHd : AHeap.put _ 0 _ = Hd
  have kd : ∀ b,b ≠ 0→Hd.cells b = Hb.cells b:=fun b hb => by subst hHd; rw [c_put_ne hb,c_put_ne hb]
  have y1:=(kd 1 (by decide)).trans x1
  have hl1:=h_lt y1
  clear hHd
  have hbd : Acc 1 6 Part.enc Hd vb (some ([] ++ s.parts.l.take i ++ s.parts.l.drop (i + 1))) fpb:=hAb.fr fun b hb => kd b (by have:=fb b hb; omega)
  have hxd : Acc 3 22 Measure.enc Hd a (Sl.of (s.measures.l.map (rdelC F N))) fp:=hAx.fr fun b hb => kd b (by have:=hfp b hb; omega)
  obtain ⟨f1,o1,r1⟩:=hbd.own row_Part
  obtain ⟨f2,o2,r2⟩:=hxd.own row_Measure
  have ap : Apart f1 f2:=fun b h1 h2 => by have:=fb b (r1 b h1); have:=hlt b (r2 b h2); omega
  have hO : Own 20 Hd (.agg [.sc (.str s.title),.sc (.bool s.written),vb,a,slm Spanner.enc s.spanners,slm ID.enc s.last]) (s.rdelP i N).enc ([] ++ ([] ++ (f1 ++ (f2 ++ ([] ++ ([] ++ [])))))):=by
    subst hF
    refine (show Own 5 Hd _ _ _ from ?_).mono (by decide)
    exact ⟨_,rfl,.cons .scal (.cons .scal (.cons (o1.mono (by decide)) (.cons o2 (.cons (own_imm Spanner.enc_closed) (.cons (own_imm ID.enc_closed) .nil Apart.nil_left) Apart.nil_left) Apart.nil_right) (fun b h1 h2 => ap b h1 (by simpa using h2))) Apart.nil_left) Apart.nil_left⟩
  refine wA_pvf h30 (pvf_ownB (by simp only [AV.closedBs,AV.closedB,hbd.open,Bool.and_false,Bool.false_and]) (.cons hO .nil Apart.nil_right) (rprune_pv h16 h71 (s.rdelP i N) hTa) fun H9 hless hlf => ?_)
  have z1:=(cells_of_get (hless 1 (fun h => by
    simp only [List.nil_append,List.append_nil,List.mem_append] at h
    rcases h with h | h
    · have:=fb _ (r1 _ h); omega
    · have:=hfp _ (r2 _ h); omega))).trans y1
  refine ⟨by simp only [k_nil],?_⟩
  simp -implicitDefEqProofs (maxDischargeDepth:=12) only [WW,List.replicate,e_splice,if_true,if_false,ite_true,ite_false,true_or,ne_eq,seval,h_putc,beq_self_eq_true,eq_self,exists_eq_left,exists_eq_left',z1,Score.enc_eq]
  exact frz_plain rfl (plain_ok _)
end Go.Hem
namespace Go.Hem
variable {pol : Pol}
def rinsC (F : Nat) (m : Measure) (r : Sl Cell) : Measure:=m.withC (m.cells.l.take F ++ r.l ++ m.cells.l.drop F)
def Score.rinsP (s : Score) (i : Nat) (p : Part) (cells : Sl (Sl Cell)) : Score:={ s with parts:=some (s.parts.l.take i ++ [p] ++ s.parts.l.drop i),measures:=Sl.of (List.zipWith (rinsC (s.firstOf i)) s.measures.l cells.l) }
theorem rinsp_er (s : Score) (i : Int) (p : Part) (cells : Sl (Sl Cell)) (h : i < 0 ∨ (s.parts.l.length : Int) < i) : Pv prog pol 60 [s.enc,.sc (.int .i64 i),p.enc,slm rowE cells] (erAV 2):=by
  refine Pv_of' ok60 (by simp only [AV.closedBs,Score.enc_closed,Part.enc_closed,AV.closedB,closedB_slm rowE_closed,Bool.and_self]) ?_
  by_cases h0 : i < 0
  · simp -implicitDefEqProofs (maxDischargeDepth:=12) only [wpF,cf60,WW,List.replicate,e_splice,if_true,if_false,ite_true,ite_false,true_or,ne_eq,seval,h_putc,beq_self_eq_true,eq_self,exists_eq_left,exists_eq_left',s.enc_eq,p.enc_eq,h0]
    exact frz_plain rfl (plain_er 2)
  · have h1 : (s.parts.l.length : Int) < i:=by omega
    simp -implicitDefEqProofs (maxDischargeDepth:=12) only [wpF,cf60,WW,List.replicate,e_splice,if_true,if_false,ite_true,ite_false,true_or,ne_eq,seval,h_putc,beq_self_eq_true,eq_self,exists_eq_left,exists_eq_left',s.enc_eq,p.enc_eq,h0,h1]
    exact frz_plain rfl (plain_er 2)
theorem rinsp_fo (h20 : pol.pure 20 = true) (h106 : pol.pure 106 = true) (s : Score) (hT : Tame s) (i : Nat) (p : Part) (cells : Sl (Sl Cell)) (h : i ≤ s.parts.l.length) (h2 : s.parts.l.length < 32) (hw : wholeB s = false) : Pv prog pol 60 [s.enc,.sc (.int .i64 i),p.enc,slm rowE cells] (erAV 3):=by
  refine Pv_of' ok60 (by simp only [AV.closedBs,Score.enc_closed,Part.enc_closed,AV.closedB,closedB_slm rowE_closed,Bool.and_self]) ?_
  have h0 : ¬ (i : Int) < 0:=by omega
  have h1 : ¬ (s.parts.l.length : Int) < (i : Int):=by omega
  have h3 : ¬ (32 : Int) ≤ (s.parts.l.length : Int):=by omega
  simp -implicitDefEqProofs (maxDischargeDepth:=12) only [wpF,cf60,WW,List.replicate,e_splice,if_true,if_false,ite_true,ite_false,true_or,ne_eq,seval,h_putc,beq_self_eq_true,eq_self,exists_eq_left,exists_eq_left',s.enc_eq,p.enc_eq,h0,h1,h3]
  try rw [← s.enc_eq]
  refine wA_pure h106 (rformed_pv h20 s hT) ?_
  rw [hw]
  simp -implicitDefEqProofs (maxDischargeDepth:=12) only [WW,List.replicate,e_splice,if_true,if_false,ite_true,ite_false,true_or,ne_eq,seval,h_putc,beq_self_eq_true,eq_self,exists_eq_left,exists_eq_left']
  exact frz_plain rfl (plain_er 3)
theorem rinsp_le (h20 : pol.pure 20 = true) (h106 : pol.pure 106 = true) (s : Score) (hT : Tame s) (i : Nat) (p : Part) (cells : Sl (Sl Cell)) (h : i ≤ s.parts.l.length) (h2 : s.parts.l.length < 32) (hw : wholeB s = true) (hl : cells.l.length ≠ s.measures.l.length) : Pv prog pol 60 [s.enc,.sc (.int .i64 i),p.enc,slm rowE cells] (erAV 20):=by
  refine Pv_of' ok60 (by simp only [AV.closedBs,Score.enc_closed,Part.enc_closed,AV.closedB,closedB_slm rowE_closed,Bool.and_self]) ?_
  have h0 : ¬ (i : Int) < 0:=by omega
  have h1 : ¬ (s.parts.l.length : Int) < (i : Int):=by omega
  have h3 : ¬ (32 : Int) ≤ (s.parts.l.length : Int):=by omega
  have h5 : ¬ (cells.l.length : Int) = (s.measures.l.length : Int):=by omega
  simp -implicitDefEqProofs (maxDischargeDepth:=12) only [wpF,cf60,WW,List.replicate,e_splice,if_true,if_false,ite_true,ite_false,true_or,ne_eq,seval,h_putc,beq_self_eq_true,eq_self,exists_eq_left,exists_eq_left',s.enc_eq,p.enc_eq,h0,h1,h3]
  try rw [← s.enc_eq]
  refine wA_pure h106 (rformed_pv h20 s hT) ?_
  rw [hw]
  simp -implicitDefEqProofs (maxDischargeDepth:=12) only [WW,List.replicate,e_splice,if_true,if_false,ite_true,ite_false,true_or,ne_eq,seval,h_putc,beq_self_eq_true,eq_self,exists_eq_left,exists_eq_left',h5]
  exact frz_plain rfl (plain_er 20)
theorem rinsp_ok (h20 : pol.pure 20 = true) (h24 : pol.pure 24 = true) (h106 : pol.pure 106 = true) (s : Score) (hT : Tame s) (i : Nat) (p : Part) (cells : Sl (Sl Cell)) (h : i ≤ s.parts.l.length) (h2 : s.parts.l.length < 32) (hw : wholeB s = true) (hl : cells.l.length = s.measures.l.length) (hst : stavesOf s.parts.l < 1000) (hps : p.staves.l.length < 1000) (r : AV) (hr : r = if cells.l.any (badR p.staves.l.length) then erAV 20 else okAV (s.rinsP i p cells)) : Pv prog pol 60 [s.enc,.sc (.int .i64 i),p.enc,slm rowE cells] r:=by
  refine Pv_of' ok60 (by simp only [AV.closedBs,Score.enc_closed,Part.enc_closed,AV.closedB,closedB_slm rowE_closed,Bool.and_self]) ?_
  have h0 : ¬ (i : Int) < 0:=by omega
  have h1 : ¬ (s.parts.l.length : Int) < (i : Int):=by omega
  have h3 : ¬ (32 : Int) ≤ (s.parts.l.length : Int):=by omega
  have h5 : (cells.l.length : Int) = (s.measures.l.length : Int):=by omega
  have hmb:=hT.measures
  simp -implicitDefEqProofs (maxDischargeDepth:=12) only [wpF,cf60,WW,List.replicate,e_splice,if_true,if_false,ite_true,ite_false,true_or,ne_eq,seval,h_putc,beq_self_eq_true,eq_self,exists_eq_left,exists_eq_left',s.enc_eq,p.enc_eq,h0,h1,h3]
  try rw [← s.enc_eq]
  refine wA_pure h106 (rformed_pv h20 s hT) ?_
  rw [hw]
  simp -implicitDefEqProofs (maxDischargeDepth:=12) only [WW,List.replicate,e_splice,if_true,if_false,ite_true,ite_false,true_or,ne_eq,seval,h_putc,beq_self_eq_true,eq_self,exists_eq_left,exists_eq_left',h5]
  try rw [← s.enc_eq]
  refine wA_pure h24 (rfirst_pv s i (by omega) (by omega) h) ?_
  simp -implicitDefEqProofs (maxDischargeDepth:=12) only [WW,List.replicate,e_splice,if_true,if_false,ite_true,ite_false,true_or,ne_eq,seval,h_putc,beq_self_eq_true,eq_self,exists_eq_left,exists_eq_left']
  have hFd : s.firstOf i = stavesOf (s.parts.l.take i):=rfl
  have hwhs : ∀ m ∈ s.measures.l,s.firstOf i ≤ m.cells.l.length∧m.cells.l.length < 1000:=fun m hm => by
    unfold wholeB at hw
    rw [List.all_eq_true] at hw
    have e : m.cells.l.length = stavesOf s.parts.l:=by simpa using hw m hm
    have:=stavesOf_le (l:=s.parts.l) (i:=i)
    rw [hFd]
    omega
  rw [← hFd]
  clear hFd
  generalize hF : s.firstOf i = F at *
  generalize hN : p.staves.l.length = N at *
  have fC : ∀ v,(Cell.enc v).cells.length = 2:=Cell.enc_len
  refine wp_loop (Inv:=fun k t H => ∃ (j : Nat) (fp : List Nat) (a : AV),j + k = s.measures.l.length∧H.cells 0 = some s.enc.cells∧H.cells 1 = some p.enc.cells∧H.cells 2 = some [.sc (.str ⟨#[]⟩),.sc (.bool false),.sc .nils,.sc .nils,.sc .nils,.sc .nils] ∧
    Acc 3 22 Measure.enc H a (Sl.of (List.zipWith (rinsC F) (s.measures.l.take j) (cells.l.take j))) fp∧(∀ b ∈ fp,3 ≤ b)∧(∀ c x,c < j→cells.l[c]? = some x→badR N x = false) ∧
    ∃ y : Nat→AV,t = [s.enc,.sc (.int .i64 i),p.enc,slm rowE cells,.ptr 0 0,y 5,.ptr 1 0,y 7,.ptr 2 0,.sc (.int .i64 0),.sc (.int .i64 F),a,.sc (.int .i64 j),y 13,y 14,y 15,y 16,y 17,y 18,y 19,y 20,y 21,y 22,y 23,y 24,y 25,y 26,y 27,y 28,y 29,y 30,y 31,y 32,y 33,y 34,y 35,y 36,y 37,y 38,y 39,y 40,y 41,y 42,y 43,y 44,y 45,y 46,y 47,y 48,y 49,y 50,y 51,y 52,y 53,y 54,y 55,y 56,y 57,y 58,y 59,y 60,y 61,y 62,y 63,y 64,y 65,y 66,y 67,y 68,y 69,y 70,y 71,y 72,y 73,y 74,y 75,y 76,y 77,y 78,y 79,y 80,y 81,y 82,y 83,y 84,y 85,y 86,y 87,y 88,y 89,y 90,y 91,y 92,y 93,y 94,y 95,y 96,y 97,y 98,y 99,y 100,y 101,y 102,y 103]) (k:=s.measures.l.length) ?_
    ⟨0,[],_,by omega,?_,?_,?_,acc_none,by simp,fun c x hc => by omega,ex_x rfl⟩
  rotate_left
  · simp -implicitDefEqProofs (maxDischargeDepth:=12) only [WW,List.replicate,e_splice,if_true,if_false,ite_true,ite_false,true_or,ne_eq,seval,h_putc,beq_self_eq_true,eq_self,exists_eq_left,exists_eq_left']; rfl
  · simp -implicitDefEqProofs (maxDischargeDepth:=12) only [WW,List.replicate,e_splice,if_true,if_false,ite_true,ite_false,true_or,ne_eq,seval,h_putc,beq_self_eq_true,eq_self,exists_eq_left,exists_eq_left',p.enc_eq]
  · simp -implicitDefEqProofs (maxDischargeDepth:=12) only [WW,List.replicate,e_splice,if_true,if_false,ite_true,ite_false,true_or,ne_eq,seval,h_putc,beq_self_eq_true,eq_self,exists_eq_left,exists_eq_left']
  rintro k t H ⟨j,fp,a,hk,g0,g1,g2,hA,hfp,hgood,y,rfl⟩
  simp only [s.enc_eq,p.enc_eq,c_agg] at g0 g1
  have hgood':=hgood
  by_cases c1 : (j : Int) < (s.measures.l.length : Int)
  · obtain ⟨m,hm⟩ : ∃ m,s.measures.l[j]? = some m:=⟨_,List.getElem?_eq_getElem (by omega)⟩
    obtain ⟨x,hx⟩ : ∃ x,cells.l[j]? = some x:=⟨_,List.getElem?_eq_getElem (by omega)⟩
    have hjc : j < cells.l.length:=by omega
    have hwm:=hwhs m (List.mem_of_getElem? hm)
    have e2 : IntKind.i64.wrap ((j : Int) + 1) = ((j + 1 : Nat) : Int):=by rw [w64 (by omega) (by omega)]; omega
    have q1 : F ≤ m.cells.l.length:=by omega
    have n0 : ¬ 0 = H.next:=by have:=h_lt g0; omega
    have n1 : ¬ H.next = H.next + 1:=by omega
    have n2 : ¬ H.next + 1 = H.next:=by omega
    by_cases hxl : x.l.length = N
    rotate_left
    · have hbx : badR N x = true:=by simp [badR,hxl]
      have hany : cells.l.any (badR N) = true:=List.any_eq_true.2 ⟨x,List.mem_of_getElem? hx,hbx⟩
      have hxi : ¬ (x.l.length : Int) = (N : Int):=by omega
      rw [hany,if_pos rfl] at hr
      subst hr
      simp -implicitDefEqProofs (maxDischargeDepth:=12) only [WW,List.replicate,e_splice,if_true,if_false,ite_true,ite_false,true_or,ne_eq,seval,h_putc,beq_self_eq_true,eq_self,exists_eq_left,exists_eq_left',c1,g0,g1,g2,hN,hx,hjc,rowE_c,hxi]
      exact frz_plain rfl (plain_er 20)
    have hbx : badR N x = false:=by simp [badR,hxl]
    have hxi : (x.l.length : Int) = (N : Int):=by omega
    simp -implicitDefEqProofs (maxDischargeDepth:=12) only [WW,List.replicate,e_splice,if_true,if_false,ite_true,ite_false,true_or,ne_eq,seval,h_putc,beq_self_eq_true,eq_self,exists_eq_left,exists_eq_left',c1,n0,n1,n2,g0,g1,hN,hx,hjc,rowE_c,hxi,hm,m.enc_eq,e_cutm fC,q1]
    generalize hHa : AHeap.alloc _ (Blk.cells []) = Ha
    have hNa : Ha.next = H.next + 2:=by subst hHa; simp only [AHeap.next_put,AHeap.next_alloc]
    have a0 : ∀ b,b < H.next→Ha.cells b = H.cells b:=fun b hb => by subst hHa; rw [c_alloc_ne (by simp only [AHeap.next_put,AHeap.next_alloc]; omega),c_put_ne (by omega),c_alloc_ne (by omega)]
    have gM : Ha.cells H.next = some m.enc.cells:=by subst hHa; simp -implicitDefEqProofs (maxDischargeDepth:=12) only [WW,List.replicate,e_splice,if_true,if_false,ite_true,ite_false,true_or,ne_eq,seval,h_putc,beq_self_eq_true,eq_self,exists_eq_left,exists_eq_left',n0,n1,n2,m.enc_eq]
    have gE : Ha.cells (H.next + 1) = some []:=by subst hHa; simp -implicitDefEqProofs (maxDischargeDepth:=12) only [WW,List.replicate,e_splice,if_true,if_false,ite_true,ite_false,true_or,ne_eq,seval,h_putc,beq_self_eq_true,eq_self,exists_eq_left,exists_eq_left',n0,n1,n2]
    simp only [m.enc_eq,c_agg] at gM
    clear hHa
    refine wA_app3F row_Cell (I:=true) (d:=1) (l:=[]) (fp:=[H.next + 1]) (ys:=m.cells.l.take F) (.inr ⟨H.next + 1,0,[],[],[],[],rfl,rfl,Nat.le_refl _,gE,rfl,by simp,.nil,by simp,rfl⟩) (by rw [e_alenm,sl_take]) (by rw [e_srcm fC (by rw [sl_take]; omega),sl_take,List.take_length]) (own_flat Cell.enc_plain (fun v => ⟨_,rfl⟩) _) Apart.nil_right ?_ ?_
    · simp only [List.length_take,List.length_nil]; omega
    intro va Hb fpa hAa hna hka hfpa hoa hca hfra
    have fa : ∀ b ∈ fpa,H.next + 1 ≤ b:=fun b hb => by rcases hfpa b hb with h | h | h <;> first | omega | (simp at h; done) | (simp at h; omega)
    have gM':=gM
    have hka1 : ∀ b,b < H.next + 1→Hb.cells b = Ha.cells b:=fun b hb => hka b (by rw [List.mem_singleton]; omega) (by omega)
    replace gM:=(hka1 H.next (by omega)).trans gM
    clear hka hfra hfpa gE
    simp -implicitDefEqProofs (maxDischargeDepth:=12) only [WW,List.replicate,e_splice,if_true,if_false,ite_true,ite_false,true_or,ne_eq,seval,h_putc,beq_self_eq_true,eq_self,exists_eq_left,exists_eq_left',c1,n0,n1,n2,gM,gM',hx,hjc,rowE_c,e_cutm fC,q1]
    refine wA_app3F (f:=Cell.enc) (bytes:=48) row_Cell hAa (ys:=x.l) (e_alenm) (by rw [e_srcm fC (Nat.le_refl _),List.take_length]) (own_flat Cell.enc_plain (fun v => ⟨_,rfl⟩) _) Apart.nil_right (by simp only [List.nil_append,List.length_take]; omega) ?_
    intro vc Hc fpc hAc hnc hkc hfpc hoc hcc hfrc
    have fc : ∀ b ∈ fpc,H.next + 1 ≤ b:=fun b hb => by rcases hfpc b hb with h | h | h <;> first | exact fa b h | omega | (simp at h; done)
    have hkc1 : ∀ b,b < H.next + 1→Hc.cells b = Ha.cells b:=fun b hb => (hkc b (fun h => by have:=fa b h; omega) (by omega)).trans (hka1 b hb)
    have gM2:=(hkc1 H.next (by omega)).trans gM'
    clear hkc hfpc hfrc hAa
    simp -implicitDefEqProofs (maxDischargeDepth:=12) only [WW,List.replicate,e_splice,if_true,if_false,ite_true,ite_false,true_or,ne_eq,seval,h_putc,beq_self_eq_true,eq_self,exists_eq_left,exists_eq_left',c1,n0,n1,n2,gM,gM2,e_cutm fC,q1]
    have a2 : alen (slm Cell.enc (Option.map (fun x => (x.take m.cells.l.length).drop F) m.cells)) = some (m.cells.l.drop F).length:=by rw [e_alenm,sl_drop]
    have a3 : ∀ H,asrc 2 H (slm Cell.enc (Option.map (fun x => (x.take m.cells.l.length).drop F) m.cells)) (m.cells.l.drop F).length = some ((m.cells.l.drop F).flatMap fun v => (Cell.enc v).cells):=fun H => by rw [e_srcm fC (by rw [sl_drop]; omega),sl_drop,List.take_length]
    refine wA_app3F (f:=Cell.enc) (bytes:=48) row_Cell hAc (ys:=m.cells.l.drop F) a2 (a3 _) (own_flat Cell.enc_plain (fun v => ⟨_,rfl⟩) _) Apart.nil_right (by simp only [List.nil_append,List.length_append,List.length_take,List.length_drop]; omega) ?_
    intro vb Hd fpb hAb hnb hkb hfpb hob hcb hfrb
    have fb : ∀ b ∈ fpb,H.next + 1 ≤ b:=fun b hb => by rcases hfpb b hb with h | h | h <;> first | exact fc b h | omega | (simp at h; done)
    have hkb1 : ∀ b,b < H.next + 1→Hd.cells b = Ha.cells b:=fun b hb => (hkb b (fun h => by have:=fc b h; omega) (by omega)).trans (hkc1 b hb)
    replace gM:=(hkb1 H.next (by omega)).trans gM'
    clear hkb hfpb hfrb hAc hka1 hkc1 gM' gM2
    simp -implicitDefEqProofs (maxDischargeDepth:=12) only [WW,List.replicate,e_splice,if_true,if_false,ite_true,ite_false,true_or,ne_eq,seval,h_putc,beq_self_eq_true,eq_self,exists_eq_left,exists_eq_left',gM,hob,hcb]
    generalize hHe : AHeap.alloc _ (Blk.cells _) = He
    have hNe : He.next = Hd.next + 1:=by subst hHe; simp only [AHeap.next_put,AHeap.next_alloc]
    have gZ : He.cells Hd.next = some (m.enc.cells.take 21 ++ [vb]):=by subst hHe; rw [h_alloc,if_pos (by simp only [AHeap.next_put])]; rw [m.enc_eq]; rfl
    have ae : ∀ b,b < Hd.next→b ≠ H.next→He.cells b = Hd.cells b:=fun b hb h => by subst hHe; rw [c_alloc_ne (by simp only [AHeap.next_put]; omega),c_put_ne h]
    clear hHe
    have hAe : Acc 1 2 Cell.enc He vb (some ([] ++ m.cells.l.take F ++ x.l ++ m.cells.l.drop F)) fpb:=hAb.fr fun b hb => ae b (hAb.lts b hb) (by have:=fb b hb; omega)
    obtain ⟨fq,hOw,hqf⟩:=own_withC (m:=m) hAe
    have hlt:=hA.lts
    have hAe2 : Acc 3 22 Measure.enc He a (Sl.of (List.zipWith (rinsC F) (s.measures.l.take j) (cells.l.take j))) fp:=hA.fr fun b hb => by
      have:=hlt b hb
      rw [ae b (by omega) (by omega),hkb1 b (by omega),a0 b (by omega)]
    have hz : (m.enc.cells.take 21 ++ [vb]).length = 22:=by rw [List.length_append,List.length_take,Measure.enc_len]; rfl
    have hjl : j < s.measures.l.length:=by omega
    refine wA_app2 row_Measure hAe2 (by repeat (first | exact Keep.refl | refine Keep.put (by (try simp only [AHeap.next_alloc,AHeap.next_put]); omega) ?_ | refine Keep.alloc (by (try simp only [AHeap.next_alloc,AHeap.next_put]); omega) ?_)) (by simp) (ys:=[rinsC F m x]) (cs1:=m.enc.cells.take 21 ++ [vb]) (fp1:=fq) (by simp) rfl ?_ ?_ ?_ ?_ ?_
    · simp only [asrc,AHeap.rd,gZ,Option.some_or,Option.bind_some,Nat.zero_add,List.drop_zero,Nat.mul_one,Nat.one_mul,List.length_cons,List.length_nil]
      rw [if_pos (by omega),List.take_of_length_le (by omega)]
    · have : ([rinsC F m x].flatMap fun y => (Measure.enc y).cells) = (m.withC ([] ++ m.cells.l.take F ++ x.l ++ m.cells.l.drop F)).enc.cells:=by
        simp only [List.flatMap_cons,List.flatMap_nil,List.append_nil,List.nil_append]; rfl
      rw [this]
      exact hOw
    · intro b h1 h2
      have:=hlt b h1
      have:=fb b (hqf b h2); omega
    · rw [l_of,List.length_zipWith,List.length_take,List.length_take]; simp only [List.length_cons,List.length_nil]; omega
    intro v' H2 fp' hA' hn2 hk2 hfp2 ho2 hc2
    rw [of_snoc'] at hA'
    have hs : List.zipWith (rinsC F) (s.measures.l.take j) (cells.l.take j) ++ [rinsC F m x] = List.zipWith (rinsC F) (s.measures.l.take (j + 1)) (cells.l.take (j + 1)):=by
      rw [List.take_add_one,List.take_add_one,hm,hx,List.zipWith_append (by simp only [List.length_take]; omega)]; rfl
    rw [hs] at hA'
    have hall : ∀ b,b < 3→b < H.next→H2.cells b = H.cells b:=fun b hb hb1 => by
      rw [hk2 b (fun h => by have:=hfp b h; omega) (by omega),ae b (by omega) (by omega),hkb1 b (by omega),a0 b (by omega)]
    have l0:=h_lt g0
    have l1:=h_lt g1
    have l2:=h_lt g2
    simp -implicitDefEqProofs (maxDischargeDepth:=12) only [WW,List.replicate,e_splice,if_true,if_false,ite_true,ite_false,true_or,ne_eq,seval,h_putc,beq_self_eq_true,eq_self,exists_eq_left,exists_eq_left',e2]
    refine ⟨k - 1,by omega,j + 1,fp',v',by omega,(hall 0 (by omega) l0).trans (by rw [g0,s.enc_eq]; rfl),(hall 1 (by omega) l1).trans (by rw [g1,p.enc_eq]; rfl),(hall 2 (by omega) l2).trans g2,hA',fun b hb => ?_,fun c z hc hz => ?_,ex_x rfl⟩
    · rcases hfp2 b hb with h | h | h
      · exact hfp b h
      · have:=fb b (hqf b h); omega
      · omega
    · by_cases hcj : c = j
      · subst hcj; rw [hx] at hz; cases hz; exact hbx
      · exact hgood c z (by omega) hz
  have hj : j = s.measures.l.length:=by omega
  subst hj
  rw [List.take_length,← hl,List.take_length] at hA
  have hany : cells.l.any (badR N) = false:=by
    rw [List.any_eq_false]
    intro x hx
    obtain ⟨c,hc⟩:=List.getElem?_of_mem hx
    have:=hgood c x (by have:=(List.getElem?_eq_some_iff.1 hc).1; omega) hc
    simp [this]
  rw [hany,if_neg (by decide)] at hr
  subst hr
  have fP : ∀ v,(Part.enc v).cells.length = 6:=Part.enc_len
  have q1 : i ≤ s.parts.l.length:=h
  have n0 : ¬ 0 = H.next:=by have:=h_lt g0; omega
  have n1 : ¬ 1 = H.next:=by have:=h_lt g1; omega
  have m0 : ¬ 0 = H.next + 1:=by have:=h_lt g0; omega
  have m1 : ¬ 1 = H.next + 1:=by have:=h_lt g1; omega
  have m2 : ¬ H.next = H.next + 1:=by omega
  simp -implicitDefEqProofs (maxDischargeDepth:=12) only [WW,List.replicate,e_splice,if_true,if_false,ite_true,ite_false,true_or,ne_eq,seval,h_putc,beq_self_eq_true,eq_self,exists_eq_left,exists_eq_left',c1,g0,g1,e_cutm fP,q1,n0,n1,m0,m1,m2]
  generalize hHz : AHeap.alloc (AHeap.alloc H _) _ = Hz
  have hNz : Hz.next = H.next + 2:=by subst hHz; simp only [AHeap.next_alloc]
  have kz : ∀ b,b < H.next→Hz.cells b = H.cells b:=fun b hb => by subst hHz; rw [c_alloc_ne (by simp only [AHeap.next_alloc]; omega),c_alloc_ne (by omega)]
  have kE : Hz.cells H.next = some []:=by subst hHz; simp -implicitDefEqProofs (maxDischargeDepth:=12) only [WW,List.replicate,e_splice,if_true,if_false,ite_true,ite_false,true_or,ne_eq,seval,h_putc,beq_self_eq_true,eq_self,exists_eq_left,exists_eq_left',m2]
  have kP : Hz.cells (H.next + 1) = some p.enc.cells:=by subst hHz; simp -implicitDefEqProofs (maxDischargeDepth:=12) only [WW,List.replicate,e_splice,if_true,if_false,ite_true,ite_false,true_or,ne_eq,seval,h_putc,beq_self_eq_true,eq_self,exists_eq_left,exists_eq_left',p.enc_eq]
  clear hHz
  refine wA_app3F row_Part (I:=true) (d:=1) (l:=[]) (fp:=[H.next]) (ys:=s.parts.l.take i) (.inr ⟨H.next,0,[],[],[],[],rfl,rfl,Nat.le_refl _,kE,rfl,by simp,.nil,by simp,rfl⟩) (by rw [e_alenm,sl_take]) (by rw [e_srcm fP (by rw [sl_take]; omega),sl_take,List.take_length]) (own_flat Part.enc_plain (fun v => ⟨_,rfl⟩) _) Apart.nil_right ?_ ?_
  · simp only [List.length_take,List.length_nil]; omega
  intro va Ha fpa hAa hna hka hfpa hoa hca hfra
  have fa : ∀ b ∈ fpa,H.next ≤ b∧b ≠ H.next + 1:=fun b hb => by rcases hfpa b hb with h | h | h <;> first | omega | (simp at h; done) | (simp at h; omega)
  have ka : ∀ b,b < H.next→Ha.cells b = H.cells b:=fun b hb => by rw [hka b (by rw [List.mem_singleton]; omega) (by omega),kz b hb]
  have kP1:=(hka (H.next + 1) (by rw [List.mem_singleton]; omega) (by omega)).trans kP
  have g0':=(ka 0 (h_lt g0)).trans g0
  have g1':=(ka 1 (h_lt g1)).trans g1
  have gz0:=(kz 0 (h_lt g0)).trans g0
  have gz1:=(kz 1 (h_lt g1)).trans g1
  clear hka hfra hfpa kE kP kz
  simp -implicitDefEqProofs (maxDischargeDepth:=12) only [WW,List.replicate,e_splice,if_true,if_false,ite_true,ite_false,true_or,ne_eq,seval,h_putc,beq_self_eq_true,eq_self,exists_eq_left,exists_eq_left',gz0,g0',gz1,g1',e_cutm fP,q1,n0,n1]
  refine wA_app3F (f:=Part.enc) (bytes:=72) row_Part hAa (ys:=[p]) (cs1:=p.enc.cells) rfl (by simp [asrc,AHeap.rd,kP1,p.enc_eq,c_agg]) (own_one (f:=Part.enc) (y:=p) (Part.enc_plain p) p.enc_eq) Apart.nil_right (by simp only [List.nil_append,List.length_take,List.length_cons,List.length_nil]; omega) ?_
  intro vc Hc fpc hAc hnc hkc hfpc hoc hcc hfrc
  have fc : ∀ b ∈ fpc,H.next ≤ b:=fun b hb => by rcases hfpc b hb with h | h | h <;> first | exact (fa b h).1 | omega | (simp at h; done)
  have kc : ∀ b,b < H.next→Hc.cells b = H.cells b:=fun b hb => (hkc b (fun h => by have:=fa b h; omega) (by omega)).trans (ka b hb)
  have g0'':=(kc 0 (h_lt g0)).trans g0
  clear hkc hfrc hfpc hAa kP1 g1'
  simp -implicitDefEqProofs (maxDischargeDepth:=12) only [WW,List.replicate,e_splice,if_true,if_false,ite_true,ite_false,true_or,ne_eq,seval,h_putc,beq_self_eq_true,eq_self,exists_eq_left,exists_eq_left',g0',g0'',e_cutm fP,q1,n0,n1]
  have a2 : alen (slm Part.enc (Option.map (fun x => (x.take s.parts.l.length).drop i) s.parts)) = some (s.parts.l.drop i).length:=by rw [e_alenm,sl_drop]
  have a3 : ∀ H,asrc 6 H (slm Part.enc (Option.map (fun x => (x.take s.parts.l.length).drop i) s.parts)) (s.parts.l.drop i).length = some ((s.parts.l.drop i).flatMap fun v => (Part.enc v).cells):=fun H => by rw [e_srcm fP (by rw [sl_drop]; omega),sl_drop,List.take_length]
  refine wA_app3F (f:=Part.enc) (bytes:=72) row_Part hAc (ys:=s.parts.l.drop i) a2 (a3 _) (own_flat Part.enc_plain (fun v => ⟨_,rfl⟩) _) Apart.nil_right (by simp only [List.nil_append,List.length_append,List.length_take,List.length_drop,List.length_cons,List.length_nil]; omega) ?_
  intro vb Hb fpb hAb hnb hkb hfpb hob hcb hfrb
  have fb : ∀ b ∈ fpb,H.next ≤ b:=fun b hb => by rcases hfpb b hb with h | h | h <;> first | exact fc b h | omega | (simp at h; done)
  have kb : ∀ b,b < H.next→Hb.cells b = H.cells b:=fun b hb => (hkb b (fun h => by have:=fc b h; omega) (by omega)).trans (kc b hb)
  have x0:=(kb 0 (h_lt g0)).trans g0
  have x2:=(kb 2 (h_lt g2)).trans g2
  have hlt:=hA.lts
  have hAx : Acc 3 22 Measure.enc Hb a (Sl.of (List.zipWith (rinsC F) s.measures.l cells.l)) fp:=hA.fr fun b hb => kb b (hlt b hb)
  have hn3 : 3 ≤ H.next:=h_lt g2
  clear hkb hfrb hfpb hA hAc ka kc g0 g0' g0'' g1 g2 kb
  have l0:=h_lt x0
  have l2:=h_lt x2
  have oo : a.one = true∧a.cells = [a]:=⟨hAx.one,hAx.cells⟩
  simp -implicitDefEqProofs (maxDischargeDepth:=12) only [WW,List.replicate,e_splice,if_true,if_false,ite_true,ite_false,true_or,ne_eq,seval,h_putc,beq_self_eq_true,eq_self,exists_eq_left,exists_eq_left',x0,x2,hob,hcb,oo.1,oo.2]
  generalize hHd : AHeap.put _ 2 _ = Hd
  have kd : ∀ b,3 ≤ b→Hd.cells b = Hb.cells b:=fun b hb => by subst hHd; rw [c_put_ne (by omega),c_put_ne (by omega),c_put_ne (by omega)]
  clear hHd
  have hbd : Acc 1 6 Part.enc Hd vb (some ([] ++ s.parts.l.take i ++ [p] ++ s.parts.l.drop i)) fpb:=hAb.fr fun b hb => kd b (by have:=fb b hb; omega)
  have hxd : Acc 3 22 Measure.enc Hd a (Sl.of (List.zipWith (rinsC F) s.measures.l cells.l)) fp:=hAx.fr fun b hb => kd b (by have:=hfp b hb; omega)
  obtain ⟨f1,o1,r1⟩:=hbd.own row_Part
  obtain ⟨f2,o2,r2⟩:=hxd.own row_Measure
  have ap : Apart f1 f2:=fun b h1 h2 => by have:=fb b (r1 b h1); have:=hlt b (r2 b h2); omega
  have hO : Own 5 Hd (.agg [.sc (.str s.title),.sc (.bool s.written),vb,a,slm Spanner.enc s.spanners,slm ID.enc s.last]) (s.rinsP i p cells).enc ([] ++ ([] ++ (f1 ++ (f2 ++ ([] ++ ([] ++ [])))))):=by
    subst hF
    exact ⟨_,rfl,.cons .scal (.cons .scal (.cons (o1.mono (by decide)) (.cons o2 (.cons (own_imm Spanner.enc_closed) (.cons (own_imm ID.enc_closed) .nil Apart.nil_left) Apart.nil_left) Apart.nil_right) (fun b h1 h2 => ap b h1 (by simpa using h2))) Apart.nil_left) Apart.nil_left⟩
  exact frz_tup (I:=true) (d:=5) hO (by decide)
end Go.Hem
namespace Go.Hem
theorem ins_l {α : Type} (s : Sl α) (i : Nat) (el : List α) : (s.ins i el).l = s.l.take i ++ el ++ s.l.drop i:=by
  unfold Sl.ins
  split
  · rename_i h; rw [h,List.append_nil,List.take_append_drop]
  · rfl
theorem del_l {α : Type} (s : Sl α) (i j : Nat) : (s.del i j).l = s.l.take i ++ s.l.drop j:=by cases s <;> simp [Sl.del,Sl.l]
theorem mcn_ext {m n : Measure} {a b : Sl Cell} (h : m.cn = n.cn) (k : a.l.map Cell.cn = b.l.map Cell.cn) : Measure.cn { m with cells:=a } = Measure.cn { n with cells:=b }:=by
  unfold Measure.cn at h ⊢
  simp only [Measure.mk.injEq] at h ⊢
  obtain ⟨h1,h2,h3,h4,h5,h6,h7,h8,h9,h10,h11,h12,h13,h14⟩:=h
  exact ⟨h1,h2,h3,h4,h5,h6,h7,h8,h9,h10,h11,h12,h13,by rw [k]⟩
theorem scn_ext {s t : Score} {a b : Sl Part} {c d : Sl Measure} (h : s.cn = t.cn) (k : a.l = b.l) (k2 : c.l.map Measure.cn = d.l.map Measure.cn) : Score.cn { s with parts:=a,measures:=c } = Score.cn { t with parts:=b,measures:=d }:=by
  unfold Score.cn at h ⊢
  simp only [Score.mk.injEq] at h ⊢
  obtain ⟨h1,h2,h3,h4,h5,h6⟩:=h
  exact ⟨h1,h2,by rw [k],by rw [k2],h5,h6⟩
theorem scn_ext2 {s t : Score} (h1 : s.title = t.title) (h2 : s.written = t.written) (h3 : s.spanners.l = t.spanners.l) (h4 : s.last.l = t.last.l) (k : s.parts.l = t.parts.l) (k2 : s.measures.l.map Measure.cn = t.measures.l.map Measure.cn) : s.cn = t.cn:=by
  unfold Score.cn
  rw [h1,h2,h3,h4,k,k2]
theorem mcn_ext2 {m n : Measure} (h : Measure.cn { m with cells:=none } = Measure.cn { n with cells:=none }) (k : m.cells.l.map Cell.cn = n.cells.l.map Cell.cn) : m.cn = n.cn:=by
  unfold Measure.cn at h ⊢
  simp only [Measure.mk.injEq] at h ⊢
  obtain ⟨h1,h2,h3,h4,h5,h6,h7,h8,h9,h10,h11,h12,h13,h14⟩:=h
  exact ⟨h1,h2,h3,h4,h5,h6,h7,h8,h9,h10,h11,h12,h13,by rw [k]⟩
theorem mcl_l (m : Measure) : m.cl.cells.l = m.cells.l.map Cell.cl:=l_of
theorem insNew_cn (F : Nat) (m : Measure) (r : Sl Cell) : (insNew F m r).cn = (rinsC F m r).cn:=by
  refine mcn_ext m.cl_cn ?_
  rw [ins_l,mcl_l,← List.map_take,← List.map_drop,← List.map_append,← List.map_append,map_cl_cn2]
  rfl
theorem delNew_cn (F N : Nat) (m : Measure) : (delNew F N m).cn = (rdelC F N m).cn:=by
  refine mcn_ext m.cl_cn ?_
  rw [del_l,mcl_l,← List.map_take,← List.map_drop,← List.map_append,map_cl_cn2]
  rfl
theorem insP_cn (s : Score) (i : Nat) (p : Part) (cells : Sl (Sl Cell)) : (s.insP i p cells).cn = (s.rinsP i p cells).cn:=by
  refine scn_ext s.cl_cn ?_ ?_
  · rw [ins_l]; rfl
  · rw [l_of,List.map_zipWith]
    show (List.zipWith _ _ _).map _ = _
    rw [List.map_zipWith]
    congr 1
    funext m r
    exact insNew_cn _ m r
theorem delP_cn (s : Score) (i N : Nat) : (s.delP i N).cn = (s.rdelP i N).cn:=by
  refine scn_ext s.cl_cn ?_ ?_
  · rw [del_l]; rfl
  · rw [l_of,List.map_map]
    show (List.map _ _).map _ = _
    rw [List.map_map]
    congr 1
    funext m
    exact delNew_cn _ N m
theorem insP_parts (s : Score) (i : Nat) (p : Part) (cells : Sl (Sl Cell)) : (s.insP i p cells).parts.l = s.parts.l.take i ++ [p] ++ s.parts.l.drop i:=by
  show Sl.l (Sl.ins s.cl.parts i [p]) = _
  rw [ins_l]; rfl
theorem insP_first (s : Score) {i : Nat} (p : Part) (cells : Sl (Sl Cell)) (h : i ≤ s.parts.l.length) : (s.insP i p cells).firstOf i = s.firstOf i:=by
  unfold Score.firstOf
  rw [insP_parts,List.append_assoc,List.take_left' (by rw [List.length_take]; omega)]
theorem insP_staves (s : Score) (i : Nat) (p : Part) (cells : Sl (Sl Cell)) : stavesOf (s.insP i p cells).parts.l = stavesOf s.parts.l + p.staves.l.length:=by
  rw [insP_parts]
  have : stavesOf (s.parts.l.take i ++ s.parts.l.drop i) = stavesOf (s.parts.l.take i) + stavesOf (s.parts.l.drop i):=by simp [stavesOf,-List.take_append_drop]
  rw [List.take_append_drop] at this
  rw [this]
  simp [stavesOf]; omega
theorem insNew_l (F : Nat) (m : Measure) (r : Sl Cell) : (insNew F m r).cells.l = (m.cells.l.map Cell.cl).take F ++ r.l.map Cell.cl ++ (m.cells.l.map Cell.cl).drop F:=by
  show (m.cl.cells.ins F (r.l.map Cell.cl)).l = _
  rw [ins_l,mcl_l]
theorem insNew_len (F : Nat) (m : Measure) (r : Sl Cell) : (insNew F m r).cells.l.length = m.cells.l.length + r.l.length:=by
  rw [insNew_l]; simp only [List.length_append,List.length_take,List.length_drop,List.length_map]; omega
theorem zip_mem {α β γ : Type} {f : α→β→γ} {a : List α} {b : List β} {z : γ} (h : z ∈ List.zipWith f a b) : ∃ x ∈ a,∃ y ∈ b,z = f x y:=by
  obtain ⟨k,hk⟩:=List.getElem?_of_mem h
  rw [List.getElem?_zipWith] at hk
  cases ha : a[k]? with
  | none => rw [ha] at hk; cases hk
  | some x =>
    cases hb : b[k]? with
    | none => rw [ha,hb] at hk; cases hk
    | some y =>
      rw [ha,hb] at hk
      exact ⟨x,List.mem_of_getElem? ha,y,List.mem_of_getElem? hb,by simpa using hk.symm⟩
theorem insP_whole {s : Score} {i : Nat} {p : Part} {cells : Sl (Sl Cell)} (hw : wholeB s = true) (hb : cells.l.any (badR p.staves.l.length) = false) : wholeB (s.insP i p cells) = true:=by
  unfold wholeB at hw ⊢
  rw [List.all_eq_true] at hw ⊢
  intro m hm
  obtain ⟨x,hx,y,hy,rfl⟩:=zip_mem hm
  rw [List.any_eq_false] at hb
  have h1 : x.cells.l.length = stavesOf s.parts.l:=by simpa using hw x hx
  have h2 : y.l.length = p.staves.l.length:=by simpa [badR] using hb y hy
  rw [decide_eq_true_eq,insNew_len,insP_staves]
  omega
theorem back13_cn {s : Score} {i : Nat} {p : Part} {cells : Sl (Sl Cell)} (hi : i ≤ s.parts.l.length) (hl : cells.l.length = s.measures.l.length) (hw : wholeB s = true) (hb : cells.l.any (badR p.staves.l.length) = false) : ((s.insP i p cells).delP i p.staves.l.length).cn = s.cn:=by
  refine scn_ext2 rfl rfl rfl rfl ?_ ?_
  · show Sl.l (Sl.del (s.insP i p cells).cl.parts i (i + 1)) = _
    rw [del_l]
    show (s.insP i p cells).parts.l.take i ++ (s.insP i p cells).parts.l.drop (i + 1) = _
    rw [insP_parts]
    exact ins_del (el:=[p]) hi
  · show (List.map (delNew ((s.insP i p cells).firstOf i) p.staves.l.length) (s.insP i p cells).measures.l).map Measure.cn = _
    rw [insP_first s p cells hi]
    show (List.map _ (List.zipWith _ _ _)).map _ = _
    apply List.ext_getElem?
    intro c
    rw [List.map_map,List.getElem?_map,List.getElem?_zipWith,List.getElem?_map]
    cases hm : s.measures.l[c]? with
    | none => rfl
    | some m =>
      have hc:=(List.getElem?_eq_some_iff.1 hm).1
      obtain ⟨r,hr⟩ : ∃ r,cells.l[c]? = some r:=⟨_,List.getElem?_eq_getElem (by omega)⟩
      rw [hr]
      simp only [Option.map_some,Function.comp,Option.some.injEq]
      have hrl : r.l.length = p.staves.l.length:=by
        rw [List.any_eq_false] at hb
        simpa [badR] using hb r (List.mem_of_getElem? hr)
      have hml : s.firstOf i ≤ m.cells.l.length:=by
        unfold wholeB at hw
        rw [List.all_eq_true] at hw
        have e : m.cells.l.length = stavesOf s.parts.l:=by simpa using hw m (List.mem_of_getElem? hm)
        have:=stavesOf_le (l:=s.parts.l) (i:=i)
        unfold Score.firstOf
        omega
      refine (show (delNew (s.firstOf i) p.staves.l.length (insNew (s.firstOf i) m r)).cn = m.cn from ?_)
      refine mcn_ext2 rfl ?_
      show ((insNew (s.firstOf i) m r).cl.cells.del (s.firstOf i) (s.firstOf i + p.staves.l.length)).l.map Cell.cn = _
      rw [del_l,mcl_l,← List.map_take,← List.map_drop,← List.map_append,map_cl_cn2,insNew_l]
      rw [show p.staves.l.length = (r.l.map Cell.cl).length by rw [List.length_map,hrl]]
      rw [ins_del (by rw [List.length_map]; exact hml),map_cl_cn2]
end Go.Hem
namespace Go.Hem
def purs13 : List Nat:=[34,60,61,62,72,106,24,30,16,71,20,23] ++ pures9
def pol13 : Pol:={ pure:=fun f => purs13.contains f,eff:=insPol }
theorem pol13_pr : PrPol pol13:=by unfold PrPol ClPol; decide
theorem pol13_wh : WhPol pol13:=⟨rfl,rfl,rfl,rfl⟩
theorem pol13_dp : DpPol pol13:=⟨pol13_pr,pol13_wh,rfl,rfl,rfl,rfl,rfl,rfl⟩
theorem pol13_ip : IpPol pol13:=⟨pol13_pr.1,pol13_wh,rfl,rfl,rfl,rfl,rfl,rfl,rfl⟩
theorem known_run13 : okTrue (xPure (X prog pol13 memo0 1000) 19 []) = true:=by decide +kernel
theorem known13_pv : Pv prog pol13 19 [] (.sc (.bool true)):=pv_of_x memo0_ok rfl (okTrue_spec known_run13)
theorem small_insNew {F : Nat} {m : Measure} {r : Sl Cell} (hm : m.small) (hl : m.cells.l.length + r.l.length ≤ 50) (hr : ∀ c ∈ r.l,c.small) : (insNew F m r).small:=by
  refine ⟨hm.1,by rw [insNew_len]; exact hl,fun c hc => ?_⟩
  rw [insNew_l] at hc
  have hcl : ∀ {l : List Cell},(∀ c ∈ l,c.small)→∀ c ∈ l.map Cell.cl,c.small:=fun h c hc => by
    obtain ⟨w,hw,rfl⟩:=List.mem_map.1 hc
    exact Cell.small_cl (h w hw)
  rcases List.mem_append.1 hc with hc | hc
  · rcases List.mem_append.1 hc with hc | hc
    · exact hcl hm.2.2 c (List.mem_of_mem_take hc)
    · exact hcl hr c hc
  · exact hcl hm.2.2 c (List.mem_of_mem_drop hc)
theorem small_delNew {F N : Nat} {m : Measure} (hm : m.small) : (delNew F N m).small:=by
  have e : (delNew F N m).cells.l = (m.cells.l.map Cell.cl).take F ++ (m.cells.l.map Cell.cl).drop (F + N):=by
    show (m.cl.cells.del F (F + N)).l = _
    rw [del_l,mcl_l]
  have hcl : ∀ c ∈ m.cells.l.map Cell.cl,c.small:=fun c hc => by
    obtain ⟨w,hw,rfl⟩:=List.mem_map.1 hc
    exact Cell.small_cl (hm.2.2 w hw)
  refine ⟨hm.1,?_,fun c hc => ?_⟩
  · rw [e]
    have:=hm.2.1
    simp only [List.length_append,List.length_take,List.length_drop,List.length_map]; omega
  · rw [e] at hc
    rcases List.mem_append.1 hc with hc | hc
    · exact hcl c (List.mem_of_mem_take hc)
    · exact hcl c (List.mem_of_mem_drop hc)
theorem small_delP {s : Score} (hs : s.small) (i N : Nat) : (s.delP i N).small:=by
  obtain ⟨h1,h2,h3,h4,h5,h6⟩:=hs
  have e : (s.delP i N).parts.l = s.parts.l.take i ++ s.parts.l.drop (i + 1):=by
    show Sl.l (Sl.del s.cl.parts i (i + 1)) = _
    rw [del_l]; rfl
  refine ⟨?_,fun p hp => ?_,?_,fun m hm => ?_,h5,h6⟩
  · rw [e]; simp only [List.length_append,List.length_take,List.length_drop]; omega
  · rw [e] at hp
    rcases List.mem_append.1 hp with hp | hp
    · exact h2 p (List.mem_of_mem_take hp)
    · exact h2 p (List.mem_of_mem_drop hp)
  · show (List.map _ _).length ≤ _
    rw [List.length_map]; exact h3
  · obtain ⟨w,hw,rfl⟩:=List.mem_map.1 hm
    exact small_delNew (h4 w hw)
theorem staves_le10 {l : List Part} (h : ∀ p ∈ l,p.staves.l.length ≤ 10) : stavesOf l ≤ 10 * l.length:=by
  induction l with
  | nil => simp [stavesOf]
  | cons p l ih =>
    have h1:=h p (by simp)
    have h2:=ih fun q hq => h q (by simp [hq])
    simp only [stavesOf,List.map_cons,List.sum_cons,List.length_cons] at h2 ⊢
    omega
theorem small_insP {s : Score} (hs : s.small) (h4 : s.parts.l.length ≤ 4) {p : Part} (hp : p.staves.l.length ≤ 10) (i : Nat) {cells : Sl (Sl Cell)} (hw : wholeB s = true) (hb : cells.l.any (badR p.staves.l.length) = false) (hc : ∀ r ∈ cells.l,∀ c ∈ r.l,c.small) : (s.insP i p cells).small:=by
  have hst:=staves_le10 hs.staves
  obtain ⟨h1,h2,h3,h4',h5,h6⟩:=hs
  refine ⟨?_,fun q hq => ?_,?_,fun m hm => ?_,h5,h6⟩
  · rw [insP_parts]; simp only [List.length_append,List.length_take,List.length_drop,List.length_cons,List.length_nil]; omega
  · rw [insP_parts] at hq
    rcases List.mem_append.1 hq with hq | hq
    · rcases List.mem_append.1 hq with hq | hq
      · exact h2 q (List.mem_of_mem_take hq)
      · rw [List.mem_singleton.1 hq]; exact hp
    · exact h2 q (List.mem_of_mem_drop hq)
  · show (List.zipWith _ _ _).length ≤ _
    rw [List.length_zipWith]; omega
  · obtain ⟨x,hx,y,hy,rfl⟩:=zip_mem hm
    have e1 : x.cells.l.length = stavesOf s.parts.l:=by
      unfold wholeB at hw
      rw [List.all_eq_true] at hw
      simpa using hw x hx
    have e2 : y.l.length = p.staves.l.length:=by
      rw [List.any_eq_false] at hb
      simpa [badR] using hb y hy
    exact small_insNew (h4' x hx) (by omega) (hc y hy)
theorem Tame_rdelP {s : Score} (hs : s.small) (i N : Nat) : Tame (s.rdelP i N):=by
  refine Score.small.Tame ?_
  obtain ⟨h1,h2,h3,h4,h5,h6⟩:=hs
  refine ⟨?_,fun p hp => ?_,?_,fun m hm => ?_,h5,h6⟩
  · show (s.parts.l.take i ++ s.parts.l.drop (i + 1)).length ≤ _
    simp only [List.length_append,List.length_take,List.length_drop]; omega
  · rcases List.mem_append.1 (show p ∈ s.parts.l.take i ++ s.parts.l.drop (i + 1) from hp) with hp | hp
    · exact h2 p (List.mem_of_mem_take hp)
    · exact h2 p (List.mem_of_mem_drop hp)
  · show (Sl.l (Sl.of _)).length ≤ _
    rw [l_of,List.length_map]; exact h3
  · rw [show (s.rdelP i N).measures.l = s.measures.l.map (rdelC (s.firstOf i) N) from l_of] at hm
    obtain ⟨w,hw,rfl⟩:=List.mem_map.1 hm
    obtain ⟨g1,g2,g3⟩:=h4 w hw
    refine ⟨g1,?_,fun c hc => ?_⟩
    · show (w.cells.l.take (s.firstOf i) ++ w.cells.l.drop (s.firstOf i + N)).length ≤ _
      simp only [List.length_append,List.length_take,List.length_drop]; omega
    · rcases List.mem_append.1 (show c ∈ w.cells.l.take (s.firstOf i) ++ w.cells.l.drop (s.firstOf i + N) from hc) with hc | hc
      · exact g3 c (List.mem_of_mem_take hc)
      · exact g3 c (List.mem_of_mem_drop hc)
theorem case61 (s : Score) (hs : s.small) (i : Int) : ∃ (D V : Score) (G : Int),D.small∧Pv prog pol13 61 [s.enc,.sc (.int .i64 i)] (.tup [D.enc,.sc (.int .i64 G)])∧Pv prog pol13 62 [s.enc,.sc (.int .i64 i)] (.tup [V.enc,.sc (.int .i64 G)])∧D.cn = V.cn:=by
  by_cases h : i < 0 ∨ (s.parts.l.length : Int) ≤ i
  · exact ⟨Score.none,Score.none,2,Score.small_none,delp_er s i h,rdelp_er s i h,rfl⟩
  · obtain ⟨n,rfl⟩ : ∃ n : Nat,i = n:=⟨i.toNat,by omega⟩
    have hn : n < s.parts.l.length:=by omega
    have hst:=staves_le10 hs.staves
    have hp1:=hs.parts
    cases hw : wholeB s with
    | false => exact ⟨Score.none,Score.none,3,Score.small_none,delp_fo pol13_dp s hs.Tame n hn hw,rdelp_fo rfl rfl s hs.Tame n hn hw,rfl⟩
    | true =>
      obtain ⟨p,hp⟩ : ∃ p,s.parts.l[n]? = some p:=⟨_,List.getElem?_eq_getElem hn⟩
      have hd:=small_delP hs n p.staves.l.length
      refine ⟨(s.delP n p.staves.l.length).pr,(s.rdelP n p.staves.l.length).pruned,0,Score.small_pr hd,delp_ok pol13_dp s hs.tame hs.Tame n p hp hw (by omega) (by omega) hd.tame hd.Tame,rdelp_ok rfl rfl rfl rfl rfl rfl s hs.Tame n p hp hw (by omega) (by omega) (Tame_rdelP hs n _),?_⟩
      rw [Score.pr_cn]
      exact pruned_congr (delP_cn s n _)
theorem case34 (s : Score) (hs : s.small) (h4 : s.parts.l.length ≤ 4) (i : Int) (p : Part) (hp : p.staves.l.length ≤ 10) (cells : Sl (Sl Cell)) (hcl : cells.l.length ≤ 6) (hc : ∀ r ∈ cells.l,∀ c ∈ r.l,c.small) :
    ∃ (T W : Score) (E : Int),T.small∧Pv prog pol13 34 [s.enc,.sc (.int .i64 i),p.enc,slm rowE cells] (.tup [T.enc,.sc (.int .i64 E)])∧Pv prog pol13 60 [s.enc,.sc (.int .i64 i),p.enc,slm rowE cells] (.tup [W.enc,.sc (.int .i64 E)])∧T.cn = W.cn ∧
      (E ≠ 0 ∨ (E = 0∧∃ B : Score,B.small∧Pv prog pol13 61 [T.enc,.sc (.int .i64 i)] (.tup [B.enc,.sc (.int .i64 0)])∧B.cn = s.pruned.cn)):=by
  by_cases h : i < 0 ∨ (s.parts.l.length : Int) < i
  · exact ⟨Score.none,Score.none,2,Score.small_none,insp_er s i p cells h,rinsp_er s i p cells h,rfl,.inl (by decide)⟩
  · obtain ⟨n,rfl⟩ : ∃ n : Nat,i = n:=⟨i.toNat,by omega⟩
    have hn : n ≤ s.parts.l.length:=by omega
    have hst:=staves_le10 hs.staves
    cases hw : wholeB s with
    | false => exact ⟨Score.none,Score.none,3,Score.small_none,insp_fo pol13_ip s hs.Tame n p cells hn (by omega) hw,rinsp_fo rfl rfl s hs.Tame n p cells hn (by omega) hw,rfl,.inl (by decide)⟩
    | true =>
      by_cases hl : cells.l.length = s.measures.l.length
      · cases hb : cells.l.any (badR p.staves.l.length) with
        | true => exact ⟨Score.none,Score.none,20,Score.small_none,insp_le pol13_ip s hs.Tame n p cells hn (by omega) hw (by omega) (.inr hb),rinsp_ok rfl rfl rfl s hs.Tame n p cells hn (by omega) hw hl (by omega) (by omega) _ (by rw [hb]; rfl),rfl,.inl (by decide)⟩
        | false =>
          have hT:=small_insP hs h4 hp n hw hb hc
          refine ⟨s.insP n p cells,s.rinsP n p cells,0,hT,insp_ok pol13_ip s hs.tame hs.Tame n p (by unfold Part.tame; omega) cells hn (by omega) hw hl hb (by omega) (by omega) (fun r hr c hcr => (hc r hr c hcr).tame),rinsp_ok rfl rfl rfl s hs.Tame n p cells hn (by omega) hw hl (by omega) (by omega) _ (by rw [hb]; rfl),insP_cn s n p cells,.inr ⟨rfl,?_⟩⟩
          have hd:=small_delP hT n p.staves.l.length
          have hTp : (s.insP n p cells).parts.l[n]? = some p:=by
            rw [insP_parts,List.append_assoc,List.getElem?_append_right (by rw [List.length_take]; omega),List.length_take,show n - min n s.parts.l.length = 0 by omega]; rfl
          refine ⟨((s.insP n p cells).delP n p.staves.l.length).pr,Score.small_pr hd,delp_ok pol13_dp _ hT.tame hT.Tame n p hTp (insP_whole hw hb) (by rw [insP_staves]; omega) (by have:=hT.parts; omega) hd.tame hd.Tame,?_⟩
          rw [Score.pr_cn]
          exact pruned_congr (back13_cn hn hl hw hb)
      · exact ⟨Score.none,Score.none,20,Score.small_none,insp_le pol13_ip s hs.Tame n p cells hn (by omega) hw (by omega) (.inl hl),rinsp_le rfl rfl s hs.Tame n p cells hn (by omega) hw hl,rfl,.inl (by decide)⟩
end Go.Hem
namespace Go.Hem
variable {pol : Pol}
structure Portion where
  at_ : Int
  part : Part
  cells : Sl (Sl Cell)
def Portion.enc (x : Portion) : AV:=.agg ([.sc (.int .i64 x.at_)] ++ x.part.enc.cells ++ [slm rowE x.cells])
theorem Portion.enc_eq (x : Portion) : x.enc = .agg [.sc (.int .i64 x.at_),.sc (.int .i64 x.part.id.site),.sc (.int .i64 x.part.id.number),.sc (.str x.part.name),.sc (.int .i64 x.part.transpose.steps),.sc (.int .i64 x.part.transpose.semitones),slm Staff.enc x.part.staves,slm rowE x.cells]:=by
  unfold Portion.enc
  rw [x.part.enc_eq]; rfl
theorem Portion.enc_closed (x : Portion) : AV.closedB x.enc = true:=by
  rw [x.enc_eq]
  simp only [AV.closedB,AV.closedBs,closedB_slm rowE_closed,closedB_slm Staff.enc_closed,Bool.and_self]
theorem row_rowE : RowOf 1 rowE:=⟨by decide,fun r => ⟨by rw [rowE_c]; rfl,by rw [if_pos rfl,rowE_c]; rfl⟩⟩
theorem rows_closed : ∀ (l : List (Sl Cell)),AV.closedBs (l.flatMap fun x => (rowE x).cells) = true
  | [] => rfl
  | r :: l => by
    rw [List.flatMap_cons,rowE_c]
    show (AV.closedB (rowE r) && AV.closedBs (l.flatMap fun x => (rowE x).cells)) = true
    rw [rowE_closed,rows_closed l]; rfl
def RdL {α : Type} (g : α→AV) (d n : Nat) (H : AHeap) (v : AV) (l : List α) (fp : List Nat) : Prop:=AccX true d n g H v (Sl.of l) fp ∨ (l ≠ []∧∃ b cap,v = .slice b 0 l.length cap n∧Fzn H b (l.flatMap fun x => (g x).cells))
theorem wA_listB {P : Program} {f : FuncId} {α : Type} {g : α→AV} {d n : Nat} {pre : List AV} {is : List CI} {dst : Option Tmp} {rd : List COp} {R : List AV→AHeap→Prop} {y : AV} {t : List AV} {H : AHeap} {v r : AV} {l : List α} {fp : List Nat} (hp : pol.pure f = true) (row : RowOf n g) (hpre : ∀ H,OwnL (Own 20) H pre pre []) (hA : AccX true d n g H v (Sl.of l) fp) (hd : d ≤ 19)
    (hpv : Pv P pol f (pre ++ [slm g (Sl.of l)]) r)
    (k : ∀ H1,Less H H1 fp→H1.next = H.next→RdL g d n H1 v l fp→reK P (y :: t) H rd H1∧wpIns P pol is (putT (y :: t) dst r) H1 R) :
    wA P pol rd is dst (y :: t) H R (some true) (some (.call f (pre ++ [v]))):=by
  by_cases hl : l = []
  · subst hl
    have hA':=hA
    rcases hA with ⟨rfl,_,rfl⟩ | ⟨b,cap,cs,rest,fp',l',h1,_⟩
    · exact wA_pure hp hpv (k H (fun _ _ => rfl) rfl (.inl hA')).2
    · cases h1
  · have e : Sl.of l = some l:=by
      unfold Sl.of
      rw [if_neg (by rw [List.isEmpty_iff]; exact hl)]
    have hA':=hA
    rw [e] at hA hpv
    cases hr : r.flatB with
    | false =>
      refine wA_pvf hp (pvf_list row (hpre H) hA hd Apart.nil_left hl hpv hr fun H1 h1 h2 h3 => k H1 h1 h2.1 ?_)
      obtain ⟨b,cap,e1,_,e2⟩:=h3
      exact .inr ⟨hl,b,cap,e1,e2⟩
    | true =>
      refine wA_pvf hp ?_
      obtain ⟨H1,a1,a2,a3⟩:=freezeL_own (O:=Own 20) (fun H v u f => freezeV_own) (fun H H' v u f a b => OwnX.frame a b) (hpre H)
      have hv1 : AccX true d n g H1 v (some l) fp:=hA.fr fun b hb => cells_of_get (a3 b (by simp))
      obtain ⟨fq,ho,hq⟩:=hv1.own row (.inl rfl)
      obtain ⟨H2,b1,b2,b3⟩:=freezeV_own (ho.mono (show d + 1 ≤ 20 by omega))
      obtain ⟨b,cap,rfl,_⟩:=acc_fr row hv1 hd hl b1
      exact ⟨_,H2,r,closedBs_snoc,freezeL_app a1 b1,hpv,.inl ⟨hr,(k H (fun _ _ => rfl) rfl (.inl hA')).2⟩⟩
theorem wA_listC {P : Program} {f : FuncId} {α : Type} {g : α→AV} {d n : Nat} {pre : List AV} {is : List CI} {dst : Option Tmp} {rd : List COp} {R : List AV→AHeap→Prop} {y : AV} {t : List AV} {H : AHeap} {v r : AV} {l : List α} {fp : List Nat} (hp : pol.pure f = true) (row : RowOf n g) (hpre : ∀ H,OwnL (Own 20) H pre pre []) (hA : RdL g d n H v l fp) (hd : d ≤ 19) (hcb : AV.closedBs (l.flatMap fun x => (g x).cells) = true)
    (hpv : Pv P pol f (pre ++ [slm g (Sl.of l)]) r)
    (k : ∀ H1,Less H H1 fp→H1.next = H.next→reK P (y :: t) H rd H1∧wpIns P pol is (putT (y :: t) dst r) H1 R) :
    wA P pol rd is dst (y :: t) H R (some true) (some (.call f (pre ++ [v]))):=by
  rcases hA with hA | hA
  · exact wA_listB hp row hpre hA hd hpv fun H1 h1 h2 _ => k H1 h1 h2
  · obtain ⟨hl,b,cap,rfl,hz⟩:=hA
    refine wA_pvf hp ?_
    obtain ⟨H1,a1,a2,a3⟩:=freezeL_own (O:=Own 20) (fun H v u f => freezeV_own) (fun H H' v u f a b => OwnX.frame a b) (hpre H)
    have lf:=freezeL_lf (freezeV_lf 20) _ _ _ a1
    have hz1:=hz.lf lf
    have hl0 : ¬ l.length = 0:=fun e => hl (List.length_eq_zero_iff.1 e)
    have hfl:=flat_len row l
    have key : freezeV (19 + 1) (.slice b 0 l.length cap n) H1 = some (.imm (rows n l.length (l.flatMap fun x => (g x).cells)),H1):=by
      have hfrd : H1.frd b = some (l.flatMap fun x => (g x).cells):=by
        unfold AHeap.frd
        rw [if_pos hz1.1,hz1.2.2]
      simp only [freezeV,if_neg hl0,hz1.2.1,hfrd,Option.bind_some]
      have ht : ((l.flatMap fun x => (g x).cells).drop 0).take (l.length * n) = l.flatMap fun x => (g x).cells:=by
        rw [List.drop_zero,List.take_of_length_le (by omega)]
      rw [ht,if_neg (by
          rintro (h | h | h)
          · exact row.1 h
          · omega
          · rw [hcb] at h; cases h)]
    rw [rows_map row] at key
    have e : Sl.of l = some l:=by
      unfold Sl.of
      rw [if_neg (by rw [List.isEmpty_iff]; exact hl)]
    rw [e] at hpv
    have h2 : Less H H1 fp:=fun c _ => a3 c (by simp)
    refine ⟨_,H1,r,closedBs_snoc,freezeL_app a1 key,hpv,?_⟩
    cases hr : r.flatB with
    | true => exact .inl ⟨rfl,(k H (fun _ _ => rfl) rfl).2⟩
    | false => exact .inr ⟨rfl,k H1 h2 lf.1⟩
end Go.Hem
set_option maxHeartbeats 8000000
namespace Go.Hem
def rowS (r : Sl Cell) (k : Nat) : List Cell:=(r.l.take k).map Cell.short
def rowsS (c : Sl (Sl Cell)) (j : Nat) : List (Sl Cell):=(c.l.take j).map fun r => Sl.of (rowS r 4)
theorem rowS_succ {r : Sl Cell} {k : Nat} {y : Cell} (h : r.l[k]? = some y) : rowS r (k + 1) = rowS r k ++ [y.short]:=by
  unfold rowS
  rw [List.take_add_one,h,List.map_append]; rfl
theorem rowS_end {r : Sl Cell} {k : Nat} (hk : k ≤ 4) (h : k = 4 ∨ r.l.length ≤ k) : rowS r k = rowS r 4:=by
  rcases h with rfl | h
  · rfl
  · unfold rowS
    rw [List.take_of_length_le h,List.take_of_length_le (by omega)]
theorem rowsS_succ {c : Sl (Sl Cell)} {j : Nat} {r : Sl Cell} (h : c.l[j]? = some r) : rowsS c (j + 1) = rowsS c j ++ [Sl.of (rowS r 4)]:=by
  unfold rowsS
  rw [List.take_add_one,h,List.map_append]; rfl
theorem rowsS_end {c : Sl (Sl Cell)} {j : Nat} (hk : j ≤ 6) (h : j = 6 ∨ c.l.length ≤ j) : rowsS c j = rowsS c 6:=by
  rcases h with rfl | h
  · rfl
  · unfold rowsS
    rw [List.take_of_length_le h,List.take_of_length_le (by omega)]
theorem rowsS_len (c : Sl (Sl Cell)) : (rowsS c 6).length ≤ 6:=by
  unfold rowsS
  rw [List.length_map,List.length_take]; omega
theorem rowsS_small (c : Sl (Sl Cell)) : ∀ r ∈ rowsS c 6,∀ z ∈ r.l,z.small:=by
  intro r hr z hz
  obtain ⟨w,_,rfl⟩:=List.mem_map.1 hr
  rw [l_of] at hz
  obtain ⟨u,_,rfl⟩:=List.mem_map.1 hz
  exact u.small_short
theorem short_parts (s : Score) : s.short.parts.l.length ≤ 4:=by
  have e : s.short.parts.l = (s.parts.l.take 4).map Part.short:=l_of
  rw [e,List.length_map,List.length_take]; omega
theorem short_staves (p : Part) : p.short.staves.l.length ≤ 10:=by
  show (Sl.l (Option.map _ p.staves)).length ≤ 10
  cases p.staves with
  | none => decide
  | some l => simp [Sl.l]; omega
theorem own_closed18 (p : Part) {H : AHeap} : Own 20 H p.enc p.enc []:=by
  have:=own_closed (d:=18) (H:=H) (cs:=p.enc.cells) (by have:=Part.enc_plain p; rw [p.enc_eq] at this ⊢; exact this)
  rw [p.enc_eq] at this ⊢
  exact this
theorem RdL.new {α : Type} {g : α→AV} {d n : Nat} {H : AHeap} {v : AV} {l : List α} {fp : List Nat} (h : RdL g d n H v l fp) {x : Blk} {y : Option Blk} : RdL g d n ((H.alloc x).put H.next y) v l fp:=by
  rcases h with h | ⟨hl,b,cap,e1,e2⟩
  · exact .inl (h.fr fun b hb => by have:=h.lts b hb; rw [c_put_ne (by omega),c_alloc_ne (by omega)])
  · exact .inr ⟨hl,b,cap,e1,e2.alloc.put (by have:=e2.1; omega)⟩
theorem wp_loopY {P : Program} {pol : Pol} {b : CC} {Q : Post} (n : Nat) (Inv : Nat→List AV→AHeap→Prop) (Ex : List AV→AHeap→Prop)
    (step : ∀ k t H,Inv k t H→wpC P pol b t H (thenC (fun e t' H' => e = .exit n∧Ex t' H') fun t' H' => ∃ k',k' < k∧Inv k' t' H')) (hex : ∀ t H,Ex t H→Q (.exit n) t H) {k : Nat} {t : List AV} {H : AHeap} (h : Inv k t H) : wpC P pol (.loop b) t H Q:=by
  refine wp_loop Inv (fun k t H hi => wpC_mono (fun e t' H' q => ?_) (step k t H hi)) h
  cases e with
  | normal => exact q
  | exit id => obtain ⟨e1,e2⟩:=q; cases e1; exact hex _ _ e2
  | ret => obtain ⟨e1,e2⟩:=q; cases e1
theorem law13_pv (s : Score) (x : Portion) (i : Int) : Pv prog pol13 13 [s.enc,x.enc,.sc (.int .i64 i)] (.sc (.bool true)):=by
  refine Pv_of' ok13 (by simp only [AV.closedBs,Score.enc_closed,x.enc_closed,AV.closedB,Bool.and_self]) ?_
  have hs:=s.small_short
  simp -implicitDefEqProofs (maxDischargeDepth:=12) only [wpF,cf13,WW,List.replicate,e_splice,if_true,if_false,ite_true,ite_false,true_or,ne_eq,seval,h_putc,beq_self_eq_true,eq_self,exists_eq_left,exists_eq_left',s.enc_eq,x.enc_eq]
  rw [← s.enc_eq]
  refine wA_pure rfl (short_pv rfl rfl rfl rfl rfl s) ?_
  generalize hS : s.short = S at *
  have hSe:=S.enc_eq
  simp -implicitDefEqProofs (maxDischargeDepth:=12) only [WW,List.replicate,e_splice,if_true,if_false,ite_true,ite_false,true_or,ne_eq,seval,h_putc,beq_self_eq_true,eq_self,exists_eq_left,exists_eq_left',hSe]
  try rw [← x.part.enc_eq]
  refine wA_pure rfl (shortPart_pv x.part) ?_
  generalize hp : x.part.short = p at *
  have hpe:=p.enc_eq
  simp -implicitDefEqProofs (maxDischargeDepth:=12) only [WW,List.replicate,e_splice,if_true,if_false,ite_true,ite_false,true_or,ne_eq,seval,h_putc,beq_self_eq_true,eq_self,exists_eq_left,exists_eq_left',hpe]
  refine wp_loopY 0 (Inv:=fun k t H => ∃ (j : Nat) (fp : List Nat) (a : AV),j + k = min 6 x.cells.l.length∧H.cells 0 = some [.sc (.str S.title),.sc (.bool S.written),slm Part.enc S.parts,slm Measure.enc S.measures,slm Spanner.enc S.spanners,slm ID.enc S.last]∧H.cells 1 = some [.sc (.int .i64 x.at_),.sc (.int .i64 p.id.site),.sc (.int .i64 p.id.number),.sc (.str p.name),.sc (.int .i64 p.transpose.steps),.sc (.int .i64 p.transpose.semitones),slm Staff.enc p.staves,slm rowE x.cells]∧AccX true 3 1 rowE H a (Sl.of (rowsS x.cells j)) fp∧(∀ b ∈ fp,2 ≤ b) ∧
    ∃ y : Nat→AV,t = [s.enc,x.enc,.sc (.int .i64 i),.ptr 0 0,.ptr 1 0,y 5,.sc (.bool false),a,.sc (.int .i64 j),y 9,y 10,y 11,y 12,y 13,y 14,y 15,y 16,y 17,y 18,y 19,y 20,y 21,y 22,y 23,y 24,y 25,y 26,y 27,y 28,y 29,y 30,y 31,y 32,y 33,y 34,y 35,y 36,y 37,y 38,y 39,y 40,y 41,y 42,y 43,y 44,y 45,y 46,y 47,y 48,y 49,y 50,y 51,y 52,y 53,y 54,y 55,y 56,y 57,y 58,y 59,y 60,y 61,y 62,y 63,y 64,y 65,y 66,y 67,y 68,y 69,y 70,y 71,y 72,y 73,y 74,y 75,y 76,y 77,y 78,y 79,y 80,y 81,y 82,y 83,y 84,y 85,y 86,y 87,y 88,y 89,y 90,y 91,y 92,y 93,y 94,y 95,y 96,y 97,y 98,y 99,y 100,y 101,y 102,y 103,y 104,y 105,y 106,y 107,y 108,y 109,y 110,y 111,y 112,y 113,y 114,y 115,y 116,y 117,y 118,y 119,y 120,y 121,y 122,y 123,y 124,y 125,y 126,y 127,y 128,y 129,y 130,y 131,y 132,y 133,y 134,y 135,y 136,y 137,y 138,y 139,y 140])
    (Ex:=fun t H => ∃ (fp : List Nat) (a : AV),H.cells 0 = some [.sc (.str S.title),.sc (.bool S.written),slm Part.enc S.parts,slm Measure.enc S.measures,slm Spanner.enc S.spanners,slm ID.enc S.last]∧H.cells 1 = some [.sc (.int .i64 x.at_),.sc (.int .i64 p.id.site),.sc (.int .i64 p.id.number),.sc (.str p.name),.sc (.int .i64 p.transpose.steps),.sc (.int .i64 p.transpose.semitones),slm Staff.enc p.staves,slm rowE x.cells]∧AccX true 3 1 rowE H a (Sl.of (rowsS x.cells 6)) fp∧(∀ b ∈ fp,2 ≤ b) ∧
    ∃ y : Nat→AV,t = [s.enc,x.enc,.sc (.int .i64 i),.ptr 0 0,.ptr 1 0,y 5,.sc (.bool false),a,y 8,y 9,y 10,y 11,y 12,y 13,y 14,y 15,y 16,y 17,y 18,y 19,y 20,y 21,y 22,y 23,y 24,y 25,y 26,y 27,y 28,y 29,y 30,y 31,y 32,y 33,y 34,y 35,y 36,y 37,y 38,y 39,y 40,y 41,y 42,y 43,y 44,y 45,y 46,y 47,y 48,y 49,y 50,y 51,y 52,y 53,y 54,y 55,y 56,y 57,y 58,y 59,y 60,y 61,y 62,y 63,y 64,y 65,y 66,y 67,y 68,y 69,y 70,y 71,y 72,y 73,y 74,y 75,y 76,y 77,y 78,y 79,y 80,y 81,y 82,y 83,y 84,y 85,y 86,y 87,y 88,y 89,y 90,y 91,y 92,y 93,y 94,y 95,y 96,y 97,y 98,y 99,y 100,y 101,y 102,y 103,y 104,y 105,y 106,y 107,y 108,y 109,y 110,y 111,y 112,y 113,y 114,y 115,y 116,y 117,y 118,y 119,y 120,y 121,y 122,y 123,y 124,y 125,y 126,y 127,y 128,y 129,y 130,y 131,y 132,y 133,y 134,y 135,y 136,y 137,y 138,y 139,y 140]) (k:=min 6 x.cells.l.length) ?_ ?_
    ⟨0,[],_,by omega,?_,?_,acc_none,by simp,ex_x rfl⟩
  rotate_left
  · rintro t H ⟨fp,a,g0,g1,hA,hfp,y,rfl⟩
    obtain ⟨T,W,E,hTs,hT34,hW60,hTW,hE⟩:=case34 S hs (by rw [← hS]; exact short_parts s) x.at_ p (by rw [← hp]; exact short_staves x.part) (Sl.of (rowsS x.cells 6)) (by rw [l_of]; exact rowsS_len _) (by rw [l_of]; exact rowsS_small _)
    obtain ⟨D,V,G,hDs,hD61,hV62,hDV⟩:=case61 S hs i
    have hTe:=T.enc_eq
    have hWe:=W.enc_eq
    have hDe:=D.enc_eq
    have hVe:=V.enc_eq
    have l1:=h_lt g1
    simp -implicitDefEqProofs (maxDischargeDepth:=12) only [WW,List.replicate,e_splice,if_true,if_false,ite_true,ite_false,true_or,ne_eq,seval,h_putc,beq_self_eq_true,eq_self,exists_eq_left,exists_eq_left',g0,g1]
    try rw [← S.enc_eq]
    try rw [← p.enc_eq]
    refine wA_listB (pre:=[S.enc,.sc (.int .i64 x.at_),p.enc]) rfl row_rowE (fun H => .cons (own_score (d:=18) S) (.cons OwnX.scal (.cons (own_closed18 p) .nil Apart.nil_left) Apart.nil_left) Apart.nil_left) hA (by decide) hT34 fun H1 hless hnx hrd => ?_
    have hlt:=hA.lts
    have x0:=(cells_of_get (hless 0 (fun h => by have:=hfp 0 h; omega))).trans g0
    have x1:=(cells_of_get (hless 1 (fun h => by have:=hfp 1 h; omega))).trans g1
    refine ⟨by simp only [k_nil],?_⟩
    generalize hN : H1.next = N at *
    have hN2 : 2 ≤ N:=by omega
    have n0 : ¬ 0 = N:=by omega
    have n1 : ¬ 1 = N:=by omega
    simp -implicitDefEqProofs (maxDischargeDepth:=12) only [WW,List.replicate,e_splice,if_true,if_false,ite_true,ite_false,true_or,ne_eq,seval,h_putc,beq_self_eq_true,eq_self,exists_eq_left,exists_eq_left',hTe,x0,x1,n0,n1,hN]
    have hrd2:=hrd.new (x:=Blk.cells [.sc (.str ⟨#[]⟩),.sc (.bool false),.sc .nils,.sc .nils,.sc .nils,.sc .nils]) (y:=some (.cells [.sc (.str T.title),.sc (.bool T.written),slm Part.enc T.parts,slm Measure.enc T.measures,slm Spanner.enc T.spanners,slm ID.enc T.last]))
    rw [hN] at hrd2
    generalize hH4 : AHeap.put (AHeap.alloc H1 _) N _ = H4 at hrd2 ⊢
    have y0 : H4.cells 0 = some [.sc (.str S.title),.sc (.bool S.written),slm Part.enc S.parts,slm Measure.enc S.measures,slm Spanner.enc S.spanners,slm ID.enc S.last]:=by subst hH4; simp -implicitDefEqProofs (maxDischargeDepth:=12) only [WW,List.replicate,e_splice,if_true,if_false,ite_true,ite_false,true_or,ne_eq,seval,h_putc,beq_self_eq_true,eq_self,exists_eq_left,exists_eq_left',x0,n0,n1,hN]
    have y1 : H4.cells 1 = some [.sc (.int .i64 x.at_),.sc (.int .i64 p.id.site),.sc (.int .i64 p.id.number),.sc (.str p.name),.sc (.int .i64 p.transpose.steps),.sc (.int .i64 p.transpose.semitones),slm Staff.enc p.staves,slm rowE x.cells]:=by subst hH4; simp -implicitDefEqProofs (maxDischargeDepth:=12) only [WW,List.replicate,e_splice,if_true,if_false,ite_true,ite_false,true_or,ne_eq,seval,h_putc,beq_self_eq_true,eq_self,exists_eq_left,exists_eq_left',x1,n0,n1,hN]
    have yT : H4.cells N = some [.sc (.str T.title),.sc (.bool T.written),slm Part.enc T.parts,slm Measure.enc T.measures,slm Spanner.enc T.spanners,slm ID.enc T.last]:=by subst hH4; simp -implicitDefEqProofs (maxDischargeDepth:=12) only [WW,List.replicate,e_splice,if_true,if_false,ite_true,ite_false,true_or,ne_eq,seval,h_putc,beq_self_eq_true,eq_self,exists_eq_left,exists_eq_left',n0,n1,hN]
    have hN4 : H4.next = N + 1:=by subst hH4; simp only [AHeap.next_put,AHeap.next_alloc,hN]
    clear hH4 hrd hless
    try rw [← S.enc_eq]
    try rw [← p.enc_eq]
    refine wA_listC (pre:=[S.enc,.sc (.int .i64 x.at_),p.enc]) rfl row_rowE (fun H => .cons (own_score (d:=18) S) (.cons OwnX.scal (.cons (own_closed18 p) .nil Apart.nil_left) Apart.nil_left) Apart.nil_left) hrd2 (by decide) (rows_closed _) hW60 fun H5 hless hnx5 => ?_
    refine ⟨by simp only [k_nil],?_⟩
    replace y0:=(cells_of_get (hless 0 (fun h => by have:=hfp 0 h; omega))).trans y0
    replace y1:=(cells_of_get (hless 1 (fun h => by have:=hfp 1 h; omega))).trans y1
    replace yT:=(cells_of_get (hless N (fun h => by have:=hlt N h; omega))).trans yT
    have hN5 : H5.next = N + 1:=hnx5.trans hN4
    clear hless hrd2
    have m0_3 : ¬ 0 = N + 1:=by omega
    have m0_4 : ¬ 0 = N + 1 + 1:=by omega
    have m0_5 : ¬ 0 = N + 1 + 1 + 1:=by omega
    have m0_6 : ¬ 0 = N + 1 + 1 + 1 + 1:=by omega
    have m1_3 : ¬ 1 = N + 1:=by omega
    have m1_4 : ¬ 1 = N + 1 + 1:=by omega
    have m1_5 : ¬ 1 = N + 1 + 1 + 1:=by omega
    have m1_6 : ¬ 1 = N + 1 + 1 + 1 + 1:=by omega
    have m2_3 : ¬ N = N + 1:=by omega
    have m2_4 : ¬ N = N + 1 + 1:=by omega
    have m2_5 : ¬ N = N + 1 + 1 + 1:=by omega
    have m2_6 : ¬ N = N + 1 + 1 + 1 + 1:=by omega
    have m3_4 : ¬ N + 1 = N + 1 + 1:=by omega
    have m3_5 : ¬ N + 1 = N + 1 + 1 + 1:=by omega
    have m3_6 : ¬ N + 1 = N + 1 + 1 + 1 + 1:=by omega
    have m4_5 : ¬ N + 1 + 1 = N + 1 + 1 + 1:=by omega
    have m4_6 : ¬ N + 1 + 1 = N + 1 + 1 + 1 + 1:=by omega
    have m5_6 : ¬ N + 1 + 1 + 1 = N + 1 + 1 + 1 + 1:=by omega
    simp -implicitDefEqProofs (maxDischargeDepth:=12) only [WW,List.replicate,e_splice,if_true,if_false,ite_true,ite_false,true_or,ne_eq,seval,h_putc,beq_self_eq_true,eq_self,exists_eq_left,exists_eq_left',hTe,hWe,hDe,hVe,y0,y1,yT,hN5,m0_3,m0_4,m0_5,m0_6,m1_3,m1_4,m1_5,m1_6,m2_3,m2_4,m2_5,m2_6,m3_4,m3_5,m3_6,m4_5,m4_6,m5_6]
    try rw [← S.enc_eq]
    refine wA_pure rfl hD61 ?_
    simp -implicitDefEqProofs (maxDischargeDepth:=12) only [WW,List.replicate,e_splice,if_true,if_false,ite_true,ite_false,true_or,ne_eq,seval,h_putc,beq_self_eq_true,eq_self,exists_eq_left,exists_eq_left',hTe,hWe,hDe,hVe,y0,y1,yT,hN5,n0,n1,m0_3,m0_4,m0_5,m0_6,m1_3,m1_4,m1_5,m1_6,m2_3,m2_4,m2_5,m2_6,m3_4,m3_5,m3_6,m4_5,m4_6,m5_6]
    try rw [← S.enc_eq]
    refine wA_pure rfl hV62 ?_
    simp -implicitDefEqProofs (maxDischargeDepth:=12) only [WW,List.replicate,e_splice,if_true,if_false,ite_true,ite_false,true_or,ne_eq,seval,h_putc,beq_self_eq_true,eq_self,exists_eq_left,exists_eq_left',hTe,hWe,hDe,hVe,y0,y1,yT,hN5,n0,n1,m0_3,m0_4,m0_5,m0_6,m1_3,m1_4,m1_5,m1_6,m2_3,m2_4,m2_5,m2_6,m3_4,m3_5,m3_6,m4_5,m4_6,m5_6]
    refine wA_pure rfl known13_pv ?_
    simp -implicitDefEqProofs (maxDischargeDepth:=12) only [WW,List.replicate,e_splice,if_true,if_false,ite_true,ite_false,true_or,ne_eq,seval,h_putc,beq_self_eq_true,eq_self,exists_eq_left,exists_eq_left',hTe,hWe,hDe,hVe,y0,y1,yT,hN5,n0,n1,m0_3,m0_4,m0_5,m0_6,m1_3,m1_4,m1_5,m1_6,m2_3,m2_4,m2_5,m2_6,m3_4,m3_5,m3_6,m4_5,m4_6,m5_6]
    try rw [← T.enc_eq]
    try rw [← W.enc_eq]
    have hsm:=same_pv (pol:=pol13) rfl rfl rfl rfl T W hTs.tame
    rw [decide_eq_true hTW] at hsm
    refine wA_pure rfl hsm ?_
    simp -implicitDefEqProofs (maxDischargeDepth:=12) only [WW,List.replicate,e_splice,if_true,if_false,ite_true,ite_false,true_or,ne_eq,seval,h_putc,beq_self_eq_true,eq_self,exists_eq_left,exists_eq_left',hTe,hWe,hDe,hVe,y0,y1,yT,hN5,n0,n1,m0_3,m0_4,m0_5,m0_6,m1_3,m1_4,m1_5,m1_6,m2_3,m2_4,m2_5,m2_6,m3_4,m3_5,m3_6,m4_5,m4_6,m5_6]
    try rw [← D.enc_eq]
    try rw [← V.enc_eq]
    have hsm2:=same_pv (pol:=pol13) rfl rfl rfl rfl D V hDs.tame
    rw [decide_eq_true hDV] at hsm2
    refine wA_pure rfl hsm2 ?_
    rcases hE with hE | ⟨rfl,B,hBs,hB61,hBc⟩
    · have hE' : ¬ E = 0:=hE
      simp -implicitDefEqProofs (maxDischargeDepth:=12) only [WW,List.replicate,e_splice,if_true,if_false,ite_true,ite_false,true_or,ne_eq,seval,h_putc,beq_self_eq_true,eq_self,exists_eq_left,exists_eq_left',hE']
      exact frz_sc
    have hBe:=B.enc_eq
    simp -implicitDefEqProofs (maxDischargeDepth:=12) only [WW,List.replicate,e_splice,if_true,if_false,ite_true,ite_false,true_or,ne_eq,seval,h_putc,beq_self_eq_true,eq_self,exists_eq_left,exists_eq_left',hTe,hWe,hDe,hVe,y0,y1,yT,hN5,n0,n1,m0_3,m0_4,m0_5,m0_6,m1_3,m1_4,m1_5,m1_6,m2_3,m2_4,m2_5,m2_6,m3_4,m3_5,m3_6,m4_5,m4_6,m5_6]
    try rw [← T.enc_eq]
    refine wA_pure rfl hB61 ?_
    simp -implicitDefEqProofs (maxDischargeDepth:=12) only [WW,List.replicate,e_splice,if_true,if_false,ite_true,ite_false,true_or,ne_eq,seval,h_putc,beq_self_eq_true,eq_self,exists_eq_left,exists_eq_left',hBe,hTe,y0,y1,yT,hN5,n0,n1,m0_3,m0_4,m0_5,m0_6,m1_3,m1_4,m1_5,m1_6,m2_3,m2_4,m2_5,m2_6,m3_4,m3_5,m3_6,m4_5,m4_6,m5_6]
    try rw [← S.enc_eq]
    refine wA_pure rfl (rprune_pv rfl rfl S hs.Tame) ?_
    simp -implicitDefEqProofs (maxDischargeDepth:=12) only [WW,List.replicate,e_splice,if_true,if_false,ite_true,ite_false,true_or,ne_eq,seval,h_putc,beq_self_eq_true,eq_self,exists_eq_left,exists_eq_left',hBe,y0,y1,yT,hN5,n0,n1,m0_3,m0_4,m0_5,m0_6,m1_3,m1_4,m1_5,m1_6,m2_3,m2_4,m2_5,m2_6,m3_4,m3_5,m3_6,m4_5,m4_6,m5_6]
    try rw [← B.enc_eq]
    have hsm3:=same_pv (pol:=pol13) rfl rfl rfl rfl B S.pruned hBs.tame
    rw [decide_eq_true hBc] at hsm3
    refine wA_pure rfl hsm3 ?_
    simp -implicitDefEqProofs (maxDischargeDepth:=12) only [WW,List.replicate,e_splice,if_true,if_false,ite_true,ite_false,true_or,ne_eq,seval,h_putc,beq_self_eq_true,eq_self,exists_eq_left,exists_eq_left']
    exact frz_sc
  · simp -implicitDefEqProofs (maxDischargeDepth:=12) only [WW,List.replicate,e_splice,if_true,if_false,ite_true,ite_false,true_or,ne_eq,seval,h_putc,beq_self_eq_true,eq_self,exists_eq_left,exists_eq_left']
  · simp -implicitDefEqProofs (maxDischargeDepth:=12) only [WW,List.replicate,e_splice,if_true,if_false,ite_true,ite_false,true_or,ne_eq,seval,h_putc,beq_self_eq_true,eq_self,exists_eq_left,exists_eq_left']
  rintro k t H ⟨j,fp,a,hk,g0,g1,hA,hfp,y,rfl⟩
  have hj6 : j ≤ 6:=by omega
  have hjl : j ≤ x.cells.l.length:=by omega
  by_cases c1 : (j : Int) < (x.cells.l.length : Int)
  rotate_left
  · rw [rowsS_end hj6 (.inr (by omega))] at hA
    simp -implicitDefEqProofs (maxDischargeDepth:=12) only [WW,List.replicate,e_splice,if_true,if_false,ite_true,ite_false,true_or,ne_eq,seval,h_putc,beq_self_eq_true,eq_self,exists_eq_left,exists_eq_left',g0,g1,c1]
    exact ⟨fp,a,hA,hfp,ex_x rfl⟩
  by_cases c2 : (j : Int) < 6
  rotate_left
  · rw [rowsS_end hj6 (.inl (by omega))] at hA
    simp -implicitDefEqProofs (maxDischargeDepth:=12) only [WW,List.replicate,e_splice,if_true,if_false,ite_true,ite_false,true_or,ne_eq,seval,h_putc,beq_self_eq_true,eq_self,exists_eq_left,exists_eq_left',g0,g1,c1,c2]
    exact ⟨fp,a,hA,hfp,ex_x rfl⟩
  obtain ⟨r,hr⟩ : ∃ y,x.cells.l[j]? = some y:=⟨_,List.getElem?_eq_getElem (by omega)⟩
  have e2 : IntKind.i64.wrap ((j : Int) + 1) = ((j + 1 : Nat) : Int):=by rw [w64 (by omega) (by omega)]; omega
  have hjn : j < x.cells.l.length:=by omega
  simp -implicitDefEqProofs (maxDischargeDepth:=12) only [WW,List.replicate,e_splice,if_true,if_false,ite_true,ite_false,true_or,ne_eq,seval,h_putc,beq_self_eq_true,eq_self,exists_eq_left,exists_eq_left',g0,g1,c1,c2]
  refine wp_loopY 2 (Inv:=fun k' t H' => ∃ (kk : Nat) (fpr : List Nat) (ra : AV),kk + k' = min 4 r.l.length∧(∀ c,c < H.next→H'.cells c = H.cells c)∧H.next ≤ H'.next∧Acc 1 2 Cell.enc H' ra (Sl.of (rowS r kk)) fpr∧(∀ b ∈ fpr,H.next ≤ b) ∧
    ∃ y : Nat→AV,t = [s.enc,x.enc,.sc (.int .i64 i),.ptr 0 0,.ptr 1 0,y 5,.sc (.bool false),a,.sc (.int .i64 j),ra,.sc (.int .i64 kk),y 11,y 12,y 13,y 14,y 15,y 16,y 17,y 18,y 19,y 20,y 21,y 22,y 23,y 24,y 25,y 26,y 27,y 28,y 29,y 30,y 31,y 32,y 33,y 34,y 35,y 36,y 37,y 38,y 39,y 40,y 41,y 42,y 43,y 44,y 45,y 46,y 47,y 48,y 49,y 50,y 51,y 52,y 53,y 54,y 55,y 56,y 57,y 58,y 59,y 60,y 61,y 62,y 63,y 64,y 65,y 66,y 67,y 68,y 69,y 70,y 71,y 72,y 73,y 74,y 75,y 76,y 77,y 78,y 79,y 80,y 81,y 82,y 83,y 84,y 85,y 86,y 87,y 88,y 89,y 90,y 91,y 92,y 93,y 94,y 95,y 96,y 97,y 98,y 99,y 100,y 101,y 102,y 103,y 104,y 105,y 106,y 107,y 108,y 109,y 110,y 111,y 112,y 113,y 114,y 115,y 116,y 117,y 118,y 119,y 120,y 121,y 122,y 123,y 124,y 125,y 126,y 127,y 128,y 129,y 130,y 131,y 132,y 133,y 134,y 135,y 136,y 137,y 138,y 139,y 140])
    (Ex:=fun t H' => ∃ (fpr : List Nat) (ra : AV),(∀ c,c < H.next→H'.cells c = H.cells c)∧H.next ≤ H'.next∧Acc 1 2 Cell.enc H' ra (Sl.of (rowS r 4)) fpr∧(∀ b ∈ fpr,H.next ≤ b) ∧
    ∃ y : Nat→AV,t = [s.enc,x.enc,.sc (.int .i64 i),.ptr 0 0,.ptr 1 0,y 5,.sc (.bool false),a,.sc (.int .i64 j),ra,y 10,y 11,y 12,y 13,y 14,y 15,y 16,y 17,y 18,y 19,y 20,y 21,y 22,y 23,y 24,y 25,y 26,y 27,y 28,y 29,y 30,y 31,y 32,y 33,y 34,y 35,y 36,y 37,y 38,y 39,y 40,y 41,y 42,y 43,y 44,y 45,y 46,y 47,y 48,y 49,y 50,y 51,y 52,y 53,y 54,y 55,y 56,y 57,y 58,y 59,y 60,y 61,y 62,y 63,y 64,y 65,y 66,y 67,y 68,y 69,y 70,y 71,y 72,y 73,y 74,y 75,y 76,y 77,y 78,y 79,y 80,y 81,y 82,y 83,y 84,y 85,y 86,y 87,y 88,y 89,y 90,y 91,y 92,y 93,y 94,y 95,y 96,y 97,y 98,y 99,y 100,y 101,y 102,y 103,y 104,y 105,y 106,y 107,y 108,y 109,y 110,y 111,y 112,y 113,y 114,y 115,y 116,y 117,y 118,y 119,y 120,y 121,y 122,y 123,y 124,y 125,y 126,y 127,y 128,y 129,y 130,y 131,y 132,y 133,y 134,y 135,y 136,y 137,y 138,y 139,y 140]) (k:=min 4 r.l.length) ?_ ?_
    ⟨0,[],_,by omega,fun _ _ => rfl,Nat.le_refl _,acc_none,by simp,ex_x rfl⟩
  · clear y
    rintro k' t H' ⟨kk,fpr,ra,hk',hsame,hn',hR,hfr,y,rfl⟩
    have hk4 : kk ≤ 4:=by omega
    have hkl : kk ≤ r.l.length:=by omega
    have x1:=(hsame 1 (h_lt g1)).trans g1
    by_cases d1 : (kk : Int) < (r.l.length : Int)
    rotate_left
    · rw [rowS_end hk4 (.inr (by omega))] at hR
      simp -implicitDefEqProofs (maxDischargeDepth:=12) only [WW,List.replicate,e_splice,if_true,if_false,ite_true,ite_false,true_or,ne_eq,seval,h_putc,beq_self_eq_true,eq_self,exists_eq_left,exists_eq_left',x1,hr,hjn,rowE_c,d1]
      exact ⟨fpr,ra,hsame,hn',hR,hfr,ex_x rfl⟩
    by_cases d2 : (kk : Int) < 4
    rotate_left
    · rw [rowS_end hk4 (.inl (by omega))] at hR
      simp -implicitDefEqProofs (maxDischargeDepth:=12) only [WW,List.replicate,e_splice,if_true,if_false,ite_true,ite_false,true_or,ne_eq,seval,h_putc,beq_self_eq_true,eq_self,exists_eq_left,exists_eq_left',x1,hr,hjn,rowE_c,d1,d2]
      exact ⟨fpr,ra,hsame,hn',hR,hfr,ex_x rfl⟩
    obtain ⟨e,he⟩ : ∃ y,r.l[kk]? = some y:=⟨_,List.getElem?_eq_getElem (by omega)⟩
    have e3 : IntKind.i64.wrap ((kk : Int) + 1) = ((kk + 1 : Nat) : Int):=by rw [w64 (by omega) (by omega)]; omega
    simp -implicitDefEqProofs (maxDischargeDepth:=12) only [WW,List.replicate,e_splice,if_true,if_false,ite_true,ite_false,true_or,ne_eq,seval,h_putc,beq_self_eq_true,eq_self,exists_eq_left,exists_eq_left',x1,hr,hjn,rowE_c,d1,d2,he,e.enc_eq]
    try rw [← e.enc_eq]
    refine wA_pure rfl (shortCell_pv rfl rfl e) ?_
    generalize hes : e.short = es
    have hee:=es.enc_eq
    simp -implicitDefEqProofs (maxDischargeDepth:=12) only [WW,List.replicate,e_splice,if_true,if_false,ite_true,ite_false,true_or,ne_eq,seval,h_putc,beq_self_eq_true,eq_self,exists_eq_left,exists_eq_left',hee]
    refine wA_app2 row_Cell hR (by repeat (first | exact Keep.refl | refine Keep.put (by (try simp only [AHeap.next_alloc,AHeap.next_put]); omega) ?_ | refine Keep.alloc (by (try simp only [AHeap.next_alloc,AHeap.next_put]); omega) ?_)) (by simp) (ys:=[es]) (by simp) rfl (asrc_new (by simp) rfl) (own_one (Cell.enc_plain _) es.enc_eq) Apart.nil_right ?_ ?_
    · rw [l_of]; unfold rowS; rw [List.length_map,List.length_take]; simp only [List.length_cons,List.length_nil]; omega
    intro v' H2 fp' hA' hn2 hk2 hfp2 ho2 hc2
    rw [of_snoc',← hes,← rowS_succ he] at hA'
    simp -implicitDefEqProofs (maxDischargeDepth:=12) only [WW,List.replicate,e_splice,if_true,if_false,ite_true,ite_false,true_or,ne_eq,seval,h_putc,beq_self_eq_true,eq_self,exists_eq_left,exists_eq_left',e3]
    refine ⟨k' - 1,by omega,kk + 1,fp',v',by omega,fun c hc => ?_,by omega,hA',fun b hb => ?_,ex_x rfl⟩
    · rw [hk2 c (fun h => by have:=hfr c h; omega) (by omega),hsame c hc]
    · rcases hfp2 b hb with h | h | h
      · exact hfr b h
      · simp at h
      · omega
  clear y
  rintro t H' ⟨fpr,ra,hsame,hn',hR,hfr,y,rfl⟩
  obtain ⟨fq,hO,hqf⟩:=hR.own row_Cell
  have hlt:=hA.lts
  have rone:=hR.one
  have rcel:=hR.cells
  simp -implicitDefEqProofs (maxDischargeDepth:=12) only [WW,List.replicate,e_splice,if_true,if_false,ite_true,ite_false,true_or,ne_eq,seval,h_putc,beq_self_eq_true,eq_self,exists_eq_left,exists_eq_left',rone,rcel]
  have hA2 : AccX true 3 1 rowE H' a (Sl.of (rowsS x.cells j)) fp:=hA.fr fun b hb => hsame b (hlt b hb)
  refine wA_app2 row_rowE hA2 (by repeat (first | exact Keep.refl | refine Keep.put (by (try simp only [AHeap.next_alloc,AHeap.next_put]); omega) ?_ | refine Keep.alloc (by (try simp only [AHeap.next_alloc,AHeap.next_put]); omega) ?_)) (by simp) (ys:=[Sl.of (rowS r 4)]) (fp1:=fq ++ []) (by simp) rfl (asrc_new (by simp) rfl) ?_ ?_ ?_ ?_
  · have : ([Sl.of (rowS r 4)].flatMap fun y => (rowE y).cells) = [slm Cell.enc (Sl.of (rowS r 4))]:=by
      simp only [List.flatMap_cons,List.flatMap_nil,List.append_nil,rowE_c]
    rw [this]
    exact .cons ((hO.mono (by decide)).frame fun b hb => c_alloc_ne (by have:=hR.lts b (hqf b hb); omega)) .nil Apart.nil_right
  · intro b h1 h2
    have:=hlt b h1
    have:=hfr b (hqf b (by simpa using h2)); omega
  · rw [l_of]; unfold rowsS; rw [List.length_map,List.length_take]; simp only [List.length_cons,List.length_nil]; omega
  intro v' H2 fp' hA' hn2 hk2 hfp2 ho2 hc2
  rw [of_snoc',← rowsS_succ hr] at hA'
  simp -implicitDefEqProofs (maxDischargeDepth:=12) only [WW,List.replicate,e_splice,if_true,if_false,ite_true,ite_false,true_or,ne_eq,seval,h_putc,beq_self_eq_true,eq_self,exists_eq_left,exists_eq_left',e2]
  have l1:=h_lt g1
  have hall : ∀ b,b < 2→H2.cells b = H.cells b:=fun b hb => by
    rw [hk2 b (fun h => by have:=hfp b h; omega) (by omega),hsame b (by omega)]
  refine ⟨k - 1,by omega,j + 1,fp',v',by omega,(hall 0 (by omega)).trans g0,(hall 1 (by omega)).trans g1,hA',fun b hb => ?_,ex_x rfl⟩
  rcases hfp2 b hb with h | h | h
  · exact hfp b h
  · have:=hfr b (hqf b (by simpa using h)); omega
  · omega
end Go.Hem
