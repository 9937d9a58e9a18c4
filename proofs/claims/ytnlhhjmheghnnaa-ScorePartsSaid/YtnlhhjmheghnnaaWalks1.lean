/- Walks. -/
import Derived.Test.YtnlhhjmheghnnaaWalks0
import Derived.Test.YtnlhhjmheghnnaaHemFast
import Derived.Test.YtnlhhjmheghnnaaHemIn4
import Derived.Test.YtnlhhjmheghnnaaHemRange
set_option maxRecDepth 10000
set_option maxHeartbeats 4000000
set_option linter.unusedSimpArgs false
set_option linter.unusedVariables false
namespace Go.Hem
variable {pol : Pol}
def ClPol (pol : Pol) : Prop:=∀ f ∈ [39,75,78,83,84,85,97,117,118,123,124,129,130,131],pol.pure f = false
def Cell.cl (c : Cell) : Cell:={ clefs:=c.clefs,voices:=Sl.of (c.voices.l.map Voice.cl) }
theorem of_map_succ {α β : Type} {g : α→β} {l : List α} {i : Nat} {x : α} (h : l[i]? = some x) : (some ((Sl.of ((l.take i).map g)).l ++ [g x]) : Sl β) = Sl.of ((l.take (i + 1)).map g):=by
  rw [l_of,List.take_add_one,h]
  unfold Sl.of
  rw [if_neg (by simp)]; simp
theorem ClPost.own {d n : Nat} {H0 H' : AHeap} {u : AV} {o : Out} (h : ClPost d n H0 u o H') : ∃ cs fp,o = .val (.agg cs)∧OwnL (OwnX false d) H' cs u.cells fp∧cs.length = n∧AV.ones cs = true∧Fresh H0 H' fp:=h
theorem cClone_ok (hc : ClPol pol) (x : Cell) (hx : x.tame) (H0 : AHeap) : Ev prog pol (.call 75 [x.enc]) H0 (ClPost 4 2 H0 x.cl.enc):=by
  refine (wpF_ok ok75 (Q:=fun v H' => ∃ cs fp,v = .agg cs∧OwnL (OwnX false 4) H' cs x.cl.enc.cells fp∧cs.length = 2∧AV.ones cs = true∧Fresh H0 H' fp) ?_).mono ?_
  rotate_left
  · rintro o H' ⟨v,rfl,cs,fp,rfl,h⟩; exact ⟨cs,fp,rfl,h⟩
  obtain ⟨b1,b2,b3⟩:=hx
  generalize hq : H0.next = q
  simp -implicitDefEqProofs (maxDischargeDepth:=12) only [wpF,cf75,WW,List.replicate,e_splice,if_true,if_false,ite_true,ite_false,true_or,ne_eq,seval,h_putc,beq_self_eq_true,eq_self,exists_eq_left,exists_eq_left',x.enc_eq,nq1,mq1,addq,hq,nq2,mq2,mq12,mq21]
  refine wA_call (hc _ (by decide)) ((sclClefChange_ok x.clefs b1 _).mono ?_)
  rintro o Hc ⟨vc,fpc,rfl,hAc,hFc,hNc,hKc⟩
  refine ⟨_,rfl,?_⟩
  simp only [AHeap.next_alloc,addq,hq] at hFc hNc
  have a0:=hKc q (by simp only [AHeap.next_alloc,hq]; omega)
  have a1:=hKc (q + 1) (by simp only [AHeap.next_alloc,hq]; omega)
  simp -implicitDefEqProofs (maxDischargeDepth:=12) only [WW,List.replicate,e_splice,if_true,if_false,ite_true,ite_false,true_or,ne_eq,seval,h_putc,beq_self_eq_true,eq_self,exists_eq_left,exists_eq_left',nq1,mq1,addq,hq,nq2,mq2,mq12,mq21] at a0 a1
  have hK0 : Keep q H0 Hc:=fun b hb => by
    rw [hKc b (by simp only [AHeap.next_alloc,hq]; omega)]
    simp only [c_alloc_ne (show b ≠ H0.next by omega),c_alloc_ne (show b ≠ (H0.alloc _).next by simp only [AHeap.next_alloc]; omega)]
  have lc:=hAc.lts
  generalize hr : Hc.next = r
  rw [hr] at hNc
  have p0 : ¬ q = r:=by omega
  have p1 : ¬ q + 1 = r:=by omega
  have p2 : ¬ r = q:=by omega
  have p3 : ¬ r = q + 1:=by omega
  simp -implicitDefEqProofs (maxDischargeDepth:=12) only [WW,List.replicate,e_splice,if_true,if_false,ite_true,ite_false,true_or,ne_eq,seval,h_putc,beq_self_eq_true,eq_self,exists_eq_left,exists_eq_left',nq1,mq1,addq,hq,hr,nq2,mq2,mq12,mq21,a0,a1,p0,p1,p2,p3,hAc.one,hAc.cells]
  refine wp_loop (Inv:=fun k t H => ∃ (i : Nat) (fp : List Nat) (a : AV),i + k = x.voices.l.length∧H.cells q = some [slm ClefChange.enc x.clefs,slm Voice.enc x.voices]∧H.cells (q + 1) = some [.sc .nils,.sc .nils] ∧
    H.cells r = some [vc,a]∧AccX false 1 2 ClefChange.enc H vc x.clefs fpc∧AccX false 3 2 Voice.enc H a (Sl.of ((x.voices.l.take i).map Voice.cl)) fp∧(∀ b ∈ fp,r + 1 ≤ b)∧r + 1 ≤ H.next∧Keep q H0 H ∧
    ∃ y : Nat→AV,t = [.agg [slm ClefChange.enc x.clefs,slm Voice.enc x.voices],.ptr q 0,.ptr (q + 1) 0,.ptr r 0,y 4,y 5,y 6,y 7,y 8,y 9,y 10,slm Voice.enc x.voices,.sc (.int .i64 x.voices.l.length),.sc (.int .i64 i),y 14,y 15,y 16,y 17,y 18,y 19,y 20,y 21,y 22,y 23,y 24,y 25]) (k:=x.voices.l.length) ?_
    ⟨0,[],_,by omega,?_,?_,?_,?_,acc_none,by simp,?_,?_,ex_x rfl⟩
  rotate_left
  · simp -implicitDefEqProofs (maxDischargeDepth:=12) only [WW,List.replicate,e_splice,if_true,if_false,ite_true,ite_false,true_or,ne_eq,seval,h_putc,beq_self_eq_true,eq_self,exists_eq_left,exists_eq_left',nq1,mq1,addq,hq,hr,nq2,mq2,mq12,mq21,a0,a1,p0,p1,p2,p3]
  · simp -implicitDefEqProofs (maxDischargeDepth:=12) only [WW,List.replicate,e_splice,if_true,if_false,ite_true,ite_false,true_or,ne_eq,seval,h_putc,beq_self_eq_true,eq_self,exists_eq_left,exists_eq_left',nq1,mq1,addq,hq,hr,nq2,mq2,mq12,mq21,a0,a1,p0,p1,p2,p3]
  · simp -implicitDefEqProofs (maxDischargeDepth:=12) only [WW,List.replicate,e_splice,if_true,if_false,ite_true,ite_false,true_or,ne_eq,seval,h_putc,beq_self_eq_true,eq_self,exists_eq_left,exists_eq_left',nq1,mq1,addq,hq,hr,nq2,mq2,mq12,mq21,a0,a1,p0,p1,p2,p3]
  · exact hAc.fr fun b hb => by have:=lc b hb; rw [c_put_ne (by omega),c_alloc_ne (by omega)]
  · simp only [AHeap.next_alloc,AHeap.next_put,hr]; omega
  · intro b hb; rw [c_put_ne (by omega),c_alloc_ne (by omega),hK0 b hb]
  clear a0 a1 hAc
  rintro k t H ⟨i,fp,a,hk,hA,hB,hC,hAc,hE,hfp,hN,hKp,y,rfl⟩
  have g0 : ¬ q = H.next:=by omega
  have g1 : ¬ q + 1 = H.next:=by omega
  have g2 : ¬ r = H.next:=by omega
  have g3 : ¬ H.next = q:=by omega
  have g4 : ¬ H.next = q + 1:=by omega
  have g5 : ¬ H.next = r:=by omega
  by_cases c1 : (i : Int) < (x.voices.l.length : Int)
  · obtain ⟨e,he⟩ : ∃ y,x.voices.l[i]? = some y:=⟨_,List.getElem?_eq_getElem (by omega)⟩
    have e2 : IntKind.i64.wrap ((i : Int) + 1) = ((i + 1 : Nat) : Int):=by rw [w64 (by omega) (by omega)]; omega
    simp -implicitDefEqProofs (maxDischargeDepth:=12) only [WW,List.replicate,e_splice,if_true,if_false,ite_true,ite_false,true_or,ne_eq,seval,h_putc,beq_self_eq_true,eq_self,exists_eq_left,exists_eq_left',hA,hB,hC,c1,he,e.enc_eq,g0,g1,g2,g3,g4,g5,p0,p1,p2,p3]
    rw [← e.enc_eq]
    refine wA_call (hc _ (by decide)) ((vClone_ok (hc _ (by decide)) (hc _ (by decide)) (hc _ (by decide)) (hc _ (by decide)) e (b3 e (List.mem_of_getElem? he)) _).mono ?_)
    rintro o H1 ⟨cs,fp1,rfl,ho,hl,hones,hF1,hN1,hK1⟩
    refine ⟨_,rfl,?_⟩
    simp only [AHeap.next_alloc,AHeap.next_put] at hF1 hN1
    have d0:=hK1 q (by simp only [AHeap.next_alloc,AHeap.next_put]; omega)
    have d1:=hK1 (q + 1) (by simp only [AHeap.next_alloc,AHeap.next_put]; omega)
    have d2:=hK1 r (by simp only [AHeap.next_alloc,AHeap.next_put]; omega)
    simp -implicitDefEqProofs (maxDischargeDepth:=12) only [WW,List.replicate,e_splice,if_true,if_false,ite_true,ite_false,true_or,ne_eq,seval,h_putc,beq_self_eq_true,eq_self,exists_eq_left,exists_eq_left',g0,g1,g2,g3,g4,g5,hA,hB,hC] at d0 d1 d2
    have hE1 : AccX false 3 2 Voice.enc H1 a (Sl.of ((x.voices.l.take i).map Voice.cl)) fp:=hE.fr fun b hb => by
      have:=hE.lts b hb
      rw [hK1 b (by simp only [AHeap.next_alloc,AHeap.next_put]; omega),c_put_ne (by omega),c_alloc_ne (by omega)]
    have hAc1 : AccX false 1 2 ClefChange.enc H1 vc x.clefs fpc:=hAc.fr fun b hb => by
      have:=lc b hb
      rw [hK1 b (by simp only [AHeap.next_alloc,AHeap.next_put]; omega),c_put_ne (by omega),c_alloc_ne (by omega)]
    have hK2 : Keep q H0 H1:=fun b hb => by
      rw [hK1 b (by simp only [AHeap.next_alloc,AHeap.next_put]; omega),c_put_ne (by omega),c_alloc_ne (by omega),hKp b hb]
    simp -implicitDefEqProofs (maxDischargeDepth:=12) only [WW,List.replicate,e_splice,if_true,if_false,ite_true,ite_false,true_or,ne_eq,seval,h_putc,beq_self_eq_true,eq_self,exists_eq_left,exists_eq_left',g0,g1,g2,g3,g4,g5,hA,hB,hC,d0,d1,d2,hl,hones,ones_take hl]
    have apf : Apart fp fp1:=fun b hb hb2 => by
      have:=hE.lts b hb
      have:=hF1 b hb2; omega
    refine wA_app2 row_Voice hE1 (by repeat (first | exact Keep.refl | refine Keep.put (by (try simp only [AHeap.next_alloc,AHeap.next_put]); omega) ?_ | refine Keep.alloc (by (try simp only [AHeap.next_alloc,AHeap.next_put]); omega) ?_)) (by simp) (ys:=[e.cl]) (by simp) rfl (asrc_new rfl (by simpa using hl)) (fp1:=fp1) (by
      have : ([e.cl].flatMap fun y => (Voice.enc y).cells) = e.cl.enc.cells:=by simp
      rw [this]
      exact ho.fr fun b hb => c_alloc_ne (by have:=ho.lts b hb; omega)) apf ?_ ?_
    · rw [l_of]; simp only [List.length_map,List.length_take,List.length_cons,List.length_nil]; omega
    intro v' H2 fp' hE' hn2 hk2 hfp2 ho2 hc2
    rw [of_map_succ he] at hE'
    have k0:=(hk2 q (fun h => by have:=hfp q h; omega) (by omega)).trans d0
    have k1:=(hk2 (q + 1) (fun h => by have:=hfp _ h; omega) (by omega)).trans d1
    have k2:=(hk2 r (fun h => by have:=hfp _ h; omega) (by omega)).trans d2
    have hfp3 : ∀ b ∈ fp',r + 1 ≤ b:=fun b hb => by
      rcases hfp2 b hb with h | h | h
      · exact hfp b h
      · have:=hF1 b h; omega
      · omega
    simp -implicitDefEqProofs (maxDischargeDepth:=12) only [WW,List.replicate,e_splice,if_true,if_false,ite_true,ite_false,true_or,ne_eq,seval,h_putc,beq_self_eq_true,eq_self,exists_eq_left,exists_eq_left',e2,k0,k1,k2,ho2,hc2,nq2,mq2,mq12,mq21,nq1,mq1,p0,p1,p2,p3]
    refine ⟨k - 1,by omega,i + 1,fp',v',by omega,rfl,hAc1.fr fun b hb => ?_,hE'.fr fun b hb => h_put_ne (by have:=hfp3 b hb; omega),hfp3,by omega,fun b hb => ?_,ex_x rfl⟩
    · have:=lc b hb
      rw [h_put_ne (by omega),hk2 b (fun h => by have:=hfp b h; omega) (by omega)]
    rw [h_put_ne (by omega),hk2 b (fun h => by have:=hfp b h; omega) (by omega),hK2 b hb]
  · have hi : i = x.voices.l.length:=by omega
    subst hi
    rw [List.take_length] at hE
    obtain ⟨g,og,kg⟩:=hE.own row_Voice
    obtain ⟨gc,oc,kc⟩:=hAc.own row_ClefChange'
    simp -implicitDefEqProofs (maxDischargeDepth:=12) only [WW,List.replicate,e_splice,if_true,if_false,ite_true,ite_false,true_or,ne_eq,seval,h_putc,beq_self_eq_true,eq_self,exists_eq_left,exists_eq_left',hA,hB,hC,c1,hE.one,hE.cells,hAc.one,hAc.cells,nq1,nq2,mq1,mq2,mq12,mq21,p0,p1,p2,p3]
    refine ⟨_,_,rfl,.cons ((oc.mono (by decide)).frame fun b hb => ?_) (.cons (og.frame fun b hb => ?_) .nil Apart.nil_right) ?_,rfl,?_,?_,?_,?_⟩
    · have:=hFc b (kc b hb)
      simp only [c_put_ne (show b ≠ q + 1 by omega)]
    · have:=hfp b (kg b hb)
      simp only [c_put_ne (show b ≠ q + 1 by omega)]
    · intro b hb hb2
      simp only [List.append_nil] at hb2
      have:=lc b (kc b hb)
      have:=hfp b (kg b hb2)
      omega
    · simp only [AV.ones,List.all_cons,List.all_nil,hE.one,hAc.one,Bool.and_self]
    · intro b hb
      simp only [List.append_nil,List.mem_append] at hb
      rcases hb with h | h
      · have:=hFc b (kc b h); omega
      · have:=hfp b (kg b h); omega
    · simp only [AHeap.next_put]; omega
    · intro b hb
      simp only [c_put_ne (show b ≠ q + 1 by omega)]
      exact hKp b (by omega)
end Go.Hem
namespace Go.Hem
variable {pol : Pol}
def Measure.cl (m : Measure) : Measure:={ m with cells:=Sl.of (m.cells.l.map Cell.cl) }
theorem mClone_ok (hc : ClPol pol) (x : Measure) (hx : x.tame) (H0 : AHeap) : Ev prog pol (.call 83 [x.enc]) H0 (ClPost 5 22 H0 x.cl.enc):=by
  refine (wpF_ok ok83 (Q:=fun v H' => ∃ cs fp,v = .agg cs∧OwnL (OwnX false 5) H' cs x.cl.enc.cells fp∧cs.length = 22∧AV.ones cs = true∧Fresh H0 H' fp) ?_).mono ?_
  rotate_left
  · rintro o H' ⟨v,rfl,cs,fp,rfl,h⟩; exact ⟨cs,fp,rfl,h⟩
  obtain ⟨b1,b2,b3⟩:=hx
  generalize hq : H0.next = q
  simp -implicitDefEqProofs (maxDischargeDepth:=12) only [wpF,cf83,WW,List.replicate,e_splice,if_true,if_false,ite_true,ite_false,true_or,ne_eq,seval,h_putc,beq_self_eq_true,eq_self,exists_eq_left,exists_eq_left',x.enc_eq,nq1,mq1,addq,hq,nq2,mq2,mq12,mq21]
  refine wA_call (hc _ (by decide)) ((sclTempo_ok x.tempi b1 _).mono ?_)
  rintro o Hc ⟨vc,fpc,rfl,hAc,hFc,hNc,hKc⟩
  refine ⟨_,rfl,?_⟩
  simp only [AHeap.next_alloc,addq,hq] at hFc hNc
  have a0:=hKc q (by simp only [AHeap.next_alloc,hq]; omega)
  have a1:=hKc (q + 1) (by simp only [AHeap.next_alloc,hq]; omega)
  simp -implicitDefEqProofs (maxDischargeDepth:=12) only [WW,List.replicate,e_splice,if_true,if_false,ite_true,ite_false,true_or,ne_eq,seval,h_putc,beq_self_eq_true,eq_self,exists_eq_left,exists_eq_left',nq1,mq1,addq,hq,nq2,mq2,mq12,mq21] at a0 a1
  have hK0 : Keep q H0 Hc:=fun b hb => by
    rw [hKc b (by simp only [AHeap.next_alloc,hq]; omega)]
    simp only [c_alloc_ne (show b ≠ H0.next by omega),c_alloc_ne (show b ≠ (H0.alloc _).next by simp only [AHeap.next_alloc]; omega)]
  have lc:=hAc.lts
  simp -implicitDefEqProofs (maxDischargeDepth:=12) only [WW,List.replicate,e_splice,if_true,if_false,ite_true,ite_false,true_or,ne_eq,seval,h_putc,beq_self_eq_true,eq_self,exists_eq_left,exists_eq_left',nq1,mq1,addq,hq,nq2,mq2,mq12,mq21,a0,a1,hAc.one,hAc.cells]
  refine wp_loop (Inv:=fun k t H => ∃ (i : Nat) (fp : List Nat) (a : AV),i + k = x.cells.l.length∧H.cells q = some [.sc (.int .i64 x.id.site),.sc (.int .i64 x.id.number),.sc (.int .i64 x.metre.count),.sc (.int .i64 x.metre.unit),.sc (.int .i64 x.metre.g0),.sc (.int .i64 x.metre.g1),.sc (.int .i64 x.metre.g2),.sc (.int .i64 x.metre.g3),.sc (.int .i64 x.metre.g4),.sc (.int .i64 x.metre.g5),.sc (.int .i64 x.length),.sc (.int .i64 x.fifths),.sc (.bool x.rstart),.sc (.int .i64 x.rend),.sc (.int .i64 x.endings),.sc (.int .i64 x.jump),.sc (.int .i64 x.labels),.sc (.int .i64 x.swing),.sc (.int .i64 x.brk),.sc (.str x.rehearsal),vc,a]∧H.cells (q + 1) = some [.sc (.int .i64 0),.sc (.int .i64 0),.sc (.int .i64 0),.sc (.int .i64 0),.sc (.int .i64 0),.sc (.int .i64 0),.sc (.int .i64 0),.sc (.int .i64 0),.sc (.int .i64 0),.sc (.int .i64 0),.sc (.int .i64 0),.sc (.int .i64 0),.sc (.bool false),.sc (.int .i64 0),.sc (.int .i64 0),.sc (.int .i64 0),.sc (.int .i64 0),.sc (.int .i64 0),.sc (.int .i64 0),.sc (.str ⟨#[]⟩),.sc .nils,.sc .nils] ∧
    AccX false 1 3 Tempo.enc H vc x.tempi fpc∧AccX false 4 2 Cell.enc H a (Sl.of ((x.cells.l.take i).map Cell.cl)) fp∧(∀ b ∈ fp,Hc.next ≤ b)∧Hc.next ≤ H.next∧Keep q H0 H ∧
    ∃ y : Nat→AV,t = [.agg [.sc (.int .i64 x.id.site),.sc (.int .i64 x.id.number),.sc (.int .i64 x.metre.count),.sc (.int .i64 x.metre.unit),.sc (.int .i64 x.metre.g0),.sc (.int .i64 x.metre.g1),.sc (.int .i64 x.metre.g2),.sc (.int .i64 x.metre.g3),.sc (.int .i64 x.metre.g4),.sc (.int .i64 x.metre.g5),.sc (.int .i64 x.length),.sc (.int .i64 x.fifths),.sc (.bool x.rstart),.sc (.int .i64 x.rend),.sc (.int .i64 x.endings),.sc (.int .i64 x.jump),.sc (.int .i64 x.labels),.sc (.int .i64 x.swing),.sc (.int .i64 x.brk),.sc (.str x.rehearsal),slm Tempo.enc x.tempi,slm Cell.enc x.cells],.ptr q 0,.ptr (q + 1) 0,slm Cell.enc x.cells,y 4,y 5,y 6,y 7,y 8,y 9,y 10,y 11,y 12,slm Cell.enc x.cells,.sc (.int .i64 x.cells.l.length),.sc (.int .i64 i),y 16,y 17,y 18,y 19,y 20,y 21,y 22,y 23,y 24,y 25,y 26,y 27]) (k:=x.cells.l.length) ?_
    ⟨0,[],_,by omega,?_,?_,?_,acc_none,by simp,?_,?_,ex_x rfl⟩
  rotate_left
  · simp -implicitDefEqProofs (maxDischargeDepth:=12) only [WW,List.replicate,e_splice,if_true,if_false,ite_true,ite_false,true_or,ne_eq,seval,h_putc,beq_self_eq_true,eq_self,exists_eq_left,exists_eq_left',nq1,mq1,addq,hq,nq2,mq2,mq12,mq21,a0,a1]
  · simp -implicitDefEqProofs (maxDischargeDepth:=12) only [WW,List.replicate,e_splice,if_true,if_false,ite_true,ite_false,true_or,ne_eq,seval,h_putc,beq_self_eq_true,eq_self,exists_eq_left,exists_eq_left',nq1,mq1,addq,hq,nq2,mq2,mq12,mq21,a0,a1]
  · exact hAc.fr fun b hb => by have:=hFc b hb; rw [c_put_ne (by omega),c_put_ne (by omega)]
  · simp only [AHeap.next_alloc,AHeap.next_put]; omega
  · intro b hb; rw [c_put_ne (by omega),c_put_ne (by omega),hK0 b hb]
  clear a0 a1 hAc
  rintro k t H ⟨i,fp,a,hk,hA,hB,hAc,hE,hfp,hN,hKp,y,rfl⟩
  have g0 : ¬ q = H.next:=by omega
  have g1 : ¬ q + 1 = H.next:=by omega
  have g3 : ¬ H.next = q:=by omega
  have g4 : ¬ H.next = q + 1:=by omega
  by_cases c1 : (i : Int) < (x.cells.l.length : Int)
  · obtain ⟨e,he⟩ : ∃ y,x.cells.l[i]? = some y:=⟨_,List.getElem?_eq_getElem (by omega)⟩
    have e2 : IntKind.i64.wrap ((i : Int) + 1) = ((i + 1 : Nat) : Int):=by rw [w64 (by omega) (by omega)]; omega
    simp -implicitDefEqProofs (maxDischargeDepth:=12) only [WW,List.replicate,e_splice,if_true,if_false,ite_true,ite_false,true_or,ne_eq,seval,h_putc,beq_self_eq_true,eq_self,exists_eq_left,exists_eq_left',hA,hB,c1,he,e.enc_eq,g0,g1,g3,g4]
    rw [← e.enc_eq]
    refine wA_call (hc _ (by decide)) ((cClone_ok hc e (b3 e (List.mem_of_getElem? he)) _).mono ?_)
    rintro o H1 ⟨cs,fp1,rfl,ho,hl,hones,hF1,hN1,hK1⟩
    refine ⟨_,rfl,?_⟩
    simp only [AHeap.next_alloc,AHeap.next_put] at hF1 hN1
    have d0:=hK1 q (by simp only [AHeap.next_alloc,AHeap.next_put]; omega)
    have d1:=hK1 (q + 1) (by simp only [AHeap.next_alloc,AHeap.next_put]; omega)
    simp -implicitDefEqProofs (maxDischargeDepth:=12) only [WW,List.replicate,e_splice,if_true,if_false,ite_true,ite_false,true_or,ne_eq,seval,h_putc,beq_self_eq_true,eq_self,exists_eq_left,exists_eq_left',g0,g1,g3,g4,hA,hB] at d0 d1
    have hE1 : AccX false 4 2 Cell.enc H1 a (Sl.of ((x.cells.l.take i).map Cell.cl)) fp:=hE.fr fun b hb => by
      have:=hE.lts b hb
      rw [hK1 b (by simp only [AHeap.next_alloc,AHeap.next_put]; omega),c_put_ne (by omega),c_alloc_ne (by omega)]
    have hAc1 : AccX false 1 3 Tempo.enc H1 vc x.tempi fpc:=hAc.fr fun b hb => by
      have:=lc b hb
      rw [hK1 b (by simp only [AHeap.next_alloc,AHeap.next_put]; omega),c_put_ne (by omega),c_alloc_ne (by omega)]
    have hK2 : Keep q H0 H1:=fun b hb => by
      rw [hK1 b (by simp only [AHeap.next_alloc,AHeap.next_put]; omega),c_put_ne (by omega),c_alloc_ne (by omega),hKp b hb]
    simp -implicitDefEqProofs (maxDischargeDepth:=12) only [WW,List.replicate,e_splice,if_true,if_false,ite_true,ite_false,true_or,ne_eq,seval,h_putc,beq_self_eq_true,eq_self,exists_eq_left,exists_eq_left',g0,g1,g3,g4,hA,hB,d0,d1,hl,hones,ones_take hl]
    have apf : Apart fp fp1:=fun b hb hb2 => by
      have:=hE.lts b hb
      have:=hF1 b hb2; omega
    refine wA_app2 row_Cell hE1 (by repeat (first | exact Keep.refl | refine Keep.put (by (try simp only [AHeap.next_alloc,AHeap.next_put]); omega) ?_ | refine Keep.alloc (by (try simp only [AHeap.next_alloc,AHeap.next_put]); omega) ?_)) (by simp) (ys:=[e.cl]) (by simp) rfl (asrc_new rfl (by simpa using hl)) (fp1:=fp1) (by
      have : ([e.cl].flatMap fun y => (Cell.enc y).cells) = e.cl.enc.cells:=by simp
      rw [this]
      exact ho.fr fun b hb => c_alloc_ne (by have:=ho.lts b hb; omega)) apf ?_ ?_
    · rw [l_of]; simp only [List.length_map,List.length_take,List.length_cons,List.length_nil]; omega
    intro v' H2 fp' hE' hn2 hk2 hfp2 ho2 hc2
    rw [of_map_succ he] at hE'
    have k0:=(hk2 q (fun h => by have:=hfp q h; omega) (by omega)).trans d0
    have k1:=(hk2 (q + 1) (fun h => by have:=hfp _ h; omega) (by omega)).trans d1
    have hfp3 : ∀ b ∈ fp',Hc.next ≤ b:=fun b hb => by
      rcases hfp2 b hb with h | h | h
      · exact hfp b h
      · have:=hF1 b h; omega
      · omega
    simp -implicitDefEqProofs (maxDischargeDepth:=12) only [WW,List.replicate,e_splice,if_true,if_false,ite_true,ite_false,true_or,ne_eq,seval,h_putc,beq_self_eq_true,eq_self,exists_eq_left,exists_eq_left',e2,k0,k1,ho2,hc2,nq2,mq2,mq12,mq21,nq1,mq1]
    refine ⟨k - 1,by omega,i + 1,fp',v',by omega,rfl,hAc1.fr fun b hb => ?_,hE'.fr fun b hb => h_put_ne (by have:=hfp3 b hb; omega),hfp3,by omega,fun b hb => ?_,ex_x rfl⟩
    · have:=lc b hb
      have:=hFc b hb
      rw [h_put_ne (by omega),hk2 b (fun h => by have:=hfp b h; omega) (by omega)]
    rw [h_put_ne (by omega),hk2 b (fun h => by have:=hfp b h; omega) (by omega),hK2 b hb]
  · have hi : i = x.cells.l.length:=by omega
    subst hi
    rw [List.take_length] at hE
    obtain ⟨g,og,kg⟩:=hE.own row_Cell
    obtain ⟨gc,oc,kc⟩:=hAc.own row_Tempo'
    simp -implicitDefEqProofs (maxDischargeDepth:=12) only [WW,List.replicate,e_splice,if_true,if_false,ite_true,ite_false,true_or,ne_eq,seval,h_putc,beq_self_eq_true,eq_self,exists_eq_left,exists_eq_left',hA,hB,c1,hE.one,hE.cells,hAc.one,hAc.cells,nq1,nq2,mq1,mq2,mq12,mq21]
    refine ⟨_,_,rfl,(.cons OwnX.scal (.cons OwnX.scal (.cons OwnX.scal (.cons OwnX.scal (.cons OwnX.scal (.cons OwnX.scal (.cons OwnX.scal (.cons OwnX.scal (.cons OwnX.scal (.cons OwnX.scal (.cons OwnX.scal (.cons OwnX.scal (.cons OwnX.scal (.cons OwnX.scal (.cons OwnX.scal (.cons OwnX.scal (.cons OwnX.scal (.cons OwnX.scal (.cons OwnX.scal (.cons OwnX.scal (.cons ((oc.mono (by decide)).frame fun b hb => ?_) (.cons (og.frame fun b hb => ?_) .nil Apart.nil_right) ?_) Apart.nil_left) Apart.nil_left) Apart.nil_left) Apart.nil_left) Apart.nil_left) Apart.nil_left) Apart.nil_left) Apart.nil_left) Apart.nil_left) Apart.nil_left) Apart.nil_left) Apart.nil_left) Apart.nil_left) Apart.nil_left) Apart.nil_left) Apart.nil_left) Apart.nil_left) Apart.nil_left) Apart.nil_left) Apart.nil_left),rfl,?_,?_,?_,?_⟩
    · have:=hFc b (kc b hb)
      simp only [c_put_ne (show b ≠ q + 1 by omega)]
    · have:=hfp b (kg b hb)
      simp only [c_put_ne (show b ≠ q + 1 by omega)]
    · intro b hb hb2
      simp only [List.append_nil] at hb2
      have:=lc b (kc b hb)
      have:=hfp b (kg b hb2)
      omega
    · simp only [AV.ones,List.all_cons,List.all_nil,o_int,o_bool,o_str,hE.one,hAc.one,Bool.and_self]
    · intro b hb
      simp only [List.nil_append,List.append_nil,List.mem_append] at hb
      rcases hb with h | h
      · have:=hFc b (kc b h); omega
      · have:=hfp b (kg b h); omega
    · simp only [AHeap.next_put]; omega
    · intro b hb
      simp only [c_put_ne (show b ≠ q + 1 by omega)]
      exact hKp b (by omega)
end Go.Hem
namespace Go.Hem
variable {pol : Pol}
def Score.cl (s : Score) : Score:={ s with parts:=some s.parts.l,measures:=some (s.measures.l.map Measure.cl) }
theorem some_take_succ {α : Type} {l : List α} {i : Nat} {x : α} (h : l[i]? = some x) : (some (Sl.l (some (l.take i)) ++ [x]) : Sl α) = some (l.take (i + 1)):=by
  rw [List.take_add_one,h]; rfl
theorem some_map_succ {α β : Type} {g : α→β} {l : List α} {i : Nat} {x : α} (h : l[i]? = some x) : (some (Sl.l (some ((l.take i).map g)) ++ [g x]) : Sl β) = some ((l.take (i + 1)).map g):=by
  rw [List.take_add_one,h]; simp [Sl.l]
theorem acc_room {α : Type} {f : α→AV} {d n c b : Nat} {H : AHeap} {z : List AV} (hz : z.length = n) (h : H.cells b = some (rep c z)) : AccX false d n f H (.slice b 0 0 c n) (some []) [b] :=
  .inr ⟨b,c,[],rep c z,[],[],rfl,rfl,Nat.zero_le _,by simpa using h,by simp,by rw [len_rep,hz]; simp,.nil,by simp,rfl⟩
def RowN (n : Nat) (v : AV) : Prop:=∀ b off len cap n',v = .slice b off len cap n'→n ≤ n'
theorem AccX.rowN {α : Type} {f : α→AV} {I : Bool} {d n : Nat} {H : AHeap} {v : AV} {s : Sl α} {fp : List Nat} (h : AccX I d n f H v s fp) : RowN n v:=by
  intro b off len cap n' e
  rcases h with ⟨rfl,_⟩ | ⟨b',cap',cs,rest,fp',l,_,rfl,_⟩
  · cases e
  · cases e; exact Nat.le_refl _
def ClPost2 (H0 : AHeap) (u : AV) (o : Out) (H' : AHeap) : Prop:=∃ cs fp,o = .val (.agg cs)∧OwnL (OwnX false 7) H' cs u.cells fp∧cs.length = 6∧AV.ones cs = true∧(RowN 6 (cs.getD 2 .poison)∧RowN 22 (cs.getD 3 .poison))∧Fresh H0 H' fp
theorem sClone_ok2 (hc : ClPol pol) (x : Score) (hx : x.tame) (H0 : AHeap) : Ev prog pol (.call 39 [x.enc]) H0 (ClPost2 H0 x.cl.enc):=by
  refine (wpF_ok ok39 (Q:=fun v H' => ∃ cs fp,v = .agg cs∧OwnL (OwnX false 7) H' cs x.cl.enc.cells fp∧cs.length = 6∧AV.ones cs = true∧(RowN 6 (cs.getD 2 .poison)∧RowN 22 (cs.getD 3 .poison))∧Fresh H0 H' fp) ?_).mono ?_
  rotate_left
  · rintro o H' ⟨v,rfl,cs,fp,rfl,h⟩; exact ⟨cs,fp,rfl,h⟩
  obtain ⟨b1,b2,b3,b4,b5,b6⟩:=hx
  have m1 : ((72 : Nat) : Int) * ((x.parts.l.length : Nat) : Int) ≤ 2 ^ 47:=by omega
  have m2 : x.parts.l.length < 2 ^ 40:=by omega
  have m3 : ((216 : Nat) : Int) * ((x.measures.l.length : Nat) : Int) ≤ 2 ^ 47:=by omega
  have m4 : x.measures.l.length < 2 ^ 40:=by omega
  generalize hq : H0.next = q
  simp -implicitDefEqProofs (maxDischargeDepth:=12) only [wpF,cf39,WW,List.replicate,e_splice,if_true,if_false,ite_true,ite_false,true_or,ne_eq,Nat.reduceAdd,Nat.reduceSub,Nat.reduceMul,Nat.reduceLeDiff,Nat.reduceEqDiff,Nat.reduceGT,Nat.reduceLT,Int.reduceLE,Int.reduceLT,Int.reduceToNat,Int.reduceAdd,reduceCtorEq,h_putc,beq_self_eq_true,eq_self,exists_eq_left,exists_eq_left',x.enc_eq,nq1,mq1,addq,nq2,mq2,mq12,mq21,hq,mksOf,m1,m2]
  refine wp_loop (Inv:=fun k t H => ∃ (i : Nat) (fp : List Nat) (a : AV),i + k = x.parts.l.length∧H.cells q = some [.sc (.str x.title),.sc (.bool x.written),slm Part.enc x.parts,slm Measure.enc x.measures,slm Spanner.enc x.spanners,slm ID.enc x.last]∧H.cells (q + 1) = some [.sc (.str ⟨#[]⟩),.sc (.bool false),.sc .nils,.sc .nils,.sc .nils,.sc .nils] ∧
    AccX false 3 6 Part.enc H a (some (x.parts.l.take i)) fp∧(∀ b ∈ fp,q + 2 ≤ b)∧q + 2 ≤ H.next∧Keep q H0 H ∧
    ∃ y : Nat→AV,t = [.agg [.sc (.str x.title),.sc (.bool x.written),slm Part.enc x.parts,slm Measure.enc x.measures,slm Spanner.enc x.spanners,slm ID.enc x.last],.ptr q 0,.ptr (q + 1) 0,a,y 4,y 5,y 6,y 7,y 8,y 9,y 10,y 11,y 12,y 13,slm Part.enc x.parts,.sc (.int .i64 x.parts.l.length),.sc (.int .i64 i),y 17,y 18,y 19,y 20,y 21,y 22,y 23,y 24,y 25,y 26,y 27,y 28,y 29,y 30,y 31,y 32,y 33,y 34,y 35,y 36,y 37,y 38,y 39,y 40,y 41,y 42,y 43,y 44,y 45,y 46,y 47,y 48,y 49,y 50,y 51,y 52,y 53,y 54,y 55]) (k:=x.parts.l.length) ?_
    ⟨0,[q + 2],_,by omega,?_,?_,?_,?_,?_,?_,ex_x rfl⟩
  rotate_left
  · simp -implicitDefEqProofs (maxDischargeDepth:=12) only [WW,List.replicate,e_splice,if_true,if_false,ite_true,ite_false,true_or,ne_eq,seval,h_putc,beq_self_eq_true,eq_self,exists_eq_left,exists_eq_left',nq1,mq1,addq,nq2,mq2,mq12,mq21,hq]
  · simp -implicitDefEqProofs (maxDischargeDepth:=12) only [WW,List.replicate,e_splice,if_true,if_false,ite_true,ite_false,true_or,ne_eq,seval,h_putc,beq_self_eq_true,eq_self,exists_eq_left,exists_eq_left',nq1,mq1,addq,nq2,mq2,mq12,mq21,hq]
  · exact acc_room (z:=[.sc (.int .i64 0),.sc (.int .i64 0),.sc (.str ⟨#[]⟩),.sc (.int .i64 0),.sc (.int .i64 0),.sc .nils]) rfl (by simp -implicitDefEqProofs (maxDischargeDepth:=12) only [WW,List.replicate,e_splice,if_true,if_false,ite_true,ite_false,true_or,ne_eq,seval,h_putc,beq_self_eq_true,eq_self,exists_eq_left,exists_eq_left',nq1,mq1,addq,nq2,mq2,mq12,mq21,hq])
  · intro b hb; simp only [List.mem_singleton] at hb; omega
  · simp only [AHeap.next_alloc,hq]; omega
  · subst hq; exact (by repeat (first | exact Keep.refl | refine Keep.put (by (try simp only [AHeap.next_alloc,AHeap.next_put]); omega) ?_ | refine Keep.alloc (by (try simp only [AHeap.next_alloc,AHeap.next_put]); omega) ?_))
  rintro k t H ⟨i,fp,a,hk,hA,hB,hE,hfp,hN,hKp,y,rfl⟩
  have g0 : ¬ q = H.next:=by omega
  have g1 : ¬ q + 1 = H.next:=by omega
  have g3 : ¬ H.next = q:=by omega
  have g4 : ¬ H.next = q + 1:=by omega
  by_cases c1 : (i : Int) < (x.parts.l.length : Int)
  · obtain ⟨e,he⟩ : ∃ y,x.parts.l[i]? = some y:=⟨_,List.getElem?_eq_getElem (by omega)⟩
    have e2 : IntKind.i64.wrap ((i : Int) + 1) = ((i + 1 : Nat) : Int):=by rw [w64 (by omega) (by omega)]; omega
    simp -implicitDefEqProofs (maxDischargeDepth:=12) only [WW,List.replicate,e_splice,if_true,if_false,ite_true,ite_false,true_or,ne_eq,seval,h_putc,beq_self_eq_true,eq_self,exists_eq_left,exists_eq_left',hA,hB,c1,he,e.enc_eq,g0,g1,g3,g4]
    rw [← e.enc_eq]
    refine wA_call (hc _ (by decide)) ((pClone_ok (hc _ (by decide)) e (b2 e (List.mem_of_getElem? he)) _).mono ?_)
    rintro o H1 ⟨cs,fp1,rfl,ho0,hl,hones,hF1,hN1,hK1⟩
    have ho:=OwnL.mono (d':=3) ho0 (by decide)
    refine ⟨_,rfl,?_⟩
    simp only [AHeap.next_alloc,AHeap.next_put] at hF1 hN1
    have d0:=hK1 q (by simp only [AHeap.next_alloc,AHeap.next_put]; omega)
    have d1:=hK1 (q + 1) (by simp only [AHeap.next_alloc,AHeap.next_put]; omega)
    simp -implicitDefEqProofs (maxDischargeDepth:=12) only [WW,List.replicate,e_splice,if_true,if_false,ite_true,ite_false,true_or,ne_eq,seval,h_putc,beq_self_eq_true,eq_self,exists_eq_left,exists_eq_left',g0,g1,g3,g4,hA,hB] at d0 d1
    have hold : ∀ b,b < H.next→H1.cells b = H.cells b:=fun b hb => by
      rw [hK1 b (by simp only [AHeap.next_alloc,AHeap.next_put]; omega),c_put_ne (by omega),c_alloc_ne (by omega)]
    have hE1 : AccX false 3 6 Part.enc H1 a (some (x.parts.l.take i)) fp:=hE.fr fun b hb => hold b (hE.lts b hb)
    have hK2 : Keep q H0 H1:=fun b hb => by rw [hold b (by omega),hKp b hb]
    simp -implicitDefEqProofs (maxDischargeDepth:=12) only [WW,List.replicate,e_splice,if_true,if_false,ite_true,ite_false,true_or,ne_eq,seval,h_putc,beq_self_eq_true,eq_self,exists_eq_left,exists_eq_left',g0,g1,g3,g4,hA,hB,d0,d1,hl,hones,ones_take hl]
    have apf : Apart fp fp1:=fun b hb hb2 => by
      have:=hE.lts b hb
      have:=hF1 b hb2; omega
    refine wA_app2 row_Part hE1 (by repeat (first | exact Keep.refl | refine Keep.put (by (try simp only [AHeap.next_alloc,AHeap.next_put]); omega) ?_ | refine Keep.alloc (by (try simp only [AHeap.next_alloc,AHeap.next_put]); omega) ?_)) (by simp) (ys:=[e]) (by simp) rfl (asrc_new rfl (by simpa using hl)) (fp1:=fp1) (by
      have : ([e].flatMap fun y => (Part.enc y).cells) = (e).enc.cells:=by simp
      rw [this]
      exact ho.fr fun b hb => c_alloc_ne (by have:=ho.lts b hb; omega)) apf ?_ ?_
    · simp only [Sl.l,Option.getD_some,List.length_map,List.length_take,List.length_cons,List.length_nil]; omega
    intro v' H2 fp' hE' hn2 hk2 hfp2 ho2 hc2
    rw [some_take_succ he] at hE'
    have k0:=(hk2 q (fun h => by have:=hfp q h; omega) (by omega)).trans d0
    have k1:=(hk2 (q + 1) (fun h => by have:=hfp _ h; omega) (by omega)).trans d1
    have hfp3 : ∀ b ∈ fp',q + 2 ≤ b:=fun b hb => by
      rcases hfp2 b hb with h | h | h
      · exact hfp b h
      · have:=hF1 b h; omega
      · omega
    simp -implicitDefEqProofs (maxDischargeDepth:=12) only [WW,List.replicate,e_splice,if_true,if_false,ite_true,ite_false,true_or,ne_eq,seval,h_putc,beq_self_eq_true,eq_self,exists_eq_left,exists_eq_left',e2,k0,k1,ho2,hc2,nq1,mq1,addq,nq2,mq2,mq12,mq21]
    refine ⟨k - 1,by omega,i + 1,fp',v',by omega,hE',hfp3,by omega,fun b hb => ?_,ex_x rfl⟩
    rw [hk2 b (fun h => by have:=hfp b h; omega) (by omega),hK2 b hb]
  have hi : i = x.parts.l.length:=by omega
  subst hi
  rw [List.take_length] at hE
  have hP:=hE
  have hPf:=hfp
  have lp:=hE.lts
  clear hE hfp
  generalize a = vp at *
  generalize fp = fpp at *
  generalize hr : H.next = r
  rw [hr] at lp
  have hqr : q + 2 ≤ r:=by omega
  have p0 : ¬ q = r:=by omega
  have p1 : ¬ q + 1 = r:=by omega
  simp -implicitDefEqProofs (maxDischargeDepth:=12) only [WW,List.replicate,e_splice,if_true,if_false,ite_true,ite_false,true_or,ne_eq,Nat.reduceAdd,Nat.reduceSub,Nat.reduceMul,Nat.reduceLeDiff,Nat.reduceEqDiff,Nat.reduceGT,Nat.reduceLT,Int.reduceLE,Int.reduceLT,Int.reduceToNat,Int.reduceAdd,reduceCtorEq,h_putc,beq_self_eq_true,eq_self,exists_eq_left,exists_eq_left',hA,hB,c1,hr,p0,p1,mksOf,m3,m4]
  refine wp_loop (Inv:=fun k t H => ∃ (i : Nat) (fp : List Nat) (a : AV),i + k = x.measures.l.length∧H.cells q = some [.sc (.str x.title),.sc (.bool x.written),slm Part.enc x.parts,slm Measure.enc x.measures,slm Spanner.enc x.spanners,slm ID.enc x.last]∧H.cells (q + 1) = some [.sc (.str ⟨#[]⟩),.sc (.bool false),.sc .nils,.sc .nils,.sc .nils,.sc .nils]∧AccX false 3 6 Part.enc H vp (some x.parts.l) fpp ∧
    AccX false 5 22 Measure.enc H a (some ((x.measures.l.take i).map Measure.cl)) fp∧(∀ b ∈ fp,r ≤ b)∧r ≤ H.next∧Keep q H0 H ∧
    ∃ y : Nat→AV,t = [.agg [.sc (.str x.title),.sc (.bool x.written),slm Part.enc x.parts,slm Measure.enc x.measures,slm Spanner.enc x.spanners,slm ID.enc x.last],.ptr q 0,.ptr (q + 1) 0,vp,y 4,y 5,a,y 7,y 8,y 9,y 10,y 11,y 12,y 13,y 14,y 15,y 16,y 17,y 18,y 19,y 20,y 21,y 22,y 23,y 24,y 25,y 26,y 27,y 28,y 29,y 30,slm Measure.enc x.measures,.sc (.int .i64 x.measures.l.length),.sc (.int .i64 i),y 34,y 35,y 36,y 37,y 38,y 39,y 40,y 41,y 42,y 43,y 44,y 45,y 46,y 47,y 48,y 49,y 50,y 51,y 52,y 53,y 54,y 55]) (k:=x.measures.l.length) ?_
    ⟨0,[r],_,by omega,?_,?_,?_,?_,?_,?_,?_,ex_x rfl⟩
  rotate_left
  · simp -implicitDefEqProofs (maxDischargeDepth:=12) only [WW,List.replicate,e_splice,if_true,if_false,ite_true,ite_false,true_or,ne_eq,seval,h_putc,beq_self_eq_true,eq_self,exists_eq_left,exists_eq_left',nq1,mq1,addq,nq2,mq2,mq12,mq21,hr,p0,p1,hA,hB]
  · simp -implicitDefEqProofs (maxDischargeDepth:=12) only [WW,List.replicate,e_splice,if_true,if_false,ite_true,ite_false,true_or,ne_eq,seval,h_putc,beq_self_eq_true,eq_self,exists_eq_left,exists_eq_left',nq1,mq1,addq,nq2,mq2,mq12,mq21,hr,p0,p1,hA,hB]
  · exact hP.fr fun b hb => by have:=lp b hb; rw [c_alloc_ne (by omega)]
  · exact acc_room (z:=[.sc (.int .i64 0),.sc (.int .i64 0),.sc (.int .i64 0),.sc (.int .i64 0),.sc (.int .i64 0),.sc (.int .i64 0),.sc (.int .i64 0),.sc (.int .i64 0),.sc (.int .i64 0),.sc (.int .i64 0),.sc (.int .i64 0),.sc (.int .i64 0),.sc (.bool false),.sc (.int .i64 0),.sc (.int .i64 0),.sc (.int .i64 0),.sc (.int .i64 0),.sc (.int .i64 0),.sc (.int .i64 0),.sc (.str ⟨#[]⟩),.sc .nils,.sc .nils]) rfl (by simp -implicitDefEqProofs (maxDischargeDepth:=12) only [WW,List.replicate,e_splice,if_true,if_false,ite_true,ite_false,true_or,ne_eq,seval,h_putc,beq_self_eq_true,eq_self,exists_eq_left,exists_eq_left',nq1,mq1,addq,nq2,mq2,mq12,mq21,hr])
  · intro b hb; simp only [List.mem_singleton] at hb; omega
  · simp only [AHeap.next_alloc,hr]; omega
  · intro b hb; rw [c_alloc_ne (by omega),hKp b hb]
  clear hA hB hP hN hKp hk c1
  rintro k t H ⟨i,fp,a,hk,hA,hB,hP,hE,hfp,hN,hKp,y,rfl⟩
  have g0 : ¬ q = H.next:=by omega
  have g1 : ¬ q + 1 = H.next:=by omega
  have g3 : ¬ H.next = q:=by omega
  have g4 : ¬ H.next = q + 1:=by omega
  by_cases c1 : (i : Int) < (x.measures.l.length : Int)
  · obtain ⟨e,he⟩ : ∃ y,x.measures.l[i]? = some y:=⟨_,List.getElem?_eq_getElem (by omega)⟩
    have e2 : IntKind.i64.wrap ((i : Int) + 1) = ((i + 1 : Nat) : Int):=by rw [w64 (by omega) (by omega)]; omega
    simp -implicitDefEqProofs (maxDischargeDepth:=12) only [WW,List.replicate,e_splice,if_true,if_false,ite_true,ite_false,true_or,ne_eq,seval,h_putc,beq_self_eq_true,eq_self,exists_eq_left,exists_eq_left',hA,hB,c1,he,e.enc_eq,g0,g1,g3,g4]
    rw [← e.enc_eq]
    refine wA_call (hc _ (by decide)) ((mClone_ok hc e (b4 e (List.mem_of_getElem? he)) _).mono ?_)
    rintro o H1 ⟨cs,fp1,rfl,ho,hl,hones,hF1,hN1,hK1⟩
    refine ⟨_,rfl,?_⟩
    simp only [AHeap.next_alloc,AHeap.next_put] at hF1 hN1
    have d0:=hK1 q (by simp only [AHeap.next_alloc,AHeap.next_put]; omega)
    have d1:=hK1 (q + 1) (by simp only [AHeap.next_alloc,AHeap.next_put]; omega)
    simp -implicitDefEqProofs (maxDischargeDepth:=12) only [WW,List.replicate,e_splice,if_true,if_false,ite_true,ite_false,true_or,ne_eq,seval,h_putc,beq_self_eq_true,eq_self,exists_eq_left,exists_eq_left',g0,g1,g3,g4,hA,hB] at d0 d1
    have hold : ∀ b,b < H.next→H1.cells b = H.cells b:=fun b hb => by
      rw [hK1 b (by simp only [AHeap.next_alloc,AHeap.next_put]; omega),c_put_ne (by omega),c_alloc_ne (by omega)]
    have hE1 : AccX false 5 22 Measure.enc H1 a (some ((x.measures.l.take i).map Measure.cl)) fp:=hE.fr fun b hb => hold b (hE.lts b hb)
    have hK2 : Keep q H0 H1:=fun b hb => by rw [hold b (by omega),hKp b hb]
    have hP1 : AccX false 3 6 Part.enc H1 vp (some x.parts.l) fpp:=hP.fr fun b hb => hold b (hP.lts b hb)
    simp -implicitDefEqProofs (maxDischargeDepth:=12) only [WW,List.replicate,e_splice,if_true,if_false,ite_true,ite_false,true_or,ne_eq,seval,h_putc,beq_self_eq_true,eq_self,exists_eq_left,exists_eq_left',g0,g1,g3,g4,hA,hB,d0,d1,hl,hones,ones_take hl]
    have apf : Apart fp fp1:=fun b hb hb2 => by
      have:=hE.lts b hb
      have:=hF1 b hb2; omega
    refine wA_app2 row_Measure hE1 (by repeat (first | exact Keep.refl | refine Keep.put (by (try simp only [AHeap.next_alloc,AHeap.next_put]); omega) ?_ | refine Keep.alloc (by (try simp only [AHeap.next_alloc,AHeap.next_put]); omega) ?_)) (by simp) (ys:=[e.cl]) (by simp) rfl (asrc_new rfl (by simpa using hl)) (fp1:=fp1) (by
      have : ([e.cl].flatMap fun y => (Measure.enc y).cells) = (e.cl).enc.cells:=by simp
      rw [this]
      exact ho.fr fun b hb => c_alloc_ne (by have:=ho.lts b hb; omega)) apf ?_ ?_
    · simp only [Sl.l,Option.getD_some,List.length_map,List.length_take,List.length_cons,List.length_nil]; omega
    intro v' H2 fp' hE' hn2 hk2 hfp2 ho2 hc2
    rw [some_map_succ he] at hE'
    have k0:=(hk2 q (fun h => by have:=hfp q h; omega) (by omega)).trans d0
    have k1:=(hk2 (q + 1) (fun h => by have:=hfp _ h; omega) (by omega)).trans d1
    have hfp3 : ∀ b ∈ fp',r ≤ b:=fun b hb => by
      rcases hfp2 b hb with h | h | h
      · exact hfp b h
      · have:=hF1 b h; omega
      · omega
    simp -implicitDefEqProofs (maxDischargeDepth:=12) only [WW,List.replicate,e_splice,if_true,if_false,ite_true,ite_false,true_or,ne_eq,seval,h_putc,beq_self_eq_true,eq_self,exists_eq_left,exists_eq_left',e2,k0,k1,ho2,hc2,nq1,mq1,addq,nq2,mq2,mq12,mq21]
    refine ⟨k - 1,by omega,i + 1,fp',v',by omega,hP1.fr fun b hb => hk2 b (fun h => by have:=hfp b h; have:=lp b hb; omega) (by have:=lp b hb; omega),hE',hfp3,by omega,fun b hb => ?_,ex_x rfl⟩
    rw [hk2 b (fun h => by have:=hfp b h; omega) (by omega),hK2 b hb]
  have hi : i = x.measures.l.length:=by omega
  subst hi
  rw [List.take_length] at hE
  have lm:=hE.lts
  simp -implicitDefEqProofs (maxDischargeDepth:=12) only [WW,List.replicate,e_splice,if_true,if_false,ite_true,ite_false,true_or,ne_eq,seval,h_putc,beq_self_eq_true,eq_self,exists_eq_left,exists_eq_left',hA,hB,c1]
  refine wA_call (hc _ (by decide)) ((sclSpanner_ok x.spanners b5 _).mono ?_)
  rintro o H3 ⟨vs,fps,rfl,hAs,hFs,hNs,hKs⟩
  refine ⟨_,rfl,?_⟩
  have a0:=(hKs q (by omega)).trans hA
  have a1:=(hKs (q + 1) (by omega)).trans hB
  have ls:=hAs.lts
  simp -implicitDefEqProofs (maxDischargeDepth:=12) only [WW,List.replicate,e_splice,if_true,if_false,ite_true,ite_false,true_or,ne_eq,seval,h_putc,beq_self_eq_true,eq_self,exists_eq_left,exists_eq_left',hA,hB,a0,a1]
  refine wA_call (hc _ (by decide)) ((sclID_ok x.last b6 _).mono ?_)
  rintro o H4 ⟨vl,fpl,rfl,hAl,hFl,hNl,hKl⟩
  refine ⟨_,rfl,?_⟩
  have d0:=(hKl q (by omega)).trans a0
  have d1:=(hKl (q + 1) (by omega)).trans a1
  simp -implicitDefEqProofs (maxDischargeDepth:=12) only [WW,List.replicate,e_splice,if_true,if_false,ite_true,ite_false,true_or,ne_eq,seval,h_putc,beq_self_eq_true,eq_self,exists_eq_left,exists_eq_left',a0,a1,d0,d1,hP.one,hP.cells,hE.one,hE.cells,hAs.one,hAs.cells,hAl.one,hAl.cells,nq1,mq1,addq,nq2,mq2,mq12,mq21]
  obtain ⟨gp,op,kp⟩:=hP.own row_Part
  obtain ⟨gm,om,km⟩:=hE.own row_Measure
  obtain ⟨gs,os,ks⟩:=hAs.own row_Spanner'
  obtain ⟨gl,ol,kl⟩:=hAl.own row_ID'
  have old : ∀ b,b < H.next→H4.cells b = H.cells b:=fun b hb => by rw [hKl b (by omega),hKs b hb]
  refine ⟨_,_,rfl,.cons OwnX.scal (.cons OwnX.scal (.cons ((op.mono (by decide)).frame fun b hb => ?_) (.cons ((om.mono (by decide)).frame fun b hb => ?_) (.cons ((os.mono (by decide)).frame fun b hb => ?_) (.cons ((ol.mono (by decide)).frame fun b hb => ?_) .nil Apart.nil_right) ?_) ?_) ?_) Apart.nil_left) Apart.nil_left,rfl,?_,⟨hP.rowN,hE.rowN⟩,?_,?_,?_⟩
  · have:=hPf b (kp b hb)
    have:=lp b (kp b hb)
    simp only [c_put_ne (show b ≠ q by omega),c_put_ne (show b ≠ q + 1 by omega)]
    exact old b (by omega)
  · have:=hfp b (km b hb)
    have:=lm b (km b hb)
    simp only [c_put_ne (show b ≠ q by omega),c_put_ne (show b ≠ q + 1 by omega)]
    exact old b (by omega)
  · have:=hFs b (ks b hb)
    have:=ls b (ks b hb)
    simp only [c_put_ne (show b ≠ q by omega),c_put_ne (show b ≠ q + 1 by omega)]
    exact hKl b (by omega)
  · have:=hFl b (kl b hb)
    simp only [c_put_ne (show b ≠ q by omega),c_put_ne (show b ≠ q + 1 by omega)]
  · intro b hb hb2
    simp only [List.append_nil] at hb2
    have:=ls b (ks b hb)
    have:=hFl b (kl b hb2)
    omega
  · intro b hb hb2
    simp only [List.append_nil,List.mem_append] at hb2
    have:=lm b (km b hb)
    rcases hb2 with h | h
    · have:=hFs b (ks b h); omega
    · have:=hFl b (kl b h); omega
  · intro b hb hb2
    simp only [List.append_nil,List.mem_append] at hb2
    have:=lp b (kp b hb)
    rcases hb2 with h | h | h
    · have:=hfp b (km b h); omega
    · have:=hFs b (ks b h); omega
    · have:=hFl b (kl b h); omega
  · simp only [AV.ones,List.all_cons,List.all_nil,o_str,o_bool,hP.one,hE.one,hAs.one,hAl.one,Bool.and_self]
  · intro b hb
    simp only [List.nil_append,List.append_nil,List.mem_append] at hb
    rcases hb with h | h | h | h
    · have:=hPf b (kp b h); omega
    · have:=hfp b (km b h); omega
    · have:=hFs b (ks b h); omega
    · have:=hFl b (kl b h); omega
  · simp only [AHeap.next_put]; omega
  · intro b hb
    simp only [c_put_ne (show b ≠ q by omega),c_put_ne (show b ≠ q + 1 by omega)]
    rw [old b (by omega),hKp b (by omega)]
theorem sClone_ok (hc : ClPol pol) (x : Score) (hx : x.tame) (H0 : AHeap) : Ev prog pol (.call 39 [x.enc]) H0 (ClPost 7 6 H0 x.cl.enc):=(sClone_ok2 hc x hx H0).mono fun o H' ⟨cs,fp,h1,h2,h3,h4,_,h5⟩ => ⟨cs,fp,h1,h2,h3,h4,h5⟩
end Go.Hem
namespace Go.Hem
variable {pol : Pol}
def hasS (l : List ID) (st : Int) : Bool:=l.any fun x => decide (x.site = st)
def setL : List ID→Int→Int→List ID
  | [],_,_ => []
  | x :: l,st,n => if x.site = st then ⟨st,n⟩ :: l else x :: setL l st n
def insL : List ID→Int→Int→List ID
  | [],st,n => [⟨st,n⟩]
  | x :: l,st,n => if x.site ≤ st then x :: insL l st n else ⟨st,n⟩ :: x :: l
def giveL (l : List ID) (st n : Int) : List ID:=if hasS l st = true then setL l st n else insL l st n
end Go.Hem
namespace Go.Hem
variable {pol : Pol}
theorem pvf_ownA {P : Program} {pol : Pol} {K : AHeap→Prop} {H : AHeap} {Q : AV→AHeap→Prop} {f : FuncId} {args us : List AV} {fp : List Nat} {r : AV} (hc : AV.closedBs args = false) (h : OwnL (Own 20) H args us fp) (hv : Pv P pol f us r) (k : ∀ H1,Less H H1 fp→K H1∧Q r H1) : PvF P pol K H Q f args:=by
  obtain ⟨H1,a1,a2,a3⟩:=freezeL_own (O:=Own 20) (fun H v u f => freezeV_own) (fun H H' v u f a b => OwnX.frame a b) h
  cases hr : r.flatB with
  | true => exact ⟨us,H1,r,hc,a1,hv,.inl ⟨hr,(k H fun _ _ => rfl).2⟩⟩
  | false => exact ⟨us,H1,r,hc,a1,hv,.inr ⟨hr,k H1 a3⟩⟩
theorem AccX.open {α : Type} {f : α→AV} {I : Bool} {d n : Nat} {H : AHeap} {v : AV} {l : List α} {fp : List Nat} (h : AccX I d n f H v (some l) fp) : AV.closedB v = false:=by
  rcases h with ⟨_,h,_⟩ | ⟨b,cap,cs,rest,fp',l',h1,rfl,_⟩
  · cases h
  · rfl
theorem own_score {d : Nat} {H : AHeap} (s : Score) : Own (d + 2) H (.agg [.sc (.str s.title),.sc (.bool s.written),slm Part.enc s.parts,slm Measure.enc s.measures,slm Spanner.enc s.spanners,slm ID.enc s.last]) s.enc [] :=
by
  have h : OwnL (Own (d + 1)) H [.sc (.str s.title),.sc (.bool s.written),slm Part.enc s.parts,slm Measure.enc s.measures,slm Spanner.enc s.spanners,slm ID.enc s.last] s.enc.cells ([] ++ ([] ++ ([] ++ ([] ++ ([] ++ ([] ++ [])))))):=.cons .scal (.cons .scal (.cons (own_imm Part.enc_closed) (.cons (own_imm Measure.enc_closed) (.cons (own_imm Spanner.enc_closed) (.cons (own_imm ID.enc_closed) .nil Apart.nil_left) Apart.nil_left) Apart.nil_left) Apart.nil_left) Apart.nil_left) Apart.nil_left
  exact ⟨_,rfl,h⟩
end Go.Hem
namespace Go.Hem
variable {pol : Pol}
section
variable {α : Type} {f : α→AV} {n : Nat}
end
end Go.Hem
namespace Go.Hem
def idsOf (l : List ID) : List (AV × AV):=l.map fun x => (x.enc,.sc (.bool true))
theorem keyEq_id (a b : ID) : keyEq true [.int,.int] a.enc b.enc = some (decide (a = b)):=by
  have:=@id_eq a b
  rw [← this]
  simp [keyEq,ID.enc,eqK]
theorem afind_ids (a : ID) : ∀ (l : List ID) (i : Nat),(a ∈ l→∃ j,afind true [.int,.int] a.enc (idsOf l) i = some (some (i + j,.sc (.bool true)))∧l[j]? = some a)∧(a ∉ l→afind true [.int,.int] a.enc (idsOf l) i = some none)
  | [],i => ⟨fun h => by simp at h,fun _ => rfl⟩
  | b :: l,i => by
    have ih:=afind_ids a l (i + 1)
    have e : afind true [.int,.int] a.enc (idsOf (b :: l)) i = if a = b then some (some (i,.sc (.bool true))) else afind true [.int,.int] a.enc (idsOf l) (i + 1):=by
      simp only [idsOf,List.map_cons,afind,keyEq_id]
      by_cases h : a = b <;> simp [h]
    by_cases h : a = b
    · subst h
      exact ⟨fun _ => ⟨0,by rw [e,if_pos rfl]; rfl,rfl⟩,fun h => absurd (List.mem_cons_self) h⟩
    · rw [e,if_neg h]
      refine ⟨fun hm => ?_,fun hm => ih.2 fun k => hm (List.mem_cons_of_mem _ k)⟩
      rcases List.mem_cons.1 hm with k | k
      · exact absurd k h
      · obtain ⟨j,j1,j2⟩:=ih.1 k
        exact ⟨j + 1,by rw [j1]; congr 3; omega,j2⟩
theorem look_ids {H : AHeap} {b : Nat} {l : List ID} (h : H.map b = some (idsOf l)) (a : ID) : lookIn H true [.int,.int] (.sc (.bool false)) false (.map b) a.enc = some (.sc (.bool (decide (a ∈ l)))):=by
  have k:=afind_ids a l 0
  have e : keyEq true [.int,.int] a.enc a.enc = some true:=by rw [keyEq_id]; simp
  simp only [lookIn,e,if_true,h,Option.bind_some]
  by_cases hm : a ∈ l
  · obtain ⟨j,j1,j2⟩:=k.1 hm
    rw [j1]; simp [lkres,hm]
  · rw [k.2 hm]; simp [lkres,hm]
theorem put_ids {H : AHeap} {b : Nat} {l : List ID} (h : H.map b = some (idsOf l)) (a : ID) : ∃ l',putIn H true [.int,.int] (.map b) a.enc (.sc (.bool true)) = some (.memM (.sc .undef) b (idsOf l'))∧∀ x,x ∈ l' ↔ x ∈ l ∨ x = a:=by
  have k:=afind_ids a l 0
  have e : keyEq true [.int,.int] a.enc a.enc = some true:=by rw [keyEq_id]; simp
  simp only [putIn,e,if_true,h,Option.bind_some]
  by_cases hm : a ∈ l
  · obtain ⟨j,j1,j2⟩:=k.1 hm
    refine ⟨l,?_,fun x => ⟨.inl,fun h => h.elim id fun e => e ▸ hm⟩⟩
    rw [j1]
    have : (idsOf l)[j]? = some (a.enc,.sc (.bool true)):=by simp [idsOf,j2]
    simp only [Option.map_some,Nat.zero_add]
    congr 2
    apply List.ext_getElem?
    intro i
    rw [List.getElem?_set]
    have hl:=(List.getElem?_eq_some_iff.1 this).1
    by_cases hij : j = i
    · subst hij; rw [if_pos rfl,if_pos hl,this]
    · rw [if_neg hij]
  · refine ⟨l ++ [a],?_,fun x => by simp⟩
    rw [k.2 hm]; simp [idsOf]
end Go.Hem
namespace Go.Hem
variable {pol : Pol}
theorem prune1_ok {H : AHeap} {b m : Nat} {l : List ID} (hb : H.cells b = some [.map m]) (hm : H.map m = some (idsOf l)) (x : Spanner) :
    Ev prog pol (.call 70 [x.enc,.ptr b 0]) H fun o H' => o = .val (.sc (.bool (!decide (x.from_ ∈ l) || !decide (x.to ∈ l))))∧Keep H.next H H'∧H'.map m = some (idsOf l)∧H.next ≤ H'.next:=by
  refine (wpF_ok ok70 (Q:=fun v H' => v = .sc (.bool (!decide (x.from_ ∈ l) || !decide (x.to ∈ l)))∧Keep H.next H H'∧H'.map m = some (idsOf l)∧H.next ≤ H'.next) ?_).mono ?_
  rotate_left
  · rintro o H' ⟨v,rfl,rfl,h⟩
    exact ⟨rfl,h⟩
  have hbl:=h_lt hb
  have q : ¬ (b = H.next):=by omega
  have hml : m < H.next:=by
    refine Nat.lt_of_not_le fun h => ?_
    have : H.get m = none:=AHeap.get_ge h
    simp [AHeap.map,this] at hm
  have hmA : ∀ z,(H.alloc z).map m = some (idsOf l):=fun z => by
    rw [AHeap.map,AHeap.get_alloc_ne H z (show m ≠ H.next by omega)]; exact hm
  have L1:=fun z => look_ids (hmA z) x.from_
  have L2:=fun z => look_ids (hmA z) x.to
  simp only [ID.enc_eq] at L1 L2
  have hk : ∀ z,Keep H.next H (H.alloc z):=fun z => Keep.refl.alloc (Nat.le_refl _)
  have hn : ∀ z,H.next ≤ (H.alloc z).next:=fun z => by rw [AHeap.next_alloc]; omega
  by_cases h1 : x.from_ ∈ l
  · by_cases h2 : x.to ∈ l
    · simp -implicitDefEqProofs (maxDischargeDepth:=12) only [wpF,cf70,WW,List.replicate,e_splice,if_true,if_false,ite_true,ite_false,true_or,ne_eq,seval,h_putc,beq_self_eq_true,eq_self,exists_eq_left,exists_eq_left',x.enc_eq,s_lkup,hb,q,L1,L2,decide_eq_true h1,decide_eq_true h2]
      exact ⟨rfl,hk _,hmA _,by omega⟩
    · simp -implicitDefEqProofs (maxDischargeDepth:=12) only [wpF,cf70,WW,List.replicate,e_splice,if_true,if_false,ite_true,ite_false,true_or,ne_eq,seval,h_putc,beq_self_eq_true,eq_self,exists_eq_left,exists_eq_left',x.enc_eq,s_lkup,hb,q,L1,L2,decide_eq_true h1,decide_eq_false h2]
      exact ⟨rfl,hk _,hmA _,by omega⟩
  · simp -implicitDefEqProofs (maxDischargeDepth:=12) only [wpF,cf70,WW,List.replicate,e_splice,if_true,if_false,ite_true,ite_false,true_or,ne_eq,seval,h_putc,beq_self_eq_true,eq_self,exists_eq_left,exists_eq_left',x.enc_eq,s_lkup,hb,q,L1,L2,decide_eq_false h1]
    exact ⟨rfl,hk _,hmA _,by omega⟩
end Go.Hem
namespace Go.Hem
variable {pol : Pol}
def Alike (S : Bool) (a b : AV) : Prop:=a = b ∨ (∃ x y,a = .sc (.int .i64 x)∧b = .sc (.int .i64 y)) ∨ (S = true∧∃ x y,a = .sc (.str x)∧b = .sc (.str y))
structure Mut (S : Bool) (fp : List Nat) (H0 H : AHeap) : Prop where
  sh : ∀ b ∈ fp,∀ cs,H0.cells b = some cs→∃ cs',H.cells b = some cs'∧cs'.length = cs.length∧∀ (j : Nat) v,cs[j]? = some v→∃ v',cs'[j]? = some v'∧Alike S v v'
  keep : ∀ b,b ∉ fp→H.cells b = H0.cells b
theorem Mut.refl {S : Bool} {fp : List Nat} {H : AHeap} : Mut S fp H H:=⟨fun b _ cs h => ⟨cs,h,rfl,fun j v e => ⟨v,e,.inl rfl⟩⟩,fun _ _ => rfl⟩
theorem Mut.text {S : Bool} {fp : List Nat} {H0 H : AHeap} (h : Mut false fp H0 H) : Mut S fp H0 H:=by
  refine ⟨fun b hb cs hc => ?_,h.keep⟩
  obtain ⟨cs',h1,h2,h3⟩:=h.sh b hb cs hc
  refine ⟨cs',h1,h2,fun j v e => ?_⟩
  obtain ⟨v',e1,e2⟩:=h3 j v e
  rcases e2 with e2 | e2 | ⟨e2,_⟩
  · exact ⟨v',e1,.inl e2⟩
  · exact ⟨v',e1,.inr (.inl e2)⟩
  · cases e2
theorem OwnL.cell {O : AHeap→AV→AV→List Nat→Prop} {H : AHeap} {vs us : List AV} {fp : List Nat} (h : OwnL O H vs us fp) : ∀ {j : Nat} {u : AV},us[j]? = some u→∃ v fp',vs[j]? = some v∧O H v u fp'∧∀ b ∈ fp',b ∈ fp:=by
  induction h with
  | nil => intro j u h; simp at h
  | cons h1 h2 h3 ih =>
    rename_i v u vs us f g
    intro j w hj
    cases j with
    | zero => simp at hj; subst hj; exact ⟨v,f,by simp,h1,fun b hb => List.mem_append.2 (.inl hb)⟩
    | succ j =>
      obtain ⟨v',fp',a,b,c⟩:=ih (j:=j) (u:=w) (by simpa using hj)
      exact ⟨v',fp',by simpa using a,b,fun x hx => List.mem_append.2 (.inr (c x hx))⟩
theorem own_len {α : Type} {f : α→AV} {d : Nat} {H : AHeap} {v : AV} {s : Sl α} {fp : List Nat} (h : OwnX false (d + 1) H v (slm f s) fp) : lenOf v = some (.sc (.int .i64 s.l.length))∧v.one = true∧v.cells = [v]:=by
  cases v <;> simp only [OwnX] at h
  case sc x =>
    obtain ⟨h1,_⟩:=h
    cases s with
    | none => simp only [slm,AV.sc.injEq] at h1; subst h1; exact ⟨rfl,rfl,rfl⟩
    | some l => simp [slm] at h1
  case imm l =>
    obtain ⟨h0,h1,_⟩:=h
    cases s with
    | none => simp [slm] at h1
    | some m => simp only [slm,AV.imm.injEq] at h1; subst h1; exact ⟨by simp [lenOf,Sl.l],rfl,rfl⟩
  case agg cs =>
    obtain ⟨us,h1,_⟩:=h
    cases s <;> simp [slm] at h1
  case slice b off len cap n =>
    refine ⟨?_,rfl,rfl⟩
    rcases h with ⟨h0,h1,_⟩ | ⟨cs,us,fp',_,_,_,_,ho,_,_,h1,_⟩
    · cases h0
    · cases s with
      | none => simp [slm] at h1
      | some m =>
        simp only [slm,AV.imm.injEq] at h1
        have:=congrArg List.length h1
        rw [rows_len,List.length_map] at this
        subst this; rfl
theorem own_elem {α : Type} {f : α→AV} {d n : Nat} {H : AHeap} {v : AV} {s : Sl α} {fp : List Nat} {i : Nat} {x : α} (row : RowOf n f) (hn1 : n ≠ 1) (h : OwnX false (d + 1) H v (slm f s) fp) (hi : s.l[i]? = some x) :
    ∃ b off cap cs fp',v = .slice b off s.l.length cap n∧H.cells b = some cs∧off + s.l.length * n ≤ cs.length∧b ∈ fp∧OwnL (OwnX false d) H ((cs.drop (off + i * n)).take n) (f x).cells fp'∧∀ c ∈ fp',c ∈ fp:=by
  have hlt : i < s.l.length:=(List.getElem?_eq_some_iff.1 hi).1
  have hs : s = some s.l:=by cases s with
    | none => simp [Sl.l] at hi
    | some l => rfl
  have hl:=(own_len h).1
  rw [hs] at h
  cases v <;> simp only [OwnX] at h
  case sc y =>
    obtain ⟨h1,_⟩:=h
    simp [slm] at h1
  case imm l => simp at h
  case agg cs =>
    obtain ⟨us,h1,_⟩:=h
    simp [slm] at h1
  case slice b off len cap n' =>
    simp only [lenOf,Option.some.injEq,AV.sc.injEq,Sc.int.injEq,true_and] at hl
    have hl : len = s.l.length:=by omega
    subst hl
    rcases h with ⟨h0,_,_⟩ | ⟨cs,us,fp',h1,h2,h3,h4,h5,h6,hq,h7,h8⟩
    · cases h0
    · simp only [slm,AV.imm.injEq] at h7
      have hul : us.length = s.l.length * n':=by
        have:=h5.len
        simp only [List.length_take,List.length_drop] at this
        omega
      have hn : n' = n:=by
        cases hl2 : s.l with
        | nil => rw [hl2] at hlt; simp at hlt
        | cons y l =>
          rw [hl2] at h7 hul
          simp only [List.map_cons,List.length_cons,rows,List.cons.injEq] at h7
          have ry:=row.2 y
          rw [if_neg hn1] at ry
          have e3:=h7.1
          by_cases q : n' = 1
          · rw [if_pos q] at e3
            cases hus : us with
            | nil => rw [hus,q] at hul; simp at hul
            | cons w ws =>
              rw [hus] at e3
              simp only [List.headD_cons] at e3
              have:=hq q w (by rw [hus]; simp)
              rw [← e3] at this
              have:=congrArg List.length this
              rw [ry.1] at this
              simp at this; omega
          · rw [if_neg q,ry.2] at e3
            simp only [AV.agg.injEq] at e3
            have:=congrArg List.length e3
            rw [ry.1,List.length_take,hul,List.length_cons,Nat.succ_mul] at this
            omega
      subst hn
      have hmap : us = s.l.flatMap fun x => (f x).cells:=by
        have key : ∀ (l : List α) (us : List AV),us.length = l.length * n'→l.map f = rows n' l.length us→us = l.flatMap fun x => (f x).cells:=by
          intro l
          induction l with
          | nil => intro us h1 _; simp at h1; simp [h1]
          | cons y l ih =>
            intro us h1 h2
            simp only [List.map_cons,List.length_cons,rows,List.cons.injEq] at h2
            have ry:=row.2 y
            rw [if_neg hn1] at ry
            have e3:=h2.1
            rw [if_neg hn1,ry.2] at e3
            simp only [AV.agg.injEq] at e3
            have:=ih (us.drop n') (by rw [List.length_drop,h1,List.length_cons,Nat.succ_mul]; omega) h2.2
            simp only [List.flatMap_cons]
            rw [← this,e3,List.take_append_drop]
        exact key s.l us hul h7
      have hmul : i * n' + n' ≤ s.l.length * n':=by
        have : (i + 1) * n' ≤ s.l.length * n':=Nat.mul_le_mul_right _ hlt
        rw [Nat.succ_mul] at this; exact this
      obtain ⟨f1,g1,p1,p2,p3,p4⟩:=h5.split (i * n')
      obtain ⟨f2,g2,q1,q2,q3,q4⟩:=p2.split n'
      refine ⟨b,off,cap,cs,f2,rfl,h1,h4,by rw [h8]; simp,?_,?_⟩
      · have e1 : (((cs.drop off).take (s.l.length * n')).drop (i * n')).take n' = (cs.drop (off + i * n')).take n':=by
          rw [List.drop_take,List.take_take,List.drop_drop,Nat.min_eq_left (by omega)]
        have e2 : (us.drop (i * n')).take n' = (f x).cells:=by
          rw [hmap]
          have key : ∀ (l : List α) (i : Nat),l[i]? = some x→(((l.flatMap fun x => (f x).cells).drop (i * n')).take n') = (f x).cells:=by
            intro l
            induction l with
            | nil => intro i h; simp at h
            | cons y l ih =>
              intro i h
              have ry:=row.2 y
              cases i with
              | zero =>
                simp at h; subst h
                simp only [List.flatMap_cons,Nat.zero_mul,List.drop_zero]
                rw [List.take_append_of_le_length (by omega),List.take_of_length_le (by omega)]
              | succ i =>
                simp only [List.flatMap_cons,Nat.succ_mul]
                rw [List.drop_append,List.drop_of_length_le (by omega),List.nil_append,ry.1,Nat.add_sub_cancel]
                exact ih i (by simpa using h)
          exact key s.l i hi
        rw [e1,e2] at q1
        exact q1
      · intro c hc
        rw [h8,p4,q4]
        simp only [List.mem_cons,List.mem_append]
        exact .inr (.inr (.inl hc))
section
variable {S : Bool} {fp : List Nat} {H0 H : AHeap}
theorem Mut.elem (M : Mut S fp H0 H) {α : Type} {f : α→AV} {d n i j : Nat} {v u : AV} {s : Sl α} {fp1 : List Nat} {x : α} (row : RowOf n f) (hn1 : n ≠ 1) (h : OwnX false (d + 1) H0 v (slm f s) fp1) (hs : ∀ b ∈ fp1,b ∈ fp) (hi : s.l[i]? = some x) (hj : (f x).cells[j]? = some u) :
    ∃ b off cap cs cs' w w' fp2,v = .slice b off s.l.length cap n∧b ∈ fp∧H0.cells b = some cs∧H.cells b = some cs'∧cs'.length = cs.length∧off + i * n + j + 1 ≤ cs.length∧cs[off + i * n + j]? = some w∧cs'[off + i * n + j]? = some w'∧Alike S w w'∧OwnX false d H0 w u fp2∧∀ c ∈ fp2,c ∈ fp:=by
  obtain ⟨b,off,cap,cs,fp',h1,h2,h3,h4,h5,h6⟩:=own_elem row hn1 h hi
  obtain ⟨w,fp2,h7,h8,h9⟩:=h5.cell hj
  have h10 : cs[off + i * n + j]? = some w:=by
    rw [List.getElem?_take] at h7
    split at h7
    · rw [List.getElem?_drop] at h7; exact h7
    · cases h7
  obtain ⟨cs',g1,g2,g3⟩:=M.sh b (hs b h4) cs h2
  obtain ⟨w',g4,g5⟩:=g3 _ _ h10
  have:=(List.getElem?_eq_some_iff.1 h10).1
  exact ⟨b,off,cap,cs,cs',w,w',fp2,h1,hs b h4,h2,g1,g2,by omega,h10,g4,g5,h8,fun c hc => hs c (h6 c (h9 c hc))⟩
theorem Mut.step (M : Mut S fp H0 H) {α β : Type} {f : α→AV} {g : β→AV} {d n i j : Nat} {v : AV} {s : Sl α} {s' : Sl β} {fp1 : List Nat} {x : α} (row : RowOf n f) (hn1 : n ≠ 1) (h : OwnX false (d + 2) H0 v (slm f s) fp1) (hs : ∀ b ∈ fp1,b ∈ fp) (hi : s.l[i]? = some x) (hj : (f x).cells[j]? = some (slm g s')) :
    ∃ b off cap cs w fp2,v = .slice b off s.l.length cap n∧H.cells b = some cs∧off + i * n + j + 1 ≤ cs.length∧cs[off + i * n + j]? = some w∧OwnX false (d + 1) H0 w (slm g s') fp2∧∀ c ∈ fp2,c ∈ fp:=by
  obtain ⟨b,off,cap,cs,cs',w,w',fp2,h1,hb,h2,h3,h4,h5,h6,h7,h8,h9,h10⟩:=M.elem row hn1 h hs hi hj
  have hl:=(own_len h9).1
  have : w' = w:=by
    rcases h8 with rfl | ⟨x,y,rfl,_⟩ | ⟨_,x,y,rfl,_⟩
    · rfl
    · simp [lenOf] at hl
    · simp [lenOf] at hl
  subst this
  exact ⟨b,off,cap,cs',w',fp2,h1,h3,by omega,h7,h9,h10⟩
theorem splice_get {cs : List AV} {o j : Nat} {w : AV} (h : o + 1 ≤ cs.length) : (splice cs o [w])[j]? = if j = o then some w else cs[j]?:=by
  have e : splice cs o [w] = cs.set o w:=by
    unfold splice
    simp only [List.length_cons,List.length_nil,Nat.zero_add]
    rw [List.set_eq_take_append_cons_drop,if_pos (by omega)]
    simp
  rw [e,List.getElem?_set]
  by_cases q : o = j
  · subst q; simp; omega
  · rw [if_neg q,if_neg (fun k => q k.symm)]
theorem Mut.put (M : Mut S fp H0 H) {b o : Nat} {cs cs' : List AV} {w w2 : AV} (hb : b ∈ fp) (h0 : H0.cells b = some cs) (h1 : H.cells b = some cs') (hl : cs'.length = cs.length) (ho : o + 1 ≤ cs.length) (hw : cs[o]? = some w) (ha : Alike S w w2) :
    Mut S fp H0 (H.put b (some (.cells (splice cs' o [w2])))):=by
  refine ⟨fun c hc ds hd => ?_,fun c hc => ?_⟩
  · by_cases q : c = b
    · subst q
      rw [h0] at hd; cases hd
      refine ⟨splice cs' o [w2],by rw [h_putc (by rw [h1]; rfl)]; simp,?_,fun j v hv => ?_⟩
      · unfold splice; simp; omega
      · rw [splice_get (by omega)]
        by_cases e : j = o
        · subst e; rw [hw] at hv; cases hv
          exact ⟨w2,if_pos rfl,ha⟩
        · rw [if_neg e]
          obtain ⟨es,e1,e2,e3⟩:=M.sh c hc _ h0
          rw [h1] at e1; cases e1
          exact e3 j v hv
    · rw [c_put_ne q]; exact M.sh c hc ds hd
  · have q : c ≠ b:=fun e => hc (e ▸ hb)
    rw [c_put_ne q]; exact M.keep c hc
theorem Mut.int (M : Mut S fp H0 H) {α : Type} {f : α→AV} {d n i j : Nat} {v : AV} {s : Sl α} {fp1 : List Nat} {x : α} {z : Int} (row : RowOf n f) (hn1 : n ≠ 1) (h : OwnX false (d + 2) H0 v (slm f s) fp1) (hs : ∀ b ∈ fp1,b ∈ fp) (hi : s.l[i]? = some x) (hj : (f x).cells[j]? = some (.sc (.int .i64 z))) :
    ∃ b off cap cs z',v = .slice b off s.l.length cap n∧H.cells b = some cs∧off + i * n + j + 1 ≤ cs.length∧cs[off + i * n + j]? = some (.sc (.int .i64 z'))∧∀ z2,Mut S fp H0 (H.put b (some (.cells (splice cs (off + i * n + j) [.sc (.int .i64 z2)])))):=by
  obtain ⟨b,off,cap,cs,cs',w,w',fp2,h1,hb,h2,h3,h4,h5,h6,h7,h8,h9,h10⟩:=M.elem row hn1 h hs hi hj
  have hw : w = .sc (.int .i64 z):=by
    cases w <;> simp only [OwnX] at h9
    case sc y => obtain ⟨e,_⟩:=h9; exact e.symm
    case imm => simp at h9
    case agg => obtain ⟨_,e,_⟩:=h9; cases e
    case slice => rcases h9 with ⟨e,_⟩ | ⟨_,_,_,_,_,_,_,_,_,_,e,_⟩ <;> cases e
  subst hw
  have hw' : ∃ z',w' = .sc (.int .i64 z'):=by
    rcases h8 with rfl | ⟨x,y,e,rfl⟩ | ⟨_,x,y,e,rfl⟩
    · exact ⟨z,rfl⟩
    · exact ⟨y,rfl⟩
    · cases e
  obtain ⟨z',rfl⟩:=hw'
  exact ⟨b,off,cap,cs',z',h1,h3,by omega,h7,fun z2 => M.put hb h2 h3 h4 h5 h6 (.inr (.inl ⟨_,_,rfl,rfl⟩))⟩
theorem Mut.str (M : Mut false fp H0 H) {α : Type} {f : α→AV} {d n i j : Nat} {v : AV} {s : Sl α} {fp1 : List Nat} {x : α} {z : ByteArray} (row : RowOf n f) (hn1 : n ≠ 1) (h : OwnX false (d + 2) H0 v (slm f s) fp1) (hs : ∀ b ∈ fp1,b ∈ fp) (hi : s.l[i]? = some x) (hj : (f x).cells[j]? = some (.sc (.str z))) :
    ∃ b off cap cs,v = .slice b off s.l.length cap n∧H.cells b = some cs∧off + i * n + j + 1 ≤ cs.length∧cs[off + i * n + j]? = some (.sc (.str z))∧∀ z2,Mut true fp H0 (H.put b (some (.cells (splice cs (off + i * n + j) [.sc (.str z2)])))):=by
  obtain ⟨b,off,cap,cs,cs',w,w',fp2,h1,hb,h2,h3,h4,h5,h6,h7,h8,h9,h10⟩:=M.elem row hn1 h hs hi hj
  have hw : w = .sc (.str z):=by
    cases w <;> simp only [OwnX] at h9
    case sc y => obtain ⟨e,_⟩:=h9; exact e.symm
    case imm => simp at h9
    case agg => obtain ⟨_,e,_⟩:=h9; cases e
    case slice => rcases h9 with ⟨e,_⟩ | ⟨_,_,_,_,_,_,_,_,_,_,e,_⟩ <;> cases e
  subst hw
  have hw' : w' = .sc (.str z):=by
    rcases h8 with rfl | ⟨x,y,e,rfl⟩ | ⟨e,x,y,_,rfl⟩
    · rfl
    · cases e
    · cases e
  subst hw'
  exact ⟨b,off,cap,cs',h1,h3,by omega,h7,fun z2 => M.text.put hb h2 h3 h4 h5 h6 (.inr (.inr ⟨rfl,_,_,rfl,rfl⟩))⟩
end
end Go.Hem
namespace Go.Hem
theorem splice_len2 {cs ys : List AV} {o : Nat} (h : o + ys.length ≤ cs.length) : (splice cs o ys).length = cs.length:=by
  unfold splice; simp; omega
theorem splice_take {cs ys : List AV} {o : Nat} (h : o + ys.length ≤ cs.length) : (splice cs o ys).take (o + ys.length) = cs.take o ++ ys:=by
  unfold splice
  rw [List.take_append_of_le_length (by simp; omega),List.take_of_length_le (by simp; omega)]
theorem splice_drop {cs ys : List AV} {o p : Nat} (h : o + ys.length ≤ cs.length) (hp : o + ys.length ≤ p) : (splice cs o ys).drop p = cs.drop p:=by
  unfold splice
  rw [List.drop_append,List.drop_of_length_le (by simp; omega),List.nil_append,List.drop_drop]
  congr 1; simp; omega
theorem splice_take0 {cs ys : List AV} {o p : Nat} (h : o + ys.length ≤ cs.length) (hp : p ≤ o) : (splice cs o ys).take p = cs.take p:=by
  unfold splice
  rw [List.append_assoc,List.take_append_of_le_length (by simp; omega),List.take_take,Nat.min_eq_left hp]
theorem rep_len {n : Nat} {z : List AV} : (rep n z).length = n * z.length:=by
  induction n with
  | zero => simp [rep]
  | succ n ih => simp [rep,ih,Nat.succ_mul]; try omega
def Fit (H : AHeap) (fp f : List Nat) (In Out : AHeap→List Nat→Prop) : Prop :=
  ∀ H' f',In H' f'→(∀ b ∈ fp,b ∉ f→H'.cells b = H.cells b)→(∀ b ∈ f',b ∈ f ∨ b ∉ fp)→∃ fp',Out H' fp'∧∀ b ∈ fp',b ∈ f' ∨ (b ∈ fp∧b ∉ f)
section
variable {H : AHeap} {fp f g : List Nat} {In M Out : AHeap→List Nat→Prop} {I : Bool} {d : Nat}
theorem Fit.trans (h : Fit H fp f M Out) (k : Fit H f g In M) (hf : ∀ b ∈ f,b ∈ fp) (hg : ∀ b ∈ g,b ∈ f) : Fit H fp g In Out:=by
  intro H' g' hi hk hs
  obtain ⟨f',h1,h2⟩:=k H' g' hi (fun b hb hb2 => hk b (hf b hb) hb2) (fun b hb => (hs b hb).imp id fun h h' => h (hf b h'))
  obtain ⟨fp',h3,h4⟩:=h H' f' h1 (fun b hb hb2 => hk b hb fun h => hb2 (hg b h)) (fun b hb => by
    rcases h2 b hb with h | ⟨h,h5⟩
    · exact (hs b h).imp (hg b) id
    · exact .inl h)
  refine ⟨fp',h3,fun b hb => ?_⟩
  rcases h4 b hb with h | ⟨h,h5⟩
  · rcases h2 b h with h | ⟨h,h6⟩
    · exact .inl h
    · exact .inr ⟨hf b h,h6⟩
  · exact .inr ⟨h,fun h6 => h5 (hg b h6)⟩
theorem OwnL.fit {vs us : List AV} (h : OwnL (OwnX I d) H vs us fp) : ∀ {j : Nat} {u : AV},us[j]? = some u →
    ∃ v f,vs[j]? = some v∧OwnX I d H v u f∧(∀ b ∈ f,b ∈ fp)∧∀ v' u',Fit H fp f (fun H' f' => OwnX I d H' v' u' f') (fun H' fp' => OwnL (OwnX I d) H' (vs.set j v') (us.set j u') fp'):=by
  induction h with
  | nil => intro j u h; simp at h
  | cons h1 h2 h3 ih =>
    rename_i v u vs us f g
    intro j w hj
    cases j with
    | zero =>
      simp at hj; subst hj
      refine ⟨v,f,by simp,h1,fun b hb => List.mem_append.2 (.inl hb),fun v' u' H' f' hi hk hs => ⟨f' ++ g,?_,?_⟩⟩
      · simp only [List.set_cons_zero]
        refine .cons hi (h2.fr fun b hb => hk b (List.mem_append.2 (.inr hb)) (h3.symm b hb)) fun b hb hb2 => ?_
        rcases hs b hb with h | h
        · exact h3 b h hb2
        · exact h (List.mem_append.2 (.inr hb2))
      · intro b hb
        rcases List.mem_append.1 hb with h | h
        · exact .inl h
        · exact .inr ⟨List.mem_append.2 (.inr h),h3.symm b h⟩
    | succ j =>
      obtain ⟨v2,f1,a1,a2,a3,a4⟩:=ih (j:=j) (u:=w) (by simpa using hj)
      refine ⟨v2,f1,by simpa using a1,a2,fun b hb => List.mem_append.2 (.inr (a3 b hb)),fun v' u' H' f' hi hk hs => ?_⟩
      obtain ⟨g',b1,b2⟩:=a4 v' u' H' f' hi (fun b hb hb2 => hk b (List.mem_append.2 (.inr hb)) hb2) (fun b hb => (hs b hb).imp id fun h h' => h (List.mem_append.2 (.inr h')))
      refine ⟨f ++ g',?_,?_⟩
      · simp only [List.set_cons_succ]
        refine .cons (h1.frame fun b hb => hk b (List.mem_append.2 (.inl hb)) fun h => h3 b hb (a3 b h)) b1 fun b hb hb2 => ?_
        rcases b2 b hb2 with h | ⟨h,_⟩
        · rcases hs b h with h | h
          · exact h3 b hb (a3 b h)
          · exact h (List.mem_append.2 (.inl hb))
        · exact h3 b hb h
      · intro b hb
        rcases List.mem_append.1 hb with h | h
        · exact .inr ⟨List.mem_append.2 (.inl h),fun h2 => h3 b h (a3 b h2)⟩
        · rcases b2 b h with h | ⟨h,h5⟩
          · exact .inl h
          · exact .inr ⟨List.mem_append.2 (.inr h),h5⟩
theorem OwnL.fitR {vs us : List AV} (h : OwnL (OwnX I d) H vs us fp) (o k : Nat) :
    ∃ f,OwnL (OwnX I d) H ((vs.drop o).take k) ((us.drop o).take k) f∧(∀ b ∈ f,b ∈ fp) ∧
      ∀ ws xs,Fit H fp f (fun H' f' => OwnL (OwnX I d) H' ws xs f') (fun H' fp' => OwnL (OwnX I d) H' (vs.take o ++ (ws ++ (vs.drop o).drop k)) (us.take o ++ (xs ++ (us.drop o).drop k)) fp'):=by
  obtain ⟨f1,g1,p1,p2,p3,p4⟩:=h.split o
  obtain ⟨f2,f3,q1,q2,q3,q4⟩:=p2.split k
  have i1 : ∀ b ∈ f1,b ∈ fp:=fun b hb => by rw [p4]; exact List.mem_append.2 (.inl hb)
  have i2 : ∀ b ∈ f2,b ∈ fp:=fun b hb => by rw [p4,q4]; exact List.mem_append.2 (.inr (List.mem_append.2 (.inl hb)))
  have i3 : ∀ b ∈ f3,b ∈ fp:=fun b hb => by rw [p4,q4]; exact List.mem_append.2 (.inr (List.mem_append.2 (.inr hb)))
  have n1 : ∀ b ∈ f1,b ∉ f2:=fun b hb h => p3 b hb (by rw [q4]; exact List.mem_append.2 (.inl h))
  have n13 : ∀ b ∈ f1,b ∉ f3:=fun b hb h => p3 b hb (by rw [q4]; exact List.mem_append.2 (.inr h))
  have n3 : ∀ b ∈ f3,b ∉ f2:=q3.symm
  refine ⟨f2,q1,i2,fun ws xs H' f' hi hk hs => ⟨f1 ++ (f' ++ f3),?_,?_⟩⟩
  · refine OwnL.append (p1.fr fun b hb => hk b (i1 b hb) (n1 b hb)) (OwnL.append hi (q2.fr fun b hb => hk b (i3 b hb) (n3 b hb)) fun b hb hb2 => ?_) fun b hb hb2 => ?_
    · rcases hs b hb with h | h
      · exact n3 b hb2 h
      · exact h (i3 b hb2)
    · rcases List.mem_append.1 hb2 with h | h
      · rcases hs b h with h | h
        · exact n1 b hb h
        · exact h (i1 b hb)
      · exact n13 b hb h
  · intro b hb
    rcases List.mem_append.1 hb with h | h
    · exact .inr ⟨i1 b h,n1 b h⟩
    · rcases List.mem_append.1 h with h | h
      · exact .inl h
      · exact .inr ⟨i3 b h,n3 b h⟩
end
theorem own_rows {α : Type} {f : α→AV} {n : Nat} (row : RowOf n f) (hn1 : n ≠ 1) : ∀ (l : List α) (us : List AV),us.length = l.length * n→l.map f = rows n l.length us→us = l.flatMap fun x => (f x).cells
  | [],us,h1,_ => by simp at h1; simp [h1]
  | y :: l,us,h1,h2 => by
    simp only [List.map_cons,List.length_cons,rows,List.cons.injEq] at h2
    have ry:=row.2 y
    rw [if_neg hn1] at ry
    have e3:=h2.1
    rw [if_neg hn1,ry.2] at e3
    simp only [AV.agg.injEq] at e3
    have:=own_rows row hn1 l (us.drop n) (by rw [List.length_drop,h1,List.length_cons,Nat.succ_mul]; omega) h2.2
    simp only [List.flatMap_cons]
    rw [← this,e3,List.take_append_drop]
theorem flat_at {α : Type} {f : α→AV} {n : Nat} (row : RowOf n f) {x : α} : ∀ {l : List α} {i : Nat},l[i]? = some x →
    ((l.flatMap fun x => (f x).cells).drop (i * n)).take n = (f x).cells∧∀ x',(l.set i x').flatMap (fun x => (f x).cells) = (l.flatMap fun x => (f x).cells).take (i * n) ++ ((f x').cells ++ ((l.flatMap fun x => (f x).cells).drop (i * n)).drop n)
  | [],i,h => by simp at h
  | y :: l,0,h => by
    have ry:=(row.2 y).1
    simp at h; subst h
    simp only [List.flatMap_cons,Nat.zero_mul,List.drop_zero,List.set_cons_zero,List.take_zero,List.nil_append]
    refine ⟨by rw [List.take_append_of_le_length (by omega),List.take_of_length_le (by omega)],fun x' => ?_⟩
    rw [List.drop_append,List.drop_of_length_le (by omega),List.nil_append,ry,Nat.sub_self,List.drop_zero]
  | y :: l,i + 1,h => by
    have ry:=(row.2 y).1
    have ih:=flat_at row (l:=l) (i:=i) (x:=x) (by simpa using h)
    have e : (i + 1) * n = n + i * n:=by rw [Nat.succ_mul]; omega
    have e1 : ((f y).cells ++ l.flatMap fun x => (f x).cells).drop ((i + 1) * n) = (l.flatMap fun x => (f x).cells).drop (i * n):=by
      rw [List.drop_append,List.drop_of_length_le (by omega),List.nil_append,ry,e,Nat.add_sub_cancel_left]
    simp only [List.flatMap_cons,List.set_cons_succ]
    rw [e1]
    refine ⟨ih.1,fun x' => ?_⟩
    rw [ih.2 x',e,List.take_append,List.take_of_length_le (l:=(f y).cells) (by omega),ry,Nat.add_sub_cancel_left,List.append_assoc]
theorem splice_mid {cs ws : List AV} {off len n i : Nat} (hl : off + len * n ≤ cs.length) (hi : i < len) (hw : ws.length = n) :
    ((splice cs (off + i * n) ws).drop off).take (len * n) = ((cs.drop off).take (len * n)).take (i * n) ++ (ws ++ (((cs.drop off).take (len * n)).drop (i * n)).drop n):=by
  have hm : i * n + n ≤ len * n:=by
    have : (i + 1) * n ≤ len * n:=Nat.mul_le_mul_right _ hi
    rw [Nat.succ_mul] at this; exact this
  have e1 : (splice cs (off + i * n) ws).drop off = (cs.drop off).take (i * n) ++ (ws ++ cs.drop (off + i * n + n)):=by
    unfold splice
    rw [List.append_assoc,List.drop_append_of_le_length (by simp; omega),hw]
    congr 1
    rw [List.drop_take,Nat.add_sub_cancel_left]
  have hA : ((cs.drop off).take (i * n)).length = i * n:=by simp; omega
  rw [e1,List.take_append,List.take_of_length_le (l:=(cs.drop off).take (i * n)) (by omega),hA,List.take_append,List.take_of_length_le (l:=ws) (by omega),hw,List.take_take,Nat.min_eq_left (by omega : i * n ≤ len * n)]
  congr 2
  rw [List.drop_drop,List.drop_take,List.drop_drop,show off + (i * n + n) = off + i * n + n by omega,show len * n - i * n - n = len * n - (i * n + n) by omega]
def ElemIn {α : Type} (d : Nat) (f : α→AV) (n b o : Nat) (cs : List AV) (x : α) (H : AHeap) (fp : List Nat) : Prop :=
  ∃ ws g,H.cells b = some (splice cs o ws)∧ws.length = n∧OwnL (OwnX false d) H ws (f x).cells g∧b ∉ g∧fp = b :: g
theorem own_elem_fit {α : Type} {f : α→AV} {d n : Nat} {H : AHeap} {v : AV} {s : Sl α} {fp : List Nat} {i : Nat} {x : α} (row : RowOf n f) (hn1 : n ≠ 1) (h : OwnX false (d + 1) H v (slm f s) fp) (hi : s.l[i]? = some x) :
    ∃ b off cap cs fp2,v = .slice b off s.l.length cap n∧H.cells b = some cs∧off + i * n + n ≤ cs.length∧b ∈ fp∧b ∉ fp2∧(∀ c ∈ fp2,c ∈ fp)∧OwnL (OwnX false d) H ((cs.drop (off + i * n)).take n) (f x).cells fp2 ∧
      ∀ x',Fit H fp (b :: fp2) (ElemIn d f n b (off + i * n) cs x') (fun H' fp' => OwnX false (d + 1) H' v (slm f (some (s.l.set i x'))) fp'):=by
  have hlt : i < s.l.length:=(List.getElem?_eq_some_iff.1 hi).1
  obtain ⟨b0,off0,cap0,cs0,fp0,e0,e1,e2,e3,e4,e5⟩:=own_elem row hn1 h hi
  subst e0
  have hs : s = some s.l:=by cases s with
    | none => simp [Sl.l] at hi
    | some l => rfl
  rw [hs] at h
  simp only [l_some] at h
  simp only [OwnX] at h
  rcases h with ⟨h0,_,_⟩ | ⟨cs,us,fp',h1,h2,h3,h4,h5,h6,hq,h7,h8⟩
  · cases h0
  rw [e1] at h1; cases h1
  simp only [slm,AV.imm.injEq] at h7
  have hul : us.length = s.l.length * n:=by
    have:=h5.len
    simp only [List.length_take,List.length_drop] at this
    omega
  have hmap:=own_rows row hn1 s.l us hul h7
  have hm : i * n + n ≤ s.l.length * n:=by
    have : (i + 1) * n ≤ s.l.length * n:=Nat.mul_le_mul_right _ hlt
    rw [Nat.succ_mul] at this; exact this
  obtain ⟨fp2,q1,q2,q3⟩:=h5.fitR (i * n) n
  obtain ⟨fl1,fl2⟩:=flat_at row hi
  refine ⟨b0,off0,cap0,cs0,fp2,rfl,e1,by omega,by rw [h8]; simp,fun hb => h6 (q2 _ hb),fun c hc => by rw [h8]; exact List.mem_cons_of_mem _ (q2 c hc),?_,?_⟩
  · rw [hmap,fl1] at q1
    have e1 : (((cs0.drop off0).take (s.l.length * n)).drop (i * n)).take n = (cs0.drop (off0 + i * n)).take n:=by
      rw [List.drop_take,List.take_take,List.drop_drop,Nat.min_eq_left (by omega)]
    rw [e1] at q1
    exact q1
  · intro x' H' f' hIn hk hs'
    obtain ⟨ws,g,k1,k2,k3,k4,rfl⟩:=hIn
    obtain ⟨fp'',r1,r2⟩:=q3 ws (f x').cells H' g k3 (fun c hc hc2 => hk c (by rw [h8]; exact List.mem_cons_of_mem _ hc) (fun h => by
      rcases List.mem_cons.1 h with rfl | h
      · exact h6 hc
      · exact hc2 h)) (fun c hc => by
      rcases hs' c (List.mem_cons_of_mem _ hc) with h | h
      · rcases List.mem_cons.1 h with rfl | h
        · exact absurd hc k4
        · exact .inl h
      · exact .inr fun h2 => h (by rw [h8]; exact List.mem_cons_of_mem _ h2))
    rw [hmap,← fl2 x'] at r1
    have nb : b0 ∉ fp'':=fun hb => by
      rcases r2 _ hb with h | ⟨h,_⟩
      · exact k4 h
      · exact h6 h
    refine ⟨b0 :: fp'',?_,fun c hc => ?_⟩
    · simp only [OwnX]
      refine .inr ⟨_,(s.l.set i x').flatMap (fun x => (f x).cells),fp'',k1,h2,h3,?_,?_,nb,row_one row,?_,rfl⟩
      · rw [splice_len2 (by omega)]; exact h4
      · rw [splice_mid h4 hlt k2]; exact r1
      · have e:=rows_map row (s.l.set i x')
        rw [List.length_set] at e
        rw [e]; rfl
    · rcases List.mem_cons.1 hc with rfl | hc
      · exact .inl (by simp)
      · rcases r2 c hc with h | ⟨h,h2⟩
        · exact .inl (List.mem_cons_of_mem _ h)
        · refine .inr ⟨by rw [h8]; exact List.mem_cons_of_mem _ h,fun hc2 => ?_⟩
          rcases List.mem_cons.1 hc2 with rfl | hc2
          · exact h6 h
          · exact h2 hc2
theorem splice_same {cs : List AV} {o n : Nat} (h : o + n ≤ cs.length) : splice cs o ((cs.drop o).take n) = cs:=by
  unfold splice
  have e : ((cs.drop o).take n).length = n:=by simp; omega
  rw [e,← List.drop_drop,List.append_assoc,List.take_append_drop,List.take_append_drop]
theorem own_step {α : Type} {f : α→AV} {d n : Nat} {H : AHeap} {v u : AV} {s : Sl α} {fp : List Nat} {i j : Nat} {x : α} (row : RowOf n f) (hn1 : n ≠ 1) (h : OwnX false (d + 1) H v (slm f s) fp) (hi : s.l[i]? = some x) (hj : (f x).cells[j]? = some u) :
    ∃ b off cap cs w fp2,v = .slice b off s.l.length cap n∧H.cells b = some cs∧off + i * n + j + 1 ≤ cs.length∧cs[off + i * n + j]? = some w∧OwnX false d H w u fp2∧(∀ c ∈ fp2,c ∈ fp)∧b ∈ fp∧b ∉ fp2 ∧
      ∀ u' x',(f x').cells = (f x).cells.set j u'→Fit H fp fp2 (fun H' f' => OwnX false d H' w u' f') (fun H' fp' => OwnX false (d + 1) H' v (slm f (some (s.l.set i x'))) fp'):=by
  obtain ⟨b,off,cap,cs,fp1,h1,h2,h3,h4,h5,h6,h7,h8⟩:=own_elem_fit row hn1 h hi
  obtain ⟨w,fp2,g1,g2,g3,g4⟩:=h7.fit hj
  have h10 : cs[off + i * n + j]? = some w:=by
    rw [List.getElem?_take] at g1
    split at g1
    · rw [List.getElem?_drop] at g1; exact g1
    · cases g1
  have hlt:=(List.getElem?_eq_some_iff.1 h10).1
  refine ⟨b,off,cap,cs,w,fp2,h1,h2,by omega,h10,g2,fun c hc => h6 c (g3 c hc),h4,fun hb => h5 (g3 b hb),fun u' x' hx => ?_⟩
  refine Fit.trans (h8 x') ?_ (fun c hc => ?_) (fun c hc => List.mem_cons_of_mem _ (g3 c hc))
  · intro H' f' hi' hk hs
    have nb2 : b ∉ fp2:=fun hb => h5 (g3 b hb)
    obtain ⟨g,a1,a2⟩:=g4 w u' H' f' hi' (fun c hc hc2 => hk c (List.mem_cons_of_mem _ hc) hc2) (fun c hc => (hs c hc).imp id fun h h' => h (List.mem_cons_of_mem _ h'))
    have nbg : b ∉ g:=fun hb => by
      rcases a2 b hb with h | ⟨h,_⟩
      · rcases hs b h with h | h
        · exact nb2 h
        · exact h (by simp)
      · exact h5 h
    refine ⟨b :: g,⟨(cs.drop (off + i * n)).take n,g,?_,by simp; omega,?_,nbg,rfl⟩,fun c hc => ?_⟩
    · rw [hk b (by simp) nb2,h2,splice_same h3]
    · rw [hx]
      have e : ((cs.drop (off + i * n)).take n).set j w = (cs.drop (off + i * n)).take n:=by
        apply List.ext_getElem?
        intro q
        rw [List.getElem?_set]
        by_cases e : j = q
        · subst e; rw [if_pos rfl,g1]
          have:=(List.getElem?_eq_some_iff.1 g1).1
          rw [if_pos this]
        · rw [if_neg e]
      rw [e] at a1
      exact a1
    · rcases List.mem_cons.1 hc with rfl | hc
      · exact .inr ⟨by simp,nb2⟩
      · rcases a2 c hc with h | ⟨h,h2⟩
        · exact .inl h
        · exact .inr ⟨List.mem_cons_of_mem _ h,h2⟩
  · rcases List.mem_cons.1 hc with rfl | hc
    · exact h4
    · exact h6 c hc
end Go.Hem
namespace Go.Hem
def pures : List Nat:=[33,25,14,15,16,17,18,20,21,22,23,24,26,27,28,31,35,36,37,38,41,46,49,50,51,58,59,68,71,72,79,80,81,82,96,99,100,106,113,19]
def okTrue : XR AV→Bool
  | .ok (.sc (.bool b)) => b
  | _ => false
theorem okTrue_spec {r : XR AV} (h : okTrue r = true) : r = .ok (.sc (.bool true)):=by
  unfold okTrue at h
  split at h
  · subst h; rfl
  · cases h
end Go.Hem
namespace Go.Hem
theorem Voice.cl_cn (v : Voice) : v.cl.cn = v.cn:=by unfold Voice.cl Voice.cn; rw [l_of,l_of]
theorem Cell.cl_cn (c : Cell) : c.cl.cn = c.cn:=by
  unfold Cell.cl Cell.cn
  rw [l_of,List.map_map]
  have : Voice.cn ∘ Voice.cl = Voice.cn:=by funext v; exact v.cl_cn
  rw [this]
theorem Measure.cl_cn (m : Measure) : m.cl.cn = m.cn:=by
  unfold Measure.cl Measure.cn
  rw [l_of,List.map_map]
  have : Cell.cn ∘ Cell.cl = Cell.cn:=by funext v; exact v.cl_cn
  rw [this]
theorem Score.cl_cn (s : Score) : s.cl.cn = s.cn:=by
  unfold Score.cl Score.cn
  simp only [Sl.l,Option.getD_some,List.map_map]
  have : Measure.cn ∘ Measure.cl = Measure.cn:=by funext v; exact v.cl_cn
  rw [this]
theorem sl_take_len {α : Type} {s : Sl α} {n : Nat} : Sl.l (s.map fun x => x.take n) = s.l.take n:=by cases s <;> simp [Sl.l]
theorem Event.tame_short (e : Event) : e.short.tame:=by
  have e1 : e.short.heads.l = e.heads.l.take 12:=sl_take_len
  have e2 : e.short.graces.l = e.graces.l.take 12:=sl_take_len
  have e3 : e.short.lyrics.l = (e.lyrics.l.take 6).map Syllable.short:=l_of
  refine ⟨by rw [e1,List.length_take]; omega,by rw [e2,List.length_take]; omega,by rw [e3]; simp; omega⟩
theorem Voice.tame_short (v : Voice) : v.short.tame:=by
  have e : v.short.events.l = (v.events.l.take 5).map Event.short:=l_of
  refine ⟨by rw [e]; simp; omega,?_,fun x hx => ?_⟩
  · have : v.short.tuplets.l = v.tuplets.l.take 3:=sl_take_len
    rw [this,List.length_take]; omega
  · rw [e] at hx
    obtain ⟨w,_,rfl⟩:=List.mem_map.1 hx
    exact w.tame_short
theorem Cell.tame_short (v : Cell) : v.short.tame:=by
  have e : v.short.voices.l = (v.voices.l.take 3).map Voice.short:=l_of
  refine ⟨?_,by rw [e]; simp; omega,fun x hx => ?_⟩
  · have : v.short.clefs.l = v.clefs.l.take 3:=sl_take_len
    rw [this,List.length_take]; omega
  · rw [e] at hx
    obtain ⟨w,_,rfl⟩:=List.mem_map.1 hx
    exact w.tame_short
theorem Measure.tame_short (v : Measure) : v.short.tame:=by
  have e : v.short.cells.l = (v.cells.l.take 6).map Cell.short:=l_of
  refine ⟨?_,by rw [e]; simp; omega,fun x hx => ?_⟩
  · have : v.short.tempi.l = v.tempi.l.take 3:=sl_take_len
    rw [this,List.length_take]; omega
  · rw [e] at hx
    obtain ⟨w,_,rfl⟩:=List.mem_map.1 hx
    exact w.tame_short
theorem Score.tame_short (s : Score) : s.short.tame:=by
  have e1 : s.short.parts.l = (s.parts.l.take 4).map Part.short:=l_of
  have e2 : s.short.measures.l = (s.measures.l.take 5).map Measure.short:=l_of
  have e3 : s.short.spanners.l = s.spanners.l.take 6:=sl_take_len
  have e4 : s.short.last.l = s.last.l.take 4:=sl_take_len
  refine ⟨by rw [e1]; simp; omega,fun p hp => ?_,by rw [e2]; simp; omega,fun m hm => ?_,by rw [e3,List.length_take]; omega,by rw [e4,List.length_take]; omega⟩
  · rw [e1] at hp
    obtain ⟨w,_,rfl⟩:=List.mem_map.1 hp
    have : w.short.staves.l = w.staves.l.take 3:=sl_take_len
    unfold Part.tame
    rw [this,List.length_take]; omega
  · rw [e2] at hm
    obtain ⟨w,_,rfl⟩:=List.mem_map.1 hm
    exact w.tame_short
theorem OwnX.up {I : Bool} {H : AHeap} : ∀ {d : Nat} {v u : AV} {fp : List Nat},OwnX I d H v u fp→Own d H v u fp
  | 0,_,_,_,h => h.elim
  | d + 1,v,u,fp,h => by
    cases v <;> simp only [OwnX] at h ⊢
    case sc => exact h
    case imm => exact ⟨trivial,h.2⟩
    case agg cs =>
      obtain ⟨us,h1,h2⟩:=h
      exact ⟨us,h1,h2.le fun _ _ _ a => OwnX.up a⟩
    case slice b off len cap n =>
      rcases h with h | ⟨cs,us,fp',h1,h2,h3,h4,h5,h6,hq,h7,rfl⟩
      · exact .inl ⟨trivial,h.2⟩
      · exact .inr ⟨cs,us,fp',h1,h2,(fun e => by cases e),h4,h5.le fun _ _ _ a => OwnX.up a,h6,hq,h7,rfl⟩
theorem own_some {α : Type} {f : α→AV} {d : Nat} {H : AHeap} {v : AV} {l : List α} {fp : List Nat} (h : OwnX false (d + 1) H v (slm f (some l)) fp) : AV.closedB v = false:=by
  cases v <;> simp only [OwnX] at h
  case sc => obtain ⟨e,_⟩:=h; simp [slm] at e
  case imm => simp at h
  case agg => obtain ⟨us,e,_⟩:=h; simp [slm] at e
  case slice => rfl
theorem own_closed {d : Nat} {H : AHeap} {cs : List AV} (h : AV.plain2 (.agg cs) = true) : Own (d + 2) H (.agg cs) (.agg cs) []:=⟨cs,rfl,OwnL.plain (by simpa [AV.plain2] using h)⟩
def pures8 : List Nat:=[40,86,87,88,89,90,91,92,125,126,127,128,138,139,140,145,146,147,149,150,151,152,153] ++ pures
end Go.Hem
namespace Go.Hem
theorem own6 {I : Bool} {d : Nat} {H : AHeap} {cs : List AV} {s : Score} {fp : List Nat} (h : OwnL (OwnX I (d + 1)) H cs s.enc.cells fp) : ∃ v2 v3 v4 v5 f2 f3 f4 f5,cs = [.sc (.str s.title),.sc (.bool s.written),v2,v3,v4,v5] ∧
    OwnX I (d + 1) H v2 (slm Part.enc s.parts) f2∧OwnX I (d + 1) H v3 (slm Measure.enc s.measures) f3∧OwnX I (d + 1) H v4 (slm Spanner.enc s.spanners) f4∧OwnX I (d + 1) H v5 (slm ID.enc s.last) f5 ∧
    (∀ b ∈ f2,b ∈ fp)∧(∀ b ∈ f3,b ∈ fp)∧(∀ b ∈ f4,b ∈ fp)∧(∀ b ∈ f5,b ∈ fp):=by
  have hl:=h.len
  obtain ⟨v0,f0,e0,h0,s0⟩:=h.cell (j:=0) (u:=.sc (.str s.title)) rfl
  obtain ⟨v1,f1,e1,h1,s1⟩:=h.cell (j:=1) (u:=.sc (.bool s.written)) rfl
  obtain ⟨v2,f2,e2,h2,s2⟩:=h.cell (j:=2) (u:=slm Part.enc s.parts) rfl
  obtain ⟨v3,f3,e3,h3,s3⟩:=h.cell (j:=3) (u:=slm Measure.enc s.measures) rfl
  obtain ⟨v4,f4,e4,h4,s4⟩:=h.cell (j:=4) (u:=slm Spanner.enc s.spanners) rfl
  obtain ⟨v5,f5,e5,h5,s5⟩:=h.cell (j:=5) (u:=slm ID.enc s.last) rfl
  have sc_of : ∀ {v : AV} {x : Sc} {f : List Nat},OwnX I (d + 1) H v (.sc x) f→v = .sc x:=by
    intro v x f h
    cases v <;> simp only [OwnX] at h
    case sc y => obtain ⟨e,_⟩:=h; exact e.symm
    case imm => obtain ⟨_,e,_⟩:=h; cases e
    case agg => obtain ⟨_,e,_⟩:=h; cases e
    case slice => rcases h with ⟨_,_,e,_⟩ | ⟨_,_,_,_,_,_,_,_,_,_,e,_⟩ <;> cases e
  have e0':=sc_of h0
  have e1':=sc_of h1
  subst e0' e1'
  refine ⟨v2,v3,v4,v5,f2,f3,f4,f5,?_,h2,h3,h4,h5,s2,s3,s4,s5⟩
  match cs,hl with
  | [a,b,c,d,e,f],_ =>
    simp only [List.getElem?_cons_zero,List.getElem?_cons_succ,Option.some.injEq] at e0 e1 e2 e3 e4 e5
    subst e0 e1 e2 e3 e4 e5; rfl
end Go.Hem
namespace Go.Hem
variable {pol : Pol}
inductive Pos where
  | part (i : Nat)
  | staff (i k st : Nat)
  | measure (m : Nat)
  | event (m c v e : Nat)
  | spanner (i : Nat)
  deriving DecidableEq
def Pos.place : Pos→Place
  | .part i => ⟨1,i,0,0,0,0,0⟩
  | .staff _ _ st => ⟨2,0,st,0,0,0,0⟩
  | .measure m => ⟨3,0,0,m,0,0,0⟩
  | .event m c v e => ⟨4,0,c,m,v,e,0⟩
  | .spanner i => ⟨5,0,0,0,0,0,i⟩
def posStaves (i k st : Nat) : List Staff→List Pos
  | [] => []
  | _ :: r => .staff i k st :: posStaves i (k + 1) (st + 1) r
def posParts (i st : Nat) : List Part→List Pos
  | [] => []
  | p :: r => .part i :: (posStaves i 0 st p.staves.l ++ posParts (i + 1) (st + p.staves.l.length) r)
def posEvents (m c v e : Nat) : List Event→List Pos
  | [] => []
  | _ :: r => .event m c v e :: posEvents m c v (e + 1) r
def posVoices (m c v : Nat) : List Voice→List Pos
  | [] => []
  | x :: r => posEvents m c v 0 x.events.l ++ posVoices m c (v + 1) r
def posCells (m c : Nat) : List Cell→List Pos
  | [] => []
  | x :: r => posVoices m c 0 x.voices.l ++ posCells m (c + 1) r
def posMeasures (m : Nat) : List Measure→List Pos
  | [] => []
  | x :: r => .measure m :: (posCells m 0 x.cells.l ++ posMeasures (m + 1) r)
def posSpanners (i : Nat) : List Spanner→List Pos
  | [] => []
  | _ :: r => .spanner i :: posSpanners (i + 1) r
def poss (s : Score) : List Pos:=posParts 0 0 s.parts.l ++ (posMeasures 0 s.measures.l ++ posSpanners 0 s.spanners.l)
def Score.setP (a : Score) (i : Nat) (x : Part) : Score:={ a with parts:=some (a.parts.l.set i x) }
def Part.setS (a : Part) (i : Nat) (x : Staff) : Part:={ a with staves:=some (a.staves.l.set i x) }
def Score.setM (a : Score) (i : Nat) (x : Measure) : Score:={ a with measures:=some (a.measures.l.set i x) }
def Measure.setC (a : Measure) (i : Nat) (x : Cell) : Measure:={ a with cells:=some (a.cells.l.set i x) }
def Cell.setV (a : Cell) (i : Nat) (x : Voice) : Cell:={ a with voices:=some (a.voices.l.set i x) }
def Voice.setE (a : Voice) (i : Nat) (x : Event) : Voice:={ a with events:=some (a.events.l.set i x) }
def Score.setX (a : Score) (i : Nat) (x : Spanner) : Score:={ a with spanners:=some (a.spanners.l.set i x) }
inductive IdAt (a : Score) : Pos→ID→(ID→Score)→Prop
  | part {i : Nat} {p : Part} : a.parts.l[i]? = some p→IdAt a (.part i) p.id fun d => a.setP i { p with id:=d }
  | staff {i k st : Nat} {p : Part} {q : Staff} : a.parts.l[i]? = some p→p.staves.l[k]? = some q→IdAt a (.staff i k st) q.id fun d => a.setP i (p.setS k { q with id:=d })
  | measure {m : Nat} {y : Measure} : a.measures.l[m]? = some y→IdAt a (.measure m) y.id fun d => a.setM m { y with id:=d }
  | event {m c v e : Nat} {y : Measure} {q : Cell} {z : Voice} {w : Event} : a.measures.l[m]? = some y→y.cells.l[c]? = some q→q.voices.l[v]? = some z→z.events.l[e]? = some w →
      IdAt a (.event m c v e) w.id fun d => a.setM m (y.setC c (q.setV v (z.setE e { w with id:=d })))
  | spanner {i : Nat} {y : Spanner} : a.spanners.l[i]? = some y→IdAt a (.spanner i) y.id fun d => a.setX i { y with id:=d }
def OwnScore (H : AHeap) (bS : Nat) (R : List Nat) (a : Score) : Prop:=∃ cs fp,H.cells bS = some cs∧OwnL (OwnX false 7) H cs a.enc.cells fp∧∀ b ∈ fp,b ∈ R
def PtrTo (H : AHeap) (bS : Nat) (R : List Nat) (a : Score) (o : Pos) (p : AV) : Prop :=
  ∃ b off ds id g,p = .ptr b off∧b ∈ R∧H.cells b = some ds∧off + 2 ≤ ds.length∧ds[off]? = some (.sc (.int .i64 id.site))∧ds[off + 1]? = some (.sc (.int .i64 id.number))∧IdAt a o id g ∧
    (bS ∉ R→∀ d : ID,OwnScore (H.put b (some (.cells (splice ds off [.sc (.int .i64 d.site),.sc (.int .i64 d.number)])))) bS R (g d))
theorem own_sc {I : Bool} {d : Nat} {H : AHeap} {v : AV} {x : Sc} {f : List Nat} (h : OwnX I d H v (.sc x) f) : v = .sc x∧f = []:=by
  cases d with
  | zero => exact h.elim
  | succ d =>
    cases v <;> simp only [OwnX] at h
    case sc => exact ⟨h.1.symm,h.2⟩
    case imm => simp at h
    case agg => obtain ⟨_,e,_⟩:=h; cases e
    case slice => rcases h with ⟨_,_,e,_⟩ | ⟨_,_,_,_,_,_,_,_,_,_,e,_⟩ <;> cases e
theorem ownL_cons {I : Bool} {d : Nat} {H : AHeap} {vs us : List AV} {u : AV} {fp : List Nat} (h : OwnL (OwnX I d) H vs (u :: us) fp) : ∃ v ws f g,vs = v :: ws∧OwnX I d H v u f∧OwnL (OwnX I d) H ws us g∧Apart f g∧fp = f ++ g:=by
  cases h with
  | cons h1 h2 h3 => exact ⟨_,_,_,_,rfl,h1,h2,h3,rfl⟩
theorem own_id {I : Bool} {d : Nat} {H : AHeap} {vs us : List AV} {x y : Sc} {fp : List Nat} (h : OwnL (OwnX I d) H vs (.sc x :: .sc y :: us) fp) (hd : d ≠ 0) :
    ∃ ws,vs = .sc x :: .sc y :: ws∧OwnL (OwnX I d) H ws us fp∧∀ x' y' : Sc,OwnL (OwnX I d) H (.sc x' :: .sc y' :: ws) (.sc x' :: .sc y' :: us) fp:=by
  obtain ⟨v1,w1,f1,g1,rfl,a1,a2,a3,rfl⟩:=ownL_cons h
  obtain ⟨v2,w2,f2,g2,rfl,b1,b2,b3,rfl⟩:=ownL_cons a2
  obtain ⟨rfl,rfl⟩:=own_sc a1
  obtain ⟨rfl,rfl⟩:=own_sc b1
  refine ⟨w2,rfl,by simpa using b2,fun x' y' => ?_⟩
  obtain ⟨d,rfl⟩:=Nat.exists_eq_succ_of_ne_zero hd
  exact .cons (f:=[]) OwnX.scal (.cons (f:=[]) OwnX.scal b2 Apart.nil_left) Apart.nil_left
theorem splice_splice {cs : List AV} {o n : Nat} {a b : AV} (h : o + n ≤ cs.length) (hn : 2 ≤ n) : splice cs o [a,b] = splice cs o (a :: b :: ((cs.drop o).take n).drop 2):=by
  have hl : (a :: b :: ((cs.drop o).take n).drop 2).length = n:=by
    simp only [List.length_cons,List.length_drop,List.length_take]; omega
  have e1 : cs.drop (o + n) = (cs.drop (o + 2)).drop (n - 2):=by rw [List.drop_drop]; congr 1; omega
  have e2 : ((cs.drop o).take n).drop 2 = (cs.drop (o + 2)).take (n - 2):=by rw [List.drop_take,List.drop_drop]
  unfold splice
  rw [hl,e1,e2]
  simp only [List.append_assoc,List.cons_append,List.nil_append,List.take_append_drop,List.length_cons,List.length_nil]
theorem ptr_id {α : Type} {f : α→AV} {d n : Nat} {H : AHeap} {v : AV} {s : Sl α} {fp : List Nat} {i : Nat} {x : α} {id : ID} {us : List AV} (row : RowOf n f) (hn1 : 2 ≤ n) (h : OwnX false (d + 2) H v (slm f s) fp) (hi : s.l[i]? = some x)
    (hx : (f x).cells = .sc (.int .i64 id.site) :: .sc (.int .i64 id.number) :: us) (g : ID→α) (hg : ∀ d,(f (g d)).cells = .sc (.int .i64 d.site) :: .sc (.int .i64 d.number) :: us) :
    ∃ b off cap ds,v = .slice b off s.l.length cap n∧b ∈ fp∧H.cells b = some ds∧off + i * n + 2 ≤ ds.length∧ds[off + i * n]? = some (.sc (.int .i64 id.site))∧ds[off + i * n + 1]? = some (.sc (.int .i64 id.number)) ∧
      ∀ d',∃ fp',OwnX false (d + 2) (H.put b (some (.cells (splice ds (off + i * n) [.sc (.int .i64 d'.site),.sc (.int .i64 d'.number)])))) v (slm f (some (s.l.set i (g d')))) fp'∧∀ c ∈ fp',c ∈ fp:=by
  obtain ⟨b,off,cap,cs,fp1,h1,h2,h3,h4,h5,h6,h7,h8⟩:=own_elem_fit row (by omega) h hi
  rw [hx] at h7
  obtain ⟨ws,k1,k2,k3⟩:=own_id h7 (by omega)
  have c0 : cs[off + i * n]? = some (.sc (.int .i64 id.site)):=by
    have:=congrArg (fun l => l[0]?) k1
    simp only [List.getElem?_take,List.getElem?_drop,List.getElem?_cons_zero,Nat.add_zero] at this
    rw [if_pos (by omega)] at this; exact this
  have c1 : cs[off + i * n + 1]? = some (.sc (.int .i64 id.number)):=by
    have:=congrArg (fun l => l[1]?) k1
    simp only [List.getElem?_take,List.getElem?_drop,List.getElem?_cons_succ,List.getElem?_cons_zero] at this
    rw [if_pos (by omega)] at this; exact this
  refine ⟨b,off,cap,cs,h1,h4,h2,by omega,c0,c1,fun d' => ?_⟩
  have e1 : ((cs.drop (off + i * n)).take n).drop 2 = ws:=by rw [k1]; rfl
  rw [splice_splice h3 hn1,e1]
  have lw : ws.length + 2 = n:=by
    have:=congrArg List.length k1
    simp only [List.length_take,List.length_drop,List.length_cons] at this
    omega
  have hk : ∀ c,c ≠ b→(H.put b (some (.cells (splice cs (off + i * n) (.sc (.int .i64 d'.site) :: .sc (.int .i64 d'.number) :: ws))))).cells c = H.cells c:=fun c hc => c_put_ne hc
  obtain ⟨fp',r1,r2⟩:=h8 (g d') _ (b :: fp1) ⟨.sc (.int .i64 d'.site) :: .sc (.int .i64 d'.number) :: ws,fp1,h_put_self h2,by simp; omega,by rw [hg]; exact (k3 _ _).fr fun c hc => hk c fun e => h5 (e ▸ hc),h5,rfl⟩
    (fun c hc hc2 => hk c fun e => hc2 (by simp [e])) (fun c hc => .inl hc)
  refine ⟨fp',r1,fun c hc => ?_⟩
  rcases r2 c hc with h | ⟨h,_⟩
  · rcases List.mem_cons.1 h with rfl | h
    · exact h4
    · exact h6 c h
  · exact h
def Foc (H : AHeap) (bS : Nat) (R : List Nat) (a : Score) (v : AV) (j : Nat) (u : AV) : Prop :=
  ∃ f,OwnX false 7 H v u f∧(∀ b ∈ f,b ∈ R)∧∀ (a' : Score) (u' : AV),a'.enc.cells = a.enc.cells.set j u'→∀ H' f' R',OwnX false 7 H' v u' f'→H'.cells bS = H.cells bS→(∀ b ∈ R,b ∉ f→H'.cells b = H.cells b) →
    (∀ b ∈ f',b ∈ f ∨ b ∉ R)→(∀ b ∈ R,b ∈ R')→(∀ b ∈ f',b ∈ R')→OwnScore H' bS R' a'
section
variable {H : AHeap} {bS : Nat} {R : List Nat} {a : Score}
theorem set_same {cs : List AV} {j : Nat} {v : AV} (hj : cs[j]? = some v) : cs.set j v = cs:=by
  apply List.ext_getElem?
  intro q
  rw [List.getElem?_set]
  by_cases e : j = q
  · subst e; rw [if_pos rfl,hj]
    have:=(List.getElem?_eq_some_iff.1 hj).1
    rw [if_pos this]
  · rw [if_neg e]
theorem own_foc {cs : List AV} {fp : List Nat} (hS : H.cells bS = some cs) (ho : OwnL (OwnX false 7) H cs a.enc.cells fp) (hR : ∀ b ∈ fp,b ∈ R) {j : Nat} {u : AV} (hu : a.enc.cells[j]? = some u) : ∃ v,cs[j]? = some v∧Foc H bS R a v j u:=by
  obtain ⟨v,f,a1,a2,a3,a4⟩:=ho.fit hu
  refine ⟨v,a1,f,a2,fun b hb => hR b (a3 b hb),fun a' u' he H' f' R' q1 q2 q3 q4 q5 q6 => ?_⟩
  obtain ⟨fp',r1,r2⟩:=a4 v u' H' f' q1 (fun b hb hb2 => q3 b (hR b hb) hb2) (fun b hb => (q4 b hb).imp id fun h h2 => h (hR b h2))
  rw [set_same a1,← he] at r1
  refine ⟨cs,fp',by rw [q2]; exact hS,r1,fun b hb => ?_⟩
  rcases r2 b hb with h | ⟨h,_⟩
  · exact q6 b h
  · exact q5 b (hR b h)
theorem own_open (h : OwnScore H bS R a) : ∃ v2 v3 v4 v5,H.cells bS = some [.sc (.str a.title),.sc (.bool a.written),v2,v3,v4,v5] ∧
    Foc H bS R a v2 2 (slm Part.enc a.parts)∧Foc H bS R a v3 3 (slm Measure.enc a.measures)∧Foc H bS R a v4 4 (slm Spanner.enc a.spanners)∧Foc H bS R a v5 5 (slm ID.enc a.last):=by
  obtain ⟨cs,fp,hS,ho,hR⟩:=h
  obtain ⟨v2,v3,v4,v5,f2,f3,f4,f5,rfl,c2,c3,c4,c5,s2,s3,s4,s5⟩:=own6 ho
  obtain ⟨w2,e2,g2⟩:=own_foc hS ho hR (j:=2) (u:=slm Part.enc a.parts) rfl
  obtain ⟨w3,e3,g3⟩:=own_foc hS ho hR (j:=3) (u:=slm Measure.enc a.measures) rfl
  obtain ⟨w4,e4,g4⟩:=own_foc hS ho hR (j:=4) (u:=slm Spanner.enc a.spanners) rfl
  obtain ⟨w5,e5,g5⟩:=own_foc hS ho hR (j:=5) (u:=slm ID.enc a.last) rfl
  cases e2; cases e3; cases e4; cases e5
  exact ⟨_,_,_,_,hS,g2,g3,g4,g5⟩
theorem Foc.len {α : Type} {f : α→AV} {v : AV} {j : Nat} {s : Sl α} (h : Foc H bS R a v j (slm f s)) : lenOf v = some (.sc (.int .i64 s.l.length)):=by
  obtain ⟨f,h,_⟩:=h; exact (own_len h).1
theorem ptr_fin {α : Type} {f : α→AV} {v w : AV} {d n i : Nat} {g1 g2 : List Nat} {s : Sl α} {x : α} {id : ID} {us : List AV} {o : Pos} {gg : ID→Score} (row : RowOf n f) (hn1 : 2 ≤ n) (hw : OwnX false (d + 2) H w (slm f s) g2) (hi : s.l[i]? = some x)
    (hx : (f x).cells = .sc (.int .i64 id.site) :: .sc (.int .i64 id.number) :: us) (g : ID→α) (hg : ∀ d,(f (g d)).cells = .sc (.int .i64 d.site) :: .sc (.int .i64 d.number) :: us) (hI : IdAt a o id gg) (hg12 : ∀ b ∈ g2,b ∈ g1) (hg1 : ∀ b ∈ g1,b ∈ R)
    (U : ID→AV) (hF : ∀ d',Fit H g1 g2 (fun H' f' => OwnX false (d + 2) H' w (slm f (some (s.l.set i (g d')))) f') (fun H' f' => OwnX false 7 H' v (U d') f'))
    (hT : ∀ d' H' f' R',OwnX false 7 H' v (U d') f'→H'.cells bS = H.cells bS→(∀ b ∈ R,b ∉ g1→H'.cells b = H.cells b)→(∀ b ∈ f',b ∈ g1 ∨ b ∉ R)→(∀ b ∈ R,b ∈ R')→(∀ b ∈ f',b ∈ R')→OwnScore H' bS R' (gg d')) :
    ∃ b off cap ds,w = .slice b off s.l.length cap n∧H.cells b = some ds∧off + i * n + 2 ≤ ds.length∧PtrTo H bS R a o (.ptr b (off + i * n)):=by
  obtain ⟨b,off,cap,ds,h1,h2,h3,h4,h5,h6,h7⟩:=ptr_id row hn1 hw hi hx g hg
  have hbR:=hg1 b (hg12 b h2)
  refine ⟨b,off,cap,ds,h1,h3,h4,b,off + i * n,ds,id,gg,rfl,hbR,h3,h4,h5,h6,hI,fun hn d' => ?_⟩
  obtain ⟨fp',r1,r2⟩:=h7 d'
  have nb : bS ≠ b:=fun e => hn (e ▸ hbR)
  obtain ⟨f',q1,q2⟩:=hF d' _ fp' r1 (fun c hc hc2 => c_put_ne fun e => hc2 (e ▸ h2)) (fun c hc => .inl (r2 c hc))
  have hsub : ∀ c ∈ f',c ∈ g1:=fun c hc => by
    rcases q2 c hc with h | ⟨h,_⟩
    · exact hg12 c (r2 c h)
    · exact h
  exact hT d' _ f' R q1 (c_put_ne nb) (fun c hc hc2 => c_put_ne fun e => hc2 (e ▸ hg12 b h2)) (fun c hc => .inl (hsub c hc)) (fun _ h => h) (fun c hc => hg1 c (hsub c hc))
theorem Fit.refl {H : AHeap} {f : List Nat} {A : AHeap→List Nat→Prop} : Fit H f f A A:=fun H' f' hi _ _ => ⟨f',hi,fun b hb => .inl hb⟩
theorem ptr_part {v : AV} {i : Nat} {p : Part} (h : Foc H bS R a v 2 (slm Part.enc a.parts)) (hp : a.parts.l[i]? = some p) :
    ∃ b off cap ds,v = .slice b off a.parts.l.length cap 6∧H.cells b = some ds∧off + i * 6 + 2 ≤ ds.length∧PtrTo H bS R a (.part i) (.ptr b (off + i * 6)):=by
  obtain ⟨f,h1,h2,h3⟩:=h
  exact ptr_fin (d:=5) row_Part (by decide) h1 hp rfl (fun d => { p with id:=d }) (fun _ => rfl) (IdAt.part hp) (fun _ h => h) h2 _ (fun _ => Fit.refl) (fun d' => h3 _ _ rfl)
theorem ptr_measure {v : AV} {i : Nat} {p : Measure} (h : Foc H bS R a v 3 (slm Measure.enc a.measures)) (hp : a.measures.l[i]? = some p) :
    ∃ b off cap ds,v = .slice b off a.measures.l.length cap 22∧H.cells b = some ds∧off + i * 22 + 2 ≤ ds.length∧PtrTo H bS R a (.measure i) (.ptr b (off + i * 22)):=by
  obtain ⟨f,h1,h2,h3⟩:=h
  exact ptr_fin (d:=5) row_Measure (by decide) h1 hp rfl (fun d => { p with id:=d }) (fun _ => rfl) (IdAt.measure hp) (fun _ h => h) h2 _ (fun _ => Fit.refl) (fun d' => h3 _ _ rfl)
theorem ptr_spanner {v : AV} {i : Nat} {p : Spanner} (h : Foc H bS R a v 4 (slm Spanner.enc a.spanners)) (hp : a.spanners.l[i]? = some p) :
    ∃ b off cap ds,v = .slice b off a.spanners.l.length cap 7∧H.cells b = some ds∧off + i * 7 + 2 ≤ ds.length∧PtrTo H bS R a (.spanner i) (.ptr b (off + i * 7)):=by
  obtain ⟨f,h1,h2,h3⟩:=h
  exact ptr_fin (d:=5) row_Spanner (by decide) h1 hp rfl (fun d => { p with id:=d }) (fun _ => rfl) (IdAt.spanner hp) (fun _ h => h) h2 _ (fun _ => Fit.refl) (fun d' => h3 _ _ rfl)
theorem ptr_staff {v : AV} {i k st : Nat} {p : Part} {q : Staff} (h : Foc H bS R a v 2 (slm Part.enc a.parts)) (hp : a.parts.l[i]? = some p) (hq : p.staves.l[k]? = some q) :
    ∃ b1 o1 p1 z1 w b off cap ds,v = .slice b1 o1 a.parts.l.length p1 6∧H.cells b1 = some z1∧o1 + i * 6 + 5 + 1 ≤ z1.length∧z1[o1 + i * 6 + 5]? = some w∧w = .slice b off p.staves.l.length cap 3∧H.cells b = some ds∧off + k * 3 + 2 ≤ ds.length∧PtrTo H bS R a (.staff i k st) (.ptr b (off + k * 3)):=by
  obtain ⟨f,h1,h2,h3⟩:=h
  obtain ⟨b1,o1,p1,z1,w,f2,a1,a2,a3,a4,a5,a6,a7,a8,a9⟩:=own_step row_Part (by decide) h1 hp (show (Part.enc p).cells[5]? = some (slm Staff.enc p.staves) from rfl)
  obtain ⟨b,off,cap,ds,g1,g2,g3,g4⟩:=ptr_fin (d:=4) (g1:=f) row_Staff' (by decide) a5 hq rfl (fun d => { q with id:=d }) (fun _ => rfl) (IdAt.staff (st:=st) hp hq) a6 h2 _ (fun d' => a9 _ (p.setS k { q with id:=d' }) rfl) (fun d' => h3 _ _ rfl)
  exact ⟨b1,o1,p1,z1,w,b,off,cap,ds,a1,a2,a3,a4,g1,g2,g3,g4⟩
theorem ptr_event {v : AV} {m c vv e : Nat} {y : Measure} {q : Cell} {z : Voice} {x : Event} (h : Foc H bS R a v 3 (slm Measure.enc a.measures)) (hy : a.measures.l[m]? = some y) (hq : y.cells.l[c]? = some q) (hz : q.voices.l[vv]? = some z) (hx : z.events.l[e]? = some x) :
    ∃ b1 o1 p1 z1 w1 b2 o2 p2 z2 w2 b3 o3 p3 z3 w3 b off cap ds,v = .slice b1 o1 a.measures.l.length p1 22∧H.cells b1 = some z1∧z1[o1 + m * 22 + 21]? = some w1∧w1 = .slice b2 o2 y.cells.l.length p2 2∧H.cells b2 = some z2∧z2[o2 + c * 2 + 1]? = some w2 ∧
      w2 = .slice b3 o3 q.voices.l.length p3 2∧H.cells b3 = some z3∧z3[o3 + vv * 2]? = some w3∧w3 = .slice b off z.events.l.length cap 13∧H.cells b = some ds∧off + e * 13 + 2 ≤ ds.length∧PtrTo H bS R a (.event m c vv e) (.ptr b (off + e * 13)):=by
  obtain ⟨f,h1,h2,h3⟩:=h
  obtain ⟨b1,o1,p1,z1,w1,f1,a1,a2,a3,a4,a5,a6,a7,a8,a9⟩:=own_step row_Measure (by decide) h1 hy (show (Measure.enc y).cells[21]? = some (slm Cell.enc y.cells) from rfl)
  obtain ⟨b2,o2,p2,z2,w2,f2,d1,d2,d3,d4,d5,d6,d7,d8,d9⟩:=own_step row_Cell (by decide) a5 hq (show (Cell.enc q).cells[1]? = some (slm Voice.enc q.voices) from rfl)
  obtain ⟨b3,o3,p3,z3,w3,f3,e1,e2,e3,e4,e5,e6,e7,e8,e9⟩:=own_step row_Voice (by decide) d5 hz (show (Voice.enc z).cells[0]? = some (slm Event.enc z.events) from rfl)
  have s2 : ∀ b ∈ f3,b ∈ f1:=fun b hb => d6 b (e6 b hb)
  obtain ⟨b,off,cap,ds,g1,g2,g3,g4⟩:=ptr_fin (d:=2) (g1:=f) row_Event (by decide) e5 hx rfl (fun d => { x with id:=d }) (fun _ => rfl) (IdAt.event hy hq hz hx) (fun b hb => a6 b (s2 b hb)) h2 _
    (fun d' => Fit.trans (a9 _ (y.setC c (q.setV vv (z.setE e { x with id:=d' }))) rfl) (Fit.trans (d9 _ (q.setV vv (z.setE e { x with id:=d' })) rfl) (e9 _ (z.setE e { x with id:=d' }) rfl) d6 e6) a6 s2) (fun d' => h3 _ _ rfl)
  exact ⟨b1,o1,p1,z1,w1,b2,o2,p2,z2,w2,b3,o3,p3,z3,w3,b,off,cap,ds,a1,a2,a4,d1,d2,d4,e1,e2,by simpa using e4,g1,g2,g3,g4⟩
end
end Go.Hem
namespace Go.Hem
variable {pol : Pol}
structure SameShape (a s : Score) : Prop where
  parts : a.parts.l.length = s.parts.l.length
  staves : ∀ (i : Nat) p q,s.parts.l[i]? = some p→a.parts.l[i]? = some q→q.staves.l.length = p.staves.l.length
  measures : a.measures.l.length = s.measures.l.length
  cells : ∀ (m : Nat) y y',s.measures.l[m]? = some y→a.measures.l[m]? = some y'→y'.cells.l.length = y.cells.l.length
  voices : ∀ (m : Nat) y y' (c : Nat) q q',s.measures.l[m]? = some y→a.measures.l[m]? = some y'→y.cells.l[c]? = some q→y'.cells.l[c]? = some q'→q'.voices.l.length = q.voices.l.length
  events : ∀ (m : Nat) y y' (c : Nat) q q' (v : Nat) z z',s.measures.l[m]? = some y→a.measures.l[m]? = some y'→y.cells.l[c]? = some q→y'.cells.l[c]? = some q'→q.voices.l[v]? = some z→q'.voices.l[v]? = some z'→z'.events.l.length = z.events.l.length
  spanners : a.spanners.l.length = s.spanners.l.length
theorem same_at {α : Type} {l : List α} {x y : α} {i : Nat} (h : l[i]? = some x) (k : l[i]? = some y) : y = x:=by rw [h] at k; cases k; rfl
theorem SameShape.refl (s : Score) : SameShape s s:=by
  refine ⟨rfl,fun i p q h k => by rw [same_at h k],rfl,fun m y y' h k => by rw [same_at h k],fun m y y' c q q' h k h2 k2 => ?_,fun m y y' c q q' v z z' h k h2 k2 h3 k3 => ?_,rfl⟩
  · have:=same_at h k; subst this; rw [same_at h2 k2]
  · have:=same_at h k; subst this
    have:=same_at h2 k2; subst this
    rw [same_at h3 k3]
theorem at_len {α β : Type} {l : List α} {l' : List β} {i : Nat} {x : α} (h : l'.length = l.length) (hx : l[i]? = some x) : ∃ y,l'[i]? = some y:=⟨_,List.getElem?_eq_getElem (by have:=(List.getElem?_eq_some_iff.1 hx).1; omega)⟩
section
variable {a s : Score} (h : SameShape a s)
include h
theorem SameShape.getP {i : Nat} {p : Part} (hp : s.parts.l[i]? = some p) : ∃ q,a.parts.l[i]? = some q∧q.staves.l.length = p.staves.l.length:=by
  obtain ⟨q,hq⟩:=at_len h.parts hp
  exact ⟨q,hq,h.staves _ _ _ hp hq⟩
theorem SameShape.getM {i : Nat} {p : Measure} (hp : s.measures.l[i]? = some p) : ∃ q,a.measures.l[i]? = some q∧q.cells.l.length = p.cells.l.length:=by
  obtain ⟨q,hq⟩:=at_len h.measures hp
  exact ⟨q,hq,h.cells _ _ _ hp hq⟩
theorem SameShape.getC {m c : Nat} {y y' : Measure} {q : Cell} (hy : s.measures.l[m]? = some y) (hy' : a.measures.l[m]? = some y') (hq : y.cells.l[c]? = some q) : ∃ q',y'.cells.l[c]? = some q'∧q'.voices.l.length = q.voices.l.length:=by
  obtain ⟨q',hq'⟩:=at_len (h.cells _ _ _ hy hy') hq
  exact ⟨q',hq',h.voices _ _ _ _ _ _ hy hy' hq hq'⟩
theorem SameShape.getV {m c v : Nat} {y y' : Measure} {q q' : Cell} {z : Voice} (hy : s.measures.l[m]? = some y) (hy' : a.measures.l[m]? = some y') (hq : y.cells.l[c]? = some q) (hq' : y'.cells.l[c]? = some q') (hz : q.voices.l[v]? = some z) : ∃ z',q'.voices.l[v]? = some z'∧z'.events.l.length = z.events.l.length:=by
  obtain ⟨z',hz'⟩:=at_len (h.voices _ _ _ _ _ _ hy hy' hq hq') hz
  exact ⟨z',hz',h.events _ _ _ _ _ _ _ _ _ hy hy' hq hq' hz hz'⟩
end
section
variable {H : AHeap} {bS : Nat} {R : List Nat} {a : Score}
theorem foc_part {v : AV} {i : Nat} {p : Part} (h : Foc H bS R a v 2 (slm Part.enc a.parts)) (hp : a.parts.l[i]? = some p) :
    ∃ b o c z w,v = .slice b o a.parts.l.length c 6∧H.cells b = some z∧z[o + i * 6 + 5]? = some w∧lenOf w = some (.sc (.int .i64 p.staves.l.length)):=by
  obtain ⟨f,h1,h2,h3⟩:=h
  obtain ⟨b1,o1,p1,z1,w,f2,a1,a2,a3,a4,a5,a6,a7,a8,a9⟩:=own_step row_Part (by decide) h1 hp (show (Part.enc p).cells[5]? = some (slm Staff.enc p.staves) from rfl)
  exact ⟨b1,o1,p1,z1,w,a1,a2,a4,(own_len a5).1⟩
theorem foc_meas {v : AV} {i : Nat} {p : Measure} (h : Foc H bS R a v 3 (slm Measure.enc a.measures)) (hp : a.measures.l[i]? = some p) :
    ∃ b o c z w,v = .slice b o a.measures.l.length c 22∧H.cells b = some z∧z[o + i * 22 + 21]? = some w∧lenOf w = some (.sc (.int .i64 p.cells.l.length)):=by
  obtain ⟨f,h1,h2,h3⟩:=h
  obtain ⟨b1,o1,p1,z1,w,f2,a1,a2,a3,a4,a5,a6,a7,a8,a9⟩:=own_step row_Measure (by decide) h1 hp (show (Measure.enc p).cells[21]? = some (slm Cell.enc p.cells) from rfl)
  exact ⟨b1,o1,p1,z1,w,a1,a2,a4,(own_len a5).1⟩
theorem foc_cell {v : AV} {m c : Nat} {y : Measure} {q : Cell} (h : Foc H bS R a v 3 (slm Measure.enc a.measures)) (hy : a.measures.l[m]? = some y) (hq : y.cells.l[c]? = some q) :
    ∃ b1 o1 p1 z1 w1 b2 o2 p2 z2 w2,v = .slice b1 o1 a.measures.l.length p1 22∧H.cells b1 = some z1∧z1[o1 + m * 22 + 21]? = some w1∧w1 = .slice b2 o2 y.cells.l.length p2 2∧H.cells b2 = some z2∧z2[o2 + c * 2 + 1]? = some w2∧lenOf w2 = some (.sc (.int .i64 q.voices.l.length)):=by
  obtain ⟨f,h1,h2,h3⟩:=h
  obtain ⟨b1,o1,p1,z1,w1,f1,a1,a2,a3,a4,a5,a6,a7,a8,a9⟩:=own_step row_Measure (by decide) h1 hy (show (Measure.enc y).cells[21]? = some (slm Cell.enc y.cells) from rfl)
  obtain ⟨b2,o2,p2,z2,w2,f2,d1,d2,d3,d4,d5,d6,d7,d8,d9⟩:=own_step row_Cell (by decide) a5 hq (show (Cell.enc q).cells[1]? = some (slm Voice.enc q.voices) from rfl)
  exact ⟨b1,o1,p1,z1,w1,b2,o2,p2,z2,w2,a1,a2,a4,d1,d2,d4,(own_len d5).1⟩
theorem foc_voice {v : AV} {m c vv : Nat} {y : Measure} {q : Cell} {z : Voice} (h : Foc H bS R a v 3 (slm Measure.enc a.measures)) (hy : a.measures.l[m]? = some y) (hq : y.cells.l[c]? = some q) (hz : q.voices.l[vv]? = some z) :
    ∃ b1 o1 p1 z1 w1 b2 o2 p2 z2 w2 b3 o3 p3 z3 w3,v = .slice b1 o1 a.measures.l.length p1 22∧H.cells b1 = some z1∧z1[o1 + m * 22 + 21]? = some w1∧w1 = .slice b2 o2 y.cells.l.length p2 2∧H.cells b2 = some z2∧z2[o2 + c * 2 + 1]? = some w2 ∧
      w2 = .slice b3 o3 q.voices.l.length p3 2∧H.cells b3 = some z3∧z3[o3 + vv * 2]? = some w3∧lenOf w3 = some (.sc (.int .i64 z.events.l.length)):=by
  obtain ⟨f,h1,h2,h3⟩:=h
  obtain ⟨b1,o1,p1,z1,w1,f1,a1,a2,a3,a4,a5,a6,a7,a8,a9⟩:=own_step row_Measure (by decide) h1 hy (show (Measure.enc y).cells[21]? = some (slm Cell.enc y.cells) from rfl)
  obtain ⟨b2,o2,p2,z2,w2,f2,d1,d2,d3,d4,d5,d6,d7,d8,d9⟩:=own_step row_Cell (by decide) a5 hq (show (Cell.enc q).cells[1]? = some (slm Voice.enc q.voices) from rfl)
  obtain ⟨b3,o3,p3,z3,w3,f3,e1,e2,e3,e4,e5,e6,e7,e8,e9⟩:=own_step row_Voice (by decide) d5 hz (show (Voice.enc z).cells[0]? = some (slm Event.enc z.events) from rfl)
  exact ⟨b1,o1,p1,z1,w1,b2,o2,p2,z2,w2,b3,o3,p3,z3,w3,a1,a2,a4,d1,d2,d4,e1,e2,by simpa using e4,(own_len e5).1⟩
end
theorem visit_own (s : Score) (hT : Tame s) (l bs bS : Nat) (R : List Nat) (S : List Pos→Score) (J : List Pos→AHeap→Prop) (D : AHeap→Prop)
    (hJ : ∀ r H,J r H→H.cells bs = some [.ptr bS 0]∧OwnScore H bS R (S r)∧SameShape (S r) s)
    (hy : ∀ o r H p,J (o :: r) H→PtrTo H bS R (S (o :: r)) o p→Ev prog pol (.yield l [o.place.enc,p]) H fun q H' => (q = .val (.sc (.bool true))∧J r H') ∨ (q = .val (.sc (.bool false))∧D H'))
    {H : AHeap} (h0 : J (poss s) H) : Ev prog pol (.call 110 [.yield l,.ptr bs 0]) H fun q H' => ∃ v,q = .val v∧(J [] H' ∨ D H'):=by
  obtain ⟨hs,hst,hl1,hl2,hl3,hT1,hT2,hT3⟩:=hT
  have fin : ∀ t H',J [] H' ∨ D H'→∃ v,cresults t H' [] = some v∧(J [] H' ∨ D H'):=fun t H' h => ⟨_,rfl,h⟩
  refine wpF_ok ok110 (Q:=fun v H' => J [] H' ∨ D H') ?_
  obtain ⟨hB,hO,hSh⟩:=hJ _ _ h0
  obtain ⟨v2,v3,v4,v5,hS,F2,F3,F4,F5⟩:=own_open hO
  have L2:=F2.len
  have L3:=F3.len
  have L4:=F4.len
  rw [hSh.parts] at L2
  rw [hSh.measures] at L3
  rw [hSh.spanners] at L4
  simp -implicitDefEqProofs (maxDischargeDepth:=12) only [wpF,cf110,WW,List.replicate,e_splice,if_true,if_false,ite_true,ite_false,true_or,ne_eq,seval,h_putc,beq_self_eq_true,eq_self,exists_eq_left,exists_eq_left',hB,hS,L2]
  refine wp_loop (Inv:=fun k t H => ∃ (i : Nat),i + k = s.parts.l.length∧J (posParts i (stavesOf (s.parts.l.take i)) (s.parts.l.drop i) ++ (posMeasures 0 s.measures.l ++ posSpanners 0 s.spanners.l)) H ∧
    ∃ x : Nat→AV,t = [.yield l,.ptr bs 0,x 2,.sc (.int .i64 (stavesOf (s.parts.l.take i))),x 4,x 5,x 6,x 7,x 8,x 9,x 10,x 11,x 12,x 13,x 14,.sc (.int .i64 s.parts.l.length),.sc (.int .i64 i),x 17,x 18,x 19,x 20,x 21,x 22,x 23,x 24,x 25,x 26,x 27,x 28,x 29,x 30,x 31,x 32,x 33,x 34,x 35,x 36,x 37,x 38,x 39,x 40,x 41,x 42,x 43,x 44,x 45,x 46,x 47,x 48,x 49,x 50,x 51,x 52,x 53,x 54,x 55,x 56,x 57,x 58,x 59,x 60,x 61,x 62,x 63,x 64,x 65,x 66,x 67,x 68,x 69,x 70,x 71,x 72,x 73,x 74,x 75,x 76,x 77,x 78,x 79,x 80,x 81,x 82,x 83,x 84,x 85,x 86,x 87,x 88,x 89,x 90,x 91,x 92,x 93,x 94,x 95,x 96,x 97,x 98,x 99,x 100,x 101,x 102,x 103,x 104,x 105,x 106,x 107,x 108,x 109,x 110,x 111,x 112,x 113,x 114,x 115,x 116,x 117,x 118,x 119,x 120,x 121,x 122,x 123,x 124,x 125,x 126,x 127,x 128,x 129,x 130,x 131,x 132,x 133,x 134,x 135,x 136,x 137,x 138,x 139,x 140,x 141,x 142,x 143,x 144,x 145,x 146,x 147,x 148,x 149,x 150,x 151,x 152,x 153,x 154,x 155,x 156,x 157,x 158,x 159,x 160,x 161,x 162,x 163,x 164,x 165,x 166,x 167,x 168,x 169,x 170,x 171,x 172,x 173,x 174,x 175,x 176,x 177,x 178,x 179,x 180,x 181,x 182]) (k:=s.parts.l.length) ?_
    ⟨0,by omega,h0,ex_x rfl⟩
  clear h0 hB hO hSh hS F2 F3 F4 F5 L2 L3 L4 v2 v3 v4 v5
  rintro k t H ⟨i,hk,h0,x,rfl⟩
  obtain ⟨hB,hO,hSh⟩:=hJ _ _ h0
  obtain ⟨v2,v3,v4,v5,hS,F2,F3,F4,F5⟩:=own_open hO
  have L2:=F2.len
  have L3:=F3.len
  have L4:=F4.len
  rw [hSh.parts] at L2
  rw [hSh.measures] at L3
  rw [hSh.spanners] at L4
  by_cases h1 : (i : Int) < (s.parts.l.length : Int)
  · obtain ⟨p,hp⟩ : ∃ y,s.parts.l[i]? = some y:=⟨_,List.getElem?_eq_getElem (by omega)⟩
    have e2 : IntKind.i64.wrap ((i : Int) + 1) = ((i + 1 : Nat) : Int):=by rw [w64 (by omega) (by omega)]; omega
    have n1 : i < s.parts.l.length:=by omega
    have hst2:=stavesOf_at hp
    rw [drop_cons hp,posParts] at h0 hO hSh F2 F3 F4 F5
    obtain ⟨p',hp',hpl⟩:=hSh.getP hp
    obtain ⟨b,o,c,ds,e,hd,hl,hPt⟩:=ptr_part F2 hp'
    rw [hSh.parts] at e
    simp -implicitDefEqProofs (maxDischargeDepth:=12) only [WW,List.replicate,e_splice,if_true,if_false,ite_true,ite_false,true_or,ne_eq,seval,h_putc,beq_self_eq_true,eq_self,exists_eq_left,exists_eq_left',hB,hS,h1,n1,e,e_cally]
    clear hp' hpl hd hl e
    refine wA_yield ((hy (.part i) _ _ _ h0 hPt).mono fun q H' h => ?_)
    rcases h with ⟨rfl,h⟩ | ⟨rfl,h⟩
    rotate_left
    · refine ⟨_,rfl,by simp only [k_nil],?_⟩
      simp -implicitDefEqProofs (maxDischargeDepth:=12) only [WW,List.replicate,e_splice,if_true,if_false,ite_true,ite_false,true_or,ne_eq,seval,h_putc,beq_self_eq_true,eq_self,exists_eq_left,exists_eq_left',cr_nil]
      exact .inr h
    refine ⟨_,rfl,by simp only [k_nil],?_⟩
    clear hPt h0 hB hO hSh hS F2 F3 F4 F5 L2 L3 L4
    obtain ⟨hB,hO,hSh⟩:=hJ _ _ h
    obtain ⟨v2,v3,v4,v5,hS,F2,F3,F4,F5⟩:=own_open hO
    have L2:=F2.len
    have L3:=F3.len
    have L4:=F4.len
    rw [hSh.parts] at L2
    rw [hSh.measures] at L3
    rw [hSh.spanners] at L4
    obtain ⟨p',hp',hpl⟩:=hSh.getP hp
    obtain ⟨b,o,c,ds,w,e,hd,hw,hwl⟩:=foc_part F2 hp'
    rw [hSh.parts] at e
    rw [hpl] at hwl
    simp -implicitDefEqProofs (maxDischargeDepth:=12) only [WW,List.replicate,e_splice,if_true,if_false,ite_true,ite_false,true_or,ne_eq,seval,h_putc,beq_self_eq_true,eq_self,exists_eq_left,exists_eq_left',hB,hS,n1,e,hd,hw,hwl]
    refine wp_loop (Inv:=fun k t H => ∃ (j : Nat),j + k = p.staves.l.length∧J (posStaves i j (stavesOf (s.parts.l.take i) + j) (p.staves.l.drop j) ++ posParts (i + 1) (stavesOf (s.parts.l.take i) + p.staves.l.length) (s.parts.l.drop (i + 1)) ++ (posMeasures 0 s.measures.l ++ posSpanners 0 s.spanners.l)) H ∧
      ∃ x : Nat→AV,t = [.yield l,.ptr bs 0,x 2,.sc (.int .i64 ((stavesOf (s.parts.l.take i) + j : Nat) : Int)),.sc (.int .i64 i),x 5,x 6,x 7,x 8,x 9,x 10,x 11,x 12,x 13,x 14,.sc (.int .i64 s.parts.l.length),.sc (.int .i64 i),x 17,x 18,x 19,x 20,x 21,x 22,x 23,x 24,x 25,x 26,x 27,x 28,x 29,x 30,x 31,x 32,x 33,x 34,x 35,x 36,x 37,x 38,.sc (.int .i64 p.staves.l.length),.sc (.int .i64 j),x 41,x 42,x 43,x 44,x 45,x 46,x 47,x 48,x 49,x 50,x 51,x 52,x 53,x 54,x 55,x 56,x 57,x 58,x 59,x 60,x 61,x 62,x 63,x 64,x 65,x 66,x 67,x 68,x 69,x 70,x 71,x 72,x 73,x 74,x 75,x 76,x 77,x 78,x 79,x 80,x 81,x 82,x 83,x 84,x 85,x 86,x 87,x 88,x 89,x 90,x 91,x 92,x 93,x 94,x 95,x 96,x 97,x 98,x 99,x 100,x 101,x 102,x 103,x 104,x 105,x 106,x 107,x 108,x 109,x 110,x 111,x 112,x 113,x 114,x 115,x 116,x 117,x 118,x 119,x 120,x 121,x 122,x 123,x 124,x 125,x 126,x 127,x 128,x 129,x 130,x 131,x 132,x 133,x 134,x 135,x 136,x 137,x 138,x 139,x 140,x 141,x 142,x 143,x 144,x 145,x 146,x 147,x 148,x 149,x 150,x 151,x 152,x 153,x 154,x 155,x 156,x 157,x 158,x 159,x 160,x 161,x 162,x 163,x 164,x 165,x 166,x 167,x 168,x 169,x 170,x 171,x 172,x 173,x 174,x 175,x 176,x 177,x 178,x 179,x 180,x 181,x 182]) (k:=p.staves.l.length) ?_
      ⟨0,by omega,by simpa using h,ex_x rfl⟩
    clear h hB hO hSh hS F2 F3 F4 F5 L2 L3 L4 v2 v3 v4 v5 x p' hp' hpl b o c ds w e hd hw hwl
    rintro k' t H ⟨j,hk',h0,x,rfl⟩
    obtain ⟨hB,hO,hSh⟩:=hJ _ _ h0
    obtain ⟨v2,v3,v4,v5,hS,F2,F3,F4,F5⟩:=own_open hO
    have L2:=F2.len
    have L3:=F3.len
    have L4:=F4.len
    rw [hSh.parts] at L2
    rw [hSh.measures] at L3
    rw [hSh.spanners] at L4
    by_cases h3 : (j : Int) < (p.staves.l.length : Int)
    · obtain ⟨q,hq⟩ : ∃ y,p.staves.l[j]? = some y:=⟨_,List.getElem?_eq_getElem (by omega)⟩
      have n3 : j < p.staves.l.length:=by omega
      have e3 : IntKind.i64.wrap ((j : Int) + 1) = ((j + 1 : Nat) : Int):=by rw [w64 (by omega) (by omega)]; omega
      have e4 : IntKind.i64.wrap (((stavesOf (s.parts.l.take i) + j : Nat) : Int) + 1) = ((stavesOf (s.parts.l.take i) + (j + 1) : Nat) : Int):=by rw [w64 (by omega) (by omega)]; omega
      rw [drop_cons hq,posStaves] at h0 hO hSh F2 F3 F4 F5
      obtain ⟨p',hp',hpl⟩:=hSh.getP hp
      obtain ⟨q',hq'⟩:=at_len hpl hq
      obtain ⟨b1,o1,c1,z1,w,b,o,c,ds,e,hz1,hl1,hw,hwe,hd,hl,hPt⟩:=ptr_staff (st:=stavesOf (s.parts.l.take i) + j) F2 hp' hq'
      rw [hSh.parts] at e
      rw [hpl] at hwe
      simp -implicitDefEqProofs (maxDischargeDepth:=12) only [WW,List.replicate,e_splice,if_true,if_false,ite_true,ite_false,true_or,ne_eq,seval,h_putc,beq_self_eq_true,eq_self,exists_eq_left,exists_eq_left',hB,hS,h3,n1,n3,e,hz1,hw,hwe,e_cally]
      clear hp' hpl hq' e hz1 hl1 hw hwe hd hl
      refine wA_yield ((hy (.staff i j (stavesOf (s.parts.l.take i) + j)) _ _ _ h0 hPt).mono fun q H' h => ?_)
      rcases h with ⟨rfl,h⟩ | ⟨rfl,h⟩
      rotate_left
      · refine ⟨_,rfl,by simp only [k_nil],?_⟩
        simp -implicitDefEqProofs (maxDischargeDepth:=12) only [WW,List.replicate,e_splice,if_true,if_false,ite_true,ite_false,true_or,ne_eq,seval,h_putc,beq_self_eq_true,eq_self,exists_eq_left,exists_eq_left',cr_nil]
        exact .inr h
      refine ⟨_,rfl,by simp only [k_nil],?_⟩
      clear hPt h0 hB hO hSh hS F2 F3 F4 F5 L2 L3 L4
      obtain ⟨hB,hO,hSh⟩:=hJ _ _ h
      obtain ⟨v2,v3,v4,v5,hS,F2,F3,F4,F5⟩:=own_open hO
      have L2:=F2.len
      have L3:=F3.len
      have L4:=F4.len
      rw [hSh.parts] at L2
      rw [hSh.measures] at L3
      rw [hSh.spanners] at L4
      simp -implicitDefEqProofs (maxDischargeDepth:=12) only [WW,List.replicate,e_splice,if_true,if_false,ite_true,ite_false,true_or,ne_eq,seval,h_putc,beq_self_eq_true,eq_self,exists_eq_left,exists_eq_left',e3,e4]
      exact ⟨k' - 1,by omega,j + 1,by omega,by simpa [Nat.add_assoc] using h,ex_x rfl⟩
    · have hj : j = p.staves.l.length:=by omega
      simp -implicitDefEqProofs (maxDischargeDepth:=12) only [WW,List.replicate,e_splice,if_true,if_false,ite_true,ite_false,true_or,ne_eq,seval,h_putc,beq_self_eq_true,eq_self,exists_eq_left,exists_eq_left',h3,e2]
      rw [drop_end h3] at h0
      simp only [posStaves,List.nil_append] at h0
      rw [hj,← stavesOf_take hp]
      rw [← stavesOf_take hp] at h0
      exact ⟨k - 1,by omega,i + 1,by omega,h0,ex_x rfl⟩
  · rw [drop_end h1] at h0
    simp only [posParts,List.nil_append] at h0
    simp -implicitDefEqProofs (maxDischargeDepth:=12) only [WW,List.replicate,e_splice,if_true,if_false,ite_true,ite_false,true_or,ne_eq,seval,h_putc,beq_self_eq_true,eq_self,exists_eq_left,exists_eq_left',hB,hS,h1,L3]
    refine wp_loop (Inv:=fun k t H => ∃ (m : Nat),m + k = s.measures.l.length∧J (posMeasures m (s.measures.l.drop m) ++ posSpanners 0 s.spanners.l) H ∧
      ∃ x : Nat→AV,t = [.yield l,.ptr bs 0,x 2,x 3,x 4,x 5,x 6,x 7,x 8,x 9,x 10,x 11,x 12,x 13,x 14,x 15,x 16,x 17,x 18,x 19,x 20,x 21,x 22,x 23,x 24,x 25,x 26,x 27,x 28,x 29,x 30,x 31,x 32,x 33,x 34,x 35,x 36,x 37,x 38,x 39,x 40,x 41,x 42,x 43,x 44,x 45,x 46,x 47,x 48,x 49,x 50,x 51,x 52,x 53,x 54,x 55,x 56,x 57,x 58,x 59,x 60,x 61,x 62,x 63,x 64,x 65,x 66,.sc (.int .i64 s.measures.l.length),.sc (.int .i64 m),x 69,x 70,x 71,x 72,x 73,x 74,x 75,x 76,x 77,x 78,x 79,x 80,x 81,x 82,x 83,x 84,x 85,x 86,x 87,x 88,x 89,x 90,x 91,x 92,x 93,x 94,x 95,x 96,x 97,x 98,x 99,x 100,x 101,x 102,x 103,x 104,x 105,x 106,x 107,x 108,x 109,x 110,x 111,x 112,x 113,x 114,x 115,x 116,x 117,x 118,x 119,x 120,x 121,x 122,x 123,x 124,x 125,x 126,x 127,x 128,x 129,x 130,x 131,x 132,x 133,x 134,x 135,x 136,x 137,x 138,x 139,x 140,x 141,x 142,x 143,x 144,x 145,x 146,x 147,x 148,x 149,x 150,x 151,x 152,x 153,x 154,x 155,x 156,x 157,x 158,x 159,x 160,x 161,x 162,x 163,x 164,x 165,x 166,x 167,x 168,x 169,x 170,x 171,x 172,x 173,x 174,x 175,x 176,x 177,x 178,x 179,x 180,x 181,x 182]) (k:=s.measures.l.length) ?_
      ⟨0,by omega,by simpa using h0,ex_x rfl⟩
    clear h0 hB hO hSh hS F2 F3 F4 F5 L2 L3 L4 v2 v3 v4 v5 x h1 hk
    rintro k t H ⟨m,hk,h0,x,rfl⟩
    obtain ⟨hB,hO,hSh⟩:=hJ _ _ h0
    obtain ⟨v2,v3,v4,v5,hS,F2,F3,F4,F5⟩:=own_open hO
    have L2:=F2.len
    have L3:=F3.len
    have L4:=F4.len
    rw [hSh.parts] at L2
    rw [hSh.measures] at L3
    rw [hSh.spanners] at L4
    by_cases h1 : (m : Int) < (s.measures.l.length : Int)
    · obtain ⟨y,hy'⟩ : ∃ y,s.measures.l[m]? = some y:=⟨_,List.getElem?_eq_getElem (by omega)⟩
      have n1 : m < s.measures.l.length:=by omega
      have e2 : IntKind.i64.wrap ((m : Int) + 1) = ((m + 1 : Nat) : Int):=by rw [w64 (by omega) (by omega)]; omega
      have b1:=hT1 _ _ hy'
      rw [drop_cons hy',posMeasures] at h0 hO hSh F2 F3 F4 F5
      obtain ⟨y',hq,hql⟩:=hSh.getM hy'
      obtain ⟨b,o,c,ds,e,hd,hl,hPt⟩:=ptr_measure F3 hq
      rw [hSh.measures] at e
      simp -implicitDefEqProofs (maxDischargeDepth:=12) only [WW,List.replicate,e_splice,if_true,if_false,ite_true,ite_false,true_or,ne_eq,seval,h_putc,beq_self_eq_true,eq_self,exists_eq_left,exists_eq_left',hB,hS,h1,n1,e,e_cally]
      clear hq hql hd hl e
      refine wA_yield ((hy (.measure m) _ _ _ h0 hPt).mono fun q H' h => ?_)
      rcases h with ⟨rfl,h⟩ | ⟨rfl,h⟩
      rotate_left
      · refine ⟨_,rfl,by simp only [k_nil],?_⟩
        simp -implicitDefEqProofs (maxDischargeDepth:=12) only [WW,List.replicate,e_splice,if_true,if_false,ite_true,ite_false,true_or,ne_eq,seval,h_putc,beq_self_eq_true,eq_self,exists_eq_left,exists_eq_left',cr_nil]
        exact .inr h
      refine ⟨_,rfl,by simp only [k_nil],?_⟩
      clear hPt h0 hB hO hSh hS F2 F3 F4 F5 L2 L3 L4
      obtain ⟨hB,hO,hSh⟩:=hJ _ _ h
      obtain ⟨v2,v3,v4,v5,hS,F2,F3,F4,F5⟩:=own_open hO
      have L2:=F2.len
      have L3:=F3.len
      have L4:=F4.len
      rw [hSh.parts] at L2
      rw [hSh.measures] at L3
      rw [hSh.spanners] at L4
      obtain ⟨y',hq,hql⟩:=hSh.getM hy'
      obtain ⟨b,o,c,ds,w,e,hd,hw,hwl⟩:=foc_meas F3 hq
      rw [hSh.measures] at e
      rw [hql] at hwl
      simp -implicitDefEqProofs (maxDischargeDepth:=12) only [WW,List.replicate,e_splice,if_true,if_false,ite_true,ite_false,true_or,ne_eq,seval,h_putc,beq_self_eq_true,eq_self,exists_eq_left,exists_eq_left',hB,hS,n1,e,hd,hw,hwl]
      refine wp_loop (Inv:=fun k t H => ∃ (c : Nat),c + k = y.cells.l.length∧J (posCells m c (y.cells.l.drop c) ++ posMeasures (m + 1) (s.measures.l.drop (m + 1)) ++ posSpanners 0 s.spanners.l) H ∧
        ∃ x : Nat→AV,t = [.yield l,.ptr bs 0,x 2,x 3,x 4,x 5,.sc (.int .i64 m),x 7,x 8,x 9,x 10,x 11,x 12,x 13,x 14,x 15,x 16,x 17,x 18,x 19,x 20,x 21,x 22,x 23,x 24,x 25,x 26,x 27,x 28,x 29,x 30,x 31,x 32,x 33,x 34,x 35,x 36,x 37,x 38,x 39,x 40,x 41,x 42,x 43,x 44,x 45,x 46,x 47,x 48,x 49,x 50,x 51,x 52,x 53,x 54,x 55,x 56,x 57,x 58,x 59,x 60,x 61,x 62,x 63,x 64,x 65,x 66,.sc (.int .i64 s.measures.l.length),.sc (.int .i64 m),x 69,x 70,x 71,x 72,x 73,x 74,x 75,x 76,x 77,x 78,x 79,x 80,x 81,x 82,x 83,x 84,x 85,x 86,x 87,x 88,x 89,x 90,.sc (.int .i64 y.cells.l.length),.sc (.int .i64 c),x 93,x 94,x 95,x 96,x 97,x 98,x 99,x 100,x 101,x 102,x 103,x 104,x 105,x 106,x 107,x 108,x 109,x 110,x 111,x 112,x 113,x 114,x 115,x 116,x 117,x 118,x 119,x 120,x 121,x 122,x 123,x 124,x 125,x 126,x 127,x 128,x 129,x 130,x 131,x 132,x 133,x 134,x 135,x 136,x 137,x 138,x 139,x 140,x 141,x 142,x 143,x 144,x 145,x 146,x 147,x 148,x 149,x 150,x 151,x 152,x 153,x 154,x 155,x 156,x 157,x 158,x 159,x 160,x 161,x 162,x 163,x 164,x 165,x 166,x 167,x 168,x 169,x 170,x 171,x 172,x 173,x 174,x 175,x 176,x 177,x 178,x 179,x 180,x 181,x 182]) (k:=y.cells.l.length) ?_
        ⟨0,by omega,by simpa using h,ex_x rfl⟩
      clear h hB hO hSh hS F2 F3 F4 F5 L2 L3 L4 v2 v3 v4 v5 x y' hq hql b o c ds w e hd hw hwl
      rintro k' t H ⟨c,hk',h0,x,rfl⟩
      obtain ⟨hB,hO,hSh⟩:=hJ _ _ h0
      obtain ⟨v2,v3,v4,v5,hS,F2,F3,F4,F5⟩:=own_open hO
      have L2:=F2.len
      have L3:=F3.len
      have L4:=F4.len
      rw [hSh.parts] at L2
      rw [hSh.measures] at L3
      rw [hSh.spanners] at L4
      by_cases h3 : (c : Int) < (y.cells.l.length : Int)
      · obtain ⟨q,hq⟩ : ∃ q,y.cells.l[c]? = some q:=⟨_,List.getElem?_eq_getElem (by omega)⟩
        have n3 : c < y.cells.l.length:=by omega
        have e3 : IntKind.i64.wrap ((c : Int) + 1) = ((c + 1 : Nat) : Int):=by rw [w64 (by omega) (by omega)]; omega
        have b2:=hT2 _ _ _ _ hy' hq
        rw [drop_cons hq,posCells] at h0 hO hSh F2 F3 F4 F5
        obtain ⟨y',hyy,hyl⟩:=hSh.getM hy'
        obtain ⟨q',hqq,hqql⟩:=hSh.getC hy' hyy hq
        obtain ⟨d1,o1,p1,z1,w1,d2,o2,p2,z2,w2,r1,r2,r3,r4,r5,r6,r7⟩:=foc_cell F3 hyy hqq
        rw [hSh.measures] at r1
        rw [hyl] at r4
        rw [hqql] at r7
        simp -implicitDefEqProofs (maxDischargeDepth:=12) only [WW,List.replicate,e_splice,if_true,if_false,ite_true,ite_false,true_or,ne_eq,seval,h_putc,beq_self_eq_true,eq_self,exists_eq_left,exists_eq_left',hB,hS,h3,n1,n3,r1,r2,r3,r4,r5,r6,r7]
        refine wp_loop (Inv:=fun k t H => ∃ (v : Nat),v + k = q.voices.l.length∧J (posVoices m c v (q.voices.l.drop v) ++ posCells m (c + 1) (y.cells.l.drop (c + 1)) ++ posMeasures (m + 1) (s.measures.l.drop (m + 1)) ++ posSpanners 0 s.spanners.l) H ∧
          ∃ x : Nat→AV,t = [.yield l,.ptr bs 0,x 2,x 3,x 4,x 5,.sc (.int .i64 m),.sc (.int .i64 c),x 8,x 9,x 10,x 11,x 12,x 13,x 14,x 15,x 16,x 17,x 18,x 19,x 20,x 21,x 22,x 23,x 24,x 25,x 26,x 27,x 28,x 29,x 30,x 31,x 32,x 33,x 34,x 35,x 36,x 37,x 38,x 39,x 40,x 41,x 42,x 43,x 44,x 45,x 46,x 47,x 48,x 49,x 50,x 51,x 52,x 53,x 54,x 55,x 56,x 57,x 58,x 59,x 60,x 61,x 62,x 63,x 64,x 65,x 66,.sc (.int .i64 s.measures.l.length),.sc (.int .i64 m),x 69,x 70,x 71,x 72,x 73,x 74,x 75,x 76,x 77,x 78,x 79,x 80,x 81,x 82,x 83,x 84,x 85,x 86,x 87,x 88,x 89,x 90,.sc (.int .i64 y.cells.l.length),.sc (.int .i64 c),x 93,x 94,x 95,x 96,x 97,x 98,x 99,x 100,x 101,x 102,x 103,x 104,x 105,x 106,.sc (.int .i64 q.voices.l.length),.sc (.int .i64 v),x 109,x 110,x 111,x 112,x 113,x 114,x 115,x 116,x 117,x 118,x 119,x 120,x 121,x 122,x 123,x 124,x 125,x 126,x 127,x 128,x 129,x 130,x 131,x 132,x 133,x 134,x 135,x 136,x 137,x 138,x 139,x 140,x 141,x 142,x 143,x 144,x 145,x 146,x 147,x 148,x 149,x 150,x 151,x 152,x 153,x 154,x 155,x 156,x 157,x 158,x 159,x 160,x 161,x 162,x 163,x 164,x 165,x 166,x 167,x 168,x 169,x 170,x 171,x 172,x 173,x 174,x 175,x 176,x 177,x 178,x 179,x 180,x 181,x 182]) (k:=q.voices.l.length) ?_
          ⟨0,by omega,by simpa using h0,ex_x rfl⟩
        clear h0 hB hO hSh hS F2 F3 F4 F5 L2 L3 L4 v2 v3 v4 v5 x y' hyy hyl q' hqq hqql d1 o1 p1 z1 w1 d2 o2 p2 z2 w2 r1 r2 r3 r4 r5 r6 r7
        rintro k2 t H ⟨v,hk2,h0,x,rfl⟩
        obtain ⟨hB,hO,hSh⟩:=hJ _ _ h0
        obtain ⟨v2,v3,v4,v5,hS,F2,F3,F4,F5⟩:=own_open hO
        have L2:=F2.len
        have L3:=F3.len
        have L4:=F4.len
        rw [hSh.parts] at L2
        rw [hSh.measures] at L3
        rw [hSh.spanners] at L4
        by_cases h5 : (v : Int) < (q.voices.l.length : Int)
        · obtain ⟨z,hz⟩ : ∃ z,q.voices.l[v]? = some z:=⟨_,List.getElem?_eq_getElem (by omega)⟩
          have n5 : v < q.voices.l.length:=by omega
          have e4 : IntKind.i64.wrap ((v : Int) + 1) = ((v + 1 : Nat) : Int):=by rw [w64 (by omega) (by omega)]; omega
          have b3:=hT3 _ _ _ _ _ _ hy' hq hz
          rw [drop_cons hz,posVoices] at h0 hO hSh F2 F3 F4 F5
          obtain ⟨y',hyy,hyl⟩:=hSh.getM hy'
          obtain ⟨q',hqq,hqql⟩:=hSh.getC hy' hyy hq
          obtain ⟨z',hzz,hzl⟩:=hSh.getV hy' hyy hq hqq hz
          obtain ⟨d1,o1,p1,z1,w1,d2,o2,p2,z2,w2,d3,o3,p3,z3,w3,r1,r2,r3,r4,r5,r6,r7,r8,r9,r10⟩:=foc_voice F3 hyy hqq hzz
          rw [hSh.measures] at r1
          rw [hyl] at r4
          rw [hqql] at r7
          rw [hzl] at r10
          simp -implicitDefEqProofs (maxDischargeDepth:=12) only [WW,List.replicate,e_splice,if_true,if_false,ite_true,ite_false,true_or,ne_eq,seval,h_putc,beq_self_eq_true,eq_self,exists_eq_left,exists_eq_left',hB,hS,h5,n1,n3,n5,r1,r2,r3,r4,r5,r6,r7,r8,r9,r10]
          refine wp_loop (Inv:=fun k t H => ∃ (e : Nat),e + k = z.events.l.length∧J (posEvents m c v e (z.events.l.drop e) ++ posVoices m c (v + 1) (q.voices.l.drop (v + 1)) ++ posCells m (c + 1) (y.cells.l.drop (c + 1)) ++ posMeasures (m + 1) (s.measures.l.drop (m + 1)) ++ posSpanners 0 s.spanners.l) H ∧
            ∃ x : Nat→AV,t = [.yield l,.ptr bs 0,x 2,x 3,x 4,x 5,.sc (.int .i64 m),.sc (.int .i64 c),.sc (.int .i64 v),x 9,x 10,x 11,x 12,x 13,x 14,x 15,x 16,x 17,x 18,x 19,x 20,x 21,x 22,x 23,x 24,x 25,x 26,x 27,x 28,x 29,x 30,x 31,x 32,x 33,x 34,x 35,x 36,x 37,x 38,x 39,x 40,x 41,x 42,x 43,x 44,x 45,x 46,x 47,x 48,x 49,x 50,x 51,x 52,x 53,x 54,x 55,x 56,x 57,x 58,x 59,x 60,x 61,x 62,x 63,x 64,x 65,x 66,.sc (.int .i64 s.measures.l.length),.sc (.int .i64 m),x 69,x 70,x 71,x 72,x 73,x 74,x 75,x 76,x 77,x 78,x 79,x 80,x 81,x 82,x 83,x 84,x 85,x 86,x 87,x 88,x 89,x 90,.sc (.int .i64 y.cells.l.length),.sc (.int .i64 c),x 93,x 94,x 95,x 96,x 97,x 98,x 99,x 100,x 101,x 102,x 103,x 104,x 105,x 106,.sc (.int .i64 q.voices.l.length),.sc (.int .i64 v),x 109,x 110,x 111,x 112,x 113,x 114,x 115,x 116,x 117,x 118,x 119,x 120,x 121,x 122,x 123,x 124,x 125,x 126,.sc (.int .i64 z.events.l.length),.sc (.int .i64 e),x 129,x 130,x 131,x 132,x 133,x 134,x 135,x 136,x 137,x 138,x 139,x 140,x 141,x 142,x 143,x 144,x 145,x 146,x 147,x 148,x 149,x 150,x 151,x 152,x 153,x 154,x 155,x 156,x 157,x 158,x 159,x 160,x 161,x 162,x 163,x 164,x 165,x 166,x 167,x 168,x 169,x 170,x 171,x 172,x 173,x 174,x 175,x 176,x 177,x 178,x 179,x 180,x 181,x 182]) (k:=z.events.l.length) ?_
            ⟨0,by omega,by simpa using h0,ex_x rfl⟩
          clear h0 hB hO hSh hS F2 F3 F4 F5 L2 L3 L4 v2 v3 v4 v5 x y' hyy hyl q' hqq hqql z' hzz hzl d1 o1 p1 z1 w1 d2 o2 p2 z2 w2 d3 o3 p3 z3 w3 r1 r2 r3 r4 r5 r6 r7 r8 r9 r10
          rintro k3 t H ⟨e,hk3,h0,x,rfl⟩
          obtain ⟨hB,hO,hSh⟩:=hJ _ _ h0
          obtain ⟨v2,v3,v4,v5,hS,F2,F3,F4,F5⟩:=own_open hO
          have L2:=F2.len
          have L3:=F3.len
          have L4:=F4.len
          rw [hSh.parts] at L2
          rw [hSh.measures] at L3
          rw [hSh.spanners] at L4
          by_cases h7 : (e : Int) < (z.events.l.length : Int)
          · obtain ⟨w,hw⟩ : ∃ w,z.events.l[e]? = some w:=⟨_,List.getElem?_eq_getElem (by omega)⟩
            have n7 : e < z.events.l.length:=by omega
            have e5 : IntKind.i64.wrap ((e : Int) + 1) = ((e + 1 : Nat) : Int):=by rw [w64 (by omega) (by omega)]; omega
            rw [drop_cons hw,posEvents] at h0 hO hSh F2 F3 F4 F5
            obtain ⟨y',hyy,hyl⟩:=hSh.getM hy'
            obtain ⟨q',hqq,hqql⟩:=hSh.getC hy' hyy hq
            obtain ⟨z',hzz,hzl⟩:=hSh.getV hy' hyy hq hqq hz
            obtain ⟨w',hww⟩:=at_len hzl hw
            obtain ⟨d1,o1,p1,z1,w1,d2,o2,p2,z2,w2,d3,o3,p3,z3,w3,b,o,cc,ds,r1,r2,r3,r4,r5,r6,r7,r8,r9,r10,hd,hl,hPt⟩:=ptr_event F3 hyy hqq hzz hww
            rw [hSh.measures] at r1
            rw [hyl] at r4
            rw [hqql] at r7
            rw [hzl] at r10
            simp -implicitDefEqProofs (maxDischargeDepth:=12) only [WW,List.replicate,e_splice,if_true,if_false,ite_true,ite_false,true_or,ne_eq,seval,h_putc,beq_self_eq_true,eq_self,exists_eq_left,exists_eq_left',hB,hS,h7,n1,n3,n5,n7,r1,r2,r3,r4,r5,r6,r7,r8,r9,r10,e_cally]
            clear hyy hyl hqq hqql hzz hzl hww r1 r2 r3 r4 r5 r6 r7 r8 r9 r10 hd hl
            refine wA_yield ((hy (.event m c v e) _ _ _ h0 hPt).mono fun q H' h => ?_)
            rcases h with ⟨rfl,h⟩ | ⟨rfl,h⟩
            rotate_left
            · refine ⟨_,rfl,by simp only [k_nil],?_⟩
              simp -implicitDefEqProofs (maxDischargeDepth:=12) only [WW,List.replicate,e_splice,if_true,if_false,ite_true,ite_false,true_or,ne_eq,seval,h_putc,beq_self_eq_true,eq_self,exists_eq_left,exists_eq_left',cr_nil]
              exact .inr h
            refine ⟨_,rfl,by simp only [k_nil],?_⟩
            clear hPt h0 hB hO hSh hS F2 F3 F4 F5 L2 L3 L4
            obtain ⟨hB,hO,hSh⟩:=hJ _ _ h
            obtain ⟨v2,v3,v4,v5,hS,F2,F3,F4,F5⟩:=own_open hO
            have L2:=F2.len
            have L3:=F3.len
            have L4:=F4.len
            rw [hSh.parts] at L2
            rw [hSh.measures] at L3
            rw [hSh.spanners] at L4
            simp -implicitDefEqProofs (maxDischargeDepth:=12) only [WW,List.replicate,e_splice,if_true,if_false,ite_true,ite_false,true_or,ne_eq,seval,h_putc,beq_self_eq_true,eq_self,exists_eq_left,exists_eq_left',e5]
            exact ⟨k3 - 1,by omega,e + 1,by omega,by simpa using h,ex_x rfl⟩
          · rw [drop_end h7] at h0
            simp only [posEvents,List.nil_append] at h0
            simp -implicitDefEqProofs (maxDischargeDepth:=12) only [WW,List.replicate,e_splice,if_true,if_false,ite_true,ite_false,true_or,ne_eq,seval,h_putc,beq_self_eq_true,eq_self,exists_eq_left,exists_eq_left',h7,e4]
            exact ⟨k2 - 1,by omega,v + 1,by omega,h0,ex_x rfl⟩
        · rw [drop_end h5] at h0
          simp only [posVoices,List.nil_append] at h0
          simp -implicitDefEqProofs (maxDischargeDepth:=12) only [WW,List.replicate,e_splice,if_true,if_false,ite_true,ite_false,true_or,ne_eq,seval,h_putc,beq_self_eq_true,eq_self,exists_eq_left,exists_eq_left',h5,e3]
          exact ⟨k' - 1,by omega,c + 1,by omega,h0,ex_x rfl⟩
      · rw [drop_end h3] at h0
        simp only [posCells,List.nil_append] at h0
        simp -implicitDefEqProofs (maxDischargeDepth:=12) only [WW,List.replicate,e_splice,if_true,if_false,ite_true,ite_false,true_or,ne_eq,seval,h_putc,beq_self_eq_true,eq_self,exists_eq_left,exists_eq_left',h3,e2]
        exact ⟨k - 1,by omega,m + 1,by omega,h0,ex_x rfl⟩
    · rw [drop_end h1] at h0
      simp only [posMeasures,List.nil_append] at h0
      simp -implicitDefEqProofs (maxDischargeDepth:=12) only [WW,List.replicate,e_splice,if_true,if_false,ite_true,ite_false,true_or,ne_eq,seval,h_putc,beq_self_eq_true,eq_self,exists_eq_left,exists_eq_left',hB,hS,h1,L4]
      refine wp_loop (Inv:=fun k t H => ∃ (i : Nat),i + k = s.spanners.l.length∧J (posSpanners i (s.spanners.l.drop i)) H ∧
        ∃ x : Nat→AV,t = [.yield l,.ptr bs 0,x 2,x 3,x 4,x 5,x 6,x 7,x 8,x 9,x 10,x 11,x 12,x 13,x 14,x 15,x 16,x 17,x 18,x 19,x 20,x 21,x 22,x 23,x 24,x 25,x 26,x 27,x 28,x 29,x 30,x 31,x 32,x 33,x 34,x 35,x 36,x 37,x 38,x 39,x 40,x 41,x 42,x 43,x 44,x 45,x 46,x 47,x 48,x 49,x 50,x 51,x 52,x 53,x 54,x 55,x 56,x 57,x 58,x 59,x 60,x 61,x 62,x 63,x 64,x 65,x 66,x 67,x 68,x 69,x 70,x 71,x 72,x 73,x 74,x 75,x 76,x 77,x 78,x 79,x 80,x 81,x 82,x 83,x 84,x 85,x 86,x 87,x 88,x 89,x 90,x 91,x 92,x 93,x 94,x 95,x 96,x 97,x 98,x 99,x 100,x 101,x 102,x 103,x 104,x 105,x 106,x 107,x 108,x 109,x 110,x 111,x 112,x 113,x 114,x 115,x 116,x 117,x 118,x 119,x 120,x 121,x 122,x 123,x 124,x 125,x 126,x 127,x 128,x 129,x 130,x 131,x 132,x 133,x 134,x 135,x 136,x 137,x 138,x 139,x 140,x 141,x 142,x 143,x 144,x 145,x 146,x 147,x 148,x 149,x 150,x 151,x 152,x 153,x 154,x 155,x 156,x 157,x 158,x 159,x 160,x 161,x 162,x 163,x 164,x 165,.sc (.int .i64 s.spanners.l.length),.sc (.int .i64 i),x 168,x 169,x 170,x 171,x 172,x 173,x 174,x 175,x 176,x 177,x 178,x 179,x 180,x 181,x 182]) (k:=s.spanners.l.length) ?_
        ⟨0,by omega,by simpa using h0,ex_x rfl⟩
      clear h0 hB hO hSh hS F2 F3 F4 F5 L2 L3 L4 v2 v3 v4 v5 x
      rintro k t H ⟨i,hk,h0,x,rfl⟩
      obtain ⟨hB,hO,hSh⟩:=hJ _ _ h0
      obtain ⟨v2,v3,v4,v5,hS,F2,F3,F4,F5⟩:=own_open hO
      have L2:=F2.len
      have L3:=F3.len
      have L4:=F4.len
      rw [hSh.parts] at L2
      rw [hSh.measures] at L3
      rw [hSh.spanners] at L4
      by_cases h1 : (i : Int) < (s.spanners.l.length : Int)
      · obtain ⟨y,hy'⟩ : ∃ y,s.spanners.l[i]? = some y:=⟨_,List.getElem?_eq_getElem (by omega)⟩
        have n1 : i < s.spanners.l.length:=by omega
        have e2 : IntKind.i64.wrap ((i : Int) + 1) = ((i + 1 : Nat) : Int):=by rw [w64 (by omega) (by omega)]; omega
        rw [drop_cons hy',posSpanners] at h0 hO hSh F2 F3 F4 F5
        obtain ⟨y',hq⟩:=at_len hSh.spanners hy'
        obtain ⟨b,o,c,ds,e,hd,hl,hPt⟩:=ptr_spanner F4 hq
        rw [hSh.spanners] at e
        simp -implicitDefEqProofs (maxDischargeDepth:=12) only [WW,List.replicate,e_splice,if_true,if_false,ite_true,ite_false,true_or,ne_eq,seval,h_putc,beq_self_eq_true,eq_self,exists_eq_left,exists_eq_left',hB,hS,h1,n1,e,e_cally]
        clear hq hd hl e
        refine wA_yield ((hy (.spanner i) _ _ _ h0 hPt).mono fun q H' h => ?_)
        rcases h with ⟨rfl,h⟩ | ⟨rfl,h⟩
        rotate_left
        · refine ⟨_,rfl,by simp only [k_nil],?_⟩
          simp -implicitDefEqProofs (maxDischargeDepth:=12) only [WW,List.replicate,e_splice,if_true,if_false,ite_true,ite_false,true_or,ne_eq,seval,h_putc,beq_self_eq_true,eq_self,exists_eq_left,exists_eq_left',cr_nil]
          exact .inr h
        refine ⟨_,rfl,by simp only [k_nil],?_⟩
        clear hPt h0 hB hO hSh hS F2 F3 F4 F5 L2 L3 L4
        obtain ⟨hB,hO,hSh⟩:=hJ _ _ h
        obtain ⟨v2,v3,v4,v5,hS,F2,F3,F4,F5⟩:=own_open hO
        have L2:=F2.len
        have L3:=F3.len
        have L4:=F4.len
        rw [hSh.parts] at L2
        rw [hSh.measures] at L3
        rw [hSh.spanners] at L4
        simp -implicitDefEqProofs (maxDischargeDepth:=12) only [WW,List.replicate,e_splice,if_true,if_false,ite_true,ite_false,true_or,ne_eq,seval,h_putc,beq_self_eq_true,eq_self,exists_eq_left,exists_eq_left',e2]
        exact ⟨k - 1,by omega,i + 1,by omega,by simpa using h,ex_x rfl⟩
      · rw [drop_end h1] at h0
        simp only [posSpanners] at h0
        simp -implicitDefEqProofs (maxDischargeDepth:=12) only [WW,List.replicate,e_splice,if_true,if_false,ite_true,ite_false,true_or,ne_eq,seval,h_putc,beq_self_eq_true,eq_self,exists_eq_left,exists_eq_left',h1,cr_nil]
        exact .inl h0
end Go.Hem
namespace Go.Hem
variable {pol : Pol}
def badSp (ids : List ID) (x : Spanner) : Bool:=!decide (x.from_ ∈ ids) || !decide (x.to ∈ ids)
def idxAV : Option Nat→AV
  | some i => .sc (.int .i64 i)
  | none => .sc (.int .i64 (-1))
theorem own_scs {I : Bool} {d : Nat} {H : AHeap} {vs us : List AV} {fp : List Nat} (h : OwnL (OwnX I d) H vs us fp) : (∀ u ∈ us,∃ x,u = .sc x)→vs = us∧fp = []:=by
  induction h with
  | nil => intro _; exact ⟨rfl,rfl⟩
  | cons h1 h2 h3 ih =>
    rename_i v u vs us f g
    intro k
    obtain ⟨x,rfl⟩:=k u (by simp)
    obtain ⟨rfl,rfl⟩:=own_sc h1
    obtain ⟨rfl,rfl⟩:=ih fun u hu => k u (by simp [hu])
    exact ⟨rfl,rfl⟩
theorem sp_scs (x : Spanner) : ∀ u ∈ (Spanner.enc x).cells,∃ y,u = .sc y:=by
  intro u hu
  simp only [x.enc_eq,c_agg,List.mem_cons,List.not_mem_nil,or_false] at hu
  rcases hu with rfl | rfl | rfl | rfl | rfl | rfl | rfl <;> exact ⟨_,rfl⟩
theorem own_sp {H : AHeap} {v : AV} {d i : Nat} {s : Sl Spanner} {fp : List Nat} {x : Spanner} (h : OwnX false (d + 1) H v (slm Spanner.enc s) fp) (hi : s.l[i]? = some x) :
    ∃ b off cap cs,v = .slice b off s.l.length cap 7∧H.cells b = some cs∧off + s.l.length * 7 ≤ cs.length∧b ∈ fp∧(cs.drop (off + i * 7)).take 7 = x.enc.cells:=by
  obtain ⟨b,off,cap,cs,fp',h1,h2,h3,h4,h5,h6⟩:=own_elem row_Spanner (by decide) h hi
  exact ⟨b,off,cap,cs,h1,h2,h3,h4,(own_scs h5 (sp_scs x)).1⟩
theorem index_own (hp : pol.pure 70 = false) {H0 : AHeap} {bq m d : Nat} {v : AV} {s : Sl Spanner} {fp : List Nat} {ids : List ID} (hv : OwnX false (d + 1) H0 v (slm Spanner.enc s) fp) (hq : H0.cells bq = some [.map m]) (hm : H0.map m = some (idsOf ids)) (hl : s.l.length < 1000000) :
    Ev prog pol (.call 114 [v,.func (.func 70) [] [.ptr bq 0]]) H0 fun o H' => o = .val (idxAV (s.l.findIdx? (badSp ids)))∧Keep H0.next H0 H'∧H'.map m = some (idsOf ids)∧H0.next ≤ H'.next:=by
  refine (wpF_ok ok114 (Q:=fun v H' => v = idxAV (s.l.findIdx? (badSp ids))∧Keep H0.next H0 H'∧H'.map m = some (idsOf ids)∧H0.next ≤ H'.next) ?_).mono ?_
  rotate_left
  · rintro o H' ⟨v,rfl,rfl,h⟩
    exact ⟨rfl,h⟩
  have b2:=h_lt hq
  simp -implicitDefEqProofs (maxDischargeDepth:=12) only [wpF,cf114,WW,List.replicate,e_splice,if_true,if_false,ite_true,ite_false,true_or,ne_eq,seval,h_putc,beq_self_eq_true,eq_self,exists_eq_left,exists_eq_left',(own_len hv).1]
  refine wp_loop (Inv:=fun k t H => ∃ (i : Nat),i + k = s.l.length∧Keep H0.next H0 H∧H.map m = some (idsOf ids)∧H0.next ≤ H.next∧(∀ j x,j < i→s.l[j]? = some x→badSp ids x = false) ∧
    ∃ x : Nat→AV,t = [v,.func (.func 70) [] [.ptr bq 0],x 2,x 3,.sc (.int .i64 0),x 5,v,.sc (.int .i64 s.l.length),.sc (.int .i64 i),x 9,x 10,x 11,x 12,x 13,x 14,x 15,x 16,x 17,x 18]) (k:=s.l.length) ?_
    ⟨0,by omega,Keep.refl,hm,Nat.le_refl _,by simp,ex_x rfl⟩
  rintro k t H ⟨i,hk,hK,hm',hn,hbad,x,rfl⟩
  have c2:=hK.cells hq b2
  by_cases h1 : (i : Int) < (s.l.length : Int)
  · obtain ⟨y,hy⟩ : ∃ y,s.l[i]? = some y:=⟨_,List.getElem?_eq_getElem (by omega)⟩
    have e2 : IntKind.i64.wrap ((i : Int) + 1) = ((i + 1 : Nat) : Int):=by rw [w64 (by omega) (by omega)]; omega
    obtain ⟨b,off,cap,cs,rfl,hb,hle,hbf,he4⟩:=own_sp hv hy
    have c1:=hK.cells hb (h_lt hb)
    have h1n : i < s.l.length:=by omega
    have he3 : off + i * 7 + 7 ≤ cs.length:=by omega
    have hsp : AV.agg y.enc.cells = y.enc:=rfl
    simp -implicitDefEqProofs (maxDischargeDepth:=12) only [WW,List.replicate,e_splice,if_true,if_false,ite_true,ite_false,true_or,ne_eq,seval,h_putc,beq_self_eq_true,eq_self,exists_eq_left,exists_eq_left',h1,h1n,c1,he3,he4]
    rw [show callvOf prog (.func (.func 70) [] [.ptr bq 0]) [AV.agg y.enc.cells] = some (.call 70 [y.enc,.ptr bq 0]) from rfl]
    refine wA_call hp ((prune1_ok c2 hm' y).mono fun o H' h => ?_)
    obtain ⟨rfl,hK2,hm2,hn2⟩:=h
    refine ⟨_,rfl,by simp only [k_nil],?_⟩
    have hK3 : Keep H0.next H0 H':=hK.trans (hK2.le hn)
    rw [show (!decide (y.from_ ∈ ids) || !decide (y.to ∈ ids)) = badSp ids y from rfl]
    cases hbb : badSp ids y with
    | true =>
      have hyes : s.l.findIdx? (badSp ids) = some i:=by
        rw [List.findIdx?_eq_some_iff_getElem]
        refine ⟨h1n,by rw [(List.getElem?_eq_some_iff.1 hy).2]; exact hbb,fun j hj => ?_⟩
        have:=hbad j (s.l[j]'(by omega)) hj (List.getElem?_eq_getElem (by omega))
        simp [this]
      simp -implicitDefEqProofs (maxDischargeDepth:=12) only [WW,List.replicate,e_splice,if_true,if_false,ite_true,ite_false,true_or,ne_eq,seval,h_putc,beq_self_eq_true,eq_self,exists_eq_left,exists_eq_left',e2]
      exact ⟨by rw [hyes]; rfl,hK3,hm2,by omega⟩
    | false =>
      simp -implicitDefEqProofs (maxDischargeDepth:=12) only [WW,List.replicate,e_splice,if_true,if_false,ite_true,ite_false,true_or,ne_eq,seval,h_putc,beq_self_eq_true,eq_self,exists_eq_left,exists_eq_left',e2]
      refine ⟨k - 1,by omega,i + 1,by omega,hK3,hm2,by omega,fun j z hj hz => ?_,ex_x rfl⟩
      by_cases hji : j = i
      · subst hji; rw [hy] at hz; cases hz; exact hbb
      · exact hbad j z (by omega) hz
  · simp -implicitDefEqProofs (maxDischargeDepth:=12) only [WW,List.replicate,e_splice,if_true,if_false,ite_true,ite_false,true_or,ne_eq,seval,h_putc,beq_self_eq_true,eq_self,exists_eq_left,exists_eq_left',h1]
    have hno : s.l.findIdx? (badSp ids) = none:=by
      rw [List.findIdx?_eq_none_iff]
      intro z hz
      obtain ⟨j,hj⟩:=List.getElem?_of_mem hz
      have:=(List.getElem?_eq_some_iff.1 hj).1
      exact hbad j z (by omega) hj
    exact ⟨by rw [hno]; rfl,hK,hm',hn⟩
end Go.Hem
namespace Go.Hem
variable {pol : Pol}
theorem flat_take {α : Type} {f : α→AV} {n : Nat} (row : RowOf n f) {l : List α} {i : Nat} (h : i ≤ l.length) : (l.flatMap fun x => (f x).cells).take (i * n) = (l.take i).flatMap fun x => (f x).cells:=by
  have e : l.flatMap (fun v => (f v).cells) = (l.take i).flatMap (fun v => (f v).cells) ++ (l.drop i).flatMap fun v => (f v).cells:=by
    rw [← List.flatMap_append,List.take_append_drop]
  rw [e,List.take_left' (by rw [flat_len row,List.length_take]; congr 1; omega)]
theorem flat_drop {α : Type} {f : α→AV} {n : Nat} (row : RowOf n f) {l : List α} {i : Nat} (h : i ≤ l.length) : (l.flatMap fun x => (f x).cells).drop (i * n) = (l.drop i).flatMap fun x => (f x).cells:=by
  have e : l.flatMap (fun v => (f v).cells) = (l.take i).flatMap (fun v => (f v).cells) ++ (l.drop i).flatMap fun v => (f v).cells:=by
    rw [← List.flatMap_append,List.take_append_drop]
  rw [e,List.drop_left' (by rw [flat_len row,List.length_take]; congr 1; omega)]
def Sl.ins {α : Type} (s : Sl α) (i : Nat) (el : List α) : Sl α:=if el = [] then s else some (s.l.take i ++ el ++ s.l.drop i)
theorem own_two {d b off len cap n : Nat} {H : AHeap} {u : AV} {fp : List Nat} (h : OwnX false (d + 1) H (.slice b off len cap n) u fp) : 2 ≤ n:=by
  simp only [OwnX] at h
  rcases h with ⟨h,_⟩ | ⟨_,_,_,_,_,h,_⟩
  · cases h
  · exact (h trivial).2
theorem ins_own {α : Type} {f : α→AV} {d n by' i bv m cp nv : Nat} {H : AHeap} {v : AV} {s : Sl α} {fp fx : List Nat} {el : List α} {cx ys : List AV} (row : RowOf n f) (hn1 : n ≠ 1) (h : OwnX false (d + 1) H v (slm f s) fp) (hN : RowN n v) (hi : i ≤ s.l.length)
    (hbv : H.cells bv = some cx) (hm : m = el.length) (hlx : m * n ≤ cx.length) (hx : cx.take (m * n) = ys) (ho : OwnL (OwnX false d) H ys (el.flatMap fun x => (f x).cells) fx) (ha : Apart fp fx) (hbf : bv ∉ fp) (hbig : (2 * (s.l.length + m) + 1000) * by' ≤ 2 ^ 47) (h40 : s.l.length + m < 2 ^ 40) :
    ∃ v' H' fp',insE n by' v (i : Int) bv 0 m cp nv H = some (v',H')∧OwnX false (d + 1) H' v' (slm f (s.ins i el)) fp'∧(∀ b ∈ fp',b ∈ fp ∨ b ∈ fx ∨ H.next ≤ b)∧(∀ b,b ∉ fp→b < H.next→H'.cells b = H.cells b)∧H.next ≤ H'.next:=by
  have hn2 : 2 ≤ n:=by have:=row.1; omega
  have hsrc : asrc n H (.slice bv 0 m cp nv) m = some ys:=by
    simp only [asrc,AHeap.rd,hbv,Option.some_or,Option.bind_some,Nat.zero_add,List.drop_zero]
    rw [if_pos ⟨Nat.le_refl _,hlx⟩,hx]
  have hyl : ys.length = m * n:=by rw [← hx,List.length_take]; omega
  have hlen:=(own_len h).1
  cases v with
  | sc x =>
    simp only [OwnX] at h
    obtain ⟨h1,rfl⟩:=h
    cases s with
    | some l => simp [slm] at h1
    | none =>
      simp only [slm,AV.sc.injEq] at h1
      subst h1
      have hi0 : i = 0:=by simpa [Sl.l] using hi
      subst hi0
      by_cases hm0 : m = 0
      · have hel : el = []:=List.length_eq_zero_iff.1 (by omega)
        refine ⟨.sc .nils,H,[],?_,?_,by simp,fun _ _ _ => rfl,Nat.le_refl _⟩
        · simp [insE,hm0]
        · rw [Sl.ins,if_pos hel]; exact ⟨rfl,rfl⟩
      · have hel : el ≠ []:=fun e => hm0 (by rw [hm,e]; rfl)
        refine ⟨.slice H.next 0 m m n,H.alloc (.cells ys),H.next :: fx,?_,?_,?_,?_,by simp⟩
        · simp only [insE,Int.natCast_zero,if_true,if_neg hm0,hsrc,Option.map_some]
          rw [if_pos (by simpa [Sl.l] using hbig)]
        · rw [Sl.ins,if_neg hel]
          have hfx:=ho.lts
          refine .inr ⟨ys,el.flatMap fun x => (f x).cells,fx,by rw [h_alloc,if_pos rfl],⟨row.1,Nat.le_refl _⟩,fun _ => ⟨rfl,hn2⟩,by omega,?_,fun hc => by have:=hfx _ hc; omega,fun e => absurd e hn1,?_,rfl⟩
          · rw [List.drop_zero,List.take_of_length_le (by omega)]
            exact ho.fr fun b hb => by have:=hfx b hb; rw [c_alloc_ne (by omega)]
          · rw [hm,rows_map row]; simp [slm,Sl.l]
        · intro b hb
          rcases List.mem_cons.1 hb with rfl | hb
          · exact .inr (.inr (Nat.le_refl _))
          · exact .inr (.inl hb)
        · intro b _ hb; rw [c_alloc_ne (by omega)]
  | slice b off len cap n' =>
    simp only [lenOf,Option.some.injEq,AV.sc.injEq,Sc.int.injEq,true_and] at hlen
    have hlen : len = s.l.length:=by omega
    subst hlen
    have h':=h
    simp only [OwnX] at h
    rcases h with ⟨h0,_⟩ | ⟨cs,us,fp',h1,⟨h2,h2'⟩,h3,h4,h5,h6,hq,h7,rfl⟩
    · cases h0
    have h3:=(h3 trivial).1
    subst h3
    obtain ⟨l,rfl⟩ : ∃ l,s = some l:=by
      cases s with
      | none => simp [slm] at h7
      | some l => exact ⟨l,rfl⟩
    simp only [l_some] at *
    have hnn:=hN _ _ _ _ _ rfl
    by_cases hm0 : m = 0
    · have hel : el = []:=List.length_eq_zero_iff.1 (by omega)
      refine ⟨.slice b 0 l.length cap n',H,b :: fp',?_,?_,fun c hc => .inl hc,fun _ _ _ => rfl,Nat.le_refl _⟩
      · simp only [insE,hm0,if_true]
        rw [if_pos ⟨by omega,by omega⟩]
      · rw [Sl.ins,if_pos hel]; exact h'
    have hel : el ≠ []:=fun e => hm0 (by rw [hm,e]; rfl)
    simp only [slm,AV.imm.injEq] at h7
    simp only [Nat.zero_add,List.drop_zero] at h4 h5
    have hul : us.length = l.length * n':=by
      have:=h5.len
      simp only [List.length_take] at this
      omega
    -- the rows are of n cells where there are any
    obtain ⟨hln,hus⟩ : l.length * n' = l.length * n∧us = l.flatMap fun x => (f x).cells:=by
      cases hl : l with
      | nil => rw [hl] at hul; exact ⟨by simp,by simpa using hul⟩
      | cons y r =>
        have hnq : n' = n:=by
          rw [hl] at h7
          simp only [List.map_cons,List.length_cons,rows,List.cons.injEq] at h7
          have ry:=row.2 y
          rw [if_neg hn1] at ry
          have e3:=h7.1
          rw [if_neg (by omega : ¬ n' = 1),ry.2] at e3
          simp only [AV.agg.injEq] at e3
          have e4:=congrArg List.length e3
          rw [ry.1,List.length_take,hul,hl,List.length_cons,Nat.succ_mul] at e4
          omega
        subst hnq
        refine ⟨rfl,?_⟩
        rw [← hl]
        exact own_rows row hn1 l us hul h7
    subst hus
    rw [hln] at h4 h5
    have hbl:=h_lt h1
    have hap : Apart fp' fx:=fun c hc => ha c (by simp [hc])
    have hbx : b ∉ fx:=ha b (by simp)
    have hfp:=h5.lts
    have hfx:=ho.lts
    obtain ⟨f1,g1,p1,p2,p3,p4⟩:=h5.split (i * n)
    rw [flat_take row hi] at p1
    rw [flat_drop row hi] at p2
    have s1 : ∀ c ∈ f1,c ∈ fp':=fun c hc => by rw [p4]; exact List.mem_append.2 (.inl hc)
    have s2 : ∀ c ∈ g1,c ∈ fp':=fun c hc => by rw [p4]; exact List.mem_append.2 (.inr hc)
    have hnew : OwnL (OwnX false d) H ((cs.take (l.length * n)).take (i * n) ++ ys ++ (cs.take (l.length * n)).drop (i * n)) ((l.take i ++ el ++ l.drop i).flatMap fun x => (f x).cells) (f1 ++ fx ++ g1):=by
      rw [List.flatMap_append,List.flatMap_append]
      exact (p1.append ho fun c hc => hap c (s1 c hc)).append p2 (Apart.app p3 fun c hc hc2 => hap c (s2 c hc2) hc)
    generalize hZ : (cs.take (l.length * n)).take (i * n) ++ ys ++ (cs.take (l.length * n)).drop (i * n) = Z at hnew
    have hk : ∀ c,c ≠ b→c < H.next→((H.put b none).alloc (.cells Z)).cells c = H.cells c:=fun c hc hc2 => by
      rw [c_alloc_ne (by rw [AHeap.next_put]; omega),c_put_ne hc]
    refine ⟨.slice H.next 0 (l.length + m) (l.length + m) n,(H.put b none).alloc (.cells Z),H.next :: (f1 ++ fx ++ g1),?_,?_,?_,?_,by simp⟩
    · simp only [insE]
      rw [if_pos ⟨by omega,by omega⟩,if_neg hm0,if_pos ⟨by trivial,hnn,fun e => hbf (by simp [e]),hbig,h40⟩,h1,Option.bind_some,hsrc,Option.bind_some,if_pos h4,Int.toNat_natCast,hZ]
    · rw [Sl.ins,if_neg hel]
      have hZl : Z.length = (l.length + m) * n:=by
        rw [← hZ]
        simp only [List.length_append,List.length_take,List.length_drop,hyl]
        have e1 : i * n ≤ l.length * n:=Nat.mul_le_mul_right _ hi
        rw [Nat.add_mul]; omega
      have hll : l.length + m = (l.take i ++ el ++ l.drop i).length:=by
        simp only [List.length_append,List.length_take,List.length_drop]; omega
      have hin : ∀ c ∈ f1 ++ fx ++ g1,c ≠ b∧c < H.next:=fun c hc => by
        rcases List.mem_append.1 hc with hc | hc
        · rcases List.mem_append.1 hc with hc | hc
          · exact ⟨fun e => h6 (e ▸ s1 c hc),hfp c (s1 c hc)⟩
          · exact ⟨fun e => hbx (e ▸ hc),hfx c hc⟩
        · exact ⟨fun e => h6 (e ▸ s2 c hc),hfp c (s2 c hc)⟩
      refine .inr ⟨Z,(l.take i ++ el ++ l.drop i).flatMap fun x => (f x).cells,f1 ++ fx ++ g1,?_,⟨row.1,Nat.le_refl _⟩,fun _ => ⟨rfl,hn2⟩,by omega,?_,fun hc => by have:=(hin _ hc).2; omega,fun e => absurd e hn1,?_,rfl⟩
      · rw [show H.next = (H.put b none).next by rw [AHeap.next_put],h_alloc,if_pos rfl]
      · rw [List.drop_zero,List.take_of_length_le (by omega)]
        exact hnew.fr fun c hc => hk c (hin c hc).1 (hin c hc).2
      · rw [hll,rows_map row]; simp [slm,Sl.l]
    · intro c hc
      rcases List.mem_cons.1 hc with rfl | hc
      · exact .inr (.inr (Nat.le_refl _))
      rcases List.mem_append.1 hc with hc | hc
      · rcases List.mem_append.1 hc with hc | hc
        · exact .inl (by simp [s1 c hc])
        · exact .inr (.inl hc)
      · exact .inl (by simp [s2 c hc])
    · intro c hc hc2
      exact hk c (fun e => hc (by simp [e])) hc2
  | _ => simp [OwnX] at h; try (obtain ⟨_,e,_⟩:=h; cases s <;> simp [slm] at e)
end Go.Hem
namespace Go.Hem
variable {pol : Pol}
def Fzn (H : AHeap) (b : Nat) (cs : List AV) : Prop:=b < H.next∧H.cells b = none∧frGet H.fr b = some cs
theorem Fzn.rd {H : AHeap} {b : Nat} {cs : List AV} (h : Fzn H b cs) : H.rd b = some cs:=by
  unfold AHeap.rd AHeap.frd
  rw [h.2.1,if_pos h.1,h.2.2]; rfl
theorem Fzn.alloc {H : AHeap} {b : Nat} {cs : List AV} {x : Blk} (h : Fzn H b cs) : Fzn (H.alloc x) b cs :=
  ⟨by rw [AHeap.next_alloc]; have:=h.1; omega,by rw [c_alloc_ne (by have:=h.1; omega)]; exact h.2.1,by rw [AHeap.fr_alloc]; exact h.2.2⟩
theorem Fzn.put {H : AHeap} {b c : Nat} {cs : List AV} {x : Option Blk} (h : Fzn H b cs) (hc : b ≠ c) : Fzn (H.put c x) b cs :=
  ⟨by rw [AHeap.next_put]; exact h.1,by rw [c_put_ne hc]; exact h.2.1,by rw [AHeap.fr_put]; exact h.2.2⟩
def LF (H H1 : AHeap) : Prop:=H1.next = H.next∧∀ b,H.cells b = none→H1.cells b = none∧frGet H1.fr b = frGet H.fr b
theorem LF.refl {H : AHeap} : LF H H:=⟨rfl,fun _ h => ⟨h,rfl⟩⟩
theorem LF.trans {H H1 H2 : AHeap} (h : LF H H1) (k : LF H1 H2) : LF H H2:=⟨k.1.trans h.1,fun b hb => ⟨(k.2 b (h.2 b hb).1).1,(k.2 b (h.2 b hb).1).2.trans (h.2 b hb).2⟩⟩
theorem Fzn.lf {H H1 : AHeap} {b : Nat} {cs : List AV} (h : Fzn H b cs) (k : LF H H1) : Fzn H1 b cs:=⟨by rw [k.1]; exact h.1,(k.2 b h.2.1).1,(k.2 b h.2.1).2.trans h.2.2⟩
theorem freezeL_lf {g : AV→AHeap→Option (AV × AHeap)} (hg : ∀ v H r,g v H = some r→LF H r.2) : ∀ (l : List AV) (H : AHeap) r,freezeL g l H = some r→LF H r.2
  | [],H,r,h => by simp only [freezeL,Option.some.injEq] at h; subst h; exact LF.refl
  | v :: l,H,r,h => by
    simp only [freezeL,Option.bind_eq_some_iff,Option.map_eq_some_iff] at h
    obtain ⟨x,hx,q,hq,rfl⟩:=h
    exact (hg _ _ _ hx).trans (freezeL_lf hg l _ q hq)
theorem freezeV_lf : ∀ (d : Nat) (v : AV) (H : AHeap) r,freezeV d v H = some r→LF H r.2
  | 0,_,_,_,h => by simp [freezeV] at h
  | d + 1,v,H,r,h => by
    unfold freezeV at h
    split at h
    · cases h; exact LF.refl
    · cases h; exact LF.refl
    · simp only [Option.map_eq_some_iff] at h
      obtain ⟨q,hq,rfl⟩:=h
      exact freezeL_lf (freezeV_lf d) _ _ _ hq
    · simp only [Option.map_eq_some_iff] at h
      obtain ⟨q,hq,rfl⟩:=h
      exact freezeL_lf (freezeV_lf d) _ _ _ hq
    · split at h
      · cases h; exact LF.refl
      · split at h
        · rename_i b off len cap n _ _ cs hc
          split at h
          · cases h
          · simp only [Option.map_eq_some_iff] at h
            obtain ⟨q,hq,rfl⟩:=h
            have k:=freezeL_lf (freezeV_lf d) _ _ _ hq
            refine ⟨by rw [AHeap.next_addFr,k.1,AHeap.next_put],fun b' hb => ?_⟩
            have hne : b' ≠ b:=fun e => by subst e; rw [hc] at hb; cases hb
            obtain ⟨k1,k2⟩:=k.2 b' (by rw [c_put_ne hne]; exact hb)
            refine ⟨by rw [AHeap.cells_addFr]; exact k1,?_⟩
            rw [AHeap.fr_addFr,frGet,if_neg (fun e => hne e.symm),k2,AHeap.fr_put]
        · simp only [Option.bind_eq_some_iff] at h
          obtain ⟨cs,hc,h⟩:=h
          split at h
          · cases h
          · cases h; exact LF.refl
    · cases h
theorem acc_fr {α : Type} {f : α→AV} {I : Bool} {d n : Nat} {H H1 : AHeap} {v u : AV} {l : List α} {fp : List Nat} (row : RowOf n f) (h : AccX I d n f H v (some l) fp) (hd : d ≤ 19) (hl : l ≠ []) (hf : freezeV 20 v H = some (u,H1)) :
    ∃ b cap,v = .slice b 0 l.length cap n∧b ∈ fp∧Fzn H1 b (l.flatMap fun x => (f x).cells):=by
  rcases h with ⟨_,h,_⟩ | ⟨b,cap,cs,rest,fp',l',h1,rfl,h3,h4,h5,h6,h7,h8,rfl⟩
  · cases h
  cases h1
  refine ⟨b,cap,rfl,by simp,?_⟩
  have hl0 : ¬ l.length = 0:=fun e => hl (List.length_eq_zero_iff.1 e)
  have h7' : OwnL (OwnX I 19) (H.put b none) (((cs ++ rest).drop 0).take (l.length * n)) (l.flatMap fun x => (f x).cells) fp':=by
    rw [List.drop_zero,List.take_append_of_le_length (by omega),List.take_of_length_le (by omega)]
    exact (h7.mono hd).fr fun c hc => c_put_ne fun e => h8 (e ▸ hc)
  obtain ⟨H2,a1,a2,a3⟩:=freezeL_own (O:=OwnX I 19) (fun H v u f => freezeV_own) (fun H H' v u f a b => OwnX.frame a b) h7'
  have key : freezeV (19 + 1) (.slice b 0 l.length cap n) H = some (.imm (rows n l.length (l.flatMap fun x => (f x).cells)),H2.addFr b (List.replicate 0 .poison ++ (l.flatMap fun x => (f x).cells))):=by
    simp only [freezeV,if_neg hl0,h4]
    rw [if_neg (by simp only [List.length_append]; have:=row.1; omega)]
    have : ∀ k,freezeL (freezeV 19) k (H.put b none) = freezeL (fun v H => freezeV 19 v H) k (H.put b none):=fun _ => rfl
    simp only [freezeV] at a1 ⊢
    rw [a1]; rfl
  have hf' : freezeV (19 + 1) (.slice b 0 l.length cap n) H = some (u,H1):=hf
  rw [key] at hf'
  simp only [Option.some.injEq,Prod.mk.injEq] at hf'
  obtain ⟨_,rfl⟩:=hf'
  have k:=freezeL_lf (freezeV_lf 19) _ _ _ a1
  have hb:=h_lt h4
  have hn : (H.put b none).cells b = none:=by
    have hg:=AHeap.get_put_self (none : Option Blk) (cells_get' h4)
    unfold AHeap.cells; rw [hg]
  obtain ⟨k1,k2⟩:=k.2 b hn
  refine ⟨by rw [AHeap.next_addFr,k.1,AHeap.next_put]; exact hb,by rw [AHeap.cells_addFr]; exact k1,?_⟩
  rw [AHeap.fr_addFr,frGet,if_pos rfl]; rfl
theorem freezeL_app {g : AV→AHeap→Option (AV × AHeap)} : ∀ {l : List AV} {H : AHeap} {r : List AV × AHeap} {v : AV} {q : AV × AHeap},freezeL g l H = some r→g v r.2 = some q→freezeL g (l ++ [v]) H = some (r.1 ++ [q.1],q.2)
  | [],H,r,v,q,h1,h2 => by
    simp only [freezeL,Option.some.injEq] at h1
    subst h1
    simp only [List.nil_append,freezeL,h2,Option.bind_some,Option.map_some]
  | x :: l,H,r,v,q,h1,h2 => by
    simp only [freezeL,Option.bind_eq_some_iff,Option.map_eq_some_iff] at h1
    obtain ⟨y,hy,z,hz,rfl⟩:=h1
    have:=freezeL_app (v:=v) (q:=q) hz h2
    simp only [List.cons_append,freezeL,hy,Option.bind_some,this,Option.map_some]
theorem closedBs_snoc {b off len cap n : Nat} : ∀ {l : List AV},AV.closedBs (l ++ [.slice b off len cap n]) = false
  | [] => rfl
  | x :: l => by simp only [List.cons_append,AV.closedBs,closedBs_snoc (l:=l),Bool.and_false]
theorem pvf_list {P : Program} {K : AHeap→Prop} {H : AHeap} {Q : AV→AHeap→Prop} {f : FuncId} {α : Type} {g : α→AV} {d n : Nat} {pre us : List AV} {v r : AV} {l : List α} {fpre fp : List Nat} (row : RowOf n g) (hp : OwnL (Own 20) H pre us fpre) (hv : AccX true d n g H v (some l) fp) (hd : d ≤ 19) (ha : Apart fpre fp) (hl : l ≠ []) (hpv : Pv P pol f (us ++ [slm g (some l)]) r) (hr : r.flatB = false)
    (k : ∀ H1,Less H H1 (fpre ++ fp)→LF H H1→(∃ b cap,v = .slice b 0 l.length cap n∧b ∈ fp∧Fzn H1 b (l.flatMap fun x => (g x).cells))→K H1∧Q r H1) : PvF P pol K H Q f (pre ++ [v]):=by
  obtain ⟨H1,a1,a2,a3⟩:=freezeL_own (O:=Own 20) (fun H v u f => freezeV_own) (fun H H' v u f a b => OwnX.frame a b) hp
  have hv1 : AccX true d n g H1 v (some l) fp:=hv.fr fun b hb => cells_of_get (a3 b fun h => ha b h hb)
  obtain ⟨fq,ho,hq⟩:=hv1.own row (.inl rfl)
  obtain ⟨H2,b1,b2,b3⟩:=freezeV_own (ho.mono (show d + 1 ≤ 20 by omega))
  have hfz:=acc_fr row hv1 hd hl b1
  have hcl : AV.closedBs (pre ++ [v]) = false:=by
    obtain ⟨b,cap,rfl,_⟩:=hfz
    exact closedBs_snoc
  exact ⟨_,H2,r,hcl,freezeL_app a1 b1,hpv,.inr ⟨hr,k H2 (fun b hb => by
    rw [b3 b (fun h => hb (List.mem_append.2 (.inr (hq b h)))),a3 b (fun h => hb (List.mem_append.2 (.inl h)))]) ((freezeL_lf (freezeV_lf 20) _ _ _ a1).trans (freezeV_lf 20 _ _ _ b1)) hfz⟩⟩
theorem pvf_ownB {P : Program} {K : AHeap→Prop} {H : AHeap} {Q : AV→AHeap→Prop} {f : FuncId} {args us : List AV} {fp : List Nat} {r : AV} (hc : AV.closedBs args = false) (h : OwnL (Own 20) H args us fp) (hv : Pv P pol f us r) (k : ∀ H1,Less H H1 fp→LF H H1→K H1∧Q r H1) : PvF P pol K H Q f args:=by
  obtain ⟨H1,a1,a2,a3⟩:=freezeL_own (O:=Own 20) (fun H v u f => freezeV_own) (fun H H' v u f a b => OwnX.frame a b) h
  cases hr : r.flatB with
  | true => exact ⟨us,H1,r,hc,a1,hv,.inl ⟨hr,(k H (fun _ _ => rfl) LF.refl).2⟩⟩
  | false => exact ⟨us,H1,r,hc,a1,hv,.inr ⟨hr,k H1 a3 (freezeL_lf (freezeV_lf 20) _ _ _ a1)⟩⟩
end Go.Hem
namespace Go.Hem
variable {pol : Pol}
theorem own_cap {d b off len cap n : Nat} {H : AHeap} {u : AV} {fp : List Nat} (h : OwnX false (d + 1) H (.slice b off len cap n) u fp) : len ≤ cap:=by
  simp only [OwnX] at h
  rcases h with ⟨h,_⟩ | ⟨_,_,_,_,h,_⟩
  · cases h
  · exact h.2
theorem own_off {d b off len cap n : Nat} {H : AHeap} {u : AV} {fp : List Nat} (h : OwnX false (d + 1) H (.slice b off len cap n) u fp) : off = 0:=by
  simp only [OwnX] at h
  rcases h with ⟨h,_⟩ | ⟨_,_,_,_,_,h,_⟩
  · cases h
  · exact (h trivial).1
theorem splice_off {cs ys : List AV} {off p : Nat} (h : off + p + ys.length ≤ cs.length) : (splice cs (off + p) ys).drop off = splice (cs.drop off) p ys:=by
  unfold splice
  rw [List.append_assoc,List.drop_append_of_le_length (by simp; omega),List.append_assoc,List.drop_drop,List.drop_take,Nat.add_sub_cancel_left,Nat.add_assoc]
def DelPost (H0 : AHeap) (m d : Nat) (s : Sl Spanner) (ids : List ID) (fp : List Nat) (v : AV) (H' : AHeap) : Prop :=
  ∃ fp',OwnX false (d + 2) H' v (slm Spanner.enc (s.map fun l => l.filter fun x => !badSp ids x)) fp'∧(∀ c ∈ fp',c ∈ fp)∧(∀ c,c ∉ fp→c < H0.next→H'.cells c = H0.cells c)∧H'.map m = some (idsOf ids)∧H0.next ≤ H'.next
theorem del_fin {H0 H' : AHeap} {m d b off cap : Nat} {l : List Spanner} {ids : List ID} {fp : List Nat} {cs : List AV} (hb : H'.cells b = some cs) (hbf : b ∈ fp) (hl : off + (l.filter fun x => !badSp ids x).length * 7 ≤ cs.length) (hcap : (l.filter fun x => !badSp ids x).length ≤ cap) (hoff : off = 0)
    (ht : (cs.drop off).take ((l.filter fun x => !badSp ids x).length * 7) = (l.filter fun x => !badSp ids x).flatMap fun x => x.enc.cells) (hk : ∀ c,c ∉ fp→c < H0.next→H'.cells c = H0.cells c) (hm : H'.map m = some (idsOf ids)) (hn : H0.next ≤ H'.next) :
    DelPost H0 m d (some l) ids fp (.slice b off (l.filter fun x => !badSp ids x).length cap 7) H':=by
  · refine ⟨[b],?_,fun c hc => by simp only [List.mem_singleton] at hc; subst hc; exact hbf,hk,hm,hn⟩
    refine .inr ⟨cs,(l.filter fun x => !badSp ids x).flatMap fun x => x.enc.cells,[],hb,⟨by decide,hcap⟩,(fun _ => ⟨hoff,by decide⟩),hl,?_,by simp,fun h => by omega,?_,rfl⟩
    · rw [ht]
      refine OwnL.scal ?_
      rw [List.all_eq_true]
      intro u hu
      obtain ⟨x,_,hx⟩:=List.mem_flatMap.1 hu
      obtain ⟨y,rfl⟩:=sp_scs x u hx
      rfl
    · rw [Option.map_some]
      show slm Spanner.enc (some _) = _
      rw [rows_map row_Spanner]; rfl
theorem delete_own (hp : pol.pure 70 = false) (hp2 : pol.pure 114 = false) {H0 : AHeap} {bq m d : Nat} {v : AV} {s : Sl Spanner} {fp : List Nat} {ids : List ID} (hv : OwnX false (d + 2) H0 v (slm Spanner.enc s) fp) (hq : H0.cells bq = some [.map m]) (hqb : bq ∉ fp) (hm : H0.map m = some (idsOf ids)) (hl : s.l.length < 1000000) :
    Ev prog pol (.call 69 [v,.func (.func 70) [] [.ptr bq 0]]) H0 fun o H' => ∃ v',o = .val v'∧DelPost H0 m d s ids fp v' H':=by
  refine wpF_ok ok69 (Q:=DelPost H0 m d s ids fp) ?_
  have b2:=h_lt hq
  simp -implicitDefEqProofs (maxDischargeDepth:=12) only [wpF,cf69,WW,List.replicate,e_splice,if_true,if_false,ite_true,ite_false,true_or,ne_eq,seval,h_putc,beq_self_eq_true,eq_self,exists_eq_left,exists_eq_left']
  refine wA_call hp2 ((index_own hp hv hq hm hl).mono fun o H1 h => ?_)
  obtain ⟨rfl,hK,hm1,hn1⟩:=h
  refine ⟨_,rfl,by simp only [k_nil],?_⟩
  have c2:=hK.cells hq b2
  cases hx : s.l.findIdx? (badSp ids) with
  | none =>
    rw [List.findIdx?_eq_none_iff] at hx
    have hr : s.map (fun l => l.filter (fun x => !badSp ids x)) = s:=by
      cases s with
      | none => rfl
      | some l =>
        rw [Option.map_some,List.filter_eq_self.2 fun x h => by simp [hx x h]]
    simp -implicitDefEqProofs (maxDischargeDepth:=12) only [idxAV,WW,List.replicate,e_splice,if_true,if_false,ite_true,ite_false,true_or,ne_eq,seval,h_putc,beq_self_eq_true,eq_self,exists_eq_left,exists_eq_left']
    exact ⟨fp,by rw [hr]; exact hv.keep hK,fun _ h => h,fun c _ h => hK c h,hm1,hn1⟩
  | some i0 =>
    rw [List.findIdx?_eq_some_iff_getElem] at hx
    obtain ⟨hi0,hx1,hx2⟩:=hx
    obtain ⟨y0,hy0⟩ : ∃ y,s.l[i0]? = some y:=⟨_,List.getElem?_eq_getElem (by omega)⟩
    have hs : s = some s.l:=by cases s with
      | none => simp [Sl.l] at hi0
      | some l => rfl
    generalize hll : s.l = l at *
    subst hs
    obtain ⟨b,off,cap,cs,rfl,hb,hle,hbf,-⟩:=own_sp hv hy0
    simp only [l_some] at *
    have hcap:=own_cap hv
    have hoff:=own_off hv
    have he : ∀ (i : Nat) x,l[i]? = some x→(cs.drop (off + i * 7)).take 7 = x.enc.cells:=fun i x hx => by
      obtain ⟨b',off',cap',cs',e,e1,e2,e3,e4⟩:=own_sp hv (x:=x) (i:=i) hx
      simp only [l_some,AV.slice.injEq,true_and,and_true] at e
      obtain ⟨rfl,rfl,rfl⟩:=e
      rw [hb] at e1; cases e1
      exact e4
    have hpre : ∀ i,i ≤ l.length→(cs.drop off).take (i * 7) = (l.take i).flatMap fun x => x.enc.cells:=by
      intro i
      induction i with
      | zero => intro _; simp
      | succ i ih =>
        intro hi
        obtain ⟨y,hy⟩ : ∃ y,l[i]? = some y:=⟨_,List.getElem?_eq_getElem (by omega)⟩
        rw [List.take_add_one,hy,List.flatMap_append,← ih (by omega),Nat.succ_mul,List.take_add,List.drop_drop,he i y hy]
        simp
    have b1:=h_lt hb
    have c1:=hK.cells hb b1
    have hqb' : bq ≠ b:=fun e => hqb (e ▸ hbf)
    have e0 : ¬ ((i0 : Int) = -1):=by omega
    have e1 : IntKind.i64.wrap ((i0 : Int) + 1) = ((i0 + 1 : Nat) : Int):=by rw [w64 (by omega) (by omega)]; omega
    simp -implicitDefEqProofs (maxDischargeDepth:=12) only [idxAV,WW,List.replicate,e_splice,if_true,if_false,ite_true,ite_false,true_or,ne_eq,seval,h_putc,beq_self_eq_true,eq_self,exists_eq_left,exists_eq_left',e0,e1]
    have hf0 : (l.take (i0 + 1)).filter (fun x => !badSp ids x) = l.take i0:=by
      rw [List.take_add_one,List.getElem?_eq_getElem hi0,List.filter_append,List.filter_eq_self.2 (fun x h => ?_)]
      · simp [hx1]
      · obtain ⟨j,hj⟩:=List.getElem?_of_mem h
        rw [List.getElem?_take] at hj
        split at hj
        · rename_i hji
          have:=hx2 j hji
          rw [(List.getElem?_eq_some_iff.1 hj).2] at this
          simpa using this
        · cases hj
    refine wp_loop (Inv:=fun k t H => ∃ (i j : Nat) (cs' : List AV),j + k = l.length∧i < j∧i = ((l.take j).filter (fun x => !badSp ids x)).length∧H.cells b = some cs'∧cs'.length = cs.length∧(cs'.drop off).take (i * 7) = (((l.take j).filter (fun x => !badSp ids x)).flatMap fun x => x.enc.cells)∧(∀ q,off + j * 7 ≤ q→cs'.drop q = cs.drop q)∧(∀ c,c ≠ b→c < H0.next→H.cells c = H0.cells c)∧H.map m = some (idsOf ids)∧H0.next ≤ H.next ∧
      ∃ x : Nat→AV,t = [.slice b off l.length cap 7,.func (.func 70) [] [.ptr bq 0],x 2,x 3,x 4,.sc (.int .i64 i),.sc (.int .i64 j),x 7,x 8,x 9,x 10,x 11,x 12,x 13,x 14,x 15,x 16,x 17,x 18,x 19,x 20,x 21,x 22,x 23,x 24,x 25,x 26,x 27,x 28,x 29,x 30,x 31,x 32,x 33,x 34,x 35,x 36,x 37,x 38,x 39,x 40,x 41]) (k:=l.length - (i0 + 1)) ?_
      ⟨i0,i0 + 1,cs,by omega,by omega,by rw [hf0,List.length_take]; omega,c1,rfl,by rw [hf0]; exact hpre _ (by omega),fun _ _ => rfl,fun c _ h => hK c h,hm1,hn1,ex_x rfl⟩
    clear hf0 hx2 hx1 e0 e1 hm1 hn1 c1 c2
    rintro k t H ⟨i,j,cs',hk,hij,hi,hb',hlen',htk,hdr,hkeep,hm',hn',x,rfl⟩
    have c2 : H.cells bq = some [.map m]:=(hkeep bq hqb' b2).trans hq
    by_cases h1 : (j : Int) < (l.length : Int)
    · obtain ⟨y,hy⟩ : ∃ y,l[j]? = some y:=⟨_,List.getElem?_eq_getElem (by omega)⟩
      have h1n : j < l.length:=by omega
      have e2 : IntKind.i64.wrap ((j : Int) + 1) = ((j + 1 : Nat) : Int):=by rw [w64 (by omega) (by omega)]; omega
      have e3 : IntKind.i64.wrap ((i : Int) + 1) = ((i + 1 : Nat) : Int):=by rw [w64 (by omega) (by omega)]; omega
      have he3 : off + j * 7 + 7 ≤ cs'.length:=by rw [hlen']; omega
      have he4 : (cs'.drop (off + j * 7)).take 7 = y.enc.cells:=by rw [hdr _ (Nat.le_refl _)]; exact he j y hy
      have o1 : y.enc.cells.length = 7:=Spanner.enc_len y
      have o2 : AV.ones y.enc.cells = true:=rfl
      have o4 : List.take 7 y.enc.cells = y.enc.cells:=rfl
      have nb : ¬ (b = H.next):=by have:=h_lt hb'; omega
      have ml : m < H.next:=by
        refine Nat.lt_of_not_le fun h => ?_
        have : H.get m = none:=AHeap.get_ge h
        simp [AHeap.map,this] at hm'
      simp -implicitDefEqProofs (maxDischargeDepth:=12) only [WW,List.replicate,e_splice,if_true,if_false,ite_true,ite_false,true_or,ne_eq,seval,h_putc,beq_self_eq_true,eq_self,exists_eq_left,exists_eq_left',h1,h1n,hb',he3,he4,o1,o2,o4]
      rw [show callvOf prog (.func (.func 70) [] [.ptr bq 0]) [AV.agg y.enc.cells] = some (.call 70 [y.enc,.ptr bq 0]) from rfl]
      generalize hH2 : AHeap.put _ _ _ = H2
      have ek : ∀ c,c < H.next→H2.get c = H.get c:=fun c hc => by
        rw [← hH2,AHeap.get_put_ne _ _ (show c ≠ H.next by omega),AHeap.get_alloc_ne _ _ (show c ≠ H.next by omega)]
      have en : H.next < H2.next:=by rw [← hH2,AHeap.next_put,AHeap.next_alloc]; omega
      have es : H2.cells H.next = some y.enc.cells:=by
        rw [← hH2]
        refine h_put_self (y:=List.replicate 7 (.sc (.int .i64 0))) ?_
        simp -implicitDefEqProofs (maxDischargeDepth:=12) only [WW,List.replicate,e_splice,if_true,if_false,ite_true,ite_false,true_or,ne_eq,seval,h_putc,beq_self_eq_true,eq_self,exists_eq_left,exists_eq_left',List.replicate]
      have d1 : H2.cells bq = some [.map m]:=by rw [cells_of_get (ek _ (h_lt c2))]; exact c2
      have d2 : H2.cells b = some cs':=by rw [cells_of_get (ek _ (h_lt hb'))]; exact hb'
      have d3 : H2.map m = some (idsOf ids):=by rw [AHeap.map,ek _ ml]; exact hm'
      refine wA_call hp ((prune1_ok d1 d3 y).mono fun o H3 h => ?_)
      obtain ⟨rfl,hK2,hm3,hn3⟩:=h
      refine ⟨_,rfl,by simp only [k_nil],?_⟩
      have g1:=hK2.cells d2 (h_lt d2)
      have g2:=hK2.cells es en
      have g3 : ∀ c,c ≠ b→c < H0.next→H3.cells c = H0.cells c:=fun c hc hc2 => by
        rw [hK2 c (by omega),cells_of_get (ek c (by omega)),hkeep c hc hc2]
      rw [show (!decide (y.from_ ∈ ids) || !decide (y.to ∈ ids)) = badSp ids y from rfl]
      have hf1 : (l.take (j + 1)).filter (fun x => !badSp ids x) = (l.take j).filter (fun x => !badSp ids x) ++ (if badSp ids y then [] else [y]):=by
        rw [List.take_add_one,hy,List.filter_append]
        cases h : badSp ids y <;> simp [h]
      cases hbb : badSp ids y with
      | true =>
        rw [hbb,if_pos rfl,List.append_nil] at hf1
        simp -implicitDefEqProofs (maxDischargeDepth:=12) only [WW,List.replicate,e_splice,if_true,if_false,ite_true,ite_false,true_or,ne_eq,seval,h_putc,beq_self_eq_true,eq_self,exists_eq_left,exists_eq_left',e2]
        exact ⟨k - 1,by omega,i,j + 1,cs',by omega,by omega,by rw [hf1]; exact hi,g1,hlen',by rw [hf1]; exact htk,fun q hq => hdr q (by omega),g3,hm3,by omega,ex_x rfl⟩
      | false =>
        rw [hbb,if_neg Bool.false_ne_true] at hf1
        have hin : i < l.length:=by omega
        have hib : off + i * 7 + 7 ≤ cs'.length:=by rw [hlen']; omega
        have q1:=splice_len2 (cs:=cs') (ys:=y.enc.cells) (o:=off + i * 7) (by rw [o1]; exact hib)
        have q2 : ((splice cs' (off + i * 7) y.enc.cells).drop off).take (i * 7 + 7) = (cs'.drop off).take (i * 7) ++ y.enc.cells:=by
          rw [splice_off (by rw [o1]; exact hib)]
          have:=splice_take (cs:=cs'.drop off) (ys:=y.enc.cells) (o:=i * 7) (by rw [o1,List.length_drop]; omega)
          rwa [o1] at this
        have q3 : ∀ q,off + (j + 1) * 7 ≤ q→(splice cs' (off + i * 7) y.enc.cells).drop q = cs.drop q:=fun q hq => by
          rw [splice_drop (by rw [o1]; exact hib) (by rw [o1]; omega),hdr q (by omega)]
        simp -implicitDefEqProofs (maxDischargeDepth:=12) only [WW,List.replicate,if_true,if_false,ite_true,ite_false,true_or,ne_eq,seval,beq_self_eq_true,eq_self,exists_eq_left,exists_eq_left',e2,e3,g1,g2,o1,o2,o4,hin,hib]
        have mb : m ≠ b:=fun h => by
          subst h
          have a:=hm3
          have c:=g1
          unfold AHeap.map at a
          unfold AHeap.cells at c
          cases hg : H3.get m with
          | none => simp [hg] at a
          | some v => cases v <;> simp [hg] at a c
        refine ⟨k - 1,by omega,i + 1,j + 1,_,by omega,by omega,?_,h_put_self g1,q1.trans hlen',?_,q3,fun c hc h2 => by rw [h_put_ne hc]; exact g3 c hc h2,?_,by omega,ex_x rfl⟩
        · rw [hf1,List.length_append]; simp only [List.length_cons,List.length_nil]; omega
        · rw [hf1,List.flatMap_append,← htk,show (i + 1) * 7 = i * 7 + 7 by omega,q2]; simp
        · rw [AHeap.map,AHeap.get_put_ne _ _ mb]; exact hm3
    · have hj : j = l.length:=by omega
      subst hj
      rw [List.take_length] at hi htk
      have hil : i ≤ l.length:=by omega
      have h0 : ¬ (l.length - i = 0):=by omega
      have h2 : ¬ (i = cap):=by omega
      have h3 : ¬ (0 = cap):=by omega
      have h4 : i ≤ cap:=by omega
      have hz2 : off + i * 7 + (l.length - i) * 7 ≤ cs'.length:=by rw [hlen']; omega
      have hr : ∀ z : List AV,z.length = 7→off + i * 7 + (rep (l.length - i) z).length ≤ cs'.length:=fun z hz => by rw [rep_len,hz]; exact hz2
      have mb : m ≠ b:=fun h => by
        subst h
        have a:=hm'
        have c:=hb'
        unfold AHeap.map at a
        unfold AHeap.cells at c
        cases hg : H.get m with
        | none => simp [hg] at a
        | some v => cases v <;> simp [hg] at a c
      simp -implicitDefEqProofs (maxDischargeDepth:=12) only [WW,List.replicate,if_true,if_false,ite_true,ite_false,true_or,ne_eq,seval,beq_self_eq_true,eq_self,exists_eq_left,exists_eq_left',s_clr,clrTo,h1,hil,h0,hb',hz2,hcap,h2,h3,h4]
      have hx' : ∀ z : List AV,z.length = 7→DelPost H0 m d (some l) ids fp (.slice b off i cap 7) (H.put b (some (.cells (splice cs' (off + i * 7) (rep (l.length - i) z))))):=fun z hz => by
        rw [hi]
        rw [← hi]
        have:=del_fin (H0:=H0) (H':=H.put b (some (.cells (splice cs' (off + i * 7) (rep (l.length - i) z))))) (m:=m) (d:=d) (b:=b) (off:=off) (cap:=cap) (l:=l) (ids:=ids) (fp:=fp) (h_put_self hb') hbf (by rw [← hi,splice_len2 (hr _ hz)]; omega) (by rw [← hi]; exact h4) hoff
          (by rw [← hi,splice_off (hr _ hz),splice_take0 (by rw [rep_len,hz,List.length_drop]; omega) (Nat.le_refl _)]; exact htk)
          (fun c hc h2 => by
            have hcb : c ≠ b:=fun e => hc (e.symm ▸ hbf)
            rw [h_put_ne hcb]; exact hkeep c hcb h2) (by rw [AHeap.map,AHeap.get_put_ne _ _ mb]; exact hm') (by rw [AHeap.next_put]; exact hn')
        rw [← hi] at this
        exact this
      exact hx' _ rfl
end Go.Hem
namespace Go.Hem
theorem objVoices_cl (m c : Nat) : ∀ (l : List Voice) (v : Nat),objVoices m c v (l.map Voice.cl) = objVoices m c v l
  | [],_ => rfl
  | x :: l,v => by
    have e : x.cl.events.l = x.events.l:=l_of
    simp only [List.map_cons,objVoices,objVoices_cl m c l,e]
theorem objCells_cl (m : Nat) : ∀ (l : List Cell) (c : Nat),objCells m c (l.map Cell.cl) = objCells m c l
  | [],_ => rfl
  | x :: l,c => by
    have e : x.cl.voices.l = x.voices.l.map Voice.cl:=l_of
    simp only [List.map_cons,objCells,objCells_cl m l,e,objVoices_cl]
theorem objMeasures_cl : ∀ (l : List Measure) (m : Nat),objMeasures m (l.map Measure.cl) = objMeasures m l
  | [],_ => rfl
  | x :: l,m => by
    have e : x.cl.cells.l = x.cells.l.map Cell.cl:=l_of
    have e2 : oMeasure m x.cl = oMeasure m x:=rfl
    simp only [List.map_cons,objMeasures,objMeasures_cl l,e,e2,objCells_cl]
theorem objs_cl (s : Score) : objs s.cl = objs s:=by
  have e : s.cl.measures.l = s.measures.l.map Measure.cl:=rfl
  have e2 : s.cl.parts.l = s.parts.l:=rfl
  have e3 : s.cl.spanners = s.spanners:=rfl
  unfold objs
  rw [e,e2,e3,objMeasures_cl]
theorem map_at {α β : Type} {f : α→β} {l : List α} {i : Nat} {y : β} (h : (l.map f)[i]? = some y) : ∃ x,l[i]? = some x∧y = f x:=by
  rw [List.getElem?_map] at h
  cases hx : l[i]? with
  | none => rw [hx] at h; cases h
  | some x => rw [hx] at h; cases h; exact ⟨x,rfl,rfl⟩
theorem Tame_cl {s : Score} (h : Tame s) : Tame s.cl:=by
  have e : s.cl.measures.l = s.measures.l.map Measure.cl:=rfl
  have ec : ∀ y : Measure,y.cl.cells.l = y.cells.l.map Cell.cl:=fun y => l_of
  have ev : ∀ y : Cell,y.cl.voices.l = y.voices.l.map Voice.cl:=fun y => l_of
  have ee : ∀ y : Voice,y.cl.events.l = y.events.l:=fun y => l_of
  refine ⟨by rw [objs_cl]; exact h.objs,h.staves,h.parts,by rw [e,List.length_map]; exact h.measures,h.spanners,fun m y hy => ?_,fun m y c q hy hq => ?_,fun m y c q v z hy hq hz => ?_⟩
  · rw [e] at hy
    obtain ⟨y0,h0,rfl⟩:=map_at hy
    rw [ec,List.length_map]; exact h.cells _ _ h0
  · rw [e] at hy
    obtain ⟨y0,h0,rfl⟩:=map_at hy
    rw [ec] at hq
    obtain ⟨q0,h1,rfl⟩:=map_at hq
    rw [ev,List.length_map]; exact h.voices _ _ _ _ h0 h1
  · rw [e] at hy
    obtain ⟨y0,h0,rfl⟩:=map_at hy
    rw [ec] at hq
    obtain ⟨q0,h1,rfl⟩:=map_at hq
    rw [ev] at hz
    obtain ⟨z0,h2,rfl⟩:=map_at hz
    rw [ee]; exact h.events _ _ _ _ _ _ h0 h1 h2
def Score.evId (a : Score) : Pos→Option ID
  | .event m c v e => ((((a.measures.l[m]?).bind fun y => y.cells.l[c]?).bind fun q => q.voices.l[v]?).bind fun z => z.events.l[e]?).map (·.id)
  | _ => none
def evO (o : O) : Option ID:=if o.place.kind = 4 then some o.id else none
theorem isEv_iff {l : List O} {id : ID} : isEv l id = true ↔ id ∈ l.filterMap evO:=by
  simp only [isEv,List.any_eq_true,List.mem_filterMap,Bool.and_eq_true,decide_eq_true_eq,evO]
  constructor
  · rintro ⟨o,h1,h2,h3⟩; exact ⟨o,h1,by rw [if_pos h2,h3]⟩
  · rintro ⟨o,h1,h2⟩
    split at h2
    · rename_i h; cases h2; exact ⟨o,h1,h,rfl⟩
    · cases h2
section
variable (a : Score)
theorem ev_staves (i : Nat) : ∀ (l : List Staff) (k st : Nat),(posStaves i k st l).filterMap a.evId = []∧(objStaves st l).filterMap evO = []
  | [],_,_ => ⟨rfl,rfl⟩
  | x :: l,k,st => by
    obtain ⟨h1,h2⟩:=ev_staves i l (k + 1) (st + 1)
    constructor
    · rw [posStaves,List.filterMap_cons,h1]; rfl
    · rw [objStaves,List.filterMap_cons,h2]; rfl
theorem ev_parts : ∀ (l : List Part) (i st : Nat),(posParts i st l).filterMap a.evId = []∧(objParts i st l).filterMap evO = []
  | [],_,_ => ⟨rfl,rfl⟩
  | x :: l,i,st => by
    obtain ⟨h1,h2⟩:=ev_parts l (i + 1) (st + x.staves.l.length)
    constructor
    · rw [posParts,List.filterMap_cons,List.filterMap_append,h1,(ev_staves a i _ _ _).1]; rfl
    · rw [objParts,List.filterMap_cons,List.filterMap_append,h2,(ev_staves a i x.staves.l 0 st).2]; rfl
theorem ev_spanners : ∀ (l : List Spanner) (i : Nat),(posSpanners i l).filterMap a.evId = []∧(objSpanners i l).filterMap evO = []
  | [],_ => ⟨rfl,rfl⟩
  | x :: l,i => by
    obtain ⟨h1,h2⟩:=ev_spanners l (i + 1)
    constructor
    · rw [posSpanners,List.filterMap_cons,h1]; rfl
    · rw [objSpanners,List.filterMap_cons,h2]; rfl
theorem ev_events (m c v : Nat) : ∀ (r : List Event) (e : Nat),(∀ (i : Nat) x,r[i]? = some x→a.evId (.event m c v (e + i)) = some x.id)→(posEvents m c v e r).filterMap a.evId = (objEvents m c v e r).filterMap evO
  | [],_,_ => rfl
  | x :: r,e,h => by
    have ih:=ev_events m c v r (e + 1) fun i y hy => by rw [Nat.add_right_comm,Nat.add_assoc]; exact h (i + 1) y (by simpa using hy)
    have h0:=h 0 x rfl
    rw [Nat.add_zero] at h0
    rw [posEvents,objEvents,List.filterMap_cons,List.filterMap_cons,h0,ih]; rfl
theorem ev_voices (m c : Nat) : ∀ (r : List Voice) (v : Nat),(∀ (i : Nat) x,r[i]? = some x→∀ (j : Nat) w,x.events.l[j]? = some w→a.evId (.event m c (v + i) j) = some w.id)→(posVoices m c v r).filterMap a.evId = (objVoices m c v r).filterMap evO
  | [],_,_ => rfl
  | x :: r,v,h => by
    have ih:=ev_voices m c r (v + 1) fun i y hy => by rw [Nat.add_right_comm,Nat.add_assoc]; exact h (i + 1) y (by simpa using hy)
    have h0:=ev_events a m c v x.events.l 0 fun j w hw => by rw [Nat.zero_add]; exact h 0 x rfl j w hw
    rw [posVoices,objVoices,List.filterMap_append,List.filterMap_append,h0,ih]
theorem ev_cells (m : Nat) : ∀ (r : List Cell) (c : Nat),(∀ (k : Nat) y,r[k]? = some y→∀ (i : Nat) x,y.voices.l[i]? = some x→∀ (j : Nat) w,x.events.l[j]? = some w→a.evId (.event m (c + k) i j) = some w.id)→(posCells m c r).filterMap a.evId = (objCells m c r).filterMap evO
  | [],_,_ => rfl
  | x :: r,c,h => by
    have ih:=ev_cells m r (c + 1) fun i y hy => by rw [Nat.add_right_comm,Nat.add_assoc]; exact h (i + 1) y (by simpa using hy)
    have h0:=ev_voices a m c x.voices.l 0 fun j w hw k z hz => by rw [Nat.zero_add]; exact h 0 x rfl j w hw k z hz
    rw [posCells,objCells,List.filterMap_append,List.filterMap_append,h0,ih]
theorem ev_measures : ∀ (r : List Measure) (m : Nat),(∀ (q : Nat) z,r[q]? = some z→∀ (k : Nat) y,z.cells.l[k]? = some y→∀ (i : Nat) x,y.voices.l[i]? = some x→∀ (j : Nat) w,x.events.l[j]? = some w→a.evId (.event (m + q) k i j) = some w.id)→(posMeasures m r).filterMap a.evId = (objMeasures m r).filterMap evO
  | [],_,_ => rfl
  | x :: r,m,h => by
    have ih:=ev_measures r (m + 1) fun i y hy => by rw [Nat.add_right_comm,Nat.add_assoc]; exact h (i + 1) y (by simpa using hy)
    have h0:=ev_cells a m x.cells.l 0 fun j w hw k z hz k2 z2 hz2 => by rw [Nat.zero_add]; exact h 0 x rfl j w hw k z hz k2 z2 hz2
    rw [posMeasures,objMeasures,List.filterMap_cons,List.filterMap_cons,List.filterMap_append,List.filterMap_append,h0,ih]; rfl
theorem ev_poss : (poss a).filterMap a.evId = (objs a).filterMap evO:=by
  unfold poss objs
  simp only [List.filterMap_append,(ev_parts a _ _ _).1,(ev_parts a _ _ _).2,(ev_spanners a _ _).1,(ev_spanners a _ _).2]
  congr 2
  refine ev_measures a _ _ fun q z hz k y hy i x hx j w hw => ?_
  simp only [Nat.zero_add,Score.evId,hz,hy,hx,hw,Option.bind_some,Option.map_some]
end
theorem idAt_event {a : Score} {m c v e : Nat} {id : ID} {g : ID→Score} (h : IdAt a (.event m c v e) id g) : a.evId (.event m c v e) = some id:=by
  cases h with
  | event h1 h2 h3 h4 => simp only [Score.evId,h1,h2,h3,h4,Option.bind_some,Option.map_some]
def Score.pr (s : Score) : Score:={ s.cl with spanners:=s.spanners.map fun l => l.filter fun x => isEv (objs s) x.from_ && isEv (objs s) x.to }
theorem Score.pr_cn (s : Score) : s.pr.cn = s.pruned.cn:=by
  have h:=s.cl_cn
  have e1 : s.pr.spanners.l = s.spanners.l.filter fun x => isEv (objs s) x.from_ && isEv (objs s) x.to:=by
    show Sl.l (s.spanners.map _) = _
    cases s.spanners <;> rfl
  have e2 : s.pruned.spanners.l = s.spanners.l.filter fun x => isEv (objs s) x.from_ && isEv (objs s) x.to:=l_of
  unfold Score.cn at h ⊢
  rw [e1,e2]
  simp only [Score.mk.injEq] at h
  obtain ⟨h1,h2,h3,h4,h5,h6⟩:=h
  show Score.mk _ _ _ _ _ _ = Score.mk _ _ _ _ _ _
  rw [Score.mk.injEq]
  exact ⟨h1,h2,h3,h4,rfl,h6⟩
end Go.Hem
namespace Go.Hem
variable {pol : Pol}
end Go.Hem
namespace Go.Hem
variable {pol : Pol}
theorem callee110 (args : List AV) : acallee prog 110 args = some (.call 110 args):=by kernel_rfl
theorem visit0_ok (H : AHeap) (v : AV) (hv : v.one = true) (hc : v.cells = [v]) {Q : Out→AHeap→Prop} (h : Q (.val (.func (.func 110) [] [.ptr H.next 0])) (H.alloc (.cells [v]))) : Ev prog pol (.call 63 [v]) H Q:=by
  refine (wpF_ok ok63 (Q:=fun u H' => u = .func (.func 110) [] [.ptr H.next 0]∧H' = H.alloc (.cells [v])) ?_).mono ?_
  · simp -implicitDefEqProofs (maxDischargeDepth:=12) only [wpF,cf63,WW,List.replicate,e_splice,if_true,if_false,ite_true,ite_false,true_or,ne_eq,seval,h_putc,beq_self_eq_true,eq_self,exists_eq_left,exists_eq_left',hv,hc]
  · rintro o H' ⟨u,rfl,rfl,rfl⟩; exact h
end Go.Hem
namespace Go.Hem
variable {pol : Pol}
theorem o_map {b : Nat} : AV.one (.map b) = true:=rfl
theorem c_map {b : Nat} : AV.cells (.map b) = [.map b]:=rfl
theorem splice_full {z cs : List AV} (h : z.length = cs.length) : splice z 0 cs = cs:=by
  unfold splice
  rw [List.take_zero,List.nil_append,List.drop_of_length_le (by omega),List.append_nil]
theorem map_of_get {H H' : AHeap} {b : Nat} (h : H'.get b = H.get b) : H'.map b = H.map b:=by unfold AHeap.map; rw [h]
theorem get_of_map {H : AHeap} {b : Nat} {l : List (AV × AV)} (h : H.map b = some l) : H.get b = some (.map l):=by
  unfold AHeap.map at h
  split at h
  · rename_i q; cases h; exact q
  · cases h
theorem get_two {cs : List AV} {off : Nat} {x y : AV} (h1 : cs[off]? = some x) (h2 : cs[off + 1]? = some y) : (cs.drop off).take 2 = [x,y]:=by
  obtain ⟨l1,e1⟩:=List.getElem?_eq_some_iff.1 h1
  obtain ⟨l2,e2⟩:=List.getElem?_eq_some_iff.1 h2
  rw [List.drop_eq_getElem_cons l1,List.take_succ_cons,List.drop_eq_getElem_cons l2,List.take_succ_cons,List.take_zero,e1,e2]
def PrPol (pol : Pol) : Prop:=ClPol pol∧pol.pure 63 = false∧pol.pure 69 = false∧pol.pure 70 = false∧pol.pure 114 = false
theorem prune_pv (hp : PrPol pol) (s : Score) (hx : s.tame) (hT : Tame s) : Pv prog pol 29 [s.enc] (s.pr.enc):=by
  obtain ⟨hc,hp63,hp69,hp70,hp114⟩:=hp
  refine Pv_of' ok29 (by simp only [AV.closedBs,Score.enc_closed,Bool.and_self]) ?_
  simp -implicitDefEqProofs (maxDischargeDepth:=12) only [wpF,cf29,WW,List.replicate,e_splice,if_true,if_false,ite_true,ite_false,true_or,ne_eq,seval,h_putc,beq_self_eq_true,eq_self,exists_eq_left,exists_eq_left',s.enc_eq]
  rw [← s.enc_eq]
  refine wA_call (hc _ (by decide)) ((sClone_ok hc s hx _).mono ?_)
  rintro o H1 ⟨cs,fp,rfl,ho,hl,hones,hF,hN,hK⟩
  refine ⟨_,rfl,by simp only [k_nil],?_⟩
  simp -implicitDefEqProofs (maxDischargeDepth:=12) only [WW,List.replicate,e_splice,if_true,if_false,ite_true,ite_false,true_or,ne_eq,seval,h_putc,beq_self_eq_true,eq_self,exists_eq_left,exists_eq_left'] at hF hN
  have g1 : H1.cells 1 = some [.sc (.str ⟨#[]⟩),.sc (.bool false),.sc .nils,.sc .nils,.sc .nils,.sc .nils]:=(hK 1 (show 1 < 2 by decide)).trans (by simp -implicitDefEqProofs (maxDischargeDepth:=12) only [WW,List.replicate,e_splice,if_true,if_false,ite_true,ite_false,true_or,ne_eq,seval,h_putc,beq_self_eq_true,eq_self,exists_eq_left,exists_eq_left'])
  generalize hq : H1.next = q
  have hq2 : 2 ≤ q:=by rw [← hq]; exact hN
  have hlt:=ho.lts
  have hsp : splice [.sc (.str ⟨#[]⟩),.sc (.bool false),.sc .nils,.sc .nils,.sc .nils,.sc .nils] 0 cs = cs:=splice_full hl.symm
  simp -implicitDefEqProofs (maxDischargeDepth:=12) only [WW,List.replicate,if_true,if_false,ite_true,ite_false,true_or,ne_eq,seval,beq_self_eq_true,eq_self,exists_eq_left,exists_eq_left',hones,hl,s_mkmap,hq,hsp,o_map,c_map]
  generalize hH2 : AHeap.put _ (q + 1 + 1) _ = H2
  have n2 : H2.next = q + 3:=by subst hH2; simp only [AHeap.next_put,AHeap.next_alloc,hq]
  have a0 : ∀ b,b < q→H2.cells b = H1.cells b:=fun b hb => by
    subst hH2
    rw [c_put_ne (by omega),c_alloc_ne (by simp only [AHeap.next_put,AHeap.next_alloc,hq]; omega),c_alloc_ne (by simp only [AHeap.next_put,AHeap.next_alloc,hq]; omega),c_put_ne (by omega),c_alloc_ne (by omega)]
  have aq : H2.cells q = some cs:=by
    subst hH2
    rw [c_put_ne (by omega),c_alloc_ne (by simp only [AHeap.next_put,AHeap.next_alloc,hq]; omega),c_alloc_ne (by simp only [AHeap.next_put,AHeap.next_alloc,hq]; omega)]
    refine h_put_self (y:=[.sc (.str ⟨#[]⟩),.sc (.bool false),.sc .nils,.sc .nils,.sc .nils,.sc .nils]) ?_
    rw [h_alloc,if_pos hq.symm]
  have am : H2.map (q + 1) = some []:=by
    subst hH2
    rw [AHeap.map,g_put_ne (by omega),g_alloc_ne (by simp only [AHeap.next_put,AHeap.next_alloc,hq]; omega)]
    have e : q + 1 = ((H1.alloc (Blk.cells [AV.sc (Sc.str { data:=#[] }),AV.sc (Sc.bool false),AV.sc Sc.nils,AV.sc Sc.nils,AV.sc Sc.nils,AV.sc Sc.nils])).put q (some (Blk.cells cs))).next:=by simp only [AHeap.next_put,AHeap.next_alloc,hq]
    rw [e,g_alloc]
  have ab : H2.cells (q + 2) = some [.map (q + 1)]:=by
    subst hH2
    refine h_put_self (y:=[.sc .nilm]) ?_
    rw [h_alloc,if_pos (by simp only [AHeap.next_put,AHeap.next_alloc,hq])]
  clear hH2
  refine wA_call hp63 (visit0_ok _ _ rfl rfl ⟨_,rfl,by simp only [k_nil],?_⟩)
  simp -implicitDefEqProofs (maxDischargeDepth:=12) only [WW,List.replicate,e_splice,if_true,if_false,ite_true,ite_false,true_or,ne_eq,seval,h_putc,beq_self_eq_true,eq_self,exists_eq_left,exists_eq_left',n2]
  refine ev_range rfl (callee110 _) ?_
  intro A B hA hB
  simp -implicitDefEqProofs (maxDischargeDepth:=12) only [WW,List.replicate,e_splice,if_true,if_false,ite_true,ite_false,true_or,ne_eq,seval,h_putc,beq_self_eq_true,eq_self,exists_eq_left,exists_eq_left',n2]
  have hTc:=Tame_cl hT
  have hR : ∀ b ∈ fp,b < q:=fun b hb => by have:=hlt b hb; omega
  have hR2 : ∀ b ∈ fp,2 ≤ b:=hF
  generalize hLB : Blk.loop LoopState.ready none _ [11,12] A B = LB
  refine Ev.mono (visit_own (pol:=pol) s.cl hTc (q + 3 + 1) (q + 3) q fp (fun _ => s.cl) (fun r H => H.cells (q + 3) = some [.ptr q 0]∧(∀ b,b < q + 1→H.cells b = H2.cells b)∧H.get (q + 3 + 1) = some LB∧H.cells (q + 2) = some [.map (q + 1)] ∧
      ∃ l,H.map (q + 1) = some (idsOf l)∧∀ x,(x ∈ l ∨ x ∈ r.filterMap s.cl.evId) ↔ x ∈ (poss s.cl).filterMap s.cl.evId) (fun _ => False) ?_ ?_ ?_) ?_
  · rintro r H ⟨h1,h2,-,-,-⟩
    refine ⟨h1,⟨cs,fp,by rw [h2 q (by omega)]; exact aq,ho.fr fun b hb => ?_,fun _ h => h⟩,SameShape.refl _⟩
    have:=hR b hb
    rw [h2 b (by omega),a0 b this]
  · rintro o r H p ⟨h1,h2,hl,hb,l,hm,hx⟩ ⟨b,off,ds,id,g,rfl,hbR,hds,hl2,hs0,hs1,hI,-⟩
    subst hLB
    have hn:=hg_lt hl
    have hbq:=hR b hbR
    generalize hpl : o.place = pl
    have q1 : ¬ (b = H.next):=by omega
    have q2 : ¬ (H.next = q + 3 + 1):=by omega
    refine ev_round2 (t1:=?t1) (H1:=?H1) hl rfl hA hB ?_ ?_ ?_
    case t1 => exact ((([s.enc,.ptr 0 0,.ptr 1 0,.ptr q 0,.ptr (q + 1 + 1) 0,.sc .undef,.sc .undef,s.enc,.agg cs,.map (q + 1),.func (.func 110) [] [.ptr (q + 3) 0],.sc .undef,.sc .undef,.sc .undef,.sc .undef,.sc .undef,.sc .undef,.sc .undef,.sc .undef,.sc .undef,.sc .undef,.sc .undef,.sc .undef,.sc .undef,.sc .undef,.sc .undef].set 11 pl.enc).set 12 (AV.ptr b off)).set 5 (.ptr H.next 0)) |>.set 6 (.ptr b off)
    case H1 => exact (H.alloc (.cells [.sc (.int .i64 0),.sc (.int .i64 0),.sc (.int .i64 0),.sc (.int .i64 0),.sc (.int .i64 0),.sc (.int .i64 0),.sc (.int .i64 0)])).put H.next (some (.cells pl.enc.cells))
    · simp -implicitDefEqProofs (maxDischargeDepth:=12) only [WW,List.replicate,e_splice,if_true,if_false,ite_true,ite_false,true_or,ne_eq,seval,h_putc,beq_self_eq_true,eq_self,exists_eq_left,exists_eq_left',pl.enc_eq]
    · rw [g_put_ne (by omega),g_alloc_ne (by omega)]; exact hl
    generalize hH3 : AHeap.put (AHeap.alloc H _) _ _ = H3
    have k0 : ∀ c,c ≠ H.next→H3.get c = H.get c:=fun c hc => by subst hH3; rw [g_put_ne hc,g_alloc_ne hc]
    have k1 : H3.cells H.next = some [.sc (.int .i64 pl.kind),.sc (.int .i64 pl.part),.sc (.int .i64 pl.staff),.sc (.int .i64 pl.measure),.sc (.int .i64 pl.voice),.sc (.int .i64 pl.event),.sc (.int .i64 pl.spanner)]:=by
      subst hH3
      exact h_put_self (by rw [h_alloc,if_pos rfl])
    have k2:=(k0 (q + 3 + 1) (by omega)).trans hl
    have k3 : H3.cells b = some ds:=(cells_of_get (k0 b (by omega))).trans hds
    have k4 : H3.cells (q + 1 + 1) = some [.map (q + 1)]:=(cells_of_get (k0 (q + 2) (by omega))).trans hb
    have k5 : H3.map (q + 1) = some (idsOf l):=(map_of_get (k0 (q + 1) (by omega))).trans hm
    have k6 : ∀ c x,c ≠ q + 3 + 1→(H3.put (q + 3 + 1) (some x)).get c = H3.get c:=fun c x hc => g_put_ne hc
    clear hH3
    generalize hH4 : AHeap.put H3 _ _ = H4
    have m0 : ∀ c,c ≠ q + 3 + 1→H4.get c = H3.get c:=fun c hc => by subst hH4; exact g_put_ne hc
    have m1 : H4.get (q + 3 + 1) = some (.loop .busy none [s.enc,.ptr 0 0,.ptr 1 0,.ptr q 0,.ptr (q + 1 + 1) 0,.sc .undef,.sc .undef,s.enc,.agg cs,.map (q + 1),.func (.func 110) [] [.ptr (q + 3) 0],.sc .undef,.sc .undef,.sc .undef,.sc .undef,.sc .undef,.sc .undef,.sc .undef,.sc .undef,.sc .undef,.sc .undef,.sc .undef,.sc .undef,.sc .undef,.sc .undef,.sc .undef] [11,12] A B):=by subst hH4; exact g_put k2
    have m2:=(cells_of_get (m0 H.next (by omega))).trans k1
    have m3:=(cells_of_get (m0 b (by omega))).trans k3
    have m4:=(cells_of_get (m0 (q + 1 + 1) (by omega))).trans k4
    have m5:=(map_of_get (m0 (q + 1) (by omega))).trans k5
    clear hH4
    have fin : ∀ (H5 : AHeap) (l' : List ID) (x : Blk),(∀ c,c ≠ q + 1→c ≠ q + 3 + 1→c ≠ H.next→H5.get c = H.get c)→H5.get (q + 3 + 1) = some x→H5.map (q + 1) = some (idsOf l')→(∀ x,(x ∈ l' ∨ x ∈ r.filterMap s.cl.evId) ↔ x ∈ (poss s.cl).filterMap s.cl.evId) →
      (H5.cells (q + 3) = some [.ptr q 0]∧(∀ b,b < q + 1→H5.cells b = H2.cells b)∧H5.get (q + 3 + 1) = some x∧H5.cells (q + 2) = some [.map (q + 1)]∧∃ l,H5.map (q + 1) = some (idsOf l)∧∀ x,(x ∈ l ∨ x ∈ r.filterMap s.cl.evId) ↔ x ∈ (poss s.cl).filterMap s.cl.evId):=fun H5 l' x e1 e2 e3 e4 =>
      ⟨(cells_of_get (e1 _ (by omega) (by omega) (by omega))).trans h1,fun c hc => (cells_of_get (e1 _ (by omega) (by omega) (by omega))).trans (h2 c hc),e2,(cells_of_get (e1 _ (by omega) (by omega) (by omega))).trans hb,l',e3,e4⟩
    have hid : (ds.drop off).take 2 = [.sc (.int .i64 id.site),.sc (.int .i64 id.number)]:=get_two hs0 hs1
    by_cases hk : pl.kind = 4
    · have hev : s.cl.evId o = some id:=by
        cases o <;> first | exact idAt_event hI | (subst hpl; simp [Pos.place] at hk)
      rw [List.filterMap_cons,hev] at hx
      obtain ⟨l',hp1,hp2⟩:=put_ids m5 id
      simp only [id.enc_eq] at hp1
      simp -implicitDefEqProofs (maxDischargeDepth:=12) only [WW,List.replicate,if_true,if_false,ite_true,ite_false,true_or,ne_eq,seval,beq_self_eq_true,eq_self,exists_eq_left,exists_eq_left',m2,m3,m4,hk,hl2,hid,s_mpup,wA_memM,hp1]
      refine ⟨(g_put_ne (by omega)).trans m1,rfl,fin _ l' _ (fun c c1 c2 c3 => by rw [g_put_ne c2,g_put_ne c1,m0 c c2,k0 c c3]) (g_put ((g_put_ne (by omega)).trans m1)) ?_ fun x => ?_⟩
      · rw [AHeap.map,g_put_ne (by omega),g_put (get_of_map m5)]
      · rw [hp2 x,← hx x]
        simp only [List.mem_cons,or_assoc]
    · have hev : s.cl.evId o = none:=by
        cases o <;> first | rfl | (subst hpl; simp [Pos.place] at hk)
      rw [List.filterMap_cons,hev] at hx
      simp -implicitDefEqProofs (maxDischargeDepth:=12) only [WW,List.replicate,if_true,if_false,ite_true,ite_false,true_or,ne_eq,seval,beq_self_eq_true,eq_self,exists_eq_left,exists_eq_left',m2,hk]
      refine ⟨m1,rfl,fin _ l _ (fun c c1 c2 c3 => by rw [g_put_ne c2,m0 c c2,k0 c c3]) (g_put m1) ?_ hx⟩
      rw [AHeap.map,g_put_ne (by omega)]
      exact m5
  · refine ⟨?_,fun b hb => ?_,?_,?_,[],?_,fun x => by simp⟩
    · rw [c_alloc_ne (by rw [AHeap.next_alloc,n2]; omega),h_alloc,if_pos n2.symm]
    · rw [c_alloc_ne (by rw [AHeap.next_alloc,n2]; omega),c_alloc_ne (by rw [n2]; omega)]
    · have e : q + 3 + 1 = (H2.alloc (.cells [.ptr q 0])).next:=by rw [AHeap.next_alloc,n2]
      rw [e,g_alloc]
    · rw [c_alloc_ne (by rw [AHeap.next_alloc,n2]; omega),c_alloc_ne (by rw [n2]; omega)]; exact ab
    · rw [AHeap.map,g_alloc_ne (by rw [AHeap.next_alloc,n2]; omega),g_alloc_ne (by rw [n2]; omega)]; exact am
  · rintro o H' ⟨v,rfl,⟨h1,h2,hl,hb,l,hm,hx⟩ | h⟩
    rotate_left
    · exact h.elim
    subst hLB
    have hn:=hg_lt hl
    refine ⟨v,rfl,_,_,_,_,_,_,_,hl,by simp,rfl,?_⟩
    generalize hH4 : AHeap.put H' _ _ = H4
    have m0 : ∀ c,c ≠ q + 3 + 1→H4.get c = H'.get c:=fun c hc => by subst hH4; exact g_put_ne hc
    have mn : H4.next = H'.next:=by subst hH4; rw [AHeap.next_put]
    clear hH4
    have ho4 : OwnL (OwnX false 7) H4 cs s.cl.enc.cells fp:=ho.fr fun b hb => by
      have:=hR b hb
      rw [cells_of_get (m0 b (by omega)),h2 b (by omega),a0 b this]
    have hS : H4.cells q = some cs:=by rw [cells_of_get (m0 q (by omega)),h2 q (by omega)]; exact aq
    have h14:=((cells_of_get (m0 1 (by omega))).trans ((h2 1 (by omega)).trans (a0 1 (by omega)))).trans g1
    obtain ⟨v2,v3,v4,v5,f2,f3,f4,f5,rfl,c2,c3,c4,c5,s2,s3,s4,s5⟩:=own6 ho4
    obtain ⟨v,f4,e4,w1,w2,w3⟩:=ho4.fit (j:=4) (u:=slm Spanner.enc s.cl.spanners) rfl
    cases e4
    simp -implicitDefEqProofs (maxDischargeDepth:=12) only [WW,List.replicate,if_true,if_false,ite_true,ite_false,true_or,ne_eq,seval,beq_self_eq_true,eq_self,exists_eq_left,exists_eq_left',hS]
    refine wA_call hp69 ((delete_own (d:=5) hp70 hp114 w1 (bq:=q + 1 + 1) (m:=q + 1) ((cells_of_get (m0 (q + 2) (by omega))).trans hb) (fun h => by have:=hR _ (w2 _ h); omega) ((map_of_get (m0 (q + 1) (by omega))).trans hm) hTc.spanners).mono ?_)
    rintro o H5 ⟨v',rfl,f5,x1,x2,x3,x4,x5⟩
    refine ⟨_,rfl,by simp only [k_nil],?_⟩
    obtain ⟨fp',y1,y2⟩:=w3 v' _ H5 f5 x1 (fun b hb hb2 => x3 b hb2 (by have:=hR b hb; omega)) (fun b hb => .inl (x2 b hb))
    have hfp' : ∀ b ∈ fp',2 ≤ b∧b < q:=fun b hb => by
      rcases y2 b hb with h | ⟨h,_⟩
      · have:=w2 b (x2 b h); exact ⟨hR2 b this,hR b this⟩
      · exact ⟨hR2 b h,hR b h⟩
    have z1:=(x3 q (fun h => by have:=hR _ (w2 _ h); omega) (by omega)).trans hS
    have z2:=(x3 1 (fun h => by have:=hR2 _ (w2 _ h); omega) (by omega)).trans h14
    have hbad : (fun x => !badSp l x) = fun x : Spanner => isEv (objs s) x.from_ && isEv (objs s) x.to:=by
      have key : ∀ x,decide (x ∈ l) = isEv (objs s) x:=fun x => by
        have e : x ∈ l ↔ isEv (objs s) x = true:=by
          rw [isEv_iff,← objs_cl s,← ev_poss,← hx x]
          simp
        cases hb : isEv (objs s) x with
        | true => simp [e.2 hb]
        | false => simp only [decide_eq_false_iff_not]; intro h; rw [e.1 h] at hb; cases hb
      funext x
      simp only [badSp,key,Bool.not_or,Bool.not_not]
    rw [hbad] at y1
    have nq : ¬ 1 = q:=by omega
    simp -implicitDefEqProofs (maxDischargeDepth:=12) only [WW,List.replicate,e_splice,if_true,if_false,ite_true,ite_false,true_or,ne_eq,seval,h_putc,beq_self_eq_true,eq_self,exists_eq_left,exists_eq_left',z1,z2,nq,(own_len c2).2.1,(own_len c3).2.1,(own_len c4).2.1,(own_len c5).2.1,(own_len x1).2.1,(own_len x1).2.2]
    refine OwnX.frz (I:=false) (d:=8) (fp:=fp') ?_ (by decide)
    refine ⟨s.pr.enc.cells,rfl,?_⟩
    refine (show OwnL (OwnX false 7) H5 _ s.pr.enc.cells fp' from y1).fr fun b hb => ?_
    have:=hfp' b hb
    rw [c_put_ne (by omega),c_put_ne (by omega)]
end Go.Hem
namespace Go.Hem
variable {pol : Pol}
section
variable {H : AHeap} {bS : Nat} {R : List Nat}
end
end Go.Hem
namespace Go.Hem
variable {pol : Pol}
def Score.none : Score:=⟨⟨#[]⟩,false,Option.none,Option.none,Option.none,Option.none⟩
def okAV (s : Score) : AV:=.tup [s.enc,.sc (.int .i64 0)]
def erAV (e : Int) : AV:=.tup [Score.none.enc,.sc (.int .i64 e)]
theorem plain_er (e : Int) : (erAV e).plain = true:=rfl
theorem plain_ok (s : Score) : (okAV s).plain = true:=by
  show ([s.enc,AV.sc (.int .i64 0)].all AV.plain2) = true
  simp only [List.all_cons,List.all_nil,s.enc_plain,Bool.true_and,Bool.and_true]; rfl
end Go.Hem
namespace Go.Hem
variable {pol : Pol}
theorem frz_tup {I : Bool} {d : Nat} {H : AHeap} {v u : AV} {fp : List Nat} {x : Sc} (h : OwnX I d H v u fp) (hd : d ≤ 19) : Frz (.tup [v,.sc x]) H (.tup [u,.sc x]):=by
  obtain ⟨H1,h1,h2,_⟩:=freezeV_own (h.mono hd)
  refine ⟨H1,?_,?_⟩
  · have e : ∀ k (l : List AV) H,freezeV (k + 1) (.tup l) H = (freezeL (freezeV k) l H).map fun r => (.tup r.1,r.2):=fun _ _ _ => rfl
    have e2 : ∀ k H,freezeV (k + 1) (.sc x) H = some (.sc x,H):=fun _ _ => rfl
    show freezeV (19 + 1) _ _ = _
    rw [e,freezeL,h1,Option.bind_some,freezeL,e2 18,Option.bind_some,freezeL]; rfl
  · simp only [AV.closedB,AV.closedBs,h2,Bool.and_self]
def Score.gv (s : Score) (st n : Int) : Score:={ s.cl with last:=some (giveL s.last.l st n) }
end Go.Hem
namespace Go.Hem
variable {pol : Pol}
def badM (n : Int) (m : Measure) : Bool:=!decide ((m.cells.l.length : Int) = n)
theorem cne115 {H : AHeap} {b : Nat} {n : Int} (hb : H.cells b = some [.sc (.int .i64 n)]) (x : Measure) :
    Ev prog pol (.call 115 [x.enc,.ptr b 0]) H fun o H' => o = .val (.sc (.bool (badM n x)))∧Keep H.next H H'∧H.next ≤ H'.next:=by
  refine (wpF_ok ok115 (Q:=fun v H' => v = .sc (.bool (badM n x))∧Keep H.next H H'∧H.next ≤ H'.next) ?_).mono ?_
  rotate_left
  · rintro o H' ⟨v,rfl,rfl,h⟩
    exact ⟨rfl,h⟩
  have hbl:=h_lt hb
  have q : ¬ (b = H.next):=by omega
  by_cases h1 : (x.cells.l.length : Int) = n
  · have hbm : badM n x = false:=by simp [badM,h1]
    rw [hbm]
    simp -implicitDefEqProofs (maxDischargeDepth:=12) only [wpF,cf115,WW,List.replicate,e_splice,if_true,if_false,ite_true,ite_false,true_or,ne_eq,seval,h_putc,beq_self_eq_true,eq_self,exists_eq_left,exists_eq_left',x.enc_eq,hb,q,h1]
    exact ⟨(by repeat (first | exact Keep.refl | refine Keep.put (by (try simp only [AHeap.next_alloc,AHeap.next_put]); omega) ?_ | refine Keep.alloc (by (try simp only [AHeap.next_alloc,AHeap.next_put]); omega) ?_)),by omega⟩
  · have hbm : badM n x = true:=by simp [badM,h1]
    rw [hbm]
    simp -implicitDefEqProofs (maxDischargeDepth:=12) only [wpF,cf115,WW,List.replicate,e_splice,if_true,if_false,ite_true,ite_false,true_or,ne_eq,seval,h_putc,beq_self_eq_true,eq_self,exists_eq_left,exists_eq_left',x.enc_eq,hb,q,h1]
    exact ⟨(by repeat (first | exact Keep.refl | refine Keep.put (by (try simp only [AHeap.next_alloc,AHeap.next_put]); omega) ?_ | refine Keep.alloc (by (try simp only [AHeap.next_alloc,AHeap.next_put]); omega) ?_)),by omega⟩
theorem index_meas {H0 : AHeap} {bq f : Nat} {n : Int} {s : Sl Measure} (p : Measure→Bool) (hp : pol.pure f = false) (hcl : ∀ (H : AHeap) x,H.cells bq = some [.sc (.int .i64 n)]→Ev prog pol (.call f [x.enc,.ptr bq 0]) H fun o H' => o = .val (.sc (.bool (p x)))∧Keep H.next H H'∧H.next ≤ H'.next)
    (hcv : ∀ x : Measure,callvOf prog (.func (.func f) [] [.ptr bq 0]) [AV.agg x.enc.cells] = some (.call f [x.enc,.ptr bq 0])) (hq : H0.cells bq = some [.sc (.int .i64 n)]) (hl : s.l.length < 1000000) :
    Ev prog pol (.call 132 [slm Measure.enc s,.func (.func f) [] [.ptr bq 0]]) H0 fun o H' => o = .val (idxAV (s.l.findIdx? p))∧Keep H0.next H0 H'∧H0.next ≤ H'.next:=by
  refine (wpF_ok ok132 (Q:=fun v H' => v = idxAV (s.l.findIdx? p)∧Keep H0.next H0 H'∧H0.next ≤ H'.next) ?_).mono ?_
  rotate_left
  · rintro o H' ⟨v,rfl,rfl,h⟩
    exact ⟨rfl,h⟩
  have b2:=h_lt hq
  simp -implicitDefEqProofs (maxDischargeDepth:=12) only [wpF,cf132,WW,List.replicate,e_splice,if_true,if_false,ite_true,ite_false,true_or,ne_eq,seval,h_putc,beq_self_eq_true,eq_self,exists_eq_left,exists_eq_left']
  refine wp_loop (Inv:=fun k t H => ∃ (i : Nat),i + k = s.l.length∧Keep H0.next H0 H∧H0.next ≤ H.next∧(∀ j x,j < i→s.l[j]? = some x→p x = false) ∧
    ∃ x : Nat→AV,t = [slm Measure.enc s,.func (.func f) [] [.ptr bq 0],x 2,x 3,.sc (.int .i64 0),x 5,slm Measure.enc s,.sc (.int .i64 s.l.length),.sc (.int .i64 i),x 9,x 10,x 11,x 12,x 13,x 14,x 15,x 16,x 17,x 18]) (k:=s.l.length) ?_
    ⟨0,by omega,Keep.refl,Nat.le_refl _,by simp,ex_x rfl⟩
  rintro k t H ⟨i,hk,hK,hn,hbad,x,rfl⟩
  have c2:=hK.cells hq b2
  by_cases h1 : (i : Int) < (s.l.length : Int)
  · obtain ⟨y,hy⟩ : ∃ y,s.l[i]? = some y:=⟨_,List.getElem?_eq_getElem (by omega)⟩
    have e2 : IntKind.i64.wrap ((i : Int) + 1) = ((i + 1 : Nat) : Int):=by rw [w64 (by omega) (by omega)]; omega
    have h1n : i < s.l.length:=by omega
    have hcv':=hcv y
    simp only [y.enc_eq,c_agg] at hcv'
    simp -implicitDefEqProofs (maxDischargeDepth:=12) only [WW,List.replicate,e_splice,if_true,if_false,ite_true,ite_false,true_or,ne_eq,seval,h_putc,beq_self_eq_true,eq_self,exists_eq_left,exists_eq_left',h1,h1n,hy,y.enc_eq]
    rw [hcv',← y.enc_eq]
    refine wA_call hp ((hcl H y c2).mono fun o H' h => ?_)
    obtain ⟨rfl,hK2,hn2⟩:=h
    refine ⟨_,rfl,by simp only [k_nil],?_⟩
    have hK3 : Keep H0.next H0 H':=hK.trans (hK2.le hn)
    cases hbb : p y with
    | true =>
      have hyes : s.l.findIdx? p = some i:=by
        rw [List.findIdx?_eq_some_iff_getElem]
        refine ⟨h1n,by rw [(List.getElem?_eq_some_iff.1 hy).2]; exact hbb,fun j hj => ?_⟩
        have:=hbad j (s.l[j]'(by omega)) hj (List.getElem?_eq_getElem (by omega))
        simp [this]
      simp -implicitDefEqProofs (maxDischargeDepth:=12) only [WW,List.replicate,e_splice,if_true,if_false,ite_true,ite_false,true_or,ne_eq,seval,h_putc,beq_self_eq_true,eq_self,exists_eq_left,exists_eq_left',e2]
      exact ⟨by rw [hyes]; rfl,hK3,by omega⟩
    | false =>
      simp -implicitDefEqProofs (maxDischargeDepth:=12) only [WW,List.replicate,e_splice,if_true,if_false,ite_true,ite_false,true_or,ne_eq,seval,h_putc,beq_self_eq_true,eq_self,exists_eq_left,exists_eq_left',e2]
      refine ⟨k - 1,by omega,i + 1,by omega,hK3,by omega,fun j z hj hz => ?_,ex_x rfl⟩
      by_cases hji : j = i
      · subst hji; rw [hy] at hz; cases hz; exact hbb
      · exact hbad j z (by omega) hz
  · simp -implicitDefEqProofs (maxDischargeDepth:=12) only [WW,List.replicate,e_splice,if_true,if_false,ite_true,ite_false,true_or,ne_eq,seval,h_putc,beq_self_eq_true,eq_self,exists_eq_left,exists_eq_left',h1]
    have hno : s.l.findIdx? p = none:=by
      rw [List.findIdx?_eq_none_iff]
      intro z hz
      obtain ⟨j,hj⟩:=List.getElem?_of_mem hz
      have:=(List.getElem?_eq_some_iff.1 hj).1
      exact hbad j z (by omega) hj
    exact ⟨by rw [hno]; rfl,hK,hn⟩
theorem idx_any {α : Type} {l : List α} {p : α→Bool} : (∃ i : Nat,l.findIdx? p = some i∧l.any p = true) ∨ (l.findIdx? p = none∧l.any p = false):=by
  cases h : l.findIdx? p with
  | some i =>
    rw [List.findIdx?_eq_some_iff_getElem] at h
    obtain ⟨hi,h1,_⟩:=h
    exact .inl ⟨i,rfl,by rw [List.any_eq_true]; exact ⟨_,List.getElem_mem hi,h1⟩⟩
  | none =>
    rw [List.findIdx?_eq_none_iff] at h
    refine .inr ⟨rfl,?_⟩
    rw [List.any_eq_false]
    intro x hx; rw [h x hx]; simp
theorem cont_meas {H0 : AHeap} {bq f : Nat} {n : Int} {s : Sl Measure} (p : Measure→Bool) (h132 : pol.pure 132 = false) (hp : pol.pure f = false) (hcl : ∀ (H : AHeap) x,H.cells bq = some [.sc (.int .i64 n)]→Ev prog pol (.call f [x.enc,.ptr bq 0]) H fun o H' => o = .val (.sc (.bool (p x)))∧Keep H.next H H'∧H.next ≤ H'.next)
    (hcv : ∀ x : Measure,callvOf prog (.func (.func f) [] [.ptr bq 0]) [AV.agg x.enc.cells] = some (.call f [x.enc,.ptr bq 0])) (hq : H0.cells bq = some [.sc (.int .i64 n)]) (hl : s.l.length < 1000000) :
    Ev prog pol (.call 101 [slm Measure.enc s,.func (.func f) [] [.ptr bq 0]]) H0 fun o H' => o = .val (.sc (.bool (s.l.any p)))∧Keep H0.next H0 H'∧H0.next ≤ H'.next:=by
  refine (wpF_ok ok101 (Q:=fun v H' => v = .sc (.bool (s.l.any p))∧Keep H0.next H0 H'∧H0.next ≤ H'.next) ?_).mono ?_
  rotate_left
  · rintro o H' ⟨v,rfl,rfl,h⟩
    exact ⟨rfl,h⟩
  simp -implicitDefEqProofs (maxDischargeDepth:=12) only [wpF,cf101,WW,List.replicate,e_splice,if_true,if_false,ite_true,ite_false,true_or,ne_eq,seval,h_putc,beq_self_eq_true,eq_self,exists_eq_left,exists_eq_left']
  refine wA_call h132 ((index_meas p hp hcl hcv hq hl).mono fun o H' h => ?_)
  obtain ⟨rfl,hK,hn⟩:=h
  refine ⟨_,rfl,by simp only [k_nil],?_⟩
  rcases idx_any (l:=s.l) (p:=p) with ⟨i,h1,h2⟩ | ⟨h1,h2⟩
  · have h0 : (0 : Int) ≤ (i : Int):=by omega
    rw [h1,h2]
    simp -implicitDefEqProofs (maxDischargeDepth:=12) only [idxAV,WW,List.replicate,e_splice,if_true,if_false,ite_true,ite_false,true_or,ne_eq,seval,h_putc,beq_self_eq_true,eq_self,exists_eq_left,exists_eq_left',h0]
    exact ⟨hK,hn⟩
  · rw [h1,h2]
    simp -implicitDefEqProofs (maxDischargeDepth:=12) only [idxAV,WW,List.replicate,e_splice,if_true,if_false,ite_true,ite_false,true_or,ne_eq,seval,h_putc,beq_self_eq_true,eq_self,exists_eq_left,exists_eq_left']
    exact ⟨hK,hn⟩
def wholeB (s : Score) : Bool:=s.measures.l.all fun m => decide (m.cells.l.length = stavesOf s.parts.l)
theorem wholeB_any (s : Score) : wholeB s = !(s.measures.l.any (badM (stavesOf s.parts.l))):=by
  unfold wholeB
  induction s.measures.l with
  | nil => rfl
  | cons y l ih =>
    simp only [List.all_cons,List.any_cons,ih,Bool.not_or]
    congr 1
    by_cases h : y.cells.l.length = stavesOf s.parts.l
    · simp [badM,h]
    · have : ¬ ((y.cells.l.length : Int) = (stavesOf s.parts.l : Int)):=by omega
      simp [badM,h,this]
def WhPol (pol : Pol) : Prop:=pol.pure 23 = true∧pol.pure 101 = false∧pol.pure 132 = false∧pol.pure 115 = false
theorem whole_pv (hp : WhPol pol) (s : Score) (hT : Tame s) : Pv prog pol 72 [s.enc] (.sc (.bool (wholeB s))):=by
  obtain ⟨h23,h101,h132,h115⟩:=hp
  refine Pv_of' ok72 (by simp only [AV.closedBs,Score.enc_closed,Bool.and_self]) ?_
  simp -implicitDefEqProofs (maxDischargeDepth:=12) only [wpF,cf72,WW,List.replicate,e_splice,if_true,if_false,ite_true,ite_false,true_or,ne_eq,seval,h_putc,beq_self_eq_true,eq_self,exists_eq_left,exists_eq_left',s.enc_eq]
  rw [← s.enc_eq]
  refine wA_pure h23 (staves_pv s hT.staves hT.parts) ?_
  simp -implicitDefEqProofs (maxDischargeDepth:=12) only [WW,List.replicate,e_splice,if_true,if_false,ite_true,ite_false,true_or,ne_eq,seval,h_putc,beq_self_eq_true,eq_self,exists_eq_left,exists_eq_left',s.enc_eq]
  refine wA_call h101 ((cont_meas (badM (stavesOf s.parts.l)) h132 h115 (fun H x h => cne115 h x) (fun x => rfl) ?_ hT.measures).mono fun o H' h => ?_)
  · simp -implicitDefEqProofs (maxDischargeDepth:=12) only [WW,List.replicate,e_splice,if_true,if_false,ite_true,ite_false,true_or,ne_eq,seval,h_putc,beq_self_eq_true,eq_self,exists_eq_left,exists_eq_left']
  obtain ⟨rfl,hK,hn⟩:=h
  refine ⟨_,rfl,by simp only [k_nil],?_⟩
  rw [wholeB_any]
  cases s.measures.l.any (badM (stavesOf s.parts.l)) with
  | true => simp -implicitDefEqProofs (maxDischargeDepth:=12) only [WW,List.replicate,e_splice,if_true,if_false,ite_true,ite_false,true_or,ne_eq,seval,h_putc,beq_self_eq_true,eq_self,exists_eq_left,exists_eq_left']; exact frz_sc
  | false => simp -implicitDefEqProofs (maxDischargeDepth:=12) only [WW,List.replicate,e_splice,if_true,if_false,ite_true,ite_false,true_or,ne_eq,seval,h_putc,beq_self_eq_true,eq_self,exists_eq_left,exists_eq_left']; exact frz_sc
theorem rformed_pv (h20 : pol.pure 20 = true) (s : Score) (hT : Tame s) : Pv prog pol 106 [s.enc] (.sc (.bool (wholeB s))):=by
  refine Pv_of' ok106 (by simp only [AV.closedBs,Score.enc_closed,Bool.and_self]) ?_
  simp -implicitDefEqProofs (maxDischargeDepth:=12) only [wpF,cf106,WW,List.replicate,e_splice,if_true,if_false,ite_true,ite_false,true_or,ne_eq,seval,h_putc,beq_self_eq_true,eq_self,exists_eq_left,exists_eq_left',s.enc_eq]
  have hl:=hT.measures
  refine wp_loop (Inv:=fun k t H => ∃ (i : Nat),i + k = s.measures.l.length∧H.cells 0 = some s.enc.cells∧wholeB s = ((s.measures.l.drop i).all fun m => decide (m.cells.l.length = stavesOf s.parts.l)) ∧
    ∃ x : Nat→AV,t = [s.enc,.ptr 0 0,.sc (.bool false),.sc (.int .i64 i),x 4,x 5,x 6,x 7,x 8,x 9,x 10,x 11,x 12,x 13,x 14,x 15,x 16,x 17,x 18,x 19,x 20]) (k:=s.measures.l.length) ?_
    ⟨0,by omega,?_,by rw [List.drop_zero]; rfl,ex_x rfl⟩
  rotate_left
  · simp -implicitDefEqProofs (maxDischargeDepth:=12) only [WW,List.replicate,e_splice,if_true,if_false,ite_true,ite_false,true_or,ne_eq,seval,h_putc,beq_self_eq_true,eq_self,exists_eq_left,exists_eq_left']; rfl
  rintro k t H ⟨i,hk,hH,hf,x,rfl⟩
  simp only [s.enc_eq,c_agg] at hH
  by_cases h1 : (i : Int) < (s.measures.l.length : Int)
  · obtain ⟨y,hy⟩ : ∃ y,s.measures.l[i]? = some y:=⟨_,List.getElem?_eq_getElem (by omega)⟩
    have e2 : IntKind.i64.wrap ((i : Int) + 1) = ((i + 1 : Nat) : Int):=by rw [w64 (by omega) (by omega)]; omega
    rw [drop_cons hy,List.all_cons] at hf
    simp -implicitDefEqProofs (maxDischargeDepth:=12) only [WW,List.replicate,e_splice,if_true,if_false,ite_true,ite_false,true_or,ne_eq,seval,h_putc,beq_self_eq_true,eq_self,exists_eq_left,exists_eq_left',hH,h1,hy,y.enc_eq]
    rw [← s.enc_eq]
    refine wA_pure h20 (rstaves_pv s hT.staves hT.parts) ?_
    by_cases h2 : y.cells.l.length = stavesOf s.parts.l
    · rw [decide_eq_true h2,Bool.true_and] at hf
      have h3 : (y.cells.l.length : Int) = (stavesOf s.parts.l : Int):=by omega
      simp -implicitDefEqProofs (maxDischargeDepth:=12) only [WW,List.replicate,e_splice,if_true,if_false,ite_true,ite_false,true_or,ne_eq,seval,h_putc,beq_self_eq_true,eq_self,exists_eq_left,exists_eq_left',h3,e2]
      exact ⟨k - 1,by omega,i + 1,by omega,hH,hf,ex_x rfl⟩
    · rw [decide_eq_false h2,Bool.false_and] at hf
      have h3 : ¬ (y.cells.l.length : Int) = (stavesOf s.parts.l : Int):=by omega
      simp -implicitDefEqProofs (maxDischargeDepth:=12) only [WW,List.replicate,e_splice,if_true,if_false,ite_true,ite_false,true_or,ne_eq,seval,h_putc,beq_self_eq_true,eq_self,exists_eq_left,exists_eq_left',h3,e2,hf]
      exact frz_sc
  · rw [drop_end h1] at hf
    have : wholeB s = true:=hf
    rw [this]
    simp -implicitDefEqProofs (maxDischargeDepth:=12) only [WW,List.replicate,e_splice,if_true,if_false,ite_true,ite_false,true_or,ne_eq,seval,h_putc,beq_self_eq_true,eq_self,exists_eq_left,exists_eq_left',hH,h1]
    exact frz_sc
end Go.Hem
