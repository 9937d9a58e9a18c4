/- Walks. -/
import Derived.Test.YtjhcbikiphokcaaGreatDoorWalks0
import Derived.Test.YtjhcbikiphokcaaGreatDoorK55m
set_option maxRecDepth 10000
set_option maxHeartbeats 4000000
set_option linter.unusedSimpArgs false
set_option linter.unusedVariables false
namespace Go.Hem
def PErr (p : Nat) (T A N L SC KW LN CO : AV) (e : Int) (H : AHeap) : Prop:=H.cells p = some [T,A,N,L,SC,KW,LN,CO,.sc (.int .i64 e)]
section
variable {p : Nat} {T A N L SC KW LN CO : AV} {e : Int} {H : AHeap}
theorem PErr.only {H' : AHeap} (h : PErr p T A N L SC KW LN CO e H) (o : Only [] H H') : PErr p T A N L SC KW LN CO e H':=by
  unfold PErr at h ⊢; rw [o.cells p (cells_lt h) (by simp)]; exact h
def tkE : List AV:=[.sc (.int .i64 (-1)),.sc (.str ⟨#[]⟩),.sc (.int .i64 0),.sc (.str ⟨#[]⟩),.sc (.int .i64 0),.sc (.int .i64 0),.sc (.bool false)]
variable (h : PErr p T A N L SC KW LN CO e H) (he : ¬ e = 0)
include h he
theorem peek_err : Ev prog polW (.call 15 [.ptr p 0]) H fun o H' => ∃ v,o = .val v∧v = .agg tkE∧Only [] H H':=by
  have hp : H.cells p = _:=h
  have lp:=cells_lt hp
  have n1 : ¬ p = H.next:=by omega
  refine wpF_ok ok15 ?_
  simp -implicitDefEqProofs (maxDischargeDepth:=12) only [wpF,cf15,WW,List.replicate,Option.some_or,s_conv,e_conv,s_slc3,e_cut3,e_cut3n,e_bns,e_bnn,e_splice,if_true,if_false,ite_true,ite_false,true_or,ne_eq,seval,h_putc,beq_self_eq_true,eq_self,exists_eq_left,exists_eq_left',hp,n1,he,tkE]
  (repeat (first | exact Only.refl | refine Only.put ?_ (by first | (right; omega) | (left; exact List.mem_cons_self ..) | (left; simp [fpS])) | refine Only.alloc ?_))
theorem is_err (s : ByteArray) : Ev prog polW (.call 79 [.ptr p 0,.sc (.str s)]) H fun o H' => ∃ v,o = .val v∧v = .sc (.bool false)∧Only [] H H':=by
  refine wpF_ok ok79 ?_
  simp -implicitDefEqProofs (maxDischargeDepth:=12) only [wpF,cf79,WW,List.replicate,Option.some_or,s_conv,e_conv,s_slc3,e_cut3,e_cut3n,e_bns,e_bnn,e_splice,if_true,if_false,ite_true,ite_false,true_or,ne_eq,seval,h_putc,beq_self_eq_true,eq_self,exists_eq_left,exists_eq_left']
  refine wA_call rfl ((peek_err h he).mono ?_)
  rintro o H1 ⟨v,rfl,rfl,ho⟩
  refine ⟨_,rfl,fun c hc => by simp at hc,?_⟩
  simp -implicitDefEqProofs (maxDischargeDepth:=12) only [WW,List.replicate,Option.some_or,s_conv,e_conv,s_slc3,e_cut3,e_cut3n,e_bns,e_bnn,e_splice,if_true,if_false,ite_true,ite_false,true_or,ne_eq,seval,h_putc,beq_self_eq_true,eq_self,exists_eq_left,exists_eq_left',tkE,show ¬ (-1 : Int) = 1 by decide,show ¬ (-1 : Int) = 4 by decide]
  exact ho.then (show Only [] H1 _ from by (repeat (first | exact Only.refl | refine Only.put ?_ (by first | (right; omega) | (left; exact List.mem_cons_self ..) | (left; simp [fpS])) | refine Only.alloc ?_))) (fun b hb => by cases hb)
theorem accept_err (s : ByteArray) : Ev prog polW (.call 35 [.ptr p 0,.sc (.str s)]) H fun o H' => ∃ v,o = .val v∧v = .sc (.bool false)∧Only [] H H':=by
  refine wpF_ok ok35 ?_
  simp -implicitDefEqProofs (maxDischargeDepth:=12) only [wpF,cf35,WW,List.replicate,Option.some_or,s_conv,e_conv,s_slc3,e_cut3,e_cut3n,e_bns,e_bnn,e_splice,if_true,if_false,ite_true,ite_false,true_or,ne_eq,seval,h_putc,beq_self_eq_true,eq_self,exists_eq_left,exists_eq_left']
  refine wA_call rfl ((is_err h he s).mono ?_)
  rintro o H1 ⟨v,rfl,rfl,ho⟩
  refine ⟨_,rfl,fun c hc => by simp at hc,?_⟩
  simp -implicitDefEqProofs (maxDischargeDepth:=12) only [WW,List.replicate,Option.some_or,s_conv,e_conv,s_slc3,e_cut3,e_cut3n,e_bns,e_bnn,e_splice,if_true,if_false,ite_true,ite_false,true_or,ne_eq,seval,h_putc,beq_self_eq_true,eq_self,exists_eq_left,exists_eq_left']
  exact ho
theorem fail_err (n : Int) : Ev prog polW (.call 45 [.ptr p 0,.sc (.int .i64 n)]) H fun o H' => ∃ v,o = .val v∧v = .tup []∧Only [] H H':=by
  have hp : H.cells p = _:=h
  refine wpF_ok ok45 ?_
  simp -implicitDefEqProofs (maxDischargeDepth:=12) only [wpF,cf45,WW,List.replicate,Option.some_or,s_conv,e_conv,s_slc3,e_cut3,e_cut3n,e_bns,e_bnn,e_splice,if_true,if_false,ite_true,ite_false,true_or,ne_eq,seval,h_putc,beq_self_eq_true,eq_self,exists_eq_left,exists_eq_left',hp,he,cr_nil]
  exact Only.refl
theorem expect_err (s : ByteArray) : Ev prog polW (.call 44 [.ptr p 0,.sc (.str s)]) H fun o H' => ∃ v,o = .val v∧v = .tup []∧Only [] H H':=by
  refine wpF_ok ok44 ?_
  simp -implicitDefEqProofs (maxDischargeDepth:=12) only [wpF,cf44,WW,List.replicate,Option.some_or,s_conv,e_conv,s_slc3,e_cut3,e_cut3n,e_bns,e_bnn,e_splice,if_true,if_false,ite_true,ite_false,true_or,ne_eq,seval,h_putc,beq_self_eq_true,eq_self,exists_eq_left,exists_eq_left']
  refine wA_call rfl ((accept_err h he s).mono ?_)
  rintro o H1 ⟨v,rfl,rfl,ho⟩
  refine ⟨_,rfl,fun c hc => by simp at hc,?_⟩
  simp -implicitDefEqProofs (maxDischargeDepth:=12) only [WW,List.replicate,Option.some_or,s_conv,e_conv,s_slc3,e_cut3,e_cut3n,e_bns,e_bnn,e_splice,if_true,if_false,ite_true,ite_false,true_or,ne_eq,seval,h_putc,beq_self_eq_true,eq_self,exists_eq_left,exists_eq_left']
  refine wA_call rfl ((fail_err (h.only ho) he 13).mono ?_)
  rintro o H2 ⟨v,rfl,rfl,ho2⟩
  refine ⟨_,rfl,fun c hc => by simp at hc,?_⟩
  simp -implicitDefEqProofs (maxDischargeDepth:=12) only [WW,List.replicate,Option.some_or,s_conv,e_conv,s_slc3,e_cut3,e_cut3n,e_bns,e_bnn,e_splice,if_true,if_false,ite_true,ite_false,true_or,ne_eq,seval,h_putc,beq_self_eq_true,eq_self,exists_eq_left,exists_eq_left',cr_nil]
  exact ho.trans ho2
theorem pair_err (s s2 : ByteArray) : Ev prog polW (.call 313 [.ptr p 0,.sc (.str s),.sc (.str s2)]) H fun o H' => ∃ v,o = .val v∧v = .sc (.bool false)∧Only [] H H':=by
  refine wpF_ok ok313 ?_
  simp -implicitDefEqProofs (maxDischargeDepth:=12) only [wpF,cf313,WW,List.replicate,Option.some_or,s_conv,e_conv,s_slc3,e_cut3,e_cut3n,e_bns,e_bnn,e_splice,if_true,if_false,ite_true,ite_false,true_or,ne_eq,seval,h_putc,beq_self_eq_true,eq_self,exists_eq_left,exists_eq_left']
  refine wA_call rfl ((is_err h he s).mono ?_)
  rintro o H1 ⟨v,rfl,rfl,ho⟩
  refine ⟨_,rfl,fun c hc => by simp at hc,?_⟩
  simp -implicitDefEqProofs (maxDischargeDepth:=12) only [WW,List.replicate,Option.some_or,s_conv,e_conv,s_slc3,e_cut3,e_cut3n,e_bns,e_bnn,e_splice,if_true,if_false,ite_true,ite_false,true_or,ne_eq,seval,h_putc,beq_self_eq_true,eq_self,exists_eq_left,exists_eq_left']
  exact ho
theorem isName_err : Ev prog polW (.call 42 [.ptr p 0]) H fun o H' => ∃ v,o = .val v∧v = .sc (.bool false)∧Only [] H H':=by
  refine wpF_ok ok42 ?_
  simp -implicitDefEqProofs (maxDischargeDepth:=12) only [wpF,cf42,WW,List.replicate,Option.some_or,s_conv,e_conv,s_slc3,e_cut3,e_cut3n,e_bns,e_bnn,e_splice,if_true,if_false,ite_true,ite_false,true_or,ne_eq,seval,h_putc,beq_self_eq_true,eq_self,exists_eq_left,exists_eq_left']
  refine wA_call rfl ((peek_err h he).mono ?_)
  rintro o H1 ⟨v,rfl,rfl,ho⟩
  refine ⟨_,rfl,fun c hc => by simp at hc,?_⟩
  simp -implicitDefEqProofs (maxDischargeDepth:=12) only [WW,List.replicate,Option.some_or,s_conv,e_conv,s_slc3,e_cut3,e_cut3n,e_bns,e_bnn,e_splice,if_true,if_false,ite_true,ite_false,true_or,ne_eq,seval,h_putc,beq_self_eq_true,eq_self,exists_eq_left,exists_eq_left',tkE,show ¬ (-1 : Int) = 1 by decide]
  exact ho.then (show Only [] H1 _ from by (repeat (first | exact Only.refl | refine Only.put ?_ (by first | (right; omega) | (left; exact List.mem_cons_self ..) | (left; simp [fpS])) | refine Only.alloc ?_))) (fun b hb => by cases hb)
theorem primary_err : Ev prog polW (.call 509 [.ptr p 0]) H fun o H' => ∃ v,o = .val v∧AV.one v = true∧v.cells = [v]∧Only [] H H':=by
  refine wpF_ok ok509 ?_
  simp -implicitDefEqProofs (maxDischargeDepth:=12) only [wpF,cf509,WW,List.replicate,Option.some_or,s_conv,e_conv,s_slc3,e_cut3,e_cut3n,e_bns,e_bnn,e_splice,if_true,if_false,ite_true,ite_false,true_or,ne_eq,seval,h_putc,beq_self_eq_true,eq_self,exists_eq_left,exists_eq_left',ev_fun]
  refine wA_call rfl ((peek_err h he).mono ?_)
  rintro o H1 ⟨v,rfl,rfl,o1⟩
  refine ⟨_,rfl,fun c hc => by simp at hc,?_⟩
  simp -implicitDefEqProofs (maxDischargeDepth:=12) only [WW,List.replicate,Option.some_or,s_conv,e_conv,s_slc3,e_cut3,e_cut3n,e_bns,e_bnn,e_splice,if_true,if_false,ite_true,ite_false,true_or,ne_eq,seval,h_putc,beq_self_eq_true,eq_self,exists_eq_left,exists_eq_left',tkE,show ¬ (-1 : Int) = 2 by decide]
  refine wA_call rfl ((is_err (h.only o1) he _).mono ?_)
  rintro o H2 ⟨v,rfl,rfl,oH2⟩
  refine ⟨_,rfl,fun c hc => by simp at hc,?_⟩
  simp -implicitDefEqProofs (maxDischargeDepth:=12) only [tI_normal,tI_exit,tI_ret,WW,List.replicate,Option.some_or,s_conv,e_conv,s_slc3,e_cut3,e_cut3n,e_bns,e_bnn,e_splice,if_true,if_false,ite_true,ite_false,true_or,ne_eq,seval,h_putc,beq_self_eq_true,eq_self,exists_eq_left,exists_eq_left']
  refine wA_call rfl ((accept_err (h.only (o1.trans oH2)) he _).mono ?_)
  rintro o H3 ⟨v,rfl,rfl,oH3⟩
  refine ⟨_,rfl,fun c hc => by simp at hc,?_⟩
  simp -implicitDefEqProofs (maxDischargeDepth:=12) only [tI_normal,tI_exit,tI_ret,WW,List.replicate,Option.some_or,s_conv,e_conv,s_slc3,e_cut3,e_cut3n,e_bns,e_bnn,e_splice,if_true,if_false,ite_true,ite_false,true_or,ne_eq,seval,h_putc,beq_self_eq_true,eq_self,exists_eq_left,exists_eq_left']
  refine wA_call rfl ((is_err (h.only ((o1.trans oH2).trans oH3)) he _).mono ?_)
  rintro o H4 ⟨v,rfl,rfl,oH4⟩
  refine ⟨_,rfl,fun c hc => by simp at hc,?_⟩
  simp -implicitDefEqProofs (maxDischargeDepth:=12) only [tI_normal,tI_exit,tI_ret,WW,List.replicate,Option.some_or,s_conv,e_conv,s_slc3,e_cut3,e_cut3n,e_bns,e_bnn,e_splice,if_true,if_false,ite_true,ite_false,true_or,ne_eq,seval,h_putc,beq_self_eq_true,eq_self,exists_eq_left,exists_eq_left']
  refine wA_call rfl ((isName_err (h.only (((o1.trans oH2).trans oH3).trans oH4)) he).mono ?_)
  rintro o H5 ⟨v,rfl,rfl,oH5⟩
  refine ⟨_,rfl,fun c hc => by simp at hc,?_⟩
  simp -implicitDefEqProofs (maxDischargeDepth:=12) only [WW,List.replicate,Option.some_or,s_conv,e_conv,s_slc3,e_cut3,e_cut3n,e_bns,e_bnn,e_splice,if_true,if_false,ite_true,ite_false,true_or,ne_eq,seval,h_putc,beq_self_eq_true,eq_self,exists_eq_left,exists_eq_left']
  refine wA_call rfl ((fail_err (h.only ((((o1.trans oH2).trans oH3).trans oH4).trans oH5)) he 13).mono ?_)
  rintro o H6 ⟨v,rfl,rfl,oH6⟩
  refine ⟨_,rfl,fun c hc => by simp at hc,?_⟩
  simp -implicitDefEqProofs (maxDischargeDepth:=12) only [WW,List.replicate,Option.some_or,s_conv,e_conv,s_slc3,e_cut3,e_cut3n,e_bns,e_bnn,e_splice,if_true,if_false,ite_true,ite_false,true_or,ne_eq,seval,h_putc,beq_self_eq_true,eq_self,exists_eq_left,exists_eq_left']
  exact ((((o1.trans oH2).trans oH3).trans oH4).trans oH5).trans oH6
def LvE (f : FuncId) : Prop:=∀ (p : Nat) (T A N L SC KW LN CO : AV) (e : Int) (H : AHeap),PErr p T A N L SC KW LN CO e H→¬ e = 0→Ev prog polW (.call f [.ptr p 0]) H fun o H' => ∃ v,o = .val v∧AV.one v = true∧v.cells = [v]∧Only [] H H'
end
theorem primary_lve : LvE 509:=fun p T A N L SC KW LN CO e H h he => primary_err h he
theorem unary_lve : LvE 457:=by
  intro p T A N L SC KW LN CO e H h he
  refine wpF_ok ok457 ?_
  simp -implicitDefEqProofs (maxDischargeDepth:=12) only [wpF,cf457,WW,List.replicate,Option.some_or,s_conv,e_conv,s_slc3,e_cut3,e_cut3n,e_bns,e_bnn,e_splice,if_true,if_false,ite_true,ite_false,true_or,ne_eq,seval,h_putc,beq_self_eq_true,eq_self,exists_eq_left,exists_eq_left']
  refine wA_call rfl ((accept_err (h.only Only.refl) he _).mono ?_)
  rintro o H1 ⟨v,rfl,rfl,oH1⟩
  refine ⟨_,rfl,fun c hc => by simp at hc,?_⟩
  simp -implicitDefEqProofs (maxDischargeDepth:=12) only [tI_normal,tI_exit,tI_ret,WW,List.replicate,Option.some_or,s_conv,e_conv,s_slc3,e_cut3,e_cut3n,e_bns,e_bnn,e_splice,if_true,if_false,ite_true,ite_false,true_or,ne_eq,seval,h_putc,beq_self_eq_true,eq_self,exists_eq_left,exists_eq_left']
  refine wA_call rfl ((primary_lve _ _ _ _ _ _ _ _ _ _ _ (h.only oH1) he).mono ?_)
  rintro o H2 ⟨w,rfl,hw,hc,oH2⟩
  refine ⟨_,rfl,fun c hc => by simp at hc,?_⟩
  simp -implicitDefEqProofs (maxDischargeDepth:=12) only [tI_normal,tI_exit,tI_ret,WW,List.replicate,Option.some_or,s_conv,e_conv,s_slc3,e_cut3,e_cut3n,e_bns,e_bnn,e_splice,if_true,if_false,ite_true,ite_false,true_or,ne_eq,seval,h_putc,beq_self_eq_true,eq_self,exists_eq_left,exists_eq_left',hw,hc]
  exact oH1.trans oH2
theorem product_lve : LvE 400:=by
  intro p T A N L SC KW LN CO e H h he
  refine wpF_ok ok400 ?_
  simp -implicitDefEqProofs (maxDischargeDepth:=12) only [wpF,cf400,WW,List.replicate,Option.some_or,s_conv,e_conv,s_slc3,e_cut3,e_cut3n,e_bns,e_bnn,e_splice,if_true,if_false,ite_true,ite_false,true_or,ne_eq,seval,h_putc,beq_self_eq_true,eq_self,exists_eq_left,exists_eq_left']
  refine wA_call rfl ((unary_lve _ _ _ _ _ _ _ _ _ _ _ (h.only Only.refl) he).mono ?_)
  rintro o H1 ⟨w,rfl,hw,hc,oH1⟩
  refine ⟨_,rfl,fun c hc => by simp at hc,?_⟩
  simp -implicitDefEqProofs (maxDischargeDepth:=12) only [tI_normal,tI_exit,tI_ret,WW,List.replicate,Option.some_or,s_conv,e_conv,s_slc3,e_cut3,e_cut3n,e_bns,e_bnn,e_splice,if_true,if_false,ite_true,ite_false,true_or,ne_eq,seval,h_putc,beq_self_eq_true,eq_self,exists_eq_left,exists_eq_left',hw,hc]
  refine wp_unroll 2 ?_
  simp -implicitDefEqProofs (maxDischargeDepth:=12) only [WW,List.replicate,Option.some_or,s_conv,e_conv,s_slc3,e_cut3,e_cut3n,e_bns,e_bnn,e_splice,if_true,if_false,ite_true,ite_false,true_or,ne_eq,seval,h_putc,beq_self_eq_true,eq_self,exists_eq_left,exists_eq_left']
  refine wA_call rfl ((accept_err (h.only oH1) he _).mono ?_)
  rintro o H2 ⟨v,rfl,rfl,oH2⟩
  refine ⟨_,rfl,fun c hc => by simp at hc,?_⟩
  simp -implicitDefEqProofs (maxDischargeDepth:=12) only [tI_normal,tI_exit,tI_ret,WW,List.replicate,Option.some_or,s_conv,e_conv,s_slc3,e_cut3,e_cut3n,e_bns,e_bnn,e_splice,if_true,if_false,ite_true,ite_false,true_or,ne_eq,seval,h_putc,beq_self_eq_true,eq_self,exists_eq_left,exists_eq_left']
  refine wA_call rfl ((accept_err (h.only (oH1.trans oH2)) he _).mono ?_)
  rintro o H3 ⟨v,rfl,rfl,oH3⟩
  refine ⟨_,rfl,fun c hc => by simp at hc,?_⟩
  simp -implicitDefEqProofs (maxDischargeDepth:=12) only [tI_normal,tI_exit,tI_ret,WW,List.replicate,Option.some_or,s_conv,e_conv,s_slc3,e_cut3,e_cut3n,e_bns,e_bnn,e_splice,if_true,if_false,ite_true,ite_false,true_or,ne_eq,seval,h_putc,beq_self_eq_true,eq_self,exists_eq_left,exists_eq_left']
  refine wA_call rfl ((accept_err (h.only ((oH1.trans oH2).trans oH3)) he _).mono ?_)
  rintro o H4 ⟨v,rfl,rfl,oH4⟩
  refine ⟨_,rfl,fun c hc => by simp at hc,?_⟩
  simp -implicitDefEqProofs (maxDischargeDepth:=12) only [tI_normal,tI_exit,tI_ret,WW,List.replicate,Option.some_or,s_conv,e_conv,s_slc3,e_cut3,e_cut3n,e_bns,e_bnn,e_splice,if_true,if_false,ite_true,ite_false,true_or,ne_eq,seval,h_putc,beq_self_eq_true,eq_self,exists_eq_left,exists_eq_left']
  exact ⟨hw,hc,(((oH1.trans oH2).trans oH3).trans oH4)⟩
theorem sum_lve : LvE 312:=by
  intro p T A N L SC KW LN CO e H h he
  refine wpF_ok ok312 ?_
  simp -implicitDefEqProofs (maxDischargeDepth:=12) only [wpF,cf312,WW,List.replicate,Option.some_or,s_conv,e_conv,s_slc3,e_cut3,e_cut3n,e_bns,e_bnn,e_splice,if_true,if_false,ite_true,ite_false,true_or,ne_eq,seval,h_putc,beq_self_eq_true,eq_self,exists_eq_left,exists_eq_left']
  refine wA_call rfl ((product_lve _ _ _ _ _ _ _ _ _ _ _ (h.only Only.refl) he).mono ?_)
  rintro o H1 ⟨w,rfl,hw,hc,oH1⟩
  refine ⟨_,rfl,fun c hc => by simp at hc,?_⟩
  simp -implicitDefEqProofs (maxDischargeDepth:=12) only [tI_normal,tI_exit,tI_ret,WW,List.replicate,Option.some_or,s_conv,e_conv,s_slc3,e_cut3,e_cut3n,e_bns,e_bnn,e_splice,if_true,if_false,ite_true,ite_false,true_or,ne_eq,seval,h_putc,beq_self_eq_true,eq_self,exists_eq_left,exists_eq_left',hw,hc]
  refine wp_unroll 2 ?_
  simp -implicitDefEqProofs (maxDischargeDepth:=12) only [WW,List.replicate,Option.some_or,s_conv,e_conv,s_slc3,e_cut3,e_cut3n,e_bns,e_bnn,e_splice,if_true,if_false,ite_true,ite_false,true_or,ne_eq,seval,h_putc,beq_self_eq_true,eq_self,exists_eq_left,exists_eq_left']
  refine wA_call rfl ((accept_err (h.only oH1) he _).mono ?_)
  rintro o H2 ⟨v,rfl,rfl,oH2⟩
  refine ⟨_,rfl,fun c hc => by simp at hc,?_⟩
  simp -implicitDefEqProofs (maxDischargeDepth:=12) only [tI_normal,tI_exit,tI_ret,WW,List.replicate,Option.some_or,s_conv,e_conv,s_slc3,e_cut3,e_cut3n,e_bns,e_bnn,e_splice,if_true,if_false,ite_true,ite_false,true_or,ne_eq,seval,h_putc,beq_self_eq_true,eq_self,exists_eq_left,exists_eq_left']
  refine wA_call rfl ((accept_err (h.only (oH1.trans oH2)) he _).mono ?_)
  rintro o H3 ⟨v,rfl,rfl,oH3⟩
  refine ⟨_,rfl,fun c hc => by simp at hc,?_⟩
  simp -implicitDefEqProofs (maxDischargeDepth:=12) only [tI_normal,tI_exit,tI_ret,WW,List.replicate,Option.some_or,s_conv,e_conv,s_slc3,e_cut3,e_cut3n,e_bns,e_bnn,e_splice,if_true,if_false,ite_true,ite_false,true_or,ne_eq,seval,h_putc,beq_self_eq_true,eq_self,exists_eq_left,exists_eq_left']
  exact ⟨hw,hc,((oH1.trans oH2).trans oH3)⟩
theorem comparison_lve : LvE 220:=by
  intro p T A N L SC KW LN CO e H h he
  refine wpF_ok ok220 ?_
  simp -implicitDefEqProofs (maxDischargeDepth:=12) only [wpF,cf220,WW,List.replicate,Option.some_or,s_conv,e_conv,s_slc3,e_cut3,e_cut3n,e_bns,e_bnn,e_splice,if_true,if_false,ite_true,ite_false,true_or,ne_eq,seval,h_putc,beq_self_eq_true,eq_self,exists_eq_left,exists_eq_left']
  refine wA_call rfl ((sum_lve _ _ _ _ _ _ _ _ _ _ _ (h.only Only.refl) he).mono ?_)
  rintro o G ⟨w,rfl,hw,hc,oG⟩
  refine ⟨_,rfl,fun c hc => by simp at hc,?_⟩
  simp -implicitDefEqProofs (maxDischargeDepth:=12) only [tI_normal,tI_exit,tI_ret,WW,List.replicate,Option.some_or,s_conv,e_conv,s_slc3,e_cut3,e_cut3n,e_bns,e_bnn,e_splice,if_true,if_false,ite_true,ite_false,true_or,ne_eq,seval,h_putc,beq_self_eq_true,eq_self,exists_eq_left,exists_eq_left',hw,hc]
  have oa : Only [] H (G.alloc (.cells [.sc .nilf])):=oG.trans (by (repeat (first | exact Only.refl | refine Only.put ?_ (by first | (right; omega) | (left; exact List.mem_cons_self ..) | (left; simp [fpS])) | refine Only.alloc ?_)))
  refine wA_call rfl ((pair_err (h.only oa) he _ _).mono ?_)
  rintro o H2 ⟨v,rfl,rfl,oH2⟩
  refine ⟨_,rfl,fun c hc => by simp at hc,?_⟩
  simp -implicitDefEqProofs (maxDischargeDepth:=12) only [tI_normal,tI_exit,tI_ret,WW,List.replicate,Option.some_or,s_conv,e_conv,s_slc3,e_cut3,e_cut3n,e_bns,e_bnn,e_splice,if_true,if_false,ite_true,ite_false,true_or,ne_eq,seval,h_putc,beq_self_eq_true,eq_self,exists_eq_left,exists_eq_left']
  refine wA_call rfl ((pair_err (h.only (oa.trans oH2)) he _ _).mono ?_)
  rintro o H3 ⟨v,rfl,rfl,oH3⟩
  refine ⟨_,rfl,fun c hc => by simp at hc,?_⟩
  simp -implicitDefEqProofs (maxDischargeDepth:=12) only [tI_normal,tI_exit,tI_ret,WW,List.replicate,Option.some_or,s_conv,e_conv,s_slc3,e_cut3,e_cut3n,e_bns,e_bnn,e_splice,if_true,if_false,ite_true,ite_false,true_or,ne_eq,seval,h_putc,beq_self_eq_true,eq_self,exists_eq_left,exists_eq_left']
  refine wA_call rfl ((pair_err (h.only ((oa.trans oH2).trans oH3)) he _ _).mono ?_)
  rintro o H4 ⟨v,rfl,rfl,oH4⟩
  refine ⟨_,rfl,fun c hc => by simp at hc,?_⟩
  simp -implicitDefEqProofs (maxDischargeDepth:=12) only [tI_normal,tI_exit,tI_ret,WW,List.replicate,Option.some_or,s_conv,e_conv,s_slc3,e_cut3,e_cut3n,e_bns,e_bnn,e_splice,if_true,if_false,ite_true,ite_false,true_or,ne_eq,seval,h_putc,beq_self_eq_true,eq_self,exists_eq_left,exists_eq_left']
  refine wA_call rfl ((pair_err (h.only (((oa.trans oH2).trans oH3).trans oH4)) he _ _).mono ?_)
  rintro o H5 ⟨v,rfl,rfl,oH5⟩
  refine ⟨_,rfl,fun c hc => by simp at hc,?_⟩
  simp -implicitDefEqProofs (maxDischargeDepth:=12) only [tI_normal,tI_exit,tI_ret,WW,List.replicate,Option.some_or,s_conv,e_conv,s_slc3,e_cut3,e_cut3n,e_bns,e_bnn,e_splice,if_true,if_false,ite_true,ite_false,true_or,ne_eq,seval,h_putc,beq_self_eq_true,eq_self,exists_eq_left,exists_eq_left']
  refine wA_call rfl ((accept_err (h.only ((((oa.trans oH2).trans oH3).trans oH4).trans oH5)) he _).mono ?_)
  rintro o H6 ⟨v,rfl,rfl,oH6⟩
  refine ⟨_,rfl,fun c hc => by simp at hc,?_⟩
  simp -implicitDefEqProofs (maxDischargeDepth:=12) only [tI_normal,tI_exit,tI_ret,WW,List.replicate,Option.some_or,s_conv,e_conv,s_slc3,e_cut3,e_cut3n,e_bns,e_bnn,e_splice,if_true,if_false,ite_true,ite_false,true_or,ne_eq,seval,h_putc,beq_self_eq_true,eq_self,exists_eq_left,exists_eq_left']
  refine wA_call rfl ((accept_err (h.only (((((oa.trans oH2).trans oH3).trans oH4).trans oH5).trans oH6)) he _).mono ?_)
  rintro o H7 ⟨v,rfl,rfl,oH7⟩
  refine ⟨_,rfl,fun c hc => by simp at hc,?_⟩
  simp -implicitDefEqProofs (maxDischargeDepth:=12) only [tI_normal,tI_exit,tI_ret,WW,List.replicate,Option.some_or,s_conv,e_conv,s_slc3,e_cut3,e_cut3n,e_bns,e_bnn,e_splice,if_true,if_false,ite_true,ite_false,true_or,ne_eq,seval,h_putc,beq_self_eq_true,eq_self,exists_eq_left,exists_eq_left']
  exact ⟨hw,hc,((((((oa.trans oH2).trans oH3).trans oH4).trans oH5).trans oH6).trans oH7)⟩
theorem negation_lve : LvE 142:=by
  intro p T A N L SC KW LN CO e H h he
  refine wpF_ok ok142 ?_
  simp -implicitDefEqProofs (maxDischargeDepth:=12) only [wpF,cf142,WW,List.replicate,Option.some_or,s_conv,e_conv,s_slc3,e_cut3,e_cut3n,e_bns,e_bnn,e_splice,if_true,if_false,ite_true,ite_false,true_or,ne_eq,seval,h_putc,beq_self_eq_true,eq_self,exists_eq_left,exists_eq_left']
  refine wA_call rfl ((accept_err (h.only Only.refl) he _).mono ?_)
  rintro o H1 ⟨v,rfl,rfl,oH1⟩
  refine ⟨_,rfl,fun c hc => by simp at hc,?_⟩
  simp -implicitDefEqProofs (maxDischargeDepth:=12) only [tI_normal,tI_exit,tI_ret,WW,List.replicate,Option.some_or,s_conv,e_conv,s_slc3,e_cut3,e_cut3n,e_bns,e_bnn,e_splice,if_true,if_false,ite_true,ite_false,true_or,ne_eq,seval,h_putc,beq_self_eq_true,eq_self,exists_eq_left,exists_eq_left']
  refine wA_call rfl ((comparison_lve _ _ _ _ _ _ _ _ _ _ _ (h.only oH1) he).mono ?_)
  rintro o H2 ⟨w,rfl,hw,hc,oH2⟩
  refine ⟨_,rfl,fun c hc => by simp at hc,?_⟩
  simp -implicitDefEqProofs (maxDischargeDepth:=12) only [tI_normal,tI_exit,tI_ret,WW,List.replicate,Option.some_or,s_conv,e_conv,s_slc3,e_cut3,e_cut3n,e_bns,e_bnn,e_splice,if_true,if_false,ite_true,ite_false,true_or,ne_eq,seval,h_putc,beq_self_eq_true,eq_self,exists_eq_left,exists_eq_left',hw,hc]
  exact oH1.trans oH2
theorem both_lve : LvE 82:=by
  intro p T A N L SC KW LN CO e H h he
  refine wpF_ok ok82 ?_
  simp -implicitDefEqProofs (maxDischargeDepth:=12) only [wpF,cf82,WW,List.replicate,Option.some_or,s_conv,e_conv,s_slc3,e_cut3,e_cut3n,e_bns,e_bnn,e_splice,if_true,if_false,ite_true,ite_false,true_or,ne_eq,seval,h_putc,beq_self_eq_true,eq_self,exists_eq_left,exists_eq_left']
  refine wA_call rfl ((negation_lve _ _ _ _ _ _ _ _ _ _ _ (h.only Only.refl) he).mono ?_)
  rintro o H1 ⟨w,rfl,hw,hc,oH1⟩
  refine ⟨_,rfl,fun c hc => by simp at hc,?_⟩
  simp -implicitDefEqProofs (maxDischargeDepth:=12) only [tI_normal,tI_exit,tI_ret,WW,List.replicate,Option.some_or,s_conv,e_conv,s_slc3,e_cut3,e_cut3n,e_bns,e_bnn,e_splice,if_true,if_false,ite_true,ite_false,true_or,ne_eq,seval,h_putc,beq_self_eq_true,eq_self,exists_eq_left,exists_eq_left',hw,hc]
  refine wp_unroll 2 ?_
  simp -implicitDefEqProofs (maxDischargeDepth:=12) only [WW,List.replicate,Option.some_or,s_conv,e_conv,s_slc3,e_cut3,e_cut3n,e_bns,e_bnn,e_splice,if_true,if_false,ite_true,ite_false,true_or,ne_eq,seval,h_putc,beq_self_eq_true,eq_self,exists_eq_left,exists_eq_left']
  refine wA_call rfl ((accept_err (h.only oH1) he _).mono ?_)
  rintro o H2 ⟨v,rfl,rfl,oH2⟩
  refine ⟨_,rfl,fun c hc => by simp at hc,?_⟩
  simp -implicitDefEqProofs (maxDischargeDepth:=12) only [tI_normal,tI_exit,tI_ret,WW,List.replicate,Option.some_or,s_conv,e_conv,s_slc3,e_cut3,e_cut3n,e_bns,e_bnn,e_splice,if_true,if_false,ite_true,ite_false,true_or,ne_eq,seval,h_putc,beq_self_eq_true,eq_self,exists_eq_left,exists_eq_left']
  exact ⟨hw,hc,oH1.trans oH2⟩
theorem expr_lve : LvE 38:=by
  intro p T A N L SC KW LN CO e H h he
  refine wpF_ok ok38 ?_
  simp -implicitDefEqProofs (maxDischargeDepth:=12) only [wpF,cf38,WW,List.replicate,Option.some_or,s_conv,e_conv,s_slc3,e_cut3,e_cut3n,e_bns,e_bnn,e_splice,if_true,if_false,ite_true,ite_false,true_or,ne_eq,seval,h_putc,beq_self_eq_true,eq_self,exists_eq_left,exists_eq_left']
  refine wA_call rfl ((both_lve _ _ _ _ _ _ _ _ _ _ _ (h.only Only.refl) he).mono ?_)
  rintro o H1 ⟨w,rfl,hw,hc,oH1⟩
  refine ⟨_,rfl,fun c hc => by simp at hc,?_⟩
  simp -implicitDefEqProofs (maxDischargeDepth:=12) only [tI_normal,tI_exit,tI_ret,WW,List.replicate,Option.some_or,s_conv,e_conv,s_slc3,e_cut3,e_cut3n,e_bns,e_bnn,e_splice,if_true,if_false,ite_true,ite_false,true_or,ne_eq,seval,h_putc,beq_self_eq_true,eq_self,exists_eq_left,exists_eq_left',hw,hc]
  refine wp_unroll 2 ?_
  simp -implicitDefEqProofs (maxDischargeDepth:=12) only [WW,List.replicate,Option.some_or,s_conv,e_conv,s_slc3,e_cut3,e_cut3n,e_bns,e_bnn,e_splice,if_true,if_false,ite_true,ite_false,true_or,ne_eq,seval,h_putc,beq_self_eq_true,eq_self,exists_eq_left,exists_eq_left']
  refine wA_call rfl ((accept_err (h.only oH1) he _).mono ?_)
  rintro o H2 ⟨v,rfl,rfl,oH2⟩
  refine ⟨_,rfl,fun c hc => by simp at hc,?_⟩
  simp -implicitDefEqProofs (maxDischargeDepth:=12) only [tI_normal,tI_exit,tI_ret,WW,List.replicate,Option.some_or,s_conv,e_conv,s_slc3,e_cut3,e_cut3n,e_bns,e_bnn,e_splice,if_true,if_false,ite_true,ite_false,true_or,ne_eq,seval,h_putc,beq_self_eq_true,eq_self,exists_eq_left,exists_eq_left']
  exact ⟨hw,hc,oH1.trans oH2⟩
theorem fail_ev {p BT : Nat} {toks : List TkD} {i : Nat} {N L : Int} {SC KW : AV} {H : AHeap} (h : PSt p BT toks i N L SC KW H) {t : TkD} (ht : toks[i]? = some t) (n : Int) : Ev prog polW (.call 45 [.ptr p 0,.sc (.int .i64 n)]) H fun o H' => ∃ v,o = .val v∧v = .tup [] ∧
    PErr p (.slice BT 0 toks.length toks.length 7) (.sc (.int .i64 (i : Int))) (.sc (.int .i64 N)) (.sc (.int .i64 L)) SC KW (.sc (.int .i64 1)) (.sc (.int .i64 t.col)) n H'∧Only [p] H H':=by
  have hp:=h.cells
  refine wpF_ok ok45 ?_
  simp -implicitDefEqProofs (maxDischargeDepth:=12) only [wpF,cf45,WW,List.replicate,Option.some_or,s_conv,e_conv,s_slc3,e_cut3,e_cut3n,e_bns,e_bnn,e_splice,if_true,if_false,ite_true,ite_false,true_or,ne_eq,seval,h_putc,beq_self_eq_true,eq_self,exists_eq_left,exists_eq_left',hp]
  refine wA_call rfl ((peek_ev h ht).mono ?_)
  rintro o H1 ⟨v,rfl,rfl,ho⟩
  refine ⟨_,rfl,fun c hc => by simp at hc,?_⟩
  have g1:=h.only ho (by simp) (by simp)
  have hp1:=g1.cells
  have lp:=cells_lt hp1
  have n1 : ¬ p = H1.next:=by omega
  have n2 : ¬ H1.next = p:=by omega
  simp -implicitDefEqProofs (maxDischargeDepth:=12) only [WW,List.replicate,Option.some_or,s_conv,e_conv,s_slc3,e_cut3,e_cut3n,e_bns,e_bnn,e_splice,if_true,if_false,ite_true,ite_false,true_or,ne_eq,seval,h_putc,beq_self_eq_true,eq_self,exists_eq_left,exists_eq_left',TkD.cells,hp1,n1,n2,cr_nil]
  refine ⟨?_,(ho.mono (bs:=[p]) (fun b hb => by cases hb)).trans (by (repeat (first | exact Only.refl | refine Only.put ?_ (by first | (right; omega) | (left; exact List.mem_cons_self ..) | (left; simp [fpS])) | refine Only.alloc ?_)))⟩
  unfold PErr
  simp -implicitDefEqProofs (maxDischargeDepth:=12) only [WW,List.replicate,Option.some_or,s_conv,e_conv,s_slc3,e_cut3,e_cut3n,e_bns,e_bnn,e_splice,if_true,if_false,ite_true,ite_false,true_or,ne_eq,seval,h_putc,beq_self_eq_true,eq_self,exists_eq_left,exists_eq_left',hp1,n1,n2]
end Go.Hem
set_option maxRecDepth 100000
namespace Go.Hem
section
variable {p BT : Nat} {toks : List TkD} {N L : Int} {bk bsc b0 : Nat} {kws vars : List ByteArray} {i : Nat} {H : AHeap}
theorem let_err {t0 : TkD} (h : PSt p BT toks i N L (.slice bsc 0 1 1 1) (.map bk) H) (e : PEn p bk bsc b0 kws vars H) (ht0 : toks[i]? = some t0) (hk : t0.k = 1) (h1 : inB kws t0.tx = true) :
    Ev prog polW (.call 36 [.ptr p 0]) H fun o H' => ∃ v,o = .val v∧AV.one v = true∧v.cells = [v]∧PErr p (.slice BT 0 toks.length toks.length 7) (.sc (.int .i64 (i : Int))) (.sc (.int .i64 N)) (.sc (.int .i64 L)) (.slice bsc 0 1 1 1) (.map bk) (.sc (.int .i64 1)) (.sc (.int .i64 t0.col)) 13 H'∧Only [p] H H':=by
  have he : ¬ (13 : Int) = 0:=by decide
  refine wpF_ok ok36 ?_
  simp -implicitDefEqProofs (maxDischargeDepth:=12) only [wpF,cf36,WW,List.replicate,Option.some_or,s_conv,e_conv,s_slc3,e_cut3,e_cut3n,e_bns,e_bnn,e_splice,if_true,if_false,ite_true,ite_false,true_or,ne_eq,seval,h_putc,beq_self_eq_true,eq_self,exists_eq_left,exists_eq_left']
  refine wA_call rfl ((peek_ev h ht0).mono ?_)
  rintro o H1 ⟨v,rfl,rfl,ho⟩
  refine ⟨_,rfl,fun c hc => by simp at hc,?_⟩
  have g1:=h.only ho (by simp) (by simp)
  have o1 : Only [p] H H1:=ho.mono (fun b hb => by cases hb)
  have e1:=e.p o1
  have hp1:=g1.cells
  have hs1:=e1.sc
  simp -implicitDefEqProofs (maxDischargeDepth:=12) only [WW,List.replicate,Option.some_or,s_conv,e_conv,s_slc3,e_cut3,e_cut3n,e_bns,e_bnn,e_splice,if_true,if_false,ite_true,ite_false,true_or,ne_eq,seval,h_putc,beq_self_eq_true,eq_self,exists_eq_left,exists_eq_left',TkD.cells,hp1,hs1,i0]
  refine wA_call rfl ((isName_ev g1 e1 ht0).mono ?_)
  rintro o H2 ⟨v,rfl,rfl,ho2⟩
  refine ⟨_,rfl,fun c hc => by simp at hc,?_⟩
  have g2:=g1.only ho2 (by simp) (by simp)
  have o2 : Only [p] H1 H2:=ho2.mono (fun b hb => by cases hb)
  simp -implicitDefEqProofs (maxDischargeDepth:=12) only [WW,List.replicate,Option.some_or,s_conv,e_conv,s_slc3,e_cut3,e_cut3n,e_bns,e_bnn,e_splice,if_true,if_false,ite_true,ite_false,true_or,ne_eq,seval,h_putc,beq_self_eq_true,eq_self,exists_eq_left,exists_eq_left',hk,h1]
  refine wA_call rfl ((fail_ev g2 ht0 13).mono ?_)
  rintro o H3 ⟨v,rfl,rfl,g3,o3⟩
  refine ⟨_,rfl,fun c hc => by simp at hc,?_⟩
  simp -implicitDefEqProofs (maxDischargeDepth:=12) only [WW,List.replicate,Option.some_or,s_conv,e_conv,s_slc3,e_cut3,e_cut3n,e_bns,e_bnn,e_splice,if_true,if_false,ite_true,ite_false,true_or,ne_eq,seval,h_putc,beq_self_eq_true,eq_self,exists_eq_left,exists_eq_left']
  refine wA_call rfl ((expect_err (g3) he _).mono ?_)
  rintro o H4 ⟨v,rfl,rfl,oH4⟩
  refine ⟨_,rfl,fun c hc => by simp at hc,?_⟩
  simp -implicitDefEqProofs (maxDischargeDepth:=12) only [WW,List.replicate,Option.some_or,s_conv,e_conv,s_slc3,e_cut3,e_cut3n,e_bns,e_bnn,e_splice,if_true,if_false,ite_true,ite_false,true_or,ne_eq,seval,h_putc,beq_self_eq_true,eq_self,exists_eq_left,exists_eq_left']
  refine wA_call rfl ((expr_lve _ _ _ _ _ _ _ _ _ _ _ (g3.only oH4) he).mono ?_)
  rintro o H5 ⟨w,rfl,hw,hc,oH5⟩
  refine ⟨_,rfl,fun c hc => by simp at hc,?_⟩
  have os : AV.ones [w] = true:=by rw [os_cons,hw]; rfl
  simp -implicitDefEqProofs (maxDischargeDepth:=12) only [WW,List.replicate,Option.some_or,s_conv,e_conv,s_slc3,e_cut3,e_cut3n,e_bns,e_bnn,e_splice,if_true,if_false,ite_true,ite_false,true_or,ne_eq,seval,h_putc,beq_self_eq_true,eq_self,exists_eq_left,exists_eq_left',hw,hc,os]
  have o6 : Only [] H5 (H5.alloc (.cells [.sc (.str t0.tx),w])):=by (repeat (first | exact Only.refl | refine Only.put ?_ (by first | (right; omega) | (left; exact List.mem_cons_self ..) | (left; simp [fpS])) | refine Only.alloc ?_))
  refine wA_call rfl ((expect_err ((((g3.only oH4).only oH5).only o6)) he _).mono ?_)
  rintro o H7 ⟨v,rfl,rfl,oH7⟩
  refine ⟨_,rfl,fun c hc => by simp at hc,?_⟩
  simp -implicitDefEqProofs (maxDischargeDepth:=12) only [WW,List.replicate,Option.some_or,s_conv,e_conv,s_slc3,e_cut3,e_cut3n,e_bns,e_bnn,e_splice,if_true,if_false,ite_true,ite_false,true_or,ne_eq,seval,h_putc,beq_self_eq_true,eq_self,exists_eq_left,exists_eq_left']
  have g7:=(((g3.only oH4).only oH5).only o6).only oH7
  have hp7 : H7.cells p = _:=g7
  simp -implicitDefEqProofs (maxDischargeDepth:=12) only [WW,List.replicate,Option.some_or,s_conv,e_conv,s_slc3,e_cut3,e_cut3n,e_bns,e_bnn,e_splice,if_true,if_false,ite_true,ite_false,true_or,ne_eq,seval,h_putc,beq_self_eq_true,eq_self,exists_eq_left,exists_eq_left',hp7,s_mkif,o_iface,c_iface,show ¬ (13 : Int) = 0 by decide]
  exact ⟨g7,((o1.trans o2).trans o3).trans ((((oH4.trans oH5).trans o6).trans oH7).mono (fun b hb => by cases hb))⟩
theorem stm_err {tl t0 : TkD} (h : PSt p BT toks i N L (.slice bsc 0 1 1 1) (.map bk) H) (e : PEn p bk bsc b0 kws vars H) (htl : toks[i]? = some tl) (hlet : isB tl ⟨#[108,101,116]⟩ = true) (ht0 : toks[i + 1]? = some t0) (hk : t0.k = 1) (h1 : inB kws t0.tx = true) :
    Ev prog polW (.call 16 [.ptr p 0]) H fun o H' => ∃ v,o = .val v∧AV.one v = true∧v.cells = [v]∧PErr p (.slice BT 0 toks.length toks.length 7) (.sc (.int .i64 ((i + 1 : Nat) : Int))) (.sc (.int .i64 N)) (.sc (.int .i64 L)) (.slice bsc 0 1 1 1) (.map bk) (.sc (.int .i64 1)) (.sc (.int .i64 t0.col)) 13 H'∧Only [p] H H':=by
  refine wpF_ok ok16 ?_
  simp -implicitDefEqProofs (maxDischargeDepth:=12) only [wpF,cf16,WW,List.replicate,Option.some_or,s_conv,e_conv,s_slc3,e_cut3,e_cut3n,e_bns,e_bnn,e_splice,if_true,if_false,ite_true,ite_false,true_or,ne_eq,seval,h_putc,beq_self_eq_true,eq_self,exists_eq_left,exists_eq_left']
  refine wA_call rfl ((acc_yes h e htl _ hlet).mono ?_)
  rintro o H1 ⟨v,rfl,rfl,hH1,eH1,oH1⟩
  refine ⟨_,rfl,fun c hc => by simp at hc,?_⟩
  simp -implicitDefEqProofs (maxDischargeDepth:=12) only [tI_normal,tI_exit,tI_ret,WW,List.replicate,Option.some_or,s_conv,e_conv,s_slc3,e_cut3,e_cut3n,e_bns,e_bnn,e_splice,if_true,if_false,ite_true,ite_false,true_or,ne_eq,seval,h_putc,beq_self_eq_true,eq_self,exists_eq_left,exists_eq_left']
  refine wA_call rfl ((let_err hH1 eH1 ht0 hk h1).mono ?_)
  rintro o H2 ⟨v,rfl,hv1,hv2,g2,o2⟩
  refine ⟨_,rfl,fun c hc => by simp at hc,?_⟩
  simp -implicitDefEqProofs (maxDischargeDepth:=12) only [WW,List.replicate,Option.some_or,s_conv,e_conv,s_slc3,e_cut3,e_cut3n,e_bns,e_bnn,e_splice,if_true,if_false,ite_true,ite_false,true_or,ne_eq,seval,h_putc,beq_self_eq_true,eq_self,exists_eq_left,exists_eq_left',hv1,hv2]
  exact ⟨g2,oH1.trans o2⟩
end
end Go.Hem
namespace Go.Hem
theorem Parse_bad (s : ByteArray) (hs : s.size ≤ 16384) (l : List Pc) (hl : s.data.toList = textOf l) (hok : pcsOk l = true) {t0 t1 : TkD} (ht0 : (toksD 0 true l)[0]? = some t0) (hk0 : ¬ t0.k = 0) (hlet : isB t0 ⟨#[108,101,116]⟩ = true)
    (ht1 : (toksD 0 true l)[1]? = some t1) (hk1 : t1.k = 1) (hw1 : inB kwL t1.tx = true) (H : AHeap) :
    Ev prog polW (.call 7 [.sc (.str s)]) H fun o H' => ∃ v,o = .val v∧v = .tup [.sc .nilp,.sc (.int .i64 1),.sc (.int .i64 t1.col),.sc (.int .i64 13)]:=by
  have c1 : ¬ (16384 : Int) < (s.size : Int):=by omega
  refine wpF_ok ok7 ?_
  simp -implicitDefEqProofs (maxDischargeDepth:=12) only [wpF,cf7,WW,List.replicate,Option.some_or,s_conv,e_conv,s_slc3,e_cut3,e_cut3n,e_bns,e_bnn,e_splice,if_true,if_false,ite_true,ite_false,true_or,ne_eq,seval,h_putc,beq_self_eq_true,eq_self,exists_eq_left,exists_eq_left',c1,gt_iff_lt,s_mkmap,o_map,c_map,h_allocm]
  refine wA_call rfl ((Scan_ev s hs l hl hok _).mono ?_)
  rintro o H1 ⟨v,rfl,BT,rfl,hBT,ho1,hle⟩
  refine ⟨_,rfl,fun c hc => by simp at hc,?_⟩
  simp only [AHeap.next_alloc] at hle
  have q1 : ¬ H.next + 1 = H.next + 1 + 1:=by omega
  have q2 : ¬ H.next + 1 = H.next + 1 + 1 + 1:=by omega
  have q3 : ¬ H.next + 1 + 1 = H.next + 1 + 1 + 1:=by omega
  have q4 : ¬ H.next = H.next + 1 + 1 + 1:=by omega
  have q5 : ¬ H.next = H.next + 1 + 1:=by omega
  have q6 : ¬ H.next = H.next + 1:=by omega
  have gp:=ho1.cells (H.next + 1 + 1 + 1) (by simp only [AHeap.next_alloc]; omega) (by simp)
  have gs:=ho1.cells (H.next + 1) (by simp only [AHeap.next_alloc]; omega) (by simp)
  have gk:=ho1.map (H.next + 1 + 1) (by simp only [AHeap.next_alloc]; omega) (by simp)
  have g0:=ho1.map H.next (by simp only [AHeap.next_alloc]; omega) (by simp)
  simp -implicitDefEqProofs (maxDischargeDepth:=12) only [WW,List.replicate,Option.some_or,s_conv,e_conv,s_slc3,e_cut3,e_cut3n,e_bns,e_bnn,e_splice,if_true,if_false,ite_true,ite_false,true_or,ne_eq,seval,h_putc,beq_self_eq_true,eq_self,exists_eq_left,exists_eq_left',h_allocm,q1,q2,q3,q4,q5,q6] at gp gs
  rw [map_alloc (by simp),map_allocm,if_pos (by simp)] at gk
  rw [map_alloc (by simp only [AHeap.next_alloc]; omega),map_allocm,if_neg (by simp only [AHeap.next_alloc]; omega),map_alloc (by simp),map_allocm,if_pos rfl] at g0
  have n1:=ho1.next
  simp only [AHeap.next_alloc] at n1
  simp -implicitDefEqProofs (maxDischargeDepth:=12) only [WW,List.replicate,Option.some_or,s_conv,e_conv,s_slc3,e_cut3,e_cut3n,e_bns,e_bnn,e_splice,if_true,if_false,ite_true,ite_false,true_or,ne_eq,seval,h_putc,beq_self_eq_true,eq_self,exists_eq_left,exists_eq_left',gp]
  have lBT:=cells_lt hBT
  have lp:=cells_lt gp
  have m1 : ¬ BT = H.next + 1 + 1 + 1:=by omega
  have o2 : Only [H.next + 1 + 1 + 1] H1 (H1.put (H.next + 1 + 1 + 1) (some (.cells [.slice BT 0 (l.length + 1) (l.length + 1) 7,.sc (.int .i64 0),.sc (.int .i64 0),.sc (.int .i64 0),.slice (H.next + 1) 0 1 1 1,.map (H.next + 1 + 1),.sc (.int .i64 0),.sc (.int .i64 0),.sc (.int .i64 0)]))):=by (repeat (first | exact Only.refl | refine Only.put ?_ (by first | (right; omega) | (left; exact List.mem_cons_self ..) | (left; simp [fpS])) | refine Only.alloc ?_))
  have g2 : PSt (H.next + 1 + 1 + 1) BT (toksD 0 true l) 0 0 0 (.slice (H.next + 1) 0 1 1 1) (.map (H.next + 1 + 1)) (H1.put (H.next + 1 + 1 + 1) (some (.cells [.slice BT 0 (l.length + 1) (l.length + 1) 7,.sc (.int .i64 0),.sc (.int .i64 0),.sc (.int .i64 0),.slice (H.next + 1) 0 1 1 1,.map (H.next + 1 + 1),.sc (.int .i64 0),.sc (.int .i64 0),.sc (.int .i64 0)]))):=by
    refine ⟨?_,?_,by omega,?_⟩
    · rw [toksD_length]; simp -implicitDefEqProofs (maxDischargeDepth:=12) only [WW,List.replicate,Option.some_or,s_conv,e_conv,s_slc3,e_cut3,e_cut3n,e_bns,e_bnn,e_splice,if_true,if_false,ite_true,ite_false,true_or,ne_eq,seval,h_putc,beq_self_eq_true,eq_self,exists_eq_left,exists_eq_left',gp]
    · rw [← toksD_eq]; simp -implicitDefEqProofs (maxDischargeDepth:=12) only [WW,List.replicate,Option.some_or,s_conv,e_conv,s_slc3,e_cut3,e_cut3n,e_bns,e_bnn,e_splice,if_true,if_false,ite_true,ite_false,true_or,ne_eq,seval,h_putc,beq_self_eq_true,eq_self,exists_eq_left,exists_eq_left',gp,hBT,m1]
    · rw [toksD_length]; have:=ba_size s; rw [hl] at this; have:=pcs_len l hok; omega
  have e2 : PEn (H.next + 1 + 1 + 1) (H.next + 1 + 1) (H.next + 1) H.next [] [] (H1.put (H.next + 1 + 1 + 1) (some (.cells [.slice BT 0 (l.length + 1) (l.length + 1) 7,.sc (.int .i64 0),.sc (.int .i64 0),.sc (.int .i64 0),.slice (H.next + 1) 0 1 1 1,.map (H.next + 1 + 1),.sc (.int .i64 0),.sc (.int .i64 0),.sc (.int .i64 0)]))) :=
    (show PEn (H.next + 1 + 1 + 1) (H.next + 1 + 1) (H.next + 1) H.next [] [] H1 from ⟨gk,gs,g0,by omega,by omega,by omega,by omega⟩).p o2
  have lps:=cells_lt g2.cells
  generalize (H1.put (H.next + 1 + 1 + 1) (some (.cells [.slice BT 0 (l.length + 1) (l.length + 1) 7,.sc (.int .i64 0),.sc (.int .i64 0),.sc (.int .i64 0),.slice (H.next + 1) 0 1 1 1,.map (H.next + 1 + 1),.sc (.int .i64 0),.sc (.int .i64 0),.sc (.int .i64 0)]))) = H2 at g2 e2 lps ⊢
  refine wA_pure rfl kwW_pv ?_
  simp -implicitDefEqProofs (maxDischargeDepth:=12) only [WW,List.replicate,Option.some_or,s_conv,e_conv,s_slc3,e_cut3,e_cut3n,e_bns,e_bnn,e_splice,if_true,if_false,ite_true,ite_false,true_or,ne_eq,seval,h_putc,beq_self_eq_true,eq_self,exists_eq_left,exists_eq_left',kw_len]
  have kl : kwL.length = 33:=rfl
  refine wp_loop (Inv:=fun k t H' => ∃ i : Nat,i + k = 33∧PSt (H.next + 1 + 1 + 1) BT (toksD 0 true l) 0 0 0 (.slice (H.next + 1) 0 1 1 1) (.map (H.next + 1 + 1)) H'∧PEn (H.next + 1 + 1 + 1) (H.next + 1 + 1) (H.next + 1) H.next (kwL.take i) [] H' ∧
    ∃ x : Nat→AV,t = [.sc (.str s),x 1,.sc .nilp,.sc (.int .i64 0),.sc (.int .i64 0),.sc (.int .i64 0),.ptr (H.next + 1 + 1 + 1) 0,x 7,x 8,x 9,x 10,x 11,x 12,x 13,x 14,x 15,x 16,x 17,x 18,x 19,x 20,x 21,x 22,x 23,x 24,x 25,x 26,x 27,x 28,x 29,x 30,x 31,kwVal,.sc (.int .i64 33),.sc (.int .i64 (i : Int)),x 35,x 36,x 37,x 38,x 39,x 40,x 41,x 42,x 43,x 44,x 45,x 46,x 47,x 48,x 49,x 50,x 51,x 52,x 53,x 54,x 55,x 56,x 57,x 58,x 59,x 60,x 61,x 62,x 63,x 64,x 65,x 66,x 67,x 68,x 69,x 70,x 71,x 72,x 73,x 74,x 75,x 76,x 77,x 78,x 79,x 80,x 81,x 82,x 83,x 84,x 85,x 86,x 87,x 88,x 89]) (k:=33) ?_ ⟨0,rfl,g2,e2,ex_x rfl⟩
  rintro k t H3 ⟨i,hk,g3,e3,x,rfl⟩
  by_cases c0 : i < 33
  · have c2 : (i : Int) < 33:=by omega
    obtain ⟨w,hw,hnew,htake⟩:=kw_step c0
    obtain ⟨z,hz,hr⟩:=kw_elem hw
    have hp3:=g3.cells
    have hpt:=putW e3.mw hnew
    simp -implicitDefEqProofs (maxDischargeDepth:=12) only [WW,List.replicate,Option.some_or,s_conv,e_conv,s_slc3,e_cut3,e_cut3n,e_bns,e_bnn,e_splice,if_true,if_false,ite_true,ite_false,true_or,ne_eq,seval,h_putc,beq_self_eq_true,eq_self,exists_eq_left,exists_eq_left',c2,hz,hr,hp3,s_mpup,hpt,wA_memM,wrap1 c0 (show 33 < 2 ^ 31 by omega)]
    have o4 : Only [H.next + 1 + 1] H3 (H3.put (H.next + 1 + 1) (some (.map (wmap (kwL.take i ++ [w]))))):=by (repeat (first | exact Only.refl | refine Only.put ?_ (by first | (right; omega) | (left; exact List.mem_cons_self ..) | (left; simp [fpS])) | refine Only.alloc ?_))
    have nb : BT ≠ H.next + 1 + 1:=fun q => by have:=map_cells e3.mw; rw [← q,g3.tb] at this; cases this
    exact ⟨k - 1,by omega,i + 1,by omega,g3.only o4 (by simp) (by simpa using nb),by rw [← htake]; exact e3.putk,ex_x rfl⟩
  · have c2 : ¬ (i : Int) < 33:=by omega
    obtain rfl : i = 33:=by omega
    rw [show kwL.take 33 = kwL from rfl] at e3
    have hp3:=g3.cells
    simp -implicitDefEqProofs (maxDischargeDepth:=12) only [WW,List.replicate,Option.some_or,s_conv,e_conv,s_slc3,e_cut3,e_cut3n,e_bns,e_bnn,e_splice,if_true,if_false,ite_true,ite_false,true_or,ne_eq,seval,h_putc,beq_self_eq_true,eq_self,exists_eq_left,exists_eq_left',c2,hp3]
    rw [← toksD_length l 0 true] at *
    have o4 : Only [] H3 (H3.alloc (.cells [.slice BT 0 (toksD 0 true l).length (toksD 0 true l).length 7,.sc .nils])):=by (repeat (first | exact Only.refl | refine Only.put ?_ (by first | (right; omega) | (left; exact List.mem_cons_self ..) | (left; simp [fpS])) | refine Only.alloc ?_))
    have g4:=g3.only o4 (by simp) (by simp)
    have e4:=e3.only o4 (by simp) (by simp) (by simp)
    have lp3:=cells_lt hp3
    have l03:=map_lt e3.m0
    have x4 : (H3.alloc (.cells [.slice BT 0 (toksD 0 true l).length (toksD 0 true l).length 7,.sc .nils])).cells H3.next = some [.slice BT 0 (toksD 0 true l).length (toksD 0 true l).length 7,.sc .nils]:=by simp -implicitDefEqProofs (maxDischargeDepth:=12) only [WW,List.replicate,Option.some_or,s_conv,e_conv,s_slc3,e_cut3,e_cut3n,e_bns,e_bnn,e_splice,if_true,if_false,ite_true,ite_false,true_or,ne_eq,seval,h_putc,beq_self_eq_true,eq_self,exists_eq_left,exists_eq_left']
    have n4 : H3.next < (H3.alloc (.cells [.slice BT 0 (toksD 0 true l).length (toksD 0 true l).length 7,.sc .nils])).next:=by simp
    generalize (H3.alloc (.cells [.slice BT 0 (toksD 0 true l).length (toksD 0 true l).length 7,.sc .nils])) = H4 at g4 e4 x4 n4 ⊢
    have hp4:=g4.cells
    refine wp_unroll 3 ?_
    simp -implicitDefEqProofs (maxDischargeDepth:=12) only [WW,List.replicate,Option.some_or,s_conv,e_conv,s_slc3,e_cut3,e_cut3n,e_bns,e_bnn,e_splice,if_true,if_false,ite_true,ite_false,true_or,ne_eq,seval,h_putc,beq_self_eq_true,eq_self,exists_eq_left,exists_eq_left',hp4]
    refine wA_call rfl ((peek_ev g4 ht0).mono ?_)
    rintro o H5 ⟨v,rfl,rfl,ho5⟩
    refine ⟨_,rfl,fun c hc => by simp at hc,?_⟩
    have g5:=g4.only ho5 (by simp) (by simp)
    have e5:=e4.only ho5 (by simp) (by simp) (by simp)
    have x5:=(ho5.cells _ n4 (by simp)).trans x4
    have n5:=ho5.next
    simp -implicitDefEqProofs (maxDischargeDepth:=12) only [WW,List.replicate,Option.some_or,s_conv,e_conv,s_slc3,e_cut3,e_cut3n,e_bns,e_bnn,e_splice,if_true,if_false,ite_true,ite_false,true_or,ne_eq,seval,h_putc,beq_self_eq_true,eq_self,exists_eq_left,exists_eq_left',TkD.cells,hk0,x5]
    refine wA_call rfl ((stm_err g5 e5 ht0 hlet ht1 hk1 hw1).mono ?_)
    rintro o H6 ⟨w1,rfl,hw1,hc1,g6,o6⟩
    have x6:=(o6.cells H3.next (by omega) (by simp; omega)).trans x5
    refine ⟨_,rfl,fun c hc => ?_,?_⟩
    · simp at hc; subst hc; simp -implicitDefEqProofs (maxDischargeDepth:=12) only [WW,List.replicate,Option.some_or,s_conv,e_conv,s_slc3,e_cut3,e_cut3n,e_bns,e_bnn,e_splice,if_true,if_false,ite_true,ite_false,true_or,ne_eq,seval,h_putc,beq_self_eq_true,eq_self,exists_eq_left,exists_eq_left',x5,x6]
    have n6:=o6.next
    have os1 : AV.ones [w1] = true:=by rw [os_cons,hw1]; rfl
    have nx6 : ¬ H3.next = H6.next:=by omega
    simp -implicitDefEqProofs (maxDischargeDepth:=12) only [WW,List.replicate,Option.some_or,s_conv,e_conv,s_slc3,e_cut3,e_cut3n,e_bns,e_bnn,e_splice,if_true,if_false,ite_true,ite_false,true_or,ne_eq,seval,h_putc,beq_self_eq_true,eq_self,exists_eq_left,exists_eq_left',hw1,hc1,os1,x6,nx6]
    rw [appn_nil (n:=1) (bytes:=16) (H:=H6.alloc (.cells [w1])) (b':=H6.next) (xs:=[w1]) (by simp -implicitDefEqProofs (maxDischargeDepth:=12) only [WW,List.replicate,Option.some_or,s_conv,e_conv,s_slc3,e_cut3,e_cut3n,e_bns,e_bnn,e_splice,if_true,if_false,ite_true,ite_false,true_or,ne_eq,seval,h_putc,beq_self_eq_true,eq_self,exists_eq_left,exists_eq_left']) rfl (by decide)]
    have nx7 : ¬ H3.next = H6.next + 1:=by omega
    simp -implicitDefEqProofs (maxDischargeDepth:=12) only [tI_normal,WW,List.replicate,Option.some_or,s_conv,e_conv,s_slc3,e_cut3,e_cut3n,e_bns,e_bnn,e_splice,if_true,if_false,ite_true,ite_false,true_or,ne_eq,seval,h_putc,beq_self_eq_true,eq_self,exists_eq_left,exists_eq_left',x6,nx6,nx7]
    have hp6 : H6.cells _ = _:=g6
    have lp6:=cells_lt hp6
    have o7 : Only [H3.next] H6 (((H6.alloc (.cells [w1])).alloc (.cells [w1])).put H3.next (some (.cells [.slice BT 0 (toksD 0 true l).length (toksD 0 true l).length 7,.slice (H6.next + 1) 0 1 1 1]))):=by (repeat (first | exact Only.refl | refine Only.put ?_ (by first | (right; omega) | (left; exact List.mem_cons_self ..) | (left; simp [fpS])) | refine Only.alloc ?_))
    have hp7:=(o7.cells _ lp6 (by simp; omega)).trans hp6
    generalize (((H6.alloc (.cells [w1])).alloc (.cells [w1])).put H3.next (some (.cells [.slice BT 0 (toksD 0 true l).length (toksD 0 true l).length 7,.slice (H6.next + 1) 0 1 1 1]))) = H7 at hp7 ⊢
    refine wpI_succ ?_
    simp -implicitDefEqProofs (maxDischargeDepth:=12) only [tI_exit,WW,List.replicate,Option.some_or,s_conv,e_conv,s_slc3,e_cut3,e_cut3n,e_bns,e_bnn,e_splice,if_true,if_false,ite_true,ite_false,true_or,ne_eq,seval,h_putc,beq_self_eq_true,eq_self,exists_eq_left,exists_eq_left',hp7,show ¬ (13 : Int) = 0 by decide]
    exact ⟨_,rfl,rfl⟩
def bdPcs (w : List UInt8) : List Pc:=[⟨0,1,[108,101,116]⟩,⟨1,1,w⟩,⟨1,4,[61]⟩,⟨1,2,[49]⟩,⟨0,4,[59]⟩]
theorem bd_all : (kwL.all fun w => pcsOk (bdPcs w.data.toList) && decide ((textOf (bdPcs w.data.toList)).length ≤ 100)) = true:=by decide +kernel
theorem parse_bd {w : ByteArray} (hw : w ∈ kwL) (s : ByteArray) (hs : s.data.toList = textOf (bdPcs w.data.toList)) (H : AHeap) :
    Ev prog polW (.call 7 [.sc (.str s)]) H fun o H' => ∃ v,o = .val v∧v = .tup [.sc .nilp,.sc (.int .i64 1),.sc (.int .i64 5),.sc (.int .i64 13)]:=by
  have h:=List.all_eq_true.1 bd_all w hw
  simp only [Bool.and_eq_true,decide_eq_true_eq] at h
  have hba : ba w.data.toList = w:=rfl
  obtain ⟨c0,j0,e0⟩ : ∃ c j,(toksD 0 true (bdPcs w.data.toList))[0]? = some ⟨1,ba [108,101,116],0,c,j⟩:=⟨_,_,rfl⟩
  obtain ⟨j1,e1⟩ : ∃ j,(toksD 0 true (bdPcs w.data.toList))[1]? = some ⟨1,w,0,5,j⟩:=⟨_,rfl⟩
  have lt : isB ⟨1,ba [108,101,116],0,c0,j0⟩ ⟨#[108,101,116]⟩ = true:=by
    unfold isB
    rw [ba_toList,show (⟨#[108,101,116]⟩ : ByteArray).toList = [108,101,116] from by rw [ByteArray.toList_eq]]
    rfl
  have hin : inB kwL w = true:=by
    unfold inB
    rw [List.any_eq_true]
    exact ⟨w,hw,by simp⟩
  exact Parse_bad s (by rw [ba_size,hs]; omega) (bdPcs w.data.toList) hs h.1 e0 (show ¬ (1 : Int) = 0 by decide) lt e1 rfl hin H
end Go.Hem
set_option maxRecDepth 10000
namespace Go.Hem
section
variable {P : Program} {pol : Pol} {x : AV} {t : List AV} {H : AHeap}
theorem s_bytes {y : Operand} : csem P t H (.bytes y) = (bytesFrom (aev t y)).map .fzn:=rfl
theorem e_bytes {s : ByteArray} : bytesFrom (.sc (.str s)) = some (bytesAV s):=rfl
theorem wA_fzn {v : AV} {rd : List COp} {is : List CI} {dst : Option Tmp} {R : List AV→AHeap→Prop} : wA P pol rd is dst (x :: t) H R (some true) (some (.fzn v)) = wpIns P pol is (putT (x :: t) dst v) H R:=rfl
end
theorem kwl_run : isV (xPure (Y prog polW memo0 tab 1000) 5 []) kwVal = true:=by decide +kernel
theorem kwl_pv : Pv prog polW 5 [] kwVal:=pv_of_y tab_ok memo0_ok rfl (isV_spec kwl_run)
theorem inB_take {s w : ByteArray} {i : Nat} (h : kwL[i]? = some w) : inB (kwL.take (i + 1)) s = (inB (kwL.take i) s || (s.toList == w.toList)):=by
  obtain ⟨h1,rfl⟩:=List.getElem?_eq_some_iff.1 h
  unfold inB
  rw [← List.take_append_getElem h1,List.any_append]
  simp
theorem has_ev (s : ByteArray) (H : AHeap) : Ev prog polW (.call 9 [kwVal,.sc (.str s)]) H fun o H' => ∃ v,o = .val v∧v = .sc (.bool (inB kwL s)):=by
  refine wpF_ok ok9 ?_
  simp -implicitDefEqProofs (maxDischargeDepth:=12) only [wpF,cf9,WW,List.replicate,Option.some_or,s_conv,e_conv,s_slc3,e_cut3,e_cut3n,e_bns,e_bnn,e_splice,if_true,if_false,ite_true,ite_false,true_or,ne_eq,seval,h_putc,beq_self_eq_true,eq_self,exists_eq_left,exists_eq_left']
  refine wp_loop (Inv:=fun k t H' => ∃ i : Nat,i + k = 33∧inB (kwL.take i) s = false∧∃ x : Nat→AV,t = [kwVal,.sc (.str s),x 2,x 3,.sc (.bool false),.sc (.int .i64 (i : Int)),x 6,x 7,x 8,x 9,x 10,x 11,x 12,x 13,x 14,x 15,x 16,x 17]) (k:=33) ?_ ⟨0,rfl,rfl,ex_x rfl⟩
  rintro k t H3 ⟨i,hk,hn,x,rfl⟩
  by_cases c0 : i < 33
  · have c2 : (i : Int) < 33:=by omega
    obtain ⟨w,hw,_,_⟩:=kw_step c0
    obtain ⟨z,hz,hr⟩:=kw_elem hw
    have hq:=inB_take (s:=s) hw
    rw [hn,Bool.false_or] at hq
    cases q : w.toList == s.toList with
    | true =>
      have hin : inB kwL s = true:=by
        unfold inB
        rw [List.any_eq_true]
        exact ⟨w,List.mem_of_getElem? hw,by rw [beq_iff_eq] at q ⊢; exact q.symm⟩
      simp -implicitDefEqProofs (maxDischargeDepth:=12) only [WW,List.replicate,Option.some_or,s_conv,e_conv,s_slc3,e_cut3,e_cut3n,e_bns,e_bnn,e_splice,if_true,if_false,ite_true,ite_false,true_or,ne_eq,seval,h_putc,beq_self_eq_true,eq_self,exists_eq_left,exists_eq_left',kw_len,c2,hz,hr,q,hin]
    | false =>
      simp -implicitDefEqProofs (maxDischargeDepth:=12) only [WW,List.replicate,Option.some_or,s_conv,e_conv,s_slc3,e_cut3,e_cut3n,e_bns,e_bnn,e_splice,if_true,if_false,ite_true,ite_false,true_or,ne_eq,seval,h_putc,beq_self_eq_true,eq_self,exists_eq_left,exists_eq_left',kw_len,c2,hz,hr,q,wrap1 c0 (show 33 < 2 ^ 31 by omega)]
      refine ⟨k - 1,by omega,i + 1,by omega,?_,ex_x rfl⟩
      rw [hq,Bool.eq_false_iff]
      intro h
      rw [beq_iff_eq] at h
      rw [h,beq_self_eq_true] at q
      cases q
  · have c2 : ¬ (i : Int) < 33:=by omega
    obtain rfl : i = 33:=by omega
    have hin : inB kwL s = false:=hn
    simp -implicitDefEqProofs (maxDischargeDepth:=12) only [WW,List.replicate,Option.some_or,s_conv,e_conv,s_slc3,e_cut3,e_cut3n,e_bns,e_bnn,e_splice,if_true,if_false,ite_true,ite_false,true_or,ne_eq,seval,h_putc,beq_self_eq_true,eq_self,exists_eq_left,exists_eq_left',kw_len,c2,hin]
theorem len_bytes {s : ByteArray} : lenOf (bytesAV s) = some (.sc (.int .i64 (s.data.toList.length : Int))):=by
  simp [lenOf,bytesAV]
theorem elem_bytes {s : ByteArray} {i : Nat} {c : UInt8} (h : s.data.toList[i]? = some c) : elemAt 1 (bytesAV s) i = some (.iptr [.sc (.int .u8 ((c.toNat : Nat) : Int))]):=by
  simp only [elemAt,bytesAV,List.getElem?_map,h,Option.map_some,Option.bind_some]
  rfl
theorem callee_w1 (args : List AV) : acallee prog 19 args = some (.call 19 args):=acB_spec ac19 args
theorem w1_ev (c : UInt8) (H : AHeap) : Ev prog polW (.call 19 [.sc (.int .u8 ((c.toNat : Nat) : Int))]) H fun o H' => ∃ v,o = .val v∧v = .sc (.bool (!isInW c)):=by
  refine wpF_ok ok19 ?_
  simp -implicitDefEqProofs (maxDischargeDepth:=12) only [wpF,cf19,WW,List.replicate,Option.some_or,s_conv,e_conv,s_slc3,e_cut3,e_cut3n,e_bns,e_bnn,e_splice,if_true,if_false,ite_true,ite_false,true_or,ne_eq,seval,h_putc,beq_self_eq_true,eq_self,exists_eq_left,exists_eq_left']
  refine wA_pure rfl (inWord_pv c) ?_
  simp -implicitDefEqProofs (maxDischargeDepth:=12) only [WW,List.replicate,Option.some_or,s_conv,e_conv,s_slc3,e_cut3,e_cut3n,e_bns,e_bnn,e_splice,if_true,if_false,ite_true,ite_false,true_or,ne_eq,seval,h_putc,beq_self_eq_true,eq_self,exists_eq_left,exists_eq_left']
theorem ix_ev (s : ByteArray) (hs : s.data.toList.length < 2 ^ 31) (H : AHeap) : Ev prog polW (.call 46 [bytesAV s,.func (.func 19) [] []]) H fun o H' => ∃ v,o = .val v∧∃ n : Int,v = .sc (.int .i64 n)∧(n < 0→s.data.toList.all isInW = true):=by
  refine wpF_ok ok46 ?_
  simp -implicitDefEqProofs (maxDischargeDepth:=12) only [wpF,cf46,WW,List.replicate,Option.some_or,s_conv,e_conv,s_slc3,e_cut3,e_cut3n,e_bns,e_bnn,e_splice,if_true,if_false,ite_true,ite_false,true_or,ne_eq,seval,h_putc,beq_self_eq_true,eq_self,exists_eq_left,exists_eq_left',len_bytes]
  refine wp_loop (Inv:=fun k t H' => ∃ i : Nat,i + k = s.data.toList.length∧(s.data.toList.take i).all isInW = true∧∃ x : Nat→AV,t = [bytesAV s,.func (.func 19) [] [],x 2,x 3,x 4,x 5,x 6,.sc (.int .i64 (s.data.toList.length : Int)),.sc (.int .i64 (i : Int)),x 9,x 10,x 11,x 12,x 13,x 14,x 15,x 16,x 17,x 18]) (k:=s.data.toList.length) ?_ ⟨0,by omega,rfl,ex_x rfl⟩
  rintro k t H3 ⟨i,hk,hn,x,rfl⟩
  by_cases c0 : i < s.data.toList.length
  · have c2 : (i : Int) < (s.data.toList.length : Int):=by omega
    obtain ⟨c,hc⟩ : ∃ c,s.data.toList[i]? = some c:=⟨_,List.getElem?_eq_getElem c0⟩
    have he:=elem_bytes hc
    simp -implicitDefEqProofs (maxDischargeDepth:=12) only [WW,List.replicate,Option.some_or,s_conv,e_conv,s_slc3,e_cut3,e_cut3n,e_bns,e_bnn,e_splice,if_true,if_false,ite_true,ite_false,true_or,ne_eq,seval,h_putc,beq_self_eq_true,eq_self,exists_eq_left,exists_eq_left',c2,he,e_callf,callee_w1]
    refine wA_call rfl ((w1_ev c _).mono ?_)
    rintro o H4 ⟨v,rfl,rfl⟩
    refine ⟨_,rfl,fun c hc => by simp at hc,?_⟩
    cases q : isInW c with
    | true =>
      simp -implicitDefEqProofs (maxDischargeDepth:=12) only [WW,List.replicate,Option.some_or,s_conv,e_conv,s_slc3,e_cut3,e_cut3n,e_bns,e_bnn,e_splice,if_true,if_false,ite_true,ite_false,true_or,ne_eq,seval,h_putc,beq_self_eq_true,eq_self,exists_eq_left,exists_eq_left',wrap1 c0 hs]
      refine ⟨k - 1,by omega,i + 1,by omega,?_,ex_x rfl⟩
      obtain ⟨h1,h2⟩:=List.getElem?_eq_some_iff.1 hc
      rw [← List.take_append_getElem h1,h2,List.all_append,hn]
      simp [q]
    | false =>
      simp -implicitDefEqProofs (maxDischargeDepth:=12) only [WW,List.replicate,Option.some_or,s_conv,e_conv,s_slc3,e_cut3,e_cut3n,e_bns,e_bnn,e_splice,if_true,if_false,ite_true,ite_false,true_or,ne_eq,seval,h_putc,beq_self_eq_true,eq_self,exists_eq_left,exists_eq_left']
      exact ⟨_,rfl,fun h => by omega⟩
  · have c2 : ¬ (i : Int) < (s.data.toList.length : Int):=by omega
    simp -implicitDefEqProofs (maxDischargeDepth:=12) only [WW,List.replicate,Option.some_or,s_conv,e_conv,s_slc3,e_cut3,e_cut3n,e_bns,e_bnn,e_splice,if_true,if_false,ite_true,ite_false,true_or,ne_eq,seval,h_putc,beq_self_eq_true,eq_self,exists_eq_left,exists_eq_left',c2]
    refine ⟨_,rfl,fun _ => ?_⟩
    rw [show i = s.data.toList.length by omega,List.take_length] at hn
    exact hn
theorem word_ev (s : ByteArray) (hs : s.size ≤ 20) (H : AHeap) : Ev prog polW (.call 8 [.sc (.str s)]) H fun o H' => ∃ v,o = .val v∧∃ b : Bool,v = .sc (.bool b)∧(b = true→∃ c r,s.data.toList = c :: r∧isLetter c = true∧r.all isInW = true):=by
  have c1 : ¬ (64 : Int) < (s.size : Int):=by omega
  refine wpF_ok ok8 ?_
  cases hl : s.data.toList with
  | nil =>
    have hz : s = ⟨#[]⟩:=by apply bytes_of_toList; rw [ByteArray.toList_eq,hl]; simp
    subst hz
    simp -implicitDefEqProofs (maxDischargeDepth:=12) only [wpF,cf8,WW,List.replicate,Option.some_or,s_conv,e_conv,s_slc3,e_cut3,e_cut3n,e_bns,e_bnn,e_splice,if_true,if_false,ite_true,ite_false,true_or,ne_eq,seval,h_putc,beq_self_eq_true,eq_self,exists_eq_left,exists_eq_left']
    exact ⟨_,rfl,fun h => by cases h⟩
  | cons c r =>
    have hne : (s.toList == (⟨#[]⟩ : ByteArray).toList) = false:=by
      rw [beq_eq_false_iff_ne,ByteArray.toList_eq,ByteArray.toList_eq,hl]; simp
    have h0 : s[0]? = some c:=by rw [ba_get,hl]; rfl
    simp -implicitDefEqProofs (maxDischargeDepth:=12) only [wpF,cf8,WW,List.replicate,Option.some_or,s_conv,e_conv,s_slc3,e_cut3,e_cut3n,e_bns,e_bnn,e_splice,if_true,if_false,ite_true,ite_false,true_or,ne_eq,seval,h_putc,beq_self_eq_true,eq_self,exists_eq_left,exists_eq_left',hne,c1,gt_iff_lt,e_strAt,h0]
    refine wA_pure rfl (letter_pv c) ?_
    cases q : isLetter c with
    | false =>
      simp -implicitDefEqProofs (maxDischargeDepth:=12) only [WW,List.replicate,Option.some_or,s_conv,e_conv,s_slc3,e_cut3,e_cut3n,e_bns,e_bnn,e_splice,if_true,if_false,ite_true,ite_false,true_or,ne_eq,seval,h_putc,beq_self_eq_true,eq_self,exists_eq_left,exists_eq_left']
      exact ⟨_,rfl,fun h => by cases h⟩
    | true =>
      simp -implicitDefEqProofs (maxDischargeDepth:=12) only [WW,List.replicate,Option.some_or,s_conv,e_conv,s_slc3,e_cut3,e_cut3n,e_bns,e_bnn,e_splice,if_true,if_false,ite_true,ite_false,true_or,ne_eq,seval,h_putc,beq_self_eq_true,eq_self,exists_eq_left,exists_eq_left',s_bytes,e_bytes,wA_fzn,ev_fun]
      refine wA_call rfl (wpF_ok ok18 ?_)
      simp -implicitDefEqProofs (maxDischargeDepth:=12) only [wpF,cf18,WW,List.replicate,Option.some_or,s_conv,e_conv,s_slc3,e_cut3,e_cut3n,e_bns,e_bnn,e_splice,if_true,if_false,ite_true,ite_false,true_or,ne_eq,seval,h_putc,beq_self_eq_true,eq_self,exists_eq_left,exists_eq_left']
      refine wA_call rfl ((ix_ev s (by rw [← ba_size]; omega) _).mono ?_)
      rintro o H1 ⟨v,rfl,n,rfl,hn⟩
      refine ⟨_,rfl,fun c hc => by simp at hc,?_⟩
      by_cases cn : (0 : Int) ≤ n
      · simp -implicitDefEqProofs (maxDischargeDepth:=12) only [WW,List.replicate,Option.some_or,s_conv,e_conv,s_slc3,e_cut3,e_cut3n,e_bns,e_bnn,e_splice,if_true,if_false,ite_true,ite_false,true_or,ne_eq,seval,h_putc,beq_self_eq_true,eq_self,exists_eq_left,exists_eq_left',ge_iff_le,cn]
        exact ⟨_,rfl,fun h => by cases h⟩
      · simp -implicitDefEqProofs (maxDischargeDepth:=12) only [WW,List.replicate,Option.some_or,s_conv,e_conv,s_slc3,e_cut3,e_cut3n,e_bns,e_bnn,e_splice,if_true,if_false,ite_true,ite_false,true_or,ne_eq,seval,h_putc,beq_self_eq_true,eq_self,exists_eq_left,exists_eq_left',ge_iff_le,cn]
        refine ⟨_,rfl,fun _ => ⟨c,r,rfl,q,?_⟩⟩
        have:=hn (by omega)
        rw [hl] at this
        simp only [List.all_cons,Bool.and_eq_true] at this
        exact this.2
end Go.Hem
namespace Go.Hem
theorem cat_ok {a b : ByteArray} (h : a.size + b.size ≤ 1000) : bstrOf .add (.sc (.str a)) (.sc (.str b)) = some (.sc (.str (a ++ b))):=by
  unfold bstrOf
  simp only
  rw [if_neg]
  show ¬ (((a.size + b.size : Nat) : Int) > 9223372036854775807)
  omega
theorem cat_list (a b : ByteArray) : (a ++ b).data.toList = a.data.toList ++ b.data.toList:=by simp
theorem cat_size (a b : ByteArray) : (a ++ b).size = a.size + b.size:=by simp
theorem e_remI {a b : Int} (hb : ¬ b = 0) : bintOf .rem (.sc (.int .i64 a)) (.sc (.int .i64 b)) = some (.sc (.int .i64 (a.tmod b))):=by
  unfold bintOf; simp [hb]
theorem kw_szs : (kwL.all fun w => decide (w.size ≤ 100)) = true:=by decide +kernel
theorem bd_text (w : ByteArray) : ((⟨#[108,101,116,32]⟩ : ByteArray) ++ w ++ ⟨#[32,61,32,49,59]⟩).data.toList = textOf (bdPcs w.data.toList):=by
  rw [cat_list,cat_list]
  show ([108,101,116,32] ++ w.data.toList) ++ [32,61,32,49,59] = _
  generalize w.data.toList = l
  simp only [bdPcs,textOf,Pc.bytes,List.flatMap_cons,List.flatMap_nil,List.replicate,List.cons_append,List.nil_append,List.append_assoc,List.append_nil]
theorem kw_text (w : ByteArray) : ((⟨#[108,101,116,32]⟩ : ByteArray) ++ w ++ ⟨#[32,61,32,49,59,32]⟩ ++ w ++ ⟨#[32,61,32]⟩ ++ w ++ ⟨#[32,43,32,49,59]⟩).data.toList = textOf (kwPcs w.data.toList):=by
  rw [cat_list,cat_list,cat_list,cat_list,cat_list,cat_list]
  show ((((([108,101,116,32] ++ w.data.toList) ++ [32,61,32,49,59,32]) ++ w.data.toList) ++ [32,61,32]) ++ w.data.toList) ++ [32,43,32,49,59] = _
  generalize w.data.toList = l
  simp only [kwPcs,textOf,Pc.bytes,List.flatMap_cons,List.flatMap_nil,List.replicate,List.cons_append,List.nil_append,List.append_assoc,List.append_nil]
theorem law3_pv (n : Int) (word : ByteArray) (hn0 : 0 ≤ n) (hn1 : n ≤ 255) : Pv prog polW 3 [.sc (.int .u8 n),.sc (.str word)] (.sc (.bool true)):=by
  refine Pv_of' ok3 rfl ?_
  simp -implicitDefEqProofs (maxDischargeDepth:=12) only [wpF,cf3,WW,List.replicate,Option.some_or,s_conv,e_conv,s_slc3,e_cut3,e_cut3n,e_bns,e_bnn,e_splice,if_true,if_false,ite_true,ite_false,true_or,ne_eq,seval,h_putc,beq_self_eq_true,eq_self,exists_eq_left,exists_eq_left']
  refine wA_pure rfl kwW_pv ?_
  simp -implicitDefEqProofs (maxDischargeDepth:=12) only [WW,List.replicate,Option.some_or,s_conv,e_conv,s_slc3,e_cut3,e_cut3n,e_bns,e_bnn,e_splice,if_true,if_false,ite_true,ite_false,true_or,ne_eq,seval,h_putc,beq_self_eq_true,eq_self,exists_eq_left,exists_eq_left']
  refine wA_pure rfl kwl_pv ?_
  simp -implicitDefEqProofs (maxDischargeDepth:=12) only [WW,List.replicate,Option.some_or,s_conv,e_conv,s_slc3,e_cut3,e_cut3n,e_bns,e_bnn,e_splice,if_true,if_false,ite_true,ite_false,true_or,ne_eq,seval,h_putc,beq_self_eq_true,eq_self,exists_eq_left,exists_eq_left']
  refine wA_pure rfl known_pv ?_
  simp -implicitDefEqProofs (maxDischargeDepth:=12) only [WW,List.replicate,Option.some_or,s_conv,e_conv,s_slc3,e_cut3,e_cut3n,e_bns,e_bnn,e_splice,if_true,if_false,ite_true,ite_false,true_or,ne_eq,seval,h_putc,beq_self_eq_true,eq_self,exists_eq_left,exists_eq_left',kw_len]
  refine wp_loop (Inv:=fun k t H' => ∃ i : Nat,i + k = 33∧∃ x : Nat→AV,t = [.sc (.int .u8 n),.sc (.str word),x 2,x 3,.sc (.bool false),kwVal,kwVal,.sc (.int .i64 (i : Int)),x 8,x 9,x 10,x 11,x 12,x 13,x 14,x 15,x 16,x 17,x 18,x 19,x 20,x 21,x 22,x 23,x 24,x 25,x 26,x 27,x 28,x 29,x 30,x 31,x 32,x 33,x 34,x 35,x 36,x 37,x 38,x 39,x 40,x 41,x 42,x 43,x 44,x 45,x 46,x 47,x 48,x 49,x 50,x 51,x 52,x 53,x 54,x 55,x 56,x 57,x 58,x 59,x 60,x 61,x 62,x 63,x 64,x 65,x 66,x 67,x 68,x 69,x 70,x 71,x 72,x 73,x 74,x 75,x 76,x 77,x 78,x 79,x 80,x 81,x 82,x 83,x 84,x 85,x 86,x 87,x 88,x 89]) (k:=33) ?_ ⟨0,rfl,ex_x rfl⟩
  rintro k t H3 ⟨i,hk,x,rfl⟩
  by_cases c0 : i < 33
  · have c2 : (i : Int) < 33:=by omega
    obtain ⟨w,hw,_,_⟩:=kw_step c0
    obtain ⟨z,hz,hr⟩:=kw_elem hw
    simp -implicitDefEqProofs (maxDischargeDepth:=12) only [WW,List.replicate,Option.some_or,s_conv,e_conv,s_slc3,e_cut3,e_cut3n,e_bns,e_bnn,e_splice,if_true,if_false,ite_true,ite_false,true_or,ne_eq,seval,h_putc,beq_self_eq_true,eq_self,exists_eq_left,exists_eq_left',kw_len,c2,hz,hr,beq_self_eq_true,wrap1 c0 (show 33 < 2 ^ 31 by omega)]
    exact ⟨k - 1,by omega,i + 1,by omega,ex_x rfl⟩
  · have c2 : ¬ (i : Int) < 33:=by omega
    have hwn : IntKind.i64.wrap n = n:=by rw [w64 (by omega) (by omega)]
    have hmod : n.tmod 33 = ((n.toNat % 33 : Nat) : Int):=by
      rw [Int.tmod_eq_emod_of_nonneg hn0]; omega
    have hlt : n.toNat % 33 < 33:=Nat.mod_lt _ (by decide)
    obtain ⟨w,hw,_,_⟩:=kw_step hlt
    obtain ⟨z,hz,hr⟩:=kw_elem hw
    have hwm:=List.mem_of_getElem? hw
    have hws : w.size ≤ 100:=by simpa using List.all_eq_true.1 kw_szs w hwm
    have q1:=cat_ok (a:=⟨#[108,101,116,32]⟩) (b:=w) (by show 4 + w.size ≤ 1000; omega)
    have q2:=cat_ok (a:=⟨#[108,101,116,32]⟩ ++ w) (b:=⟨#[32,61,32,49,59]⟩) (by rw [cat_size]; show 4 + w.size + 5 ≤ 1000; omega)
    by_cases c3 : (20 : Int) < (word.size : Int)
    · have c4 : 20 ≤ word.size:=by omega
      have hsz : (word.extract 0 20).size ≤ 20:=by rw [ByteArray.size_extract]; omega
      simp -implicitDefEqProofs (maxDischargeDepth:=12) only [WW,List.replicate,Option.some_or,s_conv,e_conv,s_slc3,e_cut3,e_cut3n,e_bns,e_bnn,e_splice,if_true,if_false,ite_true,ite_false,true_or,ne_eq,seval,h_putc,beq_self_eq_true,eq_self,exists_eq_left,exists_eq_left',kw_len,c2,hwn,e_remI (show ¬ (33 : Int) = 0 by decide),hmod,hz,hr,q1,q2]
      refine wA_call rfl ((parse_bd hwm _ (bd_text w) _).mono ?_)
      rintro o H4 ⟨v,rfl,rfl⟩
      refine ⟨_,rfl,fun c hc => by simp at hc,?_⟩
      simp -implicitDefEqProofs (maxDischargeDepth:=12) only [WW,List.replicate,Option.some_or,s_conv,e_conv,s_slc3,e_cut3,e_cut3n,e_bns,e_bnn,e_splice,if_true,if_false,ite_true,ite_false,true_or,ne_eq,seval,h_putc,beq_self_eq_true,eq_self,exists_eq_left,exists_eq_left',c3,c4]
      generalize word.extract 0 20 = wd at hsz ⊢
      refine wA_call rfl ((word_ev wd hsz _).mono ?_)
      rintro o H6 ⟨v,rfl,b,rfl,hb⟩
      refine ⟨_,rfl,fun c hc => by simp at hc,?_⟩
      cases b with
      | false =>
        simp -implicitDefEqProofs (maxDischargeDepth:=12) only [WW,List.replicate,Option.some_or,s_conv,e_conv,s_slc3,e_cut3,e_cut3n,e_bns,e_bnn,e_splice,if_true,if_false,ite_true,ite_false,true_or,ne_eq,seval,h_putc,beq_self_eq_true,eq_self,exists_eq_left,exists_eq_left']
        exact frz_sc
      | true =>
        obtain ⟨c,r,hl,hc1,hr1⟩:=hb rfl
        simp -implicitDefEqProofs (maxDischargeDepth:=12) only [WW,List.replicate,Option.some_or,s_conv,e_conv,s_slc3,e_cut3,e_cut3n,e_bns,e_bnn,e_splice,if_true,if_false,ite_true,ite_false,true_or,ne_eq,seval,h_putc,beq_self_eq_true,eq_self,exists_eq_left,exists_eq_left']
        refine wA_call rfl ((has_ev wd _).mono ?_)
        rintro o H7 ⟨v,rfl,rfl⟩
        refine ⟨_,rfl,fun c hc => by simp at hc,?_⟩
        cases hk : inB kwL wd with
        | true =>
          simp -implicitDefEqProofs (maxDischargeDepth:=12) only [WW,List.replicate,Option.some_or,s_conv,e_conv,s_slc3,e_cut3,e_cut3n,e_bns,e_bnn,e_splice,if_true,if_false,ite_true,ite_false,true_or,ne_eq,seval,h_putc,beq_self_eq_true,eq_self,exists_eq_left,exists_eq_left']
          exact frz_sc
        | false =>
          have hnm : Nm wd.data.toList:=⟨⟨c,r,hl,hc1,hr1⟩,by rw [← ba_size]; exact hsz,hk⟩
          have p1:=cat_ok (a:=⟨#[108,101,116,32]⟩) (b:=wd) (by show 4 + wd.size ≤ 1000; omega)
          have p2:=cat_ok (a:=⟨#[108,101,116,32]⟩ ++ wd) (b:=⟨#[32,61,32,49,59,32]⟩) (by rw [cat_size]; show 4 + wd.size + 6 ≤ 1000; omega)
          have p3:=cat_ok (a:=⟨#[108,101,116,32]⟩ ++ wd ++ ⟨#[32,61,32,49,59,32]⟩) (b:=wd) (by rw [cat_size,cat_size]; show 4 + wd.size + 6 + wd.size ≤ 1000; omega)
          have p4:=cat_ok (a:=⟨#[108,101,116,32]⟩ ++ wd ++ ⟨#[32,61,32,49,59,32]⟩ ++ wd) (b:=⟨#[32,61,32]⟩) (by rw [cat_size,cat_size,cat_size]; show 4 + wd.size + 6 + wd.size + 3 ≤ 1000; omega)
          have p5:=cat_ok (a:=⟨#[108,101,116,32]⟩ ++ wd ++ ⟨#[32,61,32,49,59,32]⟩ ++ wd ++ ⟨#[32,61,32]⟩) (b:=wd) (by rw [cat_size,cat_size,cat_size,cat_size]; show 4 + wd.size + 6 + wd.size + 3 + wd.size ≤ 1000; omega)
          have p6:=cat_ok (a:=⟨#[108,101,116,32]⟩ ++ wd ++ ⟨#[32,61,32,49,59,32]⟩ ++ wd ++ ⟨#[32,61,32]⟩ ++ wd) (b:=⟨#[32,43,32,49,59]⟩) (by rw [cat_size,cat_size,cat_size,cat_size,cat_size]; show 4 + wd.size + 6 + wd.size + 3 + wd.size + 5 ≤ 1000; omega)
          simp -implicitDefEqProofs (maxDischargeDepth:=12) only [WW,List.replicate,Option.some_or,s_conv,e_conv,s_slc3,e_cut3,e_cut3n,e_bns,e_bnn,e_splice,if_true,if_false,ite_true,ite_false,true_or,ne_eq,seval,h_putc,beq_self_eq_true,eq_self,exists_eq_left,exists_eq_left',p1,p2,p3,p4,p5,p6]
          refine wA_call rfl ((parse_kw hnm _ (kw_text wd) _).mono ?_)
          rintro o H8 ⟨v,rfl,a1,a2,a3,rfl⟩
          refine ⟨_,rfl,fun c hc => by simp at hc,?_⟩
          simp -implicitDefEqProofs (maxDischargeDepth:=12) only [WW,List.replicate,Option.some_or,s_conv,e_conv,s_slc3,e_cut3,e_cut3n,e_bns,e_bnn,e_splice,if_true,if_false,ite_true,ite_false,true_or,ne_eq,seval,h_putc,beq_self_eq_true,eq_self,exists_eq_left,exists_eq_left']
          exact frz_sc
    · have hsz : (word.extract 0 word.size).size ≤ 20:=by rw [ByteArray.size_extract]; omega
      simp -implicitDefEqProofs (maxDischargeDepth:=12) only [WW,List.replicate,Option.some_or,s_conv,e_conv,s_slc3,e_cut3,e_cut3n,e_bns,e_bnn,e_splice,if_true,if_false,ite_true,ite_false,true_or,ne_eq,seval,h_putc,beq_self_eq_true,eq_self,exists_eq_left,exists_eq_left',kw_len,c2,hwn,e_remI (show ¬ (33 : Int) = 0 by decide),hmod,hz,hr,q1,q2]
      refine wA_call rfl ((parse_bd hwm _ (bd_text w) _).mono ?_)
      rintro o H4 ⟨v,rfl,rfl⟩
      refine ⟨_,rfl,fun c hc => by simp at hc,?_⟩
      simp -implicitDefEqProofs (maxDischargeDepth:=12) only [WW,List.replicate,Option.some_or,s_conv,e_conv,s_slc3,e_cut3,e_cut3n,e_bns,e_bnn,e_splice,if_true,if_false,ite_true,ite_false,true_or,ne_eq,seval,h_putc,beq_self_eq_true,eq_self,exists_eq_left,exists_eq_left',c3]
      generalize word.extract 0 word.size = wd at hsz ⊢
      refine wA_call rfl ((word_ev wd hsz _).mono ?_)
      rintro o H6 ⟨v,rfl,b,rfl,hb⟩
      refine ⟨_,rfl,fun c hc => by simp at hc,?_⟩
      cases b with
      | false =>
        simp -implicitDefEqProofs (maxDischargeDepth:=12) only [WW,List.replicate,Option.some_or,s_conv,e_conv,s_slc3,e_cut3,e_cut3n,e_bns,e_bnn,e_splice,if_true,if_false,ite_true,ite_false,true_or,ne_eq,seval,h_putc,beq_self_eq_true,eq_self,exists_eq_left,exists_eq_left']
        exact frz_sc
      | true =>
        obtain ⟨c,r,hl,hc1,hr1⟩:=hb rfl
        simp -implicitDefEqProofs (maxDischargeDepth:=12) only [WW,List.replicate,Option.some_or,s_conv,e_conv,s_slc3,e_cut3,e_cut3n,e_bns,e_bnn,e_splice,if_true,if_false,ite_true,ite_false,true_or,ne_eq,seval,h_putc,beq_self_eq_true,eq_self,exists_eq_left,exists_eq_left']
        refine wA_call rfl ((has_ev wd _).mono ?_)
        rintro o H7 ⟨v,rfl,rfl⟩
        refine ⟨_,rfl,fun c hc => by simp at hc,?_⟩
        cases hk : inB kwL wd with
        | true =>
          simp -implicitDefEqProofs (maxDischargeDepth:=12) only [WW,List.replicate,Option.some_or,s_conv,e_conv,s_slc3,e_cut3,e_cut3n,e_bns,e_bnn,e_splice,if_true,if_false,ite_true,ite_false,true_or,ne_eq,seval,h_putc,beq_self_eq_true,eq_self,exists_eq_left,exists_eq_left']
          exact frz_sc
        | false =>
          have hnm : Nm wd.data.toList:=⟨⟨c,r,hl,hc1,hr1⟩,by rw [← ba_size]; exact hsz,hk⟩
          have p1:=cat_ok (a:=⟨#[108,101,116,32]⟩) (b:=wd) (by show 4 + wd.size ≤ 1000; omega)
          have p2:=cat_ok (a:=⟨#[108,101,116,32]⟩ ++ wd) (b:=⟨#[32,61,32,49,59,32]⟩) (by rw [cat_size]; show 4 + wd.size + 6 ≤ 1000; omega)
          have p3:=cat_ok (a:=⟨#[108,101,116,32]⟩ ++ wd ++ ⟨#[32,61,32,49,59,32]⟩) (b:=wd) (by rw [cat_size,cat_size]; show 4 + wd.size + 6 + wd.size ≤ 1000; omega)
          have p4:=cat_ok (a:=⟨#[108,101,116,32]⟩ ++ wd ++ ⟨#[32,61,32,49,59,32]⟩ ++ wd) (b:=⟨#[32,61,32]⟩) (by rw [cat_size,cat_size,cat_size]; show 4 + wd.size + 6 + wd.size + 3 ≤ 1000; omega)
          have p5:=cat_ok (a:=⟨#[108,101,116,32]⟩ ++ wd ++ ⟨#[32,61,32,49,59,32]⟩ ++ wd ++ ⟨#[32,61,32]⟩) (b:=wd) (by rw [cat_size,cat_size,cat_size,cat_size]; show 4 + wd.size + 6 + wd.size + 3 + wd.size ≤ 1000; omega)
          have p6:=cat_ok (a:=⟨#[108,101,116,32]⟩ ++ wd ++ ⟨#[32,61,32,49,59,32]⟩ ++ wd ++ ⟨#[32,61,32]⟩ ++ wd) (b:=⟨#[32,43,32,49,59]⟩) (by rw [cat_size,cat_size,cat_size,cat_size,cat_size]; show 4 + wd.size + 6 + wd.size + 3 + wd.size + 5 ≤ 1000; omega)
          simp -implicitDefEqProofs (maxDischargeDepth:=12) only [WW,List.replicate,Option.some_or,s_conv,e_conv,s_slc3,e_cut3,e_cut3n,e_bns,e_bnn,e_splice,if_true,if_false,ite_true,ite_false,true_or,ne_eq,seval,h_putc,beq_self_eq_true,eq_self,exists_eq_left,exists_eq_left',p1,p2,p3,p4,p5,p6]
          refine wA_call rfl ((parse_kw hnm _ (kw_text wd) _).mono ?_)
          rintro o H8 ⟨v,rfl,a1,a2,a3,rfl⟩
          refine ⟨_,rfl,fun c hc => by simp at hc,?_⟩
          simp -implicitDefEqProofs (maxDischargeDepth:=12) only [WW,List.replicate,Option.some_or,s_conv,e_conv,s_slc3,e_cut3,e_cut3n,e_bns,e_bnn,e_splice,if_true,if_false,ite_true,ite_false,true_or,ne_eq,seval,h_putc,beq_self_eq_true,eq_self,exists_eq_left,exists_eq_left']
          exact frz_sc
end Go.Hem
