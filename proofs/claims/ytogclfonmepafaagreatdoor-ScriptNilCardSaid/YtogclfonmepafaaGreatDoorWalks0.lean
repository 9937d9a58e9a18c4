/- Walks. -/
import Derived.Test.YtogclfonmepafaaGreatDoorK55m
import Derived.Test.YtogclfonmepafaaGreatDoorHemBun
set_option maxRecDepth 10000
set_option maxHeartbeats 4000000
set_option linter.unusedSimpArgs false
set_option linter.unusedVariables false
namespace Go.Hem
def score0 : AV:=.agg [.sc (.str ⟨#[]⟩),.sc (.bool false),.sc .nils,.sc .nils,.sc .nils,.sc .nils]
def result0 : AV:=.agg [.sc .nils,.sc (.str ⟨#[]⟩),.sc (.int .i64 0)]
theorem equal_run : isV (xPure (Y prog polK memo0 tab 1000) 7 [score0,score0]) (.sc (.bool true)) = true:=by decide +kernel
theorem same_run : isV (xPure (Y prog polK memo0 tab 1000) 8 [result0,result0]) (.sc (.bool true)) = true:=by decide +kernel
theorem equal_pv : Pv prog polK 7 [score0,score0] (.sc (.bool true)):=pv_of_y tab_ok memo0_ok rfl (isV_spec equal_run)
theorem same_pv : Pv prog polK 8 [result0,result0] (.sc (.bool true)):=pv_of_y tab_ok memo0_ok rfl (isV_spec same_run)
theorem bn0 : bnilOf false .ptr (.sc .nilp) (.sc .nilp) = some (.sc (.bool true)):=rfl
theorem nil_ev (a b e : Sc) (c d f : List AV) (hz : AV.ones [.sc a,.sc b,.imm c,.imm d,.sc e,.imm f] = true) (site base : Int) (H : AHeap) : Ev prog polK (.call 4 [.sc .nilp,.agg [.sc a,.sc b,.imm c,.imm d,.sc e,.imm f],.sc (.int .i64 site),.sc (.int .i64 base)]) H fun o H' => ∃ v,o = .val v∧v = .tup [score0,result0,.sc (.int .i64 1)]:=by
  refine wpF_ok ok4 ?_
  simp -implicitDefEqProofs (maxDischargeDepth:=12) only [wpF,cf4,WW,List.replicate,Option.some_or,s_conv,e_conv,s_slc3,e_cut3,e_cut3n,e_bns,e_bnn,e_splice,if_true,if_false,ite_true,ite_false,true_or,ne_eq,seval,h_putc,beq_self_eq_true,eq_self,exists_eq_left,exists_eq_left',score0,result0,hz,bn0,show ¬ (H.next + 1 + 1 = H.next + 1) by omega,show ¬ (H.next + 1 = H.next + 1 + 1) by omega]
theorem law5_pv (site base : Int) : Pv prog polK 3 [.sc (.int .i64 site),.sc (.int .i64 base)] (.sc (.bool true)):=by
  refine Pv_of' ok3 rfl ?_
  simp -implicitDefEqProofs (maxDischargeDepth:=12) only [wpF,cf3,WW,List.replicate,Option.some_or,s_conv,e_conv,s_slc3,e_cut3,e_cut3n,e_bns,e_bnn,e_splice,if_true,if_false,ite_true,ite_false,true_or,ne_eq,seval,h_putc,beq_self_eq_true,eq_self,exists_eq_left,exists_eq_left']
  refine wA_pure rfl one_pv ?_
  simp -implicitDefEqProofs (maxDischargeDepth:=12) only [WW,List.replicate,Option.some_or,s_conv,e_conv,s_slc3,e_cut3,e_cut3n,e_bns,e_bnn,e_splice,if_true,if_false,ite_true,ite_false,true_or,ne_eq,seval,h_putc,beq_self_eq_true,eq_self,exists_eq_left,exists_eq_left']
  refine wA_call rfl ((nil_ev _ _ _ _ _ _ (by rfl) site base _).mono ?_)
  rintro o H1 ⟨v,rfl,rfl⟩
  refine ⟨_,rfl,fun c hc => by simp at hc,?_⟩
  have c5 : ¬ (H1.next + 1 = H1.next):=by omega
  have c6 : ¬ (H1.next = H1.next + 1):=by omega
  simp -implicitDefEqProofs (maxDischargeDepth:=12) only [WW,List.replicate,Option.some_or,s_conv,e_conv,s_slc3,e_cut3,e_cut3n,e_bns,e_bnn,e_splice,if_true,if_false,ite_true,ite_false,true_or,ne_eq,seval,h_putc,beq_self_eq_true,eq_self,exists_eq_left,exists_eq_left',score0,result0,c5,c6]
  refine wA_pure rfl known_pv ?_
  simp -implicitDefEqProofs (maxDischargeDepth:=12) only [WW,List.replicate,Option.some_or,s_conv,e_conv,s_slc3,e_cut3,e_cut3n,e_bns,e_bnn,e_splice,if_true,if_false,ite_true,ite_false,true_or,ne_eq,seval,h_putc,beq_self_eq_true,eq_self,exists_eq_left,exists_eq_left',c5,c6]
  refine wA_pure rfl equal_pv ?_
  simp -implicitDefEqProofs (maxDischargeDepth:=12) only [WW,List.replicate,Option.some_or,s_conv,e_conv,s_slc3,e_cut3,e_cut3n,e_bns,e_bnn,e_splice,if_true,if_false,ite_true,ite_false,true_or,ne_eq,seval,h_putc,beq_self_eq_true,eq_self,exists_eq_left,exists_eq_left',c5,c6]
  refine wA_pure rfl same_pv ?_
  simp -implicitDefEqProofs (maxDischargeDepth:=12) only [WW,List.replicate,Option.some_or,s_conv,e_conv,s_slc3,e_cut3,e_cut3n,e_bns,e_bnn,e_splice,if_true,if_false,ite_true,ite_false,true_or,ne_eq,seval,h_putc,beq_self_eq_true,eq_self,exists_eq_left,exists_eq_left']
  exact frz_sc
end Go.Hem
