/- Walks: shortPart. -/
import Derived.Test.YtnlhhjmheghnnaaL5
set_option maxRecDepth 10000
set_option linter.unusedSimpArgs false
set_option linter.unusedVariables false
namespace Go.Hem
variable {pol : Pol}
theorem min_cast (n m : Nat) : (if (m : Int) < (n : Int) then (m : Int) else (n : Int)) = ((min n m : Nat) : Int) := by split <;> omega
theorem min20 (n : Nat) : (if (20 : Int) < (n : Int) then (20 : Int) else (n : Int)) = ((min n 20 : Nat) : Int) := min_cast n 20
theorem min3 (n : Nat) : (if (3 : Int) < (n : Int) then (3 : Int) else (n : Int)) = ((min n 3 : Nat) : Int) := min_cast n 3
theorem slm_take {α : Type} {f : α → AV} {s : Sl α} {n : Nat} : slm f (s.map fun x => x.take (min s.l.length n)) = slm f (s.map (·.take n)) := by
  cases s with
  | none => rfl
  | some l =>
    have e : l.take (min l.length n) = l.take n := by rw [List.take_eq_take_iff]; omega
    simp only [Option.map_some, l_some, e]
def Part.short (p : Part) : Part := { p with name := p.name.extract 0 (min p.name.size 20), staves := p.staves.map (·.take 3) }
theorem shortPart_pv (p : Part) : Pv prog pol 58 [p.enc] p.short.enc := by
  refine Pv_of' ok58 (by simp [AV.closedBs, Part.enc_closed]) ?_
  simp -implicitDefEqProofs (maxDischargeDepth := 12) only [wpF, cf58, wC_skip, wC_ops, wC_seq, wC_block, wC_exit, wC_ret, wC_cond, wI_nil, wI_cons, wA_skip, wA_val, wA_new, wA_mem, wA_move, tC_normal, tC_exit, tC_ret, bC_normal, bC_exit, bC_ret, wB_true, wB_false, put_none, put_some, cw_none, ev_tmp, ev_int, ev_bool, ev_str, ev_nilp, ev_nils, ev_nilm, ev_nilf, ev_nili, List.length_cons, List.length_nil, List.replicate, List.cons_append, List.nil_append, List.getD_cons_zero, List.getD_cons_succ, List.set_cons_zero, List.set_cons_succ, List.getElem?_cons_zero, List.getElem?_cons_succ, List.map_cons, List.map_nil, List.take_succ_cons, List.take_zero, List.take_nil, List.drop_succ_cons, List.drop_zero, List.drop_nil, List.append_nil, s_mv, s_pick, s_alloc, s_box, s_build, s_bslice, s_load1, s_loadN, s_store, s_nilc, s_mkf, s_mks, s_slc, s_slcA, s_slcS, s_faddr, s_fld1, s_fldN, s_iaddr, s_iaddrA, s_len, s_lenS, s_app, s_cpy, s_ext, s_bint, s_bstr, s_bbool, s_bnil, s_not, s_min, s_call, s_callv, s_prim, s_bagg, s_eslice, o_int, o_bool, o_str, o_nils, o_nilp, o_nilm, o_imm, o_slice, o_ptr, o_iptr, o_func, os_nil, os_cons, c_agg, c_int, c_bool, c_str, c_sc, c_imm, c_slice, c_ptr, c_iptr, c_func, rep_one, e_read1, e_read1i, e_readN, e_readNi, e_writeN, e_shift, e_shifti, e_elem, e_elemi, e_len, e_leni, e_lenn, e_lens, e_nat, e_add, e_sub, e_eql, e_neq, e_lss, e_leq, e_gtr, e_geq, e_not, e_min, e_pt, e_pf, e_nilp, e_nilip, e_nilf, e_nily, e_fld1, e_fldN, e_ext, e_eqs, e_nes, e_eqb, e_neb, e_none, e_some, e_cuti, e_cutn, e_cut, e_cutstr, e_fill0, e_parts0, e_parts, e_fill, e_cutN, e_splice, e_eqa, e_nea, q_nil, q_int, q_bool, q_str, Bool.and_self, Bool.and_true, Bool.true_and, Bool.and_false, Bool.false_and, Bool.not_true, Bool.not_false, if_true, if_false, ite_true, ite_false, Option.map_some, Option.map_none, Option.bind_some, Option.bind_none, and_self, and_true, true_and, and_false, false_and, true_or, or_true, or_false, false_or, or_self, not_true, not_false_eq_true, ne_eq, Nat.zero_add, Nat.add_zero, Nat.reduceAdd, Nat.reduceSub, Nat.reduceMul, Nat.reduceLeDiff, Nat.reduceEqDiff, Nat.reduceGT, Nat.reduceLT, Nat.zero_le, Nat.one_ne_zero, Nat.le_refl, Nat.lt_irrefl, Int.reduceLE, Int.reduceLT, Int.reduceToNat, Int.reduceAdd, Int.toNat_natCast, Int.natCast_nonneg, reduceCtorEq, Bool.true_eq_false, Bool.false_eq_true, AHeap.next_alloc, AHeap.next_put, h_alloc, h_putc, Option.isSome_some, Nat.succ_ne_self, decide_true, decide_false, k_nil, k_cons, eq_self, cw_some, cw_bool, cw_undef, bq_tt, bq_ff, bq_tf, bq_ft, o_slm, c_slm, e_lenm, e_elemm, e_alenm, e_nilm, l_none, l_some, r_ret, r_normal, cr_tmp, cr_cell, cr_cells, cr_one, cr_two, cr_three, cl_sc, cl_tup, cl_agg, cl_nil, cl_cons, Option.some.injEq, exists_eq_left, exists_eq_left', Prod.mk.injEq, Nat.reduceAdd, p.enc_eq, min20, min3, e_cutm Staff.enc_len, Nat.min_le_left, slm_take]
  exact frz_plain rfl (Part.enc_plain _)
end Go.Hem
