/- Walks. -/
import Derived.Test.YteffcgojmmbogaaGreatDoorHemTab
import Derived.Test.YteffcgojmmbogaaGreatDoorPol48
import Derived.Test.YteffcgojmmbogaaGreatDoorHemBun
import Derived.Test.YteffcgojmmbogaaGreatDoorHemData48
import Derived.Test.YteffcgojmmbogaaGreatDoorHemMemo
import Derived.Test.YteffcgojmmbogaaGreatDoorK48m
set_option maxRecDepth 10000
set_option maxHeartbeats 4000000
set_option linter.unusedSimpArgs false
set_option linter.unusedVariables false
namespace Go.Hem
end Go.Hem
set_option maxRecDepth 100000
namespace Go.Hem
structure KRow where
  name : ByteArray
  fields : Int
  obj : Int
  ranged : Bool
  fn : Nat
def kRows : List KRow:=[⟨⟨#[115,101,116,116,105,116,108,101]⟩,2048,0,false,40⟩,⟨⟨#[97,100,100,112,97,114,116]⟩,3168,0,false,41⟩,⟨⟨#[114,101,109,111,118,101,112,97,114,116]⟩,1,1,false,42⟩,⟨⟨#[115,101,116,112,97,114,116]⟩,3073,1,false,43⟩,⟨⟨#[115,101,116,99,108,101,102]⟩,85,0,false,44⟩,⟨⟨#[105,110,115,101,114,116,109,101,97,115,117,114,101,115]⟩,65,0,false,45⟩,⟨⟨#[114,101,109,111,118,101,109,101,97,115,117,114,101,115]⟩,3,3,true,46⟩,⟨⟨#[115,101,116,109,101,116,114,101]⟩,515,3,true,47⟩,⟨⟨#[115,101,116,108,101,110,103,116,104]⟩,65,3,false,48⟩,⟨⟨#[115,101,116,107,101,121]⟩,67,3,true,49⟩,⟨⟨#[115,101,116,109,101,97,115,117,114,101]⟩,2145,3,false,50⟩,⟨⟨#[115,101,116,116,101,109,112,111]⟩,113,3,false,51⟩,⟨⟨#[119,114,105,116,101]⟩,477,3,false,52⟩,⟨⟨#[101,114,97,115,101]⟩,93,3,false,53⟩,⟨⟨#[97,100,100,104,101,97,100]⟩,257,4,false,54⟩,⟨⟨#[114,101,109,111,118,101,104,101,97,100]⟩,33,4,false,55⟩,⟨⟨#[115,101,116,112,105,116,99,104]⟩,289,4,false,56⟩,⟨⟨#[116,114,97,110,115,112,111,115,101]⟩,1027,4,true,57⟩,⟨⟨#[115,101,116,116,105,101]⟩,97,4,false,58⟩,⟨⟨#[115,101,116,115,104,111,119]⟩,97,4,false,59⟩,⟨⟨#[115,101,116,101,118,101,110,116]⟩,97,4,false,60⟩,⟨⟨#[115,101,116,108,121,114,105,99]⟩,2145,4,false,61⟩,⟨⟨#[115,101,116,103,114,97,99,101]⟩,481,4,false,62⟩,⟨⟨#[109,97,107,101,116,117,112,108,101,116]⟩,253,3,false,63⟩,⟨⟨#[115,101,116,118,111,105,99,101]⟩,69,3,false,64⟩,⟨⟨#[97,100,100,115,112,97,110,110,101,114]⟩,67,4,false,65⟩,⟨⟨#[114,101,109,111,118,101,115,112,97,110,110,101,114]⟩,1,5,false,66⟩]
def KRow.cells (r : KRow) : List AV:=[.sc (.str r.name),.sc (.int .i64 r.fields),.sc (.int .i64 r.obj),.sc (.bool r.ranged),.func (.func r.fn) [] []]
def kindCells : List AV:=kRows.flatMap KRow.cells
def kRow (k : Nat) : KRow:=kRows.getD k ⟨⟨#[]⟩,0,0,false,0⟩
theorem wp20 (H : AHeap) (Q : AV→AHeap→Prop) : wpF prog polK cf20 [] H Q = ∃ v,some (AV.slice H.next 0 27 27 5) = some v∧Q v (H.alloc (.cells kindCells)):=by kernel_rfl
theorem row_all : ((List.range 27).all fun k => AV.beqs ((kindCells.drop (k * 5)).take 5) (kRow k).cells) = true:=by decide +kernel
theorem row_eq {k : Nat} (h : k < 27) : (kindCells.drop (k * 5)).take 5 = (kRow k).cells:=AV.eq_of_beqs _ _ (List.all_eq_true.1 row_all k (by simpa using h))
end Go.Hem
set_option maxRecDepth 10000
namespace Go.Hem
structure Stays (H H' : AHeap) : Prop where
  cells : ∀ b cs,H.cells b = some cs→H'.cells b = some cs
  next : H.next ≤ H'.next
theorem stays_alloc {H H' : AHeap} {x : Blk} (h : Stays H H') : Stays H (H'.alloc x) :=
  ⟨fun b cs hb => by unfold AHeap.cells; rw [AHeap.get_alloc_lt H' x (AHeap.get_lt (cells_get' (h.cells b cs hb)))]; exact h.cells b cs hb,by simpa using Nat.le_succ_of_le h.next⟩
theorem Stays.refl (H : AHeap) : Stays H H:=⟨fun _ _ h => h,Nat.le_refl _⟩
theorem stays_put {H H' : AHeap} {b : Nat} {x : Option Blk} (h : Stays H H') (hb : H.next ≤ b) : Stays H (H'.put b x) :=
  ⟨fun b' cs hb' => by
    have:=AHeap.get_lt (cells_get' hb')
    have e:=h.cells b' cs hb'
    unfold AHeap.cells at e ⊢
    rw [AHeap.get_put_ne H' x (by omega)]; exact e,by simpa using h.next⟩
theorem find_ev (k : Nat) (hk : k < 27) (H : AHeap) : Ev prog polK (.call 14 [.sc (.int .i64 ((k + 1 : Nat) : Int))]) H fun o H' => ∃ v,o = .val v∧v = .tup [.agg (kRow k).cells,.sc (.int .i64 0)]∧Stays H H':=by
  refine wpF_ok ok14 ?_
  have c1 : ¬ (((k + 1 : Nat) : Int) < 1):=by omega
  have c2 : ¬ ((27 : Int) < ((k + 1 : Nat) : Int)):=by omega
  have e2 : IntKind.i64.wrap (((k + 1 : Nat) : Int) - 1) = (k : Int):=by rw [w64 (by omega) (by omega)]; omega
  have hl : kindCells.length = 135:=by decide +kernel
  have c4 : ¬ (H.next = H.next + 1):=by omega
  have c3 : k * 5 + 5 ≤ 135:=by omega
  have hr:=row_eq hk
  simp only [KRow.cells] at hr
  simp -implicitDefEqProofs (maxDischargeDepth:=12) only [wpF,cf14,WW,List.replicate,Option.some_or,s_conv,e_conv,s_slc3,e_cut3,e_cut3n,e_bns,e_bnn,e_splice,if_true,if_false,ite_true,ite_false,true_or,ne_eq,seval,h_putc,beq_self_eq_true,eq_self,exists_eq_left,exists_eq_left',c1,c2]
  refine wA_call rfl ((wpF_ok ok20 (Q:=fun v H1 => v = .slice (H.next + 1) 0 27 27 5∧H1 = (H.alloc (.cells [.sc (.str ⟨#[]⟩),.sc (.int .i64 0),.sc (.int .i64 0),.sc (.bool false),.sc .nilf])).alloc (.cells kindCells)) (by rw [wp20]; exact ⟨_,rfl,rfl,rfl⟩)).mono ?_)
  rintro o H1 ⟨v,rfl,rfl,rfl⟩
  refine ⟨_,rfl,fun c hc => by simp at hc,?_⟩
  simp -implicitDefEqProofs (maxDischargeDepth:=12) only [WW,List.replicate,Option.some_or,s_conv,e_conv,s_slc3,e_cut3,e_cut3n,e_bns,e_bnn,e_splice,if_true,if_false,ite_true,ite_false,true_or,ne_eq,seval,h_putc,beq_self_eq_true,eq_self,exists_eq_left,exists_eq_left',e2,hl,c3,c4,hr,hk,KRow.cells]
  exact stays_put (stays_alloc (stays_alloc (Stays.refl H))) (Nat.le_refl _)
theorem o_nilf' : AV.one (.sc .nilf) = true:=rfl
theorem find_yes (n : Int) (h1 : 1 ≤ n) (h2 : n ≤ 27) (H : AHeap) : Ev prog polK (.call 14 [.sc (.int .i64 n)]) H fun o H' => ∃ v,o = .val v∧v = .tup [.agg (kRow (n.toNat - 1)).cells,.sc (.int .i64 0)]∧Stays H H':=by
  obtain ⟨k,rfl⟩ : ∃ k : Nat,n = ((k + 1 : Nat) : Int):=⟨n.toNat - 1,by omega⟩
  have:=find_ev k (by omega) H
  rw [show ((k + 1 : Nat) : Int).toNat - 1 = k by omega]
  exact this
theorem find_no (n : Int) (hn : n < 1 ∨ 27 < n) (H : AHeap) : Ev prog polK (.call 14 [.sc (.int .i64 n)]) H fun o H' => ∃ v,o = .val v∧v = .tup [.agg [.sc (.str ⟨#[]⟩),.sc (.int .i64 0),.sc (.int .i64 0),.sc (.bool false),.sc .nilf],.sc (.int .i64 11)]∧Stays H H':=by
  refine wpF_ok ok14 ?_
  by_cases c1 : n < 1
  · simp -implicitDefEqProofs (maxDischargeDepth:=12) only [wpF,cf14,WW,List.replicate,Option.some_or,s_conv,e_conv,s_slc3,e_cut3,e_cut3n,e_bns,e_bnn,e_splice,if_true,if_false,ite_true,ite_false,true_or,ne_eq,seval,h_putc,beq_self_eq_true,eq_self,exists_eq_left,exists_eq_left',c1,o_nilf']
    exact stays_put (stays_alloc (Stays.refl H)) (Nat.le_refl _)
  · have c2 : (27 : Int) < n:=by omega
    simp -implicitDefEqProofs (maxDischargeDepth:=12) only [wpF,cf14,WW,List.replicate,Option.some_or,s_conv,e_conv,s_slc3,e_cut3,e_cut3n,e_bns,e_bnn,e_splice,if_true,if_false,ite_true,ite_false,true_or,ne_eq,seval,h_putc,beq_self_eq_true,eq_self,exists_eq_left,exists_eq_left',c1,c2,o_nilf']
    exact stays_put (stays_alloc (Stays.refl H)) (Nat.le_refl _)
end Go.Hem
namespace Go.Hem
theorem frzT {a b : Sc} {H : AHeap} : Frz (.tup [.sc a,.sc b]) H (.tup [.sc a,.sc b]):=⟨_,rfl,rfl⟩
theorem name_pv (n : Int) (h1 : 1 ≤ n) (h2 : n ≤ 27) : Pv prog polK 8 [.sc (.int .i64 n)] (.tup [.sc (.str (kRow (n.toNat - 1)).name),.sc (.int .i64 0)]):=by
  refine Pv_of' ok8 rfl ?_
  simp -implicitDefEqProofs (maxDischargeDepth:=12) only [wpF,cf8,WW,List.replicate,Option.some_or,s_conv,e_conv,s_slc3,e_cut3,e_cut3n,e_bns,e_bnn,e_splice,if_true,if_false,ite_true,ite_false,true_or,ne_eq,seval,h_putc,beq_self_eq_true,eq_self,exists_eq_left,exists_eq_left']
  refine wA_call rfl ((find_yes n h1 h2 _).mono ?_)
  rintro o H1 ⟨v,rfl,rfl,hS⟩
  refine ⟨_,rfl,fun c hc => by simp at hc,?_⟩
  simp -implicitDefEqProofs (maxDischargeDepth:=12) only [WW,List.replicate,Option.some_or,s_conv,e_conv,s_slc3,e_cut3,e_cut3n,e_bns,e_bnn,e_splice,if_true,if_false,ite_true,ite_false,true_or,ne_eq,seval,h_putc,beq_self_eq_true,eq_self,exists_eq_left,exists_eq_left',KRow.cells]
  exact frzT
theorem name_no (n : Int) (h : n < 1 ∨ 27 < n) : Pv prog polK 8 [.sc (.int .i64 n)] (.tup [.sc (.str ⟨#[]⟩),.sc (.int .i64 11)]):=by
  refine Pv_of' ok8 rfl ?_
  simp -implicitDefEqProofs (maxDischargeDepth:=12) only [wpF,cf8,WW,List.replicate,Option.some_or,s_conv,e_conv,s_slc3,e_cut3,e_cut3n,e_bns,e_bnn,e_splice,if_true,if_false,ite_true,ite_false,true_or,ne_eq,seval,h_putc,beq_self_eq_true,eq_self,exists_eq_left,exists_eq_left']
  refine wA_call rfl ((find_no n h _).mono ?_)
  rintro o H1 ⟨v,rfl,rfl,hS⟩
  refine ⟨_,rfl,fun c hc => by simp at hc,?_⟩
  simp -implicitDefEqProofs (maxDischargeDepth:=12) only [WW,List.replicate,Option.some_or,s_conv,e_conv,s_slc3,e_cut3,e_cut3n,e_bns,e_bnn,e_splice,if_true,if_false,ite_true,ite_false,true_or,ne_eq,seval,h_putc,beq_self_eq_true,eq_self,exists_eq_left,exists_eq_left',o_nilf']
  exact frzT
theorem eq21_ev (r : KRow) (s : ByteArray) (b : Nat) (H : AHeap) (hb : H.cells b = some [.sc (.str s)]) :
    Ev prog polK (.call 21 [.agg r.cells,.ptr b 0]) H fun o H' => ∃ v,o = .val v∧v = .sc (.bool (r.name.toList == s.toList))∧Stays H H':=by
  refine wpF_ok ok21 ?_
  have hlt:=AHeap.get_lt (cells_get' hb)
  have c4 : ¬ (b = H.next):=by omega
  simp -implicitDefEqProofs (maxDischargeDepth:=12) only [wpF,cf21,WW,List.replicate,Option.some_or,s_conv,e_conv,s_slc3,e_cut3,e_cut3n,e_bns,e_bnn,e_splice,if_true,if_false,ite_true,ite_false,true_or,ne_eq,seval,h_putc,beq_self_eq_true,eq_self,exists_eq_left,exists_eq_left',KRow.cells,hb,c4]
  exact stays_alloc (Stays.refl H)
def idxF : List KRow→Nat→ByteArray→Int
  | [],_,_ => -1
  | r :: l,i,s => if r.name.toList == s.toList then (i : Int) else idxF l (i + 1) s
def idx (s : ByteArray) : Int:=idxF kRows 0 s
theorem callee21 (args : List AV) : acallee prog 21 args = some (.call 21 args):=acB_spec ac21 args
theorem index_ev (s : ByteArray) (bk bs : Nat) (H : AHeap) (hk : H.cells bk = some kindCells) (hb : H.cells bs = some [.sc (.str s)]) :
    Ev prog polK (.call 19 [.slice bk 0 27 27 5,.func (.func 21) [] [.ptr bs 0]]) H fun o H' => ∃ v,o = .val v∧v = .sc (.int .i64 (idx s)):=by
  refine wpF_ok ok19 ?_
  generalize hr : idx s = r
  unfold idx at hr
  have hl : kindCells.length = 135:=by decide +kernel
  have hn : kRows.length = 27:=rfl
  simp -implicitDefEqProofs (maxDischargeDepth:=12) only [wpF,cf19,WW,List.replicate,Option.some_or,s_conv,e_conv,s_slc3,e_cut3,e_cut3n,e_bns,e_bnn,e_splice,if_true,if_false,ite_true,ite_false,true_or,ne_eq,seval,h_putc,beq_self_eq_true,eq_self,exists_eq_left,exists_eq_left']
  refine wp_loop (Inv:=fun k t H => H.cells bk = some kindCells∧H.cells bs = some [.sc (.str s)]∧∃ (i : Nat),i + k = 27∧idxF (kRows.drop i) i s = r ∧
    ∃ x : Nat→AV,t = [.slice bk 0 27 27 5,.func (.func 21) [] [.ptr bs 0],x 2,x 3,x 4,x 5,x 6,.sc (.int .i64 27),.sc (.int .i64 i),x 9,x 10,x 11,x 12,x 13,x 14,x 15,x 16,x 17,x 18]) (k:=27) ?_
    ⟨hk,hb,0,by omega,hr,ex_x rfl⟩
  rintro k t H ⟨hk,hb,i,hik,hf,x,rfl⟩
  by_cases c1 : (i : Int) < (27 : Int)
  · have hi : i < 27:=by omega
    have e2 : IntKind.i64.wrap ((i : Int) + 1) = ((i + 1 : Nat) : Int):=by rw [w64 (by omega) (by omega)]; omega
    have c3 : i * 5 + 5 ≤ 135:=by omega
    have hrow:=row_eq hi
    have hd : kRows.drop i = kRow i :: kRows.drop (i + 1):=by
      rw [List.drop_eq_getElem_cons (by omega)]
      unfold kRow
      rw [List.getD_eq_getElem?_getD,List.getElem?_eq_getElem (by omega)]; rfl
    rw [hd] at hf
    simp only [idxF] at hf
    simp only [KRow.cells] at hrow
    simp -implicitDefEqProofs (maxDischargeDepth:=12) only [WW,List.replicate,Option.some_or,s_conv,e_conv,s_slc3,e_cut3,e_cut3n,e_bns,e_bnn,e_splice,if_true,if_false,ite_true,ite_false,true_or,ne_eq,seval,h_putc,beq_self_eq_true,eq_self,exists_eq_left,exists_eq_left',c1,hk,hl,c3,hrow,hi,callee21]
    refine wA_call rfl ((eq21_ev (kRow i) s bs H hb).mono ?_)
    rintro o H1 ⟨v,rfl,rfl,hS⟩
    refine ⟨_,rfl,fun c hc => by simp at hc,?_⟩
    cases q : (kRow i).name.toList == s.toList with
    | true =>
      rw [q] at hf
      simp only [if_true] at hf
      subst hf
      simp -implicitDefEqProofs (maxDischargeDepth:=12) only [WW,List.replicate,Option.some_or,s_conv,e_conv,s_slc3,e_cut3,e_cut3n,e_bns,e_bnn,e_splice,if_true,if_false,ite_true,ite_false,true_or,ne_eq,seval,h_putc,beq_self_eq_true,eq_self,exists_eq_left,exists_eq_left']
    | false =>
      rw [q] at hf
      simp only [Bool.false_eq_true,if_false] at hf
      simp -implicitDefEqProofs (maxDischargeDepth:=12) only [WW,List.replicate,Option.some_or,s_conv,e_conv,s_slc3,e_cut3,e_cut3n,e_bns,e_bnn,e_splice,if_true,if_false,ite_true,ite_false,true_or,ne_eq,seval,h_putc,beq_self_eq_true,eq_self,exists_eq_left,exists_eq_left',e2]
      exact ⟨k - 1,by omega,hS.cells _ _ hk,hS.cells _ _ hb,i + 1,by omega,hf,ex_x rfl⟩
  · simp -implicitDefEqProofs (maxDischargeDepth:=12) only [WW,List.replicate,Option.some_or,s_conv,e_conv,s_slc3,e_cut3,e_cut3n,e_bns,e_bnn,e_splice,if_true,if_false,ite_true,ite_false,true_or,ne_eq,seval,h_putc,beq_self_eq_true,eq_self,exists_eq_left,exists_eq_left',c1]
    obtain rfl : i = 27:=by omega
    have : kRows.drop 27 = []:=rfl
    rw [this] at hf
    simp only [idxF] at hf
    rw [hf]
theorem find9_pv (s : ByteArray) : Pv prog polK 9 [.sc (.str s)] (.tup [.sc (.int .i64 (if idx s < 0 then 0 else IntKind.i64.wrap (idx s + 1))),.sc (.int .i64 (if idx s < 0 then 8 else 0))]):=by
  refine Pv_of' ok9 rfl ?_
  simp -implicitDefEqProofs (maxDischargeDepth:=12) only [wpF,cf9,WW,List.replicate,Option.some_or,s_conv,e_conv,s_slc3,e_cut3,e_cut3n,e_bns,e_bnn,e_splice,if_true,if_false,ite_true,ite_false,true_or,ne_eq,seval,h_putc,beq_self_eq_true,eq_self,exists_eq_left,exists_eq_left']
  refine wA_call rfl ((wpF_ok ok20 (Q:=fun v H1 => v = .slice 1 0 27 27 5∧H1 = (AHeap.alloc {} (.cells [.sc (.str s)])).alloc (.cells kindCells)) (by rw [wp20]; exact ⟨_,rfl,rfl,rfl⟩)).mono ?_)
  rintro o H1 ⟨v,rfl,rfl,rfl⟩
  refine ⟨_,rfl,fun c hc => by simp at hc,?_⟩
  simp -implicitDefEqProofs (maxDischargeDepth:=12) only [WW,List.replicate,Option.some_or,s_conv,e_conv,s_slc3,e_cut3,e_cut3n,e_bns,e_bnn,e_splice,if_true,if_false,ite_true,ite_false,true_or,ne_eq,seval,h_putc,beq_self_eq_true,eq_self,exists_eq_left,exists_eq_left']
  refine wA_call rfl ((index_ev s 1 0 _ rfl rfl).mono ?_)
  rintro o H1 ⟨v,rfl,rfl⟩
  refine ⟨_,rfl,fun c hc => by simp at hc,?_⟩
  by_cases c1 : idx s < 0
  · simp -implicitDefEqProofs (maxDischargeDepth:=12) only [WW,List.replicate,Option.some_or,s_conv,e_conv,s_slc3,e_cut3,e_cut3n,e_bns,e_bnn,e_splice,if_true,if_false,ite_true,ite_false,true_or,ne_eq,seval,h_putc,beq_self_eq_true,eq_self,exists_eq_left,exists_eq_left',c1]
    exact frzT
  · simp -implicitDefEqProofs (maxDischargeDepth:=12) only [WW,List.replicate,Option.some_or,s_conv,e_conv,s_slc3,e_cut3,e_cut3n,e_bns,e_bnn,e_splice,if_true,if_false,ite_true,ite_false,true_or,ne_eq,seval,h_putc,beq_self_eq_true,eq_self,exists_eq_left,exists_eq_left',c1]
    exact frzT
def cmdOf (k : Nat) : AV:=.agg (.sc (.int .i64 ((k + 1 : Nat) : Int)) :: (List.replicate 26 (.sc (.int .i64 0)) ++ [.sc (.str ⟨#[]⟩)]))
theorem text_run : ((List.range 27).all fun k => isV (xPure (Y prog polK memo0 tab 1000) 10 [cmdOf k]) (.sc (.str ((kRow k).name ++ ⟨#[32,48,32,48]⟩)))) = true:=by decide +kernel
theorem text_pv {k : Nat} (h : k < 27) : Pv prog polK 10 [cmdOf k] (.sc (.str ((kRow k).name ++ ⟨#[32,48,32,48]⟩))):=pv_of_y tab_ok memo0_ok rfl (isV_spec (List.all_eq_true.1 text_run k (by simpa using h)))
theorem idx_all : ((List.range 27).all fun k => idx (kRow k).name == (k : Int)) = true:=by decide +kernel
theorem idx_eq {k : Nat} (h : k < 27) : idx (kRow k).name = (k : Int):=by simpa using List.all_eq_true.1 idx_all k (by simpa using h)
theorem idxF_spec {s : ByteArray} : ∀ (l : List KRow) (i : Nat),(idxF l i s = -1) ∨ ∃ j : Nat,j < l.length∧idxF l i s = ((i + j : Nat) : Int)∧(l.getD j ⟨⟨#[]⟩,0,0,false,0⟩).name.toList = s.toList
  | [],i => .inl rfl
  | r :: l,i => by
    simp only [idxF]
    cases q : r.name.toList == s.toList with
    | true => exact .inr ⟨0,by simp,by simp,by simpa using q⟩
    | false =>
      rcases idxF_spec (s:=s) l (i + 1) with h | ⟨j,h1,h2,h3⟩
      · exact .inl (by simpa using h)
      · exact .inr ⟨j + 1,by simpa using h1,by simp only [Bool.false_eq_true,if_false,h2]; omega,by simpa using h3⟩
end Go.Hem
namespace Go.Hem
theorem idx_cases (s : ByteArray) : idx s < 0 ∨ ∃ j : Nat,j < 27∧idx s = (j : Int)∧(kRow j).name = s:=by
  rcases idxF_spec (s:=s) kRows 0 with h | ⟨j,h1,h2,h3⟩
  · left; unfold idx; rw [h]; decide
  · right
    refine ⟨j,h1,by unfold idx; rw [h2]; simp,?_⟩
    show (kRows.getD j _).name = s
    exact bytes_of_toList h3
theorem size_all : ((List.range 27).all fun k => decide ((kRow k).name.size ≤ 100)) = true:=by decide +kernel
theorem size_le {k : Nat} (h : k < 27) : (kRow k).name.size ≤ 100:=by simpa using List.all_eq_true.1 size_all k (by simpa using h)
theorem app_text {a b : ByteArray} (h : a.size ≤ 100) (hb : b.size ≤ 100) : bstrOf .add (.sc (.str a)) (.sc (.str b)) = some (.sc (.str (a ++ b))):=by
  unfold bstrOf
  simp only
  rw [if_neg]
  show ¬ (((a.size + b.size : Nat) : Int) > 9223372036854775807)
  omega
theorem wrapj {j : Nat} (h : j < 27) : IntKind.i64.wrap ((j : Int) + 1) = ((j + 1 : Nat) : Int):=by rw [w64 (by omega) (by omega)]; omega
theorem nul_eq : ((⟨#[]⟩ : ByteArray).toList == (⟨#[]⟩ : ByteArray).toList) = true:=by simp
theorem law4_pv (kind : Int) (name : ByteArray) : Pv prog polK 4 [.sc (.int .i64 kind),.sc (.str name)] (.sc (.bool true)):=by
  refine Pv_of' ok4 rfl ?_
  have hkk : (kind < 1 ∨ 27 < kind) ∨ ∃ k : Nat,k < 27∧kind = ((k + 1 : Nat) : Int):=by
    by_cases h : kind < 1 ∨ 27 < kind
    · exact .inl h
    · exact .inr ⟨kind.toNat - 1,by omega,by omega⟩
  by_cases c0 : (30 : Int) < (name.size : Int)
  · have c1 : 30 ≤ name.size:=by omega
    simp -implicitDefEqProofs (maxDischargeDepth:=12) only [wpF,cf4,WW,List.replicate,Option.some_or,s_conv,e_conv,s_slc3,e_cut3,e_cut3n,e_bns,e_bnn,e_splice,if_true,if_false,ite_true,ite_false,true_or,ne_eq,seval,h_putc,beq_self_eq_true,eq_self,exists_eq_left,exists_eq_left',c0,c1]
    generalize name.extract 0 30 = nm
    refine wA_pure rfl known_pv ?_
    simp -implicitDefEqProofs (maxDischargeDepth:=12) only [WW,List.replicate,Option.some_or,s_conv,e_conv,s_slc3,e_cut3,e_cut3n,e_bns,e_bnn,e_splice,if_true,if_false,ite_true,ite_false,true_or,ne_eq,seval,h_putc,beq_self_eq_true,eq_self,exists_eq_left,exists_eq_left']
    rcases hkk with hk | ⟨k,hk1,hk2⟩
    · refine wA_pure rfl (name_no kind hk) ?_
      simp -implicitDefEqProofs (maxDischargeDepth:=12) only [WW,List.replicate,Option.some_or,s_conv,e_conv,s_slc3,e_cut3,e_cut3n,e_bns,e_bnn,e_splice,if_true,if_false,ite_true,ite_false,true_or,ne_eq,seval,h_putc,beq_self_eq_true,eq_self,exists_eq_left,exists_eq_left']
      refine wA_pure rfl (find9_pv nm) ?_
      rcases idx_cases nm with hi | ⟨j,hj,hi,hn⟩
      · simp only [if_pos hi]
        simp -implicitDefEqProofs (maxDischargeDepth:=12) only [WW,List.replicate,Option.some_or,s_conv,e_conv,s_slc3,e_cut3,e_cut3n,e_bns,e_bnn,e_splice,if_true,if_false,ite_true,ite_false,true_or,ne_eq,seval,h_putc,beq_self_eq_true,eq_self,exists_eq_left,exists_eq_left']
        by_cases c2 : kind < 1
        · simp -implicitDefEqProofs (maxDischargeDepth:=12) only [WW,List.replicate,Option.some_or,s_conv,e_conv,s_slc3,e_cut3,e_cut3n,e_bns,e_bnn,e_splice,if_true,if_false,ite_true,ite_false,true_or,ne_eq,seval,h_putc,beq_self_eq_true,eq_self,exists_eq_left,exists_eq_left',c2,nul_eq,beq_self_eq_true]
          exact frz_sc
        · have c3 : (27 : Int) < kind:=by omega
          simp -implicitDefEqProofs (maxDischargeDepth:=12) only [WW,List.replicate,Option.some_or,s_conv,e_conv,s_slc3,e_cut3,e_cut3n,e_bns,e_bnn,e_splice,if_true,if_false,ite_true,ite_false,true_or,ne_eq,seval,h_putc,beq_self_eq_true,eq_self,exists_eq_left,exists_eq_left',c2,c3,nul_eq,beq_self_eq_true]
          exact frz_sc
      · have c5 : ¬ (idx nm < 0):=by omega
        simp only [if_neg c5]
        rw [hi,wrapj hj]
        simp -implicitDefEqProofs (maxDischargeDepth:=12) only [WW,List.replicate,Option.some_or,s_conv,e_conv,s_slc3,e_cut3,e_cut3n,e_bns,e_bnn,e_splice,if_true,if_false,ite_true,ite_false,true_or,ne_eq,seval,h_putc,beq_self_eq_true,eq_self,exists_eq_left,exists_eq_left']
        have hnp:=name_pv ((j + 1 : Nat) : Int) (by omega) (by omega)
        rw [show ((j + 1 : Nat) : Int).toNat - 1 = j by omega,hn] at hnp
        refine wA_pure rfl hnp ?_
        simp -implicitDefEqProofs (maxDischargeDepth:=12) only [WW,List.replicate,Option.some_or,s_conv,e_conv,s_slc3,e_cut3,e_cut3n,e_bns,e_bnn,e_splice,if_true,if_false,ite_true,ite_false,true_or,ne_eq,seval,h_putc,beq_self_eq_true,eq_self,exists_eq_left,exists_eq_left',beq_self_eq_true]
        by_cases c2 : kind < 1
        · simp -implicitDefEqProofs (maxDischargeDepth:=12) only [WW,List.replicate,Option.some_or,s_conv,e_conv,s_slc3,e_cut3,e_cut3n,e_bns,e_bnn,e_splice,if_true,if_false,ite_true,ite_false,true_or,ne_eq,seval,h_putc,beq_self_eq_true,eq_self,exists_eq_left,exists_eq_left',c2,nul_eq,beq_self_eq_true]
          exact frz_sc
        · have c3 : (27 : Int) < kind:=by omega
          simp -implicitDefEqProofs (maxDischargeDepth:=12) only [WW,List.replicate,Option.some_or,s_conv,e_conv,s_slc3,e_cut3,e_cut3n,e_bns,e_bnn,e_splice,if_true,if_false,ite_true,ite_false,true_or,ne_eq,seval,h_putc,beq_self_eq_true,eq_self,exists_eq_left,exists_eq_left',c2,c3,nul_eq,beq_self_eq_true]
          exact frz_sc
    · have hnk:=name_pv kind (by omega) (by omega)
      rw [show kind.toNat - 1 = k by omega] at hnk
      refine wA_pure rfl hnk ?_
      simp -implicitDefEqProofs (maxDischargeDepth:=12) only [WW,List.replicate,Option.some_or,s_conv,e_conv,s_slc3,e_cut3,e_cut3n,e_bns,e_bnn,e_splice,if_true,if_false,ite_true,ite_false,true_or,ne_eq,seval,h_putc,beq_self_eq_true,eq_self,exists_eq_left,exists_eq_left']
      refine wA_pure rfl (find9_pv nm) ?_
      rcases idx_cases nm with hi | ⟨j,hj,hi,hn⟩
      · simp only [if_pos hi]
        simp -implicitDefEqProofs (maxDischargeDepth:=12) only [WW,List.replicate,Option.some_or,s_conv,e_conv,s_slc3,e_cut3,e_cut3n,e_bns,e_bnn,e_splice,if_true,if_false,ite_true,ite_false,true_or,ne_eq,seval,h_putc,beq_self_eq_true,eq_self,exists_eq_left,exists_eq_left']
        have c2 : ¬ kind < 1:=by omega
        have c3 : ¬ (27 : Int) < kind:=by omega
        simp -implicitDefEqProofs (maxDischargeDepth:=12) only [WW,List.replicate,Option.some_or,s_conv,e_conv,s_slc3,e_cut3,e_cut3n,e_bns,e_bnn,e_splice,if_true,if_false,ite_true,ite_false,true_or,ne_eq,seval,h_putc,beq_self_eq_true,eq_self,exists_eq_left,exists_eq_left',c2,c3]
        refine wA_pure rfl (find9_pv _) ?_
        have hi2:=idx_eq hk1
        have c4 : ¬ (idx (kRow k).name < 0):=by omega
        simp only [if_neg c4]
        rw [hi2,wrapj hk1]
        simp -implicitDefEqProofs (maxDischargeDepth:=12) only [WW,List.replicate,Option.some_or,s_conv,e_conv,s_slc3,e_cut3,e_cut3n,e_bns,e_bnn,e_splice,if_true,if_false,ite_true,ite_false,true_or,ne_eq,seval,h_putc,beq_self_eq_true,eq_self,exists_eq_left,exists_eq_left']
        refine wA_pure rfl (by rw [hk2]; exact text_pv hk1) ?_
        simp -implicitDefEqProofs (maxDischargeDepth:=12) only [WW,List.replicate,Option.some_or,s_conv,e_conv,s_slc3,e_cut3,e_cut3n,e_bns,e_bnn,e_splice,if_true,if_false,ite_true,ite_false,true_or,ne_eq,seval,h_putc,beq_self_eq_true,eq_self,exists_eq_left,exists_eq_left',hk2,app_text (size_le hk1) (show (⟨#[32,48,32,48]⟩ : ByteArray).size ≤ 100 by decide),beq_self_eq_true]
        exact frz_sc
      · have c5 : ¬ (idx nm < 0):=by omega
        simp only [if_neg c5]
        rw [hi,wrapj hj]
        simp -implicitDefEqProofs (maxDischargeDepth:=12) only [WW,List.replicate,Option.some_or,s_conv,e_conv,s_slc3,e_cut3,e_cut3n,e_bns,e_bnn,e_splice,if_true,if_false,ite_true,ite_false,true_or,ne_eq,seval,h_putc,beq_self_eq_true,eq_self,exists_eq_left,exists_eq_left']
        have hnp:=name_pv ((j + 1 : Nat) : Int) (by omega) (by omega)
        rw [show ((j + 1 : Nat) : Int).toNat - 1 = j by omega,hn] at hnp
        refine wA_pure rfl hnp ?_
        simp -implicitDefEqProofs (maxDischargeDepth:=12) only [WW,List.replicate,Option.some_or,s_conv,e_conv,s_slc3,e_cut3,e_cut3n,e_bns,e_bnn,e_splice,if_true,if_false,ite_true,ite_false,true_or,ne_eq,seval,h_putc,beq_self_eq_true,eq_self,exists_eq_left,exists_eq_left',beq_self_eq_true]
        have c2 : ¬ kind < 1:=by omega
        have c3 : ¬ (27 : Int) < kind:=by omega
        simp -implicitDefEqProofs (maxDischargeDepth:=12) only [WW,List.replicate,Option.some_or,s_conv,e_conv,s_slc3,e_cut3,e_cut3n,e_bns,e_bnn,e_splice,if_true,if_false,ite_true,ite_false,true_or,ne_eq,seval,h_putc,beq_self_eq_true,eq_self,exists_eq_left,exists_eq_left',c2,c3]
        refine wA_pure rfl (find9_pv _) ?_
        have hi2:=idx_eq hk1
        have c4 : ¬ (idx (kRow k).name < 0):=by omega
        simp only [if_neg c4]
        rw [hi2,wrapj hk1]
        simp -implicitDefEqProofs (maxDischargeDepth:=12) only [WW,List.replicate,Option.some_or,s_conv,e_conv,s_slc3,e_cut3,e_cut3n,e_bns,e_bnn,e_splice,if_true,if_false,ite_true,ite_false,true_or,ne_eq,seval,h_putc,beq_self_eq_true,eq_self,exists_eq_left,exists_eq_left']
        refine wA_pure rfl (by rw [hk2]; exact text_pv hk1) ?_
        simp -implicitDefEqProofs (maxDischargeDepth:=12) only [WW,List.replicate,Option.some_or,s_conv,e_conv,s_slc3,e_cut3,e_cut3n,e_bns,e_bnn,e_splice,if_true,if_false,ite_true,ite_false,true_or,ne_eq,seval,h_putc,beq_self_eq_true,eq_self,exists_eq_left,exists_eq_left',hk2,app_text (size_le hk1) (show (⟨#[32,48,32,48]⟩ : ByteArray).size ≤ 100 by decide),beq_self_eq_true]
        exact frz_sc
  · simp -implicitDefEqProofs (maxDischargeDepth:=12) only [wpF,cf4,WW,List.replicate,Option.some_or,s_conv,e_conv,s_slc3,e_cut3,e_cut3n,e_bns,e_bnn,e_splice,if_true,if_false,ite_true,ite_false,true_or,ne_eq,seval,h_putc,beq_self_eq_true,eq_self,exists_eq_left,exists_eq_left',c0]
    generalize name.extract 0 name.size = nm
    refine wA_pure rfl known_pv ?_
    simp -implicitDefEqProofs (maxDischargeDepth:=12) only [WW,List.replicate,Option.some_or,s_conv,e_conv,s_slc3,e_cut3,e_cut3n,e_bns,e_bnn,e_splice,if_true,if_false,ite_true,ite_false,true_or,ne_eq,seval,h_putc,beq_self_eq_true,eq_self,exists_eq_left,exists_eq_left']
    rcases hkk with hk | ⟨k,hk1,hk2⟩
    · refine wA_pure rfl (name_no kind hk) ?_
      simp -implicitDefEqProofs (maxDischargeDepth:=12) only [WW,List.replicate,Option.some_or,s_conv,e_conv,s_slc3,e_cut3,e_cut3n,e_bns,e_bnn,e_splice,if_true,if_false,ite_true,ite_false,true_or,ne_eq,seval,h_putc,beq_self_eq_true,eq_self,exists_eq_left,exists_eq_left']
      refine wA_pure rfl (find9_pv nm) ?_
      rcases idx_cases nm with hi | ⟨j,hj,hi,hn⟩
      · simp only [if_pos hi]
        simp -implicitDefEqProofs (maxDischargeDepth:=12) only [WW,List.replicate,Option.some_or,s_conv,e_conv,s_slc3,e_cut3,e_cut3n,e_bns,e_bnn,e_splice,if_true,if_false,ite_true,ite_false,true_or,ne_eq,seval,h_putc,beq_self_eq_true,eq_self,exists_eq_left,exists_eq_left']
        by_cases c2 : kind < 1
        · simp -implicitDefEqProofs (maxDischargeDepth:=12) only [WW,List.replicate,Option.some_or,s_conv,e_conv,s_slc3,e_cut3,e_cut3n,e_bns,e_bnn,e_splice,if_true,if_false,ite_true,ite_false,true_or,ne_eq,seval,h_putc,beq_self_eq_true,eq_self,exists_eq_left,exists_eq_left',c2,nul_eq,beq_self_eq_true]
          exact frz_sc
        · have c3 : (27 : Int) < kind:=by omega
          simp -implicitDefEqProofs (maxDischargeDepth:=12) only [WW,List.replicate,Option.some_or,s_conv,e_conv,s_slc3,e_cut3,e_cut3n,e_bns,e_bnn,e_splice,if_true,if_false,ite_true,ite_false,true_or,ne_eq,seval,h_putc,beq_self_eq_true,eq_self,exists_eq_left,exists_eq_left',c2,c3,nul_eq,beq_self_eq_true]
          exact frz_sc
      · have c5 : ¬ (idx nm < 0):=by omega
        simp only [if_neg c5]
        rw [hi,wrapj hj]
        simp -implicitDefEqProofs (maxDischargeDepth:=12) only [WW,List.replicate,Option.some_or,s_conv,e_conv,s_slc3,e_cut3,e_cut3n,e_bns,e_bnn,e_splice,if_true,if_false,ite_true,ite_false,true_or,ne_eq,seval,h_putc,beq_self_eq_true,eq_self,exists_eq_left,exists_eq_left']
        have hnp:=name_pv ((j + 1 : Nat) : Int) (by omega) (by omega)
        rw [show ((j + 1 : Nat) : Int).toNat - 1 = j by omega,hn] at hnp
        refine wA_pure rfl hnp ?_
        simp -implicitDefEqProofs (maxDischargeDepth:=12) only [WW,List.replicate,Option.some_or,s_conv,e_conv,s_slc3,e_cut3,e_cut3n,e_bns,e_bnn,e_splice,if_true,if_false,ite_true,ite_false,true_or,ne_eq,seval,h_putc,beq_self_eq_true,eq_self,exists_eq_left,exists_eq_left',beq_self_eq_true]
        by_cases c2 : kind < 1
        · simp -implicitDefEqProofs (maxDischargeDepth:=12) only [WW,List.replicate,Option.some_or,s_conv,e_conv,s_slc3,e_cut3,e_cut3n,e_bns,e_bnn,e_splice,if_true,if_false,ite_true,ite_false,true_or,ne_eq,seval,h_putc,beq_self_eq_true,eq_self,exists_eq_left,exists_eq_left',c2,nul_eq,beq_self_eq_true]
          exact frz_sc
        · have c3 : (27 : Int) < kind:=by omega
          simp -implicitDefEqProofs (maxDischargeDepth:=12) only [WW,List.replicate,Option.some_or,s_conv,e_conv,s_slc3,e_cut3,e_cut3n,e_bns,e_bnn,e_splice,if_true,if_false,ite_true,ite_false,true_or,ne_eq,seval,h_putc,beq_self_eq_true,eq_self,exists_eq_left,exists_eq_left',c2,c3,nul_eq,beq_self_eq_true]
          exact frz_sc
    · have hnk:=name_pv kind (by omega) (by omega)
      rw [show kind.toNat - 1 = k by omega] at hnk
      refine wA_pure rfl hnk ?_
      simp -implicitDefEqProofs (maxDischargeDepth:=12) only [WW,List.replicate,Option.some_or,s_conv,e_conv,s_slc3,e_cut3,e_cut3n,e_bns,e_bnn,e_splice,if_true,if_false,ite_true,ite_false,true_or,ne_eq,seval,h_putc,beq_self_eq_true,eq_self,exists_eq_left,exists_eq_left']
      refine wA_pure rfl (find9_pv nm) ?_
      rcases idx_cases nm with hi | ⟨j,hj,hi,hn⟩
      · simp only [if_pos hi]
        simp -implicitDefEqProofs (maxDischargeDepth:=12) only [WW,List.replicate,Option.some_or,s_conv,e_conv,s_slc3,e_cut3,e_cut3n,e_bns,e_bnn,e_splice,if_true,if_false,ite_true,ite_false,true_or,ne_eq,seval,h_putc,beq_self_eq_true,eq_self,exists_eq_left,exists_eq_left']
        have c2 : ¬ kind < 1:=by omega
        have c3 : ¬ (27 : Int) < kind:=by omega
        simp -implicitDefEqProofs (maxDischargeDepth:=12) only [WW,List.replicate,Option.some_or,s_conv,e_conv,s_slc3,e_cut3,e_cut3n,e_bns,e_bnn,e_splice,if_true,if_false,ite_true,ite_false,true_or,ne_eq,seval,h_putc,beq_self_eq_true,eq_self,exists_eq_left,exists_eq_left',c2,c3]
        refine wA_pure rfl (find9_pv _) ?_
        have hi2:=idx_eq hk1
        have c4 : ¬ (idx (kRow k).name < 0):=by omega
        simp only [if_neg c4]
        rw [hi2,wrapj hk1]
        simp -implicitDefEqProofs (maxDischargeDepth:=12) only [WW,List.replicate,Option.some_or,s_conv,e_conv,s_slc3,e_cut3,e_cut3n,e_bns,e_bnn,e_splice,if_true,if_false,ite_true,ite_false,true_or,ne_eq,seval,h_putc,beq_self_eq_true,eq_self,exists_eq_left,exists_eq_left']
        refine wA_pure rfl (by rw [hk2]; exact text_pv hk1) ?_
        simp -implicitDefEqProofs (maxDischargeDepth:=12) only [WW,List.replicate,Option.some_or,s_conv,e_conv,s_slc3,e_cut3,e_cut3n,e_bns,e_bnn,e_splice,if_true,if_false,ite_true,ite_false,true_or,ne_eq,seval,h_putc,beq_self_eq_true,eq_self,exists_eq_left,exists_eq_left',hk2,app_text (size_le hk1) (show (⟨#[32,48,32,48]⟩ : ByteArray).size ≤ 100 by decide),beq_self_eq_true]
        exact frz_sc
      · have c5 : ¬ (idx nm < 0):=by omega
        simp only [if_neg c5]
        rw [hi,wrapj hj]
        simp -implicitDefEqProofs (maxDischargeDepth:=12) only [WW,List.replicate,Option.some_or,s_conv,e_conv,s_slc3,e_cut3,e_cut3n,e_bns,e_bnn,e_splice,if_true,if_false,ite_true,ite_false,true_or,ne_eq,seval,h_putc,beq_self_eq_true,eq_self,exists_eq_left,exists_eq_left']
        have hnp:=name_pv ((j + 1 : Nat) : Int) (by omega) (by omega)
        rw [show ((j + 1 : Nat) : Int).toNat - 1 = j by omega,hn] at hnp
        refine wA_pure rfl hnp ?_
        simp -implicitDefEqProofs (maxDischargeDepth:=12) only [WW,List.replicate,Option.some_or,s_conv,e_conv,s_slc3,e_cut3,e_cut3n,e_bns,e_bnn,e_splice,if_true,if_false,ite_true,ite_false,true_or,ne_eq,seval,h_putc,beq_self_eq_true,eq_self,exists_eq_left,exists_eq_left',beq_self_eq_true]
        have c2 : ¬ kind < 1:=by omega
        have c3 : ¬ (27 : Int) < kind:=by omega
        simp -implicitDefEqProofs (maxDischargeDepth:=12) only [WW,List.replicate,Option.some_or,s_conv,e_conv,s_slc3,e_cut3,e_cut3n,e_bns,e_bnn,e_splice,if_true,if_false,ite_true,ite_false,true_or,ne_eq,seval,h_putc,beq_self_eq_true,eq_self,exists_eq_left,exists_eq_left',c2,c3]
        refine wA_pure rfl (find9_pv _) ?_
        have hi2:=idx_eq hk1
        have c4 : ¬ (idx (kRow k).name < 0):=by omega
        simp only [if_neg c4]
        rw [hi2,wrapj hk1]
        simp -implicitDefEqProofs (maxDischargeDepth:=12) only [WW,List.replicate,Option.some_or,s_conv,e_conv,s_slc3,e_cut3,e_cut3n,e_bns,e_bnn,e_splice,if_true,if_false,ite_true,ite_false,true_or,ne_eq,seval,h_putc,beq_self_eq_true,eq_self,exists_eq_left,exists_eq_left']
        refine wA_pure rfl (by rw [hk2]; exact text_pv hk1) ?_
        simp -implicitDefEqProofs (maxDischargeDepth:=12) only [WW,List.replicate,Option.some_or,s_conv,e_conv,s_slc3,e_cut3,e_cut3n,e_bns,e_bnn,e_splice,if_true,if_false,ite_true,ite_false,true_or,ne_eq,seval,h_putc,beq_self_eq_true,eq_self,exists_eq_left,exists_eq_left',hk2,app_text (size_le hk1) (show (⟨#[32,48,32,48]⟩ : ByteArray).size ≤ 100 by decide),beq_self_eq_true]
        exact frz_sc
end Go.Hem
