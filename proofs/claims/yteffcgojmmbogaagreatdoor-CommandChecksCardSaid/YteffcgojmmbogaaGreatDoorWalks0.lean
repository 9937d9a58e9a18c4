/- Walks. -/
import Derived.Test.YteffcgojmmbogaaGreatDoorHemTab
import Derived.Test.YteffcgojmmbogaaGreatDoorPol48
import Derived.Test.YteffcgojmmbogaaGreatDoorHemBun
import Derived.Test.YteffcgojmmbogaaGreatDoorHemData48
import Derived.Test.YteffcgojmmbogaaGreatDoorHemMemo
import Derived.Test.YteffcgojmmbogaaGreatDoorK48m
set_option maxRecDepth 10000
set_option maxHeartbeats 4000000
set_option linter.unusedSimpArgs false
set_option linter.unusedVariables false
namespace Go.Hem
def bitI (i : Nat) : Int:=IntKind.i64.wrap (1 * 2 ^ (Min.min (i : Int).toNat IntKind.i64.bits))
def accN : List Bool→Nat→Int→Int
  | [],_,n => n
  | b :: l,i,n => accN l (i + 1) (if b then bitsOf .i64 (· ||| ·) n (bitI i) else n)
theorem drop_some {l : List Bool} {i : Nat} {b : Bool} (h : l[i]? = some b) : l.drop i = b :: l.drop (i + 1):=by
  obtain ⟨hi,rfl⟩:=List.getElem?_eq_some_iff.1 h
  exact List.drop_eq_getElem_cons hi
theorem rep12 : rep 12 [.sc (.bool false)] = [.sc (.bool false),.sc (.bool false),.sc (.bool false),.sc (.bool false),.sc (.bool false),.sc (.bool false),.sc (.bool false),.sc (.bool false),.sc (.bool false),.sc (.bool false),.sc (.bool false),.sc (.bool false)]:=rfl
theorem cmd_closed (c : Cmd) : AV.closedBs [c.enc] = true:=by simp only [AV.closedBs,Cmd.enc_closed,Bool.and_self]
def Cmd.flags (c : Cmd) : List Bool:=[!(decide (c.obj.site = 0) && decide (c.obj.number = 0)),!(decide (c.other.site = 0) && decide (c.other.number = 0)),decide (¬ c.staff = 0),decide (¬ c.voice = 0),decide (¬ c.at_ = 0),decide (¬ c.index = 0),decide (¬ c.number = 0),
  !(decide (c.value.log = 0) && decide (c.value.dots = 0)),!(decide (c.pitch.step = 0) && (decide (c.pitch.alter = 0) && decide (c.pitch.octave = 0))),
  !(decide (c.metre.count = 0) && (decide (c.metre.unit = 0) && (decide (c.metre.g0 = 0) && (decide (c.metre.g1 = 0) && (decide (c.metre.g2 = 0) && (decide (c.metre.g3 = 0) && (decide (c.metre.g4 = 0) && decide (c.metre.g5 = 0)))))))),
  !(decide (c.interval.steps = 0) && decide (c.interval.semitones = 0)),!c.text.toList == (⟨#[]⟩ : ByteArray).toList]
def boolAV (b : Bool) : AV:=.sc (.bool b)
theorem s_shft' {P : Program} {t : List AV} {H : AHeap} {op : BinOp} {x y : Operand} : csem P t H (.shft op x y) = (shiftOf op (aev t x) (aev t y)).map .val:=rfl
theorem e_or' {k : IntKind} {a b : Int} : bintOf .or (.sc (.int k a)) (.sc (.int k b)) = some (.sc (.int k (bitsOf k (· ||| ·) a b))):=by simp only [bintOf,if_true]
theorem e_andNot' {k : IntKind} {a b : Int} : bintOf .andNot (.sc (.int k a)) (.sc (.int k b)) = some (.sc (.int k (bitsOf k (fun x y => x &&& ~~~y) a b))):=by simp only [bintOf,if_true]
theorem used_pv (c : Cmd) : Pv prog polK 15 [c.enc] (.sc (.int .i64 (accN c.flags 0 0))):=by
  generalize hr : accN c.flags 0 0 = r
  have hlen : c.flags.length = 12:=rfl
  refine Pv_of' ok15 (cmd_closed c) ?_
  simp -implicitDefEqProofs (maxDischargeDepth:=12) only [wpF,cf15,WW,List.replicate,Option.some_or,s_conv,e_conv,s_slc3,e_cut3,e_cut3n,e_bns,e_bnn,e_splice,if_true,if_false,ite_true,ite_false,true_or,ne_eq,seval,h_putc,beq_self_eq_true,eq_self,exists_eq_left,exists_eq_left',c.enc_eq,rep12]
  refine wp_loop (Inv:=fun k t H => H.cells 1 = some (c.flags.map boolAV)∧∃ (i : Nat) (n : Int),i + k = 12∧accN (c.flags.drop i) i n = r ∧
    ∃ x : Nat→AV,t = [x 0,x 1,x 2,x 3,.sc (.int .i64 n),x 5,x 6,x 7,x 8,x 9,x 10,x 11,x 12,x 13,x 14,x 15,x 16,x 17,x 18,x 19,x 20,x 21,x 22,x 23,x 24,x 25,x 26,x 27,x 28,x 29,x 30,x 31,x 32,x 33,x 34,x 35,x 36,x 37,x 38,x 39,x 40,x 41,x 42,x 43,x 44,x 45,x 46,x 47,x 48,x 49,.slice 1 0 12 12 1,.sc (.int .i64 12),.sc (.int .i64 i),x 53,x 54,x 55,x 56,x 57,x 58,x 59,x 60,x 61,x 62,x 63]) (k:=12) ?_
    ⟨rfl,0,0,by omega,hr,ex_x rfl⟩
  rintro k t H ⟨hc,i,n,hk,hf,x,rfl⟩
  by_cases c1 : (i : Int) < (12 : Int)
  · obtain ⟨b,hb⟩ : ∃ b,c.flags[i]? = some b:=⟨_,List.getElem?_eq_getElem (by omega)⟩
    have hb' : (c.flags.map boolAV)[i]? = some (.sc (.bool b)):=by rw [List.getElem?_map,hb]; rfl
    have e2 : IntKind.i64.wrap ((i : Int) + 1) = ((i + 1 : Nat) : Int):=by rw [w64 (by omega) (by omega)]; omega
    have c2 : (i : Nat) < 12:=by omega
    rw [drop_some hb] at hf
    simp only [accN] at hf
    have hs : shiftOf .shl (.sc (.int .i64 1)) (.sc (.int .i64 i)) = some (.sc (.int .i64 (bitI i))):=by
      show (if (i : Int) < 0 then none else some _) = _
      rw [if_neg (by omega)]; rfl
    cases b with
    | true =>
      simp only [if_true] at hf
      simp -implicitDefEqProofs (maxDischargeDepth:=12) only [WW,List.replicate,Option.some_or,s_conv,e_conv,s_slc3,e_cut3,e_cut3n,e_bns,e_bnn,e_splice,if_true,if_false,ite_true,ite_false,true_or,ne_eq,seval,h_putc,beq_self_eq_true,eq_self,exists_eq_left,exists_eq_left',c1,c2,hc,hb',Nat.mul_one,s_shft',hs,e_or',e2]
      exact ⟨k - 1,by omega,i + 1,_,by omega,hf,ex_x rfl⟩
    | false =>
      simp -implicitDefEqProofs (maxDischargeDepth:=12) only [WW,List.replicate,Option.some_or,s_conv,e_conv,s_slc3,e_cut3,e_cut3n,e_bns,e_bnn,e_splice,if_true,if_false,ite_true,ite_false,true_or,ne_eq,seval,h_putc,beq_self_eq_true,eq_self,exists_eq_left,exists_eq_left',c1,c2,hc,hb',Nat.mul_one,e2]
      exact ⟨k - 1,by omega,i + 1,n,by omega,by simpa using hf,ex_x rfl⟩
  · simp -implicitDefEqProofs (maxDischargeDepth:=12) only [WW,List.replicate,Option.some_or,s_conv,e_conv,s_slc3,e_cut3,e_cut3n,e_bns,e_bnn,e_splice,if_true,if_false,ite_true,ite_false,true_or,ne_eq,seval,h_putc,beq_self_eq_true,eq_self,exists_eq_left,exists_eq_left',c1]
    obtain rfl : i = 12:=by omega
    have : c.flags.drop 12 = []:=rfl
    rw [this] at hf
    simp only [accN] at hf
    subst hf
    exact frz_sc
end Go.Hem
set_option maxRecDepth 100000
namespace Go.Hem
structure KRow where
  name : ByteArray
  fields : Int
  obj : Int
  ranged : Bool
  fn : Nat
def kRows : List KRow:=[⟨⟨#[115,101,116,116,105,116,108,101]⟩,2048,0,false,40⟩,⟨⟨#[97,100,100,112,97,114,116]⟩,3168,0,false,41⟩,⟨⟨#[114,101,109,111,118,101,112,97,114,116]⟩,1,1,false,42⟩,⟨⟨#[115,101,116,112,97,114,116]⟩,3073,1,false,43⟩,⟨⟨#[115,101,116,99,108,101,102]⟩,85,0,false,44⟩,⟨⟨#[105,110,115,101,114,116,109,101,97,115,117,114,101,115]⟩,65,0,false,45⟩,⟨⟨#[114,101,109,111,118,101,109,101,97,115,117,114,101,115]⟩,3,3,true,46⟩,⟨⟨#[115,101,116,109,101,116,114,101]⟩,515,3,true,47⟩,⟨⟨#[115,101,116,108,101,110,103,116,104]⟩,65,3,false,48⟩,⟨⟨#[115,101,116,107,101,121]⟩,67,3,true,49⟩,⟨⟨#[115,101,116,109,101,97,115,117,114,101]⟩,2145,3,false,50⟩,⟨⟨#[115,101,116,116,101,109,112,111]⟩,113,3,false,51⟩,⟨⟨#[119,114,105,116,101]⟩,477,3,false,52⟩,⟨⟨#[101,114,97,115,101]⟩,93,3,false,53⟩,⟨⟨#[97,100,100,104,101,97,100]⟩,257,4,false,54⟩,⟨⟨#[114,101,109,111,118,101,104,101,97,100]⟩,33,4,false,55⟩,⟨⟨#[115,101,116,112,105,116,99,104]⟩,289,4,false,56⟩,⟨⟨#[116,114,97,110,115,112,111,115,101]⟩,1027,4,true,57⟩,⟨⟨#[115,101,116,116,105,101]⟩,97,4,false,58⟩,⟨⟨#[115,101,116,115,104,111,119]⟩,97,4,false,59⟩,⟨⟨#[115,101,116,101,118,101,110,116]⟩,97,4,false,60⟩,⟨⟨#[115,101,116,108,121,114,105,99]⟩,2145,4,false,61⟩,⟨⟨#[115,101,116,103,114,97,99,101]⟩,481,4,false,62⟩,⟨⟨#[109,97,107,101,116,117,112,108,101,116]⟩,253,3,false,63⟩,⟨⟨#[115,101,116,118,111,105,99,101]⟩,69,3,false,64⟩,⟨⟨#[97,100,100,115,112,97,110,110,101,114]⟩,67,4,false,65⟩,⟨⟨#[114,101,109,111,118,101,115,112,97,110,110,101,114]⟩,1,5,false,66⟩]
def KRow.cells (r : KRow) : List AV:=[.sc (.str r.name),.sc (.int .i64 r.fields),.sc (.int .i64 r.obj),.sc (.bool r.ranged),.func (.func r.fn) [] []]
def kindCells : List AV:=kRows.flatMap KRow.cells
def kRow (k : Nat) : KRow:=kRows.getD k ⟨⟨#[]⟩,0,0,false,0⟩
def usesL : List ByteArray:=[⟨#[]⟩,⟨#[88]⟩,⟨#[73,78,88,69]⟩,⟨#[79]⟩,⟨#[79,88,69]⟩,⟨#[79,83,65,78]⟩,⟨#[79,78]⟩,⟨#[79,84]⟩,⟨#[79,84,77]⟩,⟨#[79,78]⟩,⟨#[79,84,78]⟩,⟨#[79,73,78,88]⟩,⟨#[79,65,78,73]⟩,⟨#[79,83,86,65,78,76,80]⟩,⟨#[79,83,86,65,78]⟩,⟨#[79,80]⟩,⟨#[79,73]⟩,⟨#[79,73,80]⟩,⟨#[79,84,69]⟩,⟨#[79,73,78]⟩,⟨#[79,73,78]⟩,⟨#[79,73,78]⟩,⟨#[79,73,88,78]⟩,⟨#[79,73,78,80,76]⟩,⟨#[79,83,86,65,78,73,76]⟩,⟨#[79,83,78]⟩,⟨#[79,84,78]⟩,⟨#[79]⟩]
def usesOf (k : Nat) : ByteArray:=usesL.getD k ⟨#[]⟩
def letters : List Nat:=[79,84,83,86,65,73,78,76,80,77,69,88]
def hasB (s : ByteArray) (c : Nat) : Bool:=s.data.toList.any fun b => b.toNat == c
theorem wp20 (H : AHeap) (Q : AV→AHeap→Prop) : wpF prog polK cf20 [] H Q = ∃ v,some (AV.slice H.next 0 27 27 5) = some v∧Q v (H.alloc (.cells kindCells)):=by kernel_rfl
theorem row_all : ((List.range 27).all fun k => AV.beqs ((kindCells.drop (k * 5)).take 5) (kRow k).cells) = true:=by decide +kernel
theorem row_eq {k : Nat} (h : k < 27) : (kindCells.drop (k * 5)).take 5 = (kRow k).cells:=AV.eq_of_beqs _ _ (List.all_eq_true.1 row_all k (by simpa using h))
theorem uses_run : ((List.range 27).all fun k => isV (xPure (Y prog polK memo0 tab 1000) 17 [.sc (.int .i64 ((k + 1 : Nat) : Int))]) (.sc (.str (usesOf (k + 1))))) = true:=by decide +kernel
theorem uses_pv {k : Nat} (h : k < 27) : Pv prog polK 17 [.sc (.int .i64 ((k + 1 : Nat) : Int))] (.sc (.str (usesOf (k + 1)))):=pv_of_y tab_ok memo0_ok rfl (isV_spec (List.all_eq_true.1 uses_run k (by simpa using h)))
theorem has_run : ((List.range 27).all fun k => letters.all fun c => isV (xPure (Y prog polK memo0 tab 1000) 18 [.sc (.str (usesOf (k + 1))),.sc (.int .u8 (c : Nat))]) (.sc (.bool (hasB (usesOf (k + 1)) c)))) = true:=by decide +kernel
theorem has_pv {k : Nat} (h : k < 27) {c : Nat} (hc : c ∈ letters) : Pv prog polK 18 [.sc (.str (usesOf (k + 1))),.sc (.int .u8 (c : Nat))] (.sc (.bool (hasB (usesOf (k + 1)) c))) :=
  pv_of_y tab_ok memo0_ok rfl (isV_spec (List.all_eq_true.1 (List.all_eq_true.1 has_run k (by simpa using h)) c hc))
end Go.Hem
set_option maxRecDepth 10000
namespace Go.Hem
structure Stays (H H' : AHeap) : Prop where
  cells : ∀ b cs,H.cells b = some cs→H'.cells b = some cs
  next : H.next ≤ H'.next
theorem stays_alloc {H H' : AHeap} {x : Blk} (h : Stays H H') : Stays H (H'.alloc x) :=
  ⟨fun b cs hb => by unfold AHeap.cells; rw [AHeap.get_alloc_lt H' x (AHeap.get_lt (cells_get' (h.cells b cs hb)))]; exact h.cells b cs hb,by simpa using Nat.le_succ_of_le h.next⟩
theorem Stays.refl (H : AHeap) : Stays H H:=⟨fun _ _ h => h,Nat.le_refl _⟩
theorem stays_put {H H' : AHeap} {b : Nat} {x : Option Blk} (h : Stays H H') (hb : H.next ≤ b) : Stays H (H'.put b x) :=
  ⟨fun b' cs hb' => by
    have:=AHeap.get_lt (cells_get' hb')
    have e:=h.cells b' cs hb'
    unfold AHeap.cells at e ⊢
    rw [AHeap.get_put_ne H' x (by omega)]; exact e,by simpa using h.next⟩
theorem find_ev (k : Nat) (hk : k < 27) (H : AHeap) : Ev prog polK (.call 14 [.sc (.int .i64 ((k + 1 : Nat) : Int))]) H fun o H' => ∃ v,o = .val v∧v = .tup [.agg (kRow k).cells,.sc (.int .i64 0)]∧Stays H H':=by
  refine wpF_ok ok14 ?_
  have c1 : ¬ (((k + 1 : Nat) : Int) < 1):=by omega
  have c2 : ¬ ((27 : Int) < ((k + 1 : Nat) : Int)):=by omega
  have e2 : IntKind.i64.wrap (((k + 1 : Nat) : Int) - 1) = (k : Int):=by rw [w64 (by omega) (by omega)]; omega
  have hl : kindCells.length = 135:=by decide +kernel
  have c4 : ¬ (H.next = H.next + 1):=by omega
  have c3 : k * 5 + 5 ≤ 135:=by omega
  have hr:=row_eq hk
  simp only [KRow.cells] at hr
  simp -implicitDefEqProofs (maxDischargeDepth:=12) only [wpF,cf14,WW,List.replicate,Option.some_or,s_conv,e_conv,s_slc3,e_cut3,e_cut3n,e_bns,e_bnn,e_splice,if_true,if_false,ite_true,ite_false,true_or,ne_eq,seval,h_putc,beq_self_eq_true,eq_self,exists_eq_left,exists_eq_left',c1,c2]
  refine wA_call rfl ((wpF_ok ok20 (Q:=fun v H1 => v = .slice (H.next + 1) 0 27 27 5∧H1 = (H.alloc (.cells [.sc (.str ⟨#[]⟩),.sc (.int .i64 0),.sc (.int .i64 0),.sc (.bool false),.sc .nilf])).alloc (.cells kindCells)) (by rw [wp20]; exact ⟨_,rfl,rfl,rfl⟩)).mono ?_)
  rintro o H1 ⟨v,rfl,rfl,rfl⟩
  refine ⟨_,rfl,fun c hc => by simp at hc,?_⟩
  simp -implicitDefEqProofs (maxDischargeDepth:=12) only [WW,List.replicate,Option.some_or,s_conv,e_conv,s_slc3,e_cut3,e_cut3n,e_bns,e_bnn,e_splice,if_true,if_false,ite_true,ite_false,true_or,ne_eq,seval,h_putc,beq_self_eq_true,eq_self,exists_eq_left,exists_eq_left',e2,hl,c3,c4,hr,hk,KRow.cells]
  exact stays_put (stays_alloc (stays_alloc (Stays.refl H))) (Nat.le_refl _)
theorem o_nilf' : AV.one (.sc .nilf) = true:=rfl
theorem find_yes (n : Int) (h1 : 1 ≤ n) (h2 : n ≤ 27) (H : AHeap) : Ev prog polK (.call 14 [.sc (.int .i64 n)]) H fun o H' => ∃ v,o = .val v∧v = .tup [.agg (kRow (n.toNat - 1)).cells,.sc (.int .i64 0)]∧Stays H H':=by
  obtain ⟨k,rfl⟩ : ∃ k : Nat,n = ((k + 1 : Nat) : Int):=⟨n.toNat - 1,by omega⟩
  have:=find_ev k (by omega) H
  rw [show ((k + 1 : Nat) : Int).toNat - 1 = k by omega]
  exact this
theorem find_no (n : Int) (hn : n < 1 ∨ 27 < n) (H : AHeap) : Ev prog polK (.call 14 [.sc (.int .i64 n)]) H fun o H' => ∃ v,o = .val v∧v = .tup [.agg [.sc (.str ⟨#[]⟩),.sc (.int .i64 0),.sc (.int .i64 0),.sc (.bool false),.sc .nilf],.sc (.int .i64 11)]∧Stays H H':=by
  refine wpF_ok ok14 ?_
  by_cases c1 : n < 1
  · simp -implicitDefEqProofs (maxDischargeDepth:=12) only [wpF,cf14,WW,List.replicate,Option.some_or,s_conv,e_conv,s_slc3,e_cut3,e_cut3n,e_bns,e_bnn,e_splice,if_true,if_false,ite_true,ite_false,true_or,ne_eq,seval,h_putc,beq_self_eq_true,eq_self,exists_eq_left,exists_eq_left',c1,o_nilf']
    exact stays_put (stays_alloc (Stays.refl H)) (Nat.le_refl _)
  · have c2 : (27 : Int) < n:=by omega
    simp -implicitDefEqProofs (maxDischargeDepth:=12) only [wpF,cf14,WW,List.replicate,Option.some_or,s_conv,e_conv,s_slc3,e_cut3,e_cut3n,e_bns,e_bnn,e_splice,if_true,if_false,ite_true,ite_false,true_or,ne_eq,seval,h_putc,beq_self_eq_true,eq_self,exists_eq_left,exists_eq_left',c1,c2,o_nilf']
    exact stays_put (stays_alloc (Stays.refl H)) (Nat.le_refl _)
def checkE (c : Cmd) : Int :=
  if c.kind < 1 ∨ 27 < c.kind then 11
  else if c.site < 0 ∨ 99 < c.site ∨ c.base < 1 ∨ 1073741824 < c.base then 2
  else if bitsOf .i64 (fun x y => x &&& ~~~y) (accN c.flags 0 0) (kRow (c.kind.toNat - 1)).fields = 0 then 0 else 3
theorem check_pv (c : Cmd) : Pv prog polK 6 [c.enc] (.sc (.int .i64 (checkE c))):=by
  generalize hr : checkE c = r
  unfold checkE at hr
  refine Pv_of' ok6 (cmd_closed c) ?_
  simp -implicitDefEqProofs (maxDischargeDepth:=12) only [wpF,cf6,WW,List.replicate,Option.some_or,s_conv,e_conv,s_slc3,e_cut3,e_cut3n,e_bns,e_bnn,e_splice,if_true,if_false,ite_true,ite_false,true_or,ne_eq,seval,h_putc,beq_self_eq_true,eq_self,exists_eq_left,exists_eq_left',c.enc_eq]
  by_cases hk : c.kind < 1 ∨ 27 < c.kind
  · rw [if_pos hk] at hr; subst hr
    refine wA_call rfl ((find_no c.kind hk _).mono ?_)
    rintro o H1 ⟨v,rfl,rfl,hS⟩
    refine ⟨_,rfl,fun c hc => by simp at hc,?_⟩
    have c4 : ¬ (0 = H1.next):=by have:=hS.next; simp at this; omega
    simp -implicitDefEqProofs (maxDischargeDepth:=12) only [WW,List.replicate,Option.some_or,s_conv,e_conv,s_slc3,e_cut3,e_cut3n,e_bns,e_bnn,e_splice,if_true,if_false,ite_true,ite_false,true_or,ne_eq,seval,h_putc,beq_self_eq_true,eq_self,exists_eq_left,exists_eq_left',o_nilf',c4]
    exact frz_sc
  rw [if_neg hk] at hr
  refine wA_call rfl ((find_yes c.kind (by omega) (by omega) _).mono ?_)
  rintro o H1 ⟨v,rfl,rfl,hS⟩
  refine ⟨_,rfl,fun c hc => by simp at hc,?_⟩
  have hc0:=hS.cells 0 c.enc.cells rfl
  have c4 : ¬ (0 = H1.next):=by have:=hS.next; simp at this; omega
  simp only [c.enc_eq,AV.cells] at hc0
  by_cases s1 : c.site < 0
  · rw [if_pos (.inl s1)] at hr; subst hr
    simp -implicitDefEqProofs (maxDischargeDepth:=12) only [WW,List.replicate,Option.some_or,s_conv,e_conv,s_slc3,e_cut3,e_cut3n,e_bns,e_bnn,e_splice,if_true,if_false,ite_true,ite_false,true_or,ne_eq,seval,h_putc,beq_self_eq_true,eq_self,exists_eq_left,exists_eq_left',KRow.cells,c4,hc0,s1]
    exact frz_sc
  by_cases s2 : 99 < c.site
  · rw [if_pos (.inr (.inl s2))] at hr; subst hr
    simp -implicitDefEqProofs (maxDischargeDepth:=12) only [WW,List.replicate,Option.some_or,s_conv,e_conv,s_slc3,e_cut3,e_cut3n,e_bns,e_bnn,e_splice,if_true,if_false,ite_true,ite_false,true_or,ne_eq,seval,h_putc,beq_self_eq_true,eq_self,exists_eq_left,exists_eq_left',KRow.cells,c4,hc0,s1,s2]
    exact frz_sc
  by_cases s3 : c.base < 1
  · rw [if_pos (.inr (.inr (.inl s3)))] at hr; subst hr
    simp -implicitDefEqProofs (maxDischargeDepth:=12) only [WW,List.replicate,Option.some_or,s_conv,e_conv,s_slc3,e_cut3,e_cut3n,e_bns,e_bnn,e_splice,if_true,if_false,ite_true,ite_false,true_or,ne_eq,seval,h_putc,beq_self_eq_true,eq_self,exists_eq_left,exists_eq_left',KRow.cells,c4,hc0,s1,s2,s3]
    exact frz_sc
  by_cases s4 : 1073741824 < c.base
  · rw [if_pos (.inr (.inr (.inr s4)))] at hr; subst hr
    simp -implicitDefEqProofs (maxDischargeDepth:=12) only [WW,List.replicate,Option.some_or,s_conv,e_conv,s_slc3,e_cut3,e_cut3n,e_bns,e_bnn,e_splice,if_true,if_false,ite_true,ite_false,true_or,ne_eq,seval,h_putc,beq_self_eq_true,eq_self,exists_eq_left,exists_eq_left',KRow.cells,c4,hc0,s1,s2,s3,s4]
    exact frz_sc
  rw [if_neg (by omega)] at hr
  simp -implicitDefEqProofs (maxDischargeDepth:=12) only [WW,List.replicate,Option.some_or,s_conv,e_conv,s_slc3,e_cut3,e_cut3n,e_bns,e_bnn,e_splice,if_true,if_false,ite_true,ite_false,true_or,ne_eq,seval,h_putc,beq_self_eq_true,eq_self,exists_eq_left,exists_eq_left',KRow.cells,c4,hc0,s1,s2,s3,s4]
  refine wA_pure rfl (used_pv c) ?_
  by_cases z : bitsOf .i64 (fun x y => x &&& ~~~y) (accN c.flags 0 0) (kRow (c.kind.toNat - 1)).fields = 0
  · rw [if_pos z] at hr; subst hr
    simp -implicitDefEqProofs (maxDischargeDepth:=12) only [WW,List.replicate,Option.some_or,s_conv,e_conv,s_slc3,e_cut3,e_cut3n,e_bns,e_bnn,e_splice,if_true,if_false,ite_true,ite_false,true_or,ne_eq,seval,h_putc,beq_self_eq_true,eq_self,exists_eq_left,exists_eq_left',e_andNot',z]
    exact frz_sc
  · rw [if_neg z] at hr; subst hr
    simp -implicitDefEqProofs (maxDischargeDepth:=12) only [WW,List.replicate,Option.some_or,s_conv,e_conv,s_slc3,e_cut3,e_cut3n,e_bns,e_bnn,e_splice,if_true,if_false,ite_true,ite_false,true_or,ne_eq,seval,h_putc,beq_self_eq_true,eq_self,exists_eq_left,exists_eq_left',e_andNot',z]
    exact frz_sc
end Go.Hem
namespace Go.Hem
theorem wpIns_app {P : Program} {pol : Pol} {R : List AV→AHeap→Prop} : ∀ (l m : List CI) (t : List AV) (H : AHeap),wpIns P pol (l ++ m) t H R = wpIns P pol l t H fun t' H' => wpIns P pol m t' H' R
  | [],m,t,H => rfl
  | i :: l,m,t,H => by
    have ih:=fun t' H' => wpIns_app (P:=P) (pol:=pol) (R:=R) l m t' H'
    simp only [List.cons_append,wpIns,ih]
theorem in_pv (n lo hi : Int) : Pv prog polK 16 [.sc (.int .i64 n),.sc (.int .i64 lo),.sc (.int .i64 hi)] (.sc (.bool (decide (lo ≤ n∧n ≤ hi)))):=by
  refine Pv_of' ok16 rfl ?_
  by_cases c1 : lo ≤ n
  · simp -implicitDefEqProofs (maxDischargeDepth:=12) only [wpF,cf16,WW,List.replicate,Option.some_or,s_conv,e_conv,s_slc3,e_cut3,e_cut3n,e_bns,e_bnn,e_splice,if_true,if_false,ite_true,ite_false,true_or,ne_eq,seval,h_putc,beq_self_eq_true,eq_self,exists_eq_left,exists_eq_left',c1]
    exact frz_sc
  · simp -implicitDefEqProofs (maxDischargeDepth:=12) only [wpF,cf16,WW,List.replicate,Option.some_or,s_conv,e_conv,s_slc3,e_cut3,e_cut3n,e_bns,e_bnn,e_splice,if_true,if_false,ite_true,ite_false,true_or,ne_eq,seval,h_putc,beq_self_eq_true,eq_self,exists_eq_left,exists_eq_left',c1]
    exact frz_sc
def g7_0 : List CI:=[⟨some 21,none,.faddr 3 (.tmp 1),[]⟩,⟨some 22,none,.loadN 2 (.tmp 21),[]⟩,⟨some 23,none,.build [.sc (.int .i64 0),.sc (.int .i64 0)] [],[]⟩,⟨some 24,none,.bagg true [.int,.int] (.tmp 22) (.tmp 23),[]⟩,⟨some 25,none,.mv (.tmp 24),[]⟩,⟨some 26,some (some 25,true),.mv (.tmp 3),[]⟩,⟨some 27,some (some 25,true),.call 18 [.tmp 26,.const (.int .u8 79)],[]⟩,⟨some 28,some (some 25,true),.not (.tmp 27),[]⟩,⟨some 29,none,.pick (.tmp 25) (.tmp 28) (.const (.bool false)),[]⟩,⟨some 30,none,.mv (.tmp 29),[]⟩]
def g7_1 : List CI:=[⟨some 31,some (some 30,false),.faddr 5 (.tmp 1),[]⟩,⟨some 32,some (some 30,false),.loadN 2 (.tmp 31),[]⟩,⟨some 33,some (some 30,false),.build [.sc (.int .i64 0),.sc (.int .i64 0)] [],[]⟩,⟨some 34,some (some 30,false),.bagg true [.int,.int] (.tmp 32) (.tmp 33),[]⟩,⟨some 35,some (some 30,false),.mv (.tmp 34),[]⟩,⟨some 36,some (some 35,true),.mv (.tmp 3),[]⟩,⟨some 37,some (some 35,true),.call 18 [.tmp 36,.const (.int .u8 84)],[]⟩,⟨some 38,some (some 35,true),.not (.tmp 37),[]⟩,⟨some 39,some (some 30,false),.pick (.tmp 35) (.tmp 38) (.const (.bool false)),[]⟩,⟨some 40,none,.pick (.tmp 30) (.const (.bool true)) (.tmp 39),[]⟩,⟨some 41,none,.mv (.tmp 40),[]⟩]
def g7_2 : List CI:=[⟨some 42,some (some 41,false),.faddr 7 (.tmp 1),[]⟩,⟨some 43,some (some 41,false),.load1 (.tmp 42),[]⟩,⟨some 44,some (some 41,false),.bint .neq (.tmp 43) (.const (.int .i64 0)),[]⟩,⟨some 45,some (some 41,false),.mv (.tmp 44),[]⟩,⟨some 46,some (some 45,true),.mv (.tmp 3),[]⟩,⟨some 47,some (some 45,true),.call 18 [.tmp 46,.const (.int .u8 83)],[]⟩,⟨some 48,some (some 45,true),.not (.tmp 47),[]⟩,⟨some 49,some (some 41,false),.pick (.tmp 45) (.tmp 48) (.const (.bool false)),[]⟩,⟨some 50,none,.pick (.tmp 41) (.const (.bool true)) (.tmp 49),[]⟩,⟨some 51,none,.mv (.tmp 50),[]⟩]
def g7_3 : List CI:=[⟨some 52,some (some 51,false),.faddr 8 (.tmp 1),[]⟩,⟨some 53,some (some 51,false),.load1 (.tmp 52),[]⟩,⟨some 54,some (some 51,false),.bint .neq (.tmp 53) (.const (.int .i64 0)),[]⟩,⟨some 55,some (some 51,false),.mv (.tmp 54),[]⟩,⟨some 56,some (some 55,true),.mv (.tmp 3),[]⟩,⟨some 57,some (some 55,true),.call 18 [.tmp 56,.const (.int .u8 86)],[]⟩,⟨some 58,some (some 55,true),.not (.tmp 57),[]⟩,⟨some 59,some (some 51,false),.pick (.tmp 55) (.tmp 58) (.const (.bool false)),[]⟩,⟨some 60,none,.pick (.tmp 51) (.const (.bool true)) (.tmp 59),[]⟩,⟨some 61,none,.mv (.tmp 60),[]⟩]
def g7_4 : List CI:=[⟨some 62,some (some 61,false),.faddr 9 (.tmp 1),[]⟩,⟨some 63,some (some 61,false),.load1 (.tmp 62),[]⟩,⟨some 64,some (some 61,false),.bint .neq (.tmp 63) (.const (.int .i64 0)),[]⟩,⟨some 65,some (some 61,false),.mv (.tmp 64),[]⟩,⟨some 66,some (some 65,true),.mv (.tmp 3),[]⟩,⟨some 67,some (some 65,true),.call 18 [.tmp 66,.const (.int .u8 65)],[]⟩,⟨some 68,some (some 65,true),.not (.tmp 67),[]⟩,⟨some 69,some (some 61,false),.pick (.tmp 65) (.tmp 68) (.const (.bool false)),[]⟩,⟨some 70,none,.pick (.tmp 61) (.const (.bool true)) (.tmp 69),[]⟩,⟨some 71,none,.mv (.tmp 70),[]⟩]
def g7_5 : List CI:=[⟨some 72,some (some 71,false),.faddr 10 (.tmp 1),[]⟩,⟨some 73,some (some 71,false),.load1 (.tmp 72),[]⟩,⟨some 74,some (some 71,false),.bint .neq (.tmp 73) (.const (.int .i64 0)),[]⟩,⟨some 75,some (some 71,false),.mv (.tmp 74),[]⟩,⟨some 76,some (some 75,true),.mv (.tmp 3),[]⟩,⟨some 77,some (some 75,true),.call 18 [.tmp 76,.const (.int .u8 73)],[]⟩,⟨some 78,some (some 75,true),.not (.tmp 77),[]⟩,⟨some 79,some (some 71,false),.pick (.tmp 75) (.tmp 78) (.const (.bool false)),[]⟩,⟨some 80,none,.pick (.tmp 71) (.const (.bool true)) (.tmp 79),[]⟩,⟨some 81,none,.mv (.tmp 80),[]⟩]
def g7_6 : List CI:=[⟨some 82,some (some 81,false),.faddr 11 (.tmp 1),[]⟩,⟨some 83,some (some 81,false),.load1 (.tmp 82),[]⟩,⟨some 84,some (some 81,false),.bint .neq (.tmp 83) (.const (.int .i64 0)),[]⟩,⟨some 85,some (some 81,false),.mv (.tmp 84),[]⟩,⟨some 86,some (some 85,true),.mv (.tmp 3),[]⟩,⟨some 87,some (some 85,true),.call 18 [.tmp 86,.const (.int .u8 78)],[]⟩,⟨some 88,some (some 85,true),.not (.tmp 87),[]⟩,⟨some 89,some (some 81,false),.pick (.tmp 85) (.tmp 88) (.const (.bool false)),[]⟩,⟨some 90,none,.pick (.tmp 81) (.const (.bool true)) (.tmp 89),[]⟩,⟨some 91,none,.mv (.tmp 90),[]⟩]
def g7_7 : List CI:=[⟨some 92,some (some 91,false),.faddr 12 (.tmp 1),[]⟩,⟨some 93,some (some 91,false),.loadN 2 (.tmp 92),[]⟩,⟨some 94,some (some 91,false),.build [.sc (.int .i64 0),.sc (.int .i64 0)] [],[]⟩,⟨some 95,some (some 91,false),.bagg true [.int,.int] (.tmp 93) (.tmp 94),[]⟩,⟨some 96,some (some 91,false),.mv (.tmp 95),[]⟩,⟨some 97,some (some 96,true),.mv (.tmp 3),[]⟩,⟨some 98,some (some 96,true),.call 18 [.tmp 97,.const (.int .u8 76)],[]⟩,⟨some 99,some (some 96,true),.not (.tmp 98),[]⟩,⟨some 100,some (some 91,false),.pick (.tmp 96) (.tmp 99) (.const (.bool false)),[]⟩,⟨some 101,none,.pick (.tmp 91) (.const (.bool true)) (.tmp 100),[]⟩,⟨some 102,none,.mv (.tmp 101),[]⟩]
def g7_8 : List CI:=[⟨some 103,some (some 102,false),.faddr 14 (.tmp 1),[]⟩,⟨some 104,some (some 102,false),.loadN 3 (.tmp 103),[]⟩,⟨some 105,some (some 102,false),.build [.sc (.int .i64 0),.sc (.int .i64 0),.sc (.int .i64 0)] [],[]⟩,⟨some 106,some (some 102,false),.bagg true [.int,.int,.int] (.tmp 104) (.tmp 105),[]⟩,⟨some 107,some (some 102,false),.mv (.tmp 106),[]⟩,⟨some 108,some (some 107,true),.mv (.tmp 3),[]⟩,⟨some 109,some (some 107,true),.call 18 [.tmp 108,.const (.int .u8 80)],[]⟩,⟨some 110,some (some 107,true),.not (.tmp 109),[]⟩,⟨some 111,some (some 102,false),.pick (.tmp 107) (.tmp 110) (.const (.bool false)),[]⟩,⟨some 112,none,.pick (.tmp 102) (.const (.bool true)) (.tmp 111),[]⟩,⟨some 113,none,.mv (.tmp 112),[]⟩]
def g7_9 : List CI:=[⟨some 114,some (some 113,false),.faddr 17 (.tmp 1),[]⟩,⟨some 115,some (some 113,false),.loadN 8 (.tmp 114),[]⟩,⟨some 116,some (some 113,false),.build [.sc (.int .i64 0),.sc (.int .i64 0),.sc (.int .i64 0),.sc (.int .i64 0),.sc (.int .i64 0),.sc (.int .i64 0),.sc (.int .i64 0),.sc (.int .i64 0)] [],[]⟩,⟨some 117,some (some 113,false),.bagg true [.int,.int,.int,.int,.int,.int,.int,.int] (.tmp 115) (.tmp 116),[]⟩,⟨some 118,some (some 113,false),.mv (.tmp 117),[]⟩,⟨some 119,some (some 118,true),.mv (.tmp 3),[]⟩,⟨some 120,some (some 118,true),.call 18 [.tmp 119,.const (.int .u8 77)],[]⟩,⟨some 121,some (some 118,true),.not (.tmp 120),[]⟩,⟨some 122,some (some 113,false),.pick (.tmp 118) (.tmp 121) (.const (.bool false)),[]⟩,⟨some 123,none,.pick (.tmp 113) (.const (.bool true)) (.tmp 122),[]⟩,⟨some 124,none,.mv (.tmp 123),[]⟩]
def g7_10 : List CI:=[⟨some 125,some (some 124,false),.faddr 25 (.tmp 1),[]⟩,⟨some 126,some (some 124,false),.loadN 2 (.tmp 125),[]⟩,⟨some 127,some (some 124,false),.build [.sc (.int .i64 0),.sc (.int .i64 0)] [],[]⟩,⟨some 128,some (some 124,false),.bagg true [.int,.int] (.tmp 126) (.tmp 127),[]⟩,⟨some 129,some (some 124,false),.mv (.tmp 128),[]⟩,⟨some 130,some (some 129,true),.mv (.tmp 3),[]⟩,⟨some 131,some (some 129,true),.call 18 [.tmp 130,.const (.int .u8 69)],[]⟩,⟨some 132,some (some 129,true),.not (.tmp 131),[]⟩,⟨some 133,some (some 124,false),.pick (.tmp 129) (.tmp 132) (.const (.bool false)),[]⟩,⟨some 134,none,.pick (.tmp 124) (.const (.bool true)) (.tmp 133),[]⟩,⟨some 135,none,.mv (.tmp 134),[]⟩]
def g7_11 : List CI:=[⟨some 136,some (some 135,false),.faddr 27 (.tmp 1),[]⟩,⟨some 137,some (some 135,false),.load1 (.tmp 136),[]⟩,⟨some 138,some (some 135,false),.bstr .neq (.tmp 137) (.const (.string ⟨#[]⟩)),[]⟩,⟨some 139,some (some 135,false),.mv (.tmp 138),[]⟩,⟨some 140,some (some 139,true),.mv (.tmp 3),[]⟩,⟨some 141,some (some 139,true),.call 18 [.tmp 140,.const (.int .u8 88)],[]⟩,⟨some 142,some (some 139,true),.not (.tmp 141),[]⟩,⟨some 143,some (some 135,false),.pick (.tmp 139) (.tmp 142) (.const (.bool false)),[]⟩,⟨some 144,none,.pick (.tmp 135) (.const (.bool true)) (.tmp 143),[]⟩]
def g7 : List CI:=g7_0 ++ (g7_1 ++ (g7_2 ++ (g7_3 ++ (g7_4 ++ (g7_5 ++ (g7_6 ++ (g7_7 ++ (g7_8 ++ (g7_9 ++ (g7_10 ++ (g7_11)))))))))))
def cf7x : CF:=⟨.seq (.ops [⟨some 1,none,.box (.tmp 0),[]⟩,⟨some 2,none,.mv (.const (.int .i64 0)),[]⟩]) (.seq (.seq (.ops [⟨some 4,none,.faddr 0 (.tmp 1),[]⟩,⟨some 5,none,.load1 (.tmp 4),[]⟩,⟨some 6,none,.call 16 [.tmp 5,.const (.int .i64 1),.const (.int .i64 27)],[]⟩,⟨some 7,none,.not (.tmp 6),[]⟩]) (.cond (.tmp 7) (.seq (.ops [⟨some 2,none,.mv (.const (.int .i64 11)),[]⟩]) .ret) .skip)) (.seq (.seq (.ops [⟨some 8,none,.faddr 1 (.tmp 1),[]⟩,⟨some 9,none,.load1 (.tmp 8),[]⟩,⟨some 10,none,.call 16 [.tmp 9,.const (.int .i64 0),.const (.int .i64 99)],[]⟩,⟨some 11,none,.not (.tmp 10),[]⟩,⟨some 12,none,.mv (.tmp 11),[]⟩,⟨some 13,some (some 12,false),.faddr 2 (.tmp 1),[]⟩,⟨some 14,some (some 12,false),.load1 (.tmp 13),[]⟩,⟨some 15,some (some 12,false),.call 16 [.tmp 14,.const (.int .i64 1),.const (.int .i64 1073741824)],[]⟩,⟨some 16,some (some 12,false),.not (.tmp 15),[]⟩,⟨some 17,none,.pick (.tmp 12) (.const (.bool true)) (.tmp 16),[]⟩]) (.cond (.tmp 17) (.seq (.ops [⟨some 2,none,.mv (.const (.int .i64 2)),[]⟩]) .ret) .skip)) (.seq (.ops [⟨some 18,none,.faddr 0 (.tmp 1),[]⟩,⟨some 19,none,.load1 (.tmp 18),[]⟩,⟨some 20,none,.call 17 [.tmp 19],[]⟩,⟨some 3,none,.mv (.tmp 20),[]⟩]) (.seq (.seq (.ops g7) (.cond (.tmp 144) (.seq (.ops [⟨some 2,none,.mv (.const (.int .i64 3)),[]⟩]) .ret) .skip)) (.seq (.ops [⟨some 2,none,.mv (.const (.int .i64 0)),[]⟩]) .ret))))),145,[.tmp 2]⟩
theorem cf7_eq : cf7 = cf7x:=by kernel_rfl
set_option maxRecDepth 20000 in
theorem g7_0_ok (c : Cmd) {k : Nat} (hk : k < 27) (f : Bool) (hf : (!(decide (c.obj.site = 0) && decide (c.obj.number = 0))) = f) (x : Nat→AV) (H : AHeap) (hc : H.cells 0 = some c.enc.cells) :
    wpIns prog polK g7_0 [x 0,.ptr 0 0,x 2,.sc (.str (usesOf (k + 1))),x 4,x 5,x 6,x 7,x 8,x 9,x 10,x 11,x 12,x 13,x 14,x 15,x 16,x 17,x 18,x 19,x 20,x 21,x 22,x 23,x 24,x 25,x 26,x 27,x 28,x 29,x 30,x 31,x 32,x 33,x 34,x 35,x 36,x 37,x 38,x 39,x 40,x 41,x 42,x 43,x 44,x 45,x 46,x 47,x 48,x 49,x 50,x 51,x 52,x 53,x 54,x 55,x 56,x 57,x 58,x 59,x 60,x 61,x 62,x 63,x 64,x 65,x 66,x 67,x 68,x 69,x 70,x 71,x 72,x 73,x 74,x 75,x 76,x 77,x 78,x 79,x 80,x 81,x 82,x 83,x 84,x 85,x 86,x 87,x 88,x 89,x 90,x 91,x 92,x 93,x 94,x 95,x 96,x 97,x 98,x 99,x 100,x 101,x 102,x 103,x 104,x 105,x 106,x 107,x 108,x 109,x 110,x 111,x 112,x 113,x 114,x 115,x 116,x 117,x 118,x 119,x 120,x 121,x 122,x 123,x 124,x 125,x 126,x 127,x 128,x 129,x 130,x 131,x 132,x 133,x 134,x 135,x 136,x 137,x 138,x 139,x 140,x 141,x 142,x 143,x 144] H fun t' H' => H' = H∧∃ x : Nat→AV,t' = [x 0,.ptr 0 0,x 2,.sc (.str (usesOf (k + 1))),x 4,x 5,x 6,x 7,x 8,x 9,x 10,x 11,x 12,x 13,x 14,x 15,x 16,x 17,x 18,x 19,x 20,x 21,x 22,x 23,x 24,x 25,x 26,x 27,x 28,x 29,.sc (.bool (f && !hasB (usesOf (k + 1)) 79)),x 31,x 32,x 33,x 34,x 35,x 36,x 37,x 38,x 39,x 40,x 41,x 42,x 43,x 44,x 45,x 46,x 47,x 48,x 49,x 50,x 51,x 52,x 53,x 54,x 55,x 56,x 57,x 58,x 59,x 60,x 61,x 62,x 63,x 64,x 65,x 66,x 67,x 68,x 69,x 70,x 71,x 72,x 73,x 74,x 75,x 76,x 77,x 78,x 79,x 80,x 81,x 82,x 83,x 84,x 85,x 86,x 87,x 88,x 89,x 90,x 91,x 92,x 93,x 94,x 95,x 96,x 97,x 98,x 99,x 100,x 101,x 102,x 103,x 104,x 105,x 106,x 107,x 108,x 109,x 110,x 111,x 112,x 113,x 114,x 115,x 116,x 117,x 118,x 119,x 120,x 121,x 122,x 123,x 124,x 125,x 126,x 127,x 128,x 129,x 130,x 131,x 132,x 133,x 134,x 135,x 136,x 137,x 138,x 139,x 140,x 141,x 142,x 143,x 144]:=by
  simp only [c.enc_eq,AV.cells] at hc
  cases f with
  | false =>
    simp -implicitDefEqProofs (maxDischargeDepth:=12) only [g7_0,WW,List.replicate,Option.some_or,s_conv,e_conv,s_slc3,e_cut3,e_cut3n,e_bns,e_bnn,e_splice,if_true,if_false,ite_true,ite_false,true_or,ne_eq,seval,h_putc,beq_self_eq_true,eq_self,exists_eq_left,exists_eq_left',hc,hf]
    exact ex_x rfl
  | true =>
    simp -implicitDefEqProofs (maxDischargeDepth:=12) only [g7_0,WW,List.replicate,Option.some_or,s_conv,e_conv,s_slc3,e_cut3,e_cut3n,e_bns,e_bnn,e_splice,if_true,if_false,ite_true,ite_false,true_or,ne_eq,seval,h_putc,beq_self_eq_true,eq_self,exists_eq_left,exists_eq_left',hc,hf]
    refine wA_pure rfl (has_pv hk (c:=79) (by decide)) ?_
    simp -implicitDefEqProofs (maxDischargeDepth:=12) only [WW,List.replicate,Option.some_or,s_conv,e_conv,s_slc3,e_cut3,e_cut3n,e_bns,e_bnn,e_splice,if_true,if_false,ite_true,ite_false,true_or,ne_eq,seval,h_putc,beq_self_eq_true,eq_self,exists_eq_left,exists_eq_left']
    exact ex_x rfl
set_option maxRecDepth 20000 in
theorem g7_1_ok (c : Cmd) {k : Nat} (hk : k < 27) (a f : Bool) (hf : (!(decide (c.other.site = 0) && decide (c.other.number = 0))) = f) (x : Nat→AV) (H : AHeap) (hc : H.cells 0 = some c.enc.cells) :
    wpIns prog polK g7_1 [x 0,.ptr 0 0,x 2,.sc (.str (usesOf (k + 1))),x 4,x 5,x 6,x 7,x 8,x 9,x 10,x 11,x 12,x 13,x 14,x 15,x 16,x 17,x 18,x 19,x 20,x 21,x 22,x 23,x 24,x 25,x 26,x 27,x 28,x 29,.sc (.bool a),x 31,x 32,x 33,x 34,x 35,x 36,x 37,x 38,x 39,x 40,x 41,x 42,x 43,x 44,x 45,x 46,x 47,x 48,x 49,x 50,x 51,x 52,x 53,x 54,x 55,x 56,x 57,x 58,x 59,x 60,x 61,x 62,x 63,x 64,x 65,x 66,x 67,x 68,x 69,x 70,x 71,x 72,x 73,x 74,x 75,x 76,x 77,x 78,x 79,x 80,x 81,x 82,x 83,x 84,x 85,x 86,x 87,x 88,x 89,x 90,x 91,x 92,x 93,x 94,x 95,x 96,x 97,x 98,x 99,x 100,x 101,x 102,x 103,x 104,x 105,x 106,x 107,x 108,x 109,x 110,x 111,x 112,x 113,x 114,x 115,x 116,x 117,x 118,x 119,x 120,x 121,x 122,x 123,x 124,x 125,x 126,x 127,x 128,x 129,x 130,x 131,x 132,x 133,x 134,x 135,x 136,x 137,x 138,x 139,x 140,x 141,x 142,x 143,x 144] H fun t' H' => H' = H∧∃ x : Nat→AV,t' = [x 0,.ptr 0 0,x 2,.sc (.str (usesOf (k + 1))),x 4,x 5,x 6,x 7,x 8,x 9,x 10,x 11,x 12,x 13,x 14,x 15,x 16,x 17,x 18,x 19,x 20,x 21,x 22,x 23,x 24,x 25,x 26,x 27,x 28,x 29,x 30,x 31,x 32,x 33,x 34,x 35,x 36,x 37,x 38,x 39,x 40,.sc (.bool (a || (f && !hasB (usesOf (k + 1)) 84))),x 42,x 43,x 44,x 45,x 46,x 47,x 48,x 49,x 50,x 51,x 52,x 53,x 54,x 55,x 56,x 57,x 58,x 59,x 60,x 61,x 62,x 63,x 64,x 65,x 66,x 67,x 68,x 69,x 70,x 71,x 72,x 73,x 74,x 75,x 76,x 77,x 78,x 79,x 80,x 81,x 82,x 83,x 84,x 85,x 86,x 87,x 88,x 89,x 90,x 91,x 92,x 93,x 94,x 95,x 96,x 97,x 98,x 99,x 100,x 101,x 102,x 103,x 104,x 105,x 106,x 107,x 108,x 109,x 110,x 111,x 112,x 113,x 114,x 115,x 116,x 117,x 118,x 119,x 120,x 121,x 122,x 123,x 124,x 125,x 126,x 127,x 128,x 129,x 130,x 131,x 132,x 133,x 134,x 135,x 136,x 137,x 138,x 139,x 140,x 141,x 142,x 143,x 144]:=by
  simp only [c.enc_eq,AV.cells] at hc
  cases a with
  | true =>
    simp -implicitDefEqProofs (maxDischargeDepth:=12) only [g7_1,WW,List.replicate,Option.some_or,s_conv,e_conv,s_slc3,e_cut3,e_cut3n,e_bns,e_bnn,e_splice,if_true,if_false,ite_true,ite_false,true_or,ne_eq,seval,h_putc,beq_self_eq_true,eq_self,exists_eq_left,exists_eq_left']
    exact ex_x rfl
  | false =>
  cases f with
    | false =>
      simp -implicitDefEqProofs (maxDischargeDepth:=12) only [g7_1,WW,List.replicate,Option.some_or,s_conv,e_conv,s_slc3,e_cut3,e_cut3n,e_bns,e_bnn,e_splice,if_true,if_false,ite_true,ite_false,true_or,ne_eq,seval,h_putc,beq_self_eq_true,eq_self,exists_eq_left,exists_eq_left',hc,hf]
      exact ex_x rfl
    | true =>
      simp -implicitDefEqProofs (maxDischargeDepth:=12) only [g7_1,WW,List.replicate,Option.some_or,s_conv,e_conv,s_slc3,e_cut3,e_cut3n,e_bns,e_bnn,e_splice,if_true,if_false,ite_true,ite_false,true_or,ne_eq,seval,h_putc,beq_self_eq_true,eq_self,exists_eq_left,exists_eq_left',hc,hf]
      refine wA_pure rfl (has_pv hk (c:=84) (by decide)) ?_
      simp -implicitDefEqProofs (maxDischargeDepth:=12) only [WW,List.replicate,Option.some_or,s_conv,e_conv,s_slc3,e_cut3,e_cut3n,e_bns,e_bnn,e_splice,if_true,if_false,ite_true,ite_false,true_or,ne_eq,seval,h_putc,beq_self_eq_true,eq_self,exists_eq_left,exists_eq_left']
      exact ex_x rfl
set_option maxRecDepth 20000 in
theorem g7_2_ok (c : Cmd) {k : Nat} (hk : k < 27) (a f : Bool) (hf : (decide (¬ c.staff = 0)) = f) (x : Nat→AV) (H : AHeap) (hc : H.cells 0 = some c.enc.cells) :
    wpIns prog polK g7_2 [x 0,.ptr 0 0,x 2,.sc (.str (usesOf (k + 1))),x 4,x 5,x 6,x 7,x 8,x 9,x 10,x 11,x 12,x 13,x 14,x 15,x 16,x 17,x 18,x 19,x 20,x 21,x 22,x 23,x 24,x 25,x 26,x 27,x 28,x 29,x 30,x 31,x 32,x 33,x 34,x 35,x 36,x 37,x 38,x 39,x 40,.sc (.bool a),x 42,x 43,x 44,x 45,x 46,x 47,x 48,x 49,x 50,x 51,x 52,x 53,x 54,x 55,x 56,x 57,x 58,x 59,x 60,x 61,x 62,x 63,x 64,x 65,x 66,x 67,x 68,x 69,x 70,x 71,x 72,x 73,x 74,x 75,x 76,x 77,x 78,x 79,x 80,x 81,x 82,x 83,x 84,x 85,x 86,x 87,x 88,x 89,x 90,x 91,x 92,x 93,x 94,x 95,x 96,x 97,x 98,x 99,x 100,x 101,x 102,x 103,x 104,x 105,x 106,x 107,x 108,x 109,x 110,x 111,x 112,x 113,x 114,x 115,x 116,x 117,x 118,x 119,x 120,x 121,x 122,x 123,x 124,x 125,x 126,x 127,x 128,x 129,x 130,x 131,x 132,x 133,x 134,x 135,x 136,x 137,x 138,x 139,x 140,x 141,x 142,x 143,x 144] H fun t' H' => H' = H∧∃ x : Nat→AV,t' = [x 0,.ptr 0 0,x 2,.sc (.str (usesOf (k + 1))),x 4,x 5,x 6,x 7,x 8,x 9,x 10,x 11,x 12,x 13,x 14,x 15,x 16,x 17,x 18,x 19,x 20,x 21,x 22,x 23,x 24,x 25,x 26,x 27,x 28,x 29,x 30,x 31,x 32,x 33,x 34,x 35,x 36,x 37,x 38,x 39,x 40,x 41,x 42,x 43,x 44,x 45,x 46,x 47,x 48,x 49,x 50,.sc (.bool (a || (f && !hasB (usesOf (k + 1)) 83))),x 52,x 53,x 54,x 55,x 56,x 57,x 58,x 59,x 60,x 61,x 62,x 63,x 64,x 65,x 66,x 67,x 68,x 69,x 70,x 71,x 72,x 73,x 74,x 75,x 76,x 77,x 78,x 79,x 80,x 81,x 82,x 83,x 84,x 85,x 86,x 87,x 88,x 89,x 90,x 91,x 92,x 93,x 94,x 95,x 96,x 97,x 98,x 99,x 100,x 101,x 102,x 103,x 104,x 105,x 106,x 107,x 108,x 109,x 110,x 111,x 112,x 113,x 114,x 115,x 116,x 117,x 118,x 119,x 120,x 121,x 122,x 123,x 124,x 125,x 126,x 127,x 128,x 129,x 130,x 131,x 132,x 133,x 134,x 135,x 136,x 137,x 138,x 139,x 140,x 141,x 142,x 143,x 144]:=by
  simp only [c.enc_eq,AV.cells] at hc
  cases a with
  | true =>
    simp -implicitDefEqProofs (maxDischargeDepth:=12) only [g7_2,WW,List.replicate,Option.some_or,s_conv,e_conv,s_slc3,e_cut3,e_cut3n,e_bns,e_bnn,e_splice,if_true,if_false,ite_true,ite_false,true_or,ne_eq,seval,h_putc,beq_self_eq_true,eq_self,exists_eq_left,exists_eq_left']
    exact ex_x rfl
  | false =>
  cases f with
    | false =>
      simp -implicitDefEqProofs (maxDischargeDepth:=12) only [g7_2,WW,List.replicate,Option.some_or,s_conv,e_conv,s_slc3,e_cut3,e_cut3n,e_bns,e_bnn,e_splice,if_true,if_false,ite_true,ite_false,true_or,ne_eq,seval,h_putc,beq_self_eq_true,eq_self,exists_eq_left,exists_eq_left',hc,hf]
      exact ex_x rfl
    | true =>
      simp -implicitDefEqProofs (maxDischargeDepth:=12) only [g7_2,WW,List.replicate,Option.some_or,s_conv,e_conv,s_slc3,e_cut3,e_cut3n,e_bns,e_bnn,e_splice,if_true,if_false,ite_true,ite_false,true_or,ne_eq,seval,h_putc,beq_self_eq_true,eq_self,exists_eq_left,exists_eq_left',hc,hf]
      refine wA_pure rfl (has_pv hk (c:=83) (by decide)) ?_
      simp -implicitDefEqProofs (maxDischargeDepth:=12) only [WW,List.replicate,Option.some_or,s_conv,e_conv,s_slc3,e_cut3,e_cut3n,e_bns,e_bnn,e_splice,if_true,if_false,ite_true,ite_false,true_or,ne_eq,seval,h_putc,beq_self_eq_true,eq_self,exists_eq_left,exists_eq_left']
      exact ex_x rfl
set_option maxRecDepth 20000 in
theorem g7_3_ok (c : Cmd) {k : Nat} (hk : k < 27) (a f : Bool) (hf : (decide (¬ c.voice = 0)) = f) (x : Nat→AV) (H : AHeap) (hc : H.cells 0 = some c.enc.cells) :
    wpIns prog polK g7_3 [x 0,.ptr 0 0,x 2,.sc (.str (usesOf (k + 1))),x 4,x 5,x 6,x 7,x 8,x 9,x 10,x 11,x 12,x 13,x 14,x 15,x 16,x 17,x 18,x 19,x 20,x 21,x 22,x 23,x 24,x 25,x 26,x 27,x 28,x 29,x 30,x 31,x 32,x 33,x 34,x 35,x 36,x 37,x 38,x 39,x 40,x 41,x 42,x 43,x 44,x 45,x 46,x 47,x 48,x 49,x 50,.sc (.bool a),x 52,x 53,x 54,x 55,x 56,x 57,x 58,x 59,x 60,x 61,x 62,x 63,x 64,x 65,x 66,x 67,x 68,x 69,x 70,x 71,x 72,x 73,x 74,x 75,x 76,x 77,x 78,x 79,x 80,x 81,x 82,x 83,x 84,x 85,x 86,x 87,x 88,x 89,x 90,x 91,x 92,x 93,x 94,x 95,x 96,x 97,x 98,x 99,x 100,x 101,x 102,x 103,x 104,x 105,x 106,x 107,x 108,x 109,x 110,x 111,x 112,x 113,x 114,x 115,x 116,x 117,x 118,x 119,x 120,x 121,x 122,x 123,x 124,x 125,x 126,x 127,x 128,x 129,x 130,x 131,x 132,x 133,x 134,x 135,x 136,x 137,x 138,x 139,x 140,x 141,x 142,x 143,x 144] H fun t' H' => H' = H∧∃ x : Nat→AV,t' = [x 0,.ptr 0 0,x 2,.sc (.str (usesOf (k + 1))),x 4,x 5,x 6,x 7,x 8,x 9,x 10,x 11,x 12,x 13,x 14,x 15,x 16,x 17,x 18,x 19,x 20,x 21,x 22,x 23,x 24,x 25,x 26,x 27,x 28,x 29,x 30,x 31,x 32,x 33,x 34,x 35,x 36,x 37,x 38,x 39,x 40,x 41,x 42,x 43,x 44,x 45,x 46,x 47,x 48,x 49,x 50,x 51,x 52,x 53,x 54,x 55,x 56,x 57,x 58,x 59,x 60,.sc (.bool (a || (f && !hasB (usesOf (k + 1)) 86))),x 62,x 63,x 64,x 65,x 66,x 67,x 68,x 69,x 70,x 71,x 72,x 73,x 74,x 75,x 76,x 77,x 78,x 79,x 80,x 81,x 82,x 83,x 84,x 85,x 86,x 87,x 88,x 89,x 90,x 91,x 92,x 93,x 94,x 95,x 96,x 97,x 98,x 99,x 100,x 101,x 102,x 103,x 104,x 105,x 106,x 107,x 108,x 109,x 110,x 111,x 112,x 113,x 114,x 115,x 116,x 117,x 118,x 119,x 120,x 121,x 122,x 123,x 124,x 125,x 126,x 127,x 128,x 129,x 130,x 131,x 132,x 133,x 134,x 135,x 136,x 137,x 138,x 139,x 140,x 141,x 142,x 143,x 144]:=by
  simp only [c.enc_eq,AV.cells] at hc
  cases a with
  | true =>
    simp -implicitDefEqProofs (maxDischargeDepth:=12) only [g7_3,WW,List.replicate,Option.some_or,s_conv,e_conv,s_slc3,e_cut3,e_cut3n,e_bns,e_bnn,e_splice,if_true,if_false,ite_true,ite_false,true_or,ne_eq,seval,h_putc,beq_self_eq_true,eq_self,exists_eq_left,exists_eq_left']
    exact ex_x rfl
  | false =>
  cases f with
    | false =>
      simp -implicitDefEqProofs (maxDischargeDepth:=12) only [g7_3,WW,List.replicate,Option.some_or,s_conv,e_conv,s_slc3,e_cut3,e_cut3n,e_bns,e_bnn,e_splice,if_true,if_false,ite_true,ite_false,true_or,ne_eq,seval,h_putc,beq_self_eq_true,eq_self,exists_eq_left,exists_eq_left',hc,hf]
      exact ex_x rfl
    | true =>
      simp -implicitDefEqProofs (maxDischargeDepth:=12) only [g7_3,WW,List.replicate,Option.some_or,s_conv,e_conv,s_slc3,e_cut3,e_cut3n,e_bns,e_bnn,e_splice,if_true,if_false,ite_true,ite_false,true_or,ne_eq,seval,h_putc,beq_self_eq_true,eq_self,exists_eq_left,exists_eq_left',hc,hf]
      refine wA_pure rfl (has_pv hk (c:=86) (by decide)) ?_
      simp -implicitDefEqProofs (maxDischargeDepth:=12) only [WW,List.replicate,Option.some_or,s_conv,e_conv,s_slc3,e_cut3,e_cut3n,e_bns,e_bnn,e_splice,if_true,if_false,ite_true,ite_false,true_or,ne_eq,seval,h_putc,beq_self_eq_true,eq_self,exists_eq_left,exists_eq_left']
      exact ex_x rfl
set_option maxRecDepth 20000 in
theorem g7_4_ok (c : Cmd) {k : Nat} (hk : k < 27) (a f : Bool) (hf : (decide (¬ c.at_ = 0)) = f) (x : Nat→AV) (H : AHeap) (hc : H.cells 0 = some c.enc.cells) :
    wpIns prog polK g7_4 [x 0,.ptr 0 0,x 2,.sc (.str (usesOf (k + 1))),x 4,x 5,x 6,x 7,x 8,x 9,x 10,x 11,x 12,x 13,x 14,x 15,x 16,x 17,x 18,x 19,x 20,x 21,x 22,x 23,x 24,x 25,x 26,x 27,x 28,x 29,x 30,x 31,x 32,x 33,x 34,x 35,x 36,x 37,x 38,x 39,x 40,x 41,x 42,x 43,x 44,x 45,x 46,x 47,x 48,x 49,x 50,x 51,x 52,x 53,x 54,x 55,x 56,x 57,x 58,x 59,x 60,.sc (.bool a),x 62,x 63,x 64,x 65,x 66,x 67,x 68,x 69,x 70,x 71,x 72,x 73,x 74,x 75,x 76,x 77,x 78,x 79,x 80,x 81,x 82,x 83,x 84,x 85,x 86,x 87,x 88,x 89,x 90,x 91,x 92,x 93,x 94,x 95,x 96,x 97,x 98,x 99,x 100,x 101,x 102,x 103,x 104,x 105,x 106,x 107,x 108,x 109,x 110,x 111,x 112,x 113,x 114,x 115,x 116,x 117,x 118,x 119,x 120,x 121,x 122,x 123,x 124,x 125,x 126,x 127,x 128,x 129,x 130,x 131,x 132,x 133,x 134,x 135,x 136,x 137,x 138,x 139,x 140,x 141,x 142,x 143,x 144] H fun t' H' => H' = H∧∃ x : Nat→AV,t' = [x 0,.ptr 0 0,x 2,.sc (.str (usesOf (k + 1))),x 4,x 5,x 6,x 7,x 8,x 9,x 10,x 11,x 12,x 13,x 14,x 15,x 16,x 17,x 18,x 19,x 20,x 21,x 22,x 23,x 24,x 25,x 26,x 27,x 28,x 29,x 30,x 31,x 32,x 33,x 34,x 35,x 36,x 37,x 38,x 39,x 40,x 41,x 42,x 43,x 44,x 45,x 46,x 47,x 48,x 49,x 50,x 51,x 52,x 53,x 54,x 55,x 56,x 57,x 58,x 59,x 60,x 61,x 62,x 63,x 64,x 65,x 66,x 67,x 68,x 69,x 70,.sc (.bool (a || (f && !hasB (usesOf (k + 1)) 65))),x 72,x 73,x 74,x 75,x 76,x 77,x 78,x 79,x 80,x 81,x 82,x 83,x 84,x 85,x 86,x 87,x 88,x 89,x 90,x 91,x 92,x 93,x 94,x 95,x 96,x 97,x 98,x 99,x 100,x 101,x 102,x 103,x 104,x 105,x 106,x 107,x 108,x 109,x 110,x 111,x 112,x 113,x 114,x 115,x 116,x 117,x 118,x 119,x 120,x 121,x 122,x 123,x 124,x 125,x 126,x 127,x 128,x 129,x 130,x 131,x 132,x 133,x 134,x 135,x 136,x 137,x 138,x 139,x 140,x 141,x 142,x 143,x 144]:=by
  simp only [c.enc_eq,AV.cells] at hc
  cases a with
  | true =>
    simp -implicitDefEqProofs (maxDischargeDepth:=12) only [g7_4,WW,List.replicate,Option.some_or,s_conv,e_conv,s_slc3,e_cut3,e_cut3n,e_bns,e_bnn,e_splice,if_true,if_false,ite_true,ite_false,true_or,ne_eq,seval,h_putc,beq_self_eq_true,eq_self,exists_eq_left,exists_eq_left']
    exact ex_x rfl
  | false =>
  cases f with
    | false =>
      simp -implicitDefEqProofs (maxDischargeDepth:=12) only [g7_4,WW,List.replicate,Option.some_or,s_conv,e_conv,s_slc3,e_cut3,e_cut3n,e_bns,e_bnn,e_splice,if_true,if_false,ite_true,ite_false,true_or,ne_eq,seval,h_putc,beq_self_eq_true,eq_self,exists_eq_left,exists_eq_left',hc,hf]
      exact ex_x rfl
    | true =>
      simp -implicitDefEqProofs (maxDischargeDepth:=12) only [g7_4,WW,List.replicate,Option.some_or,s_conv,e_conv,s_slc3,e_cut3,e_cut3n,e_bns,e_bnn,e_splice,if_true,if_false,ite_true,ite_false,true_or,ne_eq,seval,h_putc,beq_self_eq_true,eq_self,exists_eq_left,exists_eq_left',hc,hf]
      refine wA_pure rfl (has_pv hk (c:=65) (by decide)) ?_
      simp -implicitDefEqProofs (maxDischargeDepth:=12) only [WW,List.replicate,Option.some_or,s_conv,e_conv,s_slc3,e_cut3,e_cut3n,e_bns,e_bnn,e_splice,if_true,if_false,ite_true,ite_false,true_or,ne_eq,seval,h_putc,beq_self_eq_true,eq_self,exists_eq_left,exists_eq_left']
      exact ex_x rfl
set_option maxRecDepth 20000 in
theorem g7_5_ok (c : Cmd) {k : Nat} (hk : k < 27) (a f : Bool) (hf : (decide (¬ c.index = 0)) = f) (x : Nat→AV) (H : AHeap) (hc : H.cells 0 = some c.enc.cells) :
    wpIns prog polK g7_5 [x 0,.ptr 0 0,x 2,.sc (.str (usesOf (k + 1))),x 4,x 5,x 6,x 7,x 8,x 9,x 10,x 11,x 12,x 13,x 14,x 15,x 16,x 17,x 18,x 19,x 20,x 21,x 22,x 23,x 24,x 25,x 26,x 27,x 28,x 29,x 30,x 31,x 32,x 33,x 34,x 35,x 36,x 37,x 38,x 39,x 40,x 41,x 42,x 43,x 44,x 45,x 46,x 47,x 48,x 49,x 50,x 51,x 52,x 53,x 54,x 55,x 56,x 57,x 58,x 59,x 60,x 61,x 62,x 63,x 64,x 65,x 66,x 67,x 68,x 69,x 70,.sc (.bool a),x 72,x 73,x 74,x 75,x 76,x 77,x 78,x 79,x 80,x 81,x 82,x 83,x 84,x 85,x 86,x 87,x 88,x 89,x 90,x 91,x 92,x 93,x 94,x 95,x 96,x 97,x 98,x 99,x 100,x 101,x 102,x 103,x 104,x 105,x 106,x 107,x 108,x 109,x 110,x 111,x 112,x 113,x 114,x 115,x 116,x 117,x 118,x 119,x 120,x 121,x 122,x 123,x 124,x 125,x 126,x 127,x 128,x 129,x 130,x 131,x 132,x 133,x 134,x 135,x 136,x 137,x 138,x 139,x 140,x 141,x 142,x 143,x 144] H fun t' H' => H' = H∧∃ x : Nat→AV,t' = [x 0,.ptr 0 0,x 2,.sc (.str (usesOf (k + 1))),x 4,x 5,x 6,x 7,x 8,x 9,x 10,x 11,x 12,x 13,x 14,x 15,x 16,x 17,x 18,x 19,x 20,x 21,x 22,x 23,x 24,x 25,x 26,x 27,x 28,x 29,x 30,x 31,x 32,x 33,x 34,x 35,x 36,x 37,x 38,x 39,x 40,x 41,x 42,x 43,x 44,x 45,x 46,x 47,x 48,x 49,x 50,x 51,x 52,x 53,x 54,x 55,x 56,x 57,x 58,x 59,x 60,x 61,x 62,x 63,x 64,x 65,x 66,x 67,x 68,x 69,x 70,x 71,x 72,x 73,x 74,x 75,x 76,x 77,x 78,x 79,x 80,.sc (.bool (a || (f && !hasB (usesOf (k + 1)) 73))),x 82,x 83,x 84,x 85,x 86,x 87,x 88,x 89,x 90,x 91,x 92,x 93,x 94,x 95,x 96,x 97,x 98,x 99,x 100,x 101,x 102,x 103,x 104,x 105,x 106,x 107,x 108,x 109,x 110,x 111,x 112,x 113,x 114,x 115,x 116,x 117,x 118,x 119,x 120,x 121,x 122,x 123,x 124,x 125,x 126,x 127,x 128,x 129,x 130,x 131,x 132,x 133,x 134,x 135,x 136,x 137,x 138,x 139,x 140,x 141,x 142,x 143,x 144]:=by
  simp only [c.enc_eq,AV.cells] at hc
  cases a with
  | true =>
    simp -implicitDefEqProofs (maxDischargeDepth:=12) only [g7_5,WW,List.replicate,Option.some_or,s_conv,e_conv,s_slc3,e_cut3,e_cut3n,e_bns,e_bnn,e_splice,if_true,if_false,ite_true,ite_false,true_or,ne_eq,seval,h_putc,beq_self_eq_true,eq_self,exists_eq_left,exists_eq_left']
    exact ex_x rfl
  | false =>
  cases f with
    | false =>
      simp -implicitDefEqProofs (maxDischargeDepth:=12) only [g7_5,WW,List.replicate,Option.some_or,s_conv,e_conv,s_slc3,e_cut3,e_cut3n,e_bns,e_bnn,e_splice,if_true,if_false,ite_true,ite_false,true_or,ne_eq,seval,h_putc,beq_self_eq_true,eq_self,exists_eq_left,exists_eq_left',hc,hf]
      exact ex_x rfl
    | true =>
      simp -implicitDefEqProofs (maxDischargeDepth:=12) only [g7_5,WW,List.replicate,Option.some_or,s_conv,e_conv,s_slc3,e_cut3,e_cut3n,e_bns,e_bnn,e_splice,if_true,if_false,ite_true,ite_false,true_or,ne_eq,seval,h_putc,beq_self_eq_true,eq_self,exists_eq_left,exists_eq_left',hc,hf]
      refine wA_pure rfl (has_pv hk (c:=73) (by decide)) ?_
      simp -implicitDefEqProofs (maxDischargeDepth:=12) only [WW,List.replicate,Option.some_or,s_conv,e_conv,s_slc3,e_cut3,e_cut3n,e_bns,e_bnn,e_splice,if_true,if_false,ite_true,ite_false,true_or,ne_eq,seval,h_putc,beq_self_eq_true,eq_self,exists_eq_left,exists_eq_left']
      exact ex_x rfl
set_option maxRecDepth 20000 in
theorem g7_6_ok (c : Cmd) {k : Nat} (hk : k < 27) (a f : Bool) (hf : (decide (¬ c.number = 0)) = f) (x : Nat→AV) (H : AHeap) (hc : H.cells 0 = some c.enc.cells) :
    wpIns prog polK g7_6 [x 0,.ptr 0 0,x 2,.sc (.str (usesOf (k + 1))),x 4,x 5,x 6,x 7,x 8,x 9,x 10,x 11,x 12,x 13,x 14,x 15,x 16,x 17,x 18,x 19,x 20,x 21,x 22,x 23,x 24,x 25,x 26,x 27,x 28,x 29,x 30,x 31,x 32,x 33,x 34,x 35,x 36,x 37,x 38,x 39,x 40,x 41,x 42,x 43,x 44,x 45,x 46,x 47,x 48,x 49,x 50,x 51,x 52,x 53,x 54,x 55,x 56,x 57,x 58,x 59,x 60,x 61,x 62,x 63,x 64,x 65,x 66,x 67,x 68,x 69,x 70,x 71,x 72,x 73,x 74,x 75,x 76,x 77,x 78,x 79,x 80,.sc (.bool a),x 82,x 83,x 84,x 85,x 86,x 87,x 88,x 89,x 90,x 91,x 92,x 93,x 94,x 95,x 96,x 97,x 98,x 99,x 100,x 101,x 102,x 103,x 104,x 105,x 106,x 107,x 108,x 109,x 110,x 111,x 112,x 113,x 114,x 115,x 116,x 117,x 118,x 119,x 120,x 121,x 122,x 123,x 124,x 125,x 126,x 127,x 128,x 129,x 130,x 131,x 132,x 133,x 134,x 135,x 136,x 137,x 138,x 139,x 140,x 141,x 142,x 143,x 144] H fun t' H' => H' = H∧∃ x : Nat→AV,t' = [x 0,.ptr 0 0,x 2,.sc (.str (usesOf (k + 1))),x 4,x 5,x 6,x 7,x 8,x 9,x 10,x 11,x 12,x 13,x 14,x 15,x 16,x 17,x 18,x 19,x 20,x 21,x 22,x 23,x 24,x 25,x 26,x 27,x 28,x 29,x 30,x 31,x 32,x 33,x 34,x 35,x 36,x 37,x 38,x 39,x 40,x 41,x 42,x 43,x 44,x 45,x 46,x 47,x 48,x 49,x 50,x 51,x 52,x 53,x 54,x 55,x 56,x 57,x 58,x 59,x 60,x 61,x 62,x 63,x 64,x 65,x 66,x 67,x 68,x 69,x 70,x 71,x 72,x 73,x 74,x 75,x 76,x 77,x 78,x 79,x 80,x 81,x 82,x 83,x 84,x 85,x 86,x 87,x 88,x 89,x 90,.sc (.bool (a || (f && !hasB (usesOf (k + 1)) 78))),x 92,x 93,x 94,x 95,x 96,x 97,x 98,x 99,x 100,x 101,x 102,x 103,x 104,x 105,x 106,x 107,x 108,x 109,x 110,x 111,x 112,x 113,x 114,x 115,x 116,x 117,x 118,x 119,x 120,x 121,x 122,x 123,x 124,x 125,x 126,x 127,x 128,x 129,x 130,x 131,x 132,x 133,x 134,x 135,x 136,x 137,x 138,x 139,x 140,x 141,x 142,x 143,x 144]:=by
  simp only [c.enc_eq,AV.cells] at hc
  cases a with
  | true =>
    simp -implicitDefEqProofs (maxDischargeDepth:=12) only [g7_6,WW,List.replicate,Option.some_or,s_conv,e_conv,s_slc3,e_cut3,e_cut3n,e_bns,e_bnn,e_splice,if_true,if_false,ite_true,ite_false,true_or,ne_eq,seval,h_putc,beq_self_eq_true,eq_self,exists_eq_left,exists_eq_left']
    exact ex_x rfl
  | false =>
  cases f with
    | false =>
      simp -implicitDefEqProofs (maxDischargeDepth:=12) only [g7_6,WW,List.replicate,Option.some_or,s_conv,e_conv,s_slc3,e_cut3,e_cut3n,e_bns,e_bnn,e_splice,if_true,if_false,ite_true,ite_false,true_or,ne_eq,seval,h_putc,beq_self_eq_true,eq_self,exists_eq_left,exists_eq_left',hc,hf]
      exact ex_x rfl
    | true =>
      simp -implicitDefEqProofs (maxDischargeDepth:=12) only [g7_6,WW,List.replicate,Option.some_or,s_conv,e_conv,s_slc3,e_cut3,e_cut3n,e_bns,e_bnn,e_splice,if_true,if_false,ite_true,ite_false,true_or,ne_eq,seval,h_putc,beq_self_eq_true,eq_self,exists_eq_left,exists_eq_left',hc,hf]
      refine wA_pure rfl (has_pv hk (c:=78) (by decide)) ?_
      simp -implicitDefEqProofs (maxDischargeDepth:=12) only [WW,List.replicate,Option.some_or,s_conv,e_conv,s_slc3,e_cut3,e_cut3n,e_bns,e_bnn,e_splice,if_true,if_false,ite_true,ite_false,true_or,ne_eq,seval,h_putc,beq_self_eq_true,eq_self,exists_eq_left,exists_eq_left']
      exact ex_x rfl
set_option maxRecDepth 20000 in
theorem g7_7_ok (c : Cmd) {k : Nat} (hk : k < 27) (a f : Bool) (hf : (!(decide (c.value.log = 0) && decide (c.value.dots = 0))) = f) (x : Nat→AV) (H : AHeap) (hc : H.cells 0 = some c.enc.cells) :
    wpIns prog polK g7_7 [x 0,.ptr 0 0,x 2,.sc (.str (usesOf (k + 1))),x 4,x 5,x 6,x 7,x 8,x 9,x 10,x 11,x 12,x 13,x 14,x 15,x 16,x 17,x 18,x 19,x 20,x 21,x 22,x 23,x 24,x 25,x 26,x 27,x 28,x 29,x 30,x 31,x 32,x 33,x 34,x 35,x 36,x 37,x 38,x 39,x 40,x 41,x 42,x 43,x 44,x 45,x 46,x 47,x 48,x 49,x 50,x 51,x 52,x 53,x 54,x 55,x 56,x 57,x 58,x 59,x 60,x 61,x 62,x 63,x 64,x 65,x 66,x 67,x 68,x 69,x 70,x 71,x 72,x 73,x 74,x 75,x 76,x 77,x 78,x 79,x 80,x 81,x 82,x 83,x 84,x 85,x 86,x 87,x 88,x 89,x 90,.sc (.bool a),x 92,x 93,x 94,x 95,x 96,x 97,x 98,x 99,x 100,x 101,x 102,x 103,x 104,x 105,x 106,x 107,x 108,x 109,x 110,x 111,x 112,x 113,x 114,x 115,x 116,x 117,x 118,x 119,x 120,x 121,x 122,x 123,x 124,x 125,x 126,x 127,x 128,x 129,x 130,x 131,x 132,x 133,x 134,x 135,x 136,x 137,x 138,x 139,x 140,x 141,x 142,x 143,x 144] H fun t' H' => H' = H∧∃ x : Nat→AV,t' = [x 0,.ptr 0 0,x 2,.sc (.str (usesOf (k + 1))),x 4,x 5,x 6,x 7,x 8,x 9,x 10,x 11,x 12,x 13,x 14,x 15,x 16,x 17,x 18,x 19,x 20,x 21,x 22,x 23,x 24,x 25,x 26,x 27,x 28,x 29,x 30,x 31,x 32,x 33,x 34,x 35,x 36,x 37,x 38,x 39,x 40,x 41,x 42,x 43,x 44,x 45,x 46,x 47,x 48,x 49,x 50,x 51,x 52,x 53,x 54,x 55,x 56,x 57,x 58,x 59,x 60,x 61,x 62,x 63,x 64,x 65,x 66,x 67,x 68,x 69,x 70,x 71,x 72,x 73,x 74,x 75,x 76,x 77,x 78,x 79,x 80,x 81,x 82,x 83,x 84,x 85,x 86,x 87,x 88,x 89,x 90,x 91,x 92,x 93,x 94,x 95,x 96,x 97,x 98,x 99,x 100,x 101,.sc (.bool (a || (f && !hasB (usesOf (k + 1)) 76))),x 103,x 104,x 105,x 106,x 107,x 108,x 109,x 110,x 111,x 112,x 113,x 114,x 115,x 116,x 117,x 118,x 119,x 120,x 121,x 122,x 123,x 124,x 125,x 126,x 127,x 128,x 129,x 130,x 131,x 132,x 133,x 134,x 135,x 136,x 137,x 138,x 139,x 140,x 141,x 142,x 143,x 144]:=by
  simp only [c.enc_eq,AV.cells] at hc
  cases a with
  | true =>
    simp -implicitDefEqProofs (maxDischargeDepth:=12) only [g7_7,WW,List.replicate,Option.some_or,s_conv,e_conv,s_slc3,e_cut3,e_cut3n,e_bns,e_bnn,e_splice,if_true,if_false,ite_true,ite_false,true_or,ne_eq,seval,h_putc,beq_self_eq_true,eq_self,exists_eq_left,exists_eq_left']
    exact ex_x rfl
  | false =>
  cases f with
    | false =>
      simp -implicitDefEqProofs (maxDischargeDepth:=12) only [g7_7,WW,List.replicate,Option.some_or,s_conv,e_conv,s_slc3,e_cut3,e_cut3n,e_bns,e_bnn,e_splice,if_true,if_false,ite_true,ite_false,true_or,ne_eq,seval,h_putc,beq_self_eq_true,eq_self,exists_eq_left,exists_eq_left',hc,hf]
      exact ex_x rfl
    | true =>
      simp -implicitDefEqProofs (maxDischargeDepth:=12) only [g7_7,WW,List.replicate,Option.some_or,s_conv,e_conv,s_slc3,e_cut3,e_cut3n,e_bns,e_bnn,e_splice,if_true,if_false,ite_true,ite_false,true_or,ne_eq,seval,h_putc,beq_self_eq_true,eq_self,exists_eq_left,exists_eq_left',hc,hf]
      refine wA_pure rfl (has_pv hk (c:=76) (by decide)) ?_
      simp -implicitDefEqProofs (maxDischargeDepth:=12) only [WW,List.replicate,Option.some_or,s_conv,e_conv,s_slc3,e_cut3,e_cut3n,e_bns,e_bnn,e_splice,if_true,if_false,ite_true,ite_false,true_or,ne_eq,seval,h_putc,beq_self_eq_true,eq_self,exists_eq_left,exists_eq_left']
      exact ex_x rfl
set_option maxRecDepth 20000 in
theorem g7_8_ok (c : Cmd) {k : Nat} (hk : k < 27) (a f : Bool) (hf : (!(decide (c.pitch.step = 0) && (decide (c.pitch.alter = 0) && decide (c.pitch.octave = 0)))) = f) (x : Nat→AV) (H : AHeap) (hc : H.cells 0 = some c.enc.cells) :
    wpIns prog polK g7_8 [x 0,.ptr 0 0,x 2,.sc (.str (usesOf (k + 1))),x 4,x 5,x 6,x 7,x 8,x 9,x 10,x 11,x 12,x 13,x 14,x 15,x 16,x 17,x 18,x 19,x 20,x 21,x 22,x 23,x 24,x 25,x 26,x 27,x 28,x 29,x 30,x 31,x 32,x 33,x 34,x 35,x 36,x 37,x 38,x 39,x 40,x 41,x 42,x 43,x 44,x 45,x 46,x 47,x 48,x 49,x 50,x 51,x 52,x 53,x 54,x 55,x 56,x 57,x 58,x 59,x 60,x 61,x 62,x 63,x 64,x 65,x 66,x 67,x 68,x 69,x 70,x 71,x 72,x 73,x 74,x 75,x 76,x 77,x 78,x 79,x 80,x 81,x 82,x 83,x 84,x 85,x 86,x 87,x 88,x 89,x 90,x 91,x 92,x 93,x 94,x 95,x 96,x 97,x 98,x 99,x 100,x 101,.sc (.bool a),x 103,x 104,x 105,x 106,x 107,x 108,x 109,x 110,x 111,x 112,x 113,x 114,x 115,x 116,x 117,x 118,x 119,x 120,x 121,x 122,x 123,x 124,x 125,x 126,x 127,x 128,x 129,x 130,x 131,x 132,x 133,x 134,x 135,x 136,x 137,x 138,x 139,x 140,x 141,x 142,x 143,x 144] H fun t' H' => H' = H∧∃ x : Nat→AV,t' = [x 0,.ptr 0 0,x 2,.sc (.str (usesOf (k + 1))),x 4,x 5,x 6,x 7,x 8,x 9,x 10,x 11,x 12,x 13,x 14,x 15,x 16,x 17,x 18,x 19,x 20,x 21,x 22,x 23,x 24,x 25,x 26,x 27,x 28,x 29,x 30,x 31,x 32,x 33,x 34,x 35,x 36,x 37,x 38,x 39,x 40,x 41,x 42,x 43,x 44,x 45,x 46,x 47,x 48,x 49,x 50,x 51,x 52,x 53,x 54,x 55,x 56,x 57,x 58,x 59,x 60,x 61,x 62,x 63,x 64,x 65,x 66,x 67,x 68,x 69,x 70,x 71,x 72,x 73,x 74,x 75,x 76,x 77,x 78,x 79,x 80,x 81,x 82,x 83,x 84,x 85,x 86,x 87,x 88,x 89,x 90,x 91,x 92,x 93,x 94,x 95,x 96,x 97,x 98,x 99,x 100,x 101,x 102,x 103,x 104,x 105,x 106,x 107,x 108,x 109,x 110,x 111,x 112,.sc (.bool (a || (f && !hasB (usesOf (k + 1)) 80))),x 114,x 115,x 116,x 117,x 118,x 119,x 120,x 121,x 122,x 123,x 124,x 125,x 126,x 127,x 128,x 129,x 130,x 131,x 132,x 133,x 134,x 135,x 136,x 137,x 138,x 139,x 140,x 141,x 142,x 143,x 144]:=by
  simp only [c.enc_eq,AV.cells] at hc
  cases a with
  | true =>
    simp -implicitDefEqProofs (maxDischargeDepth:=12) only [g7_8,WW,List.replicate,Option.some_or,s_conv,e_conv,s_slc3,e_cut3,e_cut3n,e_bns,e_bnn,e_splice,if_true,if_false,ite_true,ite_false,true_or,ne_eq,seval,h_putc,beq_self_eq_true,eq_self,exists_eq_left,exists_eq_left']
    exact ex_x rfl
  | false =>
  cases f with
    | false =>
      simp -implicitDefEqProofs (maxDischargeDepth:=12) only [g7_8,WW,List.replicate,Option.some_or,s_conv,e_conv,s_slc3,e_cut3,e_cut3n,e_bns,e_bnn,e_splice,if_true,if_false,ite_true,ite_false,true_or,ne_eq,seval,h_putc,beq_self_eq_true,eq_self,exists_eq_left,exists_eq_left',hc,hf]
      exact ex_x rfl
    | true =>
      simp -implicitDefEqProofs (maxDischargeDepth:=12) only [g7_8,WW,List.replicate,Option.some_or,s_conv,e_conv,s_slc3,e_cut3,e_cut3n,e_bns,e_bnn,e_splice,if_true,if_false,ite_true,ite_false,true_or,ne_eq,seval,h_putc,beq_self_eq_true,eq_self,exists_eq_left,exists_eq_left',hc,hf]
      refine wA_pure rfl (has_pv hk (c:=80) (by decide)) ?_
      simp -implicitDefEqProofs (maxDischargeDepth:=12) only [WW,List.replicate,Option.some_or,s_conv,e_conv,s_slc3,e_cut3,e_cut3n,e_bns,e_bnn,e_splice,if_true,if_false,ite_true,ite_false,true_or,ne_eq,seval,h_putc,beq_self_eq_true,eq_self,exists_eq_left,exists_eq_left']
      exact ex_x rfl
set_option maxRecDepth 20000 in
theorem g7_9_ok (c : Cmd) {k : Nat} (hk : k < 27) (a f : Bool) (hf : (!(decide (c.metre.count = 0) && (decide (c.metre.unit = 0) && (decide (c.metre.g0 = 0) && (decide (c.metre.g1 = 0) && (decide (c.metre.g2 = 0) && (decide (c.metre.g3 = 0) && (decide (c.metre.g4 = 0) && decide (c.metre.g5 = 0))))))))) = f) (x : Nat→AV) (H : AHeap) (hc : H.cells 0 = some c.enc.cells) :
    wpIns prog polK g7_9 [x 0,.ptr 0 0,x 2,.sc (.str (usesOf (k + 1))),x 4,x 5,x 6,x 7,x 8,x 9,x 10,x 11,x 12,x 13,x 14,x 15,x 16,x 17,x 18,x 19,x 20,x 21,x 22,x 23,x 24,x 25,x 26,x 27,x 28,x 29,x 30,x 31,x 32,x 33,x 34,x 35,x 36,x 37,x 38,x 39,x 40,x 41,x 42,x 43,x 44,x 45,x 46,x 47,x 48,x 49,x 50,x 51,x 52,x 53,x 54,x 55,x 56,x 57,x 58,x 59,x 60,x 61,x 62,x 63,x 64,x 65,x 66,x 67,x 68,x 69,x 70,x 71,x 72,x 73,x 74,x 75,x 76,x 77,x 78,x 79,x 80,x 81,x 82,x 83,x 84,x 85,x 86,x 87,x 88,x 89,x 90,x 91,x 92,x 93,x 94,x 95,x 96,x 97,x 98,x 99,x 100,x 101,x 102,x 103,x 104,x 105,x 106,x 107,x 108,x 109,x 110,x 111,x 112,.sc (.bool a),x 114,x 115,x 116,x 117,x 118,x 119,x 120,x 121,x 122,x 123,x 124,x 125,x 126,x 127,x 128,x 129,x 130,x 131,x 132,x 133,x 134,x 135,x 136,x 137,x 138,x 139,x 140,x 141,x 142,x 143,x 144] H fun t' H' => H' = H∧∃ x : Nat→AV,t' = [x 0,.ptr 0 0,x 2,.sc (.str (usesOf (k + 1))),x 4,x 5,x 6,x 7,x 8,x 9,x 10,x 11,x 12,x 13,x 14,x 15,x 16,x 17,x 18,x 19,x 20,x 21,x 22,x 23,x 24,x 25,x 26,x 27,x 28,x 29,x 30,x 31,x 32,x 33,x 34,x 35,x 36,x 37,x 38,x 39,x 40,x 41,x 42,x 43,x 44,x 45,x 46,x 47,x 48,x 49,x 50,x 51,x 52,x 53,x 54,x 55,x 56,x 57,x 58,x 59,x 60,x 61,x 62,x 63,x 64,x 65,x 66,x 67,x 68,x 69,x 70,x 71,x 72,x 73,x 74,x 75,x 76,x 77,x 78,x 79,x 80,x 81,x 82,x 83,x 84,x 85,x 86,x 87,x 88,x 89,x 90,x 91,x 92,x 93,x 94,x 95,x 96,x 97,x 98,x 99,x 100,x 101,x 102,x 103,x 104,x 105,x 106,x 107,x 108,x 109,x 110,x 111,x 112,x 113,x 114,x 115,x 116,x 117,x 118,x 119,x 120,x 121,x 122,x 123,.sc (.bool (a || (f && !hasB (usesOf (k + 1)) 77))),x 125,x 126,x 127,x 128,x 129,x 130,x 131,x 132,x 133,x 134,x 135,x 136,x 137,x 138,x 139,x 140,x 141,x 142,x 143,x 144]:=by
  simp only [c.enc_eq,AV.cells] at hc
  cases a with
  | true =>
    simp -implicitDefEqProofs (maxDischargeDepth:=12) only [g7_9,WW,List.replicate,Option.some_or,s_conv,e_conv,s_slc3,e_cut3,e_cut3n,e_bns,e_bnn,e_splice,if_true,if_false,ite_true,ite_false,true_or,ne_eq,seval,h_putc,beq_self_eq_true,eq_self,exists_eq_left,exists_eq_left']
    exact ex_x rfl
  | false =>
  cases f with
    | false =>
      simp -implicitDefEqProofs (maxDischargeDepth:=12) only [g7_9,WW,List.replicate,Option.some_or,s_conv,e_conv,s_slc3,e_cut3,e_cut3n,e_bns,e_bnn,e_splice,if_true,if_false,ite_true,ite_false,true_or,ne_eq,seval,h_putc,beq_self_eq_true,eq_self,exists_eq_left,exists_eq_left',hc,hf]
      exact ex_x rfl
    | true =>
      simp -implicitDefEqProofs (maxDischargeDepth:=12) only [g7_9,WW,List.replicate,Option.some_or,s_conv,e_conv,s_slc3,e_cut3,e_cut3n,e_bns,e_bnn,e_splice,if_true,if_false,ite_true,ite_false,true_or,ne_eq,seval,h_putc,beq_self_eq_true,eq_self,exists_eq_left,exists_eq_left',hc,hf]
      refine wA_pure rfl (has_pv hk (c:=77) (by decide)) ?_
      simp -implicitDefEqProofs (maxDischargeDepth:=12) only [WW,List.replicate,Option.some_or,s_conv,e_conv,s_slc3,e_cut3,e_cut3n,e_bns,e_bnn,e_splice,if_true,if_false,ite_true,ite_false,true_or,ne_eq,seval,h_putc,beq_self_eq_true,eq_self,exists_eq_left,exists_eq_left']
      exact ex_x rfl
set_option maxRecDepth 20000 in
theorem g7_10_ok (c : Cmd) {k : Nat} (hk : k < 27) (a f : Bool) (hf : (!(decide (c.interval.steps = 0) && decide (c.interval.semitones = 0))) = f) (x : Nat→AV) (H : AHeap) (hc : H.cells 0 = some c.enc.cells) :
    wpIns prog polK g7_10 [x 0,.ptr 0 0,x 2,.sc (.str (usesOf (k + 1))),x 4,x 5,x 6,x 7,x 8,x 9,x 10,x 11,x 12,x 13,x 14,x 15,x 16,x 17,x 18,x 19,x 20,x 21,x 22,x 23,x 24,x 25,x 26,x 27,x 28,x 29,x 30,x 31,x 32,x 33,x 34,x 35,x 36,x 37,x 38,x 39,x 40,x 41,x 42,x 43,x 44,x 45,x 46,x 47,x 48,x 49,x 50,x 51,x 52,x 53,x 54,x 55,x 56,x 57,x 58,x 59,x 60,x 61,x 62,x 63,x 64,x 65,x 66,x 67,x 68,x 69,x 70,x 71,x 72,x 73,x 74,x 75,x 76,x 77,x 78,x 79,x 80,x 81,x 82,x 83,x 84,x 85,x 86,x 87,x 88,x 89,x 90,x 91,x 92,x 93,x 94,x 95,x 96,x 97,x 98,x 99,x 100,x 101,x 102,x 103,x 104,x 105,x 106,x 107,x 108,x 109,x 110,x 111,x 112,x 113,x 114,x 115,x 116,x 117,x 118,x 119,x 120,x 121,x 122,x 123,.sc (.bool a),x 125,x 126,x 127,x 128,x 129,x 130,x 131,x 132,x 133,x 134,x 135,x 136,x 137,x 138,x 139,x 140,x 141,x 142,x 143,x 144] H fun t' H' => H' = H∧∃ x : Nat→AV,t' = [x 0,.ptr 0 0,x 2,.sc (.str (usesOf (k + 1))),x 4,x 5,x 6,x 7,x 8,x 9,x 10,x 11,x 12,x 13,x 14,x 15,x 16,x 17,x 18,x 19,x 20,x 21,x 22,x 23,x 24,x 25,x 26,x 27,x 28,x 29,x 30,x 31,x 32,x 33,x 34,x 35,x 36,x 37,x 38,x 39,x 40,x 41,x 42,x 43,x 44,x 45,x 46,x 47,x 48,x 49,x 50,x 51,x 52,x 53,x 54,x 55,x 56,x 57,x 58,x 59,x 60,x 61,x 62,x 63,x 64,x 65,x 66,x 67,x 68,x 69,x 70,x 71,x 72,x 73,x 74,x 75,x 76,x 77,x 78,x 79,x 80,x 81,x 82,x 83,x 84,x 85,x 86,x 87,x 88,x 89,x 90,x 91,x 92,x 93,x 94,x 95,x 96,x 97,x 98,x 99,x 100,x 101,x 102,x 103,x 104,x 105,x 106,x 107,x 108,x 109,x 110,x 111,x 112,x 113,x 114,x 115,x 116,x 117,x 118,x 119,x 120,x 121,x 122,x 123,x 124,x 125,x 126,x 127,x 128,x 129,x 130,x 131,x 132,x 133,x 134,.sc (.bool (a || (f && !hasB (usesOf (k + 1)) 69))),x 136,x 137,x 138,x 139,x 140,x 141,x 142,x 143,x 144]:=by
  simp only [c.enc_eq,AV.cells] at hc
  cases a with
  | true =>
    simp -implicitDefEqProofs (maxDischargeDepth:=12) only [g7_10,WW,List.replicate,Option.some_or,s_conv,e_conv,s_slc3,e_cut3,e_cut3n,e_bns,e_bnn,e_splice,if_true,if_false,ite_true,ite_false,true_or,ne_eq,seval,h_putc,beq_self_eq_true,eq_self,exists_eq_left,exists_eq_left']
    exact ex_x rfl
  | false =>
  cases f with
    | false =>
      simp -implicitDefEqProofs (maxDischargeDepth:=12) only [g7_10,WW,List.replicate,Option.some_or,s_conv,e_conv,s_slc3,e_cut3,e_cut3n,e_bns,e_bnn,e_splice,if_true,if_false,ite_true,ite_false,true_or,ne_eq,seval,h_putc,beq_self_eq_true,eq_self,exists_eq_left,exists_eq_left',hc,hf]
      exact ex_x rfl
    | true =>
      simp -implicitDefEqProofs (maxDischargeDepth:=12) only [g7_10,WW,List.replicate,Option.some_or,s_conv,e_conv,s_slc3,e_cut3,e_cut3n,e_bns,e_bnn,e_splice,if_true,if_false,ite_true,ite_false,true_or,ne_eq,seval,h_putc,beq_self_eq_true,eq_self,exists_eq_left,exists_eq_left',hc,hf]
      refine wA_pure rfl (has_pv hk (c:=69) (by decide)) ?_
      simp -implicitDefEqProofs (maxDischargeDepth:=12) only [WW,List.replicate,Option.some_or,s_conv,e_conv,s_slc3,e_cut3,e_cut3n,e_bns,e_bnn,e_splice,if_true,if_false,ite_true,ite_false,true_or,ne_eq,seval,h_putc,beq_self_eq_true,eq_self,exists_eq_left,exists_eq_left']
      exact ex_x rfl
set_option maxRecDepth 20000 in
theorem g7_11_ok (c : Cmd) {k : Nat} (hk : k < 27) (a f : Bool) (hf : (!c.text.toList == (⟨#[]⟩ : ByteArray).toList) = f) (x : Nat→AV) (H : AHeap) (hc : H.cells 0 = some c.enc.cells) :
    wpIns prog polK g7_11 [x 0,.ptr 0 0,x 2,.sc (.str (usesOf (k + 1))),x 4,x 5,x 6,x 7,x 8,x 9,x 10,x 11,x 12,x 13,x 14,x 15,x 16,x 17,x 18,x 19,x 20,x 21,x 22,x 23,x 24,x 25,x 26,x 27,x 28,x 29,x 30,x 31,x 32,x 33,x 34,x 35,x 36,x 37,x 38,x 39,x 40,x 41,x 42,x 43,x 44,x 45,x 46,x 47,x 48,x 49,x 50,x 51,x 52,x 53,x 54,x 55,x 56,x 57,x 58,x 59,x 60,x 61,x 62,x 63,x 64,x 65,x 66,x 67,x 68,x 69,x 70,x 71,x 72,x 73,x 74,x 75,x 76,x 77,x 78,x 79,x 80,x 81,x 82,x 83,x 84,x 85,x 86,x 87,x 88,x 89,x 90,x 91,x 92,x 93,x 94,x 95,x 96,x 97,x 98,x 99,x 100,x 101,x 102,x 103,x 104,x 105,x 106,x 107,x 108,x 109,x 110,x 111,x 112,x 113,x 114,x 115,x 116,x 117,x 118,x 119,x 120,x 121,x 122,x 123,x 124,x 125,x 126,x 127,x 128,x 129,x 130,x 131,x 132,x 133,x 134,.sc (.bool a),x 136,x 137,x 138,x 139,x 140,x 141,x 142,x 143,x 144] H fun t' H' => H' = H∧∃ x : Nat→AV,t' = [x 0,.ptr 0 0,x 2,.sc (.str (usesOf (k + 1))),x 4,x 5,x 6,x 7,x 8,x 9,x 10,x 11,x 12,x 13,x 14,x 15,x 16,x 17,x 18,x 19,x 20,x 21,x 22,x 23,x 24,x 25,x 26,x 27,x 28,x 29,x 30,x 31,x 32,x 33,x 34,x 35,x 36,x 37,x 38,x 39,x 40,x 41,x 42,x 43,x 44,x 45,x 46,x 47,x 48,x 49,x 50,x 51,x 52,x 53,x 54,x 55,x 56,x 57,x 58,x 59,x 60,x 61,x 62,x 63,x 64,x 65,x 66,x 67,x 68,x 69,x 70,x 71,x 72,x 73,x 74,x 75,x 76,x 77,x 78,x 79,x 80,x 81,x 82,x 83,x 84,x 85,x 86,x 87,x 88,x 89,x 90,x 91,x 92,x 93,x 94,x 95,x 96,x 97,x 98,x 99,x 100,x 101,x 102,x 103,x 104,x 105,x 106,x 107,x 108,x 109,x 110,x 111,x 112,x 113,x 114,x 115,x 116,x 117,x 118,x 119,x 120,x 121,x 122,x 123,x 124,x 125,x 126,x 127,x 128,x 129,x 130,x 131,x 132,x 133,x 134,x 135,x 136,x 137,x 138,x 139,x 140,x 141,x 142,x 143,.sc (.bool (a || (f && !hasB (usesOf (k + 1)) 88)))]:=by
  simp only [c.enc_eq,AV.cells] at hc
  cases a with
  | true =>
    simp -implicitDefEqProofs (maxDischargeDepth:=12) only [g7_11,WW,List.replicate,Option.some_or,s_conv,e_conv,s_slc3,e_cut3,e_cut3n,e_bns,e_bnn,e_splice,if_true,if_false,ite_true,ite_false,true_or,ne_eq,seval,h_putc,beq_self_eq_true,eq_self,exists_eq_left,exists_eq_left']
    exact ex_x rfl
  | false =>
  cases f with
    | false =>
      simp -implicitDefEqProofs (maxDischargeDepth:=12) only [g7_11,WW,List.replicate,Option.some_or,s_conv,e_conv,s_slc3,e_cut3,e_cut3n,e_bns,e_bnn,e_splice,if_true,if_false,ite_true,ite_false,true_or,ne_eq,seval,h_putc,beq_self_eq_true,eq_self,exists_eq_left,exists_eq_left',hc,hf]
      exact ex_x rfl
    | true =>
      simp -implicitDefEqProofs (maxDischargeDepth:=12) only [g7_11,WW,List.replicate,Option.some_or,s_conv,e_conv,s_slc3,e_cut3,e_cut3n,e_bns,e_bnn,e_splice,if_true,if_false,ite_true,ite_false,true_or,ne_eq,seval,h_putc,beq_self_eq_true,eq_self,exists_eq_left,exists_eq_left',hc,hf]
      refine wA_pure rfl (has_pv hk (c:=88) (by decide)) ?_
      simp -implicitDefEqProofs (maxDischargeDepth:=12) only [WW,List.replicate,Option.some_or,s_conv,e_conv,s_slc3,e_cut3,e_cut3n,e_bns,e_bnn,e_splice,if_true,if_false,ite_true,ite_false,true_or,ne_eq,seval,h_putc,beq_self_eq_true,eq_self,exists_eq_left,exists_eq_left']
      exact ex_x rfl
def formX (k : Nat) (c : Cmd) : Bool:=(((((((((((((!(decide (c.obj.site = 0) && decide (c.obj.number = 0))) && !hasB (usesOf (k + 1)) 79) || ((!(decide (c.other.site = 0) && decide (c.other.number = 0))) && !hasB (usesOf (k + 1)) 84)) || ((decide (¬ c.staff = 0)) && !hasB (usesOf (k + 1)) 83)) || ((decide (¬ c.voice = 0)) && !hasB (usesOf (k + 1)) 86)) || ((decide (¬ c.at_ = 0)) && !hasB (usesOf (k + 1)) 65)) || ((decide (¬ c.index = 0)) && !hasB (usesOf (k + 1)) 73)) || ((decide (¬ c.number = 0)) && !hasB (usesOf (k + 1)) 78)) || ((!(decide (c.value.log = 0) && decide (c.value.dots = 0))) && !hasB (usesOf (k + 1)) 76)) || ((!(decide (c.pitch.step = 0) && (decide (c.pitch.alter = 0) && decide (c.pitch.octave = 0)))) && !hasB (usesOf (k + 1)) 80)) || ((!(decide (c.metre.count = 0) && (decide (c.metre.unit = 0) && (decide (c.metre.g0 = 0) && (decide (c.metre.g1 = 0) && (decide (c.metre.g2 = 0) && (decide (c.metre.g3 = 0) && (decide (c.metre.g4 = 0) && decide (c.metre.g5 = 0))))))))) && !hasB (usesOf (k + 1)) 77)) || ((!(decide (c.interval.steps = 0) && decide (c.interval.semitones = 0))) && !hasB (usesOf (k + 1)) 69)) || ((!c.text.toList == (⟨#[]⟩ : ByteArray).toList) && !hasB (usesOf (k + 1)) 88))
theorem g7_ok (c : Cmd) {k : Nat} (hk : k < 27) {t : List AV} (ht : ∃ x : Nat→AV,t = [x 0,.ptr 0 0,x 2,.sc (.str (usesOf (k + 1))),x 4,x 5,x 6,x 7,x 8,x 9,x 10,x 11,x 12,x 13,x 14,x 15,x 16,x 17,x 18,x 19,x 20,x 21,x 22,x 23,x 24,x 25,x 26,x 27,x 28,x 29,x 30,x 31,x 32,x 33,x 34,x 35,x 36,x 37,x 38,x 39,x 40,x 41,x 42,x 43,x 44,x 45,x 46,x 47,x 48,x 49,x 50,x 51,x 52,x 53,x 54,x 55,x 56,x 57,x 58,x 59,x 60,x 61,x 62,x 63,x 64,x 65,x 66,x 67,x 68,x 69,x 70,x 71,x 72,x 73,x 74,x 75,x 76,x 77,x 78,x 79,x 80,x 81,x 82,x 83,x 84,x 85,x 86,x 87,x 88,x 89,x 90,x 91,x 92,x 93,x 94,x 95,x 96,x 97,x 98,x 99,x 100,x 101,x 102,x 103,x 104,x 105,x 106,x 107,x 108,x 109,x 110,x 111,x 112,x 113,x 114,x 115,x 116,x 117,x 118,x 119,x 120,x 121,x 122,x 123,x 124,x 125,x 126,x 127,x 128,x 129,x 130,x 131,x 132,x 133,x 134,x 135,x 136,x 137,x 138,x 139,x 140,x 141,x 142,x 143,x 144]) {H : AHeap} (hc : H.cells 0 = some c.enc.cells) {R : List AV→AHeap→Prop} (hR : ∀ x : Nat→AV,R [x 0,.ptr 0 0,x 2,.sc (.str (usesOf (k + 1))),x 4,x 5,x 6,x 7,x 8,x 9,x 10,x 11,x 12,x 13,x 14,x 15,x 16,x 17,x 18,x 19,x 20,x 21,x 22,x 23,x 24,x 25,x 26,x 27,x 28,x 29,x 30,x 31,x 32,x 33,x 34,x 35,x 36,x 37,x 38,x 39,x 40,x 41,x 42,x 43,x 44,x 45,x 46,x 47,x 48,x 49,x 50,x 51,x 52,x 53,x 54,x 55,x 56,x 57,x 58,x 59,x 60,x 61,x 62,x 63,x 64,x 65,x 66,x 67,x 68,x 69,x 70,x 71,x 72,x 73,x 74,x 75,x 76,x 77,x 78,x 79,x 80,x 81,x 82,x 83,x 84,x 85,x 86,x 87,x 88,x 89,x 90,x 91,x 92,x 93,x 94,x 95,x 96,x 97,x 98,x 99,x 100,x 101,x 102,x 103,x 104,x 105,x 106,x 107,x 108,x 109,x 110,x 111,x 112,x 113,x 114,x 115,x 116,x 117,x 118,x 119,x 120,x 121,x 122,x 123,x 124,x 125,x 126,x 127,x 128,x 129,x 130,x 131,x 132,x 133,x 134,x 135,x 136,x 137,x 138,x 139,x 140,x 141,x 142,x 143,.sc (.bool (formX k c))] H) : wpIns prog polK g7 t H R:=by
  obtain ⟨x,rfl⟩:=ht
  unfold g7
  rw [wpIns_app]
  refine wpIns_mono ?_ (g7_0_ok c hk _ rfl x H hc)
  rintro t H1 ⟨hH,x,rfl⟩
  rw [hH]
  rw [wpIns_app]
  refine wpIns_mono ?_ (g7_1_ok c hk _ _ rfl x H hc)
  rintro t H1 ⟨hH,x,rfl⟩
  rw [hH]
  rw [wpIns_app]
  refine wpIns_mono ?_ (g7_2_ok c hk _ _ rfl x H hc)
  rintro t H1 ⟨hH,x,rfl⟩
  rw [hH]
  rw [wpIns_app]
  refine wpIns_mono ?_ (g7_3_ok c hk _ _ rfl x H hc)
  rintro t H1 ⟨hH,x,rfl⟩
  rw [hH]
  rw [wpIns_app]
  refine wpIns_mono ?_ (g7_4_ok c hk _ _ rfl x H hc)
  rintro t H1 ⟨hH,x,rfl⟩
  rw [hH]
  rw [wpIns_app]
  refine wpIns_mono ?_ (g7_5_ok c hk _ _ rfl x H hc)
  rintro t H1 ⟨hH,x,rfl⟩
  rw [hH]
  rw [wpIns_app]
  refine wpIns_mono ?_ (g7_6_ok c hk _ _ rfl x H hc)
  rintro t H1 ⟨hH,x,rfl⟩
  rw [hH]
  rw [wpIns_app]
  refine wpIns_mono ?_ (g7_7_ok c hk _ _ rfl x H hc)
  rintro t H1 ⟨hH,x,rfl⟩
  rw [hH]
  rw [wpIns_app]
  refine wpIns_mono ?_ (g7_8_ok c hk _ _ rfl x H hc)
  rintro t H1 ⟨hH,x,rfl⟩
  rw [hH]
  rw [wpIns_app]
  refine wpIns_mono ?_ (g7_9_ok c hk _ _ rfl x H hc)
  rintro t H1 ⟨hH,x,rfl⟩
  rw [hH]
  rw [wpIns_app]
  refine wpIns_mono ?_ (g7_10_ok c hk _ _ rfl x H hc)
  rintro t H1 ⟨hH,x,rfl⟩
  rw [hH]
  refine wpIns_mono ?_ (g7_11_ok c hk _ _ rfl x H hc)
  rintro t H1 ⟨hH,x,rfl⟩
  rw [hH]
  exact hR x
end Go.Hem
namespace Go.Hem
def formE (c : Cmd) : Int :=
  if c.kind < 1 ∨ 27 < c.kind then 11
  else if c.site < 0 ∨ 99 < c.site ∨ c.base < 1 ∨ 1073741824 < c.base then 2
  else if formX (c.kind.toNat - 1) c = true then 3 else 0
theorem form_pv (c : Cmd) : Pv prog polK 7 [c.enc] (.sc (.int .i64 (formE c))):=by
  generalize hr : formE c = r
  unfold formE at hr
  refine Pv_of' (cf:=cf7x) (by rw [← cf7_eq]; exact ok7) (cmd_closed c) ?_
  simp -implicitDefEqProofs (maxDischargeDepth:=12) only [wpF,cf7x,WW,List.replicate,Option.some_or,s_conv,e_conv,s_slc3,e_cut3,e_cut3n,e_bns,e_bnn,e_splice,if_true,if_false,ite_true,ite_false,true_or,ne_eq,seval,h_putc,beq_self_eq_true,eq_self,exists_eq_left,exists_eq_left',c.enc_eq]
  refine wA_pure rfl (in_pv _ _ _) ?_
  by_cases hk : c.kind < 1 ∨ 27 < c.kind
  · rw [if_pos hk] at hr; subst hr
    have e : decide ((1 : Int) ≤ c.kind∧c.kind ≤ 27) = false:=by simp; omega
    simp -implicitDefEqProofs (maxDischargeDepth:=12) only [WW,List.replicate,Option.some_or,s_conv,e_conv,s_slc3,e_cut3,e_cut3n,e_bns,e_bnn,e_splice,if_true,if_false,ite_true,ite_false,true_or,ne_eq,seval,h_putc,beq_self_eq_true,eq_self,exists_eq_left,exists_eq_left',e]
    exact frz_sc
  rw [if_neg hk] at hr
  have e : decide ((1 : Int) ≤ c.kind∧c.kind ≤ 27) = true:=by simp; omega
  simp -implicitDefEqProofs (maxDischargeDepth:=12) only [WW,List.replicate,Option.some_or,s_conv,e_conv,s_slc3,e_cut3,e_cut3n,e_bns,e_bnn,e_splice,if_true,if_false,ite_true,ite_false,true_or,ne_eq,seval,h_putc,beq_self_eq_true,eq_self,exists_eq_left,exists_eq_left',e]
  refine wA_pure rfl (in_pv _ _ _) ?_
  by_cases s1 : c.site < 0 ∨ 99 < c.site
  · rw [if_pos (by omega)] at hr; subst hr
    have e1 : decide ((0 : Int) ≤ c.site∧c.site ≤ 99) = false:=by simp; omega
    simp -implicitDefEqProofs (maxDischargeDepth:=12) only [WW,List.replicate,Option.some_or,s_conv,e_conv,s_slc3,e_cut3,e_cut3n,e_bns,e_bnn,e_splice,if_true,if_false,ite_true,ite_false,true_or,ne_eq,seval,h_putc,beq_self_eq_true,eq_self,exists_eq_left,exists_eq_left',e1]
    exact frz_sc
  have e1 : decide ((0 : Int) ≤ c.site∧c.site ≤ 99) = true:=by simp; omega
  simp -implicitDefEqProofs (maxDischargeDepth:=12) only [WW,List.replicate,Option.some_or,s_conv,e_conv,s_slc3,e_cut3,e_cut3n,e_bns,e_bnn,e_splice,if_true,if_false,ite_true,ite_false,true_or,ne_eq,seval,h_putc,beq_self_eq_true,eq_self,exists_eq_left,exists_eq_left',e1]
  refine wA_pure rfl (in_pv _ _ _) ?_
  by_cases s2 : c.base < 1 ∨ 1073741824 < c.base
  · rw [if_pos (by omega)] at hr; subst hr
    have e2 : decide ((1 : Int) ≤ c.base∧c.base ≤ 1073741824) = false:=by simp; omega
    simp -implicitDefEqProofs (maxDischargeDepth:=12) only [WW,List.replicate,Option.some_or,s_conv,e_conv,s_slc3,e_cut3,e_cut3n,e_bns,e_bnn,e_splice,if_true,if_false,ite_true,ite_false,true_or,ne_eq,seval,h_putc,beq_self_eq_true,eq_self,exists_eq_left,exists_eq_left',e2]
    exact frz_sc
  have e2 : decide ((1 : Int) ≤ c.base∧c.base ≤ 1073741824) = true:=by simp; omega
  simp -implicitDefEqProofs (maxDischargeDepth:=12) only [WW,List.replicate,Option.some_or,s_conv,e_conv,s_slc3,e_cut3,e_cut3n,e_bns,e_bnn,e_splice,if_true,if_false,ite_true,ite_false,true_or,ne_eq,seval,h_putc,beq_self_eq_true,eq_self,exists_eq_left,exists_eq_left',e2]
  rw [if_neg (by omega)] at hr
  obtain ⟨k,hk1,hk2⟩ : ∃ k : Nat,k < 27∧c.kind = ((k + 1 : Nat) : Int):=⟨c.kind.toNat - 1,by omega,by omega⟩
  have hkn : c.kind.toNat - 1 = k:=by omega
  rw [hkn] at hr
  refine wA_pure rfl (by rw [hk2]; exact uses_pv hk1) ?_
  simp -implicitDefEqProofs (maxDischargeDepth:=12) only [WW,List.replicate,Option.some_or,s_conv,e_conv,s_slc3,e_cut3,e_cut3n,e_bns,e_bnn,e_splice,if_true,if_false,ite_true,ite_false,true_or,ne_eq,seval,h_putc,beq_self_eq_true,eq_self,exists_eq_left,exists_eq_left']
  refine g7_ok c hk1 (ex_x rfl) rfl fun x => ?_
  cases z : formX k c with
  | true =>
    rw [z,if_pos rfl] at hr; subst hr
    simp -implicitDefEqProofs (maxDischargeDepth:=12) only [WW,List.replicate,Option.some_or,s_conv,e_conv,s_slc3,e_cut3,e_cut3n,e_bns,e_bnn,e_splice,if_true,if_false,ite_true,ite_false,true_or,ne_eq,seval,h_putc,beq_self_eq_true,eq_self,exists_eq_left,exists_eq_left']
    exact frz_sc
  | false =>
    rw [z,if_neg (by decide)] at hr; subst hr
    simp -implicitDefEqProofs (maxDischargeDepth:=12) only [WW,List.replicate,Option.some_or,s_conv,e_conv,s_slc3,e_cut3,e_cut3n,e_bns,e_bnn,e_splice,if_true,if_false,ite_true,ite_false,true_or,ne_eq,seval,h_putc,beq_self_eq_true,eq_self,exists_eq_left,exists_eq_left']
    exact frz_sc
end Go.Hem
set_option maxRecDepth 100000
namespace Go.Hem
def natOf : List Bool→Nat
  | [] => 0
  | b :: l => b.toNat + 2 * natOf l
theorem natOf_bit : ∀ (l : List Bool) (i : Nat),(natOf l).testBit i = l.getD i false
  | [],i => by simp [natOf]
  | b :: l,0 => by
    rw [natOf,Nat.testBit_zero]
    cases b <;> simp <;> omega
  | b :: l,i + 1 => by
    rw [natOf,Nat.testBit_succ,show (b.toNat + 2 * natOf l) / 2 = natOf l by cases b <;> simp <;> omega,natOf_bit l i]
    rfl
def allL : Nat→List (List Bool)
  | 0 => [[]]
  | n + 1 => (allL n).map (true :: ·) ++ (allL n).map (false :: ·)
theorem mem_allL : ∀ {n : Nat} {l : List Bool},l.length = n→l ∈ allL n
  | 0,[],_ => by simp [allL]
  | n + 1,b :: l,h => by
    have:=mem_allL (l:=l) (n:=n) (by simpa using h)
    cases b <;> simp [allL,this]
theorem acc_all : ((allL 12).all fun l => accN l 0 0 == (natOf l : Int)) = true:=by decide +kernel
theorem acc_eq {l : List Bool} (h : l.length = 12) : accN l 0 0 = (natOf l : Int):=by simpa using List.all_eq_true.1 acc_all l (mem_allL h)
def maskL (k : Nat) : List Bool:=letters.map (hasB (usesOf (k + 1)))
theorem mask_all : ((List.range 27).all fun k => (kRow k).fields == (natOf (maskL k) : Int)) = true:=by decide +kernel
theorem mask_eq {k : Nat} (h : k < 27) : (kRow k).fields = (natOf (maskL k) : Int):=by simpa using List.all_eq_true.1 mask_all k (by simpa using h)
theorem wrap_zero (x : Nat) (h : x < 2 ^ 64) : IntKind.i64.wrap (x : Int) = 0 ↔ x = 0:=by
  rw [IntKind.wrap_i64]; omega
theorem andNot_zero (l m : List Bool) (hl : l.length ≤ 64) : bitsOf .i64 (fun x y => x &&& ~~~y) (natOf l) (natOf m) = 0 ↔ ∀ i,l.getD i false = true→m.getD i false = true:=by
  unfold bitsOf
  show IntKind.i64.wrap (((BitVec.ofInt 64 (natOf l : Int) &&& ~~~BitVec.ofInt 64 (natOf m : Int)).toNat : Nat) : Int) = 0 ↔ _
  rw [wrap_zero _ (BitVec.isLt _),BitVec.ofInt_natCast,BitVec.ofInt_natCast]
  constructor
  · intro h i hi
    have hb : (BitVec.ofNat 64 (natOf l) &&& ~~~BitVec.ofNat 64 (natOf m)) = 0#64:=BitVec.eq_of_toNat_eq (by rw [h]; rfl)
    have hi64 : i < 64:=by
      rcases Nat.lt_or_ge i 64 with q | q
      · exact q
      · rw [List.getD_eq_getElem?_getD,List.getElem?_eq_none (by omega)] at hi; cases hi
    have:=congrArg (fun v => BitVec.getLsbD v i) hb
    simp only [BitVec.getLsbD_and,BitVec.getLsbD_not,BitVec.getLsbD_ofNat,natOf_bit,hi,hi64,decide_true,Bool.true_and] at this
    simpa using this
  · intro h
    have hb : (BitVec.ofNat 64 (natOf l) &&& ~~~BitVec.ofNat 64 (natOf m)) = 0#64:=by
      apply BitVec.eq_of_getLsbD_eq
      intro i hi
      simp only [BitVec.getLsbD_and,BitVec.getLsbD_not,BitVec.getLsbD_ofNat,natOf_bit,hi,decide_true,Bool.true_and]
      cases q : l.getD i false with
      | false => simp
      | true => rw [h i q]; simp
    rw [hb]; rfl
theorem formX_eq {k : Nat} (c : Cmd) : formX k c = (c.flags.zip (maskL k)).any fun p => p.1 && !p.2:=by
  simp only [formX,Cmd.flags,maskL,letters,List.map_cons,List.map_nil,List.zip_cons_cons,List.zip_nil_right,List.any_cons,List.any_nil,Bool.or_assoc,Bool.or_false]
theorem check_form (c : Cmd) : checkE c = formE c:=by
  unfold checkE formE
  by_cases hk : c.kind < 1 ∨ 27 < c.kind
  · rw [if_pos hk,if_pos hk]
  rw [if_neg hk,if_neg hk]
  split
  · rfl
  have hk27 : c.kind.toNat - 1 < 27:=by omega
  generalize c.kind.toNat - 1 = k at hk27 ⊢
  rw [acc_eq (l:=c.flags) rfl,mask_eq hk27]
  have key:=andNot_zero c.flags (maskL k) (by show (12 : Nat) ≤ 64; omega)
  have h12 : (maskL k).length = 12:=rfl
  have hf12 : c.flags.length = 12:=rfl
  by_cases hz : bitsOf .i64 (fun x y => x &&& ~~~y) (natOf c.flags) (natOf (maskL k)) = 0
  · rw [if_pos hz,if_neg]
    rw [formX_eq]
    intro ha
    obtain ⟨p,hp,hq⟩:=List.any_eq_true.1 ha
    obtain ⟨i,hi,rfl⟩:=List.mem_iff_getElem.1 hp
    simp only [List.getElem_zip,Bool.and_eq_true,Bool.not_eq_true'] at hq
    simp only [List.length_zip] at hi
    have:=key.1 hz i (by rw [List.getD_eq_getElem?_getD,List.getElem?_eq_getElem (by omega)]; exact hq.1)
    rw [List.getD_eq_getElem?_getD,List.getElem?_eq_getElem (by omega)] at this
    simp only [Option.getD_some] at this
    rw [this] at hq; cases hq.2
  · rw [if_neg hz,if_pos]
    rw [formX_eq]
    rw [key] at hz
    simp only [Classical.not_forall] at hz
    obtain ⟨i,hi,hm⟩:=hz
    have hi12 : i < 12:=by
      rcases Nat.lt_or_ge i 12 with q | q
      · exact q
      · rw [List.getD_eq_getElem?_getD,List.getElem?_eq_none (by omega)] at hi; cases hi
    rw [List.getD_eq_getElem?_getD,List.getElem?_eq_getElem (by omega)] at hi hm
    refine List.any_eq_true.2 ⟨(c.flags[i]'(by omega),(maskL k)[i]'(by omega)),List.mem_iff_getElem.2 ⟨i,by simp only [List.length_zip]; omega,by simp⟩,?_⟩
    simp only [Option.getD_some] at hi hm
    simp only [hi,Bool.true_and]
    simpa using hm
end Go.Hem
set_option maxRecDepth 10000
namespace Go.Hem
theorem law3_pv (c : Cmd) : Pv prog polK 3 [c.enc] (.sc (.bool true)):=by
  refine Pv_of' ok3 (cmd_closed c) ?_
  simp -implicitDefEqProofs (maxDischargeDepth:=12) only [wpF,cf3,WW,List.replicate,Option.some_or,s_conv,e_conv,s_slc3,e_cut3,e_cut3n,e_bns,e_bnn,e_splice,if_true,if_false,ite_true,ite_false,true_or,ne_eq,seval,h_putc,beq_self_eq_true,eq_self,exists_eq_left,exists_eq_left',c.enc_eq]
  refine wA_pure rfl known_pv ?_
  simp -implicitDefEqProofs (maxDischargeDepth:=12) only [WW,List.replicate,Option.some_or,s_conv,e_conv,s_slc3,e_cut3,e_cut3n,e_bns,e_bnn,e_splice,if_true,if_false,ite_true,ite_false,true_or,ne_eq,seval,h_putc,beq_self_eq_true,eq_self,exists_eq_left,exists_eq_left']
  refine wA_pure rfl (check_pv c) ?_
  simp -implicitDefEqProofs (maxDischargeDepth:=12) only [WW,List.replicate,Option.some_or,s_conv,e_conv,s_slc3,e_cut3,e_cut3n,e_bns,e_bnn,e_splice,if_true,if_false,ite_true,ite_false,true_or,ne_eq,seval,h_putc,beq_self_eq_true,eq_self,exists_eq_left,exists_eq_left']
  refine wA_pure rfl (form_pv c) ?_
  simp -implicitDefEqProofs (maxDischargeDepth:=12) only [WW,List.replicate,Option.some_or,s_conv,e_conv,s_slc3,e_cut3,e_cut3n,e_bns,e_bnn,e_splice,if_true,if_false,ite_true,ite_false,true_or,ne_eq,seval,h_putc,beq_self_eq_true,eq_self,exists_eq_left,exists_eq_left',check_form]
  exact frz_sc
end Go.Hem
