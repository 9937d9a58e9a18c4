/- Walks. -/
import Derived.Test.YtipbkcegnkpcmaaHemCode
import Derived.Test.YtipbkcegnkpcmaaHemFast
import Derived.Test.YtipbkcegnkpcmaaHemData
import Derived.Test.YtipbkcegnkpcmaaHemBun
import Derived.Test.YtipbkcegnkpcmaaHemRange
set_option maxRecDepth 10000
set_option maxHeartbeats 4000000
set_option linter.unusedSimpArgs false
set_option linter.unusedVariables false
namespace Go.Hem
noncomputable abbrev prog : Program:=Go.Proofs.Try.prog
def imp : List Nat:=[74,26,48,49,50,67,14,52,53,29,38,40,43,46,77,28,51,45,70,89,91,69]
def polS : Pol:={ pure:=fun f => !imp.contains f }
variable {pol : Pol}
theorem drop_cons {α : Type} {l : List α} {i : Nat} {y : α} (h : l[i]? = some y) : l.drop i = y :: l.drop (i + 1):=by
  obtain ⟨hi,rfl⟩:=List.getElem?_eq_some_iff.1 h
  exact List.drop_eq_getElem_cons hi
theorem drop_end {α : Type} {l : List α} {i : Nat} (h : ¬ ((i : Int) < (l.length : Int))) : l.drop i = []:=List.drop_of_length_le (by omega)
theorem id_eq {a b : ID} : (decide (a.site = b.site) && decide (a.number = b.number)) = decide (a = b):=by
  cases a; cases b; simp only [ID.mk.injEq,Bool.decide_and]
theorem of_inj {α : Type} {l m : List α} : Sl.of l = Sl.of m ↔ l = m:=by
  constructor
  · intro h; have:=congrArg Sl.l h; rwa [l_of,l_of] at this
  · rintro rfl; rfl
theorem toList_eq {a b : ByteArray} : (a.toList == b.toList) = decide (a = b):=by
  have e : a.toList = b.toList ↔ a = b:=by
    constructor
    · intro h
      rw [ByteArray.toList_eq,ByteArray.toList_eq] at h
      obtain ⟨⟨x⟩⟩:=a
      obtain ⟨⟨y⟩⟩:=b
      simp at h; subst h; rfl
    · rintro rfl; rfl
  by_cases h : a = b
  · rw [decide_eq_true h,h,beq_self_eq_true]
  · rw [decide_eq_false h]
    simp only [beq_eq_false_iff_ne,ne_eq]
    exact fun k => h (e.1 k)
theorem map_ne {α β : Type} {f : α→β} {l m : List α} {i : Nat} {x y : α} (hx : l[i]? = some x) (hy : m[i]? = some y) (h : f x ≠ f y) : l.map f ≠ m.map f:=fun e => by
  have:=congrArg (·[i]?) e
  simp only [List.getElem?_map,hx,hy,Option.map_some,Option.some.injEq] at this
  exact h this
theorem list_ne {α : Type} {l m : List α} {i : Nat} {x y : α} (hx : l[i]? = some x) (hy : m[i]? = some y) (h : x ≠ y) : l ≠ m:=fun e => by
  subst e; rw [hx] at hy; cases hy; exact h rfl
theorem take_step {α : Type} {l m : List α} {i : Nat} {x : α} (hx : l[i]? = some x) (hy : m[i]? = some x) (h : l.take i = m.take i) : l.take (i + 1) = m.take (i + 1):=by
  rw [List.take_add_one,List.take_add_one,hx,hy,h]
theorem map_step {α β : Type} {f : α→β} {l m : List α} {i : Nat} {x y : α} (hx : l[i]? = some x) (hy : m[i]? = some y) (e : f x = f y) (h : (l.take i).map f = (m.take i).map f) : (l.take (i + 1)).map f = (m.take (i + 1)).map f:=by
  rw [List.take_add_one,List.take_add_one,hx,hy,List.map_append,List.map_append,h]; simp [e]
theorem len_of_map {α β : Type} {f : α→β} {l m : List α} (h : l.map f = m.map f) : (l.length : Int) = (m.length : Int):=by
  have:=congrArg List.length h; simp only [List.length_map] at this; omega
theorem map_inj_len {α β : Type} {f : α→β} {l m : List α} (h : l.map f = m.map f) : l.length = m.length:=by
  have:=congrArg List.length h; simpa using this
def Fresh (H0 H' : AHeap) (fp : List Nat) : Prop:=(∀ b ∈ fp,H0.next ≤ b)∧H0.next ≤ H'.next∧Keep H0.next H0 H'
theorem splice_all {z xs : List AV} (h : xs.length = z.length) : splice z 0 xs = xs:=by
  unfold splice; rw [List.take_zero,List.nil_append,List.drop_of_length_le (by omega),List.append_nil]
theorem cl_func {g : FuncId} : AV.closedB (.func (.func g) [] []) = true:=rfl
theorem pvf_own {P : Program} {pol : Pol} {K : AHeap→Prop} {H : AHeap} {Q : AV→AHeap→Prop} {f : FuncId} {args us : List AV} {fp : List Nat} {r : Sc} (hc : AV.closedBs args = false) (h : OwnL (Own 20) H args us fp) (hv : Pv P pol f us (.sc r)) (k : Q (.sc r) H) : PvF P pol K H Q f args:=by
  obtain ⟨H1,a1,a2,a3⟩:=freezeL_own (O:=Own 20) (fun H v u f => freezeV_own) (fun H H' v u f a b => OwnX.frame a b) h
  exact ⟨us,H1,.sc r,hc,a1,hv,.inl ⟨rfl,k⟩⟩
theorem own_imm {α : Type} {f : α→AV} {s : Sl α} {H : AHeap} {d : Nat} (hf : ∀ v,AV.closedB (f v) = true) : Own (d + 1) H (slm f s) (slm f s) []:=by
  cases s with
  | none => exact ⟨rfl,rfl⟩
  | some l => exact ⟨rfl,rfl,rfl,closedBs_map hf⟩
theorem OwnX.up {I : Bool} {H : AHeap} : ∀ {d : Nat} {v u : AV} {fp : List Nat},OwnX I d H v u fp→Own d H v u fp
  | 0,_,_,_,h => h.elim
  | d + 1,v,u,fp,h => by
    cases v <;> simp only [OwnX] at h ⊢
    case sc => exact h
    case imm => exact ⟨trivial,h.2⟩
    case agg cs =>
      obtain ⟨us,h1,h2⟩:=h
      exact ⟨us,h1,h2.le fun _ _ _ a => OwnX.up a⟩
    case slice b off len cap n =>
      rcases h with h | ⟨cs,us,fp',h1,h2,h3,h4,h5,h6,hq,h7,rfl⟩
      · exact .inl ⟨trivial,h.2⟩
      · exact .inr ⟨cs,us,fp',h1,h2,(fun e => by cases e),h4,h5.le fun _ _ _ a => OwnX.up a,h6,hq,h7,rfl⟩
theorem own_closed {d : Nat} {H : AHeap} {cs : List AV} (h : AV.plain2 (.agg cs) = true) : Own (d + 2) H (.agg cs) (.agg cs) []:=⟨cs,rfl,OwnL.plain (by simpa [AV.plain2] using h)⟩
theorem AccX.open {α : Type} {f : α→AV} {I : Bool} {d n : Nat} {H : AHeap} {v : AV} {l : List α} {fp : List Nat} (h : AccX I d n f H v (some l) fp) : AV.closedB v = false:=by
  rcases h with ⟨_,h,_⟩ | ⟨b,cap,cs,rest,fp',l',h1,rfl,_⟩
  · cases h
  · rfl
theorem wA_app3 {α : Type} {f : α→AV} {I : Bool} {d n bytes : Nat} {P : Program} {pol : Pol} {is : List CI} {dst : Option Tmp} {rd : List COp} {R : List AV→AHeap→Prop} {y : AV} {t : List AV} {H0 H : AHeap} {v x : AV} {l : List α} {fp fp1 : List Nat} {ys : List α} {cs1 : List AV}
    (hf : RowOf n f) (h : AccX I d n f H0 v (some l) fp) (hK : Keep H0.next H0 H) (hN : H0.next ≤ H.next) (hm : alen x = some ys.length) (hx : asrc n H x ys.length = some cs1)
    (ho : OwnL (OwnX I d) H cs1 (ys.flatMap fun y => (f y).cells) fp1) (ha : Apart fp fp1) (hb : (2 * (l.length + ys.length) + 1000) * bytes ≤ 2 ^ 47)
    (k : ∀ v' H' fp',AccX I d n f H' v' (some (l ++ ys)) fp'→H0.next ≤ H'.next→(∀ b,b ∉ fp→b < H0.next→H'.cells b = H0.cells b)→(∀ b ∈ fp',b ∈ fp ∨ b ∈ fp1 ∨ H0.next ≤ b)→v'.one = true→v'.cells = [v'] →
      reK P (y :: t) H rd H'∧wpIns P pol is (putT (y :: t) dst v') H' R) :
    wA P pol rd is dst (y :: t) H R (some true) (appTo n bytes H v x):=by
  by_cases hy : ys = []
  · subst hy
    have hl1 : cs1 = []:=List.length_eq_zero_iff.1 (by rw [ho.len]; rfl)
    subst hl1
    have hx' : asrc n H x 0 = some []:=hx
    have hm' : alen x = some 0:=hm
    have hA:=h.keep hK
    have h2:=hA
    rcases h2 with ⟨_,h1,_⟩ | ⟨b,cap,cs,rest,fp',l',h1,rfl,h3,h4,h5,h6,h7,h8,rfl⟩
    · cases h1
    cases h1
    have e : appTo n bytes H (.slice b 0 l.length cap n) x = some (.mem (.slice b 0 l.length cap n) b (cs ++ rest)):=by
      simp only [appTo,hm',hx',Option.bind_some,h4,ne_eq,not_true,if_false,Nat.add_zero,if_pos h3]
      rw [if_pos (by
        have e1 : (cap - l.length) * n = cap * n - l.length * n:=Nat.sub_mul _ _ _
        simp only [List.length_append]; omega)]
      simp [splice]
    have hs : ∀ c,(H.put b (some (.cells (cs ++ rest)))).cells c = H.cells c:=fun c => by
      by_cases hc : c = b
      · subst hc; rw [h_put_self h4,h4]
      · rw [h_put_ne hc]
    have:=k _ (H.put b (some (.cells (cs ++ rest)))) (b :: fp') (by rw [List.append_nil]; exact hA.fr fun c _ => hs c) (by simpa using hN) (fun c _ hc => by rw [hs,hK c hc]) (fun c hc => .inl hc) hA.one hA.cells
    rw [e,wA_mem]
    exact this
  · exact wA_app2 hf h hK hN hy hm hx ho ha hb k
theorem splice_full {z cs : List AV} (h : z.length = cs.length) : splice z 0 cs = cs:=by
  unfold splice
  rw [List.take_zero,List.nil_append,List.drop_of_length_le (by omega),List.append_nil]
theorem nq1 (q : Nat) : (q = q + 1) = False:=by simp
theorem nq2 (q : Nat) : (q = q + 2) = False:=by simp
theorem mq1 (q : Nat) : (q + 1 = q) = False:=by simp
theorem mq2 (q : Nat) : (q + 2 = q) = False:=by simp
theorem mq12 (q : Nat) : (q + 1 = q + 2) = False:=by simp
theorem mq21 (q : Nat) : (q + 2 = q + 1) = False:=by simp
theorem addq (q : Nat) : q + 1 + 1 = q + 2:=rfl
theorem own_sc {I : Bool} {d : Nat} {H : AHeap} {v : AV} {x : Sc} {f : List Nat} (h : OwnX I d H v (.sc x) f) : v = .sc x∧f = []:=by
  cases d with
  | zero => exact h.elim
  | succ d =>
    cases v <;> simp only [OwnX] at h
    case sc => exact ⟨h.1.symm,h.2⟩
    case imm => simp at h
    case agg => obtain ⟨_,e,_⟩:=h; cases e
    case slice => rcases h with ⟨_,_,e,_⟩ | ⟨_,_,_,_,_,_,_,_,_,_,e,_⟩ <;> cases e
theorem own_scs {I : Bool} {d : Nat} {H : AHeap} {vs us : List AV} {fp : List Nat} (h : OwnL (OwnX I d) H vs us fp) : (∀ u ∈ us,∃ x,u = .sc x)→vs = us∧fp = []:=by
  induction h with
  | nil => intro _; exact ⟨rfl,rfl⟩
  | cons h1 h2 h3 ih =>
    rename_i v u vs us f g
    intro k
    obtain ⟨x,rfl⟩:=k u (by simp)
    obtain ⟨rfl,rfl⟩:=own_sc h1
    obtain ⟨rfl,rfl⟩:=ih fun u hu => k u (by simp [hu])
    exact ⟨rfl,rfl⟩
theorem OwnL.cell {O : AHeap→AV→AV→List Nat→Prop} {H : AHeap} {vs us : List AV} {fp : List Nat} (h : OwnL O H vs us fp) : ∀ {j : Nat} {u : AV},us[j]? = some u→∃ v fp',vs[j]? = some v∧O H v u fp'∧∀ b ∈ fp',b ∈ fp:=by
  induction h with
  | nil => intro j u h; simp at h
  | cons h1 h2 h3 ih =>
    rename_i v u vs us f g
    intro j w hj
    cases j with
    | zero => simp at hj; subst hj; exact ⟨v,f,by simp,h1,fun b hb => List.mem_append.2 (.inl hb)⟩
    | succ j =>
      obtain ⟨v',fp',a,b,c⟩:=ih (j:=j) (u:=w) (by simpa using hj)
      exact ⟨v',fp',by simpa using a,b,fun x hx => List.mem_append.2 (.inr (c x hx))⟩
theorem e_mul {k : IntKind} {a b : Int} : bintOf .mul (.sc (.int k a)) (.sc (.int k b)) = some (.sc (.int k (k.wrap (a * b)))):=by simp [bintOf]
theorem e_quo {k : IntKind} {a b : Int} (h : b ≠ 0) : bintOf .quo (.sc (.int k a)) (.sc (.int k b)) = some (.sc (.int k (k.wrap (a.tdiv b)))):=by simp [bintOf,h]
theorem e_rem {k : IntKind} {a b : Int} (h : b ≠ 0) : bintOf .rem (.sc (.int k a)) (.sc (.int k b)) = some (.sc (.int k (a.tmod b))):=by simp [bintOf,h]
theorem Pv_ex {P : Program} {g : FuncId} {cf : CF} (hf : compF P g = some cf) {args : List AV} (hc : AV.closedBs args = true) (h : wpF P pol cf args {} fun v H' => ∃ e : Int,v = .sc (.int .i64 e)) : ∃ e : Int,Pv P pol g args (.sc (.int .i64 e)):=by
  obtain ⟨n,o,H',h1,v,rfl,e,rfl⟩:=wpF_ok hf h
  exact ⟨e,hc,n,_,H',H',h1,freeze_sc,rfl⟩
def ints (l : List Int) : List AV:=l.map fun e => .sc (.int .i64 e)
theorem own_ints {H : AHeap} {b : Nat} {l : List Int} (h : H.cells b = some (ints l)) : Own 20 H (.slice b 0 l.length l.length 1) (.imm (ints l)) [b]:=by
  refine .inr ⟨ints l,ints l,[],h,⟨by decide,Nat.le_refl _⟩,(fun e => by cases e),by simp [ints],?_,by simp,fun _ w hw => ?_,?_,rfl⟩
  · rw [List.drop_zero,List.take_of_length_le (by simp [ints])]
    exact OwnL.plain fun v hv => by
      simp only [ints,List.mem_map] at hv
      obtain ⟨e,_,rfl⟩:=hv; rfl
  · simp only [ints,List.mem_map] at hw
    obtain ⟨e,_,rfl⟩:=hw; rfl
  · have key : ∀ l : List Int,rows 1 l.length (ints l) = ints l:=by
      intro l
      induction l with
      | nil => rfl
      | cons e l ih => simp only [ints,List.map_cons,List.length_cons,rows,if_true,List.headD_cons,List.drop_succ_cons,List.drop_zero,List.cons.injEq,true_and] at ih ⊢; exact ih
    rw [key]
end Go.Hem
namespace Go.Hem
def within (n m : Int) : Int:=if n < 0 ∨ m < n then 2 else 0
theorem within_pv (n m : Int) : Pv prog polS 57 [.sc (.int .i64 n),.sc (.int .i64 m)] (.sc (.int .i64 (within n m))):=by
  refine Pv_of' ok57 (by simp only [AV.closedBs,AV.closedB,Bool.and_self]) ?_
  generalize hr : within n m = r
  unfold within at hr
  by_cases h1 : n < 0
  · rw [if_pos (.inl h1)] at hr; subst hr
    simp -implicitDefEqProofs (maxDischargeDepth:=12) only [wpF,cf57,WW,List.replicate,Option.some_or,s_conv,e_conv,s_slc3,e_cut3,e_cut3n,e_bns,e_bnn,e_splice,if_true,if_false,ite_true,ite_false,true_or,ne_eq,seval,h_putc,beq_self_eq_true,eq_self,exists_eq_left,exists_eq_left',h1]
    exact frz_sc
  · by_cases h2 : m < n
    · rw [if_pos (.inr h2)] at hr; subst hr
      have h2' : n > m:=h2
      simp -implicitDefEqProofs (maxDischargeDepth:=12) only [wpF,cf57,WW,List.replicate,Option.some_or,s_conv,e_conv,s_slc3,e_cut3,e_cut3n,e_bns,e_bnn,e_splice,if_true,if_false,ite_true,ite_false,true_or,ne_eq,seval,h_putc,beq_self_eq_true,eq_self,exists_eq_left,exists_eq_left',h1,h2']
      exact frz_sc
    · rw [if_neg (by rintro (h | h) <;> contradiction)] at hr; subst hr
      have h2' : ¬ n > m:=h2
      simp -implicitDefEqProofs (maxDischargeDepth:=12) only [wpF,cf57,WW,List.replicate,Option.some_or,s_conv,e_conv,s_slc3,e_cut3,e_cut3n,e_bns,e_bnn,e_splice,if_true,if_false,ite_true,ite_false,true_or,ne_eq,seval,h_putc,beq_self_eq_true,eq_self,exists_eq_left,exists_eq_left',h1,h2']
      exact frz_sc
def firstE : List Int→Int
  | [] => 0
  | e :: l => if e = 0 then firstE l else e
def intE (e : Int) : AV:=.sc (.int .i64 e)
theorem first_pv (l : List Int) (hl : l.length < 1000000) : Pv prog polS 56 [slm intE (some l)] (.sc (.int .i64 (firstE l))):=by
  refine Pv_of' ok56 (by simp only [AV.closedBs,closedB_slm (f:=intE) (fun _ => rfl),Bool.and_self]) ?_
  generalize hr : firstE l = r
  simp -implicitDefEqProofs (maxDischargeDepth:=12) only [wpF,cf56,WW,List.replicate,Option.some_or,s_conv,e_conv,s_slc3,e_cut3,e_cut3n,e_bns,e_bnn,e_splice,if_true,if_false,ite_true,ite_false,true_or,ne_eq,seval,h_putc,beq_self_eq_true,eq_self,exists_eq_left,exists_eq_left']
  refine wp_loop (Inv:=fun k t H => ∃ (i : Nat),i + k = l.length∧firstE (l.drop i) = r ∧
    ∃ x : Nat→AV,t = [slm intE (some l),x 1,x 2,x 3,x 4,slm intE (some l),.sc (.int .i64 l.length),.sc (.int .i64 i),x 8,x 9,x 10,x 11,x 12,x 13,x 14]) (k:=l.length) ?_
    ⟨0,by omega,hr,ex_x rfl⟩
  rintro k t H ⟨i,hk,hf,x,rfl⟩
  by_cases c1 : (i : Int) < (l.length : Int)
  · obtain ⟨y,hy⟩ : ∃ y,l[i]? = some y:=⟨_,List.getElem?_eq_getElem (by omega)⟩
    have e2 : IntKind.i64.wrap ((i : Int) + 1) = ((i + 1 : Nat) : Int):=by rw [w64 (by omega) (by omega)]; omega
    rw [drop_cons hy] at hf
    simp only [firstE] at hf
    by_cases c2 : y = 0
    · rw [if_pos c2] at hf
      simp -implicitDefEqProofs (maxDischargeDepth:=12) only [WW,List.replicate,Option.some_or,s_conv,e_conv,s_slc3,e_cut3,e_cut3n,e_bns,e_bnn,e_splice,if_true,if_false,ite_true,ite_false,true_or,ne_eq,seval,h_putc,beq_self_eq_true,eq_self,exists_eq_left,exists_eq_left',c1,hy,intE,c2,e2]
      exact ⟨k - 1,by omega,i + 1,by omega,hf,ex_x rfl⟩
    · rw [if_neg c2] at hf; subst hf
      simp -implicitDefEqProofs (maxDischargeDepth:=12) only [WW,List.replicate,Option.some_or,s_conv,e_conv,s_slc3,e_cut3,e_cut3n,e_bns,e_bnn,e_splice,if_true,if_false,ite_true,ite_false,true_or,ne_eq,seval,h_putc,beq_self_eq_true,eq_self,exists_eq_left,exists_eq_left',c1,hy,intE,c2,e2]
      exact frz_sc
  · rw [drop_end c1] at hf
    simp only [firstE] at hf; subst hf
    simp -implicitDefEqProofs (maxDischargeDepth:=12) only [WW,List.replicate,Option.some_or,s_conv,e_conv,s_slc3,e_cut3,e_cut3n,e_bns,e_bnn,e_splice,if_true,if_false,ite_true,ite_false,true_or,ne_eq,seval,h_putc,beq_self_eq_true,eq_self,exists_eq_left,exists_eq_left',c1]
    exact frz_sc
theorem wA_first {is : List CI} {dst : Option Tmp} {rd : List COp} {R : List AV→AHeap→Prop} {x : AV} {t : List AV} {H : AHeap} {b n : Nat} {l : List Int} (hn : l.length = n) (h : H.cells b = some (ints l)) (hl : l.length < 1000000)
    (k : wpIns prog polS is (putT (x :: t) dst (.sc (.int .i64 (firstE l)))) H R) : wA prog polS rd is dst (x :: t) H R (some true) (some (.call 56 [.slice b 0 n n 1])):=by
  subst hn
  have h2:=first_pv l hl
  refine wA_pvf rfl (pvf_own (fp:=[b] ++ []) rfl (.cons (own_ints h) .nil Apart.nil_right) h2 k)
def semi (s : Int) : Int:=if s = 0 then 0 else if s = 1 then 2 else if s = 2 then 4 else if s = 3 then 5 else if s = 4 then 7 else if s = 5 then 9 else 11
def Pitch.num (p : Pitch) : Int:=12 * (p.octave + 1) + semi p.step + p.alter
def Pitch.inR (p : Pitch) : Prop:=0 ≤ p.step∧p.step ≤ 6∧-2 ≤ p.alter∧p.alter ≤ 2∧-1 ≤ p.octave∧p.octave ≤ 9
def Pitch.ok (p : Pitch) : Prop:=p.inR∧0 ≤ p.num∧p.num ≤ 127
instance (p : Pitch) : Decidable p.inR:=by unfold Pitch.inR; exact inferInstance
instance (p : Pitch) : Decidable p.ok:=by unfold Pitch.ok; exact inferInstance
def semiA : AV:=.agg [.sc (.int .i64 0),.sc (.int .i64 2),.sc (.int .i64 4),.sc (.int .i64 5),.sc (.int .i64 7),.sc (.int .i64 9),.sc (.int .i64 11)]
theorem semis_pv : Pv prog polS 88 [] semiA:=by
  refine Pv_of' ok88 rfl ?_
  simp -implicitDefEqProofs (maxDischargeDepth:=12) only [wpF,cf88,WW,List.replicate,Option.some_or,s_conv,e_conv,s_slc3,e_cut3,e_cut3n,e_bns,e_bnn,e_splice,if_true,if_false,ite_true,ite_false,true_or,ne_eq,seval,h_putc,beq_self_eq_true,eq_self,exists_eq_left,exists_eq_left']
  exact frz_plain rfl rfl
theorem semi_at {s : Int} (h0 : 0 ≤ s) (h1 : s ≤ 6) : arrAt 7 1 semiA s.toNat = some (.sc (.int .i64 (semi s))):=by
  have : s = 0 ∨ s = 1 ∨ s = 2 ∨ s = 3 ∨ s = 4 ∨ s = 5 ∨ s = 6:=by omega
  rcases this with h | h | h | h | h | h | h <;> subst h <;> rfl
theorem semi_le {s : Int} : 0 ≤ semi s∧semi s ≤ 11:=by
  unfold semi; repeat' split
  all_goals omega
theorem num_pv (p : Pitch) (h : p.inR) : Pv prog polS 73 [p.enc] (.sc (.int .i64 p.num)):=by
  refine Pv_of' ok73 (by simp only [AV.closedBs,Pitch.enc_closed,Bool.and_self]) ?_
  obtain ⟨a1,a2,a3,a4,a5,a6⟩:=h
  have hs:=semi_le (s:=p.step)
  have e1 : IntKind.i64.wrap (p.octave + 1) = p.octave + 1:=w64 (by omega) (by omega)
  have e2 : IntKind.i64.wrap (12 * (p.octave + 1)) = 12 * (p.octave + 1):=w64 (by omega) (by omega)
  have e3 : IntKind.i64.wrap (12 * (p.octave + 1) + semi p.step) = 12 * (p.octave + 1) + semi p.step:=w64 (by omega) (by omega)
  have e4 : IntKind.i64.wrap (12 * (p.octave + 1) + semi p.step + p.alter) = 12 * (p.octave + 1) + semi p.step + p.alter:=w64 (by omega) (by omega)
  simp -implicitDefEqProofs (maxDischargeDepth:=12) only [wpF,cf73,WW,List.replicate,Option.some_or,s_conv,e_conv,s_slc3,e_cut3,e_cut3n,e_bns,e_bnn,e_splice,if_true,if_false,ite_true,ite_false,true_or,ne_eq,seval,h_putc,beq_self_eq_true,eq_self,exists_eq_left,exists_eq_left',p.enc_eq,e_mul,e1,e2]
  refine wA_pure rfl semis_pv ?_
  simp -implicitDefEqProofs (maxDischargeDepth:=12) only [WW,List.replicate,Option.some_or,s_conv,e_conv,s_slc3,e_cut3,e_cut3n,e_bns,e_bnn,e_splice,if_true,if_false,ite_true,ite_false,true_or,ne_eq,seval,h_putc,beq_self_eq_true,eq_self,exists_eq_left,exists_eq_left',p.enc_eq,e_mul,e1,e2,asNat,a1,semi_at a1 a2,e3,e4]
  exact frz_sc
theorem pcheck_pv (p : Pitch) : Pv prog polS 72 [p.enc] (.sc (.int .i64 (if p.ok then 0 else 18))):=by
  refine Pv_of' ok72 (by simp only [AV.closedBs,Pitch.enc_closed,Bool.and_self]) ?_
  generalize hr : (if p.ok then (0 : Int) else 18) = r
  have no : ¬ p.ok→r = 18:=fun h => by rw [if_neg h] at hr; exact hr.symm
  by_cases c1 : p.step < 0
  · rw [no fun h => by have:=h.1.1; omega]
    simp -implicitDefEqProofs (maxDischargeDepth:=12) only [wpF,cf72,WW,List.replicate,Option.some_or,s_conv,e_conv,s_slc3,e_cut3,e_cut3n,e_bns,e_bnn,e_splice,if_true,if_false,ite_true,ite_false,true_or,ne_eq,seval,h_putc,beq_self_eq_true,eq_self,exists_eq_left,exists_eq_left',p.enc_eq,c1]
    exact frz_sc
  by_cases c2 : p.step > 6
  · rw [no fun h => by have:=h.1.2.1; omega]
    simp -implicitDefEqProofs (maxDischargeDepth:=12) only [wpF,cf72,WW,List.replicate,Option.some_or,s_conv,e_conv,s_slc3,e_cut3,e_cut3n,e_bns,e_bnn,e_splice,if_true,if_false,ite_true,ite_false,true_or,ne_eq,seval,h_putc,beq_self_eq_true,eq_self,exists_eq_left,exists_eq_left',p.enc_eq,c1,c2]
    exact frz_sc
  by_cases c3 : p.alter < -2
  · rw [no fun h => by have:=h.1.2.2.1; omega]
    simp -implicitDefEqProofs (maxDischargeDepth:=12) only [wpF,cf72,WW,List.replicate,Option.some_or,s_conv,e_conv,s_slc3,e_cut3,e_cut3n,e_bns,e_bnn,e_splice,if_true,if_false,ite_true,ite_false,true_or,ne_eq,seval,h_putc,beq_self_eq_true,eq_self,exists_eq_left,exists_eq_left',p.enc_eq,c1,c2,c3]
    exact frz_sc
  by_cases c4 : p.alter > 2
  · rw [no fun h => by have:=h.1.2.2.2.1; omega]
    simp -implicitDefEqProofs (maxDischargeDepth:=12) only [wpF,cf72,WW,List.replicate,Option.some_or,s_conv,e_conv,s_slc3,e_cut3,e_cut3n,e_bns,e_bnn,e_splice,if_true,if_false,ite_true,ite_false,true_or,ne_eq,seval,h_putc,beq_self_eq_true,eq_self,exists_eq_left,exists_eq_left',p.enc_eq,c1,c2,c3,c4]
    exact frz_sc
  by_cases c5 : p.octave < -1
  · rw [no fun h => by have:=h.1.2.2.2.2.1; omega]
    simp -implicitDefEqProofs (maxDischargeDepth:=12) only [wpF,cf72,WW,List.replicate,Option.some_or,s_conv,e_conv,s_slc3,e_cut3,e_cut3n,e_bns,e_bnn,e_splice,if_true,if_false,ite_true,ite_false,true_or,ne_eq,seval,h_putc,beq_self_eq_true,eq_self,exists_eq_left,exists_eq_left',p.enc_eq,c1,c2,c3,c4,c5]
    exact frz_sc
  by_cases c6 : p.octave > 9
  · rw [no fun h => by have:=h.1.2.2.2.2.2; omega]
    simp -implicitDefEqProofs (maxDischargeDepth:=12) only [wpF,cf72,WW,List.replicate,Option.some_or,s_conv,e_conv,s_slc3,e_cut3,e_cut3n,e_bns,e_bnn,e_splice,if_true,if_false,ite_true,ite_false,true_or,ne_eq,seval,h_putc,beq_self_eq_true,eq_self,exists_eq_left,exists_eq_left',p.enc_eq,c1,c2,c3,c4,c5,c6]
    exact frz_sc
  have hin : p.inR:=⟨by omega,by omega,by omega,by omega,by omega,by omega⟩
  simp -implicitDefEqProofs (maxDischargeDepth:=12) only [wpF,cf72,WW,List.replicate,Option.some_or,s_conv,e_conv,s_slc3,e_cut3,e_cut3n,e_bns,e_bnn,e_splice,if_true,if_false,ite_true,ite_false,true_or,ne_eq,seval,h_putc,beq_self_eq_true,eq_self,exists_eq_left,exists_eq_left',p.enc_eq,c1,c2,c3,c4,c5,c6]
  refine wA_pure rfl (num_pv p hin) ?_
  by_cases d1 : p.num < 0
  · rw [no fun h => by have:=h.2.1; omega]
    simp -implicitDefEqProofs (maxDischargeDepth:=12) only [WW,List.replicate,Option.some_or,s_conv,e_conv,s_slc3,e_cut3,e_cut3n,e_bns,e_bnn,e_splice,if_true,if_false,ite_true,ite_false,true_or,ne_eq,seval,h_putc,beq_self_eq_true,eq_self,exists_eq_left,exists_eq_left',d1]
    exact frz_sc
  by_cases d2 : p.num > 127
  · rw [no fun h => by have:=h.2.2; omega]
    simp -implicitDefEqProofs (maxDischargeDepth:=12) only [WW,List.replicate,Option.some_or,s_conv,e_conv,s_slc3,e_cut3,e_cut3n,e_bns,e_bnn,e_splice,if_true,if_false,ite_true,ite_false,true_or,ne_eq,seval,h_putc,beq_self_eq_true,eq_self,exists_eq_left,exists_eq_left',d1,d2]
    exact frz_sc
  rw [if_pos ⟨hin,by omega,by omega⟩] at hr; subst hr
  simp -implicitDefEqProofs (maxDischargeDepth:=12) only [WW,List.replicate,Option.some_or,s_conv,e_conv,s_slc3,e_cut3,e_cut3n,e_bns,e_bnn,e_splice,if_true,if_false,ite_true,ite_false,true_or,ne_eq,seval,h_putc,beq_self_eq_true,eq_self,exists_eq_left,exists_eq_left',d1,d2]
  exact frz_sc
def tup2 (a b : Int) : AV:=.tup [.sc (.int .i64 a),.sc (.int .i64 b)]
theorem number_pv (p : Pitch) : Pv prog polS 47 [p.enc] (tup2 (if p.ok then p.num else 0) (if p.ok then 0 else 18)):=by
  refine Pv_of' ok47 (by simp only [AV.closedBs,Pitch.enc_closed,Bool.and_self]) ?_
  have hc:=pcheck_pv p
  by_cases h : p.ok
  · simp only [if_pos h] at hc ⊢
    simp -implicitDefEqProofs (maxDischargeDepth:=12) only [wpF,cf47,WW,List.replicate,Option.some_or,s_conv,e_conv,s_slc3,e_cut3,e_cut3n,e_bns,e_bnn,e_splice,if_true,if_false,ite_true,ite_false,true_or,ne_eq,seval,h_putc,beq_self_eq_true,eq_self,exists_eq_left,exists_eq_left',p.enc_eq]
    refine wA_pure rfl hc ?_
    simp -implicitDefEqProofs (maxDischargeDepth:=12) only [WW,List.replicate,Option.some_or,s_conv,e_conv,s_slc3,e_cut3,e_cut3n,e_bns,e_bnn,e_splice,if_true,if_false,ite_true,ite_false,true_or,ne_eq,seval,h_putc,beq_self_eq_true,eq_self,exists_eq_left,exists_eq_left',p.enc_eq]
    refine wA_pure rfl (num_pv p h.1) ?_
    simp -implicitDefEqProofs (maxDischargeDepth:=12) only [WW,List.replicate,Option.some_or,s_conv,e_conv,s_slc3,e_cut3,e_cut3n,e_bns,e_bnn,e_splice,if_true,if_false,ite_true,ite_false,true_or,ne_eq,seval,h_putc,beq_self_eq_true,eq_self,exists_eq_left,exists_eq_left',p.enc_eq]
    exact frz_plain rfl rfl
  · simp only [if_neg h] at hc ⊢
    simp -implicitDefEqProofs (maxDischargeDepth:=12) only [wpF,cf47,WW,List.replicate,Option.some_or,s_conv,e_conv,s_slc3,e_cut3,e_cut3n,e_bns,e_bnn,e_splice,if_true,if_false,ite_true,ite_false,true_or,ne_eq,seval,h_putc,beq_self_eq_true,eq_self,exists_eq_left,exists_eq_left',p.enc_eq]
    refine wA_pure rfl hc ?_
    simp -implicitDefEqProofs (maxDischargeDepth:=12) only [WW,List.replicate,Option.some_or,s_conv,e_conv,s_slc3,e_cut3,e_cut3n,e_bns,e_bnn,e_splice,if_true,if_false,ite_true,ite_false,true_or,ne_eq,seval,h_putc,beq_self_eq_true,eq_self,exists_eq_left,exists_eq_left',p.enc_eq]
    exact frz_plain rfl rfl
theorem enumber_pv (p : Pitch) : Pv prog polS 83 [p.enc] (tup2 (if p.ok then p.num else 0) (if p.ok then 0 else 18)):=by
  refine Pv_of' ok83 (by simp only [AV.closedBs,Pitch.enc_closed,Bool.and_self]) ?_
  have hc:=number_pv p
  by_cases h : p.ok
  · simp only [if_pos h] at hc ⊢
    have d1 : ¬ p.num < 0:=by have:=h.2.1; omega
    have d2 : ¬ p.num > 127:=by have:=h.2.2; omega
    simp -implicitDefEqProofs (maxDischargeDepth:=12) only [wpF,cf83,WW,List.replicate,Option.some_or,s_conv,e_conv,s_slc3,e_cut3,e_cut3n,e_bns,e_bnn,e_splice,if_true,if_false,ite_true,ite_false,true_or,ne_eq,seval,h_putc,beq_self_eq_true,eq_self,exists_eq_left,exists_eq_left',p.enc_eq]
    refine wA_pure rfl hc ?_
    simp -implicitDefEqProofs (maxDischargeDepth:=12) only [WW,List.replicate,Option.some_or,s_conv,e_conv,s_slc3,e_cut3,e_cut3n,e_bns,e_bnn,e_splice,if_true,if_false,ite_true,ite_false,true_or,ne_eq,seval,h_putc,beq_self_eq_true,eq_self,exists_eq_left,exists_eq_left',tup2,d1,d2]
    exact frz_plain rfl rfl
  · simp only [if_neg h] at hc ⊢
    simp -implicitDefEqProofs (maxDischargeDepth:=12) only [wpF,cf83,WW,List.replicate,Option.some_or,s_conv,e_conv,s_slc3,e_cut3,e_cut3n,e_bns,e_bnn,e_splice,if_true,if_false,ite_true,ite_false,true_or,ne_eq,seval,h_putc,beq_self_eq_true,eq_self,exists_eq_left,exists_eq_left',p.enc_eq]
    refine wA_pure rfl hc ?_
    simp -implicitDefEqProofs (maxDischargeDepth:=12) only [WW,List.replicate,Option.some_or,s_conv,e_conv,s_slc3,e_cut3,e_cut3n,e_bns,e_bnn,e_splice,if_true,if_false,ite_true,ite_false,true_or,ne_eq,seval,h_putc,beq_self_eq_true,eq_self,exists_eq_left,exists_eq_left',tup2]
    exact frz_plain rfl rfl
end Go.Hem
namespace Go.Hem
def wellE (h : Head) : Int:=firstE [if h.pitch.ok then 0 else 18,within h.shown 2]
theorem well_pv (h : Head) : Pv prog polS 82 [h.enc] (.sc (.int .i64 (wellE h))):=by
  refine Pv_of' ok82 (by simp only [AV.closedBs,Head.enc_closed,Bool.and_self]) ?_
  simp -implicitDefEqProofs (maxDischargeDepth:=12) only [wpF,cf82,WW,List.replicate,Option.some_or,s_conv,e_conv,s_slc3,e_cut3,e_cut3n,e_bns,e_bnn,e_splice,if_true,if_false,ite_true,ite_false,true_or,ne_eq,seval,h_putc,beq_self_eq_true,eq_self,exists_eq_left,exists_eq_left',h.enc_eq]
  refine wA_pure rfl (enumber_pv h.pitch) ?_
  simp -implicitDefEqProofs (maxDischargeDepth:=12) only [WW,List.replicate,Option.some_or,s_conv,e_conv,s_slc3,e_cut3,e_cut3n,e_bns,e_bnn,e_splice,if_true,if_false,ite_true,ite_false,true_or,ne_eq,seval,h_putc,beq_self_eq_true,eq_self,exists_eq_left,exists_eq_left',tup2]
  refine wA_pure rfl (within_pv _ _) ?_
  simp -implicitDefEqProofs (maxDischargeDepth:=12) only [WW,List.replicate,Option.some_or,s_conv,e_conv,s_slc3,e_cut3,e_cut3n,e_bns,e_bnn,e_splice,if_true,if_false,ite_true,ite_false,true_or,ne_eq,seval,h_putc,beq_self_eq_true,eq_self,exists_eq_left,exists_eq_left']
  refine wA_first (l:=[if h.pitch.ok then 0 else 18,within h.shown 2]) rfl ?_ (by simp) ?_
  · simp -implicitDefEqProofs (maxDischargeDepth:=12) only [WW,List.replicate,Option.some_or,s_conv,e_conv,s_slc3,e_cut3,e_cut3n,e_bns,e_bnn,e_splice,if_true,if_false,ite_true,ite_false,true_or,ne_eq,seval,h_putc,beq_self_eq_true,eq_self,exists_eq_left,exists_eq_left']; rfl
  simp -implicitDefEqProofs (maxDischargeDepth:=12) only [WW,List.replicate,Option.some_or,s_conv,e_conv,s_slc3,e_cut3,e_cut3n,e_bns,e_bnn,e_splice,if_true,if_false,ite_true,ite_false,true_or,ne_eq,seval,h_putc,beq_self_eq_true,eq_self,exists_eq_left,exists_eq_left']
  exact frz_sc
theorem wellE_ok {h : Head} (k : wellE h = 0) : h.pitch.ok∧0 ≤ h.shown∧h.shown ≤ 2:=by
  unfold wellE firstE firstE firstE within at k
  by_cases h1 : h.pitch.ok
  · refine ⟨h1,?_⟩
    rw [if_pos h1,if_pos rfl] at k
    by_cases h2 : h.shown < 0 ∨ 2 < h.shown
    · rw [if_pos h2] at k; simp at k
    · omega
  · rw [if_neg h1] at k; simp at k
def headsL : Int→List Head→Int
  | _,[] => 0
  | last,h :: t => if wellE h ≠ 0 then wellE h else if h.pitch.num ≤ last then 25 else headsL h.pitch.num t
def headsE (l : List Head) : Int:=if l.length = 0 then 4 else if 10 < l.length then 9 else headsL (-1) l
theorem heads_pv (s : Sl Head) (hs : s.l.length < 1000000) : Pv prog polS 62 [slm Head.enc s] (.sc (.int .i64 (headsE s.l))):=by
  refine Pv_of' ok62 (by simp only [AV.closedBs,closedB_slm Head.enc_closed,Bool.and_self]) ?_
  generalize hr : headsE s.l = r
  unfold headsE at hr
  by_cases h1 : s.l.length = 0
  · rw [if_pos h1] at hr; subst hr
    have h1' : (s.l.length : Int) = 0:=by omega
    simp -implicitDefEqProofs (maxDischargeDepth:=12) only [wpF,cf62,WW,List.replicate,Option.some_or,s_conv,e_conv,s_slc3,e_cut3,e_cut3n,e_bns,e_bnn,e_splice,if_true,if_false,ite_true,ite_false,true_or,ne_eq,seval,h_putc,beq_self_eq_true,eq_self,exists_eq_left,exists_eq_left',h1']
    exact frz_sc
  rw [if_neg h1] at hr
  have h1' : ¬ (s.l.length : Int) = 0:=by omega
  by_cases h2 : 10 < s.l.length
  · rw [if_pos h2] at hr; subst hr
    have h2' : (10 : Int) < (s.l.length : Int):=by omega
    simp -implicitDefEqProofs (maxDischargeDepth:=12) only [wpF,cf62,WW,List.replicate,Option.some_or,s_conv,e_conv,s_slc3,e_cut3,e_cut3n,e_bns,e_bnn,e_splice,if_true,if_false,ite_true,ite_false,true_or,ne_eq,seval,h_putc,beq_self_eq_true,eq_self,exists_eq_left,exists_eq_left',h1',h2']
    exact frz_sc
  rw [if_neg h2] at hr
  have h2' : ¬ (10 : Int) < (s.l.length : Int):=by omega
  simp -implicitDefEqProofs (maxDischargeDepth:=12) only [wpF,cf62,WW,List.replicate,Option.some_or,s_conv,e_conv,s_slc3,e_cut3,e_cut3n,e_bns,e_bnn,e_splice,if_true,if_false,ite_true,ite_false,true_or,ne_eq,seval,h_putc,beq_self_eq_true,eq_self,exists_eq_left,exists_eq_left',h1',h2']
  refine wp_loop (Inv:=fun k t H => ∃ (i : Nat) (last : Int),i + k = s.l.length∧headsL last (s.l.drop i) = r ∧
    ∃ x : Nat→AV,t = [slm Head.enc s,x 1,x 2,.sc (.int .i64 last),x 4,x 5,x 6,x 7,x 8,x 9,x 10,x 11,x 12,x 13,x 14,x 15,x 16,slm Head.enc s,.sc (.int .i64 s.l.length),.sc (.int .i64 i),x 20,x 21,x 22,x 23,x 24,x 25,x 26,x 27,x 28,x 29,x 30,x 31,x 32,x 33,x 34,x 35,x 36,x 37,x 38]) (k:=s.l.length) ?_
    ⟨0,-1,by omega,hr,ex_x rfl⟩
  rintro k t H ⟨i,last,hk,hf,x,rfl⟩
  by_cases c1 : (i : Int) < (s.l.length : Int)
  · obtain ⟨y,hy⟩ : ∃ y,s.l[i]? = some y:=⟨_,List.getElem?_eq_getElem (by omega)⟩
    have e2 : IntKind.i64.wrap ((i : Int) + 1) = ((i + 1 : Nat) : Int):=by rw [w64 (by omega) (by omega)]; omega
    rw [drop_cons hy] at hf
    simp only [headsL] at hf
    simp -implicitDefEqProofs (maxDischargeDepth:=12) only [WW,List.replicate,Option.some_or,s_conv,e_conv,s_slc3,e_cut3,e_cut3n,e_bns,e_bnn,e_splice,if_true,if_false,ite_true,ite_false,true_or,ne_eq,seval,h_putc,beq_self_eq_true,eq_self,exists_eq_left,exists_eq_left',c1,hy,y.enc_eq]
    rw [← y.enc_eq]
    refine wA_pure rfl (well_pv y) ?_
    by_cases c2 : wellE y = 0
    · rw [if_neg (by simpa using c2)] at hf
      simp -implicitDefEqProofs (maxDischargeDepth:=12) only [WW,List.replicate,Option.some_or,s_conv,e_conv,s_slc3,e_cut3,e_cut3n,e_bns,e_bnn,e_splice,if_true,if_false,ite_true,ite_false,true_or,ne_eq,seval,h_putc,beq_self_eq_true,eq_self,exists_eq_left,exists_eq_left',c2,y.enc_eq]
      refine wA_pure rfl (enumber_pv y.pitch) ?_
      simp only [if_pos (wellE_ok c2).1]
      by_cases c3 : y.pitch.num ≤ last
      · rw [if_pos c3] at hf; subst hf
        simp -implicitDefEqProofs (maxDischargeDepth:=12) only [WW,List.replicate,Option.some_or,s_conv,e_conv,s_slc3,e_cut3,e_cut3n,e_bns,e_bnn,e_splice,if_true,if_false,ite_true,ite_false,true_or,ne_eq,seval,h_putc,beq_self_eq_true,eq_self,exists_eq_left,exists_eq_left',tup2,c3]
        exact frz_sc
      · rw [if_neg c3] at hf
        simp -implicitDefEqProofs (maxDischargeDepth:=12) only [WW,List.replicate,Option.some_or,s_conv,e_conv,s_slc3,e_cut3,e_cut3n,e_bns,e_bnn,e_splice,if_true,if_false,ite_true,ite_false,true_or,ne_eq,seval,h_putc,beq_self_eq_true,eq_self,exists_eq_left,exists_eq_left',tup2,c3,e2]
        exact ⟨k - 1,by omega,i + 1,y.pitch.num,by omega,hf,ex_x rfl⟩
    · rw [if_pos c2] at hf; subst hf
      simp -implicitDefEqProofs (maxDischargeDepth:=12) only [WW,List.replicate,Option.some_or,s_conv,e_conv,s_slc3,e_cut3,e_cut3n,e_bns,e_bnn,e_splice,if_true,if_false,ite_true,ite_false,true_or,ne_eq,seval,h_putc,beq_self_eq_true,eq_self,exists_eq_left,exists_eq_left',c2]
      exact frz_sc
  · rw [drop_end c1] at hf
    simp only [headsL] at hf; subst hf
    simp -implicitDefEqProofs (maxDischargeDepth:=12) only [WW,List.replicate,Option.some_or,s_conv,e_conv,s_slc3,e_cut3,e_cut3n,e_bns,e_bnn,e_splice,if_true,if_false,ite_true,ite_false,true_or,ne_eq,seval,h_putc,beq_self_eq_true,eq_self,exists_eq_left,exists_eq_left',c1]
    exact frz_sc
def gracesL : List Grace→Int
  | [] => 0
  | g :: t => if ¬ g.pitch.ok then 18 else if g.log < 1 ∨ 6 < g.log then 2 else gracesL t
def gracesE (l : List Grace) : Int:=if 8 < l.length then 9 else gracesL l
theorem graces_pv (s : Sl Grace) (hs : s.l.length < 1000000) : Pv prog polS 63 [slm Grace.enc s] (.sc (.int .i64 (gracesE s.l))):=by
  refine Pv_of' ok63 (by simp only [AV.closedBs,closedB_slm Grace.enc_closed,Bool.and_self]) ?_
  generalize hr : gracesE s.l = r
  unfold gracesE at hr
  by_cases h2 : 8 < s.l.length
  · rw [if_pos h2] at hr; subst hr
    have h2' : (8 : Int) < (s.l.length : Int):=by omega
    simp -implicitDefEqProofs (maxDischargeDepth:=12) only [wpF,cf63,WW,List.replicate,Option.some_or,s_conv,e_conv,s_slc3,e_cut3,e_cut3n,e_bns,e_bnn,e_splice,if_true,if_false,ite_true,ite_false,true_or,ne_eq,seval,h_putc,beq_self_eq_true,eq_self,exists_eq_left,exists_eq_left',h2']
    exact frz_sc
  rw [if_neg h2] at hr
  have h2' : ¬ (8 : Int) < (s.l.length : Int):=by omega
  simp -implicitDefEqProofs (maxDischargeDepth:=12) only [wpF,cf63,WW,List.replicate,Option.some_or,s_conv,e_conv,s_slc3,e_cut3,e_cut3n,e_bns,e_bnn,e_splice,if_true,if_false,ite_true,ite_false,true_or,ne_eq,seval,h_putc,beq_self_eq_true,eq_self,exists_eq_left,exists_eq_left',h2']
  refine wp_loop (Inv:=fun k t H => ∃ (i : Nat),i + k = s.l.length∧gracesL (s.l.drop i) = r ∧
    ∃ x : Nat→AV,t = [slm Grace.enc s,x 1,x 2,x 3,x 4,x 5,x 6,x 7,x 8,x 9,slm Grace.enc s,.sc (.int .i64 s.l.length),.sc (.int .i64 i),x 13,x 14,x 15,x 16,x 17,x 18,x 19,x 20,x 21,x 22,x 23,x 24,x 25,x 26,x 27,x 28,x 29,x 30,x 31,x 32,x 33]) (k:=s.l.length) ?_
    ⟨0,by omega,hr,ex_x rfl⟩
  rintro k t H ⟨i,hk,hf,x,rfl⟩
  by_cases c1 : (i : Int) < (s.l.length : Int)
  · obtain ⟨y,hy⟩ : ∃ y,s.l[i]? = some y:=⟨_,List.getElem?_eq_getElem (by omega)⟩
    have e2 : IntKind.i64.wrap ((i : Int) + 1) = ((i + 1 : Nat) : Int):=by rw [w64 (by omega) (by omega)]; omega
    rw [drop_cons hy] at hf
    simp only [gracesL] at hf
    have hn:=enumber_pv y.pitch
    simp -implicitDefEqProofs (maxDischargeDepth:=12) only [WW,List.replicate,Option.some_or,s_conv,e_conv,s_slc3,e_cut3,e_cut3n,e_bns,e_bnn,e_splice,if_true,if_false,ite_true,ite_false,true_or,ne_eq,seval,h_putc,beq_self_eq_true,eq_self,exists_eq_left,exists_eq_left',c1,hy,y.enc_eq]
    refine wA_pure rfl hn ?_
    by_cases c2 : y.pitch.ok
    · simp only [if_pos c2]
      rw [if_neg (by simpa using c2)] at hf
      by_cases c3 : y.log < 1
      · rw [if_pos (.inl c3)] at hf; subst hf
        simp -implicitDefEqProofs (maxDischargeDepth:=12) only [WW,List.replicate,Option.some_or,s_conv,e_conv,s_slc3,e_cut3,e_cut3n,e_bns,e_bnn,e_splice,if_true,if_false,ite_true,ite_false,true_or,ne_eq,seval,h_putc,beq_self_eq_true,eq_self,exists_eq_left,exists_eq_left',tup2,c3]
        exact frz_sc
      by_cases c4 : 6 < y.log
      · rw [if_pos (.inr c4)] at hf; subst hf
        simp -implicitDefEqProofs (maxDischargeDepth:=12) only [WW,List.replicate,Option.some_or,s_conv,e_conv,s_slc3,e_cut3,e_cut3n,e_bns,e_bnn,e_splice,if_true,if_false,ite_true,ite_false,true_or,ne_eq,seval,h_putc,beq_self_eq_true,eq_self,exists_eq_left,exists_eq_left',tup2,c3,c4]
        exact frz_sc
      rw [if_neg (by omega)] at hf
      simp -implicitDefEqProofs (maxDischargeDepth:=12) only [WW,List.replicate,Option.some_or,s_conv,e_conv,s_slc3,e_cut3,e_cut3n,e_bns,e_bnn,e_splice,if_true,if_false,ite_true,ite_false,true_or,ne_eq,seval,h_putc,beq_self_eq_true,eq_self,exists_eq_left,exists_eq_left',tup2,c3,c4,e2]
      exact ⟨k - 1,by omega,i + 1,by omega,hf,ex_x rfl⟩
    · simp only [if_neg c2]
      rw [if_pos (by simpa using c2)] at hf; subst hf
      simp -implicitDefEqProofs (maxDischargeDepth:=12) only [WW,List.replicate,Option.some_or,s_conv,e_conv,s_slc3,e_cut3,e_cut3n,e_bns,e_bnn,e_splice,if_true,if_false,ite_true,ite_false,true_or,ne_eq,seval,h_putc,beq_self_eq_true,eq_self,exists_eq_left,exists_eq_left',tup2]
      exact frz_sc
  · rw [drop_end c1] at hf
    simp only [gracesL] at hf; subst hf
    simp -implicitDefEqProofs (maxDischargeDepth:=12) only [WW,List.replicate,Option.some_or,s_conv,e_conv,s_slc3,e_cut3,e_cut3n,e_bns,e_bnn,e_splice,if_true,if_false,ite_true,ite_false,true_or,ne_eq,seval,h_putc,beq_self_eq_true,eq_self,exists_eq_left,exists_eq_left',c1]
    exact frz_sc
theorem syl_pv (s : Syllable) (hs : s.text.size < 1000000) : ∃ e : Int,Pv prog polS 84 [s.enc] (.sc (.int .i64 e)):=by
  refine Pv_ex ok84 (by simp only [AV.closedBs,Syllable.enc_closed,Bool.and_self]) ?_
  by_cases c1 : s.link < 0
  · simp -implicitDefEqProofs (maxDischargeDepth:=12) only [wpF,cf84,WW,List.replicate,Option.some_or,s_conv,e_conv,s_slc3,e_cut3,e_cut3n,e_bns,e_bnn,e_splice,if_true,if_false,ite_true,ite_false,true_or,ne_eq,seval,h_putc,beq_self_eq_true,eq_self,exists_eq_left,exists_eq_left',s.enc_eq,c1]
    exact ⟨_,rfl⟩
  by_cases c2 : 2 < s.link
  · simp -implicitDefEqProofs (maxDischargeDepth:=12) only [wpF,cf84,WW,List.replicate,Option.some_or,s_conv,e_conv,s_slc3,e_cut3,e_cut3n,e_bns,e_bnn,e_splice,if_true,if_false,ite_true,ite_false,true_or,ne_eq,seval,h_putc,beq_self_eq_true,eq_self,exists_eq_left,exists_eq_left',s.enc_eq,c1,c2]
    exact ⟨_,rfl⟩
  by_cases c3 : (256 : Int) < s.text.size
  · simp -implicitDefEqProofs (maxDischargeDepth:=12) only [wpF,cf84,WW,List.replicate,Option.some_or,s_conv,e_conv,s_slc3,e_cut3,e_cut3n,e_bns,e_bnn,e_splice,if_true,if_false,ite_true,ite_false,true_or,ne_eq,seval,h_putc,beq_self_eq_true,eq_self,exists_eq_left,exists_eq_left',s.enc_eq,c1,c2,c3]
    exact ⟨_,rfl⟩
  simp -implicitDefEqProofs (maxDischargeDepth:=12) only [wpF,cf84,WW,List.replicate,Option.some_or,s_conv,e_conv,s_slc3,e_cut3,e_cut3n,e_bns,e_bnn,e_splice,if_true,if_false,ite_true,ite_false,true_or,ne_eq,seval,h_putc,beq_self_eq_true,eq_self,exists_eq_left,exists_eq_left',s.enc_eq,c1,c2,c3]
  refine wp_loop (Inv:=fun k t H => ∃ (i : Nat),i + k = s.text.size∧H.cells 0 = some s.enc.cells ∧
    ∃ x : Nat→AV,t = [s.enc,.ptr 0 0,x 2,x 3,x 4,x 5,x 6,x 7,x 8,x 9,x 10,x 11,x 12,x 13,x 14,x 15,x 16,x 17,x 18,x 19,.sc (.int .i64 s.text.size),.sc (.int .i64 i),x 22,x 23,x 24,x 25,x 26,x 27,x 28,x 29,x 30,x 31,x 32,x 33,x 34,x 35,x 36,x 37,x 38,x 39,x 40,x 41,x 42,x 43,x 44]) (k:=s.text.size) ?_
    ⟨0,by omega,?_,ex_x rfl⟩
  rotate_left
  · simp -implicitDefEqProofs (maxDischargeDepth:=12) only [WW,List.replicate,Option.some_or,s_conv,e_conv,s_slc3,e_cut3,e_cut3n,e_bns,e_bnn,e_splice,if_true,if_false,ite_true,ite_false,true_or,ne_eq,seval,h_putc,beq_self_eq_true,eq_self,exists_eq_left,exists_eq_left']; rfl
  rintro k t H ⟨i,hk,hH,x,rfl⟩
  simp only [s.enc_eq,c_agg] at hH
  by_cases d1 : (i : Int) < (s.text.size : Int)
  · have e2 : IntKind.i64.wrap ((i : Int) + 1) = ((i + 1 : Nat) : Int):=by rw [w64 (by omega) (by omega)]; omega
    have hlt : i < s.text.size:=by omega
    have hb : s.text[i]? = some s.text[i]:=getElem?_pos s.text i hlt
    generalize s.text[i] = b at hb
    by_cases d2 : ((b.toNat : Nat) : Int) < 32
    · simp -implicitDefEqProofs (maxDischargeDepth:=12) only [WW,List.replicate,Option.some_or,s_conv,e_conv,s_slc3,e_cut3,e_cut3n,e_bns,e_bnn,e_splice,if_true,if_false,ite_true,ite_false,true_or,ne_eq,seval,h_putc,beq_self_eq_true,eq_self,exists_eq_left,exists_eq_left',hH,d1,e_strAt,hb,d2]
      exact ⟨_,rfl⟩
    by_cases d3 : ((b.toNat : Nat) : Int) = 127
    · simp -implicitDefEqProofs (maxDischargeDepth:=12) only [WW,List.replicate,Option.some_or,s_conv,e_conv,s_slc3,e_cut3,e_cut3n,e_bns,e_bnn,e_splice,if_true,if_false,ite_true,ite_false,true_or,ne_eq,seval,h_putc,beq_self_eq_true,eq_self,exists_eq_left,exists_eq_left',hH,d1,e_strAt,hb,d2,d3]
      exact ⟨_,rfl⟩
    simp -implicitDefEqProofs (maxDischargeDepth:=12) only [WW,List.replicate,Option.some_or,s_conv,e_conv,s_slc3,e_cut3,e_cut3n,e_bns,e_bnn,e_splice,if_true,if_false,ite_true,ite_false,true_or,ne_eq,seval,h_putc,beq_self_eq_true,eq_self,exists_eq_left,exists_eq_left',hH,d1,e_strAt,hb,d2,d3,e2]
    exact ⟨k - 1,by omega,i + 1,by omega,rfl,ex_x rfl⟩
  · cases hB : (s.text.toList == (⟨#[]⟩ : ByteArray).toList) with
    | true =>
      by_cases d3 : s.link = 1
      · simp -implicitDefEqProofs (maxDischargeDepth:=12) only [WW,List.replicate,Option.some_or,s_conv,e_conv,s_slc3,e_cut3,e_cut3n,e_bns,e_bnn,e_splice,if_true,if_false,ite_true,ite_false,true_or,ne_eq,seval,h_putc,beq_self_eq_true,eq_self,exists_eq_left,exists_eq_left',hH,d1,hB,d3]
        exact ⟨_,rfl⟩
      · simp -implicitDefEqProofs (maxDischargeDepth:=12) only [WW,List.replicate,Option.some_or,s_conv,e_conv,s_slc3,e_cut3,e_cut3n,e_bns,e_bnn,e_splice,if_true,if_false,ite_true,ite_false,true_or,ne_eq,seval,h_putc,beq_self_eq_true,eq_self,exists_eq_left,exists_eq_left',hH,d1,hB,d3]
        exact ⟨_,rfl⟩
    | false =>
      simp -implicitDefEqProofs (maxDischargeDepth:=12) only [WW,List.replicate,Option.some_or,s_conv,e_conv,s_slc3,e_cut3,e_cut3n,e_bns,e_bnn,e_splice,if_true,if_false,ite_true,ite_false,true_or,ne_eq,seval,h_putc,beq_self_eq_true,eq_self,exists_eq_left,exists_eq_left',hH,d1,hB]
      exact ⟨_,rfl⟩
end Go.Hem
namespace Go.Hem
variable {pol : Pol}
theorem head_eq {a b : Head} : (decide (a.pitch.step = b.pitch.step) && (decide (a.pitch.alter = b.pitch.alter) && (decide (a.pitch.octave = b.pitch.octave) && ((a.tied == b.tied) && decide (a.shown = b.shown))))) = decide (a = b):=by
  obtain ⟨⟨a1,a2,a3⟩,a4,a5⟩:=a
  obtain ⟨⟨b1,b2,b3⟩,b4,b5⟩:=b
  have e : (a4 == b4) = decide (a4 = b4):=by cases a4 <;> cases b4 <;> rfl
  simp only [Head.mk.injEq,Pitch.mk.injEq,Bool.decide_and,e,Bool.and_assoc]
theorem grace_eq {a b : Grace} : (decide (a.pitch.step = b.pitch.step) && (decide (a.pitch.alter = b.pitch.alter) && (decide (a.pitch.octave = b.pitch.octave) && (decide (a.log = b.log) && (a.slash == b.slash))))) = decide (a = b):=by
  obtain ⟨⟨a1,a2,a3⟩,a4,a5⟩:=a
  obtain ⟨⟨b1,b2,b3⟩,b4,b5⟩:=b
  have e : (a5 == b5) = decide (a5 = b5):=by cases a5 <;> cases b5 <;> rfl
  simp only [Grace.mk.injEq,Pitch.mk.injEq,Bool.decide_and,e,Bool.and_assoc]
theorem syl_eq {a b : Syllable} : ((a.text.toList == b.text.toList) && decide (a.link = b.link)) = decide (a = b):=by
  cases a; cases b; simp only [Syllable.mk.injEq,Bool.decide_and,toList_eq]
theorem val_eq {a b : Val} : (decide (a.log = b.log) && decide (a.dots = b.dots)) = decide (a = b):=by
  cases a; cases b; simp only [Val.mk.injEq,Bool.decide_and]
def Event.cn (e : Event) : Event:={ e with heads:=Sl.of e.heads.l,graces:=Sl.of e.graces.l,lyrics:=Sl.of e.lyrics.l }
def Event.tame (e : Event) : Prop:=e.heads.l.length < 1000000∧e.graces.l.length < 1000000∧e.lyrics.l.length < 1000000
def Event.noid (e : Event) : Event:={ e.cn with id:=⟨0,0⟩ }
theorem noid_iff {a b : Event} : a.noid = b.noid ↔ a.kind = b.kind∧a.value = b.value∧a.articulations = b.articulations∧a.ornament = b.ornament∧a.dynamic = b.dynamic∧a.stem = b.stem∧a.beam = b.beam∧a.heads.l = b.heads.l∧a.graces.l = b.graces.l∧a.lyrics.l = b.lyrics.l:=by
  unfold Event.noid Event.cn
  simp only [Event.mk.injEq,of_inj,true_and]
  constructor
  · rintro ⟨h1,h2,h3,h4,h5,h6,h7,h8,h9,h10⟩; exact ⟨h1,h2,h5,h6,h7,h9,h10,h3,h4,h8⟩
  · rintro ⟨h1,h2,h5,h6,h7,h9,h10,h3,h4,h8⟩; exact ⟨h1,h2,h3,h4,h5,h6,h7,h8,h9,h10⟩
theorem cn_noid {a b : Event} : a.cn = b.cn ↔ a.id = b.id∧a.noid = b.noid:=by
  unfold Event.noid Event.cn
  simp only [Event.mk.injEq,of_inj,true_and]
def eqCode (n : Nat) (ks : List SK) : CF:=⟨.seq (.ops [⟨some 4,none,.mv (.const (.bool false)),[]⟩]) (.seq (.seq (.ops [⟨some 6,none,.mv (.tmp 0),[]⟩,⟨some 7,none,.len (.tmp 6),[]⟩,⟨some 8,none,.mv (.tmp 1),[]⟩,⟨some 9,none,.len (.tmp 8),[]⟩,⟨some 10,none,.bint .neq (.tmp 7) (.tmp 9),[]⟩]) (.cond (.tmp 10) (.seq (.ops [⟨some 4,none,.mv (.const (.bool false)),[]⟩]) .ret) .skip)) (.seq (.seq (.ops [⟨some 11,none,.mv (.tmp 0),[]⟩,⟨some 12,none,.len (.tmp 11),[]⟩,⟨some 13,none,.mv (.const (.int .i64 0)),[]⟩]) (.block 0 (.loop (.seq (.ops [⟨some 14,none,.bint .lss (.tmp 13) (.tmp 12),[]⟩]) (.seq (.cond (.tmp 14) .skip (.exit 0)) (.seq (.block 1 (.seq (.ops [⟨some 15,none,.mv (.tmp 13),[]⟩,⟨some 5,none,.mv (.tmp 15),[]⟩]) (.seq (.ops [⟨some 16,none,.mv (.tmp 0),[]⟩,⟨some 17,none,.mv (.tmp 5),[]⟩,⟨some 18,none,.iaddr n (.tmp 16) (.tmp 17),[]⟩,⟨some 19,none,.loadN n (.tmp 18),[]⟩,⟨some 20,none,.mv (.tmp 1),[]⟩,⟨some 21,none,.mv (.tmp 5),[]⟩,⟨some 22,none,.iaddr n (.tmp 20) (.tmp 21),[]⟩,⟨some 23,none,.loadN n (.tmp 22),[]⟩,⟨some 24,none,.bagg true ks (.tmp 19) (.tmp 23),[]⟩]) (.cond (.tmp 24) (.seq (.ops [⟨some 4,none,.mv (.const (.bool false)),[]⟩]) .ret) .skip)))) (.ops [⟨some 25,none,.bint .add (.tmp 13) (.const (.int .i64 1)),[]⟩,⟨some 13,none,.mv (.tmp 25),[]⟩]))))))) (.seq (.ops [⟨some 4,none,.mv (.const (.bool true)),[]⟩]) .ret))),26,[.tmp 4]⟩
theorem sliceEq_pv {α : Type} [DecidableEq α] {f : α→AV} {n : Nat} {ks : List SK} {fn : FuncId} (hcl : ∀ x,AV.closedB (f x) = true) (hlen : ∀ x,(f x).cells.length = n) (hn : n ≠ 0) (htake : ∀ x,List.take n (f x).cells = (f x).cells)
    (hcmp : ∀ x y,eqK ks (f x).cells (f y).cells = some (decide (x = y))) (hf : compF prog fn = some (eqCode n ks)) (a b : Sl α) (ha : a.l.length < 1000000) :
    Pv prog polS fn [slm f a,slm f b] (.sc (.bool (decide (a.l = b.l)))):=by
  refine Pv_of' hf (by simp only [AV.closedBs,closedB_slm hcl,Bool.and_self]) ?_
  generalize hr : decide (a.l = b.l) = r
  simp -implicitDefEqProofs (maxDischargeDepth:=12) only [wpF,eqCode,WW,List.replicate,Option.some_or,s_conv,e_conv,s_slc3,e_cut3,e_cut3n,e_bns,e_bnn,e_splice,if_true,if_false,ite_true,ite_false,true_or,ne_eq,seval,h_putc,beq_self_eq_true,eq_self,exists_eq_left,exists_eq_left']
  by_cases h1 : (a.l.length : Int) = (b.l.length : Int)
  rotate_left
  · rw [decide_eq_false (fun k => h1 (by rw [k]))] at hr; subst hr
    simp -implicitDefEqProofs (maxDischargeDepth:=12) only [WW,List.replicate,Option.some_or,s_conv,e_conv,s_slc3,e_cut3,e_cut3n,e_bns,e_bnn,e_splice,if_true,if_false,ite_true,ite_false,true_or,ne_eq,seval,h_putc,beq_self_eq_true,eq_self,exists_eq_left,exists_eq_left',h1]
    exact frz_sc
  simp -implicitDefEqProofs (maxDischargeDepth:=12) only [WW,List.replicate,Option.some_or,s_conv,e_conv,s_slc3,e_cut3,e_cut3n,e_bns,e_bnn,e_splice,if_true,if_false,ite_true,ite_false,true_or,ne_eq,seval,h_putc,beq_self_eq_true,eq_self,exists_eq_left,exists_eq_left',eq_true h1]
  refine wp_loop (Inv:=fun k t H => ∃ (i : Nat),i + k = a.l.length∧a.l.take i = b.l.take i ∧
    ∃ x : Nat→AV,t = [slm f a,slm f b,x 2,x 3,.sc (.bool false),x 5,x 6,x 7,x 8,x 9,x 10,x 11,.sc (.int .i64 a.l.length),.sc (.int .i64 i),x 14,x 15,x 16,x 17,x 18,x 19,x 20,x 21,x 22,x 23,x 24,x 25]) (k:=a.l.length) ?_
    ⟨0,by omega,rfl,ex_x (by rw [← h1]; rfl)⟩
  rintro k t H ⟨i,hk,ht,x,rfl⟩
  by_cases c1 : (i : Int) < (a.l.length : Int)
  · obtain ⟨y,hy1⟩ : ∃ y,a.l[i]? = some y:=⟨_,List.getElem?_eq_getElem (by omega)⟩
    obtain ⟨z,hz1⟩ : ∃ y,b.l[i]? = some y:=⟨_,List.getElem?_eq_getElem (by omega)⟩
    have e2 : IntKind.i64.wrap ((i : Int) + 1) = ((i + 1 : Nat) : Int):=by rw [w64 (by omega) (by omega)]; omega
    by_cases c2 : y = z
    · subst c2
      have hc:=hcmp y y
      rw [decide_eq_true rfl] at hc
      simp -implicitDefEqProofs (maxDischargeDepth:=12) only [WW,List.replicate,Option.some_or,s_conv,e_conv,s_slc3,e_cut3,e_cut3n,e_bns,e_bnn,e_splice,if_true,if_false,ite_true,ite_false,true_or,ne_eq,seval,h_putc,beq_self_eq_true,eq_self,exists_eq_left,exists_eq_left',c1,hy1,hz1,hlen,hn,htake,hc,e2]
      exact ⟨k - 1,by omega,i + 1,by omega,take_step hy1 hz1 ht,ex_x rfl⟩
    · rw [decide_eq_false (fun k => list_ne hy1 hz1 c2 k)] at hr; subst hr
      have hc:=hcmp y z
      rw [decide_eq_false c2] at hc
      simp -implicitDefEqProofs (maxDischargeDepth:=12) only [WW,List.replicate,Option.some_or,s_conv,e_conv,s_slc3,e_cut3,e_cut3n,e_bns,e_bnn,e_splice,if_true,if_false,ite_true,ite_false,true_or,ne_eq,seval,h_putc,beq_self_eq_true,eq_self,exists_eq_left,exists_eq_left',c1,hy1,hz1,hlen,hn,htake,hc]
      exact frz_sc
  have e : a.l = b.l:=by rw [List.take_of_length_le (by omega),List.take_of_length_le (by omega)] at ht; exact ht
  simp -implicitDefEqProofs (maxDischargeDepth:=12) only [WW,List.replicate,Option.some_or,s_conv,e_conv,s_slc3,e_cut3,e_cut3n,e_bns,e_bnn,e_splice,if_true,if_false,ite_true,ite_false,true_or,ne_eq,seval,h_putc,beq_self_eq_true,eq_self,exists_eq_left,exists_eq_left',c1]
  rw [decide_eq_true e] at hr; subst hr
  exact frz_sc
def eqfCode (n : Nat) (z : List AV) : CF:=⟨.seq (.ops [⟨some 6,none,.mv (.const (.bool false)),[]⟩]) (.seq (.seq (.ops [⟨some 10,none,.mv (.tmp 0),[]⟩,⟨some 11,none,.len (.tmp 10),[]⟩,⟨some 12,none,.mv (.tmp 1),[]⟩,⟨some 13,none,.len (.tmp 12),[]⟩,⟨some 14,none,.bint .neq (.tmp 11) (.tmp 13),[]⟩]) (.cond (.tmp 14) (.seq (.ops [⟨some 6,none,.mv (.const (.bool false)),[]⟩]) .ret) .skip)) (.seq (.seq (.ops [⟨some 15,none,.mv (.tmp 0),[]⟩,⟨some 16,none,.len (.tmp 15),[]⟩,⟨some 17,none,.mv (.const (.int .i64 0)),[]⟩]) (.block 0 (.loop (.seq (.ops [⟨some 18,none,.bint .lss (.tmp 17) (.tmp 16),[]⟩]) (.seq (.cond (.tmp 18) .skip (.exit 0)) (.seq (.block 1 (.seq (.ops [⟨some 19,none,.mv (.tmp 17),[]⟩,⟨some 20,none,.iaddr n (.tmp 15) (.tmp 17),[]⟩,⟨some 21,none,.loadN n (.tmp 20),[]⟩,⟨some 8,none,.alloc z,[]⟩,⟨some 7,none,.mv (.tmp 19),[]⟩,⟨none,none,.store n (.tmp 8) (.tmp 21),[]⟩]) (.seq (.ops [⟨some 22,none,.mv (.tmp 1),[]⟩,⟨some 23,none,.mv (.tmp 7),[]⟩,⟨some 24,none,.iaddr n (.tmp 22) (.tmp 23),[]⟩,⟨some 25,none,.loadN n (.tmp 24),[]⟩,⟨some 9,none,.alloc z,[]⟩,⟨none,none,.store n (.tmp 9) (.tmp 25),[]⟩]) (.seq (.ops [⟨some 26,none,.mv (.tmp 2),[]⟩,⟨some 27,none,.loadN n (.tmp 8),[]⟩,⟨some 28,none,.loadN n (.tmp 9),[]⟩,⟨some 29,none,.callv (.tmp 26) [.tmp 27,.tmp 28],[]⟩,⟨some 30,none,.not (.tmp 29),[]⟩]) (.cond (.tmp 30) (.seq (.ops [⟨some 6,none,.mv (.const (.bool false)),[]⟩]) .ret) .skip))))) (.ops [⟨some 31,none,.bint .add (.tmp 17) (.const (.int .i64 1)),[]⟩,⟨some 17,none,.mv (.tmp 31),[]⟩]))))))) (.seq (.ops [⟨some 6,none,.mv (.const (.bool true)),[]⟩]) .ret))),32,[.tmp 6]⟩
theorem eqFunc_pv {α β : Type} [DecidableEq β] {f : α→AV} {c : α→β} {n : Nat} {z : List AV} {fn g : FuncId} (hcl : ∀ x,AV.closedB (f x) = true) (hlen : ∀ x,(f x).cells.length = n) (hn : n ≠ 0) (htake : ∀ x,List.take n (f x).cells = (f x).cells) (hagg : ∀ x,AV.agg (f x).cells = f x) (hone : ∀ x,AV.ones (f x).cells = true) (hz : z.length = n)
    (hcall : ∀ args,acallee prog g args = some (.call g args)) (hpure : polS.pure g = true) (tm : α→Prop) (hcmp : ∀ x y,tm x→Pv prog polS g [f x,f y] (.sc (.bool (decide (c x = c y))))) (hf : compF prog fn = some (eqfCode n z)) (a b : Sl α) (ha : a.l.length < 1000000) (ht : ∀ x ∈ a.l,tm x) :
    Pv prog polS fn [slm f a,slm f b,.func (.func g) [] []] (.sc (.bool (decide (a.l.map c = b.l.map c)))):=by
  refine Pv_of' hf (by simp only [AV.closedBs,closedB_slm hcl,cl_func,Bool.and_self]) ?_
  generalize hr : decide (a.l.map c = b.l.map c) = r
  simp -implicitDefEqProofs (maxDischargeDepth:=12) only [wpF,eqfCode,WW,List.replicate,Option.some_or,s_conv,e_conv,s_slc3,e_cut3,e_cut3n,e_bns,e_bnn,e_splice,if_true,if_false,ite_true,ite_false,true_or,ne_eq,seval,h_putc,beq_self_eq_true,eq_self,exists_eq_left,exists_eq_left']
  by_cases h1 : (a.l.length : Int) = (b.l.length : Int)
  rotate_left
  · rw [decide_eq_false (fun k => h1 (len_of_map k))] at hr; subst hr
    simp -implicitDefEqProofs (maxDischargeDepth:=12) only [WW,List.replicate,Option.some_or,s_conv,e_conv,s_slc3,e_cut3,e_cut3n,e_bns,e_bnn,e_splice,if_true,if_false,ite_true,ite_false,true_or,ne_eq,seval,h_putc,beq_self_eq_true,eq_self,exists_eq_left,exists_eq_left',h1]
    exact frz_sc
  simp -implicitDefEqProofs (maxDischargeDepth:=12) only [WW,List.replicate,Option.some_or,s_conv,e_conv,s_slc3,e_cut3,e_cut3n,e_bns,e_bnn,e_splice,if_true,if_false,ite_true,ite_false,true_or,ne_eq,seval,h_putc,beq_self_eq_true,eq_self,exists_eq_left,exists_eq_left',eq_true h1]
  refine wp_loop (Inv:=fun k t H => ∃ (i : Nat),i + k = a.l.length∧(a.l.take i).map c = (b.l.take i).map c ∧
    ∃ x : Nat→AV,t = [slm f a,slm f b,.func (.func g) [] [],x 3,x 4,x 5,.sc (.bool false),x 7,x 8,x 9,x 10,x 11,x 12,x 13,x 14,slm f a,.sc (.int .i64 a.l.length),.sc (.int .i64 i),x 18,x 19,x 20,x 21,x 22,x 23,x 24,x 25,x 26,x 27,x 28,x 29,x 30,x 31]) (k:=a.l.length) ?_
    ⟨0,by omega,rfl,ex_x (by rw [← h1]; rfl)⟩
  rintro k t H ⟨i,hk,htk,x,rfl⟩
  by_cases c1 : (i : Int) < (a.l.length : Int)
  · obtain ⟨y,hy1⟩ : ∃ y,a.l[i]? = some y:=⟨_,List.getElem?_eq_getElem (by omega)⟩
    obtain ⟨z',hz1⟩ : ∃ y,b.l[i]? = some y:=⟨_,List.getElem?_eq_getElem (by omega)⟩
    have e2 : IntKind.i64.wrap ((i : Int) + 1) = ((i + 1 : Nat) : Int):=by rw [w64 (by omega) (by omega)]; omega
    have f4 : ¬ H.next = H.next + 1:=by omega
    have sp : ∀ w,splice z 0 (f w).cells = (f w).cells:=fun w => splice_all (by rw [hlen,hz])
    have hdz : List.drop n z = []:=List.drop_of_length_le (by omega)
    simp -implicitDefEqProofs (maxDischargeDepth:=12) only [WW,List.replicate,Option.some_or,s_conv,e_conv,s_slc3,e_cut3,e_cut3n,e_bns,e_bnn,e_splice,if_true,if_false,ite_true,ite_false,true_or,ne_eq,seval,h_putc,beq_self_eq_true,eq_self,exists_eq_left,exists_eq_left',c1,hy1,hz1,hlen,hn,htake,hagg,hone,hz,sp,f4,Nat.le_refl,hdz,e_callf,hcall]
    refine wA_pure hpure (hcmp y z' (ht y (List.mem_of_getElem? hy1))) ?_
    by_cases c2 : c y = c z'
    · simp -implicitDefEqProofs (maxDischargeDepth:=12) only [WW,List.replicate,Option.some_or,s_conv,e_conv,s_slc3,e_cut3,e_cut3n,e_bns,e_bnn,e_splice,if_true,if_false,ite_true,ite_false,true_or,ne_eq,seval,h_putc,beq_self_eq_true,eq_self,exists_eq_left,exists_eq_left',eq_true c2,e2]
      exact ⟨k - 1,by omega,i + 1,by omega,map_step hy1 hz1 c2 htk,ex_x rfl⟩
    · rw [decide_eq_false (fun k => map_ne hy1 hz1 c2 k)] at hr; subst hr
      simp -implicitDefEqProofs (maxDischargeDepth:=12) only [WW,List.replicate,Option.some_or,s_conv,e_conv,s_slc3,e_cut3,e_cut3n,e_bns,e_bnn,e_splice,if_true,if_false,ite_true,ite_false,true_or,ne_eq,seval,h_putc,beq_self_eq_true,eq_self,exists_eq_left,exists_eq_left',c2]
      exact frz_sc
  have e : a.l.map c = b.l.map c:=by rw [List.take_of_length_le (by omega),List.take_of_length_le (by omega)] at htk; exact htk
  simp -implicitDefEqProofs (maxDischargeDepth:=12) only [WW,List.replicate,Option.some_or,s_conv,e_conv,s_slc3,e_cut3,e_cut3n,e_bns,e_bnn,e_splice,if_true,if_false,ite_true,ite_false,true_or,ne_eq,seval,h_putc,beq_self_eq_true,eq_self,exists_eq_left,exists_eq_left',c1]
  rw [decide_eq_true e] at hr; subst hr
  exact frz_sc
theorem take_self {l : List AV} {n : Nat} (h : l.length = n) : l.take n = l:=List.take_of_length_le (by omega)
theorem eqHead_pv (a b : Sl Head) (ha : a.l.length < 1000000) : Pv prog polS 78 [slm Head.enc a,slm Head.enc b] (.sc (.bool (decide (a.l = b.l)))) :=
  sliceEq_pv Head.enc_closed Head.enc_len (by decide) (fun x => take_self (Head.enc_len x)) (fun x y => by simp -implicitDefEqProofs (maxDischargeDepth:=12) only [Head.enc,WW,List.replicate,Option.some_or,s_conv,e_conv,s_slc3,e_cut3,e_cut3n,e_bns,e_bnn,e_splice,if_true,if_false,ite_true,ite_false,true_or,ne_eq,seval,h_putc,beq_self_eq_true,eq_self,exists_eq_left,exists_eq_left',head_eq]) (ks:=[.int,.int,.int,.bool,.int]) ok78 a b ha
theorem eqGrace_pv (a b : Sl Grace) (ha : a.l.length < 1000000) : Pv prog polS 79 [slm Grace.enc a,slm Grace.enc b] (.sc (.bool (decide (a.l = b.l)))) :=
  sliceEq_pv Grace.enc_closed Grace.enc_len (by decide) (fun x => take_self (Grace.enc_len x)) (fun x y => by simp -implicitDefEqProofs (maxDischargeDepth:=12) only [Grace.enc,WW,List.replicate,Option.some_or,s_conv,e_conv,s_slc3,e_cut3,e_cut3n,e_bns,e_bnn,e_splice,if_true,if_false,ite_true,ite_false,true_or,ne_eq,seval,h_putc,beq_self_eq_true,eq_self,exists_eq_left,exists_eq_left',grace_eq]) (ks:=[.int,.int,.int,.int,.bool]) ok79 a b ha
theorem eqSyllable_pv (a b : Sl Syllable) (ha : a.l.length < 1000000) : Pv prog polS 80 [slm Syllable.enc a,slm Syllable.enc b] (.sc (.bool (decide (a.l = b.l)))) :=
  sliceEq_pv Syllable.enc_closed Syllable.enc_len (by decide) (fun x => take_self (Syllable.enc_len x)) (fun x y => by simp -implicitDefEqProofs (maxDischargeDepth:=12) only [Syllable.enc,WW,List.replicate,Option.some_or,s_conv,e_conv,s_slc3,e_cut3,e_cut3n,e_bns,e_bnn,e_splice,if_true,if_false,ite_true,ite_false,true_or,ne_eq,seval,h_putc,beq_self_eq_true,eq_self,exists_eq_left,exists_eq_left',syl_eq]) (ks:=[.str,.int]) ok80 a b ha
theorem eSame_pv (a b : Event) (ha : a.tame) : Pv prog polS 59 [a.enc,b.enc] (.sc (.bool (decide (a.noid = b.noid)))):=by
  refine Pv_of' ok59 (by simp only [AV.closedBs,Event.enc_closed,Bool.and_self]) ?_
  obtain ⟨b1,b2,b3⟩:=ha
  generalize hr : decide (a.noid = b.noid) = r
  simp -implicitDefEqProofs (maxDischargeDepth:=12) only [wpF,cf59,WW,List.replicate,Option.some_or,s_conv,e_conv,s_slc3,e_cut3,e_cut3n,e_bns,e_bnn,e_splice,if_true,if_false,ite_true,ite_false,true_or,ne_eq,seval,h_putc,beq_self_eq_true,eq_self,exists_eq_left,exists_eq_left',a.enc_eq,b.enc_eq,val_eq]
  by_cases h1 : a.kind = b.kind
  rotate_left
  · rw [decide_eq_false (fun k : a.noid = b.noid => h1 ((noid_iff.1 k).1))] at hr; subst hr
    simp -implicitDefEqProofs (maxDischargeDepth:=12) only [WW,List.replicate,Option.some_or,s_conv,e_conv,s_slc3,e_cut3,e_cut3n,e_bns,e_bnn,e_splice,if_true,if_false,ite_true,ite_false,true_or,ne_eq,seval,h_putc,beq_self_eq_true,eq_self,exists_eq_left,exists_eq_left',h1,val_eq]
    exact frz_sc
  simp -implicitDefEqProofs (maxDischargeDepth:=12) only [WW,List.replicate,Option.some_or,s_conv,e_conv,s_slc3,e_cut3,e_cut3n,e_bns,e_bnn,e_splice,if_true,if_false,ite_true,ite_false,true_or,ne_eq,seval,h_putc,beq_self_eq_true,eq_self,exists_eq_left,exists_eq_left',eq_true h1,val_eq]
  by_cases h2 : a.value = b.value
  rotate_left
  · rw [decide_eq_false (fun k : a.noid = b.noid => h2 ((noid_iff.1 k).2.1))] at hr; subst hr
    simp -implicitDefEqProofs (maxDischargeDepth:=12) only [WW,List.replicate,Option.some_or,s_conv,e_conv,s_slc3,e_cut3,e_cut3n,e_bns,e_bnn,e_splice,if_true,if_false,ite_true,ite_false,true_or,ne_eq,seval,h_putc,beq_self_eq_true,eq_self,exists_eq_left,exists_eq_left',h2,val_eq]
    exact frz_sc
  simp -implicitDefEqProofs (maxDischargeDepth:=12) only [WW,List.replicate,Option.some_or,s_conv,e_conv,s_slc3,e_cut3,e_cut3n,e_bns,e_bnn,e_splice,if_true,if_false,ite_true,ite_false,true_or,ne_eq,seval,h_putc,beq_self_eq_true,eq_self,exists_eq_left,exists_eq_left',eq_true h2,val_eq]
  by_cases h3 : a.articulations = b.articulations
  rotate_left
  · rw [decide_eq_false (fun k : a.noid = b.noid => h3 ((noid_iff.1 k).2.2.1))] at hr; subst hr
    simp -implicitDefEqProofs (maxDischargeDepth:=12) only [WW,List.replicate,Option.some_or,s_conv,e_conv,s_slc3,e_cut3,e_cut3n,e_bns,e_bnn,e_splice,if_true,if_false,ite_true,ite_false,true_or,ne_eq,seval,h_putc,beq_self_eq_true,eq_self,exists_eq_left,exists_eq_left',h3,val_eq]
    exact frz_sc
  simp -implicitDefEqProofs (maxDischargeDepth:=12) only [WW,List.replicate,Option.some_or,s_conv,e_conv,s_slc3,e_cut3,e_cut3n,e_bns,e_bnn,e_splice,if_true,if_false,ite_true,ite_false,true_or,ne_eq,seval,h_putc,beq_self_eq_true,eq_self,exists_eq_left,exists_eq_left',eq_true h3,val_eq]
  by_cases h4 : a.ornament = b.ornament
  rotate_left
  · rw [decide_eq_false (fun k : a.noid = b.noid => h4 ((noid_iff.1 k).2.2.2.1))] at hr; subst hr
    simp -implicitDefEqProofs (maxDischargeDepth:=12) only [WW,List.replicate,Option.some_or,s_conv,e_conv,s_slc3,e_cut3,e_cut3n,e_bns,e_bnn,e_splice,if_true,if_false,ite_true,ite_false,true_or,ne_eq,seval,h_putc,beq_self_eq_true,eq_self,exists_eq_left,exists_eq_left',h4,val_eq]
    exact frz_sc
  simp -implicitDefEqProofs (maxDischargeDepth:=12) only [WW,List.replicate,Option.some_or,s_conv,e_conv,s_slc3,e_cut3,e_cut3n,e_bns,e_bnn,e_splice,if_true,if_false,ite_true,ite_false,true_or,ne_eq,seval,h_putc,beq_self_eq_true,eq_self,exists_eq_left,exists_eq_left',eq_true h4,val_eq]
  by_cases h5 : a.dynamic = b.dynamic
  rotate_left
  · rw [decide_eq_false (fun k : a.noid = b.noid => h5 ((noid_iff.1 k).2.2.2.2.1))] at hr; subst hr
    simp -implicitDefEqProofs (maxDischargeDepth:=12) only [WW,List.replicate,Option.some_or,s_conv,e_conv,s_slc3,e_cut3,e_cut3n,e_bns,e_bnn,e_splice,if_true,if_false,ite_true,ite_false,true_or,ne_eq,seval,h_putc,beq_self_eq_true,eq_self,exists_eq_left,exists_eq_left',h5,val_eq]
    exact frz_sc
  simp -implicitDefEqProofs (maxDischargeDepth:=12) only [WW,List.replicate,Option.some_or,s_conv,e_conv,s_slc3,e_cut3,e_cut3n,e_bns,e_bnn,e_splice,if_true,if_false,ite_true,ite_false,true_or,ne_eq,seval,h_putc,beq_self_eq_true,eq_self,exists_eq_left,exists_eq_left',eq_true h5,val_eq]
  by_cases h6 : a.stem = b.stem
  rotate_left
  · rw [decide_eq_false (fun k : a.noid = b.noid => h6 ((noid_iff.1 k).2.2.2.2.2.1))] at hr; subst hr
    simp -implicitDefEqProofs (maxDischargeDepth:=12) only [WW,List.replicate,Option.some_or,s_conv,e_conv,s_slc3,e_cut3,e_cut3n,e_bns,e_bnn,e_splice,if_true,if_false,ite_true,ite_false,true_or,ne_eq,seval,h_putc,beq_self_eq_true,eq_self,exists_eq_left,exists_eq_left',h6,val_eq]
    exact frz_sc
  simp -implicitDefEqProofs (maxDischargeDepth:=12) only [WW,List.replicate,Option.some_or,s_conv,e_conv,s_slc3,e_cut3,e_cut3n,e_bns,e_bnn,e_splice,if_true,if_false,ite_true,ite_false,true_or,ne_eq,seval,h_putc,beq_self_eq_true,eq_self,exists_eq_left,exists_eq_left',eq_true h6,val_eq]
  by_cases h7 : a.beam = b.beam
  rotate_left
  · rw [decide_eq_false (fun k : a.noid = b.noid => h7 ((noid_iff.1 k).2.2.2.2.2.2.1))] at hr; subst hr
    simp -implicitDefEqProofs (maxDischargeDepth:=12) only [WW,List.replicate,Option.some_or,s_conv,e_conv,s_slc3,e_cut3,e_cut3n,e_bns,e_bnn,e_splice,if_true,if_false,ite_true,ite_false,true_or,ne_eq,seval,h_putc,beq_self_eq_true,eq_self,exists_eq_left,exists_eq_left',h7,val_eq]
    exact frz_sc
  simp -implicitDefEqProofs (maxDischargeDepth:=12) only [WW,List.replicate,Option.some_or,s_conv,e_conv,s_slc3,e_cut3,e_cut3n,e_bns,e_bnn,e_splice,if_true,if_false,ite_true,ite_false,true_or,ne_eq,seval,h_putc,beq_self_eq_true,eq_self,exists_eq_left,exists_eq_left',eq_true h7,val_eq]
  refine wA_pure (rfl) (eqHead_pv _ _ b1) ?_
  by_cases h8 : a.heads.l = b.heads.l
  rotate_left
  · rw [decide_eq_false (fun k : a.noid = b.noid => h8 ((noid_iff.1 k).2.2.2.2.2.2.2.1))] at hr; subst hr
    simp -implicitDefEqProofs (maxDischargeDepth:=12) only [WW,List.replicate,Option.some_or,s_conv,e_conv,s_slc3,e_cut3,e_cut3n,e_bns,e_bnn,e_splice,if_true,if_false,ite_true,ite_false,true_or,ne_eq,seval,h_putc,beq_self_eq_true,eq_self,exists_eq_left,exists_eq_left',h8,val_eq]
    exact frz_sc
  simp -implicitDefEqProofs (maxDischargeDepth:=12) only [WW,List.replicate,Option.some_or,s_conv,e_conv,s_slc3,e_cut3,e_cut3n,e_bns,e_bnn,e_splice,if_true,if_false,ite_true,ite_false,true_or,ne_eq,seval,h_putc,beq_self_eq_true,eq_self,exists_eq_left,exists_eq_left',eq_true h8,val_eq]
  refine wA_pure (rfl) (eqGrace_pv _ _ b2) ?_
  by_cases h9 : a.graces.l = b.graces.l
  rotate_left
  · rw [decide_eq_false (fun k : a.noid = b.noid => h9 ((noid_iff.1 k).2.2.2.2.2.2.2.2.1))] at hr; subst hr
    simp -implicitDefEqProofs (maxDischargeDepth:=12) only [WW,List.replicate,Option.some_or,s_conv,e_conv,s_slc3,e_cut3,e_cut3n,e_bns,e_bnn,e_splice,if_true,if_false,ite_true,ite_false,true_or,ne_eq,seval,h_putc,beq_self_eq_true,eq_self,exists_eq_left,exists_eq_left',h9,val_eq]
    exact frz_sc
  simp -implicitDefEqProofs (maxDischargeDepth:=12) only [WW,List.replicate,Option.some_or,s_conv,e_conv,s_slc3,e_cut3,e_cut3n,e_bns,e_bnn,e_splice,if_true,if_false,ite_true,ite_false,true_or,ne_eq,seval,h_putc,beq_self_eq_true,eq_self,exists_eq_left,exists_eq_left',eq_true h9,val_eq]
  refine wA_pure (rfl) (eqSyllable_pv _ _ b3) ?_
  by_cases h10 : a.lyrics.l = b.lyrics.l
  rotate_left
  · rw [decide_eq_false (fun k : a.noid = b.noid => h10 ((noid_iff.1 k).2.2.2.2.2.2.2.2.2))] at hr; subst hr
    simp -implicitDefEqProofs (maxDischargeDepth:=12) only [WW,List.replicate,Option.some_or,s_conv,e_conv,s_slc3,e_cut3,e_cut3n,e_bns,e_bnn,e_splice,if_true,if_false,ite_true,ite_false,true_or,ne_eq,seval,h_putc,beq_self_eq_true,eq_self,exists_eq_left,exists_eq_left',h10,val_eq]
    exact frz_sc
  simp -implicitDefEqProofs (maxDischargeDepth:=12) only [WW,List.replicate,Option.some_or,s_conv,e_conv,s_slc3,e_cut3,e_cut3n,e_bns,e_bnn,e_splice,if_true,if_false,ite_true,ite_false,true_or,ne_eq,seval,h_putc,beq_self_eq_true,eq_self,exists_eq_left,exists_eq_left',eq_true h10,val_eq]
  rw [decide_eq_true (noid_iff.2 ⟨h1,h2,h3,h4,h5,h6,h7,h8,h9,h10⟩)] at hr; subst hr
  exact frz_sc
theorem eEqual_pv (a b : Event) (ha : a.tame) : Pv prog polS 65 [a.enc,b.enc] (.sc (.bool (decide (a.cn = b.cn)))):=by
  refine Pv_of' ok65 (by simp only [AV.closedBs,Event.enc_closed,Bool.and_self]) ?_
  generalize hr : decide (a.cn = b.cn) = r
  simp -implicitDefEqProofs (maxDischargeDepth:=12) only [wpF,cf65,WW,List.replicate,Option.some_or,s_conv,e_conv,s_slc3,e_cut3,e_cut3n,e_bns,e_bnn,e_splice,if_true,if_false,ite_true,ite_false,true_or,ne_eq,seval,h_putc,beq_self_eq_true,eq_self,exists_eq_left,exists_eq_left',a.enc_eq,b.enc_eq,id_eq]
  by_cases h1 : a.id = b.id
  rotate_left
  · rw [decide_eq_false (fun k : a.cn = b.cn => h1 ((cn_noid.1 k).1))] at hr; subst hr
    simp -implicitDefEqProofs (maxDischargeDepth:=12) only [WW,List.replicate,Option.some_or,s_conv,e_conv,s_slc3,e_cut3,e_cut3n,e_bns,e_bnn,e_splice,if_true,if_false,ite_true,ite_false,true_or,ne_eq,seval,h_putc,beq_self_eq_true,eq_self,exists_eq_left,exists_eq_left',h1,id_eq]
    exact frz_sc
  simp -implicitDefEqProofs (maxDischargeDepth:=12) only [WW,List.replicate,Option.some_or,s_conv,e_conv,s_slc3,e_cut3,e_cut3n,e_bns,e_bnn,e_splice,if_true,if_false,ite_true,ite_false,true_or,ne_eq,seval,h_putc,beq_self_eq_true,eq_self,exists_eq_left,exists_eq_left',eq_true h1,id_eq]
  rw [← a.enc_eq,← b.enc_eq]
  refine wA_pure (rfl) (eSame_pv a b ha) ?_
  by_cases h2 : a.noid = b.noid
  rotate_left
  · rw [decide_eq_false (fun k : a.cn = b.cn => h2 ((cn_noid.1 k).2))] at hr; subst hr
    simp -implicitDefEqProofs (maxDischargeDepth:=12) only [WW,List.replicate,Option.some_or,s_conv,e_conv,s_slc3,e_cut3,e_cut3n,e_bns,e_bnn,e_splice,if_true,if_false,ite_true,ite_false,true_or,ne_eq,seval,h_putc,beq_self_eq_true,eq_self,exists_eq_left,exists_eq_left',h2,id_eq]
    exact frz_sc
  simp -implicitDefEqProofs (maxDischargeDepth:=12) only [WW,List.replicate,Option.some_or,s_conv,e_conv,s_slc3,e_cut3,e_cut3n,e_bns,e_bnn,e_splice,if_true,if_false,ite_true,ite_false,true_or,ne_eq,seval,h_putc,beq_self_eq_true,eq_self,exists_eq_left,exists_eq_left',eq_true h2,id_eq]
  rw [decide_eq_true (cn_noid.2 ⟨h1,h2⟩)] at hr; subst hr
  exact frz_sc
end Go.Hem
namespace Go.Hem
variable {pol : Pol} {α : Type}
abbrev RQ (α : Type):=AHeap→List AV→α→List Nat→Prop
structure RowQ (n d : Nat) (f : α→AV) (Q : RQ α) : Prop where
  row : RowOf n f
  len : ∀ {H r x g},Q H r x g→r.length = n
  fr : ∀ {H H' r x g},Q H r x g→(∀ b ∈ g,H'.cells b = H.cells b)→Q H' r x g
  lt : ∀ {H r x g},Q H r x g→∀ b ∈ g,b < H.next
  own : ∀ {H r x g},Q H r x g→∃ g',OwnL (Own d) H r (f x).cells g'∧∀ b ∈ g',b ∈ g
inductive Rows (Q : RQ α) (H : AHeap) : List AV→List α→List Nat→Prop
  | nil : Rows Q H [] [] []
  | cons {r cs : List AV} {x : α} {l : List α} {g h : List Nat} : Q H r x g→Rows Q H cs l h→Apart g h→Rows Q H (r ++ cs) (x :: l) (g ++ h)
theorem Rows.snoc {Q : RQ α} {H : AHeap} {cs r : List AV} {l : List α} {x : α} {fp g : List Nat} (h : Rows Q H cs l fp) (k : Q H r x g) : Apart fp g→Rows Q H (cs ++ r) (l ++ [x]) (fp ++ g):=by
  induction h with
  | nil => intro _; simpa using Rows.cons k .nil Apart.nil_right
  | cons h1 h2 h3 ih =>
    intro ha
    have:=Rows.cons h1 (ih fun b hb => ha b (List.mem_append.2 (.inr hb))) (h3.app_right fun b hb => ha b (List.mem_append.2 (.inl hb)))
    simpa using this
section
variable {n d : Nat} {f : α→AV} {Q : RQ α} (hQ : RowQ n d f Q) {H H' : AHeap}
include hQ
theorem Rows.len {cs : List AV} {l : List α} {fp : List Nat} (h : Rows Q H cs l fp) : cs.length = l.length * n:=by
  induction h with
  | nil => simp
  | cons h1 h2 h3 ih => rw [List.length_append,hQ.len h1,ih,List.length_cons,Nat.succ_mul]; omega
theorem Rows.fr {cs : List AV} {l : List α} {fp : List Nat} (h : Rows Q H cs l fp) : (∀ b ∈ fp,H'.cells b = H.cells b)→Rows Q H' cs l fp:=by
  induction h with
  | nil => intro _; exact .nil
  | cons h1 h2 h3 ih => exact fun k => .cons (hQ.fr h1 fun b hb => k b (List.mem_append.2 (.inl hb))) (ih fun b hb => k b (List.mem_append.2 (.inr hb))) h3
theorem Rows.lt {cs : List AV} {l : List α} {fp : List Nat} (h : Rows Q H cs l fp) : ∀ b ∈ fp,b < H.next:=by
  induction h with
  | nil => intro b hb; simp at hb
  | cons h1 h2 h3 ih =>
    intro b hb
    rcases List.mem_append.1 hb with hb | hb
    · exact hQ.lt h1 b hb
    · exact ih b hb
theorem Rows.own {cs : List AV} {l : List α} {fp : List Nat} (h : Rows Q H cs l fp) : ∃ fp',OwnL (Own d) H cs (l.flatMap fun x => (f x).cells) fp'∧∀ b ∈ fp',b ∈ fp:=by
  induction h with
  | nil => exact ⟨[],.nil,fun _ h => h⟩
  | cons h1 h2 h3 ih =>
    obtain ⟨g',a1,a2⟩:=hQ.own h1
    obtain ⟨h',b1,b2⟩:=ih
    refine ⟨g' ++ h',?_,fun b hb => ?_⟩
    · simp only [List.flatMap_cons]
      exact OwnL.append a1 b1 fun b hb hb2 => h3 b (a2 b hb) (b2 b hb2)
    · rcases List.mem_append.1 hb with hb | hb
      · exact List.mem_append.2 (.inl (a2 b hb))
      · exact List.mem_append.2 (.inr (b2 b hb))
theorem Rows.at_ {cs : List AV} {l : List α} {fp : List Nat} (h : Rows Q H cs l fp) : ∀ {i : Nat} {x : α},l[i]? = some x →
    ∃ r g,(cs.drop (i * n)).take n = r∧i * n + n ≤ cs.length∧Q H r x g∧(∀ b ∈ g,b ∈ fp)∧∀ H' r' x' g',Q H' r' x' g'→(∀ b ∈ fp,b ∉ g→H'.cells b = H.cells b)→(∀ b ∈ g',b ∈ g ∨ b ∉ fp) →
      ∃ fp',Rows Q H' (cs.take (i * n) ++ (r' ++ (cs.drop (i * n)).drop n)) (l.set i x') fp'∧∀ b ∈ fp',b ∈ g' ∨ (b ∈ fp∧b ∉ g):=by
  induction h with
  | nil => intro i x h; simp at h
  | cons h1 h2 h3 ih =>
    rename_i r0 cs x0 l g0 h0
    intro i x hx
    have hl:=hQ.len h1
    cases i with
    | zero =>
      simp at hx; subst hx
      refine ⟨r0,g0,by rw [Nat.zero_mul,List.drop_zero,List.take_append_of_le_length (by omega),List.take_of_length_le (by omega)],by simp; omega,h1,fun b hb => List.mem_append.2 (.inl hb),fun H' r' x' g' q k s => ⟨g' ++ h0,?_,fun b hb => ?_⟩⟩
      · rw [Nat.zero_mul,List.drop_zero,List.take_zero,List.nil_append,List.drop_append,List.drop_of_length_le (by omega),List.nil_append,hl,Nat.sub_self,List.drop_zero,List.set_cons_zero]
        refine .cons q (h2.fr hQ fun b hb => k b (List.mem_append.2 (.inr hb)) fun hb2 => h3 b hb2 hb) fun b hb hb2 => ?_
        rcases s b hb with h | h
        · exact h3 b h hb2
        · exact h (List.mem_append.2 (.inr hb2))
      · rcases List.mem_append.1 hb with h | h
        · exact .inl h
        · exact .inr ⟨List.mem_append.2 (.inr h),fun hb2 => h3 b hb2 h⟩
    | succ i =>
      obtain ⟨r,g,a1,a2,a3,a4,a5⟩:=ih (i:=i) (x:=x) (by simpa using hx)
      have e : (i + 1) * n = n + i * n:=by rw [Nat.succ_mul]; omega
      have e1 : (r0 ++ cs).drop ((i + 1) * n) = cs.drop (i * n):=by
        rw [List.drop_append,List.drop_of_length_le (by omega),List.nil_append,hl,e,Nat.add_sub_cancel_left]
      refine ⟨r,g,by rw [e1]; exact a1,by rw [List.length_append]; omega,a3,fun b hb => List.mem_append.2 (.inr (a4 b hb)),fun H' r' x' g' q k s => ?_⟩
      obtain ⟨fp',c1,c2⟩:=a5 H' r' x' g' q (fun b hb hb2 => k b (List.mem_append.2 (.inr hb)) hb2) (fun b hb => (s b hb).imp id fun h h' => h (List.mem_append.2 (.inr h')))
      refine ⟨g0 ++ fp',?_,fun b hb => ?_⟩
      · rw [e1,List.set_cons_succ,e,List.take_append,List.take_of_length_le (l:=r0) (by omega),hl,Nat.add_sub_cancel_left,List.append_assoc]
        refine .cons (hQ.fr h1 fun b hb => k b (List.mem_append.2 (.inl hb)) fun hb2 => h3 b hb (a4 b hb2)) c1 fun b hb hb2 => ?_
        rcases c2 b hb2 with h | ⟨h,_⟩
        · rcases s b h with h | h
          · exact h3 b hb (a4 b h)
          · exact h (List.mem_append.2 (.inl hb))
        · exact h3 b hb h
      · rcases List.mem_append.1 hb with h | h
        · exact .inr ⟨List.mem_append.2 (.inl h),fun hb2 => h3 b h (a4 b hb2)⟩
        · rcases c2 b h with h | ⟨h,h'⟩
          · exact .inl h
          · exact .inr ⟨List.mem_append.2 (.inr h),h'⟩
end
def AccQ (Q : RQ α) (n : Nat) (H : AHeap) (v : AV) (s : Sl α) (fp : List Nat) : Prop :=
  (v = .sc .nils∧s = none∧fp = []) ∨
  ∃ b cap cs rest fp' l,s = some l∧v = .slice b 0 l.length cap n∧l.length ≤ cap∧H.cells b = some (cs ++ rest)∧rest.length = (cap - l.length) * n∧Rows Q H cs l fp'∧b ∉ fp'∧fp = b :: fp'
theorem accQ_none {Q : RQ α} {n : Nat} {H : AHeap} : AccQ Q n H (.sc .nils) none []:=.inl ⟨rfl,rfl,rfl⟩
section
variable {n d : Nat} {f : α→AV} {Q : RQ α} (hQ : RowQ n d f Q) {H H' : AHeap} {v : AV} {s : Sl α} {fp : List Nat}
theorem AccQ.one (h : AccQ Q n H v s fp) : v.one = true∧v.cells = [v]:=by
  rcases h with ⟨rfl,_,_⟩ | ⟨b,cap,cs,rest,fp',l,_,rfl,_⟩ <;> exact ⟨rfl,rfl⟩
theorem AccQ.length (h : AccQ Q n H v s fp) : lenOf v = some (.sc (.int .i64 s.l.length))∧alen v = some s.l.length:=by
  rcases h with ⟨rfl,rfl,_⟩ | ⟨b,cap,cs,rest,fp',l,rfl,rfl,_⟩ <;> exact ⟨rfl,rfl⟩
theorem AccQ.open {l : List α} (h : AccQ Q n H v (some l) fp) : AV.closedB v = false:=by
  rcases h with ⟨_,h,_⟩ | ⟨b,cap,cs,rest,fp',l,_,rfl,_⟩
  · cases h
  · rfl
include hQ
theorem AccQ.fr (h : AccQ Q n H v s fp) (k : ∀ b ∈ fp,H'.cells b = H.cells b) : AccQ Q n H' v s fp:=by
  rcases h with h | ⟨b,cap,cs,rest,fp',l,h1,h2,h3,h4,h5,h6,h7,rfl⟩
  · exact .inl h
  · exact .inr ⟨b,cap,cs,rest,fp',l,h1,h2,h3,by rw [k b (by simp)]; exact h4,h5,h6.fr hQ fun c hc => k c (by simp [hc]),h7,rfl⟩
theorem AccQ.lt (h : AccQ Q n H v s fp) : ∀ b ∈ fp,b < H.next:=by
  rcases h with ⟨_,_,rfl⟩ | ⟨b,cap,cs,rest,fp',l,h1,h2,h3,h4,h5,h6,h7,rfl⟩
  · intro b hb; simp at hb
  · intro c hc
    rcases List.mem_cons.1 hc with rfl | hc
    · exact h_lt' h4
    · exact h6.lt hQ c hc
theorem AccQ.own (h : AccQ Q n H v s fp) : ∃ fp',Own (d + 1) H v (slm f s) fp'∧∀ b ∈ fp',b ∈ fp:=by
  rcases h with ⟨rfl,rfl,rfl⟩ | ⟨b,cap,cs,rest,fp',l,rfl,rfl,h3,h4,h5,h6,h7,rfl⟩
  · exact ⟨[],⟨rfl,rfl⟩,fun _ h => h⟩
  · have hl:=h6.len hQ
    obtain ⟨g,o1,o2⟩:=h6.own hQ
    refine ⟨b :: g,.inr ⟨cs ++ rest,l.flatMap fun x => (f x).cells,g,h4,⟨hQ.row.1,h3⟩,(fun e => by cases e),by simp; omega,?_,fun hb => h7 (o2 b hb),row_one hQ.row,?_,rfl⟩,fun c hc => ?_⟩
    · have e : ((cs ++ rest).drop 0).take (l.length * n) = cs:=by
        rw [List.drop_zero,List.take_append_of_le_length (by omega),List.take_of_length_le (by omega)]
      rw [e]; exact o1
    · rw [rows_map hQ.row]; rfl
    · rcases List.mem_cons.1 hc with rfl | hc
      · simp
      · exact List.mem_cons_of_mem _ (o2 c hc)
theorem AccQ.frz (h : AccQ Q n H v s fp) (hd : d < 20) : Frz v H (slm f s):=by
  obtain ⟨fp',h1,_⟩:=h.own hQ
  exact OwnX.frz h1 hd
theorem AccQ.at_ (h : AccQ Q n H v s fp) {i : Nat} {x : α} (hx : s.l[i]? = some x) :
    ∃ b cap cs r g,v = .slice b 0 s.l.length cap n∧H.cells b = some cs∧i * n + n ≤ cs.length∧(cs.drop (i * n)).take n = r∧Q H r x g∧b ∈ fp∧b ∉ g∧(∀ c ∈ g,c ∈ fp) ∧
      ∀ H' r' x' g',Q H' r' x' g'→H'.cells b = some (splice cs (i * n) r')→(∀ c ∈ fp,c ∉ g→c ≠ b→H'.cells c = H.cells c)→(∀ c ∈ g',c ∈ g ∨ c ∉ fp) →
        ∃ fp',AccQ Q n H' v (some (s.l.set i x')) fp'∧∀ c ∈ fp',c ∈ g' ∨ c ∈ fp:=by
  rcases h with ⟨rfl,rfl,rfl⟩ | ⟨b,cap,cs,rest,fp',l,rfl,rfl,h3,h4,h5,h6,h7,rfl⟩
  · simp [Sl.l] at hx
  simp only [l_some] at hx ⊢
  obtain ⟨r,g,a1,a2,a3,a4,a5⟩:=h6.at_ hQ hx
  have hrl : r.length = n:=hQ.len a3
  have hl:=h6.len hQ
  refine ⟨b,cap,cs ++ rest,r,g,rfl,h4,by simp; omega,?_,a3,by simp,fun hb => h7 (a4 b hb),fun c hc => List.mem_cons_of_mem _ (a4 c hc),fun H' r' x' g' q k1 k2 k3 => ?_⟩
  · rw [List.drop_append_of_le_length (by omega),List.take_append_of_le_length (by simp; omega)]; exact a1
  · have hr':=hQ.len q
    have e : splice (cs ++ rest) (i * n) r' = cs.take (i * n) ++ (r' ++ (cs.drop (i * n)).drop n) ++ rest:=by
      unfold splice
      rw [List.take_append_of_le_length (by omega),hr',List.drop_append_of_le_length (by omega),List.drop_drop]
      simp
    rw [e] at k1
    obtain ⟨fp'',c1,c2⟩:=a5 H' r' x' g' q (fun c hc hc2 => k2 c (List.mem_cons_of_mem _ hc) hc2 fun e => h7 (e ▸ hc)) (fun c hc => (k3 c hc).imp id fun h h2 => h (List.mem_cons_of_mem _ h2))
    have nb : b ∉ fp'':=fun hb => by
      rcases c2 b hb with h | ⟨h,_⟩
      · rcases k3 b h with h | h
        · exact h7 (a4 b h)
        · exact h (by simp)
      · exact h7 h
    refine ⟨b :: fp'',.inr ⟨b,cap,_,rest,fp'',_,rfl,by rw [List.length_set],by rw [List.length_set]; exact h3,k1,by rw [List.length_set]; exact h5,c1,nb,rfl⟩,fun c hc => ?_⟩
    rcases List.mem_cons.1 hc with rfl | hc
    · exact .inr (by simp)
    · rcases c2 c hc with h | ⟨h,_⟩
      · exact .inl h
      · exact .inr (List.mem_cons_of_mem _ h)
theorem AccQ.app {bytes : Nat} {x : AV} {y : α} {r : List AV} {g : List Nat} (h : AccQ Q n H v s fp) (hm : alen x = some 1) (hx : asrc n H x 1 = some r) (hy : Q H r y g) (ha : Apart fp g) (hb : (2 * (s.l.length + 1) + 1000) * bytes ≤ 2 ^ 47)
    {K : AHeap→Prop} {R : AV→AHeap→Prop} {P : Program}
    (k : ∀ v' H' fp',AccQ Q n H' v' (some (s.l ++ [y])) fp'→H.next ≤ H'.next→(∀ b,b ∉ fp→b < H.next→H'.cells b = H.cells b)→(∀ b ∈ fp',b ∈ fp ∨ b ∈ g ∨ H.next ≤ b)→K H'∧R v' H') :
    wpOpt P pol K H R (appTo n bytes H v x):=by
  have hl1:=hQ.len hy
  have hn0:=hQ.row.1
  rcases h with ⟨rfl,rfl,rfl⟩ | ⟨b,cap,cs,rest,fp',l,rfl,rfl,h3,h4,h5,h6,h7,rfl⟩
  · have e : appTo n bytes H (.sc .nils) x = some (.new (.cells r) fun b => .slice b 0 1 1 n):=by
      simp only [appTo,hm,hx,Option.bind_some,if_neg (Nat.one_ne_zero)]
      rw [if_pos (by simpa [Sl.l] using hb)]
    rw [e]
    refine (k _ (H.alloc (.cells r)) (H.next :: (g ++ [])) (.inr ⟨H.next,1,r ++ [],[],g ++ [],[y],rfl,rfl,Nat.le_refl _,?_,by simp,?_,?_,rfl⟩) ?_ ?_ ?_).2
    · simp [h_alloc]
    · exact .cons (hQ.fr hy fun c hc => by rw [h_alloc,if_neg (by have:=hQ.lt hy c hc; omega)]) .nil Apart.nil_right
    · intro hc; have:=hQ.lt hy _ (by simpa using hc); omega
    · simp
    · intro c _ hc; rw [h_alloc,if_neg (by omega)]
    · intro c hc
      rcases List.mem_cons.1 hc with rfl | hc
      · exact .inr (.inr (Nat.le_refl _))
      · exact .inr (.inl (by simpa using hc))
  · have hlb:=h_lt' h4
    simp only [l_some] at hb k
    have hl:=h6.len hQ
    have hdis1 : b ∉ g:=ha b (by simp)
    have hdis2 : Apart fp' g:=fun c hc => ha c (by simp [hc])
    have e3 : (l.length + 1) * n = l.length * n + n:=by rw [Nat.succ_mul]
    by_cases hc : l.length + 1 ≤ cap
    · have e1 : (cap - l.length) * n = cap * n - l.length * n:=Nat.sub_mul _ _ _
      have e2 : (l.length + 1) * n ≤ cap * n:=Nat.mul_le_mul_right n hc
      have hbound : l.length * n + r.length ≤ (cs ++ rest).length:=by simp only [List.length_append]; omega
      have e : appTo n bytes H (.slice b 0 l.length cap n) x = some (.mem (.slice b 0 (l.length + 1) cap n) b (splice (cs ++ rest) (0 + l.length * n) r)):=by
        simp only [appTo,hm,hx,Option.bind_some,h4,ne_eq,not_true,if_false,if_pos hc]
        rw [if_pos (by simp only [List.length_append] at hbound ⊢; omega)]
      rw [e]
      have es : splice (cs ++ rest) (0 + l.length * n) r = (cs ++ r) ++ rest.drop r.length:=by
        unfold splice
        rw [Nat.zero_add,List.take_append_of_le_length (by omega),List.take_of_length_le (by omega),List.drop_append,List.drop_of_length_le (by omega)]
        simp; congr 1; omega
      rw [es]
      refine k _ _ (b :: (fp' ++ g)) (.inr ⟨b,cap,cs ++ r,rest.drop r.length,fp' ++ g,l ++ [y],rfl,by simp,by simpa using hc,?_,?_,?_,?_,rfl⟩) ?_ ?_ ?_
      · rw [h_put_self h4]
      · have e4 : (cap - (l ++ [y]).length) * n = cap * n - (l.length + 1) * n:=by rw [List.length_append,Nat.sub_mul]; rfl
        rw [e4]; simp; omega
      · refine Rows.fr hQ (Rows.snoc h6 hy hdis2) fun c hcc => ?_
        rw [h_put_ne]
        rcases List.mem_append.1 hcc with h | h
        · exact fun e => h7 (e ▸ h)
        · exact fun e => hdis1 (e ▸ h)
      · intro h
        rcases List.mem_append.1 h with h | h
        · exact h7 h
        · exact hdis1 h
      · simp
      · intro c hc1 hc2
        rw [h_put_ne fun e => hc1 (by simp [e])]
      · intro c hcc
        rcases List.mem_cons.1 hcc with rfl | hcc
        · exact .inl (by simp)
        · rcases List.mem_append.1 hcc with h | h
          · exact .inl (by simp [h])
          · exact .inr (.inl h)
    · have e : appTo n bytes H (.slice b 0 l.length cap n) x = some (.move (fun b' => .slice b' 0 (l.length + 1) (l.length + 1) n) b ((cs ++ rest).take (l.length * n) ++ r)):=by
        simp only [appTo,hm,hx,Option.bind_some,h4,ne_eq,not_true,if_false,if_neg hc,true_and]
        rw [if_pos ⟨hb,by simp; omega⟩]
      rw [e]
      have es : (cs ++ rest).take (l.length * n) = cs:=by rw [List.take_append_of_le_length (by omega),List.take_of_length_le (by omega)]
      rw [es]
      have keep : ∀ c,c ≠ b→c < H.next→((H.put b none).alloc (.cells (cs ++ r))).cells c = H.cells c:=fun c h1 h2 => by
        rw [c_alloc_ne (by simp; omega),c_put_ne h1]
      refine k _ _ (H.next :: (fp' ++ g)) (.inr ⟨H.next,l.length + 1,cs ++ r,[],fp' ++ g,l ++ [y],rfl,by simp,by simp,?_,by simp,?_,?_,rfl⟩) ?_ ?_ ?_
      · rw [h_alloc,if_pos (by simp)]; simp
      · refine Rows.fr hQ (Rows.snoc h6 hy hdis2) fun c hcc => ?_
        rcases List.mem_append.1 hcc with h | h
        · exact keep c (fun e => h7 (e ▸ h)) (h6.lt hQ c h)
        · exact keep c (fun e => hdis1 (e ▸ h)) (hQ.lt hy c h)
      · intro h
        rcases List.mem_append.1 h with h | h
        · have:=h6.lt hQ _ h; omega
        · have:=hQ.lt hy _ h; omega
      · simp
      · intro c hc1 hc2
        exact keep c (fun e => hc1 (by simp [e])) hc2
      · intro c hcc
        rcases List.mem_cons.1 hcc with rfl | hcc
        · exact .inr (.inr (Nat.le_refl _))
        · rcases List.mem_append.1 hcc with h | h
          · exact .inl (by simp [h])
          · exact .inr (.inl h)
theorem wA_appQ {bytes : Nat} {P : Program} {is : List CI} {dst : Option Tmp} {rd : List COp} {R : List AV→AHeap→Prop} {z : AV} {t : List AV} {H0 : AHeap} {x : AV} {y : α} {r : List AV} {g : List Nat}
    (h : AccQ Q n H0 v s fp) (hK : ∀ b ∈ fp,H.cells b = H0.cells b) (hm : alen x = some 1) (hx : asrc n H x 1 = some r) (hy : Q H r y g) (ha : Apart fp g) (hb : (2 * (s.l.length + 1) + 1000) * bytes ≤ 2 ^ 47)
    (k : ∀ v' H' fp',AccQ Q n H' v' (some (s.l ++ [y])) fp'→H.next ≤ H'.next→(∀ b,b ∉ fp→b < H.next→H'.cells b = H.cells b)→(∀ b ∈ fp',b ∈ fp ∨ b ∈ g ∨ H.next ≤ b)→v'.one = true→v'.cells = [v'] →
      reK P (z :: t) H rd H'∧wpIns P pol is (putT (z :: t) dst v') H' R) :
    wA P pol rd is dst (z :: t) H R (some true) (appTo n bytes H v x) :=
  AccQ.app hQ (P:=P) (pol:=pol) (R:=fun v' H' => wpIns P pol is (putT (z :: t) dst v') H' R) (h.fr hQ hK) hm hx hy ha hb fun v' H' fp' a1 a2 a3 a4 => k v' H' fp' a1 a2 a3 a4 a1.one.1 a1.one.2
end
end Go.Hem
namespace Go.Hem
variable {pol : Pol}
def sclCode (n bytes : Nat) : CF:=⟨.seq (.ops [⟨some 2,none,.mv (.const (.slice none 0 0)),[]⟩]) (.seq (.seq (.ops [⟨some 3,none,.mv (.tmp 0),[]⟩,⟨some 4,none,.bnil false .slice (.tmp 3) (.const (.slice none 0 0)),[]⟩]) (.cond (.tmp 4) (.seq (.ops [⟨some 2,none,.mv (.const (.slice none 0 0)),[]⟩]) .ret) .skip)) (.seq (.ops [⟨some 5,none,.eslice 0 n,[]⟩,⟨some 6,none,.mv (.tmp 0),[]⟩,⟨some 7,none,.app n bytes (.tmp 5) (.tmp 6),[]⟩,⟨some 2,none,.mv (.tmp 7),[]⟩]) .ret)),8,[.tmp 2]⟩
theorem sclone_ok {α : Type} {f : α→AV} {n bytes : Nat} {fn : FuncId} (row : RowOf n f) (hlen : ∀ x,(f x).cells.length = n) (hsc : ∀ x,(f x).cells.all AV.isSc = true) (hf : compF prog fn = some (sclCode n bytes)) (a : Sl α) (ha : a.l.length < 1000000) (hb : bytes ≤ 1000) (H0 : AHeap) :
    Ev prog polS (.call fn [slm f a]) H0 fun o H' => ∃ v fp,o = .val v∧AccX false 1 n f H' v a fp∧Fresh H0 H' fp:=by
  refine (wpF_ok hf (Q:=fun v H' => ∃ fp,AccX false 1 n f H' v a fp∧Fresh H0 H' fp) ?_).mono ?_
  rotate_left
  · rintro o H' ⟨v,rfl,fp,h⟩; exact ⟨v,fp,rfl,h⟩
  cases a with
  | none =>
    simp -implicitDefEqProofs (maxDischargeDepth:=12) only [wpF,sclCode,WW,List.replicate,Option.some_or,s_conv,e_conv,s_slc3,e_cut3,e_cut3n,e_bns,e_bnn,e_splice,if_true,if_false,ite_true,ite_false,true_or,ne_eq,seval,h_putc,beq_self_eq_true,eq_self,exists_eq_left,exists_eq_left',Option.isNone_none,Bool.bne_false]
    exact ⟨[],acc_none,by simp,Nat.le_refl _,Keep.refl⟩
  | some l =>
    simp only [Sl.l,Option.getD_some] at ha
    have e1 : alen (slm f (some l)) = some l.length:=by rw [e_alenm]; rfl
    have e2 : asrc n (H0.alloc (.cells [])) (slm f (some l)) l.length = some (l.flatMap fun v => (f v).cells):=by
      rw [e_srcm hlen (by simp [Sl.l])]; simp [Sl.l]
    have hbig : (2 * (0 + l.length) + 1000) * bytes ≤ 2 ^ 47:=by
      have : (2 * (0 + l.length) + 1000) * bytes ≤ (2 * (0 + l.length) + 1000) * 1000:=Nat.mul_le_mul_left _ hb
      omega
    have own : ∀ H,OwnL (OwnX false 1) H (l.flatMap fun x => (f x).cells) (l.flatMap fun x => (f x).cells) []:=fun H => OwnL.scal (by
      simp only [List.all_eq_true]
      intro v hv
      obtain ⟨x,_,hx⟩:=List.mem_flatMap.1 hv
      exact List.all_eq_true.1 (hsc x) v hx)
    by_cases h0 : l = []
    · subst h0
      have e1' : alen (slm f (some [])) = some 0:=rfl
      have e2' : asrc n (H0.alloc (.cells [])) (slm f (some [])) 0 = some []:=by simpa using e2
      have sp : splice [] 0 [] = ([] : List AV):=rfl
      simp -implicitDefEqProofs (maxDischargeDepth:=12) only [wpF,sclCode,WW,List.replicate,Option.some_or,s_conv,e_conv,s_slc3,e_cut3,e_cut3n,e_bns,e_bnn,e_splice,if_true,if_false,ite_true,ite_false,true_or,ne_eq,seval,h_putc,beq_self_eq_true,eq_self,exists_eq_left,exists_eq_left',Option.isNone_some,Bool.bne_false,appTo,e1',e2',Nat.zero_mul,sp]
      refine ⟨[H0.next],.inr ⟨H0.next,0,[],[],[],[],rfl,rfl,Nat.le_refl _,?_,by simp,by simp,.nil,by simp,rfl⟩,by simp,by simp,(by repeat (first | exact Keep.refl | refine Keep.put (by (try simp only [AHeap.next_alloc,AHeap.next_put]); omega) ?_ | refine Keep.alloc (by (try simp only [AHeap.next_alloc,AHeap.next_put]); omega) ?_))⟩
      simp -implicitDefEqProofs (maxDischargeDepth:=12) only [WW,List.replicate,Option.some_or,s_conv,e_conv,s_slc3,e_cut3,e_cut3n,e_bns,e_bnn,e_splice,if_true,if_false,ite_true,ite_false,true_or,ne_eq,seval,h_putc,beq_self_eq_true,eq_self,exists_eq_left,exists_eq_left']
    · have h1 : ¬ l.length = 0:=by simpa using h0
      have h2 : ¬ (0 + l.length ≤ 0):=by omega
      have h3 : ¬ (l.length ≤ 0):=by omega
      have hb2:=hbig
      rw [Nat.zero_add] at hb2
      simp -implicitDefEqProofs (maxDischargeDepth:=12) only [wpF,sclCode,WW,List.replicate,Option.some_or,s_conv,e_conv,s_slc3,e_cut3,e_cut3n,e_bns,e_bnn,e_splice,if_true,if_false,ite_true,ite_false,true_or,ne_eq,seval,h_putc,beq_self_eq_true,eq_self,exists_eq_left,exists_eq_left',Option.isNone_some,Bool.bne_false,appTo,e1,e2,h2,h3,hbig,hb2,Nat.zero_mul]
      refine ⟨[H0.next + 1],.inr ⟨H0.next + 1,l.length,_,[],[],l,rfl,rfl,Nat.le_refl _,by simp -implicitDefEqProofs (maxDischargeDepth:=12) only [WW,List.replicate,Option.some_or,s_conv,e_conv,s_slc3,e_cut3,e_cut3n,e_bns,e_bnn,e_splice,if_true,if_false,ite_true,ite_false,true_or,ne_eq,seval,h_putc,beq_self_eq_true,eq_self,exists_eq_left,exists_eq_left'],flat_len row l,by simp,own _,by simp,rfl⟩,by simp,by simp only [AHeap.next_alloc,AHeap.next_put]; omega,(by repeat (first | exact Keep.refl | refine Keep.put (by (try simp only [AHeap.next_alloc,AHeap.next_put]); omega) ?_ | refine Keep.alloc (by (try simp only [AHeap.next_alloc,AHeap.next_put]); omega) ?_))⟩
theorem get_of_cut {cs r : List AV} {o n j : Nat} {u : AV} (h : (cs.drop o).take n = r) (hj : r[j]? = some u) : cs[o + j]? = some u:=by
  subst h
  rw [List.getElem?_take] at hj
  split at hj
  · rw [List.getElem?_drop] at hj; exact hj
  · cases hj
theorem splice_set {cs : List AV} {o : Nat} {w : AV} (h : o + 1 ≤ cs.length) : splice cs o [w] = cs.set o w:=by
  unfold splice
  simp only [List.length_cons,List.length_nil,Nat.zero_add]
  rw [List.set_eq_take_append_cons_drop,if_pos (by omega)]
  simp
theorem splice_one {cs r : List AV} {o n j : Nat} {w : AV} (h : (cs.drop o).take n = r) (hl : o + n ≤ cs.length) (hj : j < n) : splice cs (o + j) [w] = splice cs o (r.set j w):=by
  have hr : r.length = n:=by subst h; simp; omega
  rw [splice_set (by omega)]
  have e : cs = cs.take o ++ (r ++ cs.drop (o + n)):=by
    rw [← h,← List.drop_drop,List.take_append_drop,List.take_append_drop]
  have ho : (cs.take o).length = o:=by simp; omega
  unfold splice
  rw [List.length_set,hr]
  conv => lhs; rw [e]
  rw [List.set_append_right _ _ (by omega),ho,Nat.add_sub_cancel_left,List.set_append_left _ _ (by omega),List.append_assoc]
theorem splice_same {cs : List AV} {o n : Nat} (h : o + n ≤ cs.length) : splice cs o ((cs.drop o).take n) = cs:=by
  unfold splice
  have e : ((cs.drop o).take n).length = n:=by simp; omega
  rw [e,← List.drop_drop,List.append_assoc,List.take_append_drop,List.take_append_drop]
section
variable {α : Type} {n d : Nat} {f : α→AV} {Q : RQ α} (hQ : RowQ n d f Q) {H H' : AHeap} {v : AV} {s : Sl α} {fp : List Nat}
include hQ
theorem AccQ.cell (h : AccQ Q n H v s fp) {i : Nat} {x : α} (hx : s.l[i]? = some x) :
    ∃ b cap cs r g,v = .slice b 0 s.l.length cap n∧H.cells b = some cs∧i * n + n ≤ cs.length∧(∀ j u,r[j]? = some u→cs[i * n + j]? = some u)∧(cs.drop (i * n)).take n = r∧Q H r x g∧b ∈ fp∧b ∉ g∧(∀ c ∈ g,c ∈ fp) ∧
      (∀ j w x',j < n→(∀ H',(∀ c ∈ g,H'.cells c = H.cells c)→Q H' (r.set j w) x' g)→∃ fp',AccQ Q n (H.put b (some (.cells (splice cs (i * n + j) [w])))) v (some (s.l.set i x')) fp'∧∀ c ∈ fp',c ∈ fp) ∧
      (∀ H' x' g',Q H' r x' g'→(∀ c ∈ fp,c ∉ g→H'.cells c = H.cells c)→(∀ c ∈ g',c ∈ g ∨ c ∉ fp)→∃ fp',AccQ Q n H' v (some (s.l.set i x')) fp'∧∀ c ∈ fp',c ∈ g' ∨ c ∈ fp):=by
  obtain ⟨b,cap,cs,r,g,e1,e2,e3,e4,e5,e6,e7,e8,e9⟩:=h.at_ hQ hx
  refine ⟨b,cap,cs,r,g,e1,e2,e3,fun j u hj => get_of_cut e4 hj,e4,e5,e6,e7,e8,fun j w x' hj hq => ?_,fun H' x' g' hq k1 k2 => ?_⟩
  · obtain ⟨fp',a1,a2⟩:=e9 (H.put b (some (.cells (splice cs (i * n + j) [w])))) (r.set j w) x' g (hq _ fun c hc => c_put_ne fun e => e7 (e ▸ hc)) (by rw [h_put_self e2,splice_one e4 e3 hj]) (fun c _ _ hc => c_put_ne hc) (fun c hc => .inl hc)
    exact ⟨fp',a1,fun c hc => (a2 c hc).elim (e8 c) id⟩
  · exact e9 H' r x' g' hq (by rw [k1 b e6 e7,e2,← e4,splice_same e3]) (fun c hc hc2 _ => k1 c hc hc2) k2
end
def HeadQ : RQ Head:=fun _ r h g => r = h.enc.cells∧g = []
theorem row_Head : RowOf 5 Head.enc:=⟨by decide,fun _ => ⟨rfl,rfl⟩⟩
theorem headQ : RowQ 5 1 Head.enc HeadQ where
  row:=row_Head
  len:=by rintro H r x g ⟨rfl,rfl⟩; rfl
  fr:=by rintro H H' r x g h _; exact h
  lt:=by rintro H r x g ⟨rfl,rfl⟩ b hb; simp at hb
  own:=by rintro H r x g ⟨rfl,rfl⟩; exact ⟨[],OwnL.scal rfl,fun _ h => h⟩
theorem rows_heads {H : AHeap} : ∀ {l : List Head},Rows HeadQ H (l.flatMap fun x => (Head.enc x).cells) l []
  | [] => .nil
  | h :: l => Rows.cons (Q:=HeadQ) (g:=[]) ⟨rfl,rfl⟩ rows_heads Apart.nil_left
theorem acc_heads {I : Bool} {H : AHeap} {v : AV} {s : Sl Head} {fp : List Nat} (h : AccX I 1 5 Head.enc H v s fp) : AccQ HeadQ 5 H v s fp:=by
  rcases h with h | ⟨b,cap,cs,rest,fp',l,h1,h2,h3,h4,h5,h6,h7,h8,h9⟩
  · exact .inl h
  · obtain ⟨rfl,rfl⟩:=own_scs h7 fun u hu => by
      obtain ⟨x,_,hx⟩:=List.mem_flatMap.1 hu
      simp only [x.enc_eq,c_agg,List.mem_cons,List.not_mem_nil,or_false] at hx
      rcases hx with rfl | rfl | rfl | rfl | rfl <;> exact ⟨_,rfl⟩
    exact .inr ⟨b,cap,_,rest,[],l,h1,h2,h3,h4,h6,rows_heads,h8,h9⟩
def NoteQ : RQ Note:=fun H r x g => ∃ hv gv lv fh fg fl,r = [intE x.at_,intE x.len,hv,gv,intE x.articulations,intE x.ornament,intE x.dynamic,lv]∧AccQ HeadQ 5 H hv x.heads fh∧Own 3 H gv (slm Grace.enc x.graces) fg∧Own 3 H lv (slm Syllable.enc x.lyrics) fl ∧
  gv.one = true∧lv.one = true∧Apart fh fg∧Apart fh fl∧Apart fg fl∧g = fh ++ (fg ++ fl)
theorem row_Note : RowOf 8 Note.enc:=⟨by decide,fun _ => ⟨rfl,rfl⟩⟩
theorem mem3 {a b c : List Nat} {x : Nat} : x ∈ a ++ (b ++ c) ↔ x ∈ a ∨ x ∈ b ∨ x ∈ c:=by simp
theorem noteQ : RowQ 8 3 Note.enc NoteQ where
  row:=row_Note
  len:=by rintro H r x g ⟨hv,gv,lv,fh,fg,fl,rfl,_⟩; rfl
  fr:=by
    rintro H H' r x g ⟨hv,gv,lv,fh,fg,fl,e,h1,h2,h3,h4,h5,h6,h7,h8,rfl⟩ k
    exact ⟨hv,gv,lv,fh,fg,fl,e,h1.fr headQ fun b hb => k b (mem3.2 (.inl hb)),h2.frame fun b hb => k b (mem3.2 (.inr (.inl hb))),h3.frame fun b hb => k b (mem3.2 (.inr (.inr hb))),h4,h5,h6,h7,h8,rfl⟩
  lt:=by
    rintro H r x g ⟨hv,gv,lv,fh,fg,fl,e,h1,h2,h3,h4,h5,h6,h7,h8,rfl⟩ b hb
    rcases mem3.1 hb with hb | hb | hb
    · exact h1.lt headQ b hb
    · exact OwnX.lt h2 b hb
    · exact OwnX.lt h3 b hb
  own:=by
    rintro H r x g ⟨hv,gv,lv,fh,fg,fl,rfl,h1,h2,h3,h4,h5,h6,h7,h8,rfl⟩
    obtain ⟨f1,o1,k1⟩:=h1.own headQ
    refine ⟨f1 ++ (fg ++ fl),?_,fun b hb => mem3.2 ((mem3.1 hb).imp (k1 b) id)⟩
    have e : OwnL (Own 3) H [intE x.at_,intE x.len,hv,gv,intE x.articulations,intE x.ornament,intE x.dynamic,lv] (Note.enc x).cells ([] ++ ([] ++ (f1 ++ (fg ++ ([] ++ ([] ++ ([] ++ (fl ++ [])))))))) :=
      .cons OwnX.scal (.cons OwnX.scal (.cons (o1.mono (by decide)) (.cons h2 (.cons OwnX.scal (.cons OwnX.scal (.cons OwnX.scal (.cons h3 .nil Apart.nil_right) Apart.nil_left) Apart.nil_left) Apart.nil_left) ?_) ?_) Apart.nil_left) Apart.nil_left
    · simpa using e
    · simpa using h8
    · intro b hb hb2
      simp only [List.nil_append,List.append_nil,List.mem_append] at hb2
      rcases hb2 with h | h
      · exact h6 b (k1 b hb) h
      · exact h7 b (k1 b hb) h
theorem NoteQ.ones {H : AHeap} {r : List AV} {x : Note} {g : List Nat} (h : NoteQ H r x g) : AV.ones r = true:=by
  obtain ⟨hv,gv,lv,fh,fg,fl,rfl,h1,h2,h3,h4,h5,_⟩:=h
  simp only [AV.ones,List.all_cons,List.all_nil,intE,o_int,h1.one.1,h4,h5,Bool.and_self]
end Go.Hem
namespace Go.Hem
structure Note.tame (x : Note) : Prop where
  heads : x.heads.l.length < 1000000
  graces : x.graces.l.length < 1000000
  lyrics : x.lyrics.l.length < 1000000
  text : ∀ s ∈ x.lyrics.l,s.text.size < 1000000
theorem row_Grace : RowOf 5 Grace.enc:=⟨by decide,fun _ => ⟨rfl,rfl⟩⟩
theorem row_Syllable : RowOf 2 Syllable.enc:=⟨by decide,fun _ => ⟨rfl,rfl⟩⟩
theorem sclHead_ok (a : Sl Head) (ha : a.l.length < 1000000) (H0 : AHeap) : Ev prog polS (.call 48 [slm Head.enc a]) H0 fun o H' => ∃ v fp,o = .val v∧AccX false 1 5 Head.enc H' v a fp∧Fresh H0 H' fp :=
  sclone_ok row_Head Head.enc_len (fun _ => rfl) (bytes:=40) ok48 a ha (by decide) H0
theorem sclGrace_ok (a : Sl Grace) (ha : a.l.length < 1000000) (H0 : AHeap) : Ev prog polS (.call 49 [slm Grace.enc a]) H0 fun o H' => ∃ v fp,o = .val v∧AccX false 1 5 Grace.enc H' v a fp∧Fresh H0 H' fp :=
  sclone_ok row_Grace Grace.enc_len (fun _ => rfl) (bytes:=40) ok49 a ha (by decide) H0
theorem sclSyllable_ok (a : Sl Syllable) (ha : a.l.length < 1000000) (H0 : AHeap) : Ev prog polS (.call 50 [slm Syllable.enc a]) H0 fun o H' => ∃ v fp,o = .val v∧AccX false 1 2 Syllable.enc H' v a fp∧Fresh H0 H' fp :=
  sclone_ok row_Syllable Syllable.enc_len (fun _ => rfl) (bytes:=24) ok50 a ha (by decide) H0
structure Three (x : Note) (H1 H : AHeap) (hv gv lv : AV) (fh fg fl : List Nat) : Prop where
  h : AccX false 1 5 Head.enc H hv x.heads fh
  g : AccX false 1 5 Grace.enc H gv x.graces fg
  l : AccX false 1 2 Syllable.enc H lv x.lyrics fl
  lt : H1.next ≤ H.next
  lh : ∀ b ∈ fh,H1.next ≤ b
  lg : ∀ b ∈ fg,H1.next ≤ b
  ll : ∀ b ∈ fl,H1.next ≤ b
  hg : Apart fh fg
  hl : Apart fh fl
  gl : Apart fg fl
theorem three_of {x : Note} {H1 H2 H3 H4 : AHeap} {hv gv lv : AV} {fh fg fl : List Nat} (a : AccX false 1 5 Head.enc H2 hv x.heads fh) (fa : Fresh H1 H2 fh) (b : AccX false 1 5 Grace.enc H3 gv x.graces fg) (fb : Fresh H2 H3 fg) (c : AccX false 1 2 Syllable.enc H4 lv x.lyrics fl) (fc : Fresh H3 H4 fl) : Three x H1 H4 hv gv lv fh fg fl∧Keep H1.next H1 H4:=by
  obtain ⟨a1,a2,a3⟩:=fa
  obtain ⟨b1,b2,b3⟩:=fb
  obtain ⟨c1,c2,c3⟩:=fc
  have la:=a.lts
  have lb:=b.lts
  exact ⟨⟨(a.keep b3).keep c3,b.keep c3,c,by omega,a1,fun q hq => by have:=b1 q hq; omega,fun q hq => by have:=c1 q hq; omega,
    fun q h1 h2 => by have:=la q h1; have:=b1 q h2; omega,fun q h1 h2 => by have:=la q h1; have:=c1 q h2; omega,fun q h1 h2 => by have:=lb q h1; have:=c1 q h2; omega⟩,fun q hq => by rw [c3 q (by omega),b3 q (by omega),a3 q hq]⟩
theorem Three.fr {x : Note} {H1 H H' : AHeap} {hv gv lv : AV} {fh fg fl : List Nat} (t : Three x H1 H hv gv lv fh fg fl) (k : ∀ b,H1.next ≤ b→H'.cells b = H.cells b) (hn : H.next ≤ H'.next) : Three x H1 H' hv gv lv fh fg fl :=
  ⟨t.h.fr fun b hb => k b (t.lh b hb),t.g.fr fun b hb => k b (t.lg b hb),t.l.fr fun b hb => k b (t.ll b hb),by have:=t.lt; omega,t.lh,t.lg,t.ll,t.hg,t.hl,t.gl⟩
theorem Three.note {x : Note} {H1 H : AHeap} {hv gv lv : AV} {fh fg fl : List Nat} (t : Three x H1 H hv gv lv fh fg fl) : ∃ g,NoteQ H [intE x.at_,intE x.len,hv,gv,intE x.articulations,intE x.ornament,intE x.dynamic,lv] x g∧∀ b ∈ g,b ∈ fh ∨ b ∈ fg ∨ b ∈ fl:=by
  obtain ⟨f2,o2,k2⟩:=t.g.own row_Grace
  obtain ⟨f3,o3,k3⟩:=t.l.own row_Syllable
  exact ⟨_,⟨hv,gv,lv,fh,f2,f3,rfl,acc_heads t.h,o2.up.mono (by decide),o3.up.mono (by decide),t.g.one,t.l.one,fun b h1 h2 => t.hg b h1 (k2 b h2),fun b h1 h2 => t.hl b h1 (k3 b h2),fun b h1 h2 => t.gl b (k2 b h1) (k3 b h2),rfl⟩,
    fun b hb => (mem3.1 hb).imp id fun h => h.imp (k2 b) (k3 b)⟩
def RowPost (H0 : AHeap) (x : Note) (o : Out) (H' : AHeap) : Prop:=∃ r g,o = .val (.agg r)∧NoteQ H' r x g∧Fresh H0 H' g
theorem clone_ok (x : Note) (hx : x.tame) (H0 : AHeap) : Ev prog polS (.call 26 [x.enc]) H0 (RowPost H0 x):=by
  refine (wpF_ok ok26 (Q:=fun v H' => ∃ r g,v = .agg r∧NoteQ H' r x g∧Fresh H0 H' g) ?_).mono ?_
  rotate_left
  · rintro o H' ⟨v,rfl,r,g,rfl,h⟩; exact ⟨r,g,rfl,h⟩
  generalize hq : H0.next = q
  simp -implicitDefEqProofs (maxDischargeDepth:=12) only [wpF,cf26,WW,List.replicate,Option.some_or,s_conv,e_conv,s_slc3,e_cut3,e_cut3n,e_bns,e_bnn,e_splice,if_true,if_false,ite_true,ite_false,true_or,ne_eq,seval,h_putc,beq_self_eq_true,eq_self,exists_eq_left,exists_eq_left',x.enc_eq,nq1,mq1,addq,hq]
  generalize hH1 : AHeap.alloc (AHeap.alloc H0 _) _ = H1
  have n1 : H1.next = q + 2:=by subst hH1; simp only [AHeap.next_alloc,hq]
  have b0:=congrArg (fun H => AHeap.cells H q) hH1
  have b1:=congrArg (fun H => AHeap.cells H (q + 1)) hH1
  have kp : Keep q H0 H1:=by subst hH1; exact fun b hb => by rw [c_alloc_ne (by simp only [AHeap.next_alloc]; omega),c_alloc_ne (by omega)]
  simp -implicitDefEqProofs (maxDischargeDepth:=12) only [WW,List.replicate,Option.some_or,s_conv,e_conv,s_slc3,e_cut3,e_cut3n,e_bns,e_bnn,e_splice,if_true,if_false,ite_true,ite_false,true_or,ne_eq,seval,h_putc,beq_self_eq_true,eq_self,exists_eq_left,exists_eq_left',nq1,mq1,addq,hq] at b0 b1
  clear hH1
  replace b0:=b0.symm
  replace b1:=b1.symm
  refine wA_call rfl ((sclHead_ok x.heads hx.heads _).mono ?_)
  rintro o H2 ⟨hv,fh,rfl,hA,hF⟩
  refine ⟨_,rfl,?_⟩
  have hN1:=hF.2.1
  have c0:=(hF.2.2 q (by omega)).trans b0
  have c1:=(hF.2.2 (q + 1) (by omega)).trans b1
  simp -implicitDefEqProofs (maxDischargeDepth:=12) only [WW,List.replicate,Option.some_or,s_conv,e_conv,s_slc3,e_cut3,e_cut3n,e_bns,e_bnn,e_splice,if_true,if_false,ite_true,ite_false,true_or,ne_eq,seval,h_putc,beq_self_eq_true,eq_self,exists_eq_left,exists_eq_left',nq1,mq1,addq,b0,b1,c0,c1]
  refine wA_call rfl ((sclGrace_ok x.graces hx.graces _).mono ?_)
  rintro o H3 ⟨gv,fg,rfl,gA,gF⟩
  refine ⟨_,rfl,?_⟩
  have hN2:=gF.2.1
  have d0:=(gF.2.2 q (by omega)).trans c0
  have d1:=(gF.2.2 (q + 1) (by omega)).trans c1
  simp -implicitDefEqProofs (maxDischargeDepth:=12) only [WW,List.replicate,Option.some_or,s_conv,e_conv,s_slc3,e_cut3,e_cut3n,e_bns,e_bnn,e_splice,if_true,if_false,ite_true,ite_false,true_or,ne_eq,seval,h_putc,beq_self_eq_true,eq_self,exists_eq_left,exists_eq_left',nq1,mq1,addq,c0,c1,d0,d1]
  refine wA_call rfl ((sclSyllable_ok x.lyrics hx.lyrics _).mono ?_)
  rintro o H4 ⟨lv,fl,rfl,lA,lF⟩
  refine ⟨_,rfl,?_⟩
  have hN3:=lF.2.1
  have e0:=(lF.2.2 q (by omega)).trans d0
  have e1:=(lF.2.2 (q + 1) (by omega)).trans d1
  obtain ⟨T,tk⟩:=three_of hA hF gA gF lA lF
  have kp4 : Keep q H0 H4:=fun b hb => by rw [tk b (by omega),kp b hb]
  have tn:=T.lt
  simp -implicitDefEqProofs (maxDischargeDepth:=12) only [WW,List.replicate,Option.some_or,s_conv,e_conv,s_slc3,e_cut3,e_cut3n,e_bns,e_bnn,e_splice,if_true,if_false,ite_true,ite_false,true_or,ne_eq,seval,h_putc,beq_self_eq_true,eq_self,exists_eq_left,exists_eq_left',nq1,mq1,addq,d0,d1,e0,e1,hA.one,hA.cells,gA.one,gA.cells,lA.one,lA.cells]
  generalize hH5 : AHeap.put _ (q + 1) _ = H5
  have n5 : H5.next = H4.next:=by subst hH5; simp only [AHeap.next_put]
  have k5 : ∀ b,b ≠ q→b ≠ q + 1→H5.cells b = H4.cells b:=fun b h1 h2 => by subst hH5; simp only [c_put_ne h1,c_put_ne h2]
  obtain ⟨g,hn,hg⟩:=(T.fr (H':=H5) (fun b hb => k5 b (by omega) (by omega)) (by omega)).note
  refine ⟨_,g,rfl,hn,fun b hb => ?_,by omega,fun b hb => ?_⟩
  · rcases hg b hb with h | h | h
    · have:=T.lh b h; omega
    · have:=T.lg b h; omega
    · have:=T.ll b h; omega
  · rw [k5 b (by omega) (by omega),kp4 b (by omega)]
def Note.chord (x : Note) : Event:={ id:=⟨0,0⟩,kind:=1,value:=⟨0,0⟩,heads:=x.heads,graces:=x.graces,articulations:=x.articulations,ornament:=x.ornament,dynamic:=x.dynamic,lyrics:=x.lyrics,stem:=0,beam:=0 }
theorem rchord_pv (x : Note) : Pv prog polS 32 [x.enc] x.chord.enc:=by
  refine Pv_of' ok32 (by simp only [AV.closedBs,Note.enc_closed,Bool.and_self]) ?_
  simp -implicitDefEqProofs (maxDischargeDepth:=12) only [wpF,cf32,WW,List.replicate,Option.some_or,s_conv,e_conv,s_slc3,e_cut3,e_cut3n,e_bns,e_bnn,e_splice,if_true,if_false,ite_true,ite_false,true_or,ne_eq,seval,h_putc,beq_self_eq_true,eq_self,exists_eq_left,exists_eq_left',x.enc_eq]
  exact frz_plain rfl (Event.enc_plain x.chord)
theorem chord_pv (x : Note) (hx : x.tame) : Pv prog polS 35 [x.enc] x.chord.enc:=by
  refine Pv_of' ok35 (by simp only [AV.closedBs,Note.enc_closed,Bool.and_self]) ?_
  generalize hH0 : ({} : AHeap) = H0
  have hq : H0.next = 0:=by subst hH0; rfl
  generalize hq' : (0 : Nat) = q at hq
  have:=x.enc_eq
  simp -implicitDefEqProofs (maxDischargeDepth:=12) only [wpF,cf35,WW,List.replicate,Option.some_or,s_conv,e_conv,s_slc3,e_cut3,e_cut3n,e_bns,e_bnn,e_splice,if_true,if_false,ite_true,ite_false,true_or,ne_eq,seval,h_putc,beq_self_eq_true,eq_self,exists_eq_left,exists_eq_left',x.enc_eq,nq1,mq1,addq,hq]
  generalize hH1 : AHeap.alloc (AHeap.alloc H0 _) _ = H1
  have n1 : H1.next = q + 2:=by subst hH1; simp only [AHeap.next_alloc,hq]
  have b0:=congrArg (fun H => AHeap.cells H q) hH1
  have b1:=congrArg (fun H => AHeap.cells H (q + 1)) hH1
  have kp : Keep q H0 H1:=by subst hH1; exact fun b hb => by rw [c_alloc_ne (by simp only [AHeap.next_alloc]; omega),c_alloc_ne (by omega)]
  simp -implicitDefEqProofs (maxDischargeDepth:=12) only [WW,List.replicate,Option.some_or,s_conv,e_conv,s_slc3,e_cut3,e_cut3n,e_bns,e_bnn,e_splice,if_true,if_false,ite_true,ite_false,true_or,ne_eq,seval,h_putc,beq_self_eq_true,eq_self,exists_eq_left,exists_eq_left',nq1,mq1,addq,hq] at b0 b1
  clear hH1
  replace b0:=b0.symm
  replace b1:=b1.symm
  refine wA_call rfl ((sclHead_ok x.heads hx.heads _).mono ?_)
  rintro o H2 ⟨hv,fh,rfl,hA,hF⟩
  refine ⟨_,rfl,?_⟩
  have hN1:=hF.2.1
  have c0:=(hF.2.2 q (by omega)).trans b0
  have c1:=(hF.2.2 (q + 1) (by omega)).trans b1
  simp -implicitDefEqProofs (maxDischargeDepth:=12) only [WW,List.replicate,Option.some_or,s_conv,e_conv,s_slc3,e_cut3,e_cut3n,e_bns,e_bnn,e_splice,if_true,if_false,ite_true,ite_false,true_or,ne_eq,seval,h_putc,beq_self_eq_true,eq_self,exists_eq_left,exists_eq_left',nq1,mq1,addq,b0,b1,c0,c1]
  refine wA_call rfl ((sclGrace_ok x.graces hx.graces _).mono ?_)
  rintro o H3 ⟨gv,fg,rfl,gA,gF⟩
  refine ⟨_,rfl,?_⟩
  have hN2:=gF.2.1
  have d0:=(gF.2.2 q (by omega)).trans c0
  have d1:=(gF.2.2 (q + 1) (by omega)).trans c1
  simp -implicitDefEqProofs (maxDischargeDepth:=12) only [WW,List.replicate,Option.some_or,s_conv,e_conv,s_slc3,e_cut3,e_cut3n,e_bns,e_bnn,e_splice,if_true,if_false,ite_true,ite_false,true_or,ne_eq,seval,h_putc,beq_self_eq_true,eq_self,exists_eq_left,exists_eq_left',nq1,mq1,addq,c0,c1,d0,d1]
  refine wA_call rfl ((sclSyllable_ok x.lyrics hx.lyrics _).mono ?_)
  rintro o H4 ⟨lv,fl,rfl,lA,lF⟩
  refine ⟨_,rfl,?_⟩
  have hN3:=lF.2.1
  have e0:=(lF.2.2 q (by omega)).trans d0
  have e1:=(lF.2.2 (q + 1) (by omega)).trans d1
  obtain ⟨T,tk⟩:=three_of hA hF gA gF lA lF
  have kp4 : Keep q H0 H4:=fun b hb => by rw [tk b (by omega),kp b hb]
  have tn:=T.lt
  simp -implicitDefEqProofs (maxDischargeDepth:=12) only [WW,List.replicate,Option.some_or,s_conv,e_conv,s_slc3,e_cut3,e_cut3n,e_bns,e_bnn,e_splice,if_true,if_false,ite_true,ite_false,true_or,ne_eq,seval,h_putc,beq_self_eq_true,eq_self,exists_eq_left,exists_eq_left',nq1,mq1,addq,d0,d1,e0,e1,hA.one,hA.cells,gA.one,gA.cells,lA.one,lA.cells]
  generalize hH5 : AHeap.put _ (q + 1) _ = H5
  have n5 : H5.next = H4.next:=by subst hH5; simp only [AHeap.next_put]
  have k5 : ∀ b,b ≠ q→b ≠ q + 1→H5.cells b = H4.cells b:=fun b h1 h2 => by subst hH5; simp only [c_put_ne h2]
  have T5:=T.fr (H':=H5) (fun b hb => k5 b (by omega) (by omega)) (by omega)
  obtain ⟨f1,o1,m1⟩:=T5.h.own row_Head
  obtain ⟨f2,o2,m2⟩:=T5.g.own row_Grace
  obtain ⟨f3,o3,m3⟩:=T5.l.own row_Syllable
  refine OwnX.frz (I:=true) (d:=4) (fp:=[] ++ ([] ++ ([] ++ ([] ++ ([] ++ (f1 ++ (f2 ++ ([] ++ ([] ++ ([] ++ (f3 ++ ([] ++ ([] ++ []))))))))))))) ⟨x.chord.enc.cells,rfl,.cons .scal (.cons .scal (.cons .scal (.cons .scal (.cons .scal (.cons (o1.up.mono (by decide)) (.cons (o2.up.mono (by decide)) (.cons .scal (.cons .scal (.cons .scal (.cons (o3.up.mono (by decide)) (.cons .scal (.cons .scal .nil
    Apart.nil_left) Apart.nil_left) Apart.nil_right) Apart.nil_left) Apart.nil_left) Apart.nil_left) ?_) ?_) Apart.nil_left) Apart.nil_left) Apart.nil_left) Apart.nil_left) Apart.nil_left⟩ (by decide)
  · exact fun b h1 h2 => T5.gl b (m2 b h1) (m3 b (by simpa using h2))
  · intro b h1 h2
    simp only [List.nil_append,List.append_nil,List.mem_append] at h2
    rcases h2 with h | h
    · exact T5.hg b (m1 b h1) (m2 b h)
    · exact T5.hl b (m1 b h1) (m3 b h)
end Go.Hem
namespace Go.Hem
def mapTo {α : Type} (f : α→α) (i : Nat) (l : List α) : List α:=(l.take i).map f ++ l.drop i
section
variable {α : Type} {f : α→α} {i : Nat} {l : List α} {x : α}
theorem mapTo_zero : mapTo f 0 l = l:=by simp [mapTo]
theorem mapTo_len : (mapTo f i l).length = l.length:=by simp [mapTo]; omega
theorem mapTo_all (h : ¬ i < l.length) : mapTo f i l = l.map f:=by
  unfold mapTo; rw [List.take_of_length_le (by omega),List.drop_of_length_le (by omega),List.append_nil]
theorem mapTo_get (h : l[i]? = some x) : (mapTo f i l)[i]? = some x:=by
  have hi:=(List.getElem?_eq_some_iff.1 h).1
  unfold mapTo
  rw [List.getElem?_append_right (by simp; omega)]
  simp only [List.length_map,List.length_take,Nat.min_eq_left (show i ≤ l.length by omega),Nat.sub_self,List.getElem?_drop,Nat.add_zero]
  exact h
theorem mapTo_set (h : l[i]? = some x) : (mapTo f i l).set i (f x) = mapTo f (i + 1) l:=by
  have hi:=(List.getElem?_eq_some_iff.1 h).1
  unfold mapTo
  rw [List.set_append_right _ _ (by simp; omega)]
  simp only [List.length_map,List.length_take,Nat.min_eq_left (show i ≤ l.length by omega),Nat.sub_self]
  rw [drop_cons h,List.set_cons_zero,List.take_add_one,h]
  simp
end
def Head.plain (h : Head) : Head:={ h with shown:=0 }
def Note.bare (x : Note) : Note:={ at_:=x.at_,len:=x.len,heads:=x.heads.map (List.map Head.plain),graces:=none,articulations:=0,ornament:=0,dynamic:=0,lyrics:=none }
theorem noteQ_bare {H : AHeap} {x : Note} {hv : AV} {fh : List Nat} (h : AccQ HeadQ 5 H hv x.heads fh) (hg : x.graces = none) (hl : x.lyrics = none) : NoteQ H [intE x.at_,intE x.len,hv,.sc .nils,intE x.articulations,intE x.ornament,intE x.dynamic,.sc .nils] x fh :=
  ⟨hv,_,_,fh,[],[],rfl,h,by rw [hg]; exact .scal,by rw [hl]; exact .scal,rfl,rfl,Apart.nil_right,Apart.nil_right,Apart.nil_left,by simp⟩
theorem bare_ok (x : Note) (hx : x.heads.l.length < 1000000) (H0 : AHeap) : Ev prog polS (.call 67 [x.enc]) H0 (RowPost H0 x.bare):=by
  refine (wpF_ok ok67 (Q:=fun v H' => ∃ r g,v = .agg r∧NoteQ H' r x.bare g∧Fresh H0 H' g) ?_).mono ?_
  rotate_left
  · rintro o H' ⟨v,rfl,r,g,rfl,h⟩; exact ⟨r,g,rfl,h⟩
  generalize hq : H0.next = q
  simp -implicitDefEqProofs (maxDischargeDepth:=12) only [wpF,cf67,WW,List.replicate,Option.some_or,s_conv,e_conv,s_slc3,e_cut3,e_cut3n,e_bns,e_bnn,e_splice,if_true,if_false,ite_true,ite_false,true_or,ne_eq,seval,h_putc,beq_self_eq_true,eq_self,exists_eq_left,exists_eq_left',x.enc_eq,nq1,mq1,addq,nq2,mq2,mq12,mq21,hq]
  generalize hH1 : AHeap.alloc (AHeap.alloc _ _) _ = H1
  have n1 : H1.next = q + 3:=by subst hH1; simp only [AHeap.next_alloc,hq]
  have b0:=congrArg (fun H => AHeap.cells H q) hH1
  have b1:=congrArg (fun H => AHeap.cells H (q + 1)) hH1
  have b2:=congrArg (fun H => AHeap.cells H (q + 2)) hH1
  have kp : Keep q H0 H1:=by subst hH1; exact fun b hb => by rw [c_alloc_ne (by simp only [AHeap.next_alloc]; omega),c_alloc_ne (by simp only [AHeap.next_alloc]; omega),c_alloc_ne (by omega)]
  simp -implicitDefEqProofs (maxDischargeDepth:=12) only [WW,List.replicate,Option.some_or,s_conv,e_conv,s_slc3,e_cut3,e_cut3n,e_bns,e_bnn,e_splice,if_true,if_false,ite_true,ite_false,true_or,ne_eq,seval,h_putc,beq_self_eq_true,eq_self,exists_eq_left,exists_eq_left',nq1,mq1,addq,nq2,mq2,mq12,mq21,hq] at b0 b1 b2
  clear hH1
  replace b0:=b0.symm
  replace b1:=b1.symm
  replace b2:=b2.symm
  refine wA_call rfl ((sclHead_ok x.heads hx _).mono ?_)
  rintro o H2 ⟨hv,fh,rfl,hA,hF⟩
  refine ⟨_,rfl,?_⟩
  have hN1:=hF.2.1
  have c0:=(hF.2.2 q (by omega)).trans b0
  have c1:=(hF.2.2 (q + 1) (by omega)).trans b1
  have c2:=(hF.2.2 (q + 2) (by omega)).trans b2
  simp -implicitDefEqProofs (maxDischargeDepth:=12) only [WW,List.replicate,Option.some_or,s_conv,e_conv,s_slc3,e_cut3,e_cut3n,e_bns,e_bnn,e_splice,if_true,if_false,ite_true,ite_false,true_or,ne_eq,seval,h_putc,beq_self_eq_true,eq_self,exists_eq_left,exists_eq_left',nq1,mq1,addq,nq2,mq2,mq12,mq21,b0,b1,b2,c0,c1,c2,hA.one,hA.cells,hA.length]
  refine wp_loop (Inv:=fun k t H => ∃ (i : Nat),i + k = x.heads.l.length∧H.cells q = some x.enc.cells∧H.cells (q + 1) = some [intE 0,intE 0,.sc .nils,.sc .nils,intE 0,intE 0,intE 0,.sc .nils] ∧
    H.cells (q + 2) = some [intE x.at_,intE x.len,hv,.sc .nils,intE 0,intE 0,intE 0,.sc .nils]∧(∃ f',AccQ HeadQ 5 H hv (x.heads.map (mapTo Head.plain i)) f'∧∀ b ∈ f',q + 3 ≤ b)∧H2.next ≤ H.next∧Keep q H0 H ∧
    ∃ y : Nat→AV,t = [x.enc,.ptr q 0,.ptr (q + 1) 0,.ptr (q + 2) 0,y 4,y 5,y 6,y 7,y 8,y 9,y 10,y 11,y 12,y 13,y 14,.sc (.int .i64 x.heads.l.length),.sc (.int .i64 i),y 17,y 18,y 19,y 20,y 21,y 22,y 23,y 24,y 25]) (k:=x.heads.l.length) ?_
    ⟨0,by omega,?_,?_,?_,⟨fh,?_,fun b hb => by have:=hF.1 b hb; omega⟩,?_,?_,ex_x rfl⟩
  rotate_left
  · simp -implicitDefEqProofs (maxDischargeDepth:=12) only [WW,List.replicate,Option.some_or,s_conv,e_conv,s_slc3,e_cut3,e_cut3n,e_bns,e_bnn,e_splice,if_true,if_false,ite_true,ite_false,true_or,ne_eq,seval,h_putc,beq_self_eq_true,eq_self,exists_eq_left,exists_eq_left',nq2,mq2,c0,c2]; rfl
  · simp -implicitDefEqProofs (maxDischargeDepth:=12) only [WW,List.replicate,Option.some_or,s_conv,e_conv,s_slc3,e_cut3,e_cut3n,e_bns,e_bnn,e_splice,if_true,if_false,ite_true,ite_false,true_or,ne_eq,seval,h_putc,beq_self_eq_true,eq_self,exists_eq_left,exists_eq_left',nq1,mq1,mq12,c1,c2]; rfl
  · simp -implicitDefEqProofs (maxDischargeDepth:=12) only [WW,List.replicate,Option.some_or,s_conv,e_conv,s_slc3,e_cut3,e_cut3n,e_bns,e_bnn,e_splice,if_true,if_false,ite_true,ite_false,true_or,ne_eq,seval,h_putc,beq_self_eq_true,eq_self,exists_eq_left,exists_eq_left',c2]; rfl
  · have e : x.heads.map (mapTo Head.plain 0) = x.heads:=by cases x.heads <;> simp [mapTo_zero]
    rw [e]
    exact (acc_heads hA).fr headQ fun b hb => c_put_ne (by have:=hF.1 b hb; omega)
  · simp only [AHeap.next_put]; omega
  · exact fun b hb => by rw [c_put_ne (by omega),hF.2.2 b (by omega),kp b hb]
  rintro k t H ⟨i,hk,hA0,hB,hC,⟨f',hh,hf'⟩,hN,hK,y,rfl⟩
  by_cases d1 : (i : Int) < (x.heads.l.length : Int)
  · obtain ⟨h,hh1⟩ : ∃ y,x.heads.l[i]? = some y:=⟨_,List.getElem?_eq_getElem (by omega)⟩
    have e2 : IntKind.i64.wrap ((i : Int) + 1) = ((i + 1 : Nat) : Int):=by rw [w64 (by omega) (by omega)]; omega
    have eh : x.heads.map (mapTo Head.plain i) = some (mapTo Head.plain i x.heads.l):=by cases e : x.heads with
      | none => rw [e] at hh1; simp [Sl.l] at hh1
      | some l => rfl
    rw [eh] at hh
    have hlen : (mapTo Head.plain i x.heads.l).length = x.heads.l.length:=mapTo_len
    obtain ⟨b,cap,cs,r,g,a1,a2,a3,a4,a5,a6,a7,a8,a9,a10,a11⟩:=hh.cell headQ (i:=i) (x:=h) (mapTo_get hh1)
    obtain ⟨rfl,rfl⟩:=a6
    simp only [l_some,hlen] at a1
    subst a1
    obtain ⟨fp',p1,p2⟩:=a10 4 (intE 0) h.plain (by decide) (fun H' _ => ⟨rfl,rfl⟩)
    have hb : q + 3 ≤ b:=hf' b a7
    have hle : i * 5 + 4 + 1 ≤ cs.length:=by omega
    have d1n : i < x.heads.l.length:=by omega
    have nb2 : ¬ q + 2 = b:=by omega
    have nb1 : ¬ q + 1 = b:=by omega
    have nb0 : ¬ q = b:=by omega
    simp -implicitDefEqProofs (maxDischargeDepth:=12) only [WW,List.replicate,Option.some_or,s_conv,e_conv,s_slc3,e_cut3,e_cut3n,e_bns,e_bnn,e_splice,if_true,if_false,ite_true,ite_false,true_or,ne_eq,seval,h_putc,beq_self_eq_true,eq_self,exists_eq_left,exists_eq_left',hA0,hB,hC,d1,d1n,a2,hle,intE,e2,nb0,nb1,nb2]
    simp only [l_some,mapTo_set hh1] at p1
    refine ⟨k - 1,by omega,i + 1,by omega,⟨fp',?_,fun c hc => hf' c (p2 c hc)⟩,hN,fun c hc => by rw [c_put_ne (by omega),hK c hc],ex_x rfl⟩
    have eh2 : x.heads.map (mapTo Head.plain (i + 1)) = some (mapTo Head.plain (i + 1) x.heads.l):=by cases e : x.heads with
      | none => rw [e] at hh1; simp [Sl.l] at hh1
      | some l => rfl
    rw [eh2]
    exact p1
  · have d1n : ¬ i < x.heads.l.length:=by omega
    have eh : x.heads.map (mapTo Head.plain i) = x.bare.heads:=by
      show _ = x.heads.map (List.map Head.plain)
      cases e : x.heads with
      | none => rfl
      | some l =>
        rw [e] at d1n
        simp only [Option.map_some,Option.some.injEq]
        exact mapTo_all d1n
    rw [eh] at hh
    simp -implicitDefEqProofs (maxDischargeDepth:=12) only [WW,List.replicate,Option.some_or,s_conv,e_conv,s_slc3,e_cut3,e_cut3n,e_bns,e_bnn,e_splice,if_true,if_false,ite_true,ite_false,true_or,ne_eq,seval,h_putc,beq_self_eq_true,eq_self,exists_eq_left,exists_eq_left',hA0,hB,hC,d1,intE,hh.one.1,hh.one.2]
    exact ⟨_,f',rfl,noteQ_bare (x:=x.bare) (hh.fr headQ fun b hb => c_put_ne (by have:=hf' b hb; omega)) rfl rfl,fun b hb => by have:=hf' b hb; omega,by simp only [AHeap.next_put]; omega,fun b hb => by rw [c_put_ne (by omega),hK b (by omega)]⟩
def Note.cn (x : Note) : Note:={ x with heads:=Sl.of x.heads.l,graces:=Sl.of x.graces.l,lyrics:=Sl.of x.lyrics.l }
def Clip.cn (c : Clip) : Clip:=⟨c.len,Sl.of (c.notes.l.map Note.cn)⟩
theorem Note.cn_iff {a b : Note} : a.cn = b.cn ↔ a.at_ = b.at_∧a.len = b.len∧a.chord.cn = b.chord.cn:=by
  unfold Note.cn Event.cn Note.chord
  simp only [Note.mk.injEq,Event.mk.injEq,true_and,and_true]
theorem Note.chord_tame {x : Note} (h : x.tame) : x.chord.tame:=⟨h.heads,h.graces,h.lyrics⟩
theorem sameNote_pv (a b : Note) (ha : a.chord.tame) : Pv prog polS 33 [a.enc,b.enc] (.sc (.bool (decide (a.cn = b.cn)))):=by
  refine Pv_of' ok33 (by simp only [AV.closedBs,Note.enc_closed,Bool.and_self]) ?_
  generalize hr : decide (a.cn = b.cn) = r
  by_cases h1 : a.at_ = b.at_
  rotate_left
  · rw [decide_eq_false (fun k => h1 (Note.cn_iff.1 k).1)] at hr; subst hr
    simp -implicitDefEqProofs (maxDischargeDepth:=12) only [wpF,cf33,WW,List.replicate,Option.some_or,s_conv,e_conv,s_slc3,e_cut3,e_cut3n,e_bns,e_bnn,e_splice,if_true,if_false,ite_true,ite_false,true_or,ne_eq,seval,h_putc,beq_self_eq_true,eq_self,exists_eq_left,exists_eq_left',a.enc_eq,b.enc_eq,h1]
    exact frz_sc
  by_cases h2 : a.len = b.len
  rotate_left
  · rw [decide_eq_false (fun k => h2 (Note.cn_iff.1 k).2.1)] at hr; subst hr
    simp -implicitDefEqProofs (maxDischargeDepth:=12) only [wpF,cf33,WW,List.replicate,Option.some_or,s_conv,e_conv,s_slc3,e_cut3,e_cut3n,e_bns,e_bnn,e_splice,if_true,if_false,ite_true,ite_false,true_or,ne_eq,seval,h_putc,beq_self_eq_true,eq_self,exists_eq_left,exists_eq_left',a.enc_eq,b.enc_eq,h1,h2]
    exact frz_sc
  simp -implicitDefEqProofs (maxDischargeDepth:=12) only [wpF,cf33,WW,List.replicate,Option.some_or,s_conv,e_conv,s_slc3,e_cut3,e_cut3n,e_bns,e_bnn,e_splice,if_true,if_false,ite_true,ite_false,true_or,ne_eq,seval,h_putc,beq_self_eq_true,eq_self,exists_eq_left,exists_eq_left',a.enc_eq,b.enc_eq,eq_true h1,eq_true h2]
  rw [← a.enc_eq,← b.enc_eq]
  refine wA_pure rfl (rchord_pv a ) ?_
  simp -implicitDefEqProofs (maxDischargeDepth:=12) only [WW,List.replicate,Option.some_or,s_conv,e_conv,s_slc3,e_cut3,e_cut3n,e_bns,e_bnn,e_splice,if_true,if_false,ite_true,ite_false,true_or,ne_eq,seval,h_putc,beq_self_eq_true,eq_self,exists_eq_left,exists_eq_left',a.enc_eq,b.enc_eq]
  rw [← a.enc_eq,← b.enc_eq]
  refine wA_pure rfl (rchord_pv b ) ?_
  simp -implicitDefEqProofs (maxDischargeDepth:=12) only [WW,List.replicate,Option.some_or,s_conv,e_conv,s_slc3,e_cut3,e_cut3n,e_bns,e_bnn,e_splice,if_true,if_false,ite_true,ite_false,true_or,ne_eq,seval,h_putc,beq_self_eq_true,eq_self,exists_eq_left,exists_eq_left',a.enc_eq,b.enc_eq]
  refine wA_pure rfl (eEqual_pv _ _ ha) ?_
  simp -implicitDefEqProofs (maxDischargeDepth:=12) only [WW,List.replicate,Option.some_or,s_conv,e_conv,s_slc3,e_cut3,e_cut3n,e_bns,e_bnn,e_splice,if_true,if_false,ite_true,ite_false,true_or,ne_eq,seval,h_putc,beq_self_eq_true,eq_self,exists_eq_left,exists_eq_left']
  have e : (a.cn = b.cn) = (a.chord.cn = b.chord.cn):=propext ⟨fun k => (Note.cn_iff.1 k).2.2,fun k => Note.cn_iff.2 ⟨h1,h2,k⟩⟩
  simp only [e] at hr
  rw [← hr]
  exact frz_sc
theorem nEqual_pv (a b : Note) (ta : a.tame) (tb : b.tame) : Pv prog polS 37 [a.enc,b.enc] (.sc (.bool (decide (a.cn = b.cn)))):=by
  have ha:=Note.chord_tame ta
  refine Pv_of' ok37 (by simp only [AV.closedBs,Note.enc_closed,Bool.and_self]) ?_
  generalize hr : decide (a.cn = b.cn) = r
  by_cases h1 : a.at_ = b.at_
  rotate_left
  · rw [decide_eq_false (fun k => h1 (Note.cn_iff.1 k).1)] at hr; subst hr
    simp -implicitDefEqProofs (maxDischargeDepth:=12) only [wpF,cf37,WW,List.replicate,Option.some_or,s_conv,e_conv,s_slc3,e_cut3,e_cut3n,e_bns,e_bnn,e_splice,if_true,if_false,ite_true,ite_false,true_or,ne_eq,seval,h_putc,beq_self_eq_true,eq_self,exists_eq_left,exists_eq_left',a.enc_eq,b.enc_eq,h1]
    exact frz_sc
  by_cases h2 : a.len = b.len
  rotate_left
  · rw [decide_eq_false (fun k => h2 (Note.cn_iff.1 k).2.1)] at hr; subst hr
    simp -implicitDefEqProofs (maxDischargeDepth:=12) only [wpF,cf37,WW,List.replicate,Option.some_or,s_conv,e_conv,s_slc3,e_cut3,e_cut3n,e_bns,e_bnn,e_splice,if_true,if_false,ite_true,ite_false,true_or,ne_eq,seval,h_putc,beq_self_eq_true,eq_self,exists_eq_left,exists_eq_left',a.enc_eq,b.enc_eq,h1,h2]
    exact frz_sc
  simp -implicitDefEqProofs (maxDischargeDepth:=12) only [wpF,cf37,WW,List.replicate,Option.some_or,s_conv,e_conv,s_slc3,e_cut3,e_cut3n,e_bns,e_bnn,e_splice,if_true,if_false,ite_true,ite_false,true_or,ne_eq,seval,h_putc,beq_self_eq_true,eq_self,exists_eq_left,exists_eq_left',a.enc_eq,b.enc_eq,eq_true h1,eq_true h2]
  rw [← a.enc_eq,← b.enc_eq]
  refine wA_pure rfl (chord_pv a ta) ?_
  simp -implicitDefEqProofs (maxDischargeDepth:=12) only [WW,List.replicate,Option.some_or,s_conv,e_conv,s_slc3,e_cut3,e_cut3n,e_bns,e_bnn,e_splice,if_true,if_false,ite_true,ite_false,true_or,ne_eq,seval,h_putc,beq_self_eq_true,eq_self,exists_eq_left,exists_eq_left',a.enc_eq,b.enc_eq]
  rw [← a.enc_eq,← b.enc_eq]
  refine wA_pure rfl (chord_pv b tb) ?_
  simp -implicitDefEqProofs (maxDischargeDepth:=12) only [WW,List.replicate,Option.some_or,s_conv,e_conv,s_slc3,e_cut3,e_cut3n,e_bns,e_bnn,e_splice,if_true,if_false,ite_true,ite_false,true_or,ne_eq,seval,h_putc,beq_self_eq_true,eq_self,exists_eq_left,exists_eq_left',a.enc_eq,b.enc_eq]
  refine wA_pure rfl (eEqual_pv _ _ ha) ?_
  simp -implicitDefEqProofs (maxDischargeDepth:=12) only [WW,List.replicate,Option.some_or,s_conv,e_conv,s_slc3,e_cut3,e_cut3n,e_bns,e_bnn,e_splice,if_true,if_false,ite_true,ite_false,true_or,ne_eq,seval,h_putc,beq_self_eq_true,eq_self,exists_eq_left,exists_eq_left']
  have e : (a.cn = b.cn) = (a.chord.cn = b.chord.cn):=propext ⟨fun k => (Note.cn_iff.1 k).2.2,fun k => Note.cn_iff.2 ⟨h1,h2,k⟩⟩
  simp only [e] at hr
  rw [← hr]
  exact frz_sc
end Go.Hem
namespace Go.Hem
def Clip.tame (c : Clip) : Prop:=c.notes.l.length < 1000000∧∀ x ∈ c.notes.l,x.tame
theorem Clip.cn_iff {a b : Clip} : a.cn = b.cn ↔ a.len = b.len∧a.notes.l.map Note.cn = b.notes.l.map Note.cn:=by
  unfold Clip.cn; simp only [Clip.mk.injEq,of_inj]
theorem callee37 (args : List AV) : acallee prog 37 args = some (.call 37 args):=by kernel_rfl
theorem eqNotes_pv (a b : Sl Note) (ha : a.l.length < 1000000) (ta : ∀ x ∈ a.l,x.tame) (tb : ∀ x ∈ b.l,x.tame) : Pv prog polS 36 [slm Note.enc a,slm Note.enc b,.func (.func 37) [] []] (.sc (.bool (decide (a.l.map Note.cn = b.l.map Note.cn)))):=by
  refine Pv_of' ok36 (by simp only [AV.closedBs,closedB_slm Note.enc_closed,cl_func,Bool.and_self]) ?_
  generalize hr : decide (a.l.map Note.cn = b.l.map Note.cn) = r
  simp -implicitDefEqProofs (maxDischargeDepth:=12) only [wpF,cf36,WW,List.replicate,Option.some_or,s_conv,e_conv,s_slc3,e_cut3,e_cut3n,e_bns,e_bnn,e_splice,if_true,if_false,ite_true,ite_false,true_or,ne_eq,seval,h_putc,beq_self_eq_true,eq_self,exists_eq_left,exists_eq_left']
  by_cases h1 : (a.l.length : Int) = (b.l.length : Int)
  rotate_left
  · rw [decide_eq_false (fun k => h1 (len_of_map k))] at hr; subst hr
    simp -implicitDefEqProofs (maxDischargeDepth:=12) only [WW,List.replicate,Option.some_or,s_conv,e_conv,s_slc3,e_cut3,e_cut3n,e_bns,e_bnn,e_splice,if_true,if_false,ite_true,ite_false,true_or,ne_eq,seval,h_putc,beq_self_eq_true,eq_self,exists_eq_left,exists_eq_left',h1]
    exact frz_sc
  simp -implicitDefEqProofs (maxDischargeDepth:=12) only [WW,List.replicate,Option.some_or,s_conv,e_conv,s_slc3,e_cut3,e_cut3n,e_bns,e_bnn,e_splice,if_true,if_false,ite_true,ite_false,true_or,ne_eq,seval,h_putc,beq_self_eq_true,eq_self,exists_eq_left,exists_eq_left',eq_true h1]
  refine wp_loop (Inv:=fun k t H => ∃ (i : Nat),i + k = a.l.length∧(a.l.take i).map Note.cn = (b.l.take i).map Note.cn ∧
    ∃ x : Nat→AV,t = [slm Note.enc a,slm Note.enc b,.func (.func 37) [] [],x 3,x 4,x 5,.sc (.bool false),x 7,x 8,x 9,x 10,x 11,x 12,x 13,x 14,slm Note.enc a,.sc (.int .i64 a.l.length),.sc (.int .i64 i),x 18,x 19,x 20,x 21,x 22,x 23,x 24,x 25,x 26,x 27,x 28,x 29,x 30,x 31]) (k:=a.l.length) ?_
    ⟨0,by omega,rfl,ex_x (by rw [← h1]; rfl)⟩
  rintro k t H ⟨i,hk,htk,x,rfl⟩
  by_cases c1 : (i : Int) < (a.l.length : Int)
  · obtain ⟨y,hy1⟩ : ∃ y,a.l[i]? = some y:=⟨_,List.getElem?_eq_getElem (by omega)⟩
    obtain ⟨z,hz1⟩ : ∃ y,b.l[i]? = some y:=⟨_,List.getElem?_eq_getElem (by omega)⟩
    have e2 : IntKind.i64.wrap ((i : Int) + 1) = ((i + 1 : Nat) : Int):=by rw [w64 (by omega) (by omega)]; omega
    have f4 : ¬ H.next = H.next + 1:=by omega
    simp -implicitDefEqProofs (maxDischargeDepth:=12) only [WW,List.replicate,Option.some_or,s_conv,e_conv,s_slc3,e_cut3,e_cut3n,e_bns,e_bnn,e_splice,if_true,if_false,ite_true,ite_false,true_or,ne_eq,seval,h_putc,beq_self_eq_true,eq_self,exists_eq_left,exists_eq_left',c1,hy1,hz1,f4,y.enc_eq,z.enc_eq,e_callf,callee37]
    rw [← y.enc_eq,← z.enc_eq]
    refine wA_pure rfl (nEqual_pv y z (ta y (List.mem_of_getElem? hy1)) (tb z (List.mem_of_getElem? hz1))) ?_
    by_cases c2 : y.cn = z.cn
    · simp -implicitDefEqProofs (maxDischargeDepth:=12) only [WW,List.replicate,Option.some_or,s_conv,e_conv,s_slc3,e_cut3,e_cut3n,e_bns,e_bnn,e_splice,if_true,if_false,ite_true,ite_false,true_or,ne_eq,seval,h_putc,beq_self_eq_true,eq_self,exists_eq_left,exists_eq_left',eq_true c2,e2]
      exact ⟨k - 1,by omega,i + 1,by omega,map_step hy1 hz1 c2 htk,ex_x rfl⟩
    · rw [decide_eq_false (fun k => map_ne hy1 hz1 c2 k)] at hr; subst hr
      simp -implicitDefEqProofs (maxDischargeDepth:=12) only [WW,List.replicate,Option.some_or,s_conv,e_conv,s_slc3,e_cut3,e_cut3n,e_bns,e_bnn,e_splice,if_true,if_false,ite_true,ite_false,true_or,ne_eq,seval,h_putc,beq_self_eq_true,eq_self,exists_eq_left,exists_eq_left',c2]
      exact frz_sc
  have e : a.l.map Note.cn = b.l.map Note.cn:=by rw [List.take_of_length_le (by omega),List.take_of_length_le (by omega)] at htk; exact htk
  simp -implicitDefEqProofs (maxDischargeDepth:=12) only [WW,List.replicate,Option.some_or,s_conv,e_conv,s_slc3,e_cut3,e_cut3n,e_bns,e_bnn,e_splice,if_true,if_false,ite_true,ite_false,true_or,ne_eq,seval,h_putc,beq_self_eq_true,eq_self,exists_eq_left,exists_eq_left',c1]
  rw [decide_eq_true e] at hr; subst hr
  exact frz_sc
theorem same_pv (a b : Clip) (ha : a.notes.l.length < 1000000) (ta : ∀ x ∈ a.notes.l,x.chord.tame) : Pv prog polS 13 [a.enc,b.enc] (.sc (.bool (decide (a.cn = b.cn)))):=by
  refine Pv_of' ok13 (by simp only [AV.closedBs,Clip.enc_closed,Bool.and_self]) ?_
  generalize hr : decide (a.cn = b.cn) = r
  by_cases h1 : a.len = b.len
  rotate_left
  · rw [decide_eq_false (fun k => h1 (Clip.cn_iff.1 k).1)] at hr; subst hr
    simp -implicitDefEqProofs (maxDischargeDepth:=12) only [wpF,cf13,WW,List.replicate,Option.some_or,s_conv,e_conv,s_slc3,e_cut3,e_cut3n,e_bns,e_bnn,e_splice,if_true,if_false,ite_true,ite_false,true_or,ne_eq,seval,h_putc,beq_self_eq_true,eq_self,exists_eq_left,exists_eq_left',a.enc_eq,b.enc_eq,h1]
    exact frz_sc
  by_cases h2 : (a.notes.l.length : Int) = (b.notes.l.length : Int)
  rotate_left
  · rw [decide_eq_false (fun k => h2 (len_of_map (Clip.cn_iff.1 k).2))] at hr; subst hr
    simp -implicitDefEqProofs (maxDischargeDepth:=12) only [wpF,cf13,WW,List.replicate,Option.some_or,s_conv,e_conv,s_slc3,e_cut3,e_cut3n,e_bns,e_bnn,e_splice,if_true,if_false,ite_true,ite_false,true_or,ne_eq,seval,h_putc,beq_self_eq_true,eq_self,exists_eq_left,exists_eq_left',a.enc_eq,b.enc_eq,eq_true h1,h2]
    exact frz_sc
  simp -implicitDefEqProofs (maxDischargeDepth:=12) only [wpF,cf13,WW,List.replicate,Option.some_or,s_conv,e_conv,s_slc3,e_cut3,e_cut3n,e_bns,e_bnn,e_splice,if_true,if_false,ite_true,ite_false,true_or,ne_eq,seval,h_putc,beq_self_eq_true,eq_self,exists_eq_left,exists_eq_left',a.enc_eq,b.enc_eq,eq_true h1,eq_true h2]
  refine wp_loop (Inv:=fun k t H => ∃ (i : Nat),i + k = a.notes.l.length∧H.cells 0 = some a.enc.cells∧H.cells 1 = some b.enc.cells∧(a.notes.l.take i).map Note.cn = (b.notes.l.take i).map Note.cn ∧
    ∃ x : Nat→AV,t = [a.enc,b.enc,.ptr 0 0,.ptr 1 0,.sc (.bool false),.sc (.int .i64 i),x 6,x 7,x 8,x 9,x 10,x 11,x 12,x 13,x 14,x 15,x 16,x 17,x 18,x 19,x 20,x 21,x 22,x 23,x 24,x 25,x 26,x 27,x 28,x 29,x 30,x 31,x 32,x 33,x 34,x 35,x 36,x 37,x 38]) (k:=a.notes.l.length) ?_
    ⟨0,by omega,?_,?_,rfl,ex_x rfl⟩
  rotate_left
  · simp -implicitDefEqProofs (maxDischargeDepth:=12) only [WW,List.replicate,Option.some_or,s_conv,e_conv,s_slc3,e_cut3,e_cut3n,e_bns,e_bnn,e_splice,if_true,if_false,ite_true,ite_false,true_or,ne_eq,seval,h_putc,beq_self_eq_true,eq_self,exists_eq_left,exists_eq_left']; rfl
  · simp -implicitDefEqProofs (maxDischargeDepth:=12) only [WW,List.replicate,Option.some_or,s_conv,e_conv,s_slc3,e_cut3,e_cut3n,e_bns,e_bnn,e_splice,if_true,if_false,ite_true,ite_false,true_or,ne_eq,seval,h_putc,beq_self_eq_true,eq_self,exists_eq_left,exists_eq_left']; rfl
  rintro k t H ⟨i,hk,hA,hB,ht,x,rfl⟩
  simp only [a.enc_eq,b.enc_eq,c_agg] at hA hB
  by_cases c1 : (i : Int) < (a.notes.l.length : Int)
  · obtain ⟨y,hy1⟩ : ∃ y,a.notes.l[i]? = some y:=⟨_,List.getElem?_eq_getElem (by omega)⟩
    obtain ⟨z,hz1⟩ : ∃ y,b.notes.l[i]? = some y:=⟨_,List.getElem?_eq_getElem (by omega)⟩
    have e2 : IntKind.i64.wrap ((i : Int) + 1) = ((i + 1 : Nat) : Int):=by rw [w64 (by omega) (by omega)]; omega
    simp -implicitDefEqProofs (maxDischargeDepth:=12) only [WW,List.replicate,Option.some_or,s_conv,e_conv,s_slc3,e_cut3,e_cut3n,e_bns,e_bnn,e_splice,if_true,if_false,ite_true,ite_false,true_or,ne_eq,seval,h_putc,beq_self_eq_true,eq_self,exists_eq_left,exists_eq_left',hA,hB,c1,hy1,hz1,y.enc_eq,z.enc_eq]
    rw [← y.enc_eq,← z.enc_eq]
    refine wA_pure rfl (sameNote_pv y z (ta y (List.mem_of_getElem? hy1))) ?_
    by_cases c2 : y.cn = z.cn
    · simp -implicitDefEqProofs (maxDischargeDepth:=12) only [WW,List.replicate,Option.some_or,s_conv,e_conv,s_slc3,e_cut3,e_cut3n,e_bns,e_bnn,e_splice,if_true,if_false,ite_true,ite_false,true_or,ne_eq,seval,h_putc,beq_self_eq_true,eq_self,exists_eq_left,exists_eq_left',eq_true c2,e2]
      exact ⟨k - 1,by omega,i + 1,by omega,hA,hB,map_step hy1 hz1 c2 ht,ex_x rfl⟩
    · rw [decide_eq_false (fun k => map_ne hy1 hz1 c2 (Clip.cn_iff.1 k).2)] at hr; subst hr
      simp -implicitDefEqProofs (maxDischargeDepth:=12) only [WW,List.replicate,Option.some_or,s_conv,e_conv,s_slc3,e_cut3,e_cut3n,e_bns,e_bnn,e_splice,if_true,if_false,ite_true,ite_false,true_or,ne_eq,seval,h_putc,beq_self_eq_true,eq_self,exists_eq_left,exists_eq_left',c2]
      exact frz_sc
  have e : a.notes.l.map Note.cn = b.notes.l.map Note.cn:=by rw [List.take_of_length_le (by omega),List.take_of_length_le (by omega)] at ht; exact ht
  simp -implicitDefEqProofs (maxDischargeDepth:=12) only [WW,List.replicate,Option.some_or,s_conv,e_conv,s_slc3,e_cut3,e_cut3n,e_bns,e_bnn,e_splice,if_true,if_false,ite_true,ite_false,true_or,ne_eq,seval,h_putc,beq_self_eq_true,eq_self,exists_eq_left,exists_eq_left',hA,hB,c1]
  rw [decide_eq_true (Clip.cn_iff.2 ⟨h1,e⟩)] at hr; subst hr
  exact frz_sc
theorem any_take {α : Type} {p : α→Bool} {l : List α} {i : Nat} {y : α} (hy : l[i]? = some y) (h : (l.take i).any p = false) : (l.take (i + 1)).any p = p y:=by
  rw [List.take_add_one,hy,List.any_append,h]; simp
theorem any_of {α : Type} {p : α→Bool} {l : List α} {i : Nat} {y : α} (hy : l[i]? = some y) (h : p y = true) : l.any p = true:=List.any_eq_true.2 ⟨y,List.mem_of_getElem? hy,h⟩
def Asks (g : FuncId) (cap : List AV) (H0 : AHeap) (p : Head→Bool) : Prop:=∀ (H : AHeap) (x : Head),Keep H0.next H0 H→H0.next ≤ H.next →
  Ev prog polS (.call g ([x.enc] ++ cap)) H fun o H' => o = .val (.sc (.bool (p x)))∧Keep H.next H H'∧H.next ≤ H'.next
theorem index_ok {H0 : AHeap} {g : FuncId} {cap : List AV} {p : Head→Bool} (hg : polS.pure g = false) (hcal : ∀ args,acallee prog g args = some (.call g args)) (hcl : Asks g cap H0 p) (s : Sl Head) (hl : s.l.length < 1000000) :
    Ev prog polS (.call 51 [slm Head.enc s,.func (.func g) [] cap]) H0 fun o H' => ∃ j : Int,o = .val (.sc (.int .i64 j))∧decide (0 ≤ j) = s.l.any p∧Keep H0.next H0 H'∧H0.next ≤ H'.next:=by
  refine (wpF_ok ok51 (Q:=fun v H' => ∃ j : Int,v = .sc (.int .i64 j)∧decide (0 ≤ j) = s.l.any p∧Keep H0.next H0 H'∧H0.next ≤ H'.next) ?_).mono ?_
  rotate_left
  · rintro o H' ⟨v,rfl,j,rfl,h⟩
    exact ⟨j,rfl,h⟩
  simp -implicitDefEqProofs (maxDischargeDepth:=12) only [wpF,cf51,WW,List.replicate,Option.some_or,s_conv,e_conv,s_slc3,e_cut3,e_cut3n,e_bns,e_bnn,e_splice,if_true,if_false,ite_true,ite_false,true_or,ne_eq,seval,h_putc,beq_self_eq_true,eq_self,exists_eq_left,exists_eq_left']
  refine wp_loop (Inv:=fun k t H => ∃ (i : Nat),i + k = s.l.length∧Keep H0.next H0 H∧H0.next ≤ H.next∧(s.l.take i).any p = false ∧
    ∃ x : Nat→AV,t = [slm Head.enc s,.func (.func g) [] cap,x 2,x 3,.sc (.int .i64 0),x 5,x 6,.sc (.int .i64 s.l.length),.sc (.int .i64 i),x 9,x 10,x 11,x 12,x 13,x 14,x 15,x 16,x 17,x 18]) (k:=s.l.length) ?_
    ⟨0,by omega,Keep.refl,Nat.le_refl _,by simp,ex_x rfl⟩
  rintro k t H ⟨i,hk,hK,hn,hbad,x,rfl⟩
  by_cases h1 : (i : Int) < (s.l.length : Int)
  · obtain ⟨y,hy⟩ : ∃ y,s.l[i]? = some y:=⟨_,List.getElem?_eq_getElem (by omega)⟩
    have e2 : IntKind.i64.wrap ((i : Int) + 1) = ((i + 1 : Nat) : Int):=by rw [w64 (by omega) (by omega)]; omega
    have hc:=hcl H y hK hn
    simp only [y.enc_eq] at hc
    simp -implicitDefEqProofs (maxDischargeDepth:=12) only [WW,List.replicate,Option.some_or,s_conv,e_conv,s_slc3,e_cut3,e_cut3n,e_bns,e_bnn,e_splice,if_true,if_false,ite_true,ite_false,true_or,ne_eq,seval,h_putc,beq_self_eq_true,eq_self,exists_eq_left,exists_eq_left',h1,hy,y.enc_eq,e_callf,hcal]
    refine wA_call hg (hc.mono ?_)
    rintro o H1 ⟨rfl,hk1,hn1⟩
    refine ⟨_,rfl,?_⟩
    have hK1 : Keep H0.next H0 H1:=fun b hb => by rw [hk1 b (by omega),hK b hb]
    cases hp : p y with
    | true =>
      simp -implicitDefEqProofs (maxDischargeDepth:=12) only [WW,List.replicate,Option.some_or,s_conv,e_conv,s_slc3,e_cut3,e_cut3n,e_bns,e_bnn,e_splice,if_true,if_false,ite_true,ite_false,true_or,ne_eq,seval,h_putc,beq_self_eq_true,eq_self,exists_eq_left,exists_eq_left']
      exact ⟨i,rfl,by rw [any_of hy hp]; simp,hK1,by omega⟩
    | false =>
      simp -implicitDefEqProofs (maxDischargeDepth:=12) only [WW,List.replicate,Option.some_or,s_conv,e_conv,s_slc3,e_cut3,e_cut3n,e_bns,e_bnn,e_splice,if_true,if_false,ite_true,ite_false,true_or,ne_eq,seval,h_putc,beq_self_eq_true,eq_self,exists_eq_left,exists_eq_left',e2]
      exact ⟨k - 1,by omega,i + 1,by omega,hK1,by omega,by rw [any_take hy hbad,hp],ex_x rfl⟩
  · rw [List.take_of_length_le (by omega)] at hbad
    simp -implicitDefEqProofs (maxDischargeDepth:=12) only [WW,List.replicate,Option.some_or,s_conv,e_conv,s_slc3,e_cut3,e_cut3n,e_bns,e_bnn,e_splice,if_true,if_false,ite_true,ite_false,true_or,ne_eq,seval,h_putc,beq_self_eq_true,eq_self,exists_eq_left,exists_eq_left',h1]
    exact ⟨-1,rfl,by rw [hbad]; rfl,hK,hn⟩
theorem contains_ok {H0 : AHeap} {g : FuncId} {cap : List AV} {p : Head→Bool} (hg : polS.pure g = false) (hcal : ∀ args,acallee prog g args = some (.call g args)) (hcl : Asks g cap H0 p) (s : Sl Head) (hl : s.l.length < 1000000) :
    Ev prog polS (.call 28 [slm Head.enc s,.func (.func g) [] cap]) H0 fun o H' => o = .val (.sc (.bool (s.l.any p)))∧Keep H0.next H0 H'∧H0.next ≤ H'.next:=by
  refine (wpF_ok ok28 (Q:=fun v H' => v = .sc (.bool (s.l.any p))∧Keep H0.next H0 H'∧H0.next ≤ H'.next) ?_).mono ?_
  rotate_left
  · rintro o H' ⟨v,rfl,rfl,h⟩
    exact ⟨rfl,h⟩
  simp -implicitDefEqProofs (maxDischargeDepth:=12) only [wpF,cf28,WW,List.replicate,Option.some_or,s_conv,e_conv,s_slc3,e_cut3,e_cut3n,e_bns,e_bnn,e_splice,if_true,if_false,ite_true,ite_false,true_or,ne_eq,seval,h_putc,beq_self_eq_true,eq_self,exists_eq_left,exists_eq_left']
  refine wA_call rfl ((index_ok hg hcal hcl s hl).mono ?_)
  rintro o H1 ⟨j,rfl,hj,hk⟩
  refine ⟨_,rfl,?_⟩
  simp -implicitDefEqProofs (maxDischargeDepth:=12) only [WW,List.replicate,Option.some_or,s_conv,e_conv,s_slc3,e_cut3,e_cut3n,e_bns,e_bnn,e_splice,if_true,if_false,ite_true,ite_false,true_or,ne_eq,seval,h_putc,beq_self_eq_true,eq_self,exists_eq_left,exists_eq_left']
  exact ⟨by rw [hj],hk⟩
end Go.Hem
namespace Go.Hem
def Note.fin (x : Note) : Int:=IntKind.i64.wrap (x.at_ + x.len)
def Note.tailB (x : Note) : Bool:=decide (x.graces.l.length = 0) && (decide (x.articulations = 0) && (decide (x.ornament = 0) && (decide (x.dynamic = 0) && decide (x.lyrics.l.length = 0))))
def Note.plainB (x : Note) : Bool:=x.heads.l.all (fun h => decide (h.shown = 0)) && x.tailB
theorem all_take {α : Type} {p : α→Bool} {l : List α} {i : Nat} {y : α} (hy : l[i]? = some y) (h : (l.take i).all p = true) : (l.take (i + 1)).all p = p y:=by
  rw [List.take_add_one,hy,List.all_append,h]; simp
theorem all_no {α : Type} {p : α→Bool} {l : List α} {i : Nat} {y : α} (hy : l[i]? = some y) (h : p y = false) : l.all p = false:=by
  cases q : l.all p with
  | false => rfl
  | true => rw [List.all_eq_true.1 q y (List.mem_of_getElem? hy)] at h; cases h
theorem plain_pv (x : Note) (hx : x.heads.l.length < 1000000) : Pv prog polS 66 [x.enc] (.sc (.bool x.plainB)):=by
  refine Pv_of' ok66 (by simp only [AV.closedBs,Note.enc_closed,Bool.and_self]) ?_
  generalize hr : x.plainB = r
  simp -implicitDefEqProofs (maxDischargeDepth:=12) only [wpF,cf66,WW,List.replicate,Option.some_or,s_conv,e_conv,s_slc3,e_cut3,e_cut3n,e_bns,e_bnn,e_splice,if_true,if_false,ite_true,ite_false,true_or,ne_eq,seval,h_putc,beq_self_eq_true,eq_self,exists_eq_left,exists_eq_left',x.enc_eq]
  refine wp_loop (Inv:=fun k t H => ∃ (i : Nat),i + k = x.heads.l.length∧H.cells 0 = some x.enc.cells∧(x.heads.l.take i).all (fun h => decide (h.shown = 0)) = true ∧
    ∃ y : Nat→AV,t = [x.enc,.ptr 0 0,.sc (.bool false),.sc (.int .i64 i),y 4,y 5,y 6,y 7,y 8,y 9,y 10,y 11,y 12,y 13,y 14,y 15,y 16,y 17,y 18,y 19,y 20,y 21,y 22,y 23,y 24,y 25,y 26,y 27,y 28,y 29,y 30,y 31,y 32,y 33,y 34,y 35,y 36,y 37,y 38,y 39,y 40,y 41,y 42]) (k:=x.heads.l.length) ?_
    ⟨0,by omega,?_,by simp,ex_x rfl⟩
  rotate_left
  · simp -implicitDefEqProofs (maxDischargeDepth:=12) only [WW,List.replicate,Option.some_or,s_conv,e_conv,s_slc3,e_cut3,e_cut3n,e_bns,e_bnn,e_splice,if_true,if_false,ite_true,ite_false,true_or,ne_eq,seval,h_putc,beq_self_eq_true,eq_self,exists_eq_left,exists_eq_left']; rfl
  rintro k t H ⟨i,hk,hA,ht,y,rfl⟩
  simp only [x.enc_eq,c_agg] at hA
  by_cases c1 : (i : Int) < (x.heads.l.length : Int)
  · obtain ⟨h,hh⟩ : ∃ y,x.heads.l[i]? = some y:=⟨_,List.getElem?_eq_getElem (by omega)⟩
    have e2 : IntKind.i64.wrap ((i : Int) + 1) = ((i + 1 : Nat) : Int):=by rw [w64 (by omega) (by omega)]; omega
    by_cases c2 : h.shown = 0
    · simp -implicitDefEqProofs (maxDischargeDepth:=12) only [WW,List.replicate,Option.some_or,s_conv,e_conv,s_slc3,e_cut3,e_cut3n,e_bns,e_bnn,e_splice,if_true,if_false,ite_true,ite_false,true_or,ne_eq,seval,h_putc,beq_self_eq_true,eq_self,exists_eq_left,exists_eq_left',hA,c1,hh,h.enc_eq,c2,e2]
      exact ⟨k - 1,by omega,i + 1,by omega,rfl,by rw [all_take hh ht]; simpa using c2,ex_x rfl⟩
    · unfold Note.plainB at hr
      rw [all_no (p:=fun h : Head => decide (h.shown = 0)) hh (by simpa using c2),Bool.false_and] at hr; subst hr
      simp -implicitDefEqProofs (maxDischargeDepth:=12) only [WW,List.replicate,Option.some_or,s_conv,e_conv,s_slc3,e_cut3,e_cut3n,e_bns,e_bnn,e_splice,if_true,if_false,ite_true,ite_false,true_or,ne_eq,seval,h_putc,beq_self_eq_true,eq_self,exists_eq_left,exists_eq_left',hA,c1,hh,h.enc_eq,c2,e2]
      exact frz_sc
  · rw [List.take_of_length_le (by omega)] at ht
    unfold Note.plainB at hr
    rw [ht,Bool.true_and] at hr
    unfold Note.tailB at hr
    by_cases d1 : x.graces.l.length = 0
    rotate_left
    · have d1' : ¬ (x.graces.l.length : Int) = 0:=by omega
      rw [decide_eq_false d1,Bool.false_and] at hr; subst hr
      simp -implicitDefEqProofs (maxDischargeDepth:=12) only [WW,List.replicate,Option.some_or,s_conv,e_conv,s_slc3,e_cut3,e_cut3n,e_bns,e_bnn,e_splice,if_true,if_false,ite_true,ite_false,true_or,ne_eq,seval,h_putc,beq_self_eq_true,eq_self,exists_eq_left,exists_eq_left',hA,c1,d1']
      exact frz_sc
    have d1' : (x.graces.l.length : Int) = 0:=by omega
    rw [decide_eq_true d1,Bool.true_and] at hr
    by_cases d2 : x.articulations = 0
    rotate_left
    · rw [decide_eq_false d2,Bool.false_and] at hr; subst hr
      simp -implicitDefEqProofs (maxDischargeDepth:=12) only [WW,List.replicate,Option.some_or,s_conv,e_conv,s_slc3,e_cut3,e_cut3n,e_bns,e_bnn,e_splice,if_true,if_false,ite_true,ite_false,true_or,ne_eq,seval,h_putc,beq_self_eq_true,eq_self,exists_eq_left,exists_eq_left',hA,c1,d1',d2]
      exact frz_sc
    rw [decide_eq_true d2,Bool.true_and] at hr
    by_cases d3 : x.ornament = 0
    rotate_left
    · rw [decide_eq_false d3,Bool.false_and] at hr; subst hr
      simp -implicitDefEqProofs (maxDischargeDepth:=12) only [WW,List.replicate,Option.some_or,s_conv,e_conv,s_slc3,e_cut3,e_cut3n,e_bns,e_bnn,e_splice,if_true,if_false,ite_true,ite_false,true_or,ne_eq,seval,h_putc,beq_self_eq_true,eq_self,exists_eq_left,exists_eq_left',hA,c1,d1',eq_true d2,d3]
      exact frz_sc
    rw [decide_eq_true d3,Bool.true_and] at hr
    by_cases d4 : x.dynamic = 0
    rotate_left
    · rw [decide_eq_false d4,Bool.false_and] at hr; subst hr
      simp -implicitDefEqProofs (maxDischargeDepth:=12) only [WW,List.replicate,Option.some_or,s_conv,e_conv,s_slc3,e_cut3,e_cut3n,e_bns,e_bnn,e_splice,if_true,if_false,ite_true,ite_false,true_or,ne_eq,seval,h_putc,beq_self_eq_true,eq_self,exists_eq_left,exists_eq_left',hA,c1,d1',eq_true d2,eq_true d3,d4]
      exact frz_sc
    rw [decide_eq_true d4,Bool.true_and] at hr
    have d5' : (x.lyrics.l.length = 0) = ((x.lyrics.l.length : Int) = 0):=propext (by omega)
    simp only [d5'] at hr
    subst hr
    simp -implicitDefEqProofs (maxDischargeDepth:=12) only [WW,List.replicate,Option.some_or,s_conv,e_conv,s_slc3,e_cut3,e_cut3n,e_bns,e_bnn,e_splice,if_true,if_false,ite_true,ite_false,true_or,ne_eq,seval,h_putc,beq_self_eq_true,eq_self,exists_eq_left,exists_eq_left',hA,c1,d1',eq_true d2,eq_true d3,eq_true d4]
    exact frz_sc
theorem map_plain {l : List Head} : l = l.map Head.plain ↔ l.all (fun h => decide (h.shown = 0)) = true:=by
  induction l with
  | nil => simp
  | cons h l ih =>
    simp only [List.map_cons,List.cons.injEq,List.all_cons,Bool.and_eq_true,decide_eq_true_eq,ih]
    refine and_congr ⟨fun k => ?_,fun k => ?_⟩ Iff.rfl
    · rw [k]; rfl
    · cases h; simp only at k; subst k; rfl
theorem Note.bare_heads {x : Note} : x.bare.heads.l = x.heads.l.map Head.plain:=by
  show Sl.l (x.heads.map (List.map Head.plain)) = _
  cases x.heads <;> rfl
theorem plainB_iff {x : Note} : x.cn = x.bare.cn ↔ x.plainB = true:=by
  unfold Note.cn Note.plainB Note.tailB
  rw [Note.bare_heads]
  simp only [Note.mk.injEq,of_inj,Bool.and_eq_true,decide_eq_true_eq,map_plain,List.length_eq_zero_iff]
  have e1 : x.bare.at_ = x.at_:=rfl
  have e2 : x.bare.len = x.len:=rfl
  have e3 : x.bare.graces.l = []:=rfl
  have e4 : x.bare.lyrics.l = []:=rfl
  have e5 : x.bare.articulations = 0:=rfl
  have e6 : x.bare.ornament = 0:=rfl
  have e7 : x.bare.dynamic = 0:=rfl
  rw [e1,e2,e3,e4,e5,e6,e7]
  simp only [true_and]
theorem pitch_cmp {a b : Pitch} : (decide (a.step = b.step) && (decide (a.alter = b.alter) && decide (a.octave = b.octave))) = decide (a = b):=by
  cases a; cases b; simp only [Pitch.mk.injEq,Bool.decide_and]
def headsOne (a b : Note) : Bool:=a.heads.l.all (·.tied) && decide (a.heads.l.map Head.pitch = b.heads.l.map Head.pitch)
def oneB (a b : Note) : Bool:=decide (a.fin = b.at_) && (b.plainB && headsOne a b)
theorem headsOne_len {a b : Note} (h : a.heads.l.length ≠ b.heads.l.length) : headsOne a b = false:=by
  unfold headsOne
  rw [decide_eq_false fun k => h (map_inj_len k),Bool.and_false]
theorem rone_pv (a b : Note) (ha : a.heads.l.length < 1000000) (hb : b.heads.l.length < 1000000) : Pv prog polS 34 [a.enc,b.enc] (.sc (.bool (oneB a b))):=by
  refine Pv_of' ok34 (by simp only [AV.closedBs,Note.enc_closed,Bool.and_self]) ?_
  generalize hr : oneB a b = r
  unfold oneB at hr
  generalize hf : a.fin = f at hr
  have hf' : IntKind.i64.wrap (a.at_ + a.len) = f:=hf
  by_cases h1 : f = b.at_
  rotate_left
  · rw [decide_eq_false h1,Bool.false_and] at hr; subst hr
    simp -implicitDefEqProofs (maxDischargeDepth:=12) only [wpF,cf34,WW,List.replicate,Option.some_or,s_conv,e_conv,s_slc3,e_cut3,e_cut3n,e_bns,e_bnn,e_splice,if_true,if_false,ite_true,ite_false,true_or,ne_eq,seval,h_putc,beq_self_eq_true,eq_self,exists_eq_left,exists_eq_left',a.enc_eq,b.enc_eq,hf',h1]
    exact frz_sc
  rw [decide_eq_true h1,Bool.true_and] at hr
  simp -implicitDefEqProofs (maxDischargeDepth:=12) only [wpF,cf34,WW,List.replicate,Option.some_or,s_conv,e_conv,s_slc3,e_cut3,e_cut3n,e_bns,e_bnn,e_splice,if_true,if_false,ite_true,ite_false,true_or,ne_eq,seval,h_putc,beq_self_eq_true,eq_self,exists_eq_left,exists_eq_left',a.enc_eq,b.enc_eq,hf',eq_true h1]
  rw [← b.enc_eq]
  refine wA_pure rfl (plain_pv b hb) ?_
  cases h2 : b.plainB with
  | false =>
    rw [h2,Bool.false_and] at hr; subst hr
    simp -implicitDefEqProofs (maxDischargeDepth:=12) only [WW,List.replicate,Option.some_or,s_conv,e_conv,s_slc3,e_cut3,e_cut3n,e_bns,e_bnn,e_splice,if_true,if_false,ite_true,ite_false,true_or,ne_eq,seval,h_putc,beq_self_eq_true,eq_self,exists_eq_left,exists_eq_left',a.enc_eq,b.enc_eq]
    exact frz_sc
  | true =>
    rw [h2,Bool.true_and] at hr
    by_cases h3 : (a.heads.l.length : Int) = (b.heads.l.length : Int)
    rotate_left
    · rw [headsOne_len (fun k => h3 (by rw [k]))] at hr; subst hr
      simp -implicitDefEqProofs (maxDischargeDepth:=12) only [WW,List.replicate,Option.some_or,s_conv,e_conv,s_slc3,e_cut3,e_cut3n,e_bns,e_bnn,e_splice,if_true,if_false,ite_true,ite_false,true_or,ne_eq,seval,h_putc,beq_self_eq_true,eq_self,exists_eq_left,exists_eq_left',a.enc_eq,b.enc_eq,h3]
      exact frz_sc
    simp -implicitDefEqProofs (maxDischargeDepth:=12) only [WW,List.replicate,Option.some_or,s_conv,e_conv,s_slc3,e_cut3,e_cut3n,e_bns,e_bnn,e_splice,if_true,if_false,ite_true,ite_false,true_or,ne_eq,seval,h_putc,beq_self_eq_true,eq_self,exists_eq_left,exists_eq_left',a.enc_eq,b.enc_eq,eq_true h3]
    refine wp_loop (Inv:=fun k t H => ∃ (i : Nat),i + k = a.heads.l.length∧H.cells 0 = some a.enc.cells∧H.cells 1 = some b.enc.cells∧(a.heads.l.take i).all (·.tied) = true∧(a.heads.l.take i).map Head.pitch = (b.heads.l.take i).map Head.pitch ∧
      ∃ y : Nat→AV,t = [a.enc,b.enc,.ptr 0 0,.ptr 1 0,.sc (.bool false),.sc (.int .i64 i),y 6,y 7,y 8,y 9,y 10,y 11,y 12,y 13,y 14,y 15,y 16,y 17,y 18,y 19,y 20,y 21,y 22,y 23,y 24,y 25,y 26,y 27,y 28,y 29,y 30,y 31,y 32,y 33,y 34,y 35,y 36,y 37,y 38,y 39,y 40,y 41,y 42,y 43,y 44,y 45,y 46,y 47,y 48,y 49,y 50,y 51,y 52,y 53,y 54,y 55,y 56]) (k:=a.heads.l.length) ?_
      ⟨0,by omega,?_,?_,by simp,rfl,ex_x rfl⟩
    rotate_left
    · simp -implicitDefEqProofs (maxDischargeDepth:=12) only [WW,List.replicate,Option.some_or,s_conv,e_conv,s_slc3,e_cut3,e_cut3n,e_bns,e_bnn,e_splice,if_true,if_false,ite_true,ite_false,true_or,ne_eq,seval,h_putc,beq_self_eq_true,eq_self,exists_eq_left,exists_eq_left']; rfl
    · simp -implicitDefEqProofs (maxDischargeDepth:=12) only [WW,List.replicate,Option.some_or,s_conv,e_conv,s_slc3,e_cut3,e_cut3n,e_bns,e_bnn,e_splice,if_true,if_false,ite_true,ite_false,true_or,ne_eq,seval,h_putc,beq_self_eq_true,eq_self,exists_eq_left,exists_eq_left']; rfl
    rintro k t H ⟨i,hk,hA,hB,ht1,ht2,y,rfl⟩
    simp only [a.enc_eq,b.enc_eq,c_agg] at hA hB
    by_cases c1 : (i : Int) < (a.heads.l.length : Int)
    · obtain ⟨u,hu⟩ : ∃ y,a.heads.l[i]? = some y:=⟨_,List.getElem?_eq_getElem (by omega)⟩
      obtain ⟨v,hv⟩ : ∃ y,b.heads.l[i]? = some y:=⟨_,List.getElem?_eq_getElem (by omega)⟩
      have e2 : IntKind.i64.wrap ((i : Int) + 1) = ((i + 1 : Nat) : Int):=by rw [w64 (by omega) (by omega)]; omega
      cases c2 : u.tied with
      | false =>
        unfold headsOne at hr
        rw [all_no (p:=fun h : Head => h.tied) hu c2,Bool.false_and] at hr; subst hr
        simp -implicitDefEqProofs (maxDischargeDepth:=12) only [WW,List.replicate,Option.some_or,s_conv,e_conv,s_slc3,e_cut3,e_cut3n,e_bns,e_bnn,e_splice,if_true,if_false,ite_true,ite_false,true_or,ne_eq,seval,h_putc,beq_self_eq_true,eq_self,exists_eq_left,exists_eq_left',hA,hB,c1,hu,u.enc_eq,c2]
        exact frz_sc
      | true =>
        by_cases c3 : u.pitch = v.pitch
        · simp -implicitDefEqProofs (maxDischargeDepth:=12) only [WW,List.replicate,Option.some_or,s_conv,e_conv,s_slc3,e_cut3,e_cut3n,e_bns,e_bnn,e_splice,if_true,if_false,ite_true,ite_false,true_or,ne_eq,seval,h_putc,beq_self_eq_true,eq_self,exists_eq_left,exists_eq_left',hA,hB,c1,hu,hv,u.enc_eq,v.enc_eq,c2,pitch_cmp,eq_true c3,e2]
          exact ⟨k - 1,by omega,i + 1,by omega,rfl,rfl,by rw [all_take hu ht1]; exact c2,map_step hu hv c3 ht2,ex_x rfl⟩
        · unfold headsOne at hr
          rw [decide_eq_false (fun k => map_ne hu hv c3 k),Bool.and_false] at hr; subst hr
          simp -implicitDefEqProofs (maxDischargeDepth:=12) only [WW,List.replicate,Option.some_or,s_conv,e_conv,s_slc3,e_cut3,e_cut3n,e_bns,e_bnn,e_splice,if_true,if_false,ite_true,ite_false,true_or,ne_eq,seval,h_putc,beq_self_eq_true,eq_self,exists_eq_left,exists_eq_left',hA,hB,c1,hu,hv,u.enc_eq,v.enc_eq,c2,pitch_cmp,c3]
          exact frz_sc
    · rw [List.take_of_length_le (by omega)] at ht1 ht2
      rw [List.take_of_length_le (by omega)] at ht2
      unfold headsOne at hr
      rw [ht1,decide_eq_true ht2] at hr; subst hr
      simp -implicitDefEqProofs (maxDischargeDepth:=12) only [WW,List.replicate,Option.some_or,s_conv,e_conv,s_slc3,e_cut3,e_cut3n,e_bns,e_bnn,e_splice,if_true,if_false,ite_true,ite_false,true_or,ne_eq,seval,h_putc,beq_self_eq_true,eq_self,exists_eq_left,exists_eq_left',hA,hB,c1]
      exact frz_sc
end Go.Hem
namespace Go.Hem
variable {pol : Pol}
theorem ownL_closed {O : AHeap→AV→AV→List Nat→Prop} {H : AHeap} (hO : ∀ v u f,O H v u f→AV.closedB v = true→u = v) {vs us : List AV} {fp : List Nat} (h : OwnL O H vs us fp) : AV.closedBs vs = true→us = vs:=by
  induction h with
  | nil => intro _; rfl
  | cons h1 h2 h3 ih =>
    intro k
    rw [cl_cons,Bool.and_eq_true] at k
    rw [hO _ _ _ h1 k.1,ih k.2]
theorem own_closedB {I : Bool} {H : AHeap} : ∀ {d : Nat} {v u : AV} {fp : List Nat},OwnX I d H v u fp→AV.closedB v = true→u = v
  | 0,_,_,_,h,_ => h.elim
  | d + 1,v,u,fp,h,k => by
    cases v <;> simp only [OwnX] at h
    case sc => exact h.1
    case imm => exact h.2.1
    case agg cs =>
      obtain ⟨us,rfl,h2⟩:=h
      rw [ownL_closed (fun _ _ _ => own_closedB) h2 k]
    case slice => cases k
theorem wA_own {P : Program} {is : List CI} {dst : Option Tmp} {rd : List COp} {R : List AV→AHeap→Prop} {x : AV} {t : List AV} {H : AHeap} {f : FuncId} {args us : List AV} {fp : List Nat} {r : Sc} (hp : pol.pure f = true) (h : OwnL (Own 20) H args us fp) (hv : Pv P pol f us (.sc r))
    (k : wpIns P pol is (putT (x :: t) dst (.sc r)) H R) : wA P pol rd is dst (x :: t) H R (some true) (some (.call f args)):=by
  cases hc : AV.closedBs args with
  | true =>
    rw [ownL_closed (fun _ _ _ => own_closedB) h hc] at hv
    exact wA_pure hp hv k
  | false => exact wA_pvf hp (pvf_own hc h hv k)
theorem noteQ_own {H : AHeap} {r : List AV} {x : Note} {g : List Nat} (h : NoteQ H r x g) : ∃ g',Own 20 H (.agg r) x.enc g'∧∀ b ∈ g',b ∈ g:=by
  obtain ⟨g',h1,h2⟩:=noteQ.own h
  exact ⟨g',⟨_,rfl,h1.mono (by decide)⟩,h2⟩
theorem end_pv (x : Note) : Pv prog polS 27 [x.enc] (.sc (.int .i64 x.fin)):=by
  refine Pv_of' ok27 (by simp only [AV.closedBs,Note.enc_closed,Bool.and_self]) ?_
  simp -implicitDefEqProofs (maxDischargeDepth:=12) only [wpF,cf27,WW,List.replicate,Option.some_or,s_conv,e_conv,s_slc3,e_cut3,e_cut3n,e_bns,e_bnn,e_splice,if_true,if_false,ite_true,ite_false,true_or,ne_eq,seval,h_putc,beq_self_eq_true,eq_self,exists_eq_left,exists_eq_left',x.enc_eq]
  exact frz_sc
theorem callee74 (args : List AV) : acallee prog 74 args = some (.call 74 args):=by kernel_rfl
theorem callee76 (args : List AV) : acallee prog 76 args = some (.call 76 args):=by kernel_rfl
theorem callee77 (args : List AV) : acallee prog 77 args = some (.call 77 args):=by kernel_rfl
theorem asks74 {H0 : AHeap} : Asks 74 [] H0 fun h => !h.tied:=by
  intro H x hK hn
  refine (wpF_ok ok74 (Q:=fun v H' => v = .sc (.bool (!x.tied))∧Keep H.next H H'∧H.next ≤ H'.next) ?_).mono ?_
  rotate_left
  · rintro o H' ⟨v,rfl,rfl,h⟩
    exact ⟨rfl,h⟩
  simp -implicitDefEqProofs (maxDischargeDepth:=12) only [wpF,cf74,WW,List.replicate,Option.some_or,s_conv,e_conv,s_slc3,e_cut3,e_cut3n,e_bns,e_bnn,e_splice,if_true,if_false,ite_true,ite_false,true_or,ne_eq,seval,h_putc,beq_self_eq_true,eq_self,exists_eq_left,exists_eq_left',x.enc_eq]
  exact ⟨(by repeat (first | exact Keep.refl | refine Keep.put (by (try simp only [AHeap.next_alloc,AHeap.next_put]); omega) ?_ | refine Keep.alloc (by (try simp only [AHeap.next_alloc,AHeap.next_put]); omega) ?_)),by omega⟩
theorem pitchEq_pv (a b : Head) : Pv prog polS 76 [a.enc,b.enc] (.sc (.bool (decide (a.pitch = b.pitch)))):=by
  refine Pv_of' ok76 (by simp only [AV.closedBs,Head.enc_closed,Bool.and_self]) ?_
  simp -implicitDefEqProofs (maxDischargeDepth:=12) only [wpF,cf76,WW,List.replicate,Option.some_or,s_conv,e_conv,s_slc3,e_cut3,e_cut3n,e_bns,e_bnn,e_splice,if_true,if_false,ite_true,ite_false,true_or,ne_eq,seval,h_putc,beq_self_eq_true,eq_self,exists_eq_left,exists_eq_left',a.enc_eq,b.enc_eq,pitch_cmp]
  exact frz_sc
theorem eqPitches_pv (a b : Sl Head) (ha : a.l.length < 1000000) : Pv prog polS 75 [slm Head.enc a,slm Head.enc b,.func (.func 76) [] []] (.sc (.bool (decide (a.l.map Head.pitch = b.l.map Head.pitch)))) :=
  eqFunc_pv (z:=[.sc (.int .i64 0),.sc (.int .i64 0),.sc (.int .i64 0),.sc (.bool false),.sc (.int .i64 0)]) Head.enc_closed Head.enc_len (by decide) (fun x => take_self (Head.enc_len x)) (fun x => rfl) (fun x => by simp -implicitDefEqProofs (maxDischargeDepth:=12) only [AV.ones,List.all_cons,List.all_nil,Head.enc_eq,WW,List.replicate,Option.some_or,s_conv,e_conv,s_slc3,e_cut3,e_cut3n,e_bns,e_bnn,e_splice,if_true,if_false,ite_true,ite_false,true_or,ne_eq,seval,h_putc,beq_self_eq_true,eq_self,exists_eq_left,exists_eq_left']) rfl callee76 rfl (fun _ => True) (fun x y _ => pitchEq_pv x y) ok75 a b ha fun _ _ => trivial
theorem all_not {l : List Head} : (l.any fun h => !h.tied) = !l.all (·.tied):=by
  induction l with
  | nil => rfl
  | cons h l ih => rw [List.any_cons,List.all_cons,ih,Bool.not_and]
theorem Note.tame_bare {x : Note} (h : x.tame) : x.bare.tame:=⟨by rw [Note.bare_heads,List.length_map]; exact h.heads,by show (0 : Nat) < _; omega,by show (0 : Nat) < _; omega,fun s hs => by simp [Note.bare,Sl.l] at hs⟩
theorem one_pv (a b : Note) (ta : a.tame) (tb : b.tame) : Pv prog polS 54 [a.enc,b.enc] (.sc (.bool (oneB a b))):=by
  refine Pv_of' ok54 (by simp only [AV.closedBs,Note.enc_closed,Bool.and_self]) ?_
  generalize hr : oneB a b = r
  unfold oneB at hr
  simp -implicitDefEqProofs (maxDischargeDepth:=12) only [wpF,cf54,WW,List.replicate,Option.some_or,s_conv,e_conv,s_slc3,e_cut3,e_cut3n,e_bns,e_bnn,e_splice,if_true,if_false,ite_true,ite_false,true_or,ne_eq,seval,h_putc,beq_self_eq_true,eq_self,exists_eq_left,exists_eq_left',a.enc_eq,b.enc_eq]
  rw [← a.enc_eq]
  refine wA_pure rfl (end_pv a) ?_
  by_cases h1 : a.fin = b.at_
  rotate_left
  · rw [decide_eq_false h1,Bool.false_and] at hr; subst hr
    simp -implicitDefEqProofs (maxDischargeDepth:=12) only [WW,List.replicate,Option.some_or,s_conv,e_conv,s_slc3,e_cut3,e_cut3n,e_bns,e_bnn,e_splice,if_true,if_false,ite_true,ite_false,true_or,ne_eq,seval,h_putc,beq_self_eq_true,eq_self,exists_eq_left,exists_eq_left',a.enc_eq,b.enc_eq,h1]
    exact frz_sc
  rw [decide_eq_true h1,Bool.true_and] at hr
  simp -implicitDefEqProofs (maxDischargeDepth:=12) only [WW,List.replicate,Option.some_or,s_conv,e_conv,s_slc3,e_cut3,e_cut3n,e_bns,e_bnn,e_splice,if_true,if_false,ite_true,ite_false,true_or,ne_eq,seval,h_putc,beq_self_eq_true,eq_self,exists_eq_left,exists_eq_left',a.enc_eq,b.enc_eq,eq_true h1]
  have ef : ∀ (x : AV) t,aev (x :: t) (.func 74) = .func (.func 74) [] []:=fun _ _ => rfl
  have eg : ∀ (x : AV) t,aev (x :: t) (.func 76) = .func (.func 76) [] []:=fun _ _ => rfl
  simp only [ef]
  refine wA_call rfl ((contains_ok rfl callee74 asks74 a.heads ta.heads).mono ?_)
  rintro o H1 ⟨rfl,hk,hn⟩
  refine ⟨_,rfl,?_⟩
  simp only [AHeap.next_alloc] at hk hn
  have c0:=hk 0 (by simp)
  have c1:=hk 1 (by simp)
  simp -implicitDefEqProofs (maxDischargeDepth:=12) only [WW,List.replicate,Option.some_or,s_conv,e_conv,s_slc3,e_cut3,e_cut3n,e_bns,e_bnn,e_splice,if_true,if_false,ite_true,ite_false,true_or,ne_eq,seval,h_putc,beq_self_eq_true,eq_self,exists_eq_left,exists_eq_left'] at c0 c1
  simp only [all_not]
  unfold headsOne at hr
  cases h2 : a.heads.l.all (·.tied) with
  | false =>
    rw [h2,Bool.false_and,Bool.and_false] at hr; subst hr
    simp -implicitDefEqProofs (maxDischargeDepth:=12) only [WW,List.replicate,Option.some_or,s_conv,e_conv,s_slc3,e_cut3,e_cut3n,e_bns,e_bnn,e_splice,if_true,if_false,ite_true,ite_false,true_or,ne_eq,seval,h_putc,beq_self_eq_true,eq_self,exists_eq_left,exists_eq_left',c0,c1]
    exact frz_sc
  | true =>
    rw [h2,Bool.true_and] at hr
    simp -implicitDefEqProofs (maxDischargeDepth:=12) only [WW,List.replicate,Option.some_or,s_conv,e_conv,s_slc3,e_cut3,e_cut3n,e_bns,e_bnn,e_splice,if_true,if_false,ite_true,ite_false,true_or,ne_eq,seval,h_putc,beq_self_eq_true,eq_self,exists_eq_left,exists_eq_left',c0,c1]
    simp only [eg]
    refine wA_pure rfl (eqPitches_pv a.heads b.heads ta.heads) ?_
    by_cases h3 : a.heads.l.map Head.pitch = b.heads.l.map Head.pitch
    rotate_left
    · rw [decide_eq_false h3,Bool.and_false] at hr; subst hr
      simp -implicitDefEqProofs (maxDischargeDepth:=12) only [WW,List.replicate,Option.some_or,s_conv,e_conv,s_slc3,e_cut3,e_cut3n,e_bns,e_bnn,e_splice,if_true,if_false,ite_true,ite_false,true_or,ne_eq,seval,h_putc,beq_self_eq_true,eq_self,exists_eq_left,exists_eq_left',c0,c1,h3]
      exact frz_sc
    rw [decide_eq_true h3,Bool.and_true] at hr
    simp -implicitDefEqProofs (maxDischargeDepth:=12) only [WW,List.replicate,Option.some_or,s_conv,e_conv,s_slc3,e_cut3,e_cut3n,e_bns,e_bnn,e_splice,if_true,if_false,ite_true,ite_false,true_or,ne_eq,seval,h_putc,beq_self_eq_true,eq_self,exists_eq_left,exists_eq_left',c0,c1,eq_true h3]
    rw [← b.enc_eq]
    refine wA_call rfl ((bare_ok b tb.heads _).mono ?_)
    rintro o H2 ⟨row,g,rfl,hrow,hF⟩
    refine ⟨_,rfl,?_⟩
    have d1:=(hF.2.2 1 (by omega)).trans c1
    simp -implicitDefEqProofs (maxDischargeDepth:=12) only [WW,List.replicate,Option.some_or,s_conv,e_conv,s_slc3,e_cut3,e_cut3n,e_bns,e_bnn,e_splice,if_true,if_false,ite_true,ite_false,true_or,ne_eq,seval,h_putc,beq_self_eq_true,eq_self,exists_eq_left,exists_eq_left',c1,d1]
    obtain ⟨g',o1,_⟩:=noteQ_own hrow
    refine wA_own rfl (OwnL.cons (own_closed (d:=18) (Note.enc_plain b)) (.cons o1 .nil Apart.nil_right) Apart.nil_left) (nEqual_pv b b.bare tb (Note.tame_bare tb)) ?_
    have e : decide (b.cn = b.bare.cn) = b.plainB:=by
      cases q : b.plainB with
      | true => exact decide_eq_true (plainB_iff.2 q)
      | false => exact decide_eq_false fun k => by rw [plainB_iff.1 k] at q; cases q
    rw [e,hr]
    simp -implicitDefEqProofs (maxDischargeDepth:=12) only [WW,List.replicate,Option.some_or,s_conv,e_conv,s_slc3,e_cut3,e_cut3n,e_bns,e_bnn,e_splice,if_true,if_false,ite_true,ite_false,true_or,ne_eq,seval,h_putc,beq_self_eq_true,eq_self,exists_eq_left,exists_eq_left']
    exact frz_sc
theorem asks77 {H0 : AHeap} {q : Nat} {p : Pitch} (hq : H0.cells q = some p.enc.cells) : Asks 77 [.ptr q 0] H0 fun h => decide (h.pitch = p):=by
  intro H x hK hn
  refine (wpF_ok ok77 (Q:=fun v H' => v = .sc (.bool (decide (x.pitch = p)))∧Keep H.next H H'∧H.next ≤ H'.next) ?_).mono ?_
  rotate_left
  · rintro o H' ⟨v,rfl,rfl,h⟩
    exact ⟨rfl,h⟩
  have hq2:=h_lt hq
  have c0:=hK.cells hq hq2
  have nq : ¬ q = H.next:=by omega
  simp only [p.enc_eq,c_agg] at c0
  simp -implicitDefEqProofs (maxDischargeDepth:=12) only [wpF,cf77,WW,List.replicate,Option.some_or,s_conv,e_conv,s_slc3,e_cut3,e_cut3n,e_bns,e_bnn,e_splice,if_true,if_false,ite_true,ite_false,true_or,ne_eq,seval,h_putc,beq_self_eq_true,eq_self,exists_eq_left,exists_eq_left',x.enc_eq,c0,nq,pitch_cmp]
  exact ⟨(by repeat (first | exact Keep.refl | refine Keep.put (by (try simp only [AHeap.next_alloc,AHeap.next_put]); omega) ?_ | refine Keep.alloc (by (try simp only [AHeap.next_alloc,AHeap.next_put]); omega) ?_)),by omega⟩
def Note.hasB (x : Note) (p : Pitch) : Bool:=x.heads.l.any fun h => decide (h.pitch = p)
theorem has_pv (x : Note) (p : Pitch) (tx : x.tame) : Pv prog polS 55 [x.enc,p.enc] (.sc (.bool (x.hasB p))):=by
  refine Pv_of' ok55 (by simp only [AV.closedBs,Note.enc_closed,Pitch.enc_closed,Bool.and_self]) ?_
  simp -implicitDefEqProofs (maxDischargeDepth:=12) only [wpF,cf55,WW,List.replicate,Option.some_or,s_conv,e_conv,s_slc3,e_cut3,e_cut3n,e_bns,e_bnn,e_splice,if_true,if_false,ite_true,ite_false,true_or,ne_eq,seval,h_putc,beq_self_eq_true,eq_self,exists_eq_left,exists_eq_left',x.enc_eq,p.enc_eq]
  refine wA_call rfl ((contains_ok (p:=fun h => decide (h.pitch = p)) rfl callee77 (asks77 ?_) x.heads tx.heads).mono ?_)
  · simp -implicitDefEqProofs (maxDischargeDepth:=12) only [WW,List.replicate,Option.some_or,s_conv,e_conv,s_slc3,e_cut3,e_cut3n,e_bns,e_bnn,e_splice,if_true,if_false,ite_true,ite_false,true_or,ne_eq,seval,h_putc,beq_self_eq_true,eq_self,exists_eq_left,exists_eq_left']; rfl
  rintro o H1 ⟨rfl,hk,hn⟩
  refine ⟨_,rfl,?_⟩
  simp -implicitDefEqProofs (maxDischargeDepth:=12) only [WW,List.replicate,Option.some_or,s_conv,e_conv,s_slc3,e_cut3,e_cut3n,e_bns,e_bnn,e_splice,if_true,if_false,ite_true,ite_false,true_or,ne_eq,seval,h_putc,beq_self_eq_true,eq_self,exists_eq_left,exists_eq_left']
  exact frz_sc
end Go.Hem
namespace Go.Hem
def tieTo (l m : List Head) : List Head:=List.zipWith (fun h k => { h with tied:=k.tied }) l m
def merge (a x : Note) : Note:={ a with len:=IntKind.i64.wrap (a.len + x.len),heads:=a.heads.map fun l => tieTo l x.heads.l }
def stepT (out : List Note) (x : Note) : List Note :=
  match out.getLast? with
  | some a => if oneB a x then out.set (out.length - 1) (merge a x) else out ++ [x]
  | none => [x]
def keepTie (n : Note) (nx : Option Note) (h : Head) : Bool:=h.tied && (match nx with | some m => decide (m.at_ = n.fin) && m.hasB h.pitch | none => false)
def Head.tie (h : Head) (b : Bool) : Head:={ h with tied:=b }
def untieN (n : Note) (nx : Option Note) : Note:={ n with heads:=n.heads.map (List.map fun h => h.tie (keepTie n nx h)) }
def untie : List Note→List Note
  | [] => []
  | n :: t => untieN n t.head? :: untie t
def tidyP (l : List Note) : List Note:=untie (l.foldl stepT [])
theorem untie_len {l : List Note} : (untie l).length = l.length:=by
  induction l with
  | nil => rfl
  | cons n t ih => simp [untie,ih]
theorem untie_get {l : List Note} : ∀ {i : Nat} {n : Note},l[i]? = some n→(untie l)[i]? = some (untieN n l[i + 1]?):=by
  induction l with
  | nil => intro i n h; simp at h
  | cons m t ih =>
    intro i n h
    cases i with
    | zero => simp at h; subst h; simp [untie,List.head?_eq_getElem?]
    | succ i => simpa [untie] using ih (by simpa using h)
theorem noteQ_cells {H : AHeap} {r : List AV} {x : Note} {g : List Nat} (h : NoteQ H r x g) : ∃ hv fh,r[0]? = some (intE x.at_)∧r[1]? = some (intE x.len)∧r[2]? = some hv∧AccQ HeadQ 5 H hv x.heads fh∧(∀ b ∈ fh,b ∈ g) ∧
    (∀ z H',(∀ c ∈ g,H'.cells c = H.cells c)→NoteQ H' (r.set 1 (intE z)) { x with len:=z } g)∧(∀ z H',(∀ c ∈ g,H'.cells c = H.cells c)→NoteQ H' (r.set 0 (intE z)) { x with at_:=z } g) ∧
    (∀ H' s f',AccQ HeadQ 5 H' hv s f'→(∀ c ∈ g,c ∉ fh→H'.cells c = H.cells c)→(∀ c ∈ f',c ∈ fh ∨ c ∉ g)→∃ g',NoteQ H' r { x with heads:=s } g'∧∀ c ∈ g',c ∈ f' ∨ c ∈ g):=by
  have h0:=h
  obtain ⟨hv,gv,lv,fh,fg,fl,rfl,h1,h2,h3,h4,h5,h6,h7,h8,rfl⟩:=h
  refine ⟨hv,fh,rfl,rfl,rfl,h1,fun b hb => mem3.2 (.inl hb),fun z H' k => ?_,fun z H' k => ?_,fun H' s f' q k1 k2 => ?_⟩
  · obtain ⟨hv',gv',lv',fh',fg',fl',e,k1,k2,k3,k4,k5,k6,k7,k8,k9⟩:=noteQ.fr h0 k
    cases e
    exact ⟨hv,gv,lv,fh',fg',fl',rfl,k1,k2,k3,k4,k5,k6,k7,k8,k9⟩
  · obtain ⟨hv',gv',lv',fh',fg',fl',e,k1,k2,k3,k4,k5,k6,k7,k8,k9⟩:=noteQ.fr h0 k
    cases e
    exact ⟨hv,gv,lv,fh',fg',fl',rfl,k1,k2,k3,k4,k5,k6,k7,k8,k9⟩
  · have a1 : ∀ c ∈ fg,c ∉ f':=fun c hc hc2 => by
      rcases k2 c hc2 with h | h
      · exact h6 c h hc
      · exact h (mem3.2 (.inr (.inl hc)))
    have a2 : ∀ c ∈ fl,c ∉ f':=fun c hc hc2 => by
      rcases k2 c hc2 with h | h
      · exact h7 c h hc
      · exact h (mem3.2 (.inr (.inr hc)))
    refine ⟨f' ++ (fg ++ fl),⟨hv,gv,lv,f',fg,fl,rfl,q,h2.frame fun c hc => k1 c (mem3.2 (.inr (.inl hc))) fun h => h6 c h hc,h3.frame fun c hc => k1 c (mem3.2 (.inr (.inr hc))) fun h => h7 c h hc,h4,h5,fun c h1 h2 => a1 c h2 h1,fun c h1 h2 => a2 c h2 h1,h8,rfl⟩,fun c hc => ?_⟩
    rcases mem3.1 hc with h | h | h
    · exact .inl h
    · exact .inr (mem3.2 (.inr (.inl h)))
    · exact .inr (mem3.2 (.inr (.inr h)))
theorem head_cells {H : AHeap} {v : AV} {s : Sl Head} {fp : List Nat} (h : AccQ HeadQ 5 H v s fp) {k : Nat} {x : Head} (hx : s.l[k]? = some x) :
    ∃ b cap cs,v = .slice b 0 s.l.length cap 5∧H.cells b = some cs∧k * 5 + 5 ≤ cs.length∧cs[k * 5]? = some (intE x.pitch.step)∧cs[k * 5 + 1]? = some (intE x.pitch.alter)∧cs[k * 5 + 2]? = some (intE x.pitch.octave)∧cs[k * 5 + 3]? = some (.sc (.bool x.tied)) ∧
      (cs.drop (k * 5)).take 3 = x.pitch.enc.cells∧b ∈ fp∧∀ w : Bool,∃ fp',AccQ HeadQ 5 (H.put b (some (.cells (splice cs (k * 5 + 3) [.sc (.bool w)])))) v (some (s.l.set k (x.tie w))) fp'∧∀ c ∈ fp',c ∈ fp:=by
  obtain ⟨b,cap,cs,r,g,a1,a2,a3,a4,a5,a6,a7,a8,a9,a10,a11⟩:=h.cell headQ hx
  obtain ⟨rfl,rfl⟩:=a6
  refine ⟨b,cap,cs,a1,a2,a3,a4 0 _ rfl,a4 1 _ rfl,a4 2 _ rfl,a4 3 _ rfl,?_,a7,fun w => a10 3 (.sc (.bool w)) (x.tie w) (by decide) fun H' _ => ⟨rfl,rfl⟩⟩
  have:=congrArg (List.take 3) a5
  rw [List.take_take] at this
  exact this
theorem note_cells {H : AHeap} {v : AV} {s : Sl Note} {fp : List Nat} (h : AccQ NoteQ 8 H v s fp) {i : Nat} {x : Note} (hx : s.l[i]? = some x) :
    ∃ b cap cs r g hv,v = .slice b 0 s.l.length cap 8∧H.cells b = some cs∧i * 8 + 8 ≤ cs.length∧cs[i * 8]? = some (intE x.at_)∧cs[i * 8 + 1]? = some (intE x.len)∧cs[i * 8 + 2]? = some hv∧(cs.drop (i * 8)).take 8 = r∧NoteQ H r x g∧b ∈ fp∧(∀ c ∈ g,c ∈ fp) ∧
      lenOf hv = some (.sc (.int .i64 x.heads.l.length)) ∧
      (∀ z,∃ fp',AccQ NoteQ 8 (H.put b (some (.cells (splice cs (i * 8 + 1) [intE z])))) v (some (s.l.set i { x with len:=z })) fp'∧∀ c ∈ fp',c ∈ fp) ∧
      ∀ k y,x.heads.l[k]? = some y→∃ bh caph ch,hv = .slice bh 0 x.heads.l.length caph 5∧H.cells bh = some ch∧k * 5 + 5 ≤ ch.length∧ch[k * 5 + 3]? = some (.sc (.bool y.tied))∧(ch.drop (k * 5)).take 3 = y.pitch.enc.cells∧bh ∈ fp∧¬ b = bh ∧
        ∀ w : Bool,∃ fp',AccQ NoteQ 8 (H.put bh (some (.cells (splice ch (k * 5 + 3) [.sc (.bool w)])))) v (some (s.l.set i { x with heads:=some (x.heads.l.set k (y.tie w)) })) fp'∧∀ c ∈ fp',c ∈ fp:=by
  obtain ⟨b,cap,cs,r,g,a1,a2,a3,a4,a5,a6,a7,a8,a9,a10,a11⟩:=h.cell noteQ hx
  obtain ⟨hv,fh,b0,b1,b2,b3,b4,b5,b6,b7⟩:=noteQ_cells a6
  refine ⟨b,cap,cs,r,g,hv,a1,a2,a3,a4 0 _ b0,a4 1 _ b1,a4 2 _ b2,a5,a6,a7,a9,b3.length.1,fun z => a10 1 (intE z) _ (by decide) fun H' k => b5 z H' k,fun k y hy => ?_⟩
  obtain ⟨bh,caph,ch,c1,c2,c3,c4,c5,c6,c7,c8,c9,c10⟩:=head_cells b3 hy
  refine ⟨bh,caph,ch,c1,c2,c3,c7,c8,a9 _ (b4 _ c9),fun e => a8 (e ▸ b4 _ c9),fun w => ?_⟩
  obtain ⟨f',d1,d2⟩:=c10 w
  have hk : ∀ c,c ∉ fh→(H.put bh (some (.cells (splice ch (k * 5 + 3) [.sc (.bool w)])))).cells c = H.cells c:=fun c hc => c_put_ne fun e => hc (e ▸ c9)
  obtain ⟨g',e1,e2⟩:=b7 _ _ _ d1 (fun c _ hc => hk c hc) (fun c hc => .inl (d2 c hc))
  have hg' : ∀ c ∈ g',c ∈ g:=fun c hc => (e2 c hc).elim (fun h => b4 c (d2 c h)) id
  obtain ⟨fp',p1,p2⟩:=a11 _ _ _ e1 (fun c _ hc => hk c fun h => hc (b4 c h)) (fun c hc => .inl (hg' c hc))
  exact ⟨fp',p1,fun c hc => (p2 c hc).elim (fun h => a9 c (hg' c h)) id⟩
end Go.Hem
namespace Go.Hem
theorem getLast_at {α : Type} {l : List α} {a : α} (h : l.getLast? = some a) : l[l.length - 1]? = some a:=by rw [← List.getLast?_eq_getElem?]; exact h
theorem oneB_len {a x : Note} (h : oneB a x = true) : a.heads.l.length = x.heads.l.length:=by
  unfold oneB headsOne at h
  simp only [Bool.and_eq_true,decide_eq_true_eq] at h
  exact map_inj_len h.2.2.2
def tieUpTo (i : Nat) (l m : List Head) : List Head:=tieTo (l.take i) (m.take i) ++ l.drop i
theorem tieUp_zero {l m : List Head} : tieUpTo 0 l m = l:=by simp [tieUpTo,tieTo]
theorem tieTo_len {l m : List Head} (h : l.length = m.length) : (tieTo l m).length = l.length:=by simp [tieTo,h]
theorem tieUp_all {i : Nat} {l m : List Head} (h : l.length = m.length) (hi : ¬ i < l.length) : tieUpTo i l m = tieTo l m:=by
  unfold tieUpTo; rw [List.take_of_length_le (by omega),List.take_of_length_le (by omega),List.drop_of_length_le (by omega),List.append_nil]
theorem tieUp_len {i : Nat} {l m : List Head} (h : l.length = m.length) : (tieUpTo i l m).length = l.length:=by
  unfold tieUpTo; rw [List.length_append,tieTo_len (by simp [h])]; simp; omega
theorem tieUp_get {i : Nat} {l m : List Head} {x : Head} (h : l.length = m.length) (hx : l[i]? = some x) : (tieUpTo i l m)[i]? = some x:=by
  have hi:=(List.getElem?_eq_some_iff.1 hx).1
  have e : (tieTo (l.take i) (m.take i)).length = i:=by rw [tieTo_len (by simp [h])]; simp; omega
  unfold tieUpTo
  rw [List.getElem?_append_right (by omega),e,Nat.sub_self,List.getElem?_drop,Nat.add_zero]; exact hx
theorem tieUp_set {i : Nat} {l m : List Head} {x y : Head} (h : l.length = m.length) (hx : l[i]? = some x) (hy : m[i]? = some y) : (tieUpTo i l m).set i (x.tie y.tied) = tieUpTo (i + 1) l m:=by
  have hi:=(List.getElem?_eq_some_iff.1 hx).1
  have e : (tieTo (l.take i) (m.take i)).length = i:=by rw [tieTo_len (by simp [h])]; simp; omega
  unfold tieUpTo
  rw [List.set_append_right _ _ (by omega),e,Nat.sub_self,drop_cons hx,List.set_cons_zero,List.take_add_one,List.take_add_one,hx,hy]
  simp only [Option.toList_some]
  unfold tieTo
  rw [List.zipWith_append (by simp [h])]
  simp [Head.tie]
def StepPost (H0 : AHeap) (fp : List Nat) (L : List Note) (o : Out) (H' : AHeap) : Prop :=
  ∃ v' fp',o = .val v'∧AccQ NoteQ 8 H' v' (Sl.of L) fp'∧(∀ b,b ∉ fp→b < H0.next→H'.cells b = H0.cells b)∧(∀ b ∈ fp',b ∈ fp ∨ H0.next ≤ b)∧H0.next ≤ H'.next
theorem of_cons {α : Type} {l : List α} (h : l ≠ []) : Sl.of l = some l:=by
  unfold Sl.of; rw [if_neg (by rw [List.isEmpty_iff]; exact h)]
theorem asrc_one {n b : Nat} {H : AHeap} {cs : List AV} {c : Nat} (h : H.cells b = some cs) (hl : cs.length = n) : asrc n H (.slice b 0 1 c n) 1 = some cs:=by
  simp only [asrc,AHeap.rd,h,Option.some_or,Option.bind_some,Nat.zero_add,List.drop_zero,Nat.one_mul]
  rw [if_pos ⟨Nat.le_refl _,by omega⟩,← hl,List.take_length]
theorem step_ok (x : Note) (tx : x.tame) (L : List Note) (tL : ∀ y ∈ L,y.tame) (hL : L.length < 1000000) (H0 : AHeap) (v : AV) (fp : List Nat) (hA : AccQ NoteQ 8 H0 v (Sl.of L) fp) :
    Ev prog polS (.call 53 [v,x.enc]) H0 (StepPost H0 fp (stepT L x)):=by
  refine (wpF_ok ok53 (Q:=fun v' H' => ∃ fp',AccQ NoteQ 8 H' v' (Sl.of (stepT L x)) fp'∧(∀ b,b ∉ fp→b < H0.next→H'.cells b = H0.cells b)∧(∀ b ∈ fp',b ∈ fp ∨ H0.next ≤ b)∧H0.next ≤ H'.next) ?_).mono ?_
  rotate_left
  · rintro o H' ⟨v,rfl,fp',h⟩; exact ⟨v,fp',rfl,h⟩
  generalize hq : H0.next = q
  have hlt:=hA.lt noteQ
  cases hlast : L.getLast? with
  | none =>
    have hL0 : L = []:=List.getLast?_eq_none_iff.1 hlast
    subst hL0
    have es : stepT [] x = [x]:=rfl
    rw [es]
    rcases hA with ⟨rfl,_,rfl⟩ | ⟨b,cap,cs,rest,fp',l,h1,_⟩
    rotate_left
    · cases h1
    simp -implicitDefEqProofs (maxDischargeDepth:=12) only [wpF,cf53,WW,List.replicate,Option.some_or,s_conv,e_conv,s_slc3,e_cut3,e_cut3n,e_bns,e_bnn,e_splice,if_true,if_false,ite_true,ite_false,true_or,ne_eq,seval,h_putc,beq_self_eq_true,eq_self,exists_eq_left,exists_eq_left',x.enc_eq,hq,nq1,mq1,addq]
    rw [← x.enc_eq]
    generalize hH1 : AHeap.alloc H0 _ = H1
    have n1 : H1.next = q + 1:=by subst hH1; simp only [AHeap.next_alloc,hq]
    have kp : Keep q H0 H1:=by subst hH1; exact fun b hb => by rw [c_alloc_ne (by omega)]
    clear hH1
    refine wA_call rfl ((clone_ok x tx _).mono ?_)
    rintro o H2 ⟨r,g,rfl,hr,hF⟩
    refine ⟨_,rfl,?_⟩
    have hN:=hF.2.1
    have hrl : r.length = 8:=noteQ.len hr
    have hones:=hr.ones
    have glt:=noteQ.lt hr
    have sp : splice [AV.sc (.int .i64 0),.sc (.int .i64 0),.sc .nils,.sc .nils,.sc (.int .i64 0),.sc (.int .i64 0),.sc (.int .i64 0),.sc .nils] 0 r = r:=splice_full (by rw [hrl]; rfl)
    simp -implicitDefEqProofs (maxDischargeDepth:=12) only [WW,List.replicate,Option.some_or,s_conv,e_conv,s_slc3,e_cut3,e_cut3n,e_bns,e_bnn,if_true,if_false,ite_true,ite_false,true_or,ne_eq,seval,beq_self_eq_true,eq_self,exists_eq_left,exists_eq_left',hrl,hones,sp]
    refine wA_appQ noteQ (H0:=H0) (s:=none) (fp:=[]) (y:=x) (r:=r) (g:=g) accQ_none (by simp) rfl (asrc_one (by simp -implicitDefEqProofs (maxDischargeDepth:=12) only [WW,List.replicate,Option.some_or,s_conv,e_conv,s_slc3,e_cut3,e_cut3n,e_bns,e_bnn,e_splice,if_true,if_false,ite_true,ite_false,true_or,ne_eq,seval,h_putc,beq_self_eq_true,eq_self,exists_eq_left,exists_eq_left']) hrl) (noteQ.fr hr fun b hb => c_alloc_ne (by have:=glt b hb; omega)) Apart.nil_left (by simp [Sl.l]) ?_
    intro v' H3 fp' h1 h2 h3 h4 h5 h6
    simp only [AHeap.next_alloc] at h2 h3
    simp -implicitDefEqProofs (maxDischargeDepth:=12) only [WW,List.replicate,Option.some_or,s_conv,e_conv,s_slc3,e_cut3,e_cut3n,e_bns,e_bnn,e_splice,if_true,if_false,ite_true,ite_false,true_or,ne_eq,seval,h_putc,beq_self_eq_true,eq_self,exists_eq_left,exists_eq_left',h5,h6]
    refine ⟨fp',h1,fun b _ hb => ?_,fun b hb => ?_,by omega⟩
    · rw [h3 b (by simp) (by omega),c_alloc_ne (by omega),hF.2.2 b (by omega),kp b hb]
    · rcases h4 b hb with h | h | h
      · exact .inl h
      · have:=hF.1 b h; exact .inr (by omega)
      · simp only [AHeap.next_alloc] at h; exact .inr (by omega)
  | some a =>
    have hne : L ≠ []:=fun e => by subst e; cases hlast
    have hat:=getLast_at hlast
    have hpos : 0 < L.length:=by rcases Nat.eq_zero_or_pos L.length with h | h; exact absurd (List.length_eq_zero_iff.1 h) hne; exact h
    have ta:=tL a (List.mem_of_getElem? hat)
    rw [of_cons hne] at hA
    have es : stepT L x = if oneB a x then L.set (L.length - 1) (merge a x) else L ++ [x]:=by unfold stepT; rw [hlast]
    rw [es]
    generalize hi : L.length - 1 = i at hat es ⊢
    have ei : IntKind.i64.wrap ((L.length : Int) - 1) = (i : Int):=by rw [w64 (by omega) (by omega)]; omega
    have hil : i < L.length:=by omega
    have hne0 : ¬ (L.length : Int) = 0:=by omega
    obtain ⟨b,cap,cs,r,g,hv,a1,a2,a3,a4,a5,a6,a7,a8,a9,a10,a11,a12,a13⟩:=note_cells hA hat
    simp only [l_some] at a1 a12 a13
    subst a1
    have hb : b < q:=by have:=hlt b a9; omega
    have nb : ¬ b = q:=by omega
    obtain ⟨g',o1,o2⟩:=noteQ_own a8
    simp -implicitDefEqProofs (maxDischargeDepth:=12) only [wpF,cf53,WW,List.replicate,Option.some_or,s_conv,e_conv,s_slc3,e_cut3,e_cut3n,e_bns,e_bnn,e_splice,if_true,if_false,ite_true,ite_false,true_or,ne_eq,seval,h_putc,beq_self_eq_true,eq_self,exists_eq_left,exists_eq_left',x.enc_eq,hq,nq1,mq1,addq,hne0,ei,hil,a2,nb,a3,a7]
    rw [← x.enc_eq]
    generalize hH1 : AHeap.alloc H0 _ = H1
    have n1 : H1.next = q + 1:=by subst hH1; simp only [AHeap.next_alloc,hq]
    have kp : Keep q H0 H1:=by subst hH1; exact fun b hb => by rw [c_alloc_ne (by omega)]
    have cq:=congrArg (fun H => AHeap.cells H q) hH1
    simp -implicitDefEqProofs (maxDischargeDepth:=12) only [WW,List.replicate,Option.some_or,s_conv,e_conv,s_slc3,e_cut3,e_cut3n,e_bns,e_bnn,e_splice,if_true,if_false,ite_true,ite_false,true_or,ne_eq,seval,h_putc,beq_self_eq_true,eq_self,exists_eq_left,exists_eq_left',hq] at cq
    replace cq:=cq.symm
    clear hH1
    refine wA_own rfl (OwnL.cons (o1.frame fun c hc => kp c (by have:=hlt c (a10 c (o2 c hc)); omega)) (.cons (own_closed (d:=18) (Note.enc_plain x)) .nil Apart.nil_right) Apart.nil_right) (one_pv a x ta tx) ?_
    cases h1 : oneB a x with
    | false =>
      simp -implicitDefEqProofs (maxDischargeDepth:=12) only [WW,List.replicate,Option.some_or,s_conv,e_conv,s_slc3,e_cut3,e_cut3n,e_bns,e_bnn,e_splice,if_true,if_false,ite_true,ite_false,true_or,ne_eq,seval,h_putc,beq_self_eq_true,eq_self,exists_eq_left,exists_eq_left',cq]
      rw [← x.enc_eq]
      refine wA_call rfl ((clone_ok x tx _).mono ?_)
      rintro o H2 ⟨r,g,rfl,hr,hF⟩
      refine ⟨_,rfl,?_⟩
      have hN:=hF.2.1
      have hrl : r.length = 8:=noteQ.len hr
      have hones:=hr.ones
      have glt:=noteQ.lt hr
      have sp : splice [AV.sc (.int .i64 0),.sc (.int .i64 0),.sc .nils,.sc .nils,.sc (.int .i64 0),.sc (.int .i64 0),.sc (.int .i64 0),.sc .nils] 0 r = r:=splice_full (by rw [hrl]; rfl)
      simp -implicitDefEqProofs (maxDischargeDepth:=12) only [WW,List.replicate,Option.some_or,s_conv,e_conv,s_slc3,e_cut3,e_cut3n,e_bns,e_bnn,if_true,if_false,ite_true,ite_false,true_or,ne_eq,seval,beq_self_eq_true,eq_self,exists_eq_left,exists_eq_left',hrl,hones,sp]
      refine wA_appQ noteQ (H0:=H0) hA (y:=x) (r:=r) (g:=g) (fun c hc => ?_) rfl (asrc_one (by simp -implicitDefEqProofs (maxDischargeDepth:=12) only [WW,List.replicate,Option.some_or,s_conv,e_conv,s_slc3,e_cut3,e_cut3n,e_bns,e_bnn,e_splice,if_true,if_false,ite_true,ite_false,true_or,ne_eq,seval,h_putc,beq_self_eq_true,eq_self,exists_eq_left,exists_eq_left']) hrl) (noteQ.fr hr fun b hb => c_alloc_ne (by have:=glt b hb; omega)) (fun c h1 h2 => by have:=hlt c h1; have:=hF.1 c h2; omega) (by simp only [l_some]; omega) ?_
      · have:=hlt c hc
        rw [c_alloc_ne (by omega),hF.2.2 c (by omega),kp c (by omega)]
      intro v' H3 fp' h1 h2 h3 h4 h5 h6
      simp only [AHeap.next_alloc] at h2 h3
      simp -implicitDefEqProofs (maxDischargeDepth:=12) only [WW,List.replicate,Option.some_or,s_conv,e_conv,s_slc3,e_cut3,e_cut3n,e_bns,e_bnn,e_splice,if_true,if_false,ite_true,ite_false,true_or,ne_eq,seval,h_putc,beq_self_eq_true,eq_self,exists_eq_left,exists_eq_left',h5,h6]
      refine ⟨fp',by rw [of_cons (by simp)]; exact h1,fun b hb hbq => ?_,fun b hb => ?_,by omega⟩
      · rw [h3 b hb (by omega),c_alloc_ne (by omega),hF.2.2 b (by omega),kp b hbq]
      · rcases h4 b hb with h | h | h
        · exact .inl h
        · have:=hF.1 b h; exact .inr (by omega)
        · simp only [AHeap.next_alloc] at h; exact .inr (by omega)
    | true =>
      have hlen:=oneB_len h1
      rw [if_pos rfl,of_cons (by simpa using hne)]
      have hA1 : AccQ NoteQ 8 H1 (.slice b 0 L.length cap 8) (some L) fp:=hA.fr noteQ fun c hc => kp c (by have:=hlt c hc; omega)
      obtain ⟨b',cap',cs',r',g2,hv',b1,b2,b3,b4,b5,b6,b7,b8,b9,b10,b11,b12,b13⟩:=note_cells hA1 hat
      simp only [l_some,AV.slice.injEq,true_and,and_true] at b1
      obtain ⟨rfl,rfl⟩:=b1
      have hle : i * 8 + 1 + 1 ≤ cs'.length:=by omega
      obtain ⟨fp',p1,p2⟩:=b12 (IntKind.i64.wrap (a.len + x.len))
      simp only [intE,l_some] at b4 b5 p1
      simp -implicitDefEqProofs (maxDischargeDepth:=12) only [WW,List.replicate,Option.some_or,s_conv,e_conv,s_slc3,e_cut3,e_cut3n,e_bns,e_bnn,if_true,if_false,ite_true,ite_false,true_or,ne_eq,seval,beq_self_eq_true,eq_self,exists_eq_left,exists_eq_left',cq,ei,hil,b2,b5,hle,nb]
      generalize hH3 : AHeap.put H1 b _ = H3 at p1 ⊢
      have n3 : H3.next = q + 1:=by subst hH3; simp only [AHeap.next_put,n1]
      have k3 : ∀ c,c ≠ b→H3.cells c = H1.cells c:=fun c hc => by subst hH3; rw [c_put_ne hc]
      have cq3:=(k3 q (by omega)).trans cq
      have k03 : ∀ c,c ∉ fp→c < q→H3.cells c = H0.cells c:=fun c h1 h2 => by rw [k3 c (fun e => h1 (e ▸ b9)),kp c h2]
      clear hH3 b2 b3 b4 b5 b6 b7 b8 b11 b12 b13 k3
      have hgt : (L.set i { a with len:=IntKind.i64.wrap (a.len + x.len) })[i]? = some { a with len:=IntKind.i64.wrap (a.len + x.len) }:=by
        rw [List.getElem?_set_self hil]
      obtain ⟨b',cap',cs3,r',g2,hv',b1,b2,b3,b4,b5,b6,b7,b8,b9',b10,b11,b12,b13⟩:=note_cells p1 hgt
      simp only [l_some,AV.slice.injEq,true_and,and_true,List.length_set] at b1
      obtain ⟨rfl,rfl⟩:=b1
      simp -implicitDefEqProofs (maxDischargeDepth:=12) only [WW,List.replicate,Option.some_or,s_conv,e_conv,s_slc3,e_cut3,e_cut3n,e_bns,e_bnn,e_splice,if_true,if_false,ite_true,ite_false,true_or,ne_eq,seval,h_putc,beq_self_eq_true,eq_self,exists_eq_left,exists_eq_left',cq3,b2,b6,b11]
      clear hgt b2 b3 b4 b5 b6 b7 b8 b11 b12 b13
      have hmap0 : a.heads.map (fun l => tieUpTo 0 l x.heads.l) = a.heads:=by cases a.heads <;> simp [tieUp_zero]
      refine wp_loop (Inv:=fun k t H => ∃ (j : Nat) (f2 : List Nat),j + k = a.heads.l.length∧H.cells q = some x.enc.cells∧AccQ NoteQ 8 H (.slice b 0 L.length cap 8) (some (L.set i { a with len:=IntKind.i64.wrap (a.len + x.len),heads:=a.heads.map fun l => tieUpTo j l x.heads.l })) f2∧(∀ c ∈ f2,c ∈ fp)∧H.next = q + 1∧(∀ c,c ∉ fp→c < q→H.cells c = H0.cells c) ∧
        ∃ y : Nat→AV,t = [.slice b 0 L.length cap 8,x.enc,y 2,.ptr q 0,y 4,.ptr b (i * 8),y 6,y 7,y 8,y 9,y 10,y 11,y 12,y 13,y 14,y 15,y 16,y 17,y 18,y 19,y 20,y 21,y 22,y 23,y 24,y 25,y 26,y 27,y 28,y 29,y 30,y 31,y 32,y 33,y 34,y 35,y 36,y 37,y 38,y 39,y 40,y 41,y 42,y 43,.sc (.int .i64 a.heads.l.length),.sc (.int .i64 j),y 46,y 47,y 48,y 49,y 50,y 51,y 52,y 53,y 54,y 55,y 56,y 57,y 58,y 59,y 60,y 61,y 62]) (k:=a.heads.l.length) ?_
        ⟨0,fp',by omega,cq3,by rw [hmap0]; exact p1,p2,n3,k03,ex_x rfl⟩
      clear p1 p2 n3 k03 cq3 cq hA1 hA fp' o1 o2 g' a2 a3 a4 a5 a6 a7 a8 a10 a11 a12 a13 hv b9 b10 b9'
      rintro k t H ⟨j,f2,hk,hB,p1,p2,n3,k03,y,rfl⟩
      simp only [x.enc_eq,c_agg] at hB
      by_cases c1 : (j : Int) < (a.heads.l.length : Int)
      · have hjl : j < a.heads.l.length:=by omega
        obtain ⟨u,hu⟩ : ∃ y,a.heads.l[j]? = some y:=⟨_,List.getElem?_eq_getElem hjl⟩
        obtain ⟨w,hw⟩ : ∃ y,x.heads.l[j]? = some y:=⟨_,List.getElem?_eq_getElem (by omega)⟩
        have e2 : IntKind.i64.wrap ((j : Int) + 1) = ((j + 1 : Nat) : Int):=by rw [w64 (by omega) (by have:=ta.heads; omega)]; omega
        have eh : ∀ j,a.heads.map (fun l => tieUpTo j l x.heads.l) = some (tieUpTo j a.heads.l x.heads.l):=fun j => by cases e : a.heads with
          | none => rw [e] at hjl; simp [Sl.l] at hjl
          | some l => rfl
        rw [eh] at p1
        generalize hn : ({ a with len:=IntKind.i64.wrap (a.len + x.len),heads:=some (tieUpTo j a.heads.l x.heads.l) } : Note) = nn at p1
        obtain ⟨b',cap',cs3,r',g2,hv',b1,b2,b3,b4,b5,b6,b7,b8,b9',b10,b11,b12,b13⟩:=note_cells p1 (i:=i) (x:=nn) (by rw [l_some,List.getElem?_set_self hil])
        simp only [l_some,AV.slice.injEq,true_and,and_true,List.length_set] at b1
        obtain ⟨rfl,rfl⟩:=b1
        have enh : nn.heads.l = tieUpTo j a.heads.l x.heads.l:=by subst hn; rfl
        obtain ⟨bh,caph,ch,c2,c3,c4,c5,c6,c7,c8,c9⟩:=b13 j u (by rw [enh]; exact tieUp_get hlen hu)
        rw [enh,tieUp_len hlen] at c2
        subst c2
        obtain ⟨f3,d1,d2⟩:=c9 w.tied
        have hbh : bh < q:=by have:=hlt bh (p2 _ c7); omega
        have hle : j * 5 + 3 + 1 ≤ ch.length:=by omega
        have hje : j < x.heads.l.length:=by omega
        simp -implicitDefEqProofs (maxDischargeDepth:=12) only [WW,List.replicate,Option.some_or,s_conv,e_conv,s_slc3,e_cut3,e_cut3n,e_bns,e_bnn,if_true,if_false,ite_true,ite_false,true_or,ne_eq,seval,beq_self_eq_true,eq_self,exists_eq_left,exists_eq_left',hB,c1,b2,b6,c3,hjl,hje,hle,hw,w.enc_eq,e2]
        refine ⟨k - 1,by omega,j + 1,f3,by omega,?_,?_,fun c hc => p2 c (d2 c hc),n3,fun c h1 h2 => by rw [c_put_ne (fun e => h1 (by rw [e]; exact p2 _ c7)),k03 c h1 h2],ex_x rfl⟩
        · rw [c_put_ne (by omega)]; exact hB
        · rw [enh,tieUp_set hlen hu hw,l_some,List.set_set] at d1
          rw [eh]
          subst hn
          exact d1
      · have hm : a.heads.map (fun l => tieUpTo j l x.heads.l) = a.heads.map fun l => tieTo l x.heads.l:=by
          cases e : a.heads with
          | none => rfl
          | some l =>
            rw [e] at hlen c1
            simp only [Option.map_some,Option.some.injEq]
            exact tieUp_all hlen (by simp only [l_some] at c1; omega)
        rw [hm] at p1
        simp -implicitDefEqProofs (maxDischargeDepth:=12) only [WW,List.replicate,Option.some_or,s_conv,e_conv,s_slc3,e_cut3,e_cut3n,e_bns,e_bnn,if_true,if_false,ite_true,ite_false,true_or,ne_eq,seval,beq_self_eq_true,eq_self,exists_eq_left,exists_eq_left',hB,c1]
        exact ⟨f2,p1,k03,fun b hb => .inl (p2 b hb),by omega⟩
end Go.Hem
namespace Go.Hem
theorem merge_tame {a x : Note} (h : a.tame) : (merge a x).tame:=by
  refine ⟨?_,h.graces,h.lyrics,h.text⟩
  have h1:=h.heads
  show (Sl.l (a.heads.map fun l => tieTo l x.heads.l)).length < _
  cases e : a.heads with
  | none => show (0 : Nat) < _; omega
  | some l =>
    rw [e] at h1
    simp only [Option.map_some,l_some] at h1 ⊢
    unfold tieTo
    rw [List.length_zipWith]; omega
theorem stepT_tame {L : List Note} {x : Note} (hL : ∀ y ∈ L,y.tame) (hx : x.tame) : ∀ y ∈ stepT L x,y.tame:=by
  intro y hy
  unfold stepT at hy
  cases hlast : L.getLast? with
  | none => rw [hlast] at hy; simp at hy; exact hy ▸ hx
  | some a =>
    rw [hlast] at hy
    simp only at hy
    split at hy
    · rcases List.mem_or_eq_of_mem_set hy with h | rfl
      · exact hL y h
      · exact merge_tame (hL a (List.mem_of_getLast? hlast))
    · rcases List.mem_append.1 hy with h | h
      · exact hL y h
      · simp at h; exact h ▸ hx
theorem stepT_len {L : List Note} {x : Note} : (stepT L x).length ≤ L.length + 1:=by
  unfold stepT
  cases L.getLast? with
  | none => simp
  | some a => simp only; split <;> simp
theorem fold_tame {l : List Note} (h : ∀ y ∈ l,y.tame) : ∀ (L : List Note),(∀ y ∈ L,y.tame)→(∀ y ∈ l.foldl stepT L,y.tame)∧(l.foldl stepT L).length ≤ L.length + l.length:=by
  induction l with
  | nil => intro L hL; exact ⟨hL,by simp⟩
  | cons x l ih =>
    intro L hL
    obtain ⟨a,b⟩:=ih (fun y hy => h y (by simp [hy])) (stepT L x) (stepT_tame hL (h x (by simp)))
    refine ⟨a,?_⟩
    have:=stepT_len (L:=L) (x:=x)
    simp only [List.foldl_cons,List.length_cons] at b ⊢
    omega
theorem fold_take {l : List Note} {i : Nat} {x : Note} (h : l[i]? = some x) : (l.take (i + 1)).foldl stepT [] = stepT ((l.take i).foldl stepT []) x:=by
  rw [List.take_add_one,h,List.foldl_append]; rfl
theorem callee53 (args : List AV) : acallee prog 53 args = some (.call 53 args):=by kernel_rfl
theorem fold_ok (s : Sl Note) (hs : s.l.length < 1000000) (ts : ∀ y ∈ s.l,y.tame) (H0 : AHeap) : Ev prog polS (.call 52 [slm Note.enc s,.sc .nils,.func (.func 53) [] []]) H0 fun o H' => ∃ v fp,o = .val v∧AccQ NoteQ 8 H' v (Sl.of (s.l.foldl stepT [])) fp∧Fresh H0 H' fp:=by
  refine (wpF_ok ok52 (Q:=fun v H' => ∃ fp,AccQ NoteQ 8 H' v (Sl.of (s.l.foldl stepT [])) fp∧Fresh H0 H' fp) ?_).mono ?_
  rotate_left
  · rintro o H' ⟨v,rfl,fp,h⟩; exact ⟨v,fp,rfl,h⟩
  simp -implicitDefEqProofs (maxDischargeDepth:=12) only [wpF,cf52,WW,List.replicate,Option.some_or,s_conv,e_conv,s_slc3,e_cut3,e_cut3n,e_bns,e_bnn,e_splice,if_true,if_false,ite_true,ite_false,true_or,ne_eq,seval,h_putc,beq_self_eq_true,eq_self,exists_eq_left,exists_eq_left']
  refine wp_loop (Inv:=fun k t H => ∃ (i : Nat) (v : AV) (fp : List Nat),i + k = s.l.length∧AccQ NoteQ 8 H v (Sl.of ((s.l.take i).foldl stepT [])) fp∧Fresh H0 H fp ∧
    ∃ y : Nat→AV,t = [slm Note.enc s,v,.func (.func 53) [] [],y 3,y 4,y 5,y 6,y 7,y 8,slm Note.enc s,.sc (.int .i64 s.l.length),.sc (.int .i64 i),y 12,y 13,y 14,y 15,y 16,y 17,y 18,y 19,y 20]) (k:=s.l.length) ?_
    ⟨0,_,[],by omega,accQ_none,⟨by simp,Nat.le_refl _,Keep.refl⟩,ex_x rfl⟩
  rintro k t H ⟨i,v,fp,hk,hA,⟨hF,hN,hK⟩,y,rfl⟩
  by_cases c1 : (i : Int) < (s.l.length : Int)
  · obtain ⟨x,hx⟩ : ∃ y,s.l[i]? = some y:=⟨_,List.getElem?_eq_getElem (by omega)⟩
    have e2 : IntKind.i64.wrap ((i : Int) + 1) = ((i + 1 : Nat) : Int):=by rw [w64 (by omega) (by omega)]; omega
    have tx:=ts x (List.mem_of_getElem? hx)
    have ft:=fold_tame (l:=s.l.take i) (fun y hy => ts y (List.mem_of_mem_take hy)) [] (by simp)
    have hlt:=hA.lt noteQ
    simp -implicitDefEqProofs (maxDischargeDepth:=12) only [WW,List.replicate,Option.some_or,s_conv,e_conv,s_slc3,e_cut3,e_cut3n,e_bns,e_bnn,e_splice,if_true,if_false,ite_true,ite_false,true_or,ne_eq,seval,h_putc,beq_self_eq_true,eq_self,exists_eq_left,exists_eq_left',c1,hx,x.enc_eq,e_callf,callee53]
    rw [← x.enc_eq]
    generalize hH1 : AHeap.put _ H.next _ = H1
    have n1 : H1.next = H.next + 1:=by subst hH1; simp only [AHeap.next_put,AHeap.next_alloc]
    have k1 : ∀ b,b < H.next→H1.cells b = H.cells b:=fun b hb => by subst hH1; rw [c_put_ne (by omega),c_alloc_ne (by omega)]
    clear hH1
    refine wA_call rfl ((step_ok x tx _ ft.1 (by have:=ft.2; simp at this; omega) H1 v fp (hA.fr noteQ fun b hb => k1 b (hlt b hb))).mono ?_)
    rintro o H2 ⟨v',fp',rfl,a1,a2,a3,a4⟩
    refine ⟨_,rfl,?_⟩
    simp -implicitDefEqProofs (maxDischargeDepth:=12) only [WW,List.replicate,Option.some_or,s_conv,e_conv,s_slc3,e_cut3,e_cut3n,e_bns,e_bnn,e_splice,if_true,if_false,ite_true,ite_false,true_or,ne_eq,seval,h_putc,beq_self_eq_true,eq_self,exists_eq_left,exists_eq_left',e2]
    refine ⟨k - 1,by omega,i + 1,v',fp',by omega,by rw [fold_take hx]; exact a1,⟨fun b hb => ?_,by omega,fun b hb => ?_⟩,ex_x rfl⟩
    · rcases a3 b hb with h | h
      · exact hF b h
      · omega
    · rw [a2 b (fun h => by have:=hF b h; omega) (by omega),k1 b (by omega),hK b hb]
  · rw [List.take_of_length_le (by omega)] at hA
    simp -implicitDefEqProofs (maxDischargeDepth:=12) only [WW,List.replicate,Option.some_or,s_conv,e_conv,s_slc3,e_cut3,e_cut3n,e_bns,e_bnn,e_splice,if_true,if_false,ite_true,ite_false,true_or,ne_eq,seval,h_putc,beq_self_eq_true,eq_self,exists_eq_left,exists_eq_left',c1]
    exact ⟨fp,hA,hF,hN,hK⟩
end Go.Hem
namespace Go.Hem
def untieUpTo (i : Nat) (F : List Note) : List Note:=(untie F).take i ++ F.drop i
section
variable {F : List Note} {i : Nat} {n : Note}
theorem untieUp_zero : untieUpTo 0 F = F:=by simp [untieUpTo]
theorem untieUp_all (h : ¬ i < F.length) : untieUpTo i F = untie F:=by
  unfold untieUpTo; rw [List.take_of_length_le (by rw [untie_len]; omega),List.drop_of_length_le (by omega),List.append_nil]
theorem untieUp_len : (untieUpTo i F).length = F.length:=by simp [untieUpTo,untie_len]; omega
theorem untieUp_ge {j : Nat} (h : i ≤ j) (hj : j < F.length) : (untieUpTo i F)[j]? = F[j]?:=by
  have e : ((untie F).take i).length = i:=by simp [untie_len]; omega
  unfold untieUpTo
  rw [List.getElem?_append_right (by omega),e,List.getElem?_drop]; congr 1; omega
theorem untieUp_set (h : F[i]? = some n) : (untieUpTo i F).set i (untieN n F[i + 1]?) = untieUpTo (i + 1) F:=by
  have hi:=(List.getElem?_eq_some_iff.1 h).1
  have e : ((untie F).take i).length = i:=by simp [untie_len]; omega
  unfold untieUpTo
  rw [List.set_append_right _ _ (by omega),e,Nat.sub_self,drop_cons h,List.set_cons_zero,List.take_add_one,untie_get h]
  simp
end
def Note.untieTo (n : Note) (nx : Option Note) (j : Nat) : Note:={ n with heads:=n.heads.map (mapTo (fun h => h.tie (keepTie n nx h)) j) }
theorem untieTo_zero {n : Note} {nx : Option Note} : n.untieTo nx 0 = n:=by
  unfold Note.untieTo
  have : n.heads.map (mapTo (fun h => h.tie (keepTie n nx h)) 0) = n.heads:=by cases n.heads <;> simp [mapTo_zero]
  rw [this]
theorem untieTo_all {n : Note} {nx : Option Note} {j : Nat} (h : ¬ j < n.heads.l.length) : n.untieTo nx j = untieN n nx:=by
  unfold Note.untieTo untieN
  have : n.heads.map (mapTo (fun h => h.tie (keepTie n nx h)) j) = n.heads.map (List.map fun h => h.tie (keepTie n nx h)):=by
    cases e : n.heads with
    | none => rfl
    | some l => rw [e] at h; simp only [Option.map_some,Option.some.injEq]; exact mapTo_all h
  rw [this]
theorem untieTo_heads {n : Note} {nx : Option Note} {j : Nat} : (n.untieTo nx j).heads.l = mapTo (fun h => h.tie (keepTie n nx h)) j n.heads.l:=by
  show Sl.l (n.heads.map _) = _
  cases n.heads with
  | none => simp [Sl.l,mapTo]
  | some l => rfl
theorem untieTo_succ {n : Note} {nx : Option Note} {j : Nat} {h : Head} (hj : n.heads.l[j]? = some h) : { n.untieTo nx j with heads:=some ((n.untieTo nx j).heads.l.set j (h.tie (keepTie n nx h))) } = n.untieTo nx (j + 1):=by
  rw [untieTo_heads,mapTo_set (f:=fun h => h.tie (keepTie n nx h)) hj]
  unfold Note.untieTo
  have : n.heads.map (mapTo (fun h => h.tie (keepTie n nx h)) (j + 1)) = some (mapTo (fun h => h.tie (keepTie n nx h)) (j + 1) n.heads.l):=by
    cases e : n.heads with
    | none => rw [e] at hj; simp [Sl.l] at hj
    | some l => rfl
  rw [this]
theorem untieTo_tame {n : Note} {nx : Option Note} {j : Nat} (h : n.tame) : (n.untieTo nx j).tame:=⟨by rw [untieTo_heads,mapTo_len]; exact h.heads,h.graces,h.lyrics,h.text⟩
theorem untieTo_fin {n : Note} {nx : Option Note} {j : Nat} : (n.untieTo nx j).fin = n.fin:=rfl
theorem of_isSome {α : Type} {l : List α} (h : 0 < l.length) : Sl.of l = some l:=of_cons (by intro e; subst e; simp at h)
theorem tidy_pv (s : Sl Note) (hs : s.l.length < 1000000) (ts : ∀ y ∈ s.l,y.tame) : Pv prog polS 30 [slm Note.enc s] (slm Note.enc (Sl.of (tidyP s.l))):=by
  refine Pv_of' ok30 (by simp only [AV.closedBs,closedB_slm Note.enc_closed,Bool.and_self]) ?_
  have ef : ∀ (x : AV) t,aev (x :: t) (.func 53) = .func (.func 53) [] []:=fun _ _ => rfl
  simp -implicitDefEqProofs (maxDischargeDepth:=12) only [wpF,cf30,WW,List.replicate,Option.some_or,s_conv,e_conv,s_slc3,e_cut3,e_cut3n,e_bns,e_bnn,e_splice,if_true,if_false,ite_true,ite_false,true_or,ne_eq,seval,h_putc,beq_self_eq_true,eq_self,exists_eq_left,exists_eq_left']
  simp only [ef]
  refine wA_call rfl ((fold_ok s hs ts _).mono ?_)
  rintro o H1 ⟨v,fp,rfl,hA,hF⟩
  refine ⟨_,rfl,?_⟩
  have tF:=fold_tame ts [] (by simp)
  unfold tidyP
  generalize s.l.foldl stepT [] = F at hA tF
  obtain ⟨tF,lF⟩:=tF
  simp only [List.length_nil,Nat.zero_add] at lF
  have hl:=hA.length.1
  rw [l_of] at hl
  simp -implicitDefEqProofs (maxDischargeDepth:=12) only [WW,List.replicate,Option.some_or,s_conv,e_conv,s_slc3,e_cut3,e_cut3n,e_bns,e_bnn,e_splice,if_true,if_false,ite_true,ite_false,true_or,ne_eq,seval,h_putc,beq_self_eq_true,eq_self,exists_eq_left,exists_eq_left',hl]
  refine wp_loop (Inv:=fun k t H => ∃ (i : Nat) (f2 : List Nat),i + k = F.length∧AccQ NoteQ 8 H v (Sl.of (untieUpTo i F)) f2 ∧
    ∃ y : Nat→AV,t = [slm Note.enc s,y 1,y 2,v,y 4,y 5,y 6,y 7,y 8,v,.sc (.int .i64 F.length),.sc (.int .i64 i),y 12,y 13,y 14,y 15,y 16,y 17,y 18,y 19,y 20,y 21,y 22,y 23,y 24,y 25,y 26,y 27,y 28,y 29,y 30,y 31,y 32,y 33,y 34,y 35,y 36,y 37,y 38,y 39,y 40,y 41,y 42,y 43,y 44,y 45,y 46,y 47,y 48,y 49,y 50,y 51,y 52,y 53,y 54,y 55,y 56,y 57,y 58,y 59,y 60,y 61,y 62,y 63,y 64,y 65,y 66,y 67,y 68,y 69,y 70,y 71,y 72]) (k:=F.length) ?_
    ⟨0,fp,by omega,by rw [untieUp_zero]; exact hA,ex_x rfl⟩
  clear hA hF hl fp H1
  rintro k t H ⟨i,fp,hk,hA,y,rfl⟩
  by_cases c1 : (i : Int) < (F.length : Int)
  rotate_left
  · rw [untieUp_all (by omega)] at hA
    simp -implicitDefEqProofs (maxDischargeDepth:=12) only [WW,List.replicate,Option.some_or,s_conv,e_conv,s_slc3,e_cut3,e_cut3n,e_bns,e_bnn,e_splice,if_true,if_false,ite_true,ite_false,true_or,ne_eq,seval,h_putc,beq_self_eq_true,eq_self,exists_eq_left,exists_eq_left',c1]
    exact hA.frz noteQ (by decide)
  have hil : i < F.length:=by omega
  obtain ⟨n,hn⟩ : ∃ y,F[i]? = some y:=⟨_,List.getElem?_eq_getElem hil⟩
  have e2 : IntKind.i64.wrap ((i : Int) + 1) = ((i + 1 : Nat) : Int):=by rw [w64 (by omega) (by omega)]; omega
  have tn:=tF n (List.mem_of_getElem? hn)
  rw [of_isSome (by rw [untieUp_len]; omega)] at hA
  have hlt:=hA.lt noteQ
  obtain ⟨b,cap,cs,r,g,hv,a1,a2,a3,a4,a5,a6,a7,a8,a9,a10,a11,a12,a13⟩:=note_cells hA (i:=i) (x:=n) (by rw [l_some,untieUp_ge (Nat.le_refl _) hil]; exact hn)
  simp only [l_some,untieUp_len] at a1
  subst a1
  simp -implicitDefEqProofs (maxDischargeDepth:=12) only [WW,List.replicate,Option.some_or,s_conv,e_conv,s_slc3,e_cut3,e_cut3n,e_bns,e_bnn,e_splice,if_true,if_false,ite_true,ite_false,true_or,ne_eq,seval,h_putc,beq_self_eq_true,eq_self,exists_eq_left,exists_eq_left',c1,hil,a2,a6,a11]
  refine wp_loop (Inv:=fun k' t H => ∃ (j : Nat) (f2 : List Nat),j + k' = n.heads.l.length∧AccQ NoteQ 8 H (.slice b 0 F.length cap 8) (some ((untieUpTo i F).set i (n.untieTo F[i + 1]? j))) f2 ∧
    ∃ y : Nat→AV,t = [slm Note.enc s,y 1,y 2,.slice b 0 F.length cap 8,.sc (.int .i64 i),y 5,y 6,y 7,y 8,.slice b 0 F.length cap 8,.sc (.int .i64 F.length),.sc (.int .i64 i),y 12,y 13,y 14,y 15,y 16,y 17,y 18,.sc (.int .i64 n.heads.l.length),.sc (.int .i64 j),y 21,y 22,y 23,y 24,y 25,y 26,y 27,y 28,y 29,y 30,y 31,y 32,y 33,y 34,y 35,y 36,y 37,y 38,y 39,y 40,y 41,y 42,y 43,y 44,y 45,y 46,y 47,y 48,y 49,y 50,y 51,y 52,y 53,y 54,y 55,y 56,y 57,y 58,y 59,y 60,y 61,y 62,y 63,y 64,y 65,y 66,y 67,y 68,y 69,y 70,y 71,y 72]) (k:=n.heads.l.length) ?_
    ⟨0,fp,by omega,?_,ex_x rfl⟩
  rotate_left
  · rw [untieTo_zero]
    have : (untieUpTo i F).set i n = untieUpTo i F:=by
      apply List.ext_getElem?
      intro q
      rw [List.getElem?_set]
      split
      · rename_i e; subst e
        rw [untieUp_len,if_pos hil,untieUp_ge (Nat.le_refl _) hil,hn]
      · rfl
    rw [this]; exact hA
  clear hA hlt a2 a3 a4 a5 a6 a7 a8 a9 a10 a11 a12 a13 y H fp
  rintro k' t H ⟨j,fp,hk',hA,y,rfl⟩
  by_cases d1 : (j : Int) < (n.heads.l.length : Int)
  rotate_left
  · rw [untieTo_all (by omega),untieUp_set hn] at hA
    simp -implicitDefEqProofs (maxDischargeDepth:=12) only [WW,List.replicate,Option.some_or,s_conv,e_conv,s_slc3,e_cut3,e_cut3n,e_bns,e_bnn,e_splice,if_true,if_false,ite_true,ite_false,true_or,ne_eq,seval,h_putc,beq_self_eq_true,eq_self,exists_eq_left,exists_eq_left',d1,e2]
    exact ⟨k - 1,by omega,i + 1,fp,by omega,by rw [of_isSome (by rw [untieUp_len]; omega)]; exact hA,ex_x rfl⟩
  have hjl : j < n.heads.l.length:=by omega
  obtain ⟨h,hh⟩ : ∃ y,n.heads.l[j]? = some y:=⟨_,List.getElem?_eq_getElem hjl⟩
  have e3 : IntKind.i64.wrap ((j : Int) + 1) = ((j + 1 : Nat) : Int):=by rw [w64 (by omega) (by have:=tn.heads; omega)]; omega
  have hlt:=hA.lt noteQ
  obtain ⟨b',cap',cs,r,g,hv',a1,a2,a3,a4,a5,a6,a7,a8,a9,a10,a11,a12,a13⟩:=note_cells hA (i:=i) (x:=n.untieTo F[i + 1]? j) (by rw [l_some,List.getElem?_set_self (by rw [untieUp_len]; exact hil)])
  simp only [l_some,AV.slice.injEq,true_and,and_true] at a1
  obtain ⟨rfl,_,rfl⟩:=a1
  obtain ⟨bh,caph,ch,c2,c3,c4,c5,c6,c7,c8,c9⟩:=a13 j h (by rw [untieTo_heads]; exact mapTo_get hh)
  rw [untieTo_heads,mapTo_len] at c2
  subst c2
  obtain ⟨g',o1,o2⟩:=noteQ_own a8
  have hle : j * 5 + 3 + 1 ≤ ch.length:=by omega
  have hle2 : j * 5 + 3 ≤ ch.length:=by omega
  -- what is written at the end
  have fin : ∀ H',H' = H.put bh (some (.cells (splice ch (j * 5 + 3) [.sc (.bool (keepTie n F[i + 1]? h))])))→∃ f3,AccQ NoteQ 8 H' (.slice b 0 F.length cap 8) (some ((untieUpTo i F).set i (n.untieTo F[i + 1]? (j + 1)))) f3:=by
    rintro H' rfl
    obtain ⟨f3,p1,p2⟩:=c9 (keepTie n F[i + 1]? h)
    rw [untieTo_succ hh,l_some,List.set_set] at p1
    exact ⟨f3,p1⟩
  cases ht : h.tied with
  | false =>
    have hkt : keepTie n F[i + 1]? h = false:=by unfold keepTie; rw [ht]; rfl
    rw [hkt] at fin
    simp -implicitDefEqProofs (maxDischargeDepth:=12) only [WW,List.replicate,Option.some_or,s_conv,e_conv,s_slc3,e_cut3,e_cut3n,e_bns,e_bnn,if_true,if_false,ite_true,ite_false,true_or,ne_eq,seval,beq_self_eq_true,eq_self,exists_eq_left,exists_eq_left',d1,hil,hjl,a2,a6,c3,c5,ht,hle,e3]
    obtain ⟨f3,p1⟩:=fin _ rfl
    exact ⟨k' - 1,by omega,j + 1,f3,by omega,p1,ex_x rfl⟩
  | true =>
    by_cases n1 : i + 1 < F.length
    rotate_left
    · have hkt : keepTie n F[i + 1]? h = false:=by unfold keepTie; rw [ht,List.getElem?_eq_none (by omega)]; rfl
      rw [hkt] at fin
      have n1' : ¬ ((i + 1 : Nat) : Int) < (F.length : Int):=by omega
      simp -implicitDefEqProofs (maxDischargeDepth:=12) only [WW,List.replicate,Option.some_or,s_conv,e_conv,s_slc3,e_cut3,e_cut3n,e_bns,e_bnn,if_true,if_false,ite_true,ite_false,true_or,ne_eq,seval,beq_self_eq_true,eq_self,exists_eq_left,exists_eq_left',d1,hil,hjl,a2,a6,c3,c5,ht,hle,e2,e3,n1']
      obtain ⟨f3,p1⟩:=fin _ rfl
      exact ⟨k' - 1,by omega,j + 1,f3,by omega,p1,ex_x rfl⟩
    have n1' : ((i + 1 : Nat) : Int) < (F.length : Int):=by omega
    obtain ⟨m,hm⟩ : ∃ y,F[i + 1]? = some y:=⟨_,List.getElem?_eq_getElem n1⟩
    have tm:=tF m (List.mem_of_getElem? hm)
    obtain ⟨b',cap',cs',r2,g2,hv2,q1,q2,q3,q4,q5,q6,q7,q8,q9,q10,q11,_,_⟩:=note_cells hA (i:=i + 1) (x:=m) (by rw [l_some,List.getElem?_set_ne (by omega),untieUp_ge (by omega) n1]; exact hm)
    simp only [l_some,AV.slice.injEq,true_and,and_true] at q1
    obtain ⟨rfl,_,rfl⟩:=q1
    rw [a2,Option.some.injEq] at q2
    subst q2
    obtain ⟨g3,o3,o4⟩:=noteQ_own q8
    rw [hm] at fin o1 ⊢
    have hkt : keepTie n (some m) h = (decide (m.at_ = n.fin) && m.hasB h.pitch):=by unfold keepTie; rw [ht]; rfl
    rw [hkt] at fin
    simp -implicitDefEqProofs (maxDischargeDepth:=12) only [WW,List.replicate,Option.some_or,s_conv,e_conv,s_slc3,e_cut3,e_cut3n,e_bns,e_bnn,if_true,if_false,ite_true,ite_false,true_or,ne_eq,seval,beq_self_eq_true,eq_self,exists_eq_left,exists_eq_left',d1,hil,hjl,a2,a3,a6,a7,c3,c5,ht,hle,e2,e3,n1,n1',q4,intE]
    refine wA_own rfl (.cons o1 .nil Apart.nil_right) (end_pv _) ?_
    rw [untieTo_fin]
    by_cases h1 : m.at_ = n.fin
    rotate_left
    · rw [decide_eq_false h1,Bool.false_and] at fin
      simp -implicitDefEqProofs (maxDischargeDepth:=12) only [WW,List.replicate,Option.some_or,s_conv,e_conv,s_slc3,e_cut3,e_cut3n,e_bns,e_bnn,if_true,if_false,ite_true,ite_false,true_or,ne_eq,seval,beq_self_eq_true,eq_self,exists_eq_left,exists_eq_left',d1,hil,hjl,a2,a3,a6,a7,c3,c5,ht,hle,e2,e3,n1,n1',q4,intE,h1]
      obtain ⟨f3,p1⟩:=fin _ rfl
      exact ⟨k' - 1,by omega,j + 1,f3,by omega,p1,ex_x rfl⟩
    rw [decide_eq_true h1,Bool.true_and] at fin
    simp -implicitDefEqProofs (maxDischargeDepth:=12) only [WW,List.replicate,Option.some_or,s_conv,e_conv,s_slc3,e_cut3,e_cut3n,e_bns,e_bnn,if_true,if_false,ite_true,ite_false,true_or,ne_eq,seval,beq_self_eq_true,eq_self,exists_eq_left,exists_eq_left',d1,hil,hjl,a2,a3,a6,a7,c3,c5,c6,ht,hle,hle2,e2,e3,n1,n1',q3,q4,q7,intE,eq_true h1]
    refine wA_own rfl (OwnL.cons o3 (.cons (own_closed (d:=18) (Pitch.enc_plain h.pitch)) .nil Apart.nil_right) Apart.nil_right) (has_pv m h.pitch tm) ?_
    simp -implicitDefEqProofs (maxDischargeDepth:=12) only [WW,List.replicate,Option.some_or,s_conv,e_conv,s_slc3,e_cut3,e_cut3n,e_bns,e_bnn,if_true,if_false,ite_true,ite_false,true_or,ne_eq,seval,beq_self_eq_true,eq_self,exists_eq_left,exists_eq_left',c3,hle,e3]
    obtain ⟨f3,p1⟩:=fin _ rfl
    exact ⟨k' - 1,by omega,j + 1,f3,by omega,p1,ex_x rfl⟩
end Go.Hem
