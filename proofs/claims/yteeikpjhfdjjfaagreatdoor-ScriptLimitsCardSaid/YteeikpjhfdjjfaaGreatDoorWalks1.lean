/- Walks. -/
import Derived.Test.YteeikpjhfdjjfaaGreatDoorWalks0
import Derived.Test.YteeikpjhfdjjfaaGreatDoorHemPol55
import Derived.Test.YteeikpjhfdjjfaaGreatDoorK55m
set_option maxRecDepth 100000
set_option maxHeartbeats 4000000
set_option linter.unusedSimpArgs false
set_option linter.unusedVariables false
namespace Go.Hem
def StmF (p BT : Nat) (toks : List TkD) (N L : Int) (bk bsc b0 : Nat) (kws vars : List ByteArray) (i : Nat) (col e : Int) : Prop :=
  ∀ H,PSt p BT toks i N L (.slice bsc 0 1 1 1) (.map bk) H→PEn p bk bsc b0 kws vars H→Ev prog polW (.call 16 [.ptr p 0]) H fun o H' => ∃ v,o = .val v∧AV.one v = true∧v.cells = [v]∧Failed p col e H'∧Only [p] H H'
section
variable {p BT : Nat} {toks : List TkD} {N L : Int} {bk bsc b0 : Nat} {kws vars : List ByteArray} {i j : Nat} {col e : Int}
theorem stm_print_lf {tl t0 : TkD} (he : ¬ e = 0) (htl : toks[i]? = some tl) (hl : isB tl ⟨#[108,101,116]⟩ = false) (hp : isB tl ⟨#[112,114,105,110,116]⟩ = true) (ht0 : toks[i + 1]? = some t0) (hk : ¬ t0.k = 3)
    (k : Lf 27 p BT toks N L bk bsc b0 kws vars (i + 1) col e) : StmF p BT toks N L bk bsc b0 kws vars i col e:=by
  intro H h en
  have os : AV.ones [.sc (.bool false),.sc (.str ⟨#[]⟩),.sc .nilf] = true:=rfl
  refine wpF_ok ok16 ?_
  simp -implicitDefEqProofs (maxDischargeDepth:=12) only [wpF,cf16,WZ,seval]
  refine wA_call rfl ((acc_no h en htl _ hl).mono ?_)
  rintro o H1 ⟨v,rfl,rfl,hH1,eH1,oH1⟩
  refine ⟨_,rfl,fun c hc => by simp at hc,?_⟩
  simp -implicitDefEqProofs (maxDischargeDepth:=12) only [WI,seval]
  refine wA_call rfl ((acc_yes hH1 eH1 htl _ hp).mono ?_)
  rintro o H2 ⟨v,rfl,rfl,hH2,eH2,oH2⟩
  refine ⟨_,rfl,fun c hc => by simp at hc,?_⟩
  simp -implicitDefEqProofs (maxDischargeDepth:=12) only [WI,seval]
  refine wA_call rfl (wpF_ok ok26 ?_)
  simp -implicitDefEqProofs (maxDischargeDepth:=12) only [wpF,cf26,WZ,seval,os]
  have ho3 : Only [] H2 (H2.alloc (.cells [.sc (.bool false),.sc (.str ⟨#[]⟩),.sc .nilf])):=by (repeat (first | exact Only.refl | refine Only.put ?_ (by first | (right; omega) | (left; exact List.mem_cons_self ..) | (left; simp [fpS])) | refine Only.alloc ?_))
  have lp2:=cells_lt hH2.cells
  have g3:=hH2.only ho3 (by simp) (by simp)
  have o3:=ho3.mono (bs:=[p]) (fun b hb => by cases hb)
  have e3:=eH2.p o3
  have x3 : (H2.alloc (.cells [.sc (.bool false),.sc (.str ⟨#[]⟩),.sc .nilf])).cells H2.next = some [.sc (.bool false),.sc (.str ⟨#[]⟩),.sc .nilf]:=by simp -implicitDefEqProofs (maxDischargeDepth:=12) only [WZ,seval]
  have n3 : H2.next + 1 ≤ (H2.alloc (.cells [.sc (.bool false),.sc (.str ⟨#[]⟩),.sc .nilf])).next:=by simp
  generalize (H2.alloc (.cells [.sc (.bool false),.sc (.str ⟨#[]⟩),.sc .nilf])) = H3 at ho3 g3 o3 e3 x3 n3 ⊢
  refine wA_call rfl ((peek_ev g3 ht0).mono ?_)
  rintro o H4 ⟨v,rfl,rfl,ho4⟩
  refine ⟨_,rfl,fun c hc => by simp at hc,?_⟩
  have g4:=g3.only ho4 (by simp) (by simp)
  have o4 : Only [p] H3 H4:=ho4.mono (fun b hb => by cases hb)
  have e4:=e3.p o4
  have x4:=(ho4.cells _ (cells_lt x3) (by simp)).trans x3
  have n4:=ho4.next
  simp -implicitDefEqProofs (maxDischargeDepth:=12) only [WZ,seval,TkD.cells,hk]
  refine wA_call rfl ((k _ g4 e4).mono ?_)
  rintro o H5 ⟨wH5,rfl,h1H5,hcH5,⟨TT,AA,NN,LL,SS,KK,fH5⟩,oH5⟩
  refine ⟨_,rfl,fun c hc => by simp at hc,?_⟩
  simp -implicitDefEqProofs (maxDischargeDepth:=12) only [WI,seval,h1H5,hcH5]
  have x5:=(oH5.cells H2.next (by omega) (by simp; omega)).trans x4
  simp -implicitDefEqProofs (maxDischargeDepth:=12) only [WZ,seval,x5,h1H5,hcH5]
  have ho6 : Only [H2.next] H5 (H5.put H2.next (some (.cells [.sc (.bool false),.sc (.str ⟨#[]⟩),wH5]))):=by (repeat (first | exact Only.refl | refine Only.put ?_ (by first | (right; omega) | (left; exact List.mem_cons_self ..) | (left; simp [fpS])) | refine Only.alloc ?_))
  have f6 : PErr p TT AA (.sc (.int .i64 NN)) LL SS KK (.sc (.int .i64 1)) (.sc (.int .i64 col)) e (H5.put H2.next (some (.cells [.sc (.bool false),.sc (.str ⟨#[]⟩),wH5]))):=by
    have f:=fH5
    unfold PErr at f ⊢
    rw [ho6.cells p (cells_lt f) (by simp; omega)]; exact f
  generalize (H5.put H2.next (some (.cells [.sc (.bool false),.sc (.str ⟨#[]⟩),wH5]))) = H6 at ho6 f6 ⊢
  refine wA_call rfl ((expect_err f6 he _).mono ?_)
  rintro o H7 ⟨v,rfl,rfl,oH7⟩
  refine ⟨_,rfl,fun c hc => by simp at hc,?_⟩
  have fH7:=(f6).only oH7
  simp -implicitDefEqProofs (maxDischargeDepth:=12) only [WI,seval]
  simp -implicitDefEqProofs (maxDischargeDepth:=12) only [WZ,seval,s_mkif,o_iface,c_iface]
  have oa:=((oH1.trans oH2).trans o3).trans (o4.trans oH5)
  have la:=(oH1.trans oH2).next
  exact ⟨⟨_,_,_,_,_,_,fH7⟩,(oa.then ho6 (fun b hb => by simp at hb; right; omega)).trans (Only.nil oH7)⟩
theorem expr_of_prim {Q : Nat→AV→AHeap→Prop} {t tj : TkD} (ht : toks[i]? = some t) (h1 : isB t ⟨#[110,111,116]⟩ = false) (h2 : isB t ⟨#[45]⟩ = false) (hj : toks[j]? = some tj) (st : Stop tj) (hQ : QOk Q)
    (k : Lv 510 p BT toks N L bk bsc b0 kws vars i j Q) : Lv 27 p BT toks N L bk bsc b0 kws vars i j Q :=
  expr_of_sum ht h1 hj st hQ (sum_lv (product_lv (unary_lv ht h2 hQ k) hj st.a st.b st.c hQ) hj st.d st.e hQ)
theorem expr_of_prim_lf {t : TkD} (he : ¬ e = 0) (ht : toks[i]? = some t) (h1 : isB t ⟨#[110,111,116]⟩ = false) (h2 : isB t ⟨#[45]⟩ = false)
    (k : Lf 510 p BT toks N L bk bsc b0 kws vars i col e) : Lf 27 p BT toks N L bk bsc b0 kws vars i col e :=
  expr_lf he (both_lf he (negation_lf ht h1 (comparison_lf he (sum_lf he (product_lf he (unary_lf ht h2 k))))))
end
theorem Parse_fail (s : ByteArray) (hs : s.size ≤ 16384) (l : List Pc) (hl : s.data.toList = textOf l) (hok : pcsOk l = true) {t0 : TkD} {col e : Int} (he : ¬ e = 0) (k : ∀ p BT bk bsc b0,StmF p BT (toksD 0 true l) 0 0 bk bsc b0 kwL [] 0 col e) (ht0 : (toksD 0 true l)[0]? = some t0) (hk0 : ¬ t0.k = 0) (H : AHeap) :
    Ev prog polW (.call 6 [.sc (.str s)]) H fun o H' => ∃ v,o = .val v∧v = .tup [.sc .nilp,.sc (.int .i64 1),.sc (.int .i64 col),.sc (.int .i64 e)]:=by
  have c1 : ¬ (16384 : Int) < (s.size : Int):=by omega
  refine wpF_ok ok6 ?_
  simp -implicitDefEqProofs (maxDischargeDepth:=12) only [wpF,cf6,WZ,seval,c1,gt_iff_lt,s_mkmap,o_map,c_map,h_allocm]
  refine wA_call rfl ((Scan_ev s hs l hl hok _).mono ?_)
  rintro o H1 ⟨v,rfl,BT,rfl,hBT,ho1,hle⟩
  refine ⟨_,rfl,fun c hc => by simp at hc,?_⟩
  simp only [AHeap.next_alloc] at hle
  have q1 : ¬ H.next + 1 = H.next + 1 + 1:=by omega
  have q2 : ¬ H.next + 1 = H.next + 1 + 1 + 1:=by omega
  have q3 : ¬ H.next + 1 + 1 = H.next + 1 + 1 + 1:=by omega
  have q4 : ¬ H.next = H.next + 1 + 1 + 1:=by omega
  have q5 : ¬ H.next = H.next + 1 + 1:=by omega
  have q6 : ¬ H.next = H.next + 1:=by omega
  have gp:=ho1.cells (H.next + 1 + 1 + 1) (by simp only [AHeap.next_alloc]; omega) (by simp)
  have gs:=ho1.cells (H.next + 1) (by simp only [AHeap.next_alloc]; omega) (by simp)
  have gk:=ho1.map (H.next + 1 + 1) (by simp only [AHeap.next_alloc]; omega) (by simp)
  have g0:=ho1.map H.next (by simp only [AHeap.next_alloc]; omega) (by simp)
  simp -implicitDefEqProofs (maxDischargeDepth:=12) only [WZ,seval,h_allocm,q1,q2,q3,q4,q5,q6] at gp gs
  rw [map_alloc (by simp),map_allocm,if_pos (by simp)] at gk
  rw [map_alloc (by simp only [AHeap.next_alloc]; omega),map_allocm,if_neg (by simp only [AHeap.next_alloc]; omega),map_alloc (by simp),map_allocm,if_pos rfl] at g0
  have n1:=ho1.next
  simp only [AHeap.next_alloc] at n1
  simp -implicitDefEqProofs (maxDischargeDepth:=12) only [WZ,seval,gp]
  have lBT:=cells_lt hBT
  have lp:=cells_lt gp
  have m1 : ¬ BT = H.next + 1 + 1 + 1:=by omega
  have o2 : Only [H.next + 1 + 1 + 1] H1 (H1.put (H.next + 1 + 1 + 1) (some (.cells [.slice BT 0 (l.length + 1) (l.length + 1) 7,.sc (.int .i64 0),.sc (.int .i64 0),.sc (.int .i64 0),.slice (H.next + 1) 0 1 1 1,.map (H.next + 1 + 1),.sc (.int .i64 0),.sc (.int .i64 0),.sc (.int .i64 0)]))):=by (repeat (first | exact Only.refl | refine Only.put ?_ (by first | (right; omega) | (left; exact List.mem_cons_self ..) | (left; simp [fpS])) | refine Only.alloc ?_))
  have g2 : PSt (H.next + 1 + 1 + 1) BT (toksD 0 true l) 0 0 0 (.slice (H.next + 1) 0 1 1 1) (.map (H.next + 1 + 1)) (H1.put (H.next + 1 + 1 + 1) (some (.cells [.slice BT 0 (l.length + 1) (l.length + 1) 7,.sc (.int .i64 0),.sc (.int .i64 0),.sc (.int .i64 0),.slice (H.next + 1) 0 1 1 1,.map (H.next + 1 + 1),.sc (.int .i64 0),.sc (.int .i64 0),.sc (.int .i64 0)]))):=by
    refine ⟨?_,?_,by omega,?_⟩
    · rw [toksD_length]; simp -implicitDefEqProofs (maxDischargeDepth:=12) only [WZ,seval,gp]
    · rw [← toksD_eq]; simp -implicitDefEqProofs (maxDischargeDepth:=12) only [WZ,seval,gp,hBT,m1]
    · rw [toksD_length]; have:=ba_size s; rw [hl] at this; have:=pcs_len l hok; omega
  have e2 : PEn (H.next + 1 + 1 + 1) (H.next + 1 + 1) (H.next + 1) H.next [] [] (H1.put (H.next + 1 + 1 + 1) (some (.cells [.slice BT 0 (l.length + 1) (l.length + 1) 7,.sc (.int .i64 0),.sc (.int .i64 0),.sc (.int .i64 0),.slice (H.next + 1) 0 1 1 1,.map (H.next + 1 + 1),.sc (.int .i64 0),.sc (.int .i64 0),.sc (.int .i64 0)]))) :=
    (show PEn (H.next + 1 + 1 + 1) (H.next + 1 + 1) (H.next + 1) H.next [] [] H1 from ⟨gk,gs,g0,by omega,by omega,by omega,by omega⟩).p o2
  have lps:=cells_lt g2.cells
  generalize (H1.put (H.next + 1 + 1 + 1) (some (.cells [.slice BT 0 (l.length + 1) (l.length + 1) 7,.sc (.int .i64 0),.sc (.int .i64 0),.sc (.int .i64 0),.slice (H.next + 1) 0 1 1 1,.map (H.next + 1 + 1),.sc (.int .i64 0),.sc (.int .i64 0),.sc (.int .i64 0)]))) = H2 at g2 e2 lps ⊢
  refine wA_pure rfl kwW_pv ?_
  simp -implicitDefEqProofs (maxDischargeDepth:=12) only [WZ,seval,kw_len]
  have kl : kwL.length = 33:=rfl
  refine wp_loop (Inv:=fun k t H' => ∃ i : Nat,i + k = 33∧PSt (H.next + 1 + 1 + 1) BT (toksD 0 true l) 0 0 0 (.slice (H.next + 1) 0 1 1 1) (.map (H.next + 1 + 1)) H'∧PEn (H.next + 1 + 1 + 1) (H.next + 1 + 1) (H.next + 1) H.next (kwL.take i) [] H' ∧
    ∃ x : Nat→AV,t = [.sc (.str s),x 1,.sc .nilp,.sc (.int .i64 0),.sc (.int .i64 0),.sc (.int .i64 0),.ptr (H.next + 1 + 1 + 1) 0,x 7,x 8,x 9,x 10,x 11,x 12,x 13,x 14,x 15,x 16,x 17,x 18,x 19,x 20,x 21,x 22,x 23,x 24,x 25,x 26,x 27,x 28,x 29,x 30,x 31,kwVal,.sc (.int .i64 33),.sc (.int .i64 (i : Int)),x 35,x 36,x 37,x 38,x 39,x 40,x 41,x 42,x 43,x 44,x 45,x 46,x 47,x 48,x 49,x 50,x 51,x 52,x 53,x 54,x 55,x 56,x 57,x 58,x 59,x 60,x 61,x 62,x 63,x 64,x 65,x 66,x 67,x 68,x 69,x 70,x 71,x 72,x 73,x 74,x 75,x 76,x 77,x 78,x 79,x 80,x 81,x 82,x 83,x 84,x 85,x 86,x 87,x 88,x 89]) (k:=33) ?_ ⟨0,rfl,g2,e2,ex_x rfl⟩
  rintro kk t H3 ⟨i,hkk,g3,e3,x,rfl⟩
  by_cases c0 : i < 33
  · have c2 : (i : Int) < 33:=by omega
    obtain ⟨w,hw,hnew,htake⟩:=kw_step c0
    obtain ⟨z,hz,hr⟩:=kw_elem hw
    have hp3:=g3.cells
    have hpt:=putW e3.mw hnew
    simp -implicitDefEqProofs (maxDischargeDepth:=12) only [WZ,seval,c2,hz,hr,hp3,s_mpup,hpt,wA_memM,wrap1 c0 (show 33 < 2 ^ 31 by omega)]
    have o4 : Only [H.next + 1 + 1] H3 (H3.put (H.next + 1 + 1) (some (.map (wmap (kwL.take i ++ [w]))))):=by (repeat (first | exact Only.refl | refine Only.put ?_ (by first | (right; omega) | (left; exact List.mem_cons_self ..) | (left; simp [fpS])) | refine Only.alloc ?_))
    have nb : BT ≠ H.next + 1 + 1:=fun q => by have:=map_cells e3.mw; rw [← q,g3.tb] at this; cases this
    exact ⟨kk - 1,by omega,i + 1,by omega,g3.only o4 (by simp) (by simpa using nb),by rw [← htake]; exact e3.putk,ex_x rfl⟩
  · have c2 : ¬ (i : Int) < 33:=by omega
    obtain rfl : i = 33:=by omega
    rw [show kwL.take 33 = kwL from rfl] at e3
    have hp3:=g3.cells
    simp -implicitDefEqProofs (maxDischargeDepth:=12) only [WZ,seval,c2,hp3]
    rw [← toksD_length l 0 true] at *
    have o4 : Only [] H3 (H3.alloc (.cells [.slice BT 0 (toksD 0 true l).length (toksD 0 true l).length 7,.sc .nils])):=by (repeat (first | exact Only.refl | refine Only.put ?_ (by first | (right; omega) | (left; exact List.mem_cons_self ..) | (left; simp [fpS])) | refine Only.alloc ?_))
    have g4:=g3.only o4 (by simp) (by simp)
    have e4:=e3.only o4 (by simp) (by simp) (by simp)
    have lp3:=cells_lt hp3
    have l03:=map_lt e3.m0
    have x4 : (H3.alloc (.cells [.slice BT 0 (toksD 0 true l).length (toksD 0 true l).length 7,.sc .nils])).cells H3.next = some [.slice BT 0 (toksD 0 true l).length (toksD 0 true l).length 7,.sc .nils]:=by simp -implicitDefEqProofs (maxDischargeDepth:=12) only [WZ,seval]
    have n4 : H3.next < (H3.alloc (.cells [.slice BT 0 (toksD 0 true l).length (toksD 0 true l).length 7,.sc .nils])).next:=by simp
    generalize (H3.alloc (.cells [.slice BT 0 (toksD 0 true l).length (toksD 0 true l).length 7,.sc .nils])) = H4 at g4 e4 x4 n4 ⊢
    have hp4:=g4.cells
    refine wp_unroll 3 ?_
    simp -implicitDefEqProofs (maxDischargeDepth:=12) only [WZ,seval,hp4]
    refine wA_call rfl ((peek_ev g4 ht0).mono ?_)
    rintro o H5 ⟨v,rfl,rfl,ho5⟩
    refine ⟨_,rfl,fun c hc => by simp at hc,?_⟩
    have g5:=g4.only ho5 (by simp) (by simp)
    have e5:=e4.only ho5 (by simp) (by simp) (by simp)
    have x5:=(ho5.cells _ n4 (by simp)).trans x4
    have n5:=ho5.next
    simp -implicitDefEqProofs (maxDischargeDepth:=12) only [WZ,seval,TkD.cells,hk0,x5]
    refine wA_call rfl ((k _ _ _ _ _ H5 g5 e5).mono ?_)
    rintro o H6 ⟨w1,rfl,hw1,hc1,⟨TT,AA,NN,LL,SS,KK,g6⟩,o6⟩
    have x6:=(o6.cells H3.next (by omega) (by simp; omega)).trans x5
    refine ⟨_,rfl,fun c hc => ?_,?_⟩
    · simp at hc; subst hc; simp -implicitDefEqProofs (maxDischargeDepth:=12) only [WZ,seval,x5,x6]
    have n6:=o6.next
    have os1 : AV.ones [w1] = true:=by rw [os_cons,hw1]; rfl
    have nx6 : ¬ H3.next = H6.next:=by omega
    simp -implicitDefEqProofs (maxDischargeDepth:=12) only [WZ,seval,hw1,hc1,os1,x6,nx6]
    rw [appn_nil (n:=1) (bytes:=16) (H:=H6.alloc (.cells [w1])) (b':=H6.next) (xs:=[w1]) (by simp -implicitDefEqProofs (maxDischargeDepth:=12) only [WZ,seval]) rfl (by decide)]
    have nx7 : ¬ H3.next = H6.next + 1:=by omega
    simp -implicitDefEqProofs (maxDischargeDepth:=12) only [tI_normal,WZ,seval,x6,nx6,nx7]
    have hp6 : H6.cells _ = _:=g6
    have lp6:=cells_lt hp6
    have o7 : Only [H3.next] H6 (((H6.alloc (.cells [w1])).alloc (.cells [w1])).put H3.next (some (.cells [.slice BT 0 (toksD 0 true l).length (toksD 0 true l).length 7,.slice (H6.next + 1) 0 1 1 1]))):=by (repeat (first | exact Only.refl | refine Only.put ?_ (by first | (right; omega) | (left; exact List.mem_cons_self ..) | (left; simp [fpS])) | refine Only.alloc ?_))
    have hp7:=(o7.cells _ lp6 (by simp; omega)).trans hp6
    generalize (((H6.alloc (.cells [w1])).alloc (.cells [w1])).put H3.next (some (.cells [.slice BT 0 (toksD 0 true l).length (toksD 0 true l).length 7,.slice (H6.next + 1) 0 1 1 1]))) = H7 at hp7 ⊢
    refine wpI_succ ?_
    simp -implicitDefEqProofs (maxDischargeDepth:=12) only [tI_exit,WZ,seval,hp7,he]
    exact ⟨_,rfl,rfl⟩
theorem pars_lv {p BT : Nat} {toks : List TkD} {L : Int} {bk bsc b0 : Nat} {kws vars : List ByteArray} {d i0 : Nat} {Q : Nat→AV→AHeap→Prop} (hQ : QOk Q) (hd : d ≤ 16) {tn : TkD} (hn : toks[i0 + d]? = some tn) (n1 : isB tn ⟨#[110,111,116]⟩ = false) (n2 : isB tn ⟨#[45]⟩ = false)
    (ho : ∀ c,c < d→∃ t,toks[i0 + c]? = some t∧IsSym t 40) (hc : ∀ c,c < d→∃ t,toks[i0 + d + 1 + c]? = some t∧IsSym t 41) {te : TkD} (he : toks[i0 + d + 1 + d]? = some te) (se : Stop te) (sc : ∀ t,IsSym t 41→Stop t)
    (k : Lv 510 p BT toks (d : Int) L bk bsc b0 kws vars (i0 + d) (i0 + d + 1) Q) :
    ∀ m,m ≤ d→Lv 27 p BT toks ((d - m : Nat) : Int) L bk bsc b0 kws vars (i0 + (d - m)) (i0 + d + 1 + m) Q:=by
  have stop : ∀ m,m ≤ d→∃ t,toks[i0 + d + 1 + m]? = some t∧Stop t:=by
    intro m hm
    by_cases q : m < d
    · obtain ⟨t,h1,h2⟩:=hc m q; exact ⟨t,h1,sc t h2⟩
    · obtain rfl : m = d:=by omega
      exact ⟨te,he,se⟩
  intro m
  induction m with
  | zero =>
    intro hm
    obtain ⟨t,h1,h2⟩:=stop 0 hm
    exact expr_of_prim hn n1 n2 h1 h2 hQ k
  | succ m ih =>
    intro hm
    have k':=ih (by omega)
    obtain ⟨to,h1,h2⟩:=ho (d - (m + 1)) (by omega)
    obtain ⟨tc,h3,h4⟩:=hc m (by omega)
    obtain ⟨ts,h5,h6⟩:=stop (m + 1) hm
    have e1 : i0 + (d - (m + 1)) + 1 = i0 + (d - m):=by omega
    have e2 : ((d - (m + 1) : Nat) : Int) + 1 = ((d - m : Nat) : Int):=by omega
    refine expr_of_prim h1 (h2.wd 110 111 [116]) (by rw [h2.is]; rfl) h5 h6 hQ ?_
    exact primary_par h1 h2 (by omega) (by omega) (by rw [e1,e2]; exact k') h3 h4 hQ
theorem pars_lf {p BT : Nat} {toks : List TkD} {L : Int} {bk bsc b0 : Nat} {kws vars : List ByteArray} {i0 : Nat} {t16 : TkD} (ho : ∀ c,c ≤ 16→∃ t,toks[i0 + c]? = some t∧IsSym t 40) (h16 : toks[i0 + 16]? = some t16) :
    ∀ m,m ≤ 16→Lf 27 p BT toks ((16 - m : Nat) : Int) L bk bsc b0 kws vars (i0 + (16 - m)) t16.col 9:=by
  have he : ¬ (9 : Int) = 0:=by decide
  intro m
  induction m with
  | zero =>
    intro _
    obtain ⟨t,h1,h2⟩:=ho 16 (by omega)
    rw [h16] at h1
    cases h1
    exact expr_of_prim_lf he h16 (h2.wd 110 111 [116]) (by rw [h2.is]; rfl) (primary_deep_lf h16 h2)
  | succ m ih =>
    intro hm
    have k':=ih (by omega)
    obtain ⟨to,h1,h2⟩:=ho (16 - (m + 1)) (by omega)
    have e1 : i0 + (16 - (m + 1)) + 1 = i0 + (16 - m):=by omega
    have e2 : ((16 - (m + 1) : Nat) : Int) + 1 = ((16 - m : Nat) : Int):=by omega
    refine expr_of_prim_lf he h1 (h2.wd 110 111 [116]) (by rw [h2.is]; rfl) ?_
    exact primary_par_lf he h1 h2 (by omega) (by omega) (by rw [e1,e2]; exact k')
end Go.Hem
namespace Go.Hem
def OpAt (toks : List TkD) (i j : Nat) (a : Int) : Prop :=
  (0 ≤ a∧j = i + 1∧∃ t,toks[i]? = some t∧t.k = 2∧t.v = a) ∨
  (a < 0∧j = i + 4∧∃ t0 t1 t2 t3,toks[i]? = some t0∧IsSym t0 40∧toks[i + 1]? = some t1∧IsSym t1 45∧toks[i + 2]? = some t2∧t2.k = 2∧t2.v = -a∧toks[i + 3]? = some t3∧IsSym t3 41)
def OpC (a : Int) : Nat→AV→AHeap→Prop:=if 0 ≤ a then NumC a else NegC (NumC (-a))
theorem OpC.ok {a : Int} : QOk (OpC a):=by
  unfold OpC
  split
  · exact NumC.ok
  · exact NegC.ok NumC.ok
theorem sym_stop {t : TkD} (h : IsSym t 41) : Stop t :=
  ⟨by rw [h.is]; rfl,by rw [h.is]; rfl,by rw [h.is]; rfl,by rw [h.is]; rfl,by rw [h.is]; rfl,by rw [h.is]; rfl,by rw [h.is]; rfl,by rw [h.is]; rfl,by rw [h.is]; rfl,h.wd _ _ _,h.wd _ _ _⟩
theorem num_no {t : TkD} (h : t.k = 2) (s : ByteArray) : isB t s = false:=by
  unfold isB; rw [h]; rfl
structure Fst (t : TkD) : Prop where
  n : isB t ⟨#[110,111,116]⟩ = false
  m : isB t ⟨#[45]⟩ = false
  s : ¬ t.k = 3
section
variable {p BT : Nat} {toks : List TkD} {N L : Int} {bk bsc b0 : Nat} {kws vars : List ByteArray} {i j k : Nat} {a : Int}
end
section
variable {p BT : Nat} {toks : List TkD} {N L : Int} {bk bsc b0 : Nat} {kws vars : List ByteArray} {i j k : Nat} {Q1 Q2 : Nat→AV→AHeap→Prop} {t1 t t2 te x : TkD}
variable (q1 : QOk Q1) (q2 : QOk Q2) (k1 : Lv 510 p BT toks N L bk bsc b0 kws vars i j Q1) (g1 : toks[i]? = some t1) (f1 : Fst t1) (g : toks[j]? = some t) (g2 : toks[j + 1]? = some t2) (f2 : Fst t2) (k2 : Lv 510 p BT toks N L bk bsc b0 kws vars (j + 1) k Q2) (ge : toks[k]? = some te) (st : Stop te)
include q1 q2 k1 g1 f1 g g2 f2 k2 ge st
end
section
variable {p BT : Nat} {toks : List TkD} {N L : Int} {bk bsc b0 : Nat} {kws vars : List ByteArray} {i j k : Nat} {Q1 Q2 : Nat→AV→AHeap→Prop} {t1 t t2 te x : TkD}
structure IsAnd (t : TkD) : Prop where
  y : isB t ⟨#[97,110,100]⟩ = true
  a : isB t ⟨#[42]⟩ = false
  b : isB t ⟨#[47]⟩ = false
  c : isB t ⟨#[92]⟩ = false
  d : isB t ⟨#[43]⟩ = false
  e : isB t ⟨#[45]⟩ = false
  f : isB t ⟨#[61]⟩ = false
  g : isB t ⟨#[33]⟩ = false
  h : isB t ⟨#[60]⟩ = false
  i : isB t ⟨#[62]⟩ = false
end
section
variable {p BT : Nat} {toks : List TkD} {N L : Int} {bk bsc b0 : Nat} {kws vars : List ByteArray} {i j k : Nat} {Q1 : Nat→AV→AHeap→Prop} {t1 t t2 x : TkD} {col e : Int}
variable (he : ¬ e = 0) (q1 : QOk Q1) (k1 : Lv 510 p BT toks N L bk bsc b0 kws vars i j Q1) (g1 : toks[i]? = some t1) (f1 : Fst t1) (g : toks[j]? = some t) (g2 : toks[j + 1]? = some t2) (f2 : Fst t2) (k2 : Lf 510 p BT toks N L bk bsc b0 kws vars (j + 1) col e)
include he q1 k1 g1 f1 g g2 f2 k2
end
section
variable {p BT : Nat} {toks : List TkD} {N L : Int} {bk bsc b0 : Nat} {kws vars : List ByteArray} {i j k : Nat} {Q1 : Nat→AV→AHeap→Prop} {t1 t t2 x : TkD} {col e : Int}
end
end Go.Hem
namespace Go.Hem
theorem numVal_snoc (l : List UInt8) (c : UInt8) : numVal (l ++ [c]) = numVal l * 10 + (c.toNat - 48):=by simp [numVal]
theorem dig_toNat {d : Nat} (h : d < 10) : (UInt8.ofNat (48 + d)).toNat = 48 + d:=by
  rw [UInt8.toNat_ofNat']; omega
theorem dig_is {d : Nat} (h : d < 10) : isDigit (UInt8.ofNat (48 + d)) = true:=by
  unfold isDigit
  rw [dig_toNat h]
  simp; omega
theorem decF_num : ∀ (k u : Nat),u < 10 ^ k→0 < k→numVal (decF k u) = u
  | 0,_,_,h => by omega
  | k + 1,u,h,_ => by
    simp only [decF]
    by_cases q : u < 10
    · rw [if_pos q]
      show 0 * 10 + ((UInt8.ofNat (48 + u)).toNat - 48) = u
      rw [dig_toNat q]; omega
    · have hk : 0 < k:=by
        rcases k with _ | k
        · simp at h; omega
        · omega
      rw [if_neg q,numVal_snoc,decF_num k (u / 10) (by rw [Nat.pow_succ] at h; omega) hk,dig_toNat (Nat.mod_lt _ (by decide))]; omega
theorem decF_dig : ∀ (k u : Nat),(decF k u).all isDigit = true
  | 0,_ => rfl
  | k + 1,u => by
    simp only [decF]
    by_cases q : u < 10
    · rw [if_pos q,List.all_cons,dig_is q]; rfl
    · rw [if_neg q,List.all_append,decF_dig k (u / 10),List.all_cons,dig_is (Nat.mod_lt u (show 0 < 10 by decide))]; rfl
theorem decF_len : ∀ (j k u : Nat),u < 10 ^ j→1 ≤ j→(decF k u).length ≤ j
  | 0,_,_,_,h => by omega
  | j + 1,0,u,_,_ => by simp [decF]
  | j + 1,k + 1,u,h,_ => by
    simp only [decF]
    by_cases q : u < 10
    · rw [if_pos q]; simp
    · have hj : 1 ≤ j:=by
        rcases j with _ | j
        · simp at h; omega
        · omega
      rw [if_neg q,List.length_append]
      have:=decF_len j k (u / 10) (by rw [Nat.pow_succ] at h; omega) hj
      simp; omega
theorem decF_ne (k u : Nat) : decF (k + 1) u ≠ []:=by
  simp only [decF]
  split <;> simp
theorem decF_head (k u : Nat) : ∃ c r,decF (k + 1) u = c :: r∧isDigit c = true∧r.all isDigit = true:=by
  have h1:=decF_ne k u
  have h2:=decF_dig (k + 1) u
  generalize decF (k + 1) u = l at *
  rcases l with _ | ⟨c,r⟩
  · exact absurd rfl h1
  · simp only [List.all_cons,Bool.and_eq_true] at h2
    exact ⟨c,r,rfl,h2.1,h2.2⟩
end Go.Hem
namespace Go.Hem
theorem word_is {w l : List UInt8} {v c : Int} {j : Bool} : isB ⟨1,ba w,v,c,j⟩ ⟨l.toArray⟩ = (w == l):=by
  unfold isB
  rw [ba_toList,lit_toList]
  simp
theorem brace_stop {v col : Int} {j : Bool} : Stop ⟨4,ba [123],v,col,j⟩ :=
  ⟨by rw [sym_is]; rfl,by rw [sym_is]; rfl,by rw [sym_is]; rfl,by rw [sym_is]; rfl,by rw [sym_is]; rfl,by rw [sym_is]; rfl,by rw [sym_is]; rfl,by rw [sym_is]; rfl,by rw [sym_is]; rfl,sym_wd,sym_wd⟩
def repPcs (k : Nat) : List Pc:=[⟨0,1,[114,101,112,101,97,116]⟩,⟨1,2,decF 20 k⟩,⟨1,4,[123]⟩,⟨1,4,[125]⟩]
theorem repPcs_ok {k : Nat} (hk : k < 5000) : pcsOk (repPcs k) = true:=by
  obtain ⟨c,r,h1,h2,h3⟩:=decF_head 19 k
  have hl:=decF_len 4 20 k (by omega) (by decide)
  rw [h1] at hl
  simp only [List.length_cons] at hl
  have h6 : r.length < 15:=by omega
  simp [repPcs,pcsOk,Pc.ok,textOf,Pc.bytes,h1,h2,h3,h6] <;> decide
theorem repPcs_len {k : Nat} (hk : k < 5000) : (textOf (repPcs k)).length ≤ 100:=by
  have hl:=decF_len 4 20 k (by omega) (by decide)
  simp [repPcs,textOf,Pc.bytes]
  omega
theorem rep_parse {k : Nat} (hk : k < 5000) (s : ByteArray) (hs : s.data.toList = textOf (repPcs k)) (H : AHeap) :
    Ev prog polW (.call 6 [.sc (.str s)]) H fun o H' => ∃ v,o = .val v∧∃ bo TK bl w,v = .tup [.ptr bo 0,.sc (.int .i64 0),.sc (.int .i64 0),.sc (.int .i64 0)]∧H'.cells bo = some [TK,.slice bl 0 1 1 1]∧H'.cells bl = some [w]∧RepC (NumC (k : Int)) H.next w H':=by
  have hsz : s.size ≤ 16384:=by rw [ba_size,hs]; have:=repPcs_len hk; omega
  obtain ⟨c0,j0,e0⟩ : ∃ c j,(toksD 0 true (repPcs k))[0]? = some ⟨1,ba [114,101,112,101,97,116],0,c,j⟩:=⟨_,_,rfl⟩
  obtain ⟨c1,j1,e1⟩ : ∃ c j,(toksD 0 true (repPcs k))[1]? = some ⟨2,ba (decF 20 k),(numVal (decF 20 k) : Int),c,j⟩:=⟨_,_,rfl⟩
  obtain ⟨c2,j2,e2⟩ : ∃ c j,(toksD 0 true (repPcs k))[2]? = some ⟨4,ba [123],0,c,j⟩:=⟨_,_,rfl⟩
  obtain ⟨c3,j3,e3⟩ : ∃ c j,(toksD 0 true (repPcs k))[3]? = some ⟨4,ba [125],0,c,j⟩:=⟨_,_,rfl⟩
  obtain ⟨c4,j4,e4⟩ : ∃ c j,(toksD 0 true (repPcs k))[4]? = some ⟨0,ba [],0,c,j⟩:=⟨_,_,rfl⟩
  have hv : numVal (decF 20 k) = k:=decF_num 20 k (by omega) (by decide)
  rw [hv] at e1
  have h0 : ¬ (1 : Int) = 0:=by decide
  refine Parse_one s hsz (repPcs k) hs (repPcs_ok hk) (i1:=4) (Q:=RepC (NumC (k : Int))) (RepC.ok NumC.ok) ?_ e0 h0 e4 rfl H
  intro p BT bk bsc b0
  exact stm_repeat (i:=0) (j:=2) e0 (word_is.trans rfl) (word_is.trans rfl) (word_is.trans rfl) (word_is.trans rfl) (expr_num (i:=1) e1 rfl (by show ¬ (k : Int) < 0; omega) (by show ¬ 1099511627776 < (k : Int); omega) e2 brace_stop) e2 (by rw [sym_is]; rfl) e3 (by rw [sym_is]; rfl) (by decide) (by decide) NumC.ok
def parPcs (d : Nat) : List Pc:=⟨0,1,[112,114,105,110,116]⟩ :: ((List.range d).map (fun c => (⟨if c = 0 then 1 else 0,4,[40]⟩ : Pc)) ++ (⟨if d = 0 then 1 else 0,2,[49]⟩ :: (List.replicate d (⟨0,4,[41]⟩ : Pc) ++ [⟨0,4,[59]⟩])))
def symAt (l : List TkD) (i : Nat) (c : UInt8) : Bool:=match l[i]? with | some t => decide (t.k = 4) && (t.tx.data.toList == [c]) | none => false
def parChk (d : Nat) : Bool :=
  let l:=toksD 0 true (parPcs d)
  pcsOk (parPcs d) && decide ((textOf (parPcs d)).length ≤ 100) && (List.range d).all (fun c => symAt l (1 + c) 40 && symAt l (1 + d + 1 + c) 41) && symAt l (1 + d + 1 + d) 59 &&
  (match l[0]? with | some t => decide (t.k = 1) && (t.tx.data.toList == [112,114,105,110,116]) | none => false) && (match l[1 + d]? with | some t => decide (t.k = 2) && decide (t.v = 1) | none => false) &&
  (match l[1 + d + 1 + d + 1]? with | some t => decide (t.k = 0) | none => false) && (match l[17]? with | some t => decide (d ≤ 16) || decide (t.col = 23) | none => decide (d ≤ 16))
theorem par_all : ((List.range 24).all parChk) = true:=by decide +kernel
theorem symAt_spec {l : List TkD} {i : Nat} {c : UInt8} (h : symAt l i c = true) : ∃ t,l[i]? = some t∧IsSym t c:=by
  unfold symAt at h
  split at h
  · rename_i t ht
    simp only [Bool.and_eq_true,decide_eq_true_eq,beq_iff_eq] at h
    refine ⟨t,ht,h.1,?_⟩
    apply bytes_of_toList
    rw [ByteArray.toList_eq,h.2,ByteArray.toList_eq]
  · cases h
structure ParOk (d : Nat) : Prop where
  ok : pcsOk (parPcs d) = true
  len : (textOf (parPcs d)).length ≤ 100
  op : ∀ c,c < d→∃ t,(toksD 0 true (parPcs d))[1 + c]? = some t∧IsSym t 40
  cl : ∀ c,c < d→∃ t,(toksD 0 true (parPcs d))[1 + d + 1 + c]? = some t∧IsSym t 41
  se : ∃ t,(toksD 0 true (parPcs d))[1 + d + 1 + d]? = some t∧IsSym t 59
  pr : ∃ t,(toksD 0 true (parPcs d))[0]? = some t∧t.k = 1∧t.tx = ba [112,114,105,110,116]
  nu : ∃ t,(toksD 0 true (parPcs d))[1 + d]? = some t∧t.k = 2∧t.v = 1
  en : ∃ t,(toksD 0 true (parPcs d))[1 + d + 1 + d + 1]? = some t∧t.k = 0
  co : 16 < d→∃ t,(toksD 0 true (parPcs d))[17]? = some t∧t.col = 23
theorem parOk {d : Nat} (hd : d < 24) : ParOk d:=by
  have h:=List.all_eq_true.1 par_all d (by simpa using hd)
  unfold parChk at h
  simp only [Bool.and_eq_true,decide_eq_true_eq,List.all_eq_true,List.mem_range] at h
  obtain ⟨⟨⟨⟨⟨⟨⟨h1,h2⟩,h3⟩,h4⟩,h5⟩,h6⟩,h7⟩,h8⟩:=h
  refine ⟨h1,h2,fun c hc => symAt_spec (h3 c hc).1,fun c hc => symAt_spec (h3 c hc).2,symAt_spec h4,?_,?_,?_,fun h16 => ?_⟩
  · split at h5
    · rename_i t ht
      simp only [Bool.and_eq_true,decide_eq_true_eq,beq_iff_eq] at h5
      refine ⟨t,ht,h5.1,?_⟩
      apply bytes_of_toList
      rw [ByteArray.toList_eq,h5.2,ba_toList]
    · cases h5
  · split at h6
    · rename_i t ht
      simp only [Bool.and_eq_true,decide_eq_true_eq] at h6
      exact ⟨t,ht,h6.1,h6.2⟩
    · cases h6
  · split at h7
    · rename_i t ht
      exact ⟨t,ht,by simpa using h7⟩
    · cases h7
  · split at h8
    · rename_i t ht
      simp only [Bool.or_eq_true,decide_eq_true_eq] at h8
      exact ⟨t,ht,by omega⟩
    · simp only [decide_eq_true_eq] at h8; omega
theorem print_let {t : TkD} (hk : t.k = 1) (hx : t.tx = ba [112,114,105,110,116]) : isB t ⟨#[108,101,116]⟩ = false∧isB t ⟨#[112,114,105,110,116]⟩ = true:=by
  unfold isB
  rw [hk,hx,ba_toList]
  constructor
  · rw [show (⟨#[108,101,116]⟩ : ByteArray).toList = [108,101,116] from by rw [ByteArray.toList_eq]]; rfl
  · rw [show (⟨#[112,114,105,110,116]⟩ : ByteArray).toList = [112,114,105,110,116] from by rw [ByteArray.toList_eq]]; rfl
theorem par_fst {d : Nat} (hd : d < 24) : ∃ t,(toksD 0 true (parPcs d))[1]? = some t∧¬ t.k = 3:=by
  have P:=parOk hd
  by_cases q : 0 < d
  · obtain ⟨t,h1,h2⟩:=P.op 0 q
    exact ⟨t,h1,by rw [h2.k]; decide⟩
  · obtain rfl : d = 0:=by omega
    obtain ⟨t,h1,h2,_⟩:=P.nu
    exact ⟨t,h1,by rw [h2]; decide⟩
theorem semi_st {t : TkD} (h : IsSym t 59) : Stop t :=
  ⟨by rw [h.is]; rfl,by rw [h.is]; rfl,by rw [h.is]; rfl,by rw [h.is]; rfl,by rw [h.is]; rfl,by rw [h.is]; rfl,by rw [h.is]; rfl,by rw [h.is]; rfl,by rw [h.is]; rfl,h.wd _ _ _,h.wd _ _ _⟩
theorem par_parse {d : Nat} (hd : d ≤ 16) (s : ByteArray) (hs : s.data.toList = textOf (parPcs d)) (H : AHeap) :
    Ev prog polW (.call 6 [.sc (.str s)]) H fun o H' => ∃ v,o = .val v∧∃ bo,v = .tup [.ptr bo 0,.sc (.int .i64 0),.sc (.int .i64 0),.sc (.int .i64 0)]:=by
  have P:=parOk (d:=d) (by omega)
  have hsz : s.size ≤ 16384:=by rw [ba_size,hs]; have:=P.len; omega
  obtain ⟨t0,e0,k0,x0⟩:=P.pr
  obtain ⟨tn,en,kn,vn⟩:=P.nu
  obtain ⟨ts,es,ss⟩:=P.se
  obtain ⟨te,ee,ke⟩:=P.en
  obtain ⟨t1,e1,k1⟩:=par_fst (d:=d) (by omega)
  obtain ⟨a1,a2⟩:=print_let k0 x0
  refine (Parse_one s hsz (parPcs d) hs P.ok (i1:=1 + d + 1 + d + 1) (Q:=PrintC (NumC 1)) (PrintC.ok NumC.ok) ?_ e0 (by rw [k0]; decide) ee ke H).mono ?_
  rotate_left
  · rintro o H' ⟨v,rfl,bo,TK,bl,w,rfl,_⟩
    exact ⟨_,rfl,bo,rfl⟩
  intro p BT bk bsc b0
  have hp : Lv 510 p BT (toksD 0 true (parPcs d)) (d : Int) 0 bk bsc b0 kwL [] (1 + d) (1 + d + 1) (NumC 1):=by
    have:=primary_num (p:=p) (BT:=BT) (N:=(d : Int)) (L:=0) (bk:=bk) (bsc:=bsc) (b0:=b0) (kws:=kwL) (vars:=[]) en kn (by omega) (by omega)
    rw [vn] at this; exact this
  have he:=pars_lv (i0:=1) NumC.ok hd en (num_no kn _) (num_no kn _) P.op P.cl es (semi_st ss) (fun t h => sym_stop h) hp d (Nat.le_refl _)
  rw [show ((d - d : Nat) : Int) = 0 by omega,show 1 + (d - d) = 0 + 1 by omega] at he
  exact (stm_print (i:=0) e0 a1 a2 e1 k1 he es (by rw [ss.is]; rfl) NumC.ok).one
theorem par_bad {d : Nat} (h16 : 16 < d) (hd : d < 24) (s : ByteArray) (hs : s.data.toList = textOf (parPcs d)) (H : AHeap) :
    Ev prog polW (.call 6 [.sc (.str s)]) H fun o H' => ∃ v,o = .val v∧v = .tup [.sc .nilp,.sc (.int .i64 1),.sc (.int .i64 23),.sc (.int .i64 9)]:=by
  have P:=parOk hd
  have hsz : s.size ≤ 16384:=by rw [ba_size,hs]; have:=P.len; omega
  obtain ⟨t0,e0,k0,x0⟩:=P.pr
  obtain ⟨t1,e1,k1⟩:=par_fst hd
  obtain ⟨t17,e17,c17⟩:=P.co h16
  obtain ⟨a1,a2⟩:=print_let k0 x0
  have he : ¬ (9 : Int) = 0:=by decide
  refine Parse_fail s hsz (parPcs d) hs P.ok he ?_ e0 (by rw [k0]; decide) H
  intro p BT bk bsc b0
  have hf:=pars_lf (p:=p) (BT:=BT) (L:=0) (bk:=bk) (bsc:=bsc) (b0:=b0) (kws:=kwL) (vars:=[]) (i0:=1) (fun c hc => P.op c (by omega)) e17 16 (Nat.le_refl _)
  rw [c17,show ((16 - 16 : Nat) : Int) = 0 by omega] at hf
  exact stm_print_lf he e0 a1 a2 e1 k1 hf
end Go.Hem
namespace Go.Hem
structure ExToks (k : Nat) (a b : Int) (T : List TkD) (j j2 l : Nat) : Prop where
  pr : ∃ t,T[0]? = some t∧t.k = 1∧t.tx = ba [112,114,105,110,116]
  opa : OpAt T 1 j a
  opr : (k = 0∧j2 = j + 1∧∃ t,T[j]? = some t∧IsSym t 43) ∨ (k = 1∧j2 = j + 1∧∃ t,T[j]? = some t∧IsSym t 45) ∨ (k = 2∧j2 = j + 1∧∃ t,T[j]? = some t∧IsSym t 42) ∨ (k = 3∧j2 = j + 1∧∃ t,T[j]? = some t∧IsSym t 47) ∨
    (k = 4∧j2 = j + 1∧∃ t,T[j]? = some t∧IsSym t 92) ∨ (k = 5∧j2 = j + 1∧∃ t,T[j]? = some t∧IsSym t 60) ∨ (k = 6∧j2 = j + 2∧∃ t x,T[j]? = some t∧IsSym t 61∧T[j + 1]? = some x∧IsSym x 61∧x.j = true) ∨ (7 ≤ k∧j2 = j + 1∧∃ t,T[j]? = some t∧IsAnd t)
  opb : OpAt T j2 l b
  eqn : ∀ t,T[j2]? = some t→(t.tx.toList == (⟨#[61]⟩ : ByteArray).toList) = false
  se : ∃ t,T[l]? = some t∧IsSym t 59
  en : ∃ t,T[l + 1]? = some t∧t.k = 0
def ExC (k : Nat) (a b : Int) : Nat→AV→AHeap→Prop :=
  match k with
  | 0 => BinC 402 (OpC a) (OpC b)
  | 1 => BinC 403 (OpC a) (OpC b)
  | 2 => BinC 459 (OpC a) (OpC b)
  | 3 => BinC 460 (OpC a) (OpC b)
  | 4 => BinC 462 (OpC a) (OpC b)
  | 5 => CmpC 317 (OpC a) (OpC b)
  | 6 => CmpC 313 (OpC a) (OpC b)
  | _ => BinC 133 (OpC a) (OpC b)
theorem ExC.ok {k : Nat} {a b : Int} : QOk (ExC k a b):=by
  unfold ExC
  split <;> first | exact BinC.ok OpC.ok OpC.ok | exact CmpC.ok OpC.ok OpC.ok
section
variable {p BT : Nat} {T : List TkD} {L : Int} {bk bsc b0 : Nat} {kws vars : List ByteArray} {k j j2 l : Nat} {a b : Int}
end
end Go.Hem
namespace Go.Hem
end Go.Hem
set_option maxRecDepth 10000
namespace Go.Hem
theorem clone_run : isV (xPure (Y prog polW memo0 tab 1000) 19 [oneV]) oneV = true:=by decide +kernel
theorem clone_pv : Pv prog polW 19 [oneV] oneV:=pv_of_y tab_ok memo0_ok rfl (isV_spec clone_run)
section
variable {pb Bl : Nat} {TK w : AV} {H : AHeap} {lo : Nat}
theorem run_rep {k : Nat} (hk : k < 5000) (hp : H.cells pb = some [TK,.slice Bl 0 1 1 1]) (hl : H.cells Bl = some [w]) (hR : RepC (NumC (k : Int)) lo w H) :
    Ev prog polW (.call 9 [.ptr pb 0,oneV,.sc (.int .i64 1),.sc (.int .i64 1)]) H fun o H' => ∃ v,o = .val v∧v = (if 1 + k ≤ 4096 then .tup [oneV,.agg [.sc .nils,.sc (.str ⟨#[]⟩),.sc (.int .i64 ((1 + k : Nat) : Int))],.sc (.int .i64 0)] else .tup [s0V,r0V,.sc (.int .i64 9)]):=by
  obtain ⟨T,b,w',hb,rfl,hT,hcb,hQ⟩:=hR
  have lb:=cells_lt hcb
  have key:=Run_one (H:=H) _ _ _ _ _ _ (by rfl) valid_pv clone_pv (st':=min (1 + k) 4096) (e':=if 1 + k ≤ 4096 then 0 else 9) (l:=[]) hp hl (exec_of hT callee_rexec rfl) (fun m H1 B w0 hm hB o1 g x => by
    have hcb1:=(o1.cells b lb (by simp)).trans hcb
    have hQ1:=NumC.ok.keep _ _ _ _ _ hQ o1 (fun b hb => by cases hb)
    refine (rep_ev (num_evals (k : Int)) g (.inl ⟨rfl,x⟩) (by omega) (by decide) hcb1 (by omega) (by omega) hQ1 (by omega)).mono ?_
    rintro o H2 ⟨v,rfl,rfl,B',S',hB',g2,s2,o2⟩
    exact ⟨_,rfl,rfl,B',S',_,g2,s2,o2,.inl ⟨rfl,rfl⟩⟩)
  refine key.mono ?_
  rintro o H' ⟨v,rfl,rfl⟩
  refine ⟨_,rfl,?_⟩
  by_cases c : 1 + k ≤ 4096
  · rw [if_pos c,if_pos c,if_pos rfl,show min (1 + k) 4096 = 1 + k by omega]; rfl
  · rw [if_neg c,if_neg c,if_neg (by decide)]
end
end Go.Hem
namespace Go.Hem
theorem cat_ok {a b : ByteArray} (h : a.size + b.size ≤ 1000) : bstrOf .add (.sc (.str a)) (.sc (.str b)) = some (.sc (.str (a ++ b))):=by
  unfold bstrOf
  simp only
  rw [if_neg]
  show ¬ (((a.size + b.size : Nat) : Int) > 9223372036854775807)
  omega
theorem cat_list (a b : ByteArray) : (a ++ b).data.toList = a.data.toList ++ b.data.toList:=by simp
theorem cat_size (a b : ByteArray) : (a ++ b).size = a.size + b.size:=by simp
theorem ba_eq {a b : ByteArray} (h : a.data.toList = b.data.toList) : a = b:=by
  apply bytes_of_toList
  rw [ByteArray.toList_eq,ByteArray.toList_eq,h]
theorem cat_ba {l m : List UInt8} (h : l.length + m.length ≤ 1000) : bstrOf .add (.sc (.str ⟨l.toArray⟩)) (.sc (.str ⟨m.toArray⟩)) = some (.sc (.str ⟨(l ++ m).toArray⟩)):=by
  rw [cat_ok (by rw [ba_size,ba_size]; simpa using h)]
  congr 3
theorem e_remI {a b : Int} (hb : ¬ b = 0) : bintOf .rem (.sc (.int .i64 a)) (.sc (.int .i64 b)) = some (.sc (.int .i64 (a.tmod b))):=by
  unfold bintOf; simp [hb]
theorem ins_dec : insB prog 12 = true:=by kernel_rfl
theorem eff_dec (args : List AV) (H : AHeap) : polW.eff 12 args H = decEff args H:=rfl
theorem dec_call {n : Int} (h1 : -9223372036854775807 ≤ n) (h2 : n ≤ 9223372036854775807) (H : AHeap) : polW.eff 12 [.sc (.int .i64 n)] H = some (.sc (.str ⟨(itoaL n).toArray⟩),H):=by
  rw [eff_dec]
  simp only [decEff,h1,h2,and_self,if_true]
theorem dec_ev {n : Int} (h1 : -9223372036854775807 ≤ n) (h2 : n ≤ 9223372036854775807) (H : AHeap) : Ev prog polW (.call 12 [.sc (.int .i64 n)]) H fun o H' => ∃ v,o = .val v∧v = .sc (.str ⟨(itoaL n).toArray⟩)∧H' = H :=
  ev_eff ins_dec (dec_call h1 h2 H) ⟨_,rfl,rfl,rfl⟩
theorem itoa_nat (k : Nat) : itoaL (k : Int) = decF 20 k:=by
  unfold itoaL
  rw [if_neg (by omega)]; rfl
end Go.Hem
namespace Go.Hem
theorem rep_text (k : Nat) : ([114,101,112,101,97,116,32] ++ decF 20 k ++ [32,123,32,125]) = textOf (repPcs k):=by
  simp [repPcs,textOf,Pc.bytes]
def parL (d : Nat) : List UInt8:=[112,114,105,110,116,32] ++ List.replicate d 40 ++ [49] ++ List.replicate d 41 ++ [59]
theorem par_texts : ((List.range 24).all fun d => decide (parL d = textOf (parPcs d))) = true:=by decide +kernel
theorem par_text {d : Nat} (h : d < 24) : parL d = textOf (parPcs d):=by simpa using List.all_eq_true.1 par_texts d (by simpa using h)
def parS (i : Nat) (c : UInt8) : ByteArray:=⟨(List.replicate i c).toArray⟩
theorem parS_list (i : Nat) (c : UInt8) : (parS i c).data.toList = List.replicate i c:=by unfold parS; simp
theorem parS_size (i : Nat) (c : UInt8) : (parS i c).size = i:=by rw [ba_size,parS_list,List.length_replicate]
theorem parS_add {i : Nat} {c : UInt8} (h : i < 100) : bstrOf .add (.sc (.str (parS i c))) (.sc (.str ⟨#[c]⟩)) = some (.sc (.str (parS (i + 1) c))):=by
  rw [cat_ok (by rw [parS_size]; show i + 1 ≤ 1000; omega)]
  congr 3
  apply ba_eq
  rw [cat_list,parS_list,parS_list,List.replicate_succ']
theorem law2_pv (n d : Int) (hn0 : 0 ≤ n) (hn1 : n ≤ 65535) (hd0 : 0 ≤ d) (hd1 : d ≤ 255) : Pv prog polW 4 [.sc (.int .u16 n),.sc (.int .u8 d)] (.sc (.bool true)):=by
  have hwn : IntKind.i64.wrap n = n:=by rw [w64 (by omega) (by omega)]
  have hwd : IntKind.i64.wrap d = d:=by rw [w64 (by omega) (by omega)]
  obtain ⟨k,hk,hmod⟩ : ∃ k : Nat,k < 5000∧n.tmod 5000 = (k : Int):=⟨n.toNat % 5000,Nat.mod_lt _ (by decide),by rw [Int.tmod_eq_emod_of_nonneg hn0]; omega⟩
  obtain ⟨D,hD,hdod⟩ : ∃ k : Nat,k < 24∧d.tmod 24 = (k : Int):=⟨d.toNat % 24,Nat.mod_lt _ (by decide),by rw [Int.tmod_eq_emod_of_nonneg hd0]; omega⟩
  have hl:=decF_len 5 20 k (by omega) (by decide)
  have p1:=cat_ba (l:=[114,101,112,101,97,116,32]) (m:=decF 20 k) (by simp; omega)
  have p2:=cat_ba (l:=[114,101,112,101,97,116,32] ++ decF 20 k) (m:=[32,123,32,125]) (by simp; omega)
  have wk : IntKind.i64.wrap ((k : Int) + 1) = (k : Int) + 1:=by rw [w64 (by omega) (by omega)]
  have htx:=rep_text k
  simp only [List.cons_append,List.nil_append] at p1 p2 htx
  obtain ⟨q,hq1,hq2,hq3⟩ : ∃ q : List AV,oneV = .agg q∧q.length = 6∧AV.ones q = true:=⟨_,rfl,rfl,rfl⟩
  have e1 : ((1 + k : Nat) : Int) = (k : Int) + 1:=by omega
  by_cases c : 1 + k ≤ 4096
  · have c2 : ¬ (4096 : Int) < (k : Int) + 1:=by omega
    refine Pv_of' ok4 rfl ?_
    simp -implicitDefEqProofs (maxDischargeDepth:=12) only [wpF,cf4,WZ,seval,hwn,hmod,e_remI (show ¬ (5000 : Int) = 0 by decide)]
    refine wA_call rfl ((dec_ev (by omega) (by omega) _).mono ?_)
    rintro o H1 ⟨v,rfl,rfl,rfl⟩
    refine ⟨_,rfl,fun c hc => rfl,?_⟩
    simp -implicitDefEqProofs (maxDischargeDepth:=12) only [WZ,seval,itoa_nat,p1,p2]
    refine wA_call rfl ((rep_parse hk _ htx.symm _).mono ?_)
    rintro o H2 ⟨v,rfl,bo,TK,bl,w,rfl,hb,hl,hR⟩
    refine ⟨_,rfl,fun c hc => by simp at hc,?_⟩
    simp -implicitDefEqProofs (maxDischargeDepth:=12) only [WZ,seval]
    refine wA_pure rfl known_pv ?_
    simp -implicitDefEqProofs (maxDischargeDepth:=12) only [WZ,seval]
    refine wA_pure rfl one_pv ?_
    simp -implicitDefEqProofs (maxDischargeDepth:=12) only [WZ,seval]
    refine wA_call rfl ((run_rep hk hb hl hR).mono ?_)
    rintro o H3 ⟨v,rfl,rfl⟩
    refine ⟨_,rfl,fun c hc => by simp at hc,?_⟩
    have c5 : ¬ (H3.next + 1 = H3.next):=by omega
    have c6 : ¬ (H3.next = H3.next + 1):=by omega
    simp -implicitDefEqProofs (maxDischargeDepth:=12) only [WZ,seval,c,c2,wk,gt_iff_lt,hq1,hq2,hq3,e1,c5,c6,hdod,hwd,e_remI (show ¬ (24 : Int) = 0 by decide)]
    refine wp_loop (Inv:=fun m t H' => ∃ i : Nat,i + m = D∧∃ x : Nat→AV,t = [x 0,x 1,x 2,x 3,x 4,x 5,x 6,x 7,x 8,x 9,x 10,x 11,x 12,.sc (.int .i64 (D : Int)),.sc (.str (parS i 40)),.sc (.str (parS i 41)),.sc (.int .i64 (i : Int)),x 17,x 18,x 19,x 20,x 21,x 22,x 23,x 24,x 25,x 26,x 27,x 28,x 29,x 30,x 31,x 32,x 33,x 34,x 35,x 36,x 37,x 38,x 39,x 40,x 41,x 42,x 43,x 44,x 45,x 46,x 47,x 48,x 49,x 50,x 51,x 52,x 53,x 54,x 55,x 56,x 57,x 58,x 59,x 60,x 61,x 62,x 63,x 64,x 65,x 66,x 67,x 68,x 69,x 70,x 71,x 72,x 73,x 74,x 75,x 76,x 77,x 78,x 79,x 80,x 81,x 82,x 83,x 84,x 85,x 86,x 87,x 88,x 89,x 90,x 91,x 92,x 93,x 94,x 95,x 96,x 97,x 98,x 99,x 100,x 101,x 102,x 103]) (k:=D) ?_ ⟨0,by omega,ex_x rfl⟩
    rintro m t H4 ⟨i,hm,x,rfl⟩
    by_cases c0 : i < D
    · have c1 : (i : Int) < (D : Int):=by omega
      have s1:=parS_add (c:=40) (i:=i) (by omega)
      have s2:=parS_add (c:=41) (i:=i) (by omega)
      simp -implicitDefEqProofs (maxDischargeDepth:=12) only [WZ,seval,c1,s1,s2,wrap1 c0 (show D < 2 ^ 31 by omega)]
      exact ⟨m - 1,by omega,i + 1,by omega,ex_x rfl⟩
    · have c1 : ¬ (i : Int) < (D : Int):=by omega
      have hi : i = D:=by omega
      have u1:=cat_ok (a:=⟨#[112,114,105,110,116,32]⟩) (b:=parS i 40) (by rw [parS_size]; show 6 + i ≤ 1000; omega)
      have u2:=cat_ok (a:=⟨#[112,114,105,110,116,32]⟩ ++ parS i 40) (b:=⟨#[49]⟩) (by rw [cat_size,parS_size]; show 6 + i + 1 ≤ 1000; omega)
      have u3:=cat_ok (a:=⟨#[112,114,105,110,116,32]⟩ ++ parS i 40 ++ ⟨#[49]⟩) (b:=parS i 41) (by rw [cat_size,cat_size,parS_size,parS_size]; show 6 + i + 1 + i ≤ 1000; omega)
      have u4:=cat_ok (a:=⟨#[112,114,105,110,116,32]⟩ ++ parS i 40 ++ ⟨#[49]⟩ ++ parS i 41) (b:=⟨#[59]⟩) (by rw [cat_size,cat_size,cat_size,parS_size,parS_size]; show 6 + i + 1 + i + 1 ≤ 1000; omega)
      have hT : ((⟨#[112,114,105,110,116,32]⟩ : ByteArray) ++ parS i 40 ++ ⟨#[49]⟩ ++ parS i 41 ++ ⟨#[59]⟩).data.toList = textOf (parPcs D):=by
        rw [cat_list,cat_list,cat_list,cat_list,parS_list,parS_list,hi]
        exact par_text hD
      by_cases h16 : 16 < D
      · have d1 : (16 : Int) < (D : Int):=by omega
        simp -implicitDefEqProofs (maxDischargeDepth:=12) only [WZ,seval,c1,u1,u2,u3,u4]
        refine wA_call rfl ((par_bad h16 hD _ hT _).mono ?_)
        rintro o H5 ⟨v,rfl,rfl⟩
        refine ⟨_,rfl,fun c hc => by simp at hc,?_⟩
        simp -implicitDefEqProofs (maxDischargeDepth:=12) only [WZ,seval,gt_iff_lt,d1]
        exact frz_sc
      · have d1 : ¬ (16 : Int) < (D : Int):=by omega
        simp -implicitDefEqProofs (maxDischargeDepth:=12) only [WZ,seval,c1,u1,u2,u3,u4]
        refine wA_call rfl ((par_parse (by omega) _ hT _).mono ?_)
        rintro o H5 ⟨v,rfl,bo2,rfl⟩
        refine ⟨_,rfl,fun c hc => by simp at hc,?_⟩
        simp -implicitDefEqProofs (maxDischargeDepth:=12) only [WZ,seval,gt_iff_lt,d1]
        exact frz_sc
  · have c2 : (4096 : Int) < (k : Int) + 1:=by omega
    refine Pv_of' ok4 rfl ?_
    simp -implicitDefEqProofs (maxDischargeDepth:=12) only [wpF,cf4,WZ,seval,hwn,hmod,e_remI (show ¬ (5000 : Int) = 0 by decide)]
    refine wA_call rfl ((dec_ev (by omega) (by omega) _).mono ?_)
    rintro o H1 ⟨v,rfl,rfl,rfl⟩
    refine ⟨_,rfl,fun c hc => rfl,?_⟩
    simp -implicitDefEqProofs (maxDischargeDepth:=12) only [WZ,seval,itoa_nat,p1,p2]
    refine wA_call rfl ((rep_parse hk _ htx.symm _).mono ?_)
    rintro o H2 ⟨v,rfl,bo,TK,bl,w,rfl,hb,hl,hR⟩
    refine ⟨_,rfl,fun c hc => by simp at hc,?_⟩
    simp -implicitDefEqProofs (maxDischargeDepth:=12) only [WZ,seval]
    refine wA_pure rfl known_pv ?_
    simp -implicitDefEqProofs (maxDischargeDepth:=12) only [WZ,seval]
    refine wA_pure rfl one_pv ?_
    simp -implicitDefEqProofs (maxDischargeDepth:=12) only [WZ,seval]
    refine wA_call rfl ((run_rep hk hb hl hR).mono ?_)
    rintro o H3 ⟨v,rfl,rfl⟩
    refine ⟨_,rfl,fun c hc => by simp at hc,?_⟩
    have c5 : ¬ (H3.next + 1 = H3.next):=by omega
    have c6 : ¬ (H3.next = H3.next + 1):=by omega
    simp -implicitDefEqProofs (maxDischargeDepth:=12) only [WZ,seval,s0V,r0V,c,c2,wk,gt_iff_lt,e1,c5,c6,hdod,hwd,e_remI (show ¬ (24 : Int) = 0 by decide)]
    refine wp_loop (Inv:=fun m t H' => ∃ i : Nat,i + m = D∧∃ x : Nat→AV,t = [x 0,x 1,x 2,x 3,x 4,x 5,x 6,x 7,x 8,x 9,x 10,x 11,x 12,.sc (.int .i64 (D : Int)),.sc (.str (parS i 40)),.sc (.str (parS i 41)),.sc (.int .i64 (i : Int)),x 17,x 18,x 19,x 20,x 21,x 22,x 23,x 24,x 25,x 26,x 27,x 28,x 29,x 30,x 31,x 32,x 33,x 34,x 35,x 36,x 37,x 38,x 39,x 40,x 41,x 42,x 43,x 44,x 45,x 46,x 47,x 48,x 49,x 50,x 51,x 52,x 53,x 54,x 55,x 56,x 57,x 58,x 59,x 60,x 61,x 62,x 63,x 64,x 65,x 66,x 67,x 68,x 69,x 70,x 71,x 72,x 73,x 74,x 75,x 76,x 77,x 78,x 79,x 80,x 81,x 82,x 83,x 84,x 85,x 86,x 87,x 88,x 89,x 90,x 91,x 92,x 93,x 94,x 95,x 96,x 97,x 98,x 99,x 100,x 101,x 102,x 103]) (k:=D) ?_ ⟨0,by omega,ex_x rfl⟩
    rintro m t H4 ⟨i,hm,x,rfl⟩
    by_cases c0 : i < D
    · have c1 : (i : Int) < (D : Int):=by omega
      have s1:=parS_add (c:=40) (i:=i) (by omega)
      have s2:=parS_add (c:=41) (i:=i) (by omega)
      simp -implicitDefEqProofs (maxDischargeDepth:=12) only [WZ,seval,c1,s1,s2,wrap1 c0 (show D < 2 ^ 31 by omega)]
      exact ⟨m - 1,by omega,i + 1,by omega,ex_x rfl⟩
    · have c1 : ¬ (i : Int) < (D : Int):=by omega
      have hi : i = D:=by omega
      have u1:=cat_ok (a:=⟨#[112,114,105,110,116,32]⟩) (b:=parS i 40) (by rw [parS_size]; show 6 + i ≤ 1000; omega)
      have u2:=cat_ok (a:=⟨#[112,114,105,110,116,32]⟩ ++ parS i 40) (b:=⟨#[49]⟩) (by rw [cat_size,parS_size]; show 6 + i + 1 ≤ 1000; omega)
      have u3:=cat_ok (a:=⟨#[112,114,105,110,116,32]⟩ ++ parS i 40 ++ ⟨#[49]⟩) (b:=parS i 41) (by rw [cat_size,cat_size,parS_size,parS_size]; show 6 + i + 1 + i ≤ 1000; omega)
      have u4:=cat_ok (a:=⟨#[112,114,105,110,116,32]⟩ ++ parS i 40 ++ ⟨#[49]⟩ ++ parS i 41) (b:=⟨#[59]⟩) (by rw [cat_size,cat_size,cat_size,parS_size,parS_size]; show 6 + i + 1 + i + 1 ≤ 1000; omega)
      have hT : ((⟨#[112,114,105,110,116,32]⟩ : ByteArray) ++ parS i 40 ++ ⟨#[49]⟩ ++ parS i 41 ++ ⟨#[59]⟩).data.toList = textOf (parPcs D):=by
        rw [cat_list,cat_list,cat_list,cat_list,parS_list,parS_list,hi]
        exact par_text hD
      by_cases h16 : 16 < D
      · have d1 : (16 : Int) < (D : Int):=by omega
        simp -implicitDefEqProofs (maxDischargeDepth:=12) only [WZ,seval,c1,u1,u2,u3,u4]
        refine wA_call rfl ((par_bad h16 hD _ hT _).mono ?_)
        rintro o H5 ⟨v,rfl,rfl⟩
        refine ⟨_,rfl,fun c hc => by simp at hc,?_⟩
        simp -implicitDefEqProofs (maxDischargeDepth:=12) only [WZ,seval,gt_iff_lt,d1]
        exact frz_sc
      · have d1 : ¬ (16 : Int) < (D : Int):=by omega
        simp -implicitDefEqProofs (maxDischargeDepth:=12) only [WZ,seval,c1,u1,u2,u3,u4]
        refine wA_call rfl ((par_parse (by omega) _ hT _).mono ?_)
        rintro o H5 ⟨v,rfl,bo2,rfl⟩
        refine ⟨_,rfl,fun c hc => by simp at hc,?_⟩
        simp -implicitDefEqProofs (maxDischargeDepth:=12) only [WZ,seval,gt_iff_lt,d1]
        exact frz_sc
end Go.Hem
