/- Walks. -/
import Derived.Test.YteeikpjhfdjjfaaGreatDoorWalks0
import Derived.Test.YteeikpjhfdjjfaaGreatDoorHemPol55
import Derived.Test.YteeikpjhfdjjfaaGreatDoorK55m
set_option maxRecDepth 10000
set_option maxHeartbeats 4000000
set_option linter.unusedSimpArgs false
set_option linter.unusedVariables false
namespace Go.Hem
theorem s_invk {P : Program} {t : List AV} {H : AHeap} {r : Operand} {name : String} {args : List Operand} : csem P t H (.invk r name args) = invOf P name (aev t r) (args.map (aev t)):=rfl
structure Exec (T : TypeId) (f : FuncId) : Prop where
  inv : ∀ x args, invOf prog "hemiola/script.exec" (.iface T x) args = some (.call f (x :: args))
  np : polW.pure f = false
theorem exec_of {T : TypeId} {f : FuncId} (h : amethod prog T "hemiola/script.exec" = some f) (hc : ∀ args, acallee prog f args = some (.call f args)) (hp : polW.pure f = false) : Exec T f :=
  ⟨fun x args => by
    show (amethod prog T "hemiola/script.exec").bind _ = _
    rw [h]; exact hc _,hp⟩
theorem callee_oexec (args : List AV) : acallee prog 636 args = some (.call 636 args):=acB_spec ac636 args
def OutIs (lo : Nat) (l : List UInt8) (OUT : AV) (H : AHeap) : Prop:=(OUT = .sc .nils∧l = []) ∨ ∃ b,lo ≤ b∧OUT = .slice b 0 l.length l.length 1∧l ≠ []∧H.cells b = some (l.map fun c => .sc (.int .u8 ((c.toNat : Nat) : Int)))
theorem OutIs.only {lo : Nat} {l : List UInt8} {OUT : AV} {H H' : AHeap} {bs : List Nat} (h : OutIs lo l OUT H) (o : Only bs H H') (hl : ∀ b ∈ bs,b < lo) : OutIs lo l OUT H':=by
  rcases h with h | ⟨b,h1,h2,h3,h4⟩
  · exact .inl h
  · exact .inr ⟨b,h1,h2,h3,keep1 h1 h4 o hl⟩
theorem byteOf_map (l : List UInt8) : (l.map fun c => AV.sc (.int .u8 ((c.toNat : Nat) : Int))).mapM byteOf = some l:=by
  induction l with
  | nil => rfl
  | cons c l ih =>
    rw [List.map_cons,List.mapM_cons,ih]
    simp [byteOf]
theorem OutIs.bytes {lo : Nat} {l : List UInt8} {OUT : AV} {H : AHeap} (h : OutIs lo l OUT H) : strBytes H OUT = some (.sc (.str ⟨l.toArray⟩)):=by
  rcases h with ⟨rfl,rfl⟩ | ⟨b,h1,rfl,h3,h4⟩
  · rfl
  · show (asrc 1 H (.slice b 0 l.length l.length 1) l.length).bind _ = _
    have : asrc 1 H (.slice b 0 l.length l.length 1) l.length = some (l.map fun c => AV.sc (.int .u8 ((c.toNat : Nat) : Int))):=by
      simp [asrc,AHeap.rd,h4]
      exact List.take_of_length_le (by simp)
    rw [this]
    show (List.mapM byteOf _).map _ = _
    rw [byteOf_map]; rfl
section
variable {m : Nat} {a0 a1 a2 a3 a4 a5 a6 a7 : AV} {OUT ITS : AV} {H : AHeap}
theorem run_one {Bl b : Nat} {T : TypeId} {f : FuncId} {st st' : Nat} {e' : Int} {PO : AV→AHeap→Prop} (h : MSt m a0 a1 a2 a3 a4 a5 a6 a7 st OUT (.sc .nils) ITS 0 H) (hst : st < 4096)
    (hl : H.cells Bl = some [.iface T (.ptr b 0)]) (hlm : Bl ≠ m) (hT : Exec T f)
    (hP : ∀ O H1 H2,PO O H1→Only [m] H1 H2→PO O H2)
    (k : ∀ H1 B w0,Only [m] H H1→H.next ≤ B→MSt m a0 a1 a2 a3 a4 a5 a6 a7 (st + 1) OUT (.slice B 0 1 1 1) ITS 0 H1→H1.cells B = some [w0] →
      Ev prog polW (.call f [.ptr b 0,.ptr m 0]) H1 fun o H' => ∃ v,o = .val v∧v = .tup []∧∃ B' S' O',MSt m a0 a1 a2 a3 a4 a5 a6 a7 st' O' S' ITS e' H'∧ScpIs w0 B' S' H'∧Only [m,B] H1 H'∧PO O' H') :
    Ev prog polW (.call 20 [.ptr m 0,.slice Bl 0 1 1 1]) H fun o H' => ∃ v,o = .val v∧v = .tup []∧∃ S' O',MSt m a0 a1 a2 a3 a4 a5 a6 a7 st' O' S' ITS e' H'∧PO O' H'∧Only [m] H H':=by
  have hp : H.cells m = _:=h
  have lp:=cells_lt hp
  have lb:=cells_lt hl
  have n1 : ¬ m = H.next:=by omega
  have n2 : ¬ m = H.next + 1:=by omega
  have n7 : ¬ m = H.next + 1 + 1:=by omega
  have n3 : ¬ Bl = H.next:=by omega
  have n4 : ¬ Bl = H.next + 1:=by omega
  have n5 : ¬ Bl = H.next + 1 + 1:=by omega
  refine wpF_ok ok20 ?_
  simp -implicitDefEqProofs (maxDischargeDepth:=12) only [wpF,cf20,WZ,seval,hp,s_mkmap,o_map,c_map,h_allocm,n1,n2]
  rw [appn_nil (n:=1) (bytes:=8) (b':=H.next + 1) (xs:=[.map H.next]) (by simp -implicitDefEqProofs (maxDischargeDepth:=12) only [WZ,seval]) rfl (by decide)]
  simp -implicitDefEqProofs (maxDischargeDepth:=12) only [WZ,seval,hp,h_allocm,n1,n2,n7]
  have o2 : Only [m] H ((((H.alloc (.map [])).alloc (.cells [.map H.next])).alloc (.cells [.map H.next])).put m (some (.cells [a0,a1,a2,a3,a4,a5,a6,a7,.sc .nils,.sc (.str ⟨#[]⟩),.sc (.int .i64 (st : Int)),OUT,.slice (H.next + 1 + 1) 0 1 1 1,ITS,.sc (.int .i64 0)]))) :=
    Only.put (Only.alloc (Only.alloc (Only.alloc Only.refl))) (.inl (by simp))
  have g2 : MSt m a0 a1 a2 a3 a4 a5 a6 a7 st OUT (.slice (H.next + 1 + 1) 0 1 1 1) ITS 0 ((((H.alloc (.map [])).alloc (.cells [.map H.next])).alloc (.cells [.map H.next])).put m (some (.cells [a0,a1,a2,a3,a4,a5,a6,a7,.sc .nils,.sc (.str ⟨#[]⟩),.sc (.int .i64 (st : Int)),OUT,.slice (H.next + 1 + 1) 0 1 1 1,ITS,.sc (.int .i64 0)]))):=by
    unfold MSt
    simp -implicitDefEqProofs (maxDischargeDepth:=12) only [WZ,seval,hp,h_allocm,n1,n2,n7]
  have x2a : (((H.alloc (.map [])).alloc (.cells [.map H.next])).alloc (.cells [.map H.next])).cells (H.next + 1 + 1) = some [.map H.next]:=by
    rw [h_alloc,if_pos (by simp)]
  have x2 : ((((H.alloc (.map [])).alloc (.cells [.map H.next])).alloc (.cells [.map H.next])).put m (some (.cells [a0,a1,a2,a3,a4,a5,a6,a7,.sc .nils,.sc (.str ⟨#[]⟩),.sc (.int .i64 (st : Int)),OUT,.slice (H.next + 1 + 1) 0 1 1 1,ITS,.sc (.int .i64 0)]))).cells (H.next + 1 + 1) = some [.map H.next] :=
    ((show Only [m] (((H.alloc (.map [])).alloc (.cells [.map H.next])).alloc (.cells [.map H.next])) ((((H.alloc (.map [])).alloc (.cells [.map H.next])).alloc (.cells [.map H.next])).put m (some (.cells [a0,a1,a2,a3,a4,a5,a6,a7,.sc .nils,.sc (.str ⟨#[]⟩),.sc (.int .i64 (st : Int)),OUT,.slice (H.next + 1 + 1) 0 1 1 1,ITS,.sc (.int .i64 0)]))) from Only.put Only.refl (.inl (by simp))).cells (H.next + 1 + 1) (by simp) (by simp; omega)).trans x2a
  generalize ((((H.alloc (.map [])).alloc (.cells [.map H.next])).alloc (.cells [.map H.next])).put m (some (.cells [a0,a1,a2,a3,a4,a5,a6,a7,.sc .nils,.sc (.str ⟨#[]⟩),.sc (.int .i64 (st : Int)),OUT,.slice (H.next + 1 + 1) 0 1 1 1,ITS,.sc (.int .i64 0)]))) = H2 at o2 g2 x2 ⊢
  have l2:=(o2.cells Bl lb (by simpa using hlm)).trans hl
  refine wp_unroll 2 ?_
  simp -implicitDefEqProofs (maxDischargeDepth:=12) only [WZ,seval,l2]
  refine wA_call rfl ((step_yes g2 hst).mono ?_)
  rintro o H3 ⟨v,rfl,rfl,g3,o3⟩
  have l3:=(o3.cells Bl (cells_lt l2) (by simpa using hlm)).trans l2
  have x3:=(o3.cells _ (cells_lt x2) (by simp; exact fun q => n7 q.symm)).trans x2
  refine ⟨_,rfl,fun c hc => by simp at hc,?_⟩
  simp -implicitDefEqProofs (maxDischargeDepth:=12) only [WZ,seval,l3,s_invk,hT.inv]
  refine wA_call hT.np ((k H3 (H.next + 1 + 1) _ (o2.trans o3) (by omega) g3 x3).mono ?_)
  rintro o H4 ⟨v,rfl,rfl,B',S',O',g4,s4,o4,p4⟩
  have l4:=(o4.cells Bl (cells_lt l3) (by simp; exact ⟨hlm,n5⟩)).trans l3
  refine ⟨_,rfl,fun c hc => by simp at hc,?_⟩
  have hp4 : H4.cells m = _:=g4
  simp -implicitDefEqProofs (maxDischargeDepth:=12) only [tI_normal,WZ,seval,l4]
  refine wpI_succ ?_
  have oa : Only [m] H H4:=(o2.trans o3).then o4 (fun b hb => by simp at hb ⊢; rcases hb with rfl | rfl; exact .inl rfl; exact .inr (by omega))
  rcases s4 with ⟨rfl,s4⟩ | ⟨rfl,w1,s4⟩
  · simp -implicitDefEqProofs (maxDischargeDepth:=12) only [tI_exit,WZ,seval,hp4,cr_nil,i0,i1]
    have o5 : Only [m] H4 (H4.put m (some (.cells [a0,a1,a2,a3,a4,a5,a6,a7,.sc .nils,.sc (.str ⟨#[]⟩),.sc (.int .i64 (st' : Int)),O',.slice B' 0 0 1 1,ITS,.sc (.int .i64 e')]))):=by (repeat (first | exact Only.refl | refine Only.put ?_ (by first | (right; omega) | (left; exact List.mem_cons_self ..) | (left; simp [fpS])) | refine Only.alloc ?_))
    refine ⟨.slice B' 0 0 1 1,O',?_,hP _ _ _ p4 o5,oa.trans o5⟩
    unfold MSt
    simp -implicitDefEqProofs (maxDischargeDepth:=12) only [WZ,seval,hp4]
  · simp -implicitDefEqProofs (maxDischargeDepth:=12) only [tI_exit,WZ,seval,hp4,cr_nil,i0,i1]
    have o5 : Only [m] H4 (H4.put m (some (.cells [a0,a1,a2,a3,a4,a5,a6,a7,.sc .nils,.sc (.str ⟨#[]⟩),.sc (.int .i64 (st' : Int)),O',.slice B' 0 0 2 1,ITS,.sc (.int .i64 e')]))):=by (repeat (first | exact Only.refl | refine Only.put ?_ (by first | (right; omega) | (left; exact List.mem_cons_self ..) | (left; simp [fpS])) | refine Only.alloc ?_))
    refine ⟨.slice B' 0 0 2 1,O',?_,hP _ _ _ p4 o5,oa.trans o5⟩
    unfold MSt
    simp -implicitDefEqProofs (maxDischargeDepth:=12) only [WZ,seval,hp4]
theorem ins_itoa : insB prog 248 = true:=by kernel_rfl
theorem eff_itoa (args : List AV) (H : AHeap) : polW.eff 248 args H = itoaEff args H:=rfl
theorem itoaL_len {n : Int} : (itoaL n).length ≤ 21∧itoaL n ≠ []:=by
  have h : ∀ k u,(decF k u).length ≤ k:=by
    intro k
    induction k with
    | zero => intro u; simp [decF]
    | succ k ih =>
      intro u
      simp only [decF]
      split
      · simp
      · have:=ih (u / 10); simp; omega
  have h2 : ∀ k u,decF (k + 1) u ≠ []:=by
    intro k u
    simp only [decF]
    split <;> simp
  unfold itoaL
  split
  · exact ⟨by have:=h 20 n.natAbs; simp; omega,by simp⟩
  · exact ⟨by have:=h 20 n.toNat; omega,h2 19 _⟩
theorem app_text0 {bytes : Nat} {H : AHeap} {l : List UInt8} (hl : l ≠ []) (h1 : l.length ≤ 100) (hb : bytes ≤ 1000) :
    appTo 1 bytes H (.sc .nils) (.sc (.str ⟨l.toArray⟩)) = some (.new (.cells (l.map fun c => .sc (.int .u8 ((c.toNat : Nat) : Int)))) fun b => .slice b 0 l.length l.length 1):=by
  have hz : (⟨l.toArray⟩ : ByteArray).size = l.length:=by simp [ByteArray.size]
  have e : asrc 1 H (.sc (.str ⟨l.toArray⟩)) l.length = some (l.map fun c => .sc (.int .u8 ((c.toNat : Nat) : Int))):=by
    simp only [asrc,hz]
    rw [if_pos ⟨Nat.le_refl _,trivial⟩]
    simp [List.take_of_length_le]
  have hne : ¬ l.length = 0:=fun q => hl (List.length_eq_zero_iff.1 q)
  have c3 : (2 * l.length + 1000) * bytes ≤ 2 ^ 47:=Nat.le_trans (Nat.mul_le_mul (show 2 * l.length + 1000 ≤ 2 ^ 22 by omega) hb) (by decide)
  unfold appTo
  simp only [alen,hz,Option.bind_some,e,if_neg hne,if_pos c3]
theorem out_ev {b lo st : Nat} {w S : AV} {n : Int} {Q : Nat→AV→AHeap→Prop} (hq : Evals Q n) (hQ : Q lo w H) (h : MSt m a0 a1 a2 a3 a4 a5 a6 a7 st (.sc .nils) S ITS 0 H) (hb : H.cells b = some [.sc (.bool false),.sc (.str ⟨#[]⟩),w])
    (h1 : -9223372036854775808 ≤ n) (h2 : n ≤ 9223372036854775807) :
    Ev prog polW (.call 636 [.ptr b 0,.ptr m 0]) H fun o H' => ∃ v,o = .val v∧v = .tup []∧∃ O',MSt m a0 a1 a2 a3 a4 a5 a6 a7 st O' S ITS 0 H'∧OutIs H.next (itoaL n ++ [10]) O' H'∧Only [m] H H':=by
  have lm:=cells_lt (show H.cells m = _ from h)
  refine wpF_ok ok636 ?_
  obtain ⟨f1,as1,hc1,hp1,e1⟩:=hq lo w H m _ _ _ _ _ _ _ _ _ _ _ _ hQ h
  simp -implicitDefEqProofs (maxDischargeDepth:=12) only [wpF,cf636,WZ,seval,hb,hc1]
  refine wA_call hp1 (e1.mono ?_)
  rintro o H1 ⟨v,rfl,rfl,o1⟩
  refine ⟨_,rfl,fun c hc => by simp at hc,?_⟩
  have g1:=h.only o1
  have hm1 : H1.cells m = _:=g1
  have he : ∀ H0,polW.eff 248 [.sc (.int .i64 n)] H0 = some (.sc (.str ⟨(itoaL n).toArray⟩),H0):=fun H0 => by
    rw [eff_itoa]
    simp only [itoaEff,h1,h2,and_self,if_true]
  simp -implicitDefEqProofs (maxDischargeDepth:=12) only [WZ,seval]
  refine wA_call rfl (ev_eff ins_itoa (he _) ⟨_,rfl,fun c hc => by simp at hc,?_⟩)
  have hz : (⟨(itoaL n).toArray⟩ : ByteArray).size = (itoaL n).length:=by simp [ByteArray.size]
  have hlen:=itoaL_len (n:=n)
  have w1 : IntKind.i64.wrap (0 + ((itoaL n).length : Int)) = ((itoaL n).length : Int):=by rw [w64 (by omega) (by omega)]; omega
  have w2 : IntKind.i64.wrap (((itoaL n).length : Int) + 1) = (((itoaL n).length + 1 : Nat) : Int):=by rw [w64 (by omega) (by omega)]; omega
  have c1 : ¬ (65536 : Int) < (((itoaL n).length + 1 : Nat) : Int):=by omega
  simp -implicitDefEqProofs (maxDischargeDepth:=12) only [WZ,seval,hm1,hz,w1,w2,c1,gt_iff_lt]
  rw [app_text0 hlen.2 (by omega) (by decide)]
  have lm1:=cells_lt hm1
  have n1 : ¬ m = H1.next:=by omega
  have n2 : ¬ m = H1.next + 1:=by omega
  have n3 : ¬ m = H1.next + 1 + 1:=by omega
  have n4 : ¬ H1.next = H1.next + 1:=by omega
  simp -implicitDefEqProofs (maxDischargeDepth:=12) only [WZ,seval,hm1,n1,n2]
  rw [appn_cons (n:=1) (bytes:=1) (b':=H1.next + 1) (m:=(itoaL n).length) (B:=H1.next) (xs:=[.sc (.int .u8 10)]) (cs:=(itoaL n).map fun c => .sc (.int .u8 ((c.toNat : Nat) : Int))) (by simp -implicitDefEqProofs (maxDischargeDepth:=12) only [WZ,seval]) rfl (by simp -implicitDefEqProofs (maxDischargeDepth:=12) only [WZ,seval,n4]) (by simp) (by omega) (by decide)]
  simp -implicitDefEqProofs (maxDischargeDepth:=12) only [WZ,seval,hm1,n1,n2,n3,n4,h_putn,cr_nil]
  have hc : (itoaL n ++ [10]).map (fun c : UInt8 => AV.sc (.int .u8 ((c.toNat : Nat) : Int))) = (itoaL n).map (fun c : UInt8 => AV.sc (.int .u8 ((c.toNat : Nat) : Int))) ++ [.sc (.int .u8 10)]:=by simp
  refine ⟨.slice (H1.next + 1 + 1) 0 ((itoaL n).length + 1) ((itoaL n).length + 1) 1,?_,.inr ⟨H1.next + 1 + 1,by have:=o1.next; omega,by rw [List.length_append]; rfl,by simp,?_⟩,(o1.mono (bs:=[m]) (fun b hb => by cases hb)).trans (Only.put (Only.alloc (Only.put (Only.alloc (Only.alloc Only.refl)) (.inr (Nat.le_refl _)))) (.inl (by simp)))⟩
  · unfold MSt
    simp -implicitDefEqProofs (maxDischargeDepth:=12) only [WZ,seval,hm1,n1,n2,n3,n4,h_putn]
  · rw [hc]
    simp -implicitDefEqProofs (maxDischargeDepth:=12) only [WZ,seval,hm1,n1,n2,n3,n4,h_putn,show ¬ H1.next + 1 + 1 = m by omega]
end
end Go.Hem
namespace Go.Hem
def s0V : AV:=.agg [.sc (.str ⟨#[]⟩),.sc (.bool false),.sc .nils,.sc .nils,.sc .nils,.sc .nils]
def r0V : AV:=.agg [.sc .nils,.sc (.str ⟨#[]⟩),.sc (.int .i64 0)]
theorem s_strb {P : Program} {t : List AV} {H : AHeap} {x : Operand} : csem P t H (.strb x) = (strBytes H (aev t x)).map .val:=rfl
theorem bn1 {b : Nat} : bnilOf false .ptr (.ptr b 0) (.sc .nilp) = some (.sc (.bool false)):=rfl
theorem out_fails {m : Nat} {a0 a1 a2 a3 a4 a5 a6 a7 ITS : AV} {H : AHeap} {b lo st : Nat} {w S : AV} {e : Int} {Q : Nat→AV→AHeap→Prop} (hq : FailsE Q e) (he : ¬ e = 0) (hQ : Q lo w H) (h : MSt m a0 a1 a2 a3 a4 a5 a6 a7 st (.sc .nils) S ITS 0 H) (hb : H.cells b = some [.sc (.bool false),.sc (.str ⟨#[]⟩),w]) (hbm : b ≠ m) :
    Ev prog polW (.call 636 [.ptr b 0,.ptr m 0]) H fun o H' => ∃ v,o = .val v∧v = .tup []∧MSt m a0 a1 a2 a3 a4 a5 a6 a7 st (.sc .nils) S ITS e H'∧Only [m] H H':=by
  refine wpF_ok ok636 ?_
  obtain ⟨f1,as1,hc1,hp1,e1⟩:=hq lo w H m _ _ _ _ _ _ _ _ _ _ _ _ hQ h
  simp -implicitDefEqProofs (maxDischargeDepth:=12) only [wpF,cf636,WZ,seval,hb,hc1]
  refine wA_call hp1 (e1.mono ?_)
  rintro o H1 ⟨v,rfl,rfl,g1,o1⟩
  refine ⟨_,rfl,fun c hc => by simp at hc,?_⟩
  have hm1 : H1.cells m = _:=g1
  have hz : ∀ H0,polW.eff 248 [.sc (.int .i64 0)] H0 = some (.sc (.str ⟨(itoaL 0).toArray⟩),H0):=fun H0 => by
    rw [eff_itoa]
    simp only [itoaEff]
    rw [if_pos ⟨by decide,by decide⟩]
  simp -implicitDefEqProofs (maxDischargeDepth:=12) only [WZ,seval]
  refine wA_call rfl (ev_eff ins_itoa (hz _) ⟨_,rfl,fun c hc => by simp at hc,?_⟩)
  simp -implicitDefEqProofs (maxDischargeDepth:=12) only [WZ,seval,hm1,he,cr_nil]
  exact ⟨g1,o1⟩
section
variable (a b e : Sc) (c d f : List AV)
theorem Run_one (hz : AV.ones [.sc a,.sc b,.imm c,.imm d,.sc e,.imm f] = true) (hv : Pv prog polW 18 [(.agg [.sc a,.sc b,.imm c,.imm d,.sc e,.imm f])] (.sc (.bool true))) (hcl : Pv prog polW 19 [(.agg [.sc a,.sc b,.imm c,.imm d,.sc e,.imm f])] (.agg [.sc a,.sc b,.imm c,.imm d,.sc e,.imm f]))
    {pb Bl bb st' : Nat} {TK : AV} {T : TypeId} {g : FuncId} {e' : Int} {l : List UInt8} {H : AHeap} (hp : H.cells pb = some [TK,.slice Bl 0 1 1 1]) (hl : H.cells Bl = some [.iface T (.ptr bb 0)]) (hT : Exec T g)
    (k : ∀ m H1 B w0,H.next ≤ m→m < B→Only [] H H1→MSt m (.sc a) (.sc b) (.imm c) (.imm d) (.sc e) (.imm f) (.sc (.int .i64 1)) (.sc (.int .i64 1)) 1 (.sc .nils) (.slice B 0 1 1 1) (.sc .nils) 0 H1→H1.cells B = some [w0] →
      Ev prog polW (.call g [.ptr bb 0,.ptr m 0]) H1 fun o H' => ∃ v,o = .val v∧v = .tup []∧∃ B' S' O',MSt m (.sc a) (.sc b) (.imm c) (.imm d) (.sc e) (.imm f) (.sc (.int .i64 1)) (.sc (.int .i64 1)) st' O' S' (.sc .nils) e' H'∧ScpIs w0 B' S' H'∧Only [m,B] H1 H'∧OutIs (m + 1) l O' H') :
    Ev prog polW (.call 9 [.ptr pb 0,(.agg [.sc a,.sc b,.imm c,.imm d,.sc e,.imm f]),.sc (.int .i64 1),.sc (.int .i64 1)]) H fun o H' => ∃ v,o = .val v∧v = (if e' = 0 then .tup [(.agg [.sc a,.sc b,.imm c,.imm d,.sc e,.imm f]),.agg [.sc .nils,.sc (.str ⟨l.toArray⟩),.sc (.int .i64 (st' : Int))],.sc (.int .i64 0)] else .tup [s0V,r0V,.sc (.int .i64 e')]):=by
  have n1 : ¬ H.next = H.next + 1:=by omega
  have n2 : ¬ H.next = H.next + 1 + 1:=by omega
  have n3 : ¬ H.next + 1 = H.next + 1 + 1:=by omega
  have n4 : ¬ H.next + 1 + 1 = H.next + 1:=by omega
  have n5 : ¬ H.next + 1 = H.next:=by omega
  have n6 : ¬ H.next + 1 + 1 = H.next:=by omega
  have lp:=cells_lt hp
  have ll:=cells_lt hl
  refine wpF_ok ok9 ?_
  simp -implicitDefEqProofs (maxDischargeDepth:=12) only [wpF,cf9,WZ,seval,bn1,hz,n1,n2,n3]
  refine wA_pure rfl hv ?_
  simp -implicitDefEqProofs (maxDischargeDepth:=12) only [WZ,seval,n1,n2,n3]
  refine wA_pure rfl hcl ?_
  have ha : AV.one (.sc a) = true:=by have h:=hz; rw [os_cons,Bool.and_eq_true] at h; exact h.1
  have hb1 : AV.one (.sc b) = true:=by have h:=hz; rw [os_cons,Bool.and_eq_true,os_cons,Bool.and_eq_true] at h; exact h.2.1
  have he1 : AV.one (.sc e) = true:=by have h:=hz; simp only [os_cons,Bool.and_eq_true] at h; exact h.2.2.2.2.1
  simp -implicitDefEqProofs (maxDischargeDepth:=12) only [WZ,seval,hz,ha,hb1,he1,n1,n2,n3,hp,show ¬ pb = H.next by omega,show ¬ pb = H.next + 1 by omega,show ¬ pb = H.next + 1 + 1 by omega,show ¬ pb = H.next + 1 + 1 + 1 by omega]
  have o0 : Only [] H ((((H.alloc (.cells [.sc a,.sc b,.imm c,.imm d,.sc e,.imm f])).alloc (.cells [.sc (.str ⟨#[]⟩),.sc (.bool false),.sc .nils,.sc .nils,.sc .nils,.sc .nils])).alloc (.cells [.sc .nils,.sc (.str ⟨#[]⟩),.sc (.int .i64 0)])).alloc (.cells [.sc a,.sc b,.imm c,.imm d,.sc e,.imm f,.sc (.int .i64 1),.sc (.int .i64 1),.sc .nils,.sc (.str ⟨#[]⟩),.sc (.int .i64 0),.sc .nils,.sc .nils,.sc .nils,.sc (.int .i64 0)])):=by (repeat (first | exact Only.refl | refine Only.put ?_ (by first | (right; omega) | (left; exact List.mem_cons_self ..) | (left; simp [fpS])) | refine Only.alloc ?_))
  have g0 : MSt (H.next + 1 + 1 + 1) (.sc a) (.sc b) (.imm c) (.imm d) (.sc e) (.imm f) (.sc (.int .i64 1)) (.sc (.int .i64 1)) 0 (.sc .nils) (.sc .nils) (.sc .nils) 0 ((((H.alloc (.cells [.sc a,.sc b,.imm c,.imm d,.sc e,.imm f])).alloc (.cells [.sc (.str ⟨#[]⟩),.sc (.bool false),.sc .nils,.sc .nils,.sc .nils,.sc .nils])).alloc (.cells [.sc .nils,.sc (.str ⟨#[]⟩),.sc (.int .i64 0)])).alloc (.cells [.sc a,.sc b,.imm c,.imm d,.sc e,.imm f,.sc (.int .i64 1),.sc (.int .i64 1),.sc .nils,.sc (.str ⟨#[]⟩),.sc (.int .i64 0),.sc .nils,.sc .nils,.sc .nils,.sc (.int .i64 0)])):=by
    unfold MSt
    simp -implicitDefEqProofs (maxDischargeDepth:=12) only [WZ,seval]
  have hl0:=(o0.cells Bl ll (by simp)).trans hl
  have y1 : ((((H.alloc (.cells [.sc a,.sc b,.imm c,.imm d,.sc e,.imm f])).alloc (.cells [.sc (.str ⟨#[]⟩),.sc (.bool false),.sc .nils,.sc .nils,.sc .nils,.sc .nils])).alloc (.cells [.sc .nils,.sc (.str ⟨#[]⟩),.sc (.int .i64 0)])).alloc (.cells [.sc a,.sc b,.imm c,.imm d,.sc e,.imm f,.sc (.int .i64 1),.sc (.int .i64 1),.sc .nils,.sc (.str ⟨#[]⟩),.sc (.int .i64 0),.sc .nils,.sc .nils,.sc .nils,.sc (.int .i64 0)])).cells (H.next + 1) = some [.sc (.str ⟨#[]⟩),.sc (.bool false),.sc .nils,.sc .nils,.sc .nils,.sc .nils]:=by
    simp -implicitDefEqProofs (maxDischargeDepth:=12) only [WZ,seval,n3,show ¬ H.next + 1 = H.next + 1 + 1 + 1 by omega]
  have y2 : ((((H.alloc (.cells [.sc a,.sc b,.imm c,.imm d,.sc e,.imm f])).alloc (.cells [.sc (.str ⟨#[]⟩),.sc (.bool false),.sc .nils,.sc .nils,.sc .nils,.sc .nils])).alloc (.cells [.sc .nils,.sc (.str ⟨#[]⟩),.sc (.int .i64 0)])).alloc (.cells [.sc a,.sc b,.imm c,.imm d,.sc e,.imm f,.sc (.int .i64 1),.sc (.int .i64 1),.sc .nils,.sc (.str ⟨#[]⟩),.sc (.int .i64 0),.sc .nils,.sc .nils,.sc .nils,.sc (.int .i64 0)])).cells (H.next + 1 + 1) = some [.sc .nils,.sc (.str ⟨#[]⟩),.sc (.int .i64 0)]:=by
    simp -implicitDefEqProofs (maxDischargeDepth:=12) only [WZ,seval,show ¬ H.next + 1 + 1 = H.next + 1 + 1 + 1 by omega]
  have nx : ((((H.alloc (.cells [.sc a,.sc b,.imm c,.imm d,.sc e,.imm f])).alloc (.cells [.sc (.str ⟨#[]⟩),.sc (.bool false),.sc .nils,.sc .nils,.sc .nils,.sc .nils])).alloc (.cells [.sc .nils,.sc (.str ⟨#[]⟩),.sc (.int .i64 0)])).alloc (.cells [.sc a,.sc b,.imm c,.imm d,.sc e,.imm f,.sc (.int .i64 1),.sc (.int .i64 1),.sc .nils,.sc (.str ⟨#[]⟩),.sc (.int .i64 0),.sc .nils,.sc .nils,.sc .nils,.sc (.int .i64 0)])).next = H.next + 1 + 1 + 1 + 1:=by simp
  generalize ((((H.alloc (.cells [.sc a,.sc b,.imm c,.imm d,.sc e,.imm f])).alloc (.cells [.sc (.str ⟨#[]⟩),.sc (.bool false),.sc .nils,.sc .nils,.sc .nils,.sc .nils])).alloc (.cells [.sc .nils,.sc (.str ⟨#[]⟩),.sc (.int .i64 0)])).alloc (.cells [.sc a,.sc b,.imm c,.imm d,.sc e,.imm f,.sc (.int .i64 1),.sc (.int .i64 1),.sc .nils,.sc (.str ⟨#[]⟩),.sc (.int .i64 0),.sc .nils,.sc .nils,.sc .nils,.sc (.int .i64 0)])) = H1 at o0 g0 hl0 y1 y2 nx ⊢
  refine wA_call rfl ((run_one (PO:=fun O K => OutIs (H.next + 1 + 1 + 1 + 1) l O K) g0 (by decide) hl0 (by omega) hT (fun O K1 K2 hO o => hO.only o (fun b hb => by simp at hb; omega)) (fun K1 B w0 o1 hB g x => k _ K1 B w0 (by omega) (by omega) (o0.then o1 (fun b hb => by simp at hb; right; omega)) g x)).mono ?_)
  rintro o H2 ⟨v,rfl,rfl,S',O',g2,p2,o2⟩
  have z1:=(o2.cells _ (by omega) (by simp)).trans y1
  have z2:=(o2.cells _ (by omega) (by simp)).trans y2
  have hm2 : H2.cells (H.next + 1 + 1 + 1) = _:=g2
  refine ⟨_,rfl,fun c hc => by simp at hc,?_⟩
  by_cases ce : e' = 0
  · subst ce
    simp -implicitDefEqProofs (maxDischargeDepth:=12) only [WZ,seval,hm2,s_strb,p2.bytes,z1,z2,ha,hb1,he1,show ¬ H.next = H.next + 2 by omega,show ¬ H.next = H.next + 1 by omega,show ¬ H.next + 1 = H.next by omega,show ¬ H.next + 2 = H.next by omega]
  · simp -implicitDefEqProofs (maxDischargeDepth:=12) only [WZ,seval,hm2,ce,z1,z2,show ¬ H.next = H.next + 2 by omega,show ¬ H.next = H.next + 1 by omega,show ¬ H.next + 1 = H.next by omega,show ¬ H.next + 2 = H.next by omega]
    rfl
end
end Go.Hem
namespace Go.Hem
def Failed (p : Nat) (col e : Int) (H : AHeap) : Prop:=∃ (T A : AV) (N : Int) (L SC KW : AV),PErr p T A (.sc (.int .i64 N)) L SC KW (.sc (.int .i64 1)) (.sc (.int .i64 col)) e H
def Lf (f : FuncId) (p BT : Nat) (toks : List TkD) (N L : Int) (bk bsc b0 : Nat) (kws vars : List ByteArray) (i : Nat) (col e : Int) : Prop :=
  ∀ H,PSt p BT toks i N L (.slice bsc 0 1 1 1) (.map bk) H→PEn p bk bsc b0 kws vars H→Ev prog polW (.call f [.ptr p 0]) H fun o H' => ∃ v,o = .val v∧AV.one v = true∧v.cells = [v]∧Failed p col e H'∧Only [p] H H'
theorem Only.nil {bs : List Nat} {H H' : AHeap} (o : Only [] H H') : Only bs H H':=o.mono (fun b hb => by cases hb)
section
variable {p : Nat} {T A L SC KW LN CO : AV} {N e : Int} {H : AHeap}
theorem shut_fld (f : PErr p T A (.sc (.int .i64 N)) L SC KW LN CO e H) (he : ¬ e = 0) (s : ByteArray) : Ev prog polW (.call 68 [.ptr p 0,.sc (.str s)]) H fun o H' => ∃ v,o = .val v∧v = .tup []∧PErr p T A (.sc (.int .i64 (IntKind.i64.wrap (N - 1)))) L SC KW LN CO e H'∧Only [p] H H':=by
  refine wpF_ok ok68 ?_
  simp -implicitDefEqProofs (maxDischargeDepth:=12) only [wpF,cf68,WZ,seval]
  refine wA_call rfl ((expect_err f he s).mono ?_)
  rintro o H1 ⟨v,rfl,rfl,oH1⟩
  refine ⟨_,rfl,fun c hc => by simp at hc,?_⟩
  have fH1:=(f).only oH1
  simp -implicitDefEqProofs (maxDischargeDepth:=12) only [WI,seval]
  have hp1 : H1.cells p = _:=fH1
  simp -implicitDefEqProofs (maxDischargeDepth:=12) only [WZ,seval,hp1,cr_nil]
  refine ⟨?_,(Only.nil oH1).trans (by (repeat (first | exact Only.refl | refine Only.put ?_ (by first | (right; omega) | (left; exact List.mem_cons_self ..) | (left; simp [fpS])) | refine Only.alloc ?_)))⟩
  unfold PErr
  simp -implicitDefEqProofs (maxDischargeDepth:=12) only [WZ,seval,hp1]
end
section
variable {p BT : Nat} {toks : List TkD} {N L : Int} {bk bsc b0 : Nat} {kws vars : List ByteArray} {i j k : Nat} {col e : Int} {t t2 : TkD}
theorem number_out {SC KW : AV} {H : AHeap} (h : PSt p BT toks i N L SC KW H) (ht : toks[i]? = some t) (lo hi : Int) (hk : t.k = 2) (h1 : ¬ t.v < lo) (h2 : hi < t.v) : Ev prog polW (.call 141 [.ptr p 0,.sc (.int .i64 lo),.sc (.int .i64 hi)]) H fun o H' => ∃ v,o = .val v∧v = .sc (.int .i64 0)∧PErr p (.slice BT 0 toks.length toks.length 7) (.sc (.int .i64 (i : Int))) (.sc (.int .i64 N)) (.sc (.int .i64 L)) SC KW (.sc (.int .i64 1)) (.sc (.int .i64 t.col)) 2 H'∧Only [p] H H':=by
  refine wpF_ok ok141 ?_
  simp -implicitDefEqProofs (maxDischargeDepth:=12) only [wpF,cf141,WZ,seval]
  refine wA_call rfl ((peek_ev h ht).mono ?_)
  rintro o H1 ⟨v,rfl,rfl,ho⟩
  refine ⟨_,rfl,fun c hc => by simp at hc,?_⟩
  have g1:=h.only ho (by simp) (by simp)
  have ho2 : Only [] H1 ((H1.alloc (.cells tk0)).put H1.next (some (.cells t.cells))):=by (repeat (first | exact Only.refl | refine Only.put ?_ (by first | (right; omega) | (left; exact List.mem_cons_self ..) | (left; simp [fpS])) | refine Only.alloc ?_))
  have g2:=g1.only ho2 (by simp) (by simp)
  have hp:=g1.cells
  have lp:=cells_lt hp
  simp -implicitDefEqProofs (maxDischargeDepth:=12) only [WZ,seval,TkD.cells,hk,h1,h2,hp,gt_iff_lt]
  simp only [TkD.cells,tk0] at g2 ho2
  rw [hk] at g2 ho2
  refine wA_call rfl ((fail_ev g2 ht 2).mono ?_)
  rintro o H3 ⟨v,rfl,rfl,f3,o3⟩
  refine ⟨_,rfl,fun c hc => by simp at hc,?_⟩
  simp -implicitDefEqProofs (maxDischargeDepth:=12) only [WZ,seval]
  exact ⟨f3,((Only.nil ho).trans (Only.nil ho2)).trans o3⟩
theorem primary_num_lf (ht : toks[i]? = some t) (hk : t.k = 2) (h1 : ¬ t.v < 0) (h2 : 1099511627776 < t.v) : Lf 510 p BT toks N L bk bsc b0 kws vars i t.col 2:=by
  intro H h e
  refine wpF_ok ok510 ?_
  simp -implicitDefEqProofs (maxDischargeDepth:=12) only [wpF,cf510,WZ,seval,ev_fun]
  refine wA_call rfl ((peek_ev h ht).mono ?_)
  rintro o H1 ⟨v,rfl,rfl,ho⟩
  refine ⟨_,rfl,fun c hc => by simp at hc,?_⟩
  have g1:=h.only ho (by simp) (by simp)
  simp -implicitDefEqProofs (maxDischargeDepth:=12) only [WZ,seval,TkD.cells,hk]
  refine wA_call rfl ((number_out g1 ht 0 1099511627776 hk h1 h2).mono ?_)
  rintro o H2 ⟨v,rfl,rfl,f2,o2⟩
  refine ⟨_,rfl,fun c hc => by simp at hc,?_⟩
  simp -implicitDefEqProofs (maxDischargeDepth:=12) only [WZ,seval]
  have o3 : Only [] H2 ((H2.alloc (.cells [.sc (.int .i64 0)])).put H2.next (some (.cells [.sc (.int .i64 0)]))):=by (repeat (first | exact Only.refl | refine Only.put ?_ (by first | (right; omega) | (left; exact List.mem_cons_self ..) | (left; simp [fpS])) | refine Only.alloc ?_))
  exact ⟨⟨_,_,_,_,_,_,f2.only o3⟩,((Only.nil ho).trans o2).trans (Only.nil o3)⟩
theorem primary_par_lf (he : ¬ e = 0) (ht : toks[i]? = some t) (hs : IsSym t 40) (h0 : 0 ≤ N) (h16 : N < 16) (k : Lf 27 p BT toks (N + 1) L bk bsc b0 kws vars (i + 1) col e) : Lf 510 p BT toks N L bk bsc b0 kws vars i col e:=by
  intro H h en
  refine wpF_ok ok510 ?_
  simp -implicitDefEqProofs (maxDischargeDepth:=12) only [wpF,cf510,WZ,seval,ev_fun]
  refine wA_call rfl ((peek_ev h ht).mono ?_)
  rintro o H1 ⟨v,rfl,rfl,ho⟩
  refine ⟨_,rfl,fun c hc => by simp at hc,?_⟩
  have g1:=h.only ho (by simp) (by simp)
  have o1 : Only [p] H H1:=ho.mono (fun b hb => by cases hb)
  have e1:=en.p o1
  have a1 : isB t ⟨#[105,116]⟩ = false:=hs.wd 105 116 []
  have a2 : isB t ⟨#[99,111,117,110,116]⟩ = false:=hs.wd 99 111 [117,110,116]
  have a3 : isB t ⟨#[40]⟩ = true:=by rw [hs.is]; rfl
  simp -implicitDefEqProofs (maxDischargeDepth:=12) only [WZ,seval,TkD.cells,hs.k,show ¬ (4 : Int) = 2 by decide]
  refine wA_call rfl ((is_ev g1 ht _).mono ?_)
  rintro o H2 ⟨v,rfl,rfl,ho2⟩
  refine ⟨_,rfl,fun c hc => by simp at hc,?_⟩
  have g2:=g1.only ho2 (by simp) (by simp)
  have o2 : Only [p] H1 H2:=ho2.mono (fun b hb => by cases hb)
  have e2:=e1.p o2
  simp -implicitDefEqProofs (maxDischargeDepth:=12) only [WZ,seval,a1]
  refine wA_call rfl ((acc_no g2 e2 ht _ a2).mono ?_)
  rintro o H3 ⟨v,rfl,rfl,hH3,eH3,oH3⟩
  refine ⟨_,rfl,fun c hc => by simp at hc,?_⟩
  simp -implicitDefEqProofs (maxDischargeDepth:=12) only [WI,seval]
  refine wA_call rfl ((is_ev hH3 ht _).mono ?_)
  rintro o H4 ⟨v,rfl,rfl,ho4⟩
  refine ⟨_,rfl,fun c hc => by simp at hc,?_⟩
  have g4:=hH3.only ho4 (by simp) (by simp)
  have o4 : Only [p] H3 H4:=ho4.mono (fun b hb => by cases hb)
  have e4:=eH3.p o4
  have oz:=((o1.trans o2).trans oH3).trans o4
  simp -implicitDefEqProofs (maxDischargeDepth:=12) only [WZ,seval,a3]
  refine wA_call rfl ((open_ev g4 ht _ a3 h0 h16).mono ?_)
  rintro o H5 ⟨v,rfl,rfl,g5,o5⟩
  refine ⟨_,rfl,fun c hc => by simp at hc,?_⟩
  have e5:=e4.p o5
  simp -implicitDefEqProofs (maxDischargeDepth:=12) only [WZ,seval]
  refine wA_call rfl ((k _ g5 e5).mono ?_)
  rintro o G ⟨wG,rfl,h1G,hcG,⟨TT,AA,NN,LL,SS,KK,fG⟩,oG⟩
  refine ⟨_,rfl,fun c hc => by simp at hc,?_⟩
  simp -implicitDefEqProofs (maxDischargeDepth:=12) only [WI,seval,h1G,hcG]
  refine wA_call rfl ((shut_fld fG he _).mono ?_)
  rintro o H7 ⟨v,rfl,rfl,f7,o7⟩
  refine ⟨_,rfl,fun c hc => by simp at hc,?_⟩
  simp -implicitDefEqProofs (maxDischargeDepth:=12) only [WZ,seval,h1G,hcG]
  exact ⟨⟨_,_,_,_,_,_,f7⟩,((oz.trans o5).trans oG).trans o7⟩
theorem unary_lf (ht : toks[i]? = some t) (h1 : isB t ⟨#[45]⟩ = false) (k : Lf 510 p BT toks N L bk bsc b0 kws vars i col e) : Lf 458 p BT toks N L bk bsc b0 kws vars i col e:=by
  intro H h en
  refine wpF_ok ok458 ?_
  simp -implicitDefEqProofs (maxDischargeDepth:=12) only [wpF,cf458,WZ,seval]
  refine wA_call rfl ((acc_no h en ht _ h1).mono ?_)
  rintro o H1 ⟨v,rfl,rfl,hH1,eH1,oH1⟩
  refine ⟨_,rfl,fun c hc => by simp at hc,?_⟩
  simp -implicitDefEqProofs (maxDischargeDepth:=12) only [WI,seval]
  refine wA_call rfl ((k _ hH1 eH1).mono ?_)
  rintro o G ⟨wG,rfl,h1G,hcG,⟨TT,AA,NN,LL,SS,KK,fG⟩,oG⟩
  refine ⟨_,rfl,fun c hc => by simp at hc,?_⟩
  simp -implicitDefEqProofs (maxDischargeDepth:=12) only [WI,seval,h1G,hcG]
  exact ⟨⟨_,_,_,_,_,_,fG⟩,oH1.trans oG⟩
theorem unary_neg_lf (ht : toks[i]? = some t) (h1 : isB t ⟨#[45]⟩ = true) (k : Lf 458 p BT toks N L bk bsc b0 kws vars (i + 1) col e) : Lf 458 p BT toks N L bk bsc b0 kws vars i col e:=by
  intro H h en
  refine wpF_ok ok458 ?_
  simp -implicitDefEqProofs (maxDischargeDepth:=12) only [wpF,cf458,WZ,seval]
  refine wA_call rfl ((acc_yes h en ht _ h1).mono ?_)
  rintro o H1 ⟨v,rfl,rfl,hH1,eH1,oH1⟩
  refine ⟨_,rfl,fun c hc => by simp at hc,?_⟩
  simp -implicitDefEqProofs (maxDischargeDepth:=12) only [WI,seval]
  refine wA_call rfl ((k _ hH1 eH1).mono ?_)
  rintro o G ⟨wG,rfl,h1G,hcG,⟨TT,AA,NN,LL,SS,KK,fG⟩,oG⟩
  refine ⟨_,rfl,fun c hc => by simp at hc,?_⟩
  simp -implicitDefEqProofs (maxDischargeDepth:=12) only [WI,seval,h1G,hcG]
  have os : AV.ones [wG] = true:=by rw [os_cons,h1G]; rfl
  have o3 : Only [] G ((G.alloc (.cells [.sc .nilf])).put G.next (some (.cells [wG]))):=by (repeat (first | exact Only.refl | refine Only.put ?_ (by first | (right; omega) | (left; exact List.mem_cons_self ..) | (left; simp [fpS])) | refine Only.alloc ?_))
  exact ⟨⟨_,_,_,_,_,_,fG.only o3⟩,(oH1.trans oG).trans (Only.nil o3)⟩
theorem product_lf (he : ¬ e = 0) (k : Lf 458 p BT toks N L bk bsc b0 kws vars i col e) : Lf 401 p BT toks N L bk bsc b0 kws vars i col e:=by
  intro H h en
  refine wpF_ok ok401 ?_
  simp -implicitDefEqProofs (maxDischargeDepth:=12) only [wpF,cf401,WZ,seval]
  refine wA_call rfl ((k _ h en).mono ?_)
  rintro o G ⟨wG,rfl,h1G,hcG,⟨TT,AA,NN,LL,SS,KK,fG⟩,oG⟩
  refine ⟨_,rfl,fun c hc => by simp at hc,?_⟩
  simp -implicitDefEqProofs (maxDischargeDepth:=12) only [WI,seval,h1G,hcG]
  refine wp_unroll 2 ?_
  simp -implicitDefEqProofs (maxDischargeDepth:=12) only [WZ,seval]
  refine wA_call rfl ((accept_err fG he _).mono ?_)
  rintro o H2 ⟨v,rfl,rfl,oH2⟩
  refine ⟨_,rfl,fun c hc => by simp at hc,?_⟩
  have fH2:=(fG).only oH2
  simp -implicitDefEqProofs (maxDischargeDepth:=12) only [WI,seval]
  refine wA_call rfl ((accept_err fH2 he _).mono ?_)
  rintro o H3 ⟨v,rfl,rfl,oH3⟩
  refine ⟨_,rfl,fun c hc => by simp at hc,?_⟩
  have fH3:=(fH2).only oH3
  simp -implicitDefEqProofs (maxDischargeDepth:=12) only [WI,seval]
  refine wA_call rfl ((accept_err fH3 he _).mono ?_)
  rintro o H4 ⟨v,rfl,rfl,oH4⟩
  refine ⟨_,rfl,fun c hc => by simp at hc,?_⟩
  have fH4:=(fH3).only oH4
  simp -implicitDefEqProofs (maxDischargeDepth:=12) only [WI,seval]
  exact ⟨h1G,hcG,⟨_,_,_,_,_,_,fH4⟩,oG.trans (Only.nil ((oH2.trans oH3).trans oH4))⟩
theorem sum_lf (he : ¬ e = 0) (k : Lf 401 p BT toks N L bk bsc b0 kws vars i col e) : Lf 311 p BT toks N L bk bsc b0 kws vars i col e:=by
  intro H h en
  refine wpF_ok ok311 ?_
  simp -implicitDefEqProofs (maxDischargeDepth:=12) only [wpF,cf311,WZ,seval]
  refine wA_call rfl ((k _ h en).mono ?_)
  rintro o G ⟨wG,rfl,h1G,hcG,⟨TT,AA,NN,LL,SS,KK,fG⟩,oG⟩
  refine ⟨_,rfl,fun c hc => by simp at hc,?_⟩
  simp -implicitDefEqProofs (maxDischargeDepth:=12) only [WI,seval,h1G,hcG]
  refine wp_unroll 2 ?_
  simp -implicitDefEqProofs (maxDischargeDepth:=12) only [WZ,seval]
  refine wA_call rfl ((accept_err fG he _).mono ?_)
  rintro o H2 ⟨v,rfl,rfl,oH2⟩
  refine ⟨_,rfl,fun c hc => by simp at hc,?_⟩
  have fH2:=(fG).only oH2
  simp -implicitDefEqProofs (maxDischargeDepth:=12) only [WI,seval]
  refine wA_call rfl ((accept_err fH2 he _).mono ?_)
  rintro o H3 ⟨v,rfl,rfl,oH3⟩
  refine ⟨_,rfl,fun c hc => by simp at hc,?_⟩
  have fH3:=(fH2).only oH3
  simp -implicitDefEqProofs (maxDischargeDepth:=12) only [WI,seval]
  exact ⟨h1G,hcG,⟨_,_,_,_,_,_,fH3⟩,oG.trans (Only.nil (oH2.trans oH3))⟩
theorem comparison_lf (he : ¬ e = 0) (k : Lf 311 p BT toks N L bk bsc b0 kws vars i col e) : Lf 215 p BT toks N L bk bsc b0 kws vars i col e:=by
  intro H h en
  refine wpF_ok ok215 ?_
  simp -implicitDefEqProofs (maxDischargeDepth:=12) only [wpF,cf215,WZ,seval]
  refine wA_call rfl ((k _ h en).mono ?_)
  rintro o G ⟨wG,rfl,h1G,hcG,⟨TT,AA,NN,LL,SS,KK,fG⟩,oG⟩
  refine ⟨_,rfl,fun c hc => by simp at hc,?_⟩
  simp -implicitDefEqProofs (maxDischargeDepth:=12) only [WI,seval,h1G,hcG]
  have o1 : Only [] G (G.alloc (.cells [.sc .nilf])):=by (repeat (first | exact Only.refl | refine Only.put ?_ (by first | (right; omega) | (left; exact List.mem_cons_self ..) | (left; simp [fpS])) | refine Only.alloc ?_))
  have f1:=fG.only o1
  refine wA_call rfl ((pair_err f1 he _ _).mono ?_)
  rintro o H2 ⟨v,rfl,rfl,oH2⟩
  refine ⟨_,rfl,fun c hc => by simp at hc,?_⟩
  have fH2:=(f1).only oH2
  simp -implicitDefEqProofs (maxDischargeDepth:=12) only [WI,seval]
  refine wA_call rfl ((pair_err fH2 he _ _).mono ?_)
  rintro o H3 ⟨v,rfl,rfl,oH3⟩
  refine ⟨_,rfl,fun c hc => by simp at hc,?_⟩
  have fH3:=(fH2).only oH3
  simp -implicitDefEqProofs (maxDischargeDepth:=12) only [WI,seval]
  refine wA_call rfl ((pair_err fH3 he _ _).mono ?_)
  rintro o H4 ⟨v,rfl,rfl,oH4⟩
  refine ⟨_,rfl,fun c hc => by simp at hc,?_⟩
  have fH4:=(fH3).only oH4
  simp -implicitDefEqProofs (maxDischargeDepth:=12) only [WI,seval]
  refine wA_call rfl ((pair_err fH4 he _ _).mono ?_)
  rintro o H5 ⟨v,rfl,rfl,oH5⟩
  refine ⟨_,rfl,fun c hc => by simp at hc,?_⟩
  have fH5:=(fH4).only oH5
  simp -implicitDefEqProofs (maxDischargeDepth:=12) only [WI,seval]
  refine wA_call rfl ((accept_err fH5 he _).mono ?_)
  rintro o H6 ⟨v,rfl,rfl,oH6⟩
  refine ⟨_,rfl,fun c hc => by simp at hc,?_⟩
  have fH6:=(fH5).only oH6
  simp -implicitDefEqProofs (maxDischargeDepth:=12) only [WI,seval]
  refine wA_call rfl ((accept_err fH6 he _).mono ?_)
  rintro o H7 ⟨v,rfl,rfl,oH7⟩
  refine ⟨_,rfl,fun c hc => by simp at hc,?_⟩
  have fH7:=(fH6).only oH7
  simp -implicitDefEqProofs (maxDischargeDepth:=12) only [WI,seval]
  exact ⟨h1G,hcG,⟨_,_,_,_,_,_,fH7⟩,oG.trans (Only.nil ((((((o1.trans oH2).trans oH3).trans oH4).trans oH5).trans oH6).trans oH7))⟩
theorem negation_lf (ht : toks[i]? = some t) (h1 : isB t ⟨#[110,111,116]⟩ = false) (k : Lf 215 p BT toks N L bk bsc b0 kws vars i col e) : Lf 132 p BT toks N L bk bsc b0 kws vars i col e:=by
  intro H h en
  refine wpF_ok ok132 ?_
  simp -implicitDefEqProofs (maxDischargeDepth:=12) only [wpF,cf132,WZ,seval]
  refine wA_call rfl ((acc_no h en ht _ h1).mono ?_)
  rintro o H1 ⟨v,rfl,rfl,hH1,eH1,oH1⟩
  refine ⟨_,rfl,fun c hc => by simp at hc,?_⟩
  simp -implicitDefEqProofs (maxDischargeDepth:=12) only [WI,seval]
  refine wA_call rfl ((k _ hH1 eH1).mono ?_)
  rintro o G ⟨wG,rfl,h1G,hcG,⟨TT,AA,NN,LL,SS,KK,fG⟩,oG⟩
  refine ⟨_,rfl,fun c hc => by simp at hc,?_⟩
  simp -implicitDefEqProofs (maxDischargeDepth:=12) only [WI,seval,h1G,hcG]
  exact ⟨⟨_,_,_,_,_,_,fG⟩,oH1.trans oG⟩
theorem both_lf (he : ¬ e = 0) (k : Lf 132 p BT toks N L bk bsc b0 kws vars i col e) : Lf 63 p BT toks N L bk bsc b0 kws vars i col e:=by
  intro H h en
  refine wpF_ok ok63 ?_
  simp -implicitDefEqProofs (maxDischargeDepth:=12) only [wpF,cf63,WZ,seval]
  refine wA_call rfl ((k _ h en).mono ?_)
  rintro o G ⟨wG,rfl,h1G,hcG,⟨TT,AA,NN,LL,SS,KK,fG⟩,oG⟩
  refine ⟨_,rfl,fun c hc => by simp at hc,?_⟩
  simp -implicitDefEqProofs (maxDischargeDepth:=12) only [WI,seval,h1G,hcG]
  refine wp_unroll 2 ?_
  simp -implicitDefEqProofs (maxDischargeDepth:=12) only [WZ,seval]
  refine wA_call rfl ((accept_err fG he _).mono ?_)
  rintro o H2 ⟨v,rfl,rfl,oH2⟩
  refine ⟨_,rfl,fun c hc => by simp at hc,?_⟩
  have fH2:=(fG).only oH2
  simp -implicitDefEqProofs (maxDischargeDepth:=12) only [WI,seval]
  exact ⟨h1G,hcG,⟨_,_,_,_,_,_,fH2⟩,oG.trans (Only.nil oH2)⟩
theorem expr_lf (he : ¬ e = 0) (k : Lf 63 p BT toks N L bk bsc b0 kws vars i col e) : Lf 27 p BT toks N L bk bsc b0 kws vars i col e:=by
  intro H h en
  refine wpF_ok ok27 ?_
  simp -implicitDefEqProofs (maxDischargeDepth:=12) only [wpF,cf27,WZ,seval]
  refine wA_call rfl ((k _ h en).mono ?_)
  rintro o G ⟨wG,rfl,h1G,hcG,⟨TT,AA,NN,LL,SS,KK,fG⟩,oG⟩
  refine ⟨_,rfl,fun c hc => by simp at hc,?_⟩
  simp -implicitDefEqProofs (maxDischargeDepth:=12) only [WI,seval,h1G,hcG]
  refine wp_unroll 2 ?_
  simp -implicitDefEqProofs (maxDischargeDepth:=12) only [WZ,seval]
  refine wA_call rfl ((accept_err fG he _).mono ?_)
  rintro o H2 ⟨v,rfl,rfl,oH2⟩
  refine ⟨_,rfl,fun c hc => by simp at hc,?_⟩
  have fH2:=(fG).only oH2
  simp -implicitDefEqProofs (maxDischargeDepth:=12) only [WI,seval]
  exact ⟨h1G,hcG,⟨_,_,_,_,_,_,fH2⟩,oG.trans (Only.nil oH2)⟩
end
end Go.Hem
namespace Go.Hem
section
variable {p BT : Nat} {toks : List TkD} {N L : Int} {bk bsc b0 : Nat} {kws vars : List ByteArray} {i j k : Nat} {Q1 : Nat→AV→AHeap→Prop} {col e : Int} {t x : TkD}
theorem sum_plus_lf (he : ¬ e = 0) (k1 : Lv 401 p BT toks N L bk bsc b0 kws vars i j Q1) (ht : toks[j]? = some t) (h1 : isB t ⟨#[43]⟩ = true) (k2 : Lf 401 p BT toks N L bk bsc b0 kws vars (j + 1) col e) : Lf 311 p BT toks N L bk bsc b0 kws vars i col e:=by
  intro H h en
  refine wpF_ok ok311 ?_
  simp -implicitDefEqProofs (maxDischargeDepth:=12) only [wpF,cf311,WZ,seval]
  refine wA_call rfl ((k1 _ h en).mono ?_)
  rintro o H1 ⟨w1,rfl,h1H1,hcH1,hH1,eH1,oH1,qH1⟩
  refine ⟨_,rfl,fun c hc => by simp at hc,?_⟩
  simp -implicitDefEqProofs (maxDischargeDepth:=12) only [WI,seval,h1H1,hcH1]
  refine wp_unroll 3 ?_
  simp -implicitDefEqProofs (maxDischargeDepth:=12) only [WZ,seval]
  refine wA_call rfl ((acc_yes hH1 eH1 ht _ h1).mono ?_)
  rintro o H2 ⟨v,rfl,rfl,hH2,eH2,oH2⟩
  refine ⟨_,rfl,fun c hc => by simp at hc,?_⟩
  simp -implicitDefEqProofs (maxDischargeDepth:=12) only [WI,seval]
  refine wA_call rfl ((k2 _ hH2 eH2).mono ?_)
  rintro o G ⟨wG,rfl,h1G,hcG,⟨TT,AA,NN,LL,SS,KK,fG⟩,oG⟩
  refine ⟨_,rfl,fun c hc => by simp at hc,?_⟩
  simp -implicitDefEqProofs (maxDischargeDepth:=12) only [WI,seval,h1G,hcG]
  refine wA_call rfl (wpF_ok ok64 ?_)
  have os1 : AV.ones [w1] = true:=by rw [os_cons,h1H1]; rfl
  have os2 : AV.ones [wG] = true:=by rw [os_cons,h1G]; rfl
  simp -implicitDefEqProofs (maxDischargeDepth:=12) only [tI_normal,wpF,cf64,WZ,seval,ev_fun,hcH1,hcG,h1H1,h1G,os1,os2]
  have o3 : Only [] G (((G.alloc (.cells [w1])).alloc (.cells [wG])).alloc (.cells [.func (.func 402) [] []])):=by (repeat (first | exact Only.refl | refine Only.put ?_ (by first | (right; omega) | (left; exact List.mem_cons_self ..) | (left; simp [fpS])) | refine Only.alloc ?_))
  have f4:=fG.only o3
  refine wpI_succ ?_
  simp -implicitDefEqProofs (maxDischargeDepth:=12) only [WZ,seval]
  refine wA_call rfl ((accept_err f4 he _).mono ?_)
  rintro o H5 ⟨v,rfl,rfl,oH5⟩
  refine ⟨_,rfl,fun c hc => by simp at hc,?_⟩
  have fH5:=(f4).only oH5
  simp -implicitDefEqProofs (maxDischargeDepth:=12) only [WI,seval]
  refine wA_call rfl ((accept_err fH5 he _).mono ?_)
  rintro o H6 ⟨v,rfl,rfl,oH6⟩
  refine ⟨_,rfl,fun c hc => by simp at hc,?_⟩
  have fH6:=(fH5).only oH6
  simp -implicitDefEqProofs (maxDischargeDepth:=12) only [WI,seval]
  exact ⟨⟨_,_,_,_,_,_,fH6⟩,((oH1.trans oH2).trans oG).trans (Only.nil ((o3.trans oH5).trans oH6))⟩
theorem sum_minus_lf (he : ¬ e = 0) (k1 : Lv 401 p BT toks N L bk bsc b0 kws vars i j Q1) (ht : toks[j]? = some t) (h0 : isB t ⟨#[43]⟩ = false) (h1 : isB t ⟨#[45]⟩ = true) (k2 : Lf 401 p BT toks N L bk bsc b0 kws vars (j + 1) col e) : Lf 311 p BT toks N L bk bsc b0 kws vars i col e:=by
  intro H h en
  refine wpF_ok ok311 ?_
  simp -implicitDefEqProofs (maxDischargeDepth:=12) only [wpF,cf311,WZ,seval]
  refine wA_call rfl ((k1 _ h en).mono ?_)
  rintro o H1 ⟨w1,rfl,h1H1,hcH1,hH1,eH1,oH1,qH1⟩
  refine ⟨_,rfl,fun c hc => by simp at hc,?_⟩
  simp -implicitDefEqProofs (maxDischargeDepth:=12) only [WI,seval,h1H1,hcH1]
  refine wp_unroll 3 ?_
  simp -implicitDefEqProofs (maxDischargeDepth:=12) only [WZ,seval]
  refine wA_call rfl ((acc_no hH1 eH1 ht _ h0).mono ?_)
  rintro o A0 ⟨v,rfl,rfl,hA0,eA0,oA0⟩
  refine ⟨_,rfl,fun c hc => by simp at hc,?_⟩
  simp -implicitDefEqProofs (maxDischargeDepth:=12) only [WI,seval]
  refine wA_call rfl ((acc_yes hA0 eA0 ht _ h1).mono ?_)
  rintro o H2 ⟨v,rfl,rfl,hH2,eH2,oH2⟩
  refine ⟨_,rfl,fun c hc => by simp at hc,?_⟩
  simp -implicitDefEqProofs (maxDischargeDepth:=12) only [WI,seval]
  refine wA_call rfl ((k2 _ hH2 eH2).mono ?_)
  rintro o G ⟨wG,rfl,h1G,hcG,⟨TT,AA,NN,LL,SS,KK,fG⟩,oG⟩
  refine ⟨_,rfl,fun c hc => by simp at hc,?_⟩
  simp -implicitDefEqProofs (maxDischargeDepth:=12) only [WI,seval,h1G,hcG]
  refine wA_call rfl (wpF_ok ok64 ?_)
  have os1 : AV.ones [w1] = true:=by rw [os_cons,h1H1]; rfl
  have os2 : AV.ones [wG] = true:=by rw [os_cons,h1G]; rfl
  simp -implicitDefEqProofs (maxDischargeDepth:=12) only [tI_normal,wpF,cf64,WZ,seval,ev_fun,hcH1,hcG,h1H1,h1G,os1,os2]
  have o3 : Only [] G (((G.alloc (.cells [w1])).alloc (.cells [wG])).alloc (.cells [.func (.func 403) [] []])):=by (repeat (first | exact Only.refl | refine Only.put ?_ (by first | (right; omega) | (left; exact List.mem_cons_self ..) | (left; simp [fpS])) | refine Only.alloc ?_))
  have f4:=fG.only o3
  refine wpI_succ ?_
  simp -implicitDefEqProofs (maxDischargeDepth:=12) only [WZ,seval]
  refine wA_call rfl ((accept_err f4 he _).mono ?_)
  rintro o H5 ⟨v,rfl,rfl,oH5⟩
  refine ⟨_,rfl,fun c hc => by simp at hc,?_⟩
  have fH5:=(f4).only oH5
  simp -implicitDefEqProofs (maxDischargeDepth:=12) only [WI,seval]
  refine wA_call rfl ((accept_err fH5 he _).mono ?_)
  rintro o H6 ⟨v,rfl,rfl,oH6⟩
  refine ⟨_,rfl,fun c hc => by simp at hc,?_⟩
  have fH6:=(fH5).only oH6
  simp -implicitDefEqProofs (maxDischargeDepth:=12) only [WI,seval]
  exact ⟨⟨_,_,_,_,_,_,fH6⟩,(((oH1.trans oA0).trans oH2).trans oG).trans (Only.nil ((o3.trans oH5).trans oH6))⟩
theorem product_mul_lf (he : ¬ e = 0) (k1 : Lv 458 p BT toks N L bk bsc b0 kws vars i j Q1) (ht : toks[j]? = some t) (a0 : isB t ⟨#[42]⟩ = true) (k2 : Lf 458 p BT toks N L bk bsc b0 kws vars (j + 1) col e) : Lf 401 p BT toks N L bk bsc b0 kws vars i col e:=by
  intro H h en
  refine wpF_ok ok401 ?_
  simp -implicitDefEqProofs (maxDischargeDepth:=12) only [wpF,cf401,WZ,seval]
  refine wA_call rfl ((k1 _ h en).mono ?_)
  rintro o H1 ⟨w1,rfl,h1H1,hcH1,hH1,eH1,oH1,qH1⟩
  refine ⟨_,rfl,fun c hc => by simp at hc,?_⟩
  simp -implicitDefEqProofs (maxDischargeDepth:=12) only [WI,seval,h1H1,hcH1]
  refine wp_unroll 3 ?_
  simp -implicitDefEqProofs (maxDischargeDepth:=12) only [WZ,seval]
  refine wA_call rfl ((acc_yes hH1 eH1 ht _ a0).mono ?_)
  rintro o H2 ⟨v,rfl,rfl,hH2,eH2,oH2⟩
  refine ⟨_,rfl,fun c hc => by simp at hc,?_⟩
  simp -implicitDefEqProofs (maxDischargeDepth:=12) only [WI,seval]
  refine wA_call rfl ((k2 _ hH2 eH2).mono ?_)
  rintro o G ⟨wG,rfl,h1G,hcG,⟨TT,AA,NN,LL,SS,KK,fG⟩,oG⟩
  refine ⟨_,rfl,fun c hc => by simp at hc,?_⟩
  simp -implicitDefEqProofs (maxDischargeDepth:=12) only [WI,seval,h1G,hcG]
  refine wA_call rfl (wpF_ok ok64 ?_)
  have os1 : AV.ones [w1] = true:=by rw [os_cons,h1H1]; rfl
  have os2 : AV.ones [wG] = true:=by rw [os_cons,h1G]; rfl
  simp -implicitDefEqProofs (maxDischargeDepth:=12) only [tI_normal,wpF,cf64,WZ,seval,ev_fun,hcH1,hcG,h1H1,h1G,os1,os2]
  have o3 : Only [] G (((G.alloc (.cells [w1])).alloc (.cells [wG])).alloc (.cells [.func (.func 459) [] []])):=by (repeat (first | exact Only.refl | refine Only.put ?_ (by first | (right; omega) | (left; exact List.mem_cons_self ..) | (left; simp [fpS])) | refine Only.alloc ?_))
  have f4:=fG.only o3
  refine wpI_succ ?_
  simp -implicitDefEqProofs (maxDischargeDepth:=12) only [WZ,seval]
  refine wA_call rfl ((accept_err f4 he _).mono ?_)
  rintro o H5 ⟨v,rfl,rfl,oH5⟩
  refine ⟨_,rfl,fun c hc => by simp at hc,?_⟩
  have fH5:=(f4).only oH5
  simp -implicitDefEqProofs (maxDischargeDepth:=12) only [WI,seval]
  refine wA_call rfl ((accept_err fH5 he _).mono ?_)
  rintro o H6 ⟨v,rfl,rfl,oH6⟩
  refine ⟨_,rfl,fun c hc => by simp at hc,?_⟩
  have fH6:=(fH5).only oH6
  simp -implicitDefEqProofs (maxDischargeDepth:=12) only [WI,seval]
  refine wA_call rfl ((accept_err fH6 he _).mono ?_)
  rintro o H7 ⟨v,rfl,rfl,oH7⟩
  refine ⟨_,rfl,fun c hc => by simp at hc,?_⟩
  have fH7:=(fH6).only oH7
  simp -implicitDefEqProofs (maxDischargeDepth:=12) only [WI,seval]
  exact ⟨⟨_,_,_,_,_,_,fH7⟩,((oH1.trans oH2).trans oG).trans (Only.nil (((o3.trans oH5).trans oH6).trans oH7))⟩
theorem product_quo_lf (he : ¬ e = 0) (k1 : Lv 458 p BT toks N L bk bsc b0 kws vars i j Q1) (ht : toks[j]? = some t) (a0 : isB t ⟨#[42]⟩ = false) (a1 : isB t ⟨#[47]⟩ = true) (k2 : Lf 458 p BT toks N L bk bsc b0 kws vars (j + 1) col e) : Lf 401 p BT toks N L bk bsc b0 kws vars i col e:=by
  intro H h en
  refine wpF_ok ok401 ?_
  simp -implicitDefEqProofs (maxDischargeDepth:=12) only [wpF,cf401,WZ,seval]
  refine wA_call rfl ((k1 _ h en).mono ?_)
  rintro o H1 ⟨w1,rfl,h1H1,hcH1,hH1,eH1,oH1,qH1⟩
  refine ⟨_,rfl,fun c hc => by simp at hc,?_⟩
  simp -implicitDefEqProofs (maxDischargeDepth:=12) only [WI,seval,h1H1,hcH1]
  refine wp_unroll 3 ?_
  simp -implicitDefEqProofs (maxDischargeDepth:=12) only [WZ,seval]
  refine wA_call rfl ((acc_no hH1 eH1 ht _ a0).mono ?_)
  rintro o A0 ⟨v,rfl,rfl,hA0,eA0,oA0⟩
  refine ⟨_,rfl,fun c hc => by simp at hc,?_⟩
  simp -implicitDefEqProofs (maxDischargeDepth:=12) only [WI,seval]
  refine wA_call rfl ((acc_yes hA0 eA0 ht _ a1).mono ?_)
  rintro o H2 ⟨v,rfl,rfl,hH2,eH2,oH2⟩
  refine ⟨_,rfl,fun c hc => by simp at hc,?_⟩
  simp -implicitDefEqProofs (maxDischargeDepth:=12) only [WI,seval]
  refine wA_call rfl ((k2 _ hH2 eH2).mono ?_)
  rintro o G ⟨wG,rfl,h1G,hcG,⟨TT,AA,NN,LL,SS,KK,fG⟩,oG⟩
  refine ⟨_,rfl,fun c hc => by simp at hc,?_⟩
  simp -implicitDefEqProofs (maxDischargeDepth:=12) only [WI,seval,h1G,hcG]
  refine wA_call rfl (wpF_ok ok64 ?_)
  have os1 : AV.ones [w1] = true:=by rw [os_cons,h1H1]; rfl
  have os2 : AV.ones [wG] = true:=by rw [os_cons,h1G]; rfl
  simp -implicitDefEqProofs (maxDischargeDepth:=12) only [tI_normal,wpF,cf64,WZ,seval,ev_fun,hcH1,hcG,h1H1,h1G,os1,os2]
  have o3 : Only [] G (((G.alloc (.cells [w1])).alloc (.cells [wG])).alloc (.cells [.func (.func 460) [] []])):=by (repeat (first | exact Only.refl | refine Only.put ?_ (by first | (right; omega) | (left; exact List.mem_cons_self ..) | (left; simp [fpS])) | refine Only.alloc ?_))
  have f4:=fG.only o3
  refine wpI_succ ?_
  simp -implicitDefEqProofs (maxDischargeDepth:=12) only [WZ,seval]
  refine wA_call rfl ((accept_err f4 he _).mono ?_)
  rintro o H5 ⟨v,rfl,rfl,oH5⟩
  refine ⟨_,rfl,fun c hc => by simp at hc,?_⟩
  have fH5:=(f4).only oH5
  simp -implicitDefEqProofs (maxDischargeDepth:=12) only [WI,seval]
  refine wA_call rfl ((accept_err fH5 he _).mono ?_)
  rintro o H6 ⟨v,rfl,rfl,oH6⟩
  refine ⟨_,rfl,fun c hc => by simp at hc,?_⟩
  have fH6:=(fH5).only oH6
  simp -implicitDefEqProofs (maxDischargeDepth:=12) only [WI,seval]
  refine wA_call rfl ((accept_err fH6 he _).mono ?_)
  rintro o H7 ⟨v,rfl,rfl,oH7⟩
  refine ⟨_,rfl,fun c hc => by simp at hc,?_⟩
  have fH7:=(fH6).only oH7
  simp -implicitDefEqProofs (maxDischargeDepth:=12) only [WI,seval]
  exact ⟨⟨_,_,_,_,_,_,fH7⟩,(((oH1.trans oA0).trans oH2).trans oG).trans (Only.nil (((o3.trans oH5).trans oH6).trans oH7))⟩
theorem product_rem_lf (he : ¬ e = 0) (k1 : Lv 458 p BT toks N L bk bsc b0 kws vars i j Q1) (ht : toks[j]? = some t) (a0 : isB t ⟨#[42]⟩ = false) (a1 : isB t ⟨#[47]⟩ = false) (a2 : isB t ⟨#[92]⟩ = true) (k2 : Lf 458 p BT toks N L bk bsc b0 kws vars (j + 1) col e) : Lf 401 p BT toks N L bk bsc b0 kws vars i col e:=by
  intro H h en
  refine wpF_ok ok401 ?_
  simp -implicitDefEqProofs (maxDischargeDepth:=12) only [wpF,cf401,WZ,seval]
  refine wA_call rfl ((k1 _ h en).mono ?_)
  rintro o H1 ⟨w1,rfl,h1H1,hcH1,hH1,eH1,oH1,qH1⟩
  refine ⟨_,rfl,fun c hc => by simp at hc,?_⟩
  simp -implicitDefEqProofs (maxDischargeDepth:=12) only [WI,seval,h1H1,hcH1]
  refine wp_unroll 3 ?_
  simp -implicitDefEqProofs (maxDischargeDepth:=12) only [WZ,seval]
  refine wA_call rfl ((acc_no hH1 eH1 ht _ a0).mono ?_)
  rintro o A0 ⟨v,rfl,rfl,hA0,eA0,oA0⟩
  refine ⟨_,rfl,fun c hc => by simp at hc,?_⟩
  simp -implicitDefEqProofs (maxDischargeDepth:=12) only [WI,seval]
  refine wA_call rfl ((acc_no hA0 eA0 ht _ a1).mono ?_)
  rintro o A1 ⟨v,rfl,rfl,hA1,eA1,oA1⟩
  refine ⟨_,rfl,fun c hc => by simp at hc,?_⟩
  simp -implicitDefEqProofs (maxDischargeDepth:=12) only [WI,seval]
  refine wA_call rfl ((acc_yes hA1 eA1 ht _ a2).mono ?_)
  rintro o H2 ⟨v,rfl,rfl,hH2,eH2,oH2⟩
  refine ⟨_,rfl,fun c hc => by simp at hc,?_⟩
  simp -implicitDefEqProofs (maxDischargeDepth:=12) only [WI,seval]
  refine wA_call rfl ((k2 _ hH2 eH2).mono ?_)
  rintro o G ⟨wG,rfl,h1G,hcG,⟨TT,AA,NN,LL,SS,KK,fG⟩,oG⟩
  refine ⟨_,rfl,fun c hc => by simp at hc,?_⟩
  simp -implicitDefEqProofs (maxDischargeDepth:=12) only [WI,seval,h1G,hcG]
  refine wA_call rfl (wpF_ok ok64 ?_)
  have os1 : AV.ones [w1] = true:=by rw [os_cons,h1H1]; rfl
  have os2 : AV.ones [wG] = true:=by rw [os_cons,h1G]; rfl
  simp -implicitDefEqProofs (maxDischargeDepth:=12) only [tI_normal,wpF,cf64,WZ,seval,ev_fun,hcH1,hcG,h1H1,h1G,os1,os2]
  have o3 : Only [] G (((G.alloc (.cells [w1])).alloc (.cells [wG])).alloc (.cells [.func (.func 462) [] []])):=by (repeat (first | exact Only.refl | refine Only.put ?_ (by first | (right; omega) | (left; exact List.mem_cons_self ..) | (left; simp [fpS])) | refine Only.alloc ?_))
  have f4:=fG.only o3
  refine wpI_succ ?_
  simp -implicitDefEqProofs (maxDischargeDepth:=12) only [WZ,seval]
  refine wA_call rfl ((accept_err f4 he _).mono ?_)
  rintro o H5 ⟨v,rfl,rfl,oH5⟩
  refine ⟨_,rfl,fun c hc => by simp at hc,?_⟩
  have fH5:=(f4).only oH5
  simp -implicitDefEqProofs (maxDischargeDepth:=12) only [WI,seval]
  refine wA_call rfl ((accept_err fH5 he _).mono ?_)
  rintro o H6 ⟨v,rfl,rfl,oH6⟩
  refine ⟨_,rfl,fun c hc => by simp at hc,?_⟩
  have fH6:=(fH5).only oH6
  simp -implicitDefEqProofs (maxDischargeDepth:=12) only [WI,seval]
  refine wA_call rfl ((accept_err fH6 he _).mono ?_)
  rintro o H7 ⟨v,rfl,rfl,oH7⟩
  refine ⟨_,rfl,fun c hc => by simp at hc,?_⟩
  have fH7:=(fH6).only oH7
  simp -implicitDefEqProofs (maxDischargeDepth:=12) only [WI,seval]
  exact ⟨⟨_,_,_,_,_,_,fH7⟩,((((oH1.trans oA0).trans oA1).trans oH2).trans oG).trans (Only.nil (((o3.trans oH5).trans oH6).trans oH7))⟩
theorem both_and_lf (he : ¬ e = 0) (k1 : Lv 132 p BT toks N L bk bsc b0 kws vars i j Q1) (ht : toks[j]? = some t) (h1 : isB t ⟨#[97,110,100]⟩ = true) (k2 : Lf 132 p BT toks N L bk bsc b0 kws vars (j + 1) col e) : Lf 63 p BT toks N L bk bsc b0 kws vars i col e:=by
  intro H h en
  refine wpF_ok ok63 ?_
  simp -implicitDefEqProofs (maxDischargeDepth:=12) only [wpF,cf63,WZ,seval]
  refine wA_call rfl ((k1 _ h en).mono ?_)
  rintro o H1 ⟨w1,rfl,h1H1,hcH1,hH1,eH1,oH1,qH1⟩
  refine ⟨_,rfl,fun c hc => by simp at hc,?_⟩
  simp -implicitDefEqProofs (maxDischargeDepth:=12) only [WI,seval,h1H1,hcH1]
  refine wp_unroll 3 ?_
  simp -implicitDefEqProofs (maxDischargeDepth:=12) only [WZ,seval]
  refine wA_call rfl ((acc_yes hH1 eH1 ht _ h1).mono ?_)
  rintro o H2 ⟨v,rfl,rfl,hH2,eH2,oH2⟩
  refine ⟨_,rfl,fun c hc => by simp at hc,?_⟩
  simp -implicitDefEqProofs (maxDischargeDepth:=12) only [WI,seval]
  refine wA_call rfl ((k2 _ hH2 eH2).mono ?_)
  rintro o G ⟨wG,rfl,h1G,hcG,⟨TT,AA,NN,LL,SS,KK,fG⟩,oG⟩
  refine ⟨_,rfl,fun c hc => by simp at hc,?_⟩
  simp -implicitDefEqProofs (maxDischargeDepth:=12) only [WI,seval,h1G,hcG]
  refine wA_call rfl (wpF_ok ok64 ?_)
  have os1 : AV.ones [w1] = true:=by rw [os_cons,h1H1]; rfl
  have os2 : AV.ones [wG] = true:=by rw [os_cons,h1G]; rfl
  simp -implicitDefEqProofs (maxDischargeDepth:=12) only [tI_normal,wpF,cf64,WZ,seval,ev_fun,hcH1,hcG,h1H1,h1G,os1,os2]
  have o3 : Only [] G (((G.alloc (.cells [w1])).alloc (.cells [wG])).alloc (.cells [.func (.func 133) [] []])):=by (repeat (first | exact Only.refl | refine Only.put ?_ (by first | (right; omega) | (left; exact List.mem_cons_self ..) | (left; simp [fpS])) | refine Only.alloc ?_))
  have f4:=fG.only o3
  refine wpI_succ ?_
  simp -implicitDefEqProofs (maxDischargeDepth:=12) only [WZ,seval]
  refine wA_call rfl ((accept_err f4 he _).mono ?_)
  rintro o H5 ⟨v,rfl,rfl,oH5⟩
  refine ⟨_,rfl,fun c hc => by simp at hc,?_⟩
  have fH5:=(f4).only oH5
  simp -implicitDefEqProofs (maxDischargeDepth:=12) only [WI,seval]
  exact ⟨⟨_,_,_,_,_,_,fH5⟩,((oH1.trans oH2).trans oG).trans (Only.nil (o3.trans oH5))⟩
theorem comparison_lt_lf (he : ¬ e = 0) (k1 : Lv 311 p BT toks N L bk bsc b0 kws vars i j Q1) (ht : toks[j]? = some t) (h1 : isB t ⟨#[61]⟩ = false) (h2 : isB t ⟨#[33]⟩ = false) (h3 : isB t ⟨#[60]⟩ = true) (h4 : isB t ⟨#[62]⟩ = false) (hx : toks[j + 1]? = some x) (h5 : (x.tx.toList == (⟨#[61]⟩ : ByteArray).toList) = false)
    (k2 : Lf 311 p BT toks N L bk bsc b0 kws vars (j + 1) col e) : Lf 215 p BT toks N L bk bsc b0 kws vars i col e:=by
  intro H h en
  refine wpF_ok ok215 ?_
  simp -implicitDefEqProofs (maxDischargeDepth:=12) only [wpF,cf215,WZ,seval]
  refine wA_call rfl ((k1 _ h en).mono ?_)
  rintro o H1 ⟨w1,rfl,h1H1,hcH1,hH1,eH1,oH1,qH1⟩
  refine ⟨_,rfl,fun c hc => by simp at hc,?_⟩
  simp -implicitDefEqProofs (maxDischargeDepth:=12) only [WI,seval,h1H1,hcH1]
  have ho2 : Only [] H1 (H1.alloc (.cells [.sc .nilf])):=by (repeat (first | exact Only.refl | refine Only.put ?_ (by first | (right; omega) | (left; exact List.mem_cons_self ..) | (left; simp [fpS])) | refine Only.alloc ?_))
  have g2:=hH1.only ho2 (by simp) (by simp)
  have o2:=ho2.mono (bs:=[p]) (fun b hb => by cases hb)
  have e2:=eH1.p o2
  have x2 : (H1.alloc (.cells [.sc .nilf])).cells H1.next = some [.sc .nilf]:=by simp -implicitDefEqProofs (maxDischargeDepth:=12) only [WZ,seval]
  have n2 : H1.next < (H1.alloc (.cells [.sc .nilf])).next:=by simp
  have lp1:=cells_lt hH1.cells
  have lb1:=cells_lt hH1.tb
  have lm1:=map_lt eH1.mw
  have l01:=map_lt eH1.m0
  have ls1:=cells_lt eH1.sc
  generalize (H1.alloc (.cells [.sc .nilf])) = H2 at ho2 g2 o2 e2 x2 n2 ⊢
  refine wA_call rfl ((pair_no g2 e2 ht _ _ h1).mono ?_)
  rintro o H5 ⟨v,rfl,rfl,hH5,eH5,oH5⟩
  refine ⟨_,rfl,fun c hc => by simp at hc,?_⟩
  simp -implicitDefEqProofs (maxDischargeDepth:=12) only [WZ,seval]
  refine wA_call rfl ((pair_no hH5 eH5 ht _ _ h2).mono ?_)
  rintro o H6 ⟨v,rfl,rfl,hH6,eH6,oH6⟩
  refine ⟨_,rfl,fun c hc => by simp at hc,?_⟩
  simp -implicitDefEqProofs (maxDischargeDepth:=12) only [WZ,seval]
  refine wA_call rfl ((pair_no2 hH6 eH6 ht _ _ h3 hx h5).mono ?_)
  rintro o H7 ⟨v,rfl,rfl,hH7,eH7,oH7⟩
  refine ⟨_,rfl,fun c hc => by simp at hc,?_⟩
  simp -implicitDefEqProofs (maxDischargeDepth:=12) only [WZ,seval]
  refine wA_call rfl ((pair_no hH7 eH7 ht _ _ h4).mono ?_)
  rintro o H8 ⟨v,rfl,rfl,hH8,eH8,oH8⟩
  refine ⟨_,rfl,fun c hc => by simp at hc,?_⟩
  simp -implicitDefEqProofs (maxDischargeDepth:=12) only [WZ,seval]
  refine wA_call rfl ((acc_yes hH8 eH8 ht _ h3).mono ?_)
  rintro o A ⟨v,rfl,rfl,hA,eA,oA⟩
  refine ⟨_,rfl,fun c hc => by simp at hc,?_⟩
  simp -implicitDefEqProofs (maxDischargeDepth:=12) only [WI,seval]
  have oA : Only [p] H2 A:=(((oH5.trans oH6).trans oH7).trans oH8).trans oA
  have x9:=(oA.cells H1.next n2 (by simp; omega)).trans x2
  simp -implicitDefEqProofs (maxDischargeDepth:=12) only [WZ,seval,x9,ev_fun,c_func,o_func]
  have ho3 : Only [H1.next] A (A.put H1.next (some (.cells [.func (.func 317) [] []]))):=by (repeat (first | exact Only.refl | refine Only.put ?_ (by first | (right; omega) | (left; exact List.mem_cons_self ..) | (left; simp [fpS])) | refine Only.alloc ?_))
  have g3:=hA.only ho3 (by simp; omega) (by simp; omega)
  have e3:=eA.only ho3 (by simp; omega) (by simp; omega) (by simp; omega)
  have x3 : (A.put H1.next (some (.cells [.func (.func 317) [] []]))).cells H1.next = some [.func (.func 317) [] []]:=by simp -implicitDefEqProofs (maxDischargeDepth:=12) only [WZ,seval,x9]
  have nA:=oA.next
  generalize (A.put H1.next (some (.cells [.func (.func 317) [] []]))) = H3 at ho3 g3 e3 x3 ⊢
  refine wA_call rfl ((k2 _ g3 e3).mono ?_)
  rintro o G ⟨wG,rfl,h1G,hcG,⟨TT,AA,NN,LL,SS,KK,fG⟩,oG⟩
  refine ⟨_,rfl,fun c hc => by simp at hc,?_⟩
  simp -implicitDefEqProofs (maxDischargeDepth:=12) only [WI,seval,h1G,hcG]
  refine wA_call rfl (wpF_ok ok64 ?_)
  have os1 : AV.ones [w1] = true:=by rw [os_cons,h1H1]; rfl
  have os2 : AV.ones [wG] = true:=by rw [os_cons,h1G]; rfl
  simp -implicitDefEqProofs (maxDischargeDepth:=12) only [tI_normal,wpF,cf64,WZ,seval,ev_fun,hcH1,hcG,h1H1,h1G,os1,os2]
  have o4 : Only [] G (((G.alloc (.cells [w1])).alloc (.cells [wG])).alloc (.cells [.func (.func 319) [] [.ptr H1.next 0]])):=by (repeat (first | exact Only.refl | refine Only.put ?_ (by first | (right; omega) | (left; exact List.mem_cons_self ..) | (left; simp [fpS])) | refine Only.alloc ?_))
  have n1:=oH1.next
  have oc2 : Only [p] H1 G:=((o2.trans oA).then ho3 (fun b hb => by simp at hb; right; omega)).trans oG
  exact ⟨⟨_,_,_,_,_,_,fG.only o4⟩,(oH1.trans oc2).trans (Only.nil o4)⟩
theorem comparison_eq_lf (he : ¬ e = 0) (k1 : Lv 311 p BT toks N L bk bsc b0 kws vars i j Q1) (ht : toks[j]? = some t) (h1 : isB t ⟨#[61]⟩ = true) (hx : toks[j + 1]? = some x) (c4 : x.k = 4) (h5 : (x.tx.toList == (⟨#[61]⟩ : ByteArray).toList) = true) (hj : x.j = true)
    (k2 : Lf 311 p BT toks N L bk bsc b0 kws vars (j + 2) col e) : Lf 215 p BT toks N L bk bsc b0 kws vars i col e:=by
  intro H h en
  refine wpF_ok ok215 ?_
  simp -implicitDefEqProofs (maxDischargeDepth:=12) only [wpF,cf215,WZ,seval]
  refine wA_call rfl ((k1 _ h en).mono ?_)
  rintro o H1 ⟨w1,rfl,h1H1,hcH1,hH1,eH1,oH1,qH1⟩
  refine ⟨_,rfl,fun c hc => by simp at hc,?_⟩
  simp -implicitDefEqProofs (maxDischargeDepth:=12) only [WI,seval,h1H1,hcH1]
  have ho2 : Only [] H1 (H1.alloc (.cells [.sc .nilf])):=by (repeat (first | exact Only.refl | refine Only.put ?_ (by first | (right; omega) | (left; exact List.mem_cons_self ..) | (left; simp [fpS])) | refine Only.alloc ?_))
  have g2:=hH1.only ho2 (by simp) (by simp)
  have o2:=ho2.mono (bs:=[p]) (fun b hb => by cases hb)
  have e2:=eH1.p o2
  have x2 : (H1.alloc (.cells [.sc .nilf])).cells H1.next = some [.sc .nilf]:=by simp -implicitDefEqProofs (maxDischargeDepth:=12) only [WZ,seval]
  have n2 : H1.next < (H1.alloc (.cells [.sc .nilf])).next:=by simp
  have lp1:=cells_lt hH1.cells
  have lb1:=cells_lt hH1.tb
  have lm1:=map_lt eH1.mw
  have l01:=map_lt eH1.m0
  have ls1:=cells_lt eH1.sc
  generalize (H1.alloc (.cells [.sc .nilf])) = H2 at ho2 g2 o2 e2 x2 n2 ⊢
  refine wA_call rfl ((pair_yes g2 e2 ht _ _ h1 hx c4 h5 hj).mono ?_)
  rintro o A ⟨v,rfl,rfl,hA,eA,oA⟩
  refine ⟨_,rfl,fun c hc => by simp at hc,?_⟩
  simp -implicitDefEqProofs (maxDischargeDepth:=12) only [WZ,seval]
  have x9:=(oA.cells H1.next n2 (by simp; omega)).trans x2
  simp -implicitDefEqProofs (maxDischargeDepth:=12) only [WZ,seval,x9,ev_fun,c_func,o_func]
  have ho3 : Only [H1.next] A (A.put H1.next (some (.cells [.func (.func 313) [] []]))):=by (repeat (first | exact Only.refl | refine Only.put ?_ (by first | (right; omega) | (left; exact List.mem_cons_self ..) | (left; simp [fpS])) | refine Only.alloc ?_))
  have g3:=hA.only ho3 (by simp; omega) (by simp; omega)
  have e3:=eA.only ho3 (by simp; omega) (by simp; omega) (by simp; omega)
  have x3 : (A.put H1.next (some (.cells [.func (.func 313) [] []]))).cells H1.next = some [.func (.func 313) [] []]:=by simp -implicitDefEqProofs (maxDischargeDepth:=12) only [WZ,seval,x9]
  have nA:=oA.next
  generalize (A.put H1.next (some (.cells [.func (.func 313) [] []]))) = H3 at ho3 g3 e3 x3 ⊢
  refine wA_call rfl ((k2 _ g3 e3).mono ?_)
  rintro o G ⟨wG,rfl,h1G,hcG,⟨TT,AA,NN,LL,SS,KK,fG⟩,oG⟩
  refine ⟨_,rfl,fun c hc => by simp at hc,?_⟩
  simp -implicitDefEqProofs (maxDischargeDepth:=12) only [WI,seval,h1G,hcG]
  refine wA_call rfl (wpF_ok ok64 ?_)
  have os1 : AV.ones [w1] = true:=by rw [os_cons,h1H1]; rfl
  have os2 : AV.ones [wG] = true:=by rw [os_cons,h1G]; rfl
  simp -implicitDefEqProofs (maxDischargeDepth:=12) only [tI_normal,wpF,cf64,WZ,seval,ev_fun,hcH1,hcG,h1H1,h1G,os1,os2]
  have o4 : Only [] G (((G.alloc (.cells [w1])).alloc (.cells [wG])).alloc (.cells [.func (.func 319) [] [.ptr H1.next 0]])):=by (repeat (first | exact Only.refl | refine Only.put ?_ (by first | (right; omega) | (left; exact List.mem_cons_self ..) | (left; simp [fpS])) | refine Only.alloc ?_))
  have n1:=oH1.next
  have oc2 : Only [p] H1 G:=((o2.trans oA).then ho3 (fun b hb => by simp at hb; right; omega)).trans oG
  exact ⟨⟨_,_,_,_,_,_,fG.only o4⟩,(oH1.trans oc2).trans (Only.nil o4)⟩
end
end Go.Hem
set_option maxRecDepth 100000
namespace Go.Hem
def StmF (p BT : Nat) (toks : List TkD) (N L : Int) (bk bsc b0 : Nat) (kws vars : List ByteArray) (i : Nat) (col e : Int) : Prop :=
  ∀ H,PSt p BT toks i N L (.slice bsc 0 1 1 1) (.map bk) H→PEn p bk bsc b0 kws vars H→Ev prog polW (.call 16 [.ptr p 0]) H fun o H' => ∃ v,o = .val v∧AV.one v = true∧v.cells = [v]∧Failed p col e H'∧Only [p] H H'
section
variable {p BT : Nat} {toks : List TkD} {N L : Int} {bk bsc b0 : Nat} {kws vars : List ByteArray} {i j : Nat} {col e : Int}
theorem stm_print_lf {tl t0 : TkD} (he : ¬ e = 0) (htl : toks[i]? = some tl) (hl : isB tl ⟨#[108,101,116]⟩ = false) (hp : isB tl ⟨#[112,114,105,110,116]⟩ = true) (ht0 : toks[i + 1]? = some t0) (hk : ¬ t0.k = 3)
    (k : Lf 27 p BT toks N L bk bsc b0 kws vars (i + 1) col e) : StmF p BT toks N L bk bsc b0 kws vars i col e:=by
  intro H h en
  have os : AV.ones [.sc (.bool false),.sc (.str ⟨#[]⟩),.sc .nilf] = true:=rfl
  refine wpF_ok ok16 ?_
  simp -implicitDefEqProofs (maxDischargeDepth:=12) only [wpF,cf16,WZ,seval]
  refine wA_call rfl ((acc_no h en htl _ hl).mono ?_)
  rintro o H1 ⟨v,rfl,rfl,hH1,eH1,oH1⟩
  refine ⟨_,rfl,fun c hc => by simp at hc,?_⟩
  simp -implicitDefEqProofs (maxDischargeDepth:=12) only [WI,seval]
  refine wA_call rfl ((acc_yes hH1 eH1 htl _ hp).mono ?_)
  rintro o H2 ⟨v,rfl,rfl,hH2,eH2,oH2⟩
  refine ⟨_,rfl,fun c hc => by simp at hc,?_⟩
  simp -implicitDefEqProofs (maxDischargeDepth:=12) only [WI,seval]
  refine wA_call rfl (wpF_ok ok26 ?_)
  simp -implicitDefEqProofs (maxDischargeDepth:=12) only [wpF,cf26,WZ,seval,os]
  have ho3 : Only [] H2 (H2.alloc (.cells [.sc (.bool false),.sc (.str ⟨#[]⟩),.sc .nilf])):=by (repeat (first | exact Only.refl | refine Only.put ?_ (by first | (right; omega) | (left; exact List.mem_cons_self ..) | (left; simp [fpS])) | refine Only.alloc ?_))
  have lp2:=cells_lt hH2.cells
  have g3:=hH2.only ho3 (by simp) (by simp)
  have o3:=ho3.mono (bs:=[p]) (fun b hb => by cases hb)
  have e3:=eH2.p o3
  have x3 : (H2.alloc (.cells [.sc (.bool false),.sc (.str ⟨#[]⟩),.sc .nilf])).cells H2.next = some [.sc (.bool false),.sc (.str ⟨#[]⟩),.sc .nilf]:=by simp -implicitDefEqProofs (maxDischargeDepth:=12) only [WZ,seval]
  have n3 : H2.next + 1 ≤ (H2.alloc (.cells [.sc (.bool false),.sc (.str ⟨#[]⟩),.sc .nilf])).next:=by simp
  generalize (H2.alloc (.cells [.sc (.bool false),.sc (.str ⟨#[]⟩),.sc .nilf])) = H3 at ho3 g3 o3 e3 x3 n3 ⊢
  refine wA_call rfl ((peek_ev g3 ht0).mono ?_)
  rintro o H4 ⟨v,rfl,rfl,ho4⟩
  refine ⟨_,rfl,fun c hc => by simp at hc,?_⟩
  have g4:=g3.only ho4 (by simp) (by simp)
  have o4 : Only [p] H3 H4:=ho4.mono (fun b hb => by cases hb)
  have e4:=e3.p o4
  have x4:=(ho4.cells _ (cells_lt x3) (by simp)).trans x3
  have n4:=ho4.next
  simp -implicitDefEqProofs (maxDischargeDepth:=12) only [WZ,seval,TkD.cells,hk]
  refine wA_call rfl ((k _ g4 e4).mono ?_)
  rintro o H5 ⟨wH5,rfl,h1H5,hcH5,⟨TT,AA,NN,LL,SS,KK,fH5⟩,oH5⟩
  refine ⟨_,rfl,fun c hc => by simp at hc,?_⟩
  simp -implicitDefEqProofs (maxDischargeDepth:=12) only [WI,seval,h1H5,hcH5]
  have x5:=(oH5.cells H2.next (by omega) (by simp; omega)).trans x4
  simp -implicitDefEqProofs (maxDischargeDepth:=12) only [WZ,seval,x5,h1H5,hcH5]
  have ho6 : Only [H2.next] H5 (H5.put H2.next (some (.cells [.sc (.bool false),.sc (.str ⟨#[]⟩),wH5]))):=by (repeat (first | exact Only.refl | refine Only.put ?_ (by first | (right; omega) | (left; exact List.mem_cons_self ..) | (left; simp [fpS])) | refine Only.alloc ?_))
  have f6 : PErr p TT AA (.sc (.int .i64 NN)) LL SS KK (.sc (.int .i64 1)) (.sc (.int .i64 col)) e (H5.put H2.next (some (.cells [.sc (.bool false),.sc (.str ⟨#[]⟩),wH5]))):=by
    have f:=fH5
    unfold PErr at f ⊢
    rw [ho6.cells p (cells_lt f) (by simp; omega)]; exact f
  generalize (H5.put H2.next (some (.cells [.sc (.bool false),.sc (.str ⟨#[]⟩),wH5]))) = H6 at ho6 f6 ⊢
  refine wA_call rfl ((expect_err f6 he _).mono ?_)
  rintro o H7 ⟨v,rfl,rfl,oH7⟩
  refine ⟨_,rfl,fun c hc => by simp at hc,?_⟩
  have fH7:=(f6).only oH7
  simp -implicitDefEqProofs (maxDischargeDepth:=12) only [WI,seval]
  simp -implicitDefEqProofs (maxDischargeDepth:=12) only [WZ,seval,s_mkif,o_iface,c_iface]
  have oa:=((oH1.trans oH2).trans o3).trans (o4.trans oH5)
  have la:=(oH1.trans oH2).next
  exact ⟨⟨_,_,_,_,_,_,fH7⟩,(oa.then ho6 (fun b hb => by simp at hb; right; omega)).trans (Only.nil oH7)⟩
theorem expr_of_prim_lf {t : TkD} (he : ¬ e = 0) (ht : toks[i]? = some t) (h1 : isB t ⟨#[110,111,116]⟩ = false) (h2 : isB t ⟨#[45]⟩ = false)
    (k : Lf 510 p BT toks N L bk bsc b0 kws vars i col e) : Lf 27 p BT toks N L bk bsc b0 kws vars i col e :=
  expr_lf he (both_lf he (negation_lf ht h1 (comparison_lf he (sum_lf he (product_lf he (unary_lf ht h2 k))))))
end
theorem Parse_fail (s : ByteArray) (hs : s.size ≤ 16384) (l : List Pc) (hl : s.data.toList = textOf l) (hok : pcsOk l = true) {t0 : TkD} {col e : Int} (he : ¬ e = 0) (k : ∀ p BT bk bsc b0,StmF p BT (toksD 0 true l) 0 0 bk bsc b0 kwL [] 0 col e) (ht0 : (toksD 0 true l)[0]? = some t0) (hk0 : ¬ t0.k = 0) (H : AHeap) :
    Ev prog polW (.call 6 [.sc (.str s)]) H fun o H' => ∃ v,o = .val v∧v = .tup [.sc .nilp,.sc (.int .i64 1),.sc (.int .i64 col),.sc (.int .i64 e)]:=by
  have c1 : ¬ (16384 : Int) < (s.size : Int):=by omega
  refine wpF_ok ok6 ?_
  simp -implicitDefEqProofs (maxDischargeDepth:=12) only [wpF,cf6,WZ,seval,c1,gt_iff_lt,s_mkmap,o_map,c_map,h_allocm]
  refine wA_call rfl ((Scan_ev s hs l hl hok _).mono ?_)
  rintro o H1 ⟨v,rfl,BT,rfl,hBT,ho1,hle⟩
  refine ⟨_,rfl,fun c hc => by simp at hc,?_⟩
  simp only [AHeap.next_alloc] at hle
  have q1 : ¬ H.next + 1 = H.next + 1 + 1:=by omega
  have q2 : ¬ H.next + 1 = H.next + 1 + 1 + 1:=by omega
  have q3 : ¬ H.next + 1 + 1 = H.next + 1 + 1 + 1:=by omega
  have q4 : ¬ H.next = H.next + 1 + 1 + 1:=by omega
  have q5 : ¬ H.next = H.next + 1 + 1:=by omega
  have q6 : ¬ H.next = H.next + 1:=by omega
  have gp:=ho1.cells (H.next + 1 + 1 + 1) (by simp only [AHeap.next_alloc]; omega) (by simp)
  have gs:=ho1.cells (H.next + 1) (by simp only [AHeap.next_alloc]; omega) (by simp)
  have gk:=ho1.map (H.next + 1 + 1) (by simp only [AHeap.next_alloc]; omega) (by simp)
  have g0:=ho1.map H.next (by simp only [AHeap.next_alloc]; omega) (by simp)
  simp -implicitDefEqProofs (maxDischargeDepth:=12) only [WZ,seval,h_allocm,q1,q2,q3,q4,q5,q6] at gp gs
  rw [map_alloc (by simp),map_allocm,if_pos (by simp)] at gk
  rw [map_alloc (by simp only [AHeap.next_alloc]; omega),map_allocm,if_neg (by simp only [AHeap.next_alloc]; omega),map_alloc (by simp),map_allocm,if_pos rfl] at g0
  have n1:=ho1.next
  simp only [AHeap.next_alloc] at n1
  simp -implicitDefEqProofs (maxDischargeDepth:=12) only [WZ,seval,gp]
  have lBT:=cells_lt hBT
  have lp:=cells_lt gp
  have m1 : ¬ BT = H.next + 1 + 1 + 1:=by omega
  have o2 : Only [H.next + 1 + 1 + 1] H1 (H1.put (H.next + 1 + 1 + 1) (some (.cells [.slice BT 0 (l.length + 1) (l.length + 1) 7,.sc (.int .i64 0),.sc (.int .i64 0),.sc (.int .i64 0),.slice (H.next + 1) 0 1 1 1,.map (H.next + 1 + 1),.sc (.int .i64 0),.sc (.int .i64 0),.sc (.int .i64 0)]))):=by (repeat (first | exact Only.refl | refine Only.put ?_ (by first | (right; omega) | (left; exact List.mem_cons_self ..) | (left; simp [fpS])) | refine Only.alloc ?_))
  have g2 : PSt (H.next + 1 + 1 + 1) BT (toksD 0 true l) 0 0 0 (.slice (H.next + 1) 0 1 1 1) (.map (H.next + 1 + 1)) (H1.put (H.next + 1 + 1 + 1) (some (.cells [.slice BT 0 (l.length + 1) (l.length + 1) 7,.sc (.int .i64 0),.sc (.int .i64 0),.sc (.int .i64 0),.slice (H.next + 1) 0 1 1 1,.map (H.next + 1 + 1),.sc (.int .i64 0),.sc (.int .i64 0),.sc (.int .i64 0)]))):=by
    refine ⟨?_,?_,by omega,?_⟩
    · rw [toksD_length]; simp -implicitDefEqProofs (maxDischargeDepth:=12) only [WZ,seval,gp]
    · rw [← toksD_eq]; simp -implicitDefEqProofs (maxDischargeDepth:=12) only [WZ,seval,gp,hBT,m1]
    · rw [toksD_length]; have:=ba_size s; rw [hl] at this; have:=pcs_len l hok; omega
  have e2 : PEn (H.next + 1 + 1 + 1) (H.next + 1 + 1) (H.next + 1) H.next [] [] (H1.put (H.next + 1 + 1 + 1) (some (.cells [.slice BT 0 (l.length + 1) (l.length + 1) 7,.sc (.int .i64 0),.sc (.int .i64 0),.sc (.int .i64 0),.slice (H.next + 1) 0 1 1 1,.map (H.next + 1 + 1),.sc (.int .i64 0),.sc (.int .i64 0),.sc (.int .i64 0)]))) :=
    (show PEn (H.next + 1 + 1 + 1) (H.next + 1 + 1) (H.next + 1) H.next [] [] H1 from ⟨gk,gs,g0,by omega,by omega,by omega,by omega⟩).p o2
  have lps:=cells_lt g2.cells
  generalize (H1.put (H.next + 1 + 1 + 1) (some (.cells [.slice BT 0 (l.length + 1) (l.length + 1) 7,.sc (.int .i64 0),.sc (.int .i64 0),.sc (.int .i64 0),.slice (H.next + 1) 0 1 1 1,.map (H.next + 1 + 1),.sc (.int .i64 0),.sc (.int .i64 0),.sc (.int .i64 0)]))) = H2 at g2 e2 lps ⊢
  refine wA_pure rfl kwW_pv ?_
  simp -implicitDefEqProofs (maxDischargeDepth:=12) only [WZ,seval,kw_len]
  have kl : kwL.length = 33:=rfl
  refine wp_loop (Inv:=fun k t H' => ∃ i : Nat,i + k = 33∧PSt (H.next + 1 + 1 + 1) BT (toksD 0 true l) 0 0 0 (.slice (H.next + 1) 0 1 1 1) (.map (H.next + 1 + 1)) H'∧PEn (H.next + 1 + 1 + 1) (H.next + 1 + 1) (H.next + 1) H.next (kwL.take i) [] H' ∧
    ∃ x : Nat→AV,t = [.sc (.str s),x 1,.sc .nilp,.sc (.int .i64 0),.sc (.int .i64 0),.sc (.int .i64 0),.ptr (H.next + 1 + 1 + 1) 0,x 7,x 8,x 9,x 10,x 11,x 12,x 13,x 14,x 15,x 16,x 17,x 18,x 19,x 20,x 21,x 22,x 23,x 24,x 25,x 26,x 27,x 28,x 29,x 30,x 31,kwVal,.sc (.int .i64 33),.sc (.int .i64 (i : Int)),x 35,x 36,x 37,x 38,x 39,x 40,x 41,x 42,x 43,x 44,x 45,x 46,x 47,x 48,x 49,x 50,x 51,x 52,x 53,x 54,x 55,x 56,x 57,x 58,x 59,x 60,x 61,x 62,x 63,x 64,x 65,x 66,x 67,x 68,x 69,x 70,x 71,x 72,x 73,x 74,x 75,x 76,x 77,x 78,x 79,x 80,x 81,x 82,x 83,x 84,x 85,x 86,x 87,x 88,x 89]) (k:=33) ?_ ⟨0,rfl,g2,e2,ex_x rfl⟩
  rintro kk t H3 ⟨i,hkk,g3,e3,x,rfl⟩
  by_cases c0 : i < 33
  · have c2 : (i : Int) < 33:=by omega
    obtain ⟨w,hw,hnew,htake⟩:=kw_step c0
    obtain ⟨z,hz,hr⟩:=kw_elem hw
    have hp3:=g3.cells
    have hpt:=putW e3.mw hnew
    simp -implicitDefEqProofs (maxDischargeDepth:=12) only [WZ,seval,c2,hz,hr,hp3,s_mpup,hpt,wA_memM,wrap1 c0 (show 33 < 2 ^ 31 by omega)]
    have o4 : Only [H.next + 1 + 1] H3 (H3.put (H.next + 1 + 1) (some (.map (wmap (kwL.take i ++ [w]))))):=by (repeat (first | exact Only.refl | refine Only.put ?_ (by first | (right; omega) | (left; exact List.mem_cons_self ..) | (left; simp [fpS])) | refine Only.alloc ?_))
    have nb : BT ≠ H.next + 1 + 1:=fun q => by have:=map_cells e3.mw; rw [← q,g3.tb] at this; cases this
    exact ⟨kk - 1,by omega,i + 1,by omega,g3.only o4 (by simp) (by simpa using nb),by rw [← htake]; exact e3.putk,ex_x rfl⟩
  · have c2 : ¬ (i : Int) < 33:=by omega
    obtain rfl : i = 33:=by omega
    rw [show kwL.take 33 = kwL from rfl] at e3
    have hp3:=g3.cells
    simp -implicitDefEqProofs (maxDischargeDepth:=12) only [WZ,seval,c2,hp3]
    rw [← toksD_length l 0 true] at *
    have o4 : Only [] H3 (H3.alloc (.cells [.slice BT 0 (toksD 0 true l).length (toksD 0 true l).length 7,.sc .nils])):=by (repeat (first | exact Only.refl | refine Only.put ?_ (by first | (right; omega) | (left; exact List.mem_cons_self ..) | (left; simp [fpS])) | refine Only.alloc ?_))
    have g4:=g3.only o4 (by simp) (by simp)
    have e4:=e3.only o4 (by simp) (by simp) (by simp)
    have lp3:=cells_lt hp3
    have l03:=map_lt e3.m0
    have x4 : (H3.alloc (.cells [.slice BT 0 (toksD 0 true l).length (toksD 0 true l).length 7,.sc .nils])).cells H3.next = some [.slice BT 0 (toksD 0 true l).length (toksD 0 true l).length 7,.sc .nils]:=by simp -implicitDefEqProofs (maxDischargeDepth:=12) only [WZ,seval]
    have n4 : H3.next < (H3.alloc (.cells [.slice BT 0 (toksD 0 true l).length (toksD 0 true l).length 7,.sc .nils])).next:=by simp
    generalize (H3.alloc (.cells [.slice BT 0 (toksD 0 true l).length (toksD 0 true l).length 7,.sc .nils])) = H4 at g4 e4 x4 n4 ⊢
    have hp4:=g4.cells
    refine wp_unroll 3 ?_
    simp -implicitDefEqProofs (maxDischargeDepth:=12) only [WZ,seval,hp4]
    refine wA_call rfl ((peek_ev g4 ht0).mono ?_)
    rintro o H5 ⟨v,rfl,rfl,ho5⟩
    refine ⟨_,rfl,fun c hc => by simp at hc,?_⟩
    have g5:=g4.only ho5 (by simp) (by simp)
    have e5:=e4.only ho5 (by simp) (by simp) (by simp)
    have x5:=(ho5.cells _ n4 (by simp)).trans x4
    have n5:=ho5.next
    simp -implicitDefEqProofs (maxDischargeDepth:=12) only [WZ,seval,TkD.cells,hk0,x5]
    refine wA_call rfl ((k _ _ _ _ _ H5 g5 e5).mono ?_)
    rintro o H6 ⟨w1,rfl,hw1,hc1,⟨TT,AA,NN,LL,SS,KK,g6⟩,o6⟩
    have x6:=(o6.cells H3.next (by omega) (by simp; omega)).trans x5
    refine ⟨_,rfl,fun c hc => ?_,?_⟩
    · simp at hc; subst hc; simp -implicitDefEqProofs (maxDischargeDepth:=12) only [WZ,seval,x5,x6]
    have n6:=o6.next
    have os1 : AV.ones [w1] = true:=by rw [os_cons,hw1]; rfl
    have nx6 : ¬ H3.next = H6.next:=by omega
    simp -implicitDefEqProofs (maxDischargeDepth:=12) only [WZ,seval,hw1,hc1,os1,x6,nx6]
    rw [appn_nil (n:=1) (bytes:=16) (H:=H6.alloc (.cells [w1])) (b':=H6.next) (xs:=[w1]) (by simp -implicitDefEqProofs (maxDischargeDepth:=12) only [WZ,seval]) rfl (by decide)]
    have nx7 : ¬ H3.next = H6.next + 1:=by omega
    simp -implicitDefEqProofs (maxDischargeDepth:=12) only [tI_normal,WZ,seval,x6,nx6,nx7]
    have hp6 : H6.cells _ = _:=g6
    have lp6:=cells_lt hp6
    have o7 : Only [H3.next] H6 (((H6.alloc (.cells [w1])).alloc (.cells [w1])).put H3.next (some (.cells [.slice BT 0 (toksD 0 true l).length (toksD 0 true l).length 7,.slice (H6.next + 1) 0 1 1 1]))):=by (repeat (first | exact Only.refl | refine Only.put ?_ (by first | (right; omega) | (left; exact List.mem_cons_self ..) | (left; simp [fpS])) | refine Only.alloc ?_))
    have hp7:=(o7.cells _ lp6 (by simp; omega)).trans hp6
    generalize (((H6.alloc (.cells [w1])).alloc (.cells [w1])).put H3.next (some (.cells [.slice BT 0 (toksD 0 true l).length (toksD 0 true l).length 7,.slice (H6.next + 1) 0 1 1 1]))) = H7 at hp7 ⊢
    refine wpI_succ ?_
    simp -implicitDefEqProofs (maxDischargeDepth:=12) only [tI_exit,WZ,seval,hp7,he]
    exact ⟨_,rfl,rfl⟩
end Go.Hem
namespace Go.Hem
def OpAt (toks : List TkD) (i j : Nat) (a : Int) : Prop :=
  (0 ≤ a∧j = i + 1∧∃ t,toks[i]? = some t∧t.k = 2∧t.v = a) ∨
  (a < 0∧j = i + 4∧∃ t0 t1 t2 t3,toks[i]? = some t0∧IsSym t0 40∧toks[i + 1]? = some t1∧IsSym t1 45∧toks[i + 2]? = some t2∧t2.k = 2∧t2.v = -a∧toks[i + 3]? = some t3∧IsSym t3 41)
def OpC (a : Int) : Nat→AV→AHeap→Prop:=if 0 ≤ a then NumC a else NegC (NumC (-a))
theorem OpC.ok {a : Int} : QOk (OpC a):=by
  unfold OpC
  split
  · exact NumC.ok
  · exact NegC.ok NumC.ok
theorem sym_stop {t : TkD} (h : IsSym t 41) : Stop t :=
  ⟨by rw [h.is]; rfl,by rw [h.is]; rfl,by rw [h.is]; rfl,by rw [h.is]; rfl,by rw [h.is]; rfl,by rw [h.is]; rfl,by rw [h.is]; rfl,by rw [h.is]; rfl,by rw [h.is]; rfl,h.wd _ _ _,h.wd _ _ _⟩
theorem num_no {t : TkD} (h : t.k = 2) (s : ByteArray) : isB t s = false:=by
  unfold isB; rw [h]; rfl
structure Fst (t : TkD) : Prop where
  n : isB t ⟨#[110,111,116]⟩ = false
  m : isB t ⟨#[45]⟩ = false
  s : ¬ t.k = 3
theorem OpAt.fst {toks : List TkD} {i j : Nat} {a : Int} (h : OpAt toks i j a) : ∃ t,toks[i]? = some t∧Fst t:=by
  rcases h with ⟨_,_,t,h1,h2,_⟩ | ⟨_,_,t,_,_,_,h1,h2,_⟩
  · exact ⟨t,h1,num_no h2 _,num_no h2 _,by rw [h2]; decide⟩
  · exact ⟨t,h1,h2.wd _ _ _,by rw [h2.is]; rfl,by rw [h2.k]; decide⟩
section
variable {p BT : Nat} {toks : List TkD} {N L : Int} {bk bsc b0 : Nat} {kws vars : List ByteArray} {i j k : Nat} {a : Int}
theorem op_lv (h : OpAt toks i j a) (h1 : -1099511627776 ≤ a) (h2 : a ≤ 1099511627776) (n0 : 0 ≤ N) (n1 : N < 16) : Lv 510 p BT toks N L bk bsc b0 kws vars i j (OpC a):=by
  rcases h with ⟨ha,rfl,t,ht,hk,rfl⟩ | ⟨ha,rfl,t0,t1,t2,t3,g0,s0,g1,s1,g2,hk,hv,g3,s3⟩
  · have:=primary_num (p:=p) (BT:=BT) (N:=N) (L:=L) (bk:=bk) (bsc:=bsc) (b0:=b0) (kws:=kws) (vars:=vars) ht hk (by omega) (by omega)
    unfold OpC
    rw [if_pos ha]; exact this
  · unfold OpC
    rw [if_neg (by omega),← hv]
    have st:=sym_stop s3
    have q : QOk (NegC (NumC t2.v)):=NegC.ok NumC.ok
    exact primary_par g0 s0 n0 n1 (expr_of_sum g1 (s1.wd _ _ _) g3 st q (sum_lv (product_lv (unary_neg g1 (by rw [s1.is]; rfl) (unary_lv g2 (num_no hk _) NumC.ok (primary_num g2 hk (by omega) (by omega))) NumC.ok) g3 st.a st.b st.c q) g3 st.d st.e q)) g3 s3 q
theorem op_lf {toks : List TkD} {i j : Nat} {a : Int} (h : OpAt toks i j a) (hb : a < -1099511627776 ∨ 1099511627776 < a) : ∃ col,∀ (p BT : Nat) (N L : Int) (bk bsc b0 : Nat) (kws vars : List ByteArray),0 ≤ N→N < 16→Lf 510 p BT toks N L bk bsc b0 kws vars i col 2:=by
  have he : ¬ (2 : Int) = 0:=by decide
  rcases h with ⟨ha,rfl,t,ht,hk,rfl⟩ | ⟨ha,rfl,t0,t1,t2,t3,g0,s0,g1,s1,g2,hk,hv,g3,s3⟩
  · exact ⟨_,fun p BT N L bk bsc b0 kws vars n0 n1 => primary_num_lf ht hk (by omega) (by omega)⟩
  · exact ⟨_,fun p BT N L bk bsc b0 kws vars n0 n1 => primary_par_lf he g0 s0 n0 n1 (expr_lf he (both_lf he (negation_lf g1 (s1.wd _ _ _) (comparison_lf he (sum_lf he (product_lf he (unary_neg_lf g1 (by rw [s1.is]; rfl) (unary_lf g2 (num_no hk _) (primary_num_lf g2 hk (by omega) (by omega))))))))))⟩
end
section
variable {p BT : Nat} {toks : List TkD} {N L : Int} {bk bsc b0 : Nat} {kws vars : List ByteArray} {i j k : Nat} {Q1 Q2 : Nat→AV→AHeap→Prop} {t1 t t2 te x : TkD}
variable (q1 : QOk Q1) (q2 : QOk Q2) (k1 : Lv 510 p BT toks N L bk bsc b0 kws vars i j Q1) (g1 : toks[i]? = some t1) (f1 : Fst t1) (g : toks[j]? = some t) (g2 : toks[j + 1]? = some t2) (f2 : Fst t2) (k2 : Lv 510 p BT toks N L bk bsc b0 kws vars (j + 1) k Q2) (ge : toks[k]? = some te) (st : Stop te)
include q1 q2 k1 g1 f1 g g2 f2 k2 ge st
theorem ex_add (s : IsSym t 43) : Lv 27 p BT toks N L bk bsc b0 kws vars i k (BinC 402 Q1 Q2) :=
  expr_of_sum g1 f1.n ge st (BinC.ok q1 q2) (sum_plus (product_lv (unary_lv g1 f1.m q1 k1) g (by rw [s.is]; rfl) (by rw [s.is]; rfl) (by rw [s.is]; rfl) q1) g (by rw [s.is]; rfl) (product_lv (unary_lv g2 f2.m q2 k2) ge st.a st.b st.c q2) ge st.d st.e q1 q2)
theorem ex_sub (s : IsSym t 45) : Lv 27 p BT toks N L bk bsc b0 kws vars i k (BinC 403 Q1 Q2) :=
  expr_of_sum g1 f1.n ge st (BinC.ok q1 q2) (sum_minus (product_lv (unary_lv g1 f1.m q1 k1) g (by rw [s.is]; rfl) (by rw [s.is]; rfl) (by rw [s.is]; rfl) q1) g (by rw [s.is]; rfl) (by rw [s.is]; rfl) (product_lv (unary_lv g2 f2.m q2 k2) ge st.a st.b st.c q2) ge st.d st.e q1 q2)
theorem ex_mul (s : IsSym t 42) : Lv 27 p BT toks N L bk bsc b0 kws vars i k (BinC 459 Q1 Q2) :=
  expr_of_sum g1 f1.n ge st (BinC.ok q1 q2) (sum_lv (product_mul (unary_lv g1 f1.m q1 k1) g (by rw [s.is]; rfl) (unary_lv g2 f2.m q2 k2) ge st.a st.b st.c q1 q2) ge st.d st.e (BinC.ok q1 q2))
theorem ex_quo (s : IsSym t 47) : Lv 27 p BT toks N L bk bsc b0 kws vars i k (BinC 460 Q1 Q2) :=
  expr_of_sum g1 f1.n ge st (BinC.ok q1 q2) (sum_lv (product_quo (unary_lv g1 f1.m q1 k1) g (by rw [s.is]; rfl) (by rw [s.is]; rfl) (unary_lv g2 f2.m q2 k2) ge st.a st.b st.c q1 q2) ge st.d st.e (BinC.ok q1 q2))
theorem ex_rem (s : IsSym t 92) : Lv 27 p BT toks N L bk bsc b0 kws vars i k (BinC 462 Q1 Q2) :=
  expr_of_sum g1 f1.n ge st (BinC.ok q1 q2) (sum_lv (product_rem (unary_lv g1 f1.m q1 k1) g (by rw [s.is]; rfl) (by rw [s.is]; rfl) (by rw [s.is]; rfl) (unary_lv g2 f2.m q2 k2) ge st.a st.b st.c q1 q2) ge st.d st.e (BinC.ok q1 q2))
theorem ex_lt (s : IsSym t 60) (h5 : (t2.tx.toList == (⟨#[61]⟩ : ByteArray).toList) = false) : Lv 27 p BT toks N L bk bsc b0 kws vars i k (CmpC 317 Q1 Q2):=by
  have q:=CmpC.ok (f:=317) q1 q2
  refine expr_lv (both_lv (negation_lv g1 f1.n q ?_) ge st.j q) ge st.k q
  exact comparison_lt (sum_lv (product_lv (unary_lv g1 f1.m q1 k1) g (by rw [s.is]; rfl) (by rw [s.is]; rfl) (by rw [s.is]; rfl) q1) g (by rw [s.is]; rfl) (by rw [s.is]; rfl) q1) g (by rw [s.is]; rfl) (by rw [s.is]; rfl) (by rw [s.is]; rfl) (by rw [s.is]; rfl) g2 h5
    (sum_lv (product_lv (unary_lv g2 f2.m q2 k2) ge st.a st.b st.c q2) ge st.d st.e q2) q1 q2
end
section
variable {p BT : Nat} {toks : List TkD} {N L : Int} {bk bsc b0 : Nat} {kws vars : List ByteArray} {i j k : Nat} {Q1 Q2 : Nat→AV→AHeap→Prop} {t1 t t2 te x : TkD}
theorem ex_eq (q1 : QOk Q1) (q2 : QOk Q2) (k1 : Lv 510 p BT toks N L bk bsc b0 kws vars i j Q1) (g1 : toks[i]? = some t1) (f1 : Fst t1) (g : toks[j]? = some t) (s : IsSym t 61) (gx : toks[j + 1]? = some x) (sx : IsSym x 61) (hj : x.j = true) (g2 : toks[j + 2]? = some t2) (f2 : Fst t2)
    (k2 : Lv 510 p BT toks N L bk bsc b0 kws vars (j + 2) k Q2) (ge : toks[k]? = some te) (st : Stop te) : Lv 27 p BT toks N L bk bsc b0 kws vars i k (CmpC 313 Q1 Q2):=by
  have q:=CmpC.ok (f:=313) q1 q2
  refine expr_lv (both_lv (negation_lv g1 f1.n q ?_) ge st.j q) ge st.k q
  exact comparison_eq (sum_lv (product_lv (unary_lv g1 f1.m q1 k1) g (by rw [s.is]; rfl) (by rw [s.is]; rfl) (by rw [s.is]; rfl) q1) g (by rw [s.is]; rfl) (by rw [s.is]; rfl) q1) g (by rw [s.is]; rfl) gx sx.k (by rw [sx.x]; simp) hj
    (sum_lv (product_lv (unary_lv g2 f2.m q2 k2) ge st.a st.b st.c q2) ge st.d st.e q2) q1 q2
structure IsAnd (t : TkD) : Prop where
  y : isB t ⟨#[97,110,100]⟩ = true
  a : isB t ⟨#[42]⟩ = false
  b : isB t ⟨#[47]⟩ = false
  c : isB t ⟨#[92]⟩ = false
  d : isB t ⟨#[43]⟩ = false
  e : isB t ⟨#[45]⟩ = false
  f : isB t ⟨#[61]⟩ = false
  g : isB t ⟨#[33]⟩ = false
  h : isB t ⟨#[60]⟩ = false
  i : isB t ⟨#[62]⟩ = false
theorem ex_and (q1 : QOk Q1) (q2 : QOk Q2) (k1 : Lv 510 p BT toks N L bk bsc b0 kws vars i j Q1) (g1 : toks[i]? = some t1) (f1 : Fst t1) (g : toks[j]? = some t) (s : IsAnd t) (g2 : toks[j + 1]? = some t2) (f2 : Fst t2)
    (k2 : Lv 510 p BT toks N L bk bsc b0 kws vars (j + 1) k Q2) (ge : toks[k]? = some te) (st : Stop te) : Lv 27 p BT toks N L bk bsc b0 kws vars i k (BinC 133 Q1 Q2):=by
  have q:=BinC.ok (f:=133) q1 q2
  refine expr_lv (both_and (negation_lv g1 f1.n q1 ?_) g s.y (negation_lv g2 f2.n q2 ?_) ge st.j q1 q2) ge st.k q
  · exact comparison_lv (sum_lv (product_lv (unary_lv g1 f1.m q1 k1) g s.a s.b s.c q1) g s.d s.e q1) g s.f s.g s.h s.i q1
  · exact comparison_lv (sum_lv (product_lv (unary_lv g2 f2.m q2 k2) ge st.a st.b st.c q2) ge st.d st.e q2) ge st.f st.g st.h st.i q2
end
section
variable {p BT : Nat} {toks : List TkD} {N L : Int} {bk bsc b0 : Nat} {kws vars : List ByteArray} {i j k : Nat} {Q1 : Nat→AV→AHeap→Prop} {t1 t t2 x : TkD} {col e : Int}
variable (he : ¬ e = 0) (q1 : QOk Q1) (k1 : Lv 510 p BT toks N L bk bsc b0 kws vars i j Q1) (g1 : toks[i]? = some t1) (f1 : Fst t1) (g : toks[j]? = some t) (g2 : toks[j + 1]? = some t2) (f2 : Fst t2) (k2 : Lf 510 p BT toks N L bk bsc b0 kws vars (j + 1) col e)
include he q1 k1 g1 f1 g g2 f2 k2
theorem ex_add_lf (s : IsSym t 43) : Lf 27 p BT toks N L bk bsc b0 kws vars i col e :=
  expr_lf he (both_lf he (negation_lf g1 f1.n (comparison_lf he (sum_plus_lf he (product_lv (unary_lv g1 f1.m q1 k1) g (by rw [s.is]; rfl) (by rw [s.is]; rfl) (by rw [s.is]; rfl) q1) g (by rw [s.is]; rfl) (product_lf he (unary_lf g2 f2.m k2))))))
theorem ex_sub_lf (s : IsSym t 45) : Lf 27 p BT toks N L bk bsc b0 kws vars i col e :=
  expr_lf he (both_lf he (negation_lf g1 f1.n (comparison_lf he (sum_minus_lf he (product_lv (unary_lv g1 f1.m q1 k1) g (by rw [s.is]; rfl) (by rw [s.is]; rfl) (by rw [s.is]; rfl) q1) g (by rw [s.is]; rfl) (by rw [s.is]; rfl) (product_lf he (unary_lf g2 f2.m k2))))))
theorem ex_mul_lf (s : IsSym t 42) : Lf 27 p BT toks N L bk bsc b0 kws vars i col e :=
  expr_lf he (both_lf he (negation_lf g1 f1.n (comparison_lf he (sum_lf he (product_mul_lf he (unary_lv g1 f1.m q1 k1) g (by rw [s.is]; rfl) (unary_lf g2 f2.m k2))))))
theorem ex_quo_lf (s : IsSym t 47) : Lf 27 p BT toks N L bk bsc b0 kws vars i col e :=
  expr_lf he (both_lf he (negation_lf g1 f1.n (comparison_lf he (sum_lf he (product_quo_lf he (unary_lv g1 f1.m q1 k1) g (by rw [s.is]; rfl) (by rw [s.is]; rfl) (unary_lf g2 f2.m k2))))))
theorem ex_rem_lf (s : IsSym t 92) : Lf 27 p BT toks N L bk bsc b0 kws vars i col e :=
  expr_lf he (both_lf he (negation_lf g1 f1.n (comparison_lf he (sum_lf he (product_rem_lf he (unary_lv g1 f1.m q1 k1) g (by rw [s.is]; rfl) (by rw [s.is]; rfl) (by rw [s.is]; rfl) (unary_lf g2 f2.m k2))))))
theorem ex_lt_lf (s : IsSym t 60) (h5 : (t2.tx.toList == (⟨#[61]⟩ : ByteArray).toList) = false) : Lf 27 p BT toks N L bk bsc b0 kws vars i col e :=
  expr_lf he (both_lf he (negation_lf g1 f1.n (comparison_lt_lf he (sum_lv (product_lv (unary_lv g1 f1.m q1 k1) g (by rw [s.is]; rfl) (by rw [s.is]; rfl) (by rw [s.is]; rfl) q1) g (by rw [s.is]; rfl) (by rw [s.is]; rfl) q1) g (by rw [s.is]; rfl) (by rw [s.is]; rfl) (by rw [s.is]; rfl) (by rw [s.is]; rfl) g2 h5 (sum_lf he (product_lf he (unary_lf g2 f2.m k2))))))
theorem ex_and_lf (s : IsAnd t) : Lf 27 p BT toks N L bk bsc b0 kws vars i col e :=
  expr_lf he (both_and_lf he (negation_lv g1 f1.n q1 (comparison_lv (sum_lv (product_lv (unary_lv g1 f1.m q1 k1) g s.a s.b s.c q1) g s.d s.e q1) g s.f s.g s.h s.i q1)) g s.y (negation_lf g2 f2.n (comparison_lf he (sum_lf he (product_lf he (unary_lf g2 f2.m k2))))))
end
section
variable {p BT : Nat} {toks : List TkD} {N L : Int} {bk bsc b0 : Nat} {kws vars : List ByteArray} {i j k : Nat} {Q1 : Nat→AV→AHeap→Prop} {t1 t t2 x : TkD} {col e : Int}
theorem ex_eq_lf (he : ¬ e = 0) (q1 : QOk Q1) (k1 : Lv 510 p BT toks N L bk bsc b0 kws vars i j Q1) (g1 : toks[i]? = some t1) (f1 : Fst t1) (g : toks[j]? = some t) (s : IsSym t 61) (gx : toks[j + 1]? = some x) (sx : IsSym x 61) (hj : x.j = true) (g2 : toks[j + 2]? = some t2) (f2 : Fst t2)
    (k2 : Lf 510 p BT toks N L bk bsc b0 kws vars (j + 2) col e) : Lf 27 p BT toks N L bk bsc b0 kws vars i col e :=
  expr_lf he (both_lf he (negation_lf g1 f1.n (comparison_eq_lf he (sum_lv (product_lv (unary_lv g1 f1.m q1 k1) g (by rw [s.is]; rfl) (by rw [s.is]; rfl) (by rw [s.is]; rfl) q1) g (by rw [s.is]; rfl) (by rw [s.is]; rfl) q1) g (by rw [s.is]; rfl) gx sx.k (by rw [sx.x]; simp) hj (sum_lf he (product_lf he (unary_lf g2 f2.m k2))))))
theorem ex_fst_lf (he : ¬ e = 0) (g1 : toks[i]? = some t1) (f1 : Fst t1) (k1 : Lf 510 p BT toks N L bk bsc b0 kws vars i col e) : Lf 27 p BT toks N L bk bsc b0 kws vars i col e:=expr_of_prim_lf he g1 f1.n f1.m k1
end
end Go.Hem
namespace Go.Hem
theorem numVal_snoc (l : List UInt8) (c : UInt8) : numVal (l ++ [c]) = numVal l * 10 + (c.toNat - 48):=by simp [numVal]
theorem dig_toNat {d : Nat} (h : d < 10) : (UInt8.ofNat (48 + d)).toNat = 48 + d:=by
  rw [UInt8.toNat_ofNat']; omega
theorem dig_is {d : Nat} (h : d < 10) : isDigit (UInt8.ofNat (48 + d)) = true:=by
  unfold isDigit
  rw [dig_toNat h]
  simp; omega
theorem decF_num : ∀ (k u : Nat),u < 10 ^ k→0 < k→numVal (decF k u) = u
  | 0,_,_,h => by omega
  | k + 1,u,h,_ => by
    simp only [decF]
    by_cases q : u < 10
    · rw [if_pos q]
      show 0 * 10 + ((UInt8.ofNat (48 + u)).toNat - 48) = u
      rw [dig_toNat q]; omega
    · have hk : 0 < k:=by
        rcases k with _ | k
        · simp at h; omega
        · omega
      rw [if_neg q,numVal_snoc,decF_num k (u / 10) (by rw [Nat.pow_succ] at h; omega) hk,dig_toNat (Nat.mod_lt _ (by decide))]; omega
theorem decF_dig : ∀ (k u : Nat),(decF k u).all isDigit = true
  | 0,_ => rfl
  | k + 1,u => by
    simp only [decF]
    by_cases q : u < 10
    · rw [if_pos q,List.all_cons,dig_is q]; rfl
    · rw [if_neg q,List.all_append,decF_dig k (u / 10),List.all_cons,dig_is (Nat.mod_lt u (show 0 < 10 by decide))]; rfl
theorem decF_len : ∀ (j k u : Nat),u < 10 ^ j→1 ≤ j→(decF k u).length ≤ j
  | 0,_,_,_,h => by omega
  | j + 1,0,u,_,_ => by simp [decF]
  | j + 1,k + 1,u,h,_ => by
    simp only [decF]
    by_cases q : u < 10
    · rw [if_pos q]; simp
    · have hj : 1 ≤ j:=by
        rcases j with _ | j
        · simp at h; omega
        · omega
      rw [if_neg q,List.length_append]
      have:=decF_len j k (u / 10) (by rw [Nat.pow_succ] at h; omega) hj
      simp; omega
theorem decF_ne (k u : Nat) : decF (k + 1) u ≠ []:=by
  simp only [decF]
  split <;> simp
theorem decF_head (k u : Nat) : ∃ c r,decF (k + 1) u = c :: r∧isDigit c = true∧r.all isDigit = true:=by
  have h1:=decF_ne k u
  have h2:=decF_dig (k + 1) u
  generalize decF (k + 1) u = l at *
  rcases l with _ | ⟨c,r⟩
  · exact absurd rfl h1
  · simp only [List.all_cons,Bool.and_eq_true] at h2
    exact ⟨c,r,rfl,h2.1,h2.2⟩
end Go.Hem
namespace Go.Hem
theorem word_is {w l : List UInt8} {v c : Int} {j : Bool} : isB ⟨1,ba w,v,c,j⟩ ⟨l.toArray⟩ = (w == l):=by
  unfold isB
  rw [ba_toList,lit_toList]
  simp
def parPcs (d : Nat) : List Pc:=⟨0,1,[112,114,105,110,116]⟩ :: ((List.range d).map (fun c => (⟨if c = 0 then 1 else 0,4,[40]⟩ : Pc)) ++ (⟨if d = 0 then 1 else 0,2,[49]⟩ :: (List.replicate d (⟨0,4,[41]⟩ : Pc) ++ [⟨0,4,[59]⟩])))
structure ParOk (d : Nat) : Prop where
  ok : pcsOk (parPcs d) = true
  len : (textOf (parPcs d)).length ≤ 100
  op : ∀ c,c < d→∃ t,(toksD 0 true (parPcs d))[1 + c]? = some t∧IsSym t 40
  cl : ∀ c,c < d→∃ t,(toksD 0 true (parPcs d))[1 + d + 1 + c]? = some t∧IsSym t 41
  se : ∃ t,(toksD 0 true (parPcs d))[1 + d + 1 + d]? = some t∧IsSym t 59
  pr : ∃ t,(toksD 0 true (parPcs d))[0]? = some t∧t.k = 1∧t.tx = ba [112,114,105,110,116]
  nu : ∃ t,(toksD 0 true (parPcs d))[1 + d]? = some t∧t.k = 2∧t.v = 1
  en : ∃ t,(toksD 0 true (parPcs d))[1 + d + 1 + d + 1]? = some t∧t.k = 0
  co : 16 < d→∃ t,(toksD 0 true (parPcs d))[17]? = some t∧t.col = 23
theorem print_let {t : TkD} (hk : t.k = 1) (hx : t.tx = ba [112,114,105,110,116]) : isB t ⟨#[108,101,116]⟩ = false∧isB t ⟨#[112,114,105,110,116]⟩ = true:=by
  unfold isB
  rw [hk,hx,ba_toList]
  constructor
  · rw [show (⟨#[108,101,116]⟩ : ByteArray).toList = [108,101,116] from by rw [ByteArray.toList_eq]]; rfl
  · rw [show (⟨#[112,114,105,110,116]⟩ : ByteArray).toList = [112,114,105,110,116] from by rw [ByteArray.toList_eq]]; rfl
theorem semi_st {t : TkD} (h : IsSym t 59) : Stop t :=
  ⟨by rw [h.is]; rfl,by rw [h.is]; rfl,by rw [h.is]; rfl,by rw [h.is]; rfl,by rw [h.is]; rfl,by rw [h.is]; rfl,by rw [h.is]; rfl,by rw [h.is]; rfl,by rw [h.is]; rfl,h.wd _ _ _,h.wd _ _ _⟩
end Go.Hem
namespace Go.Hem
def toksP (off : Nat) (first : Bool) : List Pc→List TkD
  | [] => []
  | p :: l => p.tokD off first :: toksP (off + p.bytes.length) false l
theorem toksP_length : ∀ (l : List Pc) (off : Nat) (f : Bool),(toksP off f l).length = l.length
  | [],_,_ => rfl
  | p :: l,_,_ => by simp [toksP,toksP_length l]
theorem toksD_app : ∀ (l m : List Pc) (off : Nat),∃ off',toksD off false (l ++ m) = toksP off false l ++ toksD off' false m
  | [],m,off => ⟨off,rfl⟩
  | p :: l,m,off => by
    obtain ⟨o,h⟩:=toksD_app l m (off + p.bytes.length)
    exact ⟨o,by rw [List.cons_append,toksD,h]; rfl⟩
theorem lget_mid {α : Type} (pre mid post : List α) (n : Nat) (h : n < mid.length) : (pre ++ (mid ++ post))[pre.length + n]? = mid[n]?:=by
  rw [List.getElem?_append_right (by omega),show pre.length + n - pre.length = n by omega,List.getElem?_append_left h]
def opPcs (a : Int) : List Pc:=if a < 0 then [⟨1,4,[40]⟩,⟨0,4,[45]⟩,⟨0,2,decF 20 a.natAbs⟩,⟨0,4,[41]⟩] else [⟨1,2,decF 20 a.natAbs⟩]
theorem opAt_of (pre post : List TkD) (off : Nat) (a : Int) (ha : a.natAbs < 10 ^ 20) : OpAt (pre ++ (toksP off false (opPcs a) ++ post)) pre.length (pre.length + (opPcs a).length) a:=by
  have hv : numVal (decF 20 a.natAbs) = a.natAbs:=decF_num 20 _ ha (by decide)
  by_cases h : a < 0
  · right
    have hl : (toksP off false (opPcs a)).length = 4:=by rw [toksP_length]; simp [opPcs,h]
    refine ⟨h,by simp [opPcs,h],?_⟩
    have g0:=lget_mid pre (toksP off false (opPcs a)) post 0 (by omega)
    have g1:=lget_mid pre (toksP off false (opPcs a)) post 1 (by omega)
    have g2:=lget_mid pre (toksP off false (opPcs a)) post 2 (by omega)
    have g3:=lget_mid pre (toksP off false (opPcs a)) post 3 (by omega)
    simp only [opPcs,if_pos h] at *
    refine ⟨_,_,_,_,g0,⟨rfl,rfl⟩,g1,⟨rfl,rfl⟩,g2,rfl,?_,g3,⟨rfl,rfl⟩⟩
    show ((numVal (decF 20 a.natAbs) : Nat) : Int) = -a
    rw [hv]; omega
  · left
    have hl : (toksP off false (opPcs a)).length = 1:=by rw [toksP_length]; simp [opPcs,h]
    refine ⟨by omega,by simp [opPcs,h],?_⟩
    have g0:=lget_mid pre (toksP off false (opPcs a)) post 0 (by omega)
    simp only [opPcs,if_neg h] at *
    refine ⟨_,g0,rfl,?_⟩
    show ((numVal (decF 20 a.natAbs) : Nat) : Int) = a
    rw [hv]; omega
def oprPcs (k : Nat) : List Pc :=
  match k with
  | 0 => [⟨1,4,[43]⟩]
  | 1 => [⟨1,4,[45]⟩]
  | 2 => [⟨1,4,[42]⟩]
  | 3 => [⟨1,4,[47]⟩]
  | 4 => [⟨1,4,[92]⟩]
  | 5 => [⟨1,4,[60]⟩]
  | 6 => [⟨1,4,[61]⟩,⟨0,4,[61]⟩]
  | _ => [⟨1,1,[97,110,100]⟩]
def exPcs (k : Nat) (a b : Int) : List Pc:=⟨0,1,[112,114,105,110,116]⟩ :: (opPcs a ++ (oprPcs k ++ (opPcs b ++ [⟨0,4,[59]⟩])))
theorem head_op (a : Int) (m : List Pc) : (textOf (opPcs a ++ m)).head? = some 32:=by
  unfold opPcs
  split <;> rfl
theorem head_opr (k : Nat) (m : List Pc) : (textOf (oprPcs k ++ m)).head? = some 32:=by
  unfold oprPcs
  split <;> rfl
theorem op_ok (a : Int) (ha : a.natAbs < 10 ^ 14) (m : List Pc) (hm : pcsOk m = true) (c : UInt8) (hc : (textOf m).head? = some c) (hd : isDigit c = false) : pcsOk (opPcs a ++ m) = true:=by
  obtain ⟨d,r,h1,h2,h3⟩:=decF_head 19 a.natAbs
  have hl:=decF_len 14 20 a.natAbs ha (by decide)
  rw [h1] at hl
  simp only [List.length_cons] at hl
  have h6 : r.length < 15:=by omega
  unfold opPcs
  split
  · simp [pcsOk,Pc.ok,textOf,Pc.bytes,h1,h2,h3,h6,hm] <;> decide
  · simp [pcsOk,Pc.ok,h1,h2,h3,h6,hm,hc,hd]
theorem opr_ok (k : Nat) (m : List Pc) (hm : pcsOk m = true) (hc : (textOf m).head? = some 32) : pcsOk (oprPcs k ++ m) = true:=by
  unfold oprPcs
  split <;> simp [pcsOk,Pc.ok,hm,hc] <;> decide
theorem exPcs_ok {k : Nat} {a b : Int} (ha : a.natAbs < 10 ^ 14) (hb : b.natAbs < 10 ^ 14) : pcsOk (exPcs k a b) = true:=by
  have h1 : pcsOk (opPcs b ++ [⟨0,4,[59]⟩]) = true:=op_ok b hb _ (by decide) 59 (by rfl) (by decide)
  have h2:=opr_ok k _ h1 (head_op b _)
  have h3:=op_ok a ha _ h2 32 (head_opr k _) (by decide)
  unfold exPcs
  simp only [pcsOk,h3,Bool.and_true]
  simp [Pc.ok,head_op]
  decide
theorem opPcs_len (a : Int) (ha : a.natAbs < 10 ^ 14) : (textOf (opPcs a)).length ≤ 20:=by
  have hl:=decF_len 14 20 a.natAbs ha (by decide)
  unfold opPcs
  split <;> simp [textOf,Pc.bytes] <;> omega
theorem exPcs_len {k : Nat} {a b : Int} (ha : a.natAbs < 10 ^ 14) (hb : b.natAbs < 10 ^ 14) : (textOf (exPcs k a b)).length ≤ 100:=by
  have h1:=opPcs_len a ha
  have h2:=opPcs_len b hb
  have h3 : (textOf (oprPcs k)).length ≤ 10:=by unfold oprPcs; split <;> decide
  unfold exPcs
  unfold textOf at *
  simp only [List.flatMap_cons,List.flatMap_append,List.length_append,List.flatMap_nil,List.length_nil]
  simp only [Pc.bytes,List.length_append,List.length_replicate,List.length_cons,List.length_nil]
  omega
structure ExToks (k : Nat) (a b : Int) (T : List TkD) (j j2 l : Nat) : Prop where
  pr : ∃ t,T[0]? = some t∧t.k = 1∧t.tx = ba [112,114,105,110,116]
  opa : OpAt T 1 j a
  opr : (k = 0∧j2 = j + 1∧∃ t,T[j]? = some t∧IsSym t 43) ∨ (k = 1∧j2 = j + 1∧∃ t,T[j]? = some t∧IsSym t 45) ∨ (k = 2∧j2 = j + 1∧∃ t,T[j]? = some t∧IsSym t 42) ∨ (k = 3∧j2 = j + 1∧∃ t,T[j]? = some t∧IsSym t 47) ∨
    (k = 4∧j2 = j + 1∧∃ t,T[j]? = some t∧IsSym t 92) ∨ (k = 5∧j2 = j + 1∧∃ t,T[j]? = some t∧IsSym t 60) ∨ (k = 6∧j2 = j + 2∧∃ t x,T[j]? = some t∧IsSym t 61∧T[j + 1]? = some x∧IsSym x 61∧x.j = true) ∨ (7 ≤ k∧j2 = j + 1∧∃ t,T[j]? = some t∧IsAnd t)
  opb : OpAt T j2 l b
  eqn : ∀ t,T[j2]? = some t→(t.tx.toList == (⟨#[61]⟩ : ByteArray).toList) = false
  se : ∃ t,T[l]? = some t∧IsSym t 59
  en : ∃ t,T[l + 1]? = some t∧t.k = 0
theorem isAnd_of {v c : Int} {j : Bool} : IsAnd ⟨1,ba [97,110,100],v,c,j⟩ :=
  ⟨word_is.trans rfl,word_is.trans rfl,word_is.trans rfl,word_is.trans rfl,word_is.trans rfl,word_is.trans rfl,word_is.trans rfl,word_is.trans rfl,word_is.trans rfl,word_is.trans rfl⟩
theorem ba61 {l : List UInt8} (h : ∀ r,l ≠ 61 :: r) : ((ba l).toList == (⟨#[61]⟩ : ByteArray).toList) = false:=by
  rw [ba_toList,show (⟨#[61]⟩ : ByteArray).toList = [61] from by rw [ByteArray.toList_eq],beq_eq_false_iff_ne]
  exact h []
theorem ex_toks (k : Nat) (a b : Int) (ha : a.natAbs < 10 ^ 14) (hb : b.natAbs < 10 ^ 14) : ∃ j j2 l,ExToks k a b (toksD 0 true (exPcs k a b)) j j2 l:=by
  obtain ⟨o1,h1⟩:=toksD_app (opPcs a) (oprPcs k ++ (opPcs b ++ [⟨0,4,[59]⟩])) (0 + (Pc.bytes ⟨0,1,[112,114,105,110,116]⟩).length)
  obtain ⟨o2,h2⟩:=toksD_app (oprPcs k) (opPcs b ++ [⟨0,4,[59]⟩]) o1
  obtain ⟨o3,h3⟩:=toksD_app (opPcs b) [⟨0,4,[59]⟩] o2
  have hT : toksD 0 true (exPcs k a b) = Pc.tokD ⟨0,1,[112,114,105,110,116]⟩ 0 true :: (toksP (0 + (Pc.bytes ⟨0,1,[112,114,105,110,116]⟩).length) false (opPcs a) ++ (toksP o1 false (oprPcs k) ++ (toksP o2 false (opPcs b) ++ toksD o3 false [⟨0,4,[59]⟩]))):=by
    unfold exPcs
    rw [toksD,h1,h2,h3]
  generalize hA : toksP (0 + (Pc.bytes ⟨0,1,[112,114,105,110,116]⟩).length) false (opPcs a) = A at hT
  generalize hO : toksP o1 false (oprPcs k) = O at hT
  generalize hB : toksP o2 false (opPcs b) = B at hT
  have lA : A.length = (opPcs a).length:=by rw [← hA,toksP_length]
  have lO : O.length = (oprPcs k).length:=by rw [← hO,toksP_length]
  have lB : B.length = (opPcs b).length:=by rw [← hB,toksP_length]
  have a14 : a.natAbs < 10 ^ 20:=by omega
  have b14 : b.natAbs < 10 ^ 20:=by omega
  have hkl : 1 ≤ (oprPcs k).length∧(oprPcs k).length ≤ 2:=by unfold oprPcs; split <;> decide
  rw [hT]
  have eB:=opAt_of (Pc.tokD ⟨0,1,[112,114,105,110,116]⟩ 0 true :: (A ++ O)) (toksD o3 false [⟨0,4,[59]⟩]) o2 b b14
  rw [hB] at eB
  have eA:=opAt_of [Pc.tokD ⟨0,1,[112,114,105,110,116]⟩ 0 true] (O ++ (B ++ toksD o3 false [⟨0,4,[59]⟩])) (0 + (Pc.bytes ⟨0,1,[112,114,105,110,116]⟩).length) a a14
  rw [hA] at eA
  have gO : ∀ n,n < O.length→(Pc.tokD ⟨0,1,[112,114,105,110,116]⟩ 0 true :: (A ++ (O ++ (B ++ toksD o3 false [⟨0,4,[59]⟩]))))[1 + (opPcs a).length + n]? = O[n]?:=fun n hn => by
    have:=lget_mid (Pc.tokD ⟨0,1,[112,114,105,110,116]⟩ 0 true :: A) O (B ++ toksD o3 false [⟨0,4,[59]⟩]) n hn
    rw [List.length_cons,lA,show (opPcs a).length + 1 + n = 1 + (opPcs a).length + n by omega] at this
    exact this
  have gE : ∀ n,n < 2→(Pc.tokD ⟨0,1,[112,114,105,110,116]⟩ 0 true :: (A ++ (O ++ (B ++ toksD o3 false [⟨0,4,[59]⟩]))))[1 + (opPcs a).length + (oprPcs k).length + (opPcs b).length + n]? = (toksD o3 false [⟨0,4,[59]⟩])[n]?:=fun n hn => by
    have:=lget_mid (Pc.tokD ⟨0,1,[112,114,105,110,116]⟩ 0 true :: (A ++ (O ++ B))) (toksD o3 false [⟨0,4,[59]⟩]) [] n (by rw [toksD_length]; simpa using hn)
    simp only [List.length_cons,List.length_append,lA,lO,lB,List.append_nil] at this
    rw [show (opPcs a).length + ((oprPcs k).length + (opPcs b).length) + 1 + n = 1 + (opPcs a).length + (oprPcs k).length + (opPcs b).length + n by omega] at this
    simpa only [List.cons_append,List.append_assoc] using this
  have gB : ∀ n,n < B.length→(Pc.tokD ⟨0,1,[112,114,105,110,116]⟩ 0 true :: (A ++ (O ++ (B ++ toksD o3 false [⟨0,4,[59]⟩]))))[1 + (opPcs a).length + (oprPcs k).length + n]? = B[n]?:=fun n hn => by
    have:=lget_mid (Pc.tokD ⟨0,1,[112,114,105,110,116]⟩ 0 true :: (A ++ O)) B (toksD o3 false [⟨0,4,[59]⟩]) n hn
    simp only [List.length_cons,List.length_append,lA,lO] at this
    rw [show (opPcs a).length + (oprPcs k).length + 1 + n = 1 + (opPcs a).length + (oprPcs k).length + n by omega] at this
    simpa only [List.cons_append,List.append_assoc] using this
  refine ⟨1 + (opPcs a).length,1 + (opPcs a).length + (oprPcs k).length,1 + (opPcs a).length + (oprPcs k).length + (opPcs b).length,⟨_,rfl,rfl,rfl⟩,eA,?_,?_,?_,?_,?_⟩
  · have g0:=(gO 0 (by omega)).trans (show O[0]? = (toksP o1 false (oprPcs k))[0]? by rw [hO])
    have g1:=fun h => (gO 1 h).trans (show O[1]? = (toksP o1 false (oprPcs k))[1]? by rw [hO])
    rw [Nat.add_zero] at g0
    rcases k with _ | _ | _ | _ | _ | _ | _ | k
    · exact .inl ⟨rfl,rfl,_,g0,rfl,rfl⟩
    · exact .inr (.inl ⟨rfl,rfl,_,g0,rfl,rfl⟩)
    · exact .inr (.inr (.inl ⟨rfl,rfl,_,g0,rfl,rfl⟩))
    · exact .inr (.inr (.inr (.inl ⟨rfl,rfl,_,g0,rfl,rfl⟩)))
    · exact .inr (.inr (.inr (.inr (.inl ⟨rfl,rfl,_,g0,rfl,rfl⟩))))
    · exact .inr (.inr (.inr (.inr (.inr (.inl ⟨rfl,rfl,_,g0,rfl,rfl⟩)))))
    · exact .inr (.inr (.inr (.inr (.inr (.inr (.inl ⟨rfl,rfl,_,_,g0,⟨rfl,rfl⟩,g1 (by rw [lO]; decide),⟨rfl,rfl⟩,rfl⟩))))))
    · exact .inr (.inr (.inr (.inr (.inr (.inr (.inr ⟨by omega,rfl,_,g0,isAnd_of⟩))))))
  · rw [List.length_cons,List.length_append,lA,lO,show (opPcs a).length + (oprPcs k).length + 1 = 1 + (opPcs a).length + (oprPcs k).length by omega] at eB
    simpa only [List.cons_append,List.append_assoc] using eB
  · intro t ht
    have g0:=gB 0 (by rw [lB]; unfold opPcs; split <;> exact Nat.succ_pos _)
    rw [Nat.add_zero,ht,← hB] at g0
    obtain ⟨c,r,d1,d2,d3⟩:=decF_head 19 b.natAbs
    unfold opPcs at g0
    split at g0
    · cases g0
      exact ba61 (fun r q => by cases q)
    · cases g0
      show ((ba (decF 20 b.natAbs)).toList == _) = false
      rw [d1]
      refine ba61 (fun r q => ?_)
      cases q
      cases d2
  · exact ⟨_,gE 0 (by decide),rfl,rfl⟩
  · exact ⟨_,gE 1 (by decide),rfl⟩
def ExC (k : Nat) (a b : Int) : Nat→AV→AHeap→Prop :=
  match k with
  | 0 => BinC 402 (OpC a) (OpC b)
  | 1 => BinC 403 (OpC a) (OpC b)
  | 2 => BinC 459 (OpC a) (OpC b)
  | 3 => BinC 460 (OpC a) (OpC b)
  | 4 => BinC 462 (OpC a) (OpC b)
  | 5 => CmpC 317 (OpC a) (OpC b)
  | 6 => CmpC 313 (OpC a) (OpC b)
  | _ => BinC 133 (OpC a) (OpC b)
theorem ExC.ok {k : Nat} {a b : Int} : QOk (ExC k a b):=by
  unfold ExC
  split <;> first | exact BinC.ok OpC.ok OpC.ok | exact CmpC.ok OpC.ok OpC.ok
section
variable {p BT : Nat} {T : List TkD} {L : Int} {bk bsc b0 : Nat} {kws vars : List ByteArray} {k j j2 l : Nat} {a b : Int}
theorem ex_lv (h : ExToks k a b T j j2 l) (a1 : -1099511627776 ≤ a) (a2 : a ≤ 1099511627776) (b1 : -1099511627776 ≤ b) (b2 : b ≤ 1099511627776) : Lv 27 p BT T 0 L bk bsc b0 kws vars 1 l (ExC k a b):=by
  have k1:=op_lv (p:=p) (BT:=BT) (N:=0) (L:=L) (bk:=bk) (bsc:=bsc) (b0:=b0) (kws:=kws) (vars:=vars) h.opa a1 a2 (by decide) (by decide)
  have k2:=op_lv (p:=p) (BT:=BT) (N:=0) (L:=L) (bk:=bk) (bsc:=bsc) (b0:=b0) (kws:=kws) (vars:=vars) h.opb b1 b2 (by decide) (by decide)
  obtain ⟨t1,g1,f1⟩:=h.opa.fst
  obtain ⟨t2,g2,f2⟩:=h.opb.fst
  obtain ⟨te,ge,se⟩:=h.se
  have st:=semi_st se
  have eq:=h.eqn t2 g2
  rcases h.opr with ⟨rfl,rfl,t,g,s⟩ | ⟨rfl,rfl,t,g,s⟩ | ⟨rfl,rfl,t,g,s⟩ | ⟨rfl,rfl,t,g,s⟩ | ⟨rfl,rfl,t,g,s⟩ | ⟨rfl,rfl,t,g,s⟩ | ⟨rfl,rfl,t,x,g,s,gx,sx,hj⟩ | ⟨hk,rfl,t,g,s⟩
  · exact ex_add OpC.ok OpC.ok k1 g1 f1 g g2 f2 k2 ge st s
  · exact ex_sub OpC.ok OpC.ok k1 g1 f1 g g2 f2 k2 ge st s
  · exact ex_mul OpC.ok OpC.ok k1 g1 f1 g g2 f2 k2 ge st s
  · exact ex_quo OpC.ok OpC.ok k1 g1 f1 g g2 f2 k2 ge st s
  · exact ex_rem OpC.ok OpC.ok k1 g1 f1 g g2 f2 k2 ge st s
  · exact ex_lt OpC.ok OpC.ok k1 g1 f1 g g2 f2 k2 ge st s eq
  · exact ex_eq OpC.ok OpC.ok k1 g1 f1 g s gx sx hj g2 f2 k2 ge st
  · have : ExC k a b = BinC 133 (OpC a) (OpC b):=by
      unfold ExC
      split <;> first | omega | rfl
    rw [this]
    exact ex_and OpC.ok OpC.ok k1 g1 f1 g s g2 f2 k2 ge st
end
theorem ex_lf {T : List TkD} {k j j2 l : Nat} {a b : Int} (h : ExToks k a b T j j2 l) (hab : (a < -1099511627776 ∨ 1099511627776 < a) ∨ (b < -1099511627776 ∨ 1099511627776 < b)) : ∃ col,∀ (p BT : Nat) (L : Int) (bk bsc b0 : Nat) (kws vars : List ByteArray),Lf 27 p BT T 0 L bk bsc b0 kws vars 1 col 2:=by
  have he : ¬ (2 : Int) = 0:=by decide
  obtain ⟨t1,g1,f1⟩:=h.opa.fst
  by_cases ha : a < -1099511627776 ∨ 1099511627776 < a
  · obtain ⟨col,k1⟩:=op_lf h.opa ha
    exact ⟨col,fun p BT L bk bsc b0 kws vars => ex_fst_lf he g1 f1 (k1 p BT 0 L bk bsc b0 kws vars (by decide) (by decide))⟩
  · have hb : b < -1099511627776 ∨ 1099511627776 < b:=hab.resolve_left ha
    obtain ⟨col,k2'⟩:=op_lf h.opb hb
    obtain ⟨t2,g2,f2⟩:=h.opb.fst
    have eq:=h.eqn t2 g2
    refine ⟨col,fun p BT L bk bsc b0 kws vars => ?_⟩
    have k1:=op_lv (p:=p) (BT:=BT) (N:=0) (L:=L) (bk:=bk) (bsc:=bsc) (b0:=b0) (kws:=kws) (vars:=vars) h.opa (by omega) (by omega) (by decide) (by decide)
    have k2:=k2' p BT 0 L bk bsc b0 kws vars (by decide) (by decide)
    rcases h.opr with ⟨rfl,rfl,t,g,s⟩ | ⟨rfl,rfl,t,g,s⟩ | ⟨rfl,rfl,t,g,s⟩ | ⟨rfl,rfl,t,g,s⟩ | ⟨rfl,rfl,t,g,s⟩ | ⟨rfl,rfl,t,g,s⟩ | ⟨rfl,rfl,t,x,g,s,gx,sx,hj⟩ | ⟨hk,rfl,t,g,s⟩
    · exact ex_add_lf he OpC.ok k1 g1 f1 g g2 f2 k2 s
    · exact ex_sub_lf he OpC.ok k1 g1 f1 g g2 f2 k2 s
    · exact ex_mul_lf he OpC.ok k1 g1 f1 g g2 f2 k2 s
    · exact ex_quo_lf he OpC.ok k1 g1 f1 g g2 f2 k2 s
    · exact ex_rem_lf he OpC.ok k1 g1 f1 g g2 f2 k2 s
    · exact ex_lt_lf he OpC.ok k1 g1 f1 g g2 f2 k2 s eq
    · exact ex_eq_lf he OpC.ok k1 g1 f1 g s gx sx hj g2 f2 k2
    · exact ex_and_lf he OpC.ok k1 g1 f1 g g2 f2 k2 s
theorem ex_parse {k : Nat} {a b : Int} (a1 : -1099511627776 ≤ a) (a2 : a ≤ 1099511627776) (b1 : -1099511627776 ≤ b) (b2 : b ≤ 1099511627776) (s : ByteArray) (hs : s.data.toList = textOf (exPcs k a b)) (H : AHeap) :
    Ev prog polW (.call 6 [.sc (.str s)]) H fun o H' => ∃ v,o = .val v∧∃ bo TK bl w,v = .tup [.ptr bo 0,.sc (.int .i64 0),.sc (.int .i64 0),.sc (.int .i64 0)]∧H'.cells bo = some [TK,.slice bl 0 1 1 1]∧H'.cells bl = some [w]∧PrintC (ExC k a b) H.next w H':=by
  have ha : a.natAbs < 10 ^ 14:=by omega
  have hb : b.natAbs < 10 ^ 14:=by omega
  have hsz : s.size ≤ 16384:=by rw [ba_size,hs]; have:=exPcs_len (k:=k) ha hb; omega
  obtain ⟨j,j2,l,X⟩:=ex_toks k a b ha hb
  obtain ⟨t0,e0,k0,x0⟩:=X.pr
  obtain ⟨t1,e1,f1⟩:=X.opa.fst
  obtain ⟨ts,es,ss⟩:=X.se
  obtain ⟨te,ee,ke⟩:=X.en
  obtain ⟨c1,c2⟩:=print_let k0 x0
  refine Parse_one s hsz (exPcs k a b) hs (exPcs_ok ha hb) (i1:=l + 1) (Q:=PrintC (ExC k a b)) (PrintC.ok ExC.ok) ?_ e0 (by rw [k0]; decide) ee ke H
  intro p BT bk bsc b0
  exact (stm_print (i:=0) e0 c1 c2 e1 f1.s (ex_lv X a1 a2 b1 b2) es (by rw [ss.is]; rfl) ExC.ok).one
theorem ex_bad {k : Nat} {a b : Int} (ha : a.natAbs < 10 ^ 14) (hb : b.natAbs < 10 ^ 14) (hab : (a < -1099511627776 ∨ 1099511627776 < a) ∨ (b < -1099511627776 ∨ 1099511627776 < b)) (s : ByteArray) (hs : s.data.toList = textOf (exPcs k a b)) (H : AHeap) :
    Ev prog polW (.call 6 [.sc (.str s)]) H fun o H' => ∃ v,o = .val v∧∃ col,v = .tup [.sc .nilp,.sc (.int .i64 1),.sc (.int .i64 col),.sc (.int .i64 2)]:=by
  have hsz : s.size ≤ 16384:=by rw [ba_size,hs]; have:=exPcs_len (k:=k) ha hb; omega
  obtain ⟨j,j2,l,X⟩:=ex_toks k a b ha hb
  obtain ⟨t0,e0,k0,x0⟩:=X.pr
  obtain ⟨t1,e1,f1⟩:=X.opa.fst
  obtain ⟨c1,c2⟩:=print_let k0 x0
  have he : ¬ (2 : Int) = 0:=by decide
  obtain ⟨col,hcol⟩:=ex_lf X hab
  refine (Parse_fail s hsz (exPcs k a b) hs (exPcs_ok ha hb) he (fun p BT bk bsc b0 => stm_print_lf (i:=0) he e0 c1 c2 e1 f1.s (hcol p BT 0 bk bsc b0 kwL [])) e0 (by rw [k0]; decide) H).mono ?_
  rintro o H' ⟨v,rfl,rfl⟩
  exact ⟨_,rfl,_,rfl⟩
end Go.Hem
namespace Go.Hem
theorem op_evals {a : Int} (h1 : -1099511627776 ≤ a) (h2 : a ≤ 1099511627776) : Evals (OpC a) a:=by
  unfold OpC
  split
  · exact num_evals a
  · have:=neg_evals (num_evals (-a)) (by omega) (by omega)
    rw [Int.neg_neg] at this; exact this
def exVal (k : Nat) (a b : Int) : Int :=
  match k with
  | 0 => a + b
  | 1 => a - b
  | 2 => a * b
  | 3 => a.tdiv b
  | 4 => a.tmod b
  | 5 => if a < b then 1 else 0
  | 6 => if a = b then 1 else 0
  | _ => if a ≠ 0∧b ≠ 0 then 1 else 0
def exErr (k : Nat) (a b : Int) : Int :=
  match k with
  | 0 => if a + b < -1099511627776 ∨ 1099511627776 < a + b then 14 else 0
  | 1 => if a - b < -1099511627776 ∨ 1099511627776 < a - b then 14 else 0
  | 2 => if a ≠ 0∧(1099511627776 : Int).tdiv (a.natAbs : Int) < (b.natAbs : Int) then 14 else 0
  | 3 => if b = 0 then 15 else 0
  | 4 => if b = 0 then 15 else 0
  | _ => 0
theorem mul_in {a b : Int} (ha : a ≠ 0) (h : ¬ (1099511627776 : Int).tdiv (a.natAbs : Int) < (b.natAbs : Int)) : -1099511627776 ≤ a * b∧a * b ≤ 1099511627776:=by
  have hp : 0 < a.natAbs:=by omega
  have h1 : (b.natAbs : Int) ≤ ((1099511627776 / a.natAbs : Nat) : Int):=by
    have : (1099511627776 : Int).tdiv (a.natAbs : Int) = ((1099511627776 / a.natAbs : Nat) : Int):=rfl
    omega
  have h2 : a.natAbs * b.natAbs ≤ 1099511627776:=by
    have h3 : b.natAbs ≤ 1099511627776 / a.natAbs:=by omega
    have:=Nat.mul_le_mul_left a.natAbs h3
    have:=Nat.mul_div_le 1099511627776 a.natAbs
    omega
  rw [← Int.natAbs_mul] at h2
  omega
theorem div_in {a b : Int} (h1 : -1099511627776 ≤ a) (h2 : a ≤ 1099511627776) : -1099511627776 ≤ a.tdiv b∧a.tdiv b ≤ 1099511627776:=by
  have h : (a.tdiv b).natAbs ≤ a.natAbs:=by rw [Int.natAbs_tdiv]; exact Nat.div_le_self _ _
  omega
theorem mod_in {a b : Int} (h1 : -1099511627776 ≤ a) (h2 : a ≤ 1099511627776) : -1099511627776 ≤ a.tmod b∧a.tmod b ≤ 1099511627776:=by
  have h : (a.tmod b).natAbs ≤ a.natAbs:=by rw [Int.natAbs_tmod]; exact Nat.mod_le _ _
  omega
theorem ex_eval (k : Nat) {a b : Int} (a1 : -1099511627776 ≤ a) (a2 : a ≤ 1099511627776) (b1 : -1099511627776 ≤ b) (b2 : b ≤ 1099511627776) :
    (exErr k a b = 0→Evals (ExC k a b) (exVal k a b)∧-1099511627776 ≤ exVal k a b∧exVal k a b ≤ 1099511627776)∧(exErr k a b ≠ 0→FailsE (ExC k a b) (exErr k a b)):=by
  have ka:=op_evals a1 a2
  have kb:=op_evals b1 b2
  rcases k with _ | _ | _ | _ | _ | _ | _ | k
  · by_cases c : a + b < -1099511627776 ∨ 1099511627776 < a + b
    · simp only [exErr,if_pos c]
      exact ⟨fun h => absurd h (by decide),fun _ => bin_over ka kb OpC.ok (sum1_is a b (by omega) (by omega)) c⟩
    · simp only [exErr,if_neg c]
      exact ⟨fun _ => ⟨bin_evals (c:=a + b) ka kb OpC.ok (sum1_is a b (by omega) (by omega)) (by omega) (by omega),by show _ ≤ a + b; omega,by show a + b ≤ _; omega⟩,fun h => absurd rfl h⟩
  · by_cases c : a - b < -1099511627776 ∨ 1099511627776 < a - b
    · simp only [exErr,if_pos c]
      exact ⟨fun h => absurd h (by decide),fun _ => bin_over ka kb OpC.ok (sum2_is a b (by omega) (by omega)) c⟩
    · simp only [exErr,if_neg c]
      exact ⟨fun _ => ⟨bin_evals (c:=a - b) ka kb OpC.ok (sum2_is a b (by omega) (by omega)) (by omega) (by omega),by show _ ≤ a - b; omega,by show a - b ≤ _; omega⟩,fun h => absurd rfl h⟩
  · by_cases c : a ≠ 0∧(1099511627776 : Int).tdiv (a.natAbs : Int) < (b.natAbs : Int)
    · simp only [exErr,if_pos c]
      exact ⟨fun h => absurd h (by decide),fun _ => bin_over (c:=1099511627777) ka kb OpC.ok (times_ev a b (by omega) (by omega) (by omega) (by omega) _ (fun h => absurd h c.1) (fun _ h => absurd c.2 h) (fun _ _ => rfl)) (.inr (by decide))⟩
    · simp only [exErr,if_neg c]
      have hin : -1099511627776 ≤ a * b∧a * b ≤ 1099511627776:=by
        by_cases h0 : a = 0
        · subst h0; simp
        · exact mul_in h0 (fun h => c ⟨h0,h⟩)
      exact ⟨fun _ => ⟨bin_evals (c:=a * b) ka kb OpC.ok (times_ev a b (by omega) (by omega) (by omega) (by omega) _ (fun h => by subst h; simp) (fun _ _ => ⟨rfl,by omega,by omega⟩) (fun h1 h2 => absurd ⟨h1,h2⟩ c)) (by omega) (by omega),hin.1,hin.2⟩,fun h => absurd rfl h⟩
  · by_cases c : b = 0
    · subst c
      simp only [exErr,if_pos]
      exact ⟨fun h => absurd h (by decide),fun _ => bin_fails ka kb OpC.ok (quo_fails a)⟩
    · have hin:=div_in (b:=b) a1 a2
      simp only [exErr,if_neg c]
      exact ⟨fun _ => ⟨bin_evals (c:=a.tdiv b) ka kb OpC.ok (quo_is a b c (by omega) (by omega)) (by omega) (by omega),hin.1,hin.2⟩,fun h => absurd rfl h⟩
  · by_cases c : b = 0
    · subst c
      simp only [exErr,if_pos]
      exact ⟨fun h => absurd h (by decide),fun _ => bin_fails ka kb OpC.ok (rem_fails a)⟩
    · have hin:=mod_in (b:=b) a1 a2
      simp only [exErr,if_neg c]
      exact ⟨fun _ => ⟨bin_evals (c:=a.tmod b) ka kb OpC.ok (rem_is a b c) (by omega) (by omega),hin.1,hin.2⟩,fun h => absurd rfl h⟩
  · simp only [exErr]
    have h:=cmp_evals ka kb OpC.ok (cmplt_is a b)
    rw [show (if decide (a < b) = true then (1 : Int) else 0) = exVal 5 a b from by simp [exVal]] at h
    exact ⟨fun _ => ⟨h,by show _ ≤ (if a < b then (1 : Int) else 0); split <;> omega,by show (if a < b then (1 : Int) else 0) ≤ _; split <;> omega⟩,fun h => absurd rfl h⟩
  · simp only [exErr]
    have h:=cmp_evals ka kb OpC.ok (cmpeq_is a b)
    rw [show (if decide (a = b) = true then (1 : Int) else 0) = exVal 6 a b from by simp [exVal]] at h
    exact ⟨fun _ => ⟨h,by show _ ≤ (if a = b then (1 : Int) else 0); split <;> omega,by show (if a = b then (1 : Int) else 0) ≤ _; split <;> omega⟩,fun h => absurd rfl h⟩
  · have h:=bin_evals (c:=exVal (k + 7) a b) ka kb OpC.ok (both1_is a b) (by show ¬ (if a ≠ 0∧b ≠ 0 then (1 : Int) else 0) < _; split <;> omega) (by show ¬ _ < (if a ≠ 0∧b ≠ 0 then (1 : Int) else 0); split <;> omega)
    exact ⟨fun _ => ⟨h,by show _ ≤ (if a ≠ 0∧b ≠ 0 then (1 : Int) else 0); split <;> omega,by show (if a ≠ 0∧b ≠ 0 then (1 : Int) else 0) ≤ _; split <;> omega⟩,fun h => absurd rfl h⟩
end Go.Hem
set_option maxRecDepth 10000
namespace Go.Hem
theorem clone_run : isV (xPure (Y prog polW memo0 tab 1000) 19 [oneV]) oneV = true:=by decide +kernel
theorem clone_pv : Pv prog polW 19 [oneV] oneV:=pv_of_y tab_ok memo0_ok rfl (isV_spec clone_run)
section
variable {pb Bl : Nat} {TK w : AV} {H : AHeap} {lo : Nat}
theorem run_print {Q : Nat→AV→AHeap→Prop} {n : Int} (hq : Evals Q n) (qk : QOk Q) (h1 : -9223372036854775808 ≤ n) (h2 : n ≤ 9223372036854775807) (hp : H.cells pb = some [TK,.slice Bl 0 1 1 1]) (hl : H.cells Bl = some [w]) (hR : PrintC Q lo w H) :
    Ev prog polW (.call 9 [.ptr pb 0,oneV,.sc (.int .i64 1),.sc (.int .i64 1)]) H fun o H' => ∃ v,o = .val v∧v = .tup [oneV,.agg [.sc .nils,.sc (.str ⟨(itoaL n ++ [10]).toArray⟩),.sc (.int .i64 1)],.sc (.int .i64 0)]:=by
  obtain ⟨T,b,w',hb,rfl,hT,hcb,hQ⟩:=hR
  have lb:=cells_lt hcb
  have key:=Run_one (H:=H) _ _ _ _ _ _ (by rfl) valid_pv clone_pv (st':=1) (e':=0) (l:=itoaL n ++ [10]) hp hl (exec_of hT callee_oexec rfl) (fun m H1 B w0 hm hB o1 g x => by
    have hcb1:=(o1.cells b lb (by simp)).trans hcb
    have hQ1:=qk.keep _ _ _ _ _ hQ o1 (fun b hb => by cases hb)
    refine (out_ev hq hQ1 g hcb1 h1 h2).mono ?_
    rintro o H2 ⟨v,rfl,rfl,O',g2,p2,o2⟩
    have xB:=(o2.cells B (cells_lt x) (by simp; omega)).trans x
    have hmn:=cells_lt (show H1.cells m = _ from g)
    refine ⟨_,rfl,rfl,B,_,O',g2,.inl ⟨rfl,xB⟩,o2.mono (fun b hb => by simp at hb ⊢; exact .inl hb),?_⟩
    rcases p2 with p2 | ⟨b2,q1,q2,q3,q4⟩
    · exact .inl p2
    · exact .inr ⟨b2,by omega,q2,q3,q4⟩)
  refine key.mono ?_
  rintro o H' ⟨v,rfl,rfl⟩
  exact ⟨_,rfl,rfl⟩
theorem run_fails {Q : Nat→AV→AHeap→Prop} {e : Int} (hq : FailsE Q e) (he : ¬ e = 0) (qk : QOk Q) (hp : H.cells pb = some [TK,.slice Bl 0 1 1 1]) (hl : H.cells Bl = some [w]) (hR : PrintC Q lo w H) :
    Ev prog polW (.call 9 [.ptr pb 0,oneV,.sc (.int .i64 1),.sc (.int .i64 1)]) H fun o H' => ∃ v,o = .val v∧v = .tup [s0V,r0V,.sc (.int .i64 e)]:=by
  obtain ⟨T,b,w',hb,rfl,hT,hcb,hQ⟩:=hR
  have lb:=cells_lt hcb
  have key:=Run_one (H:=H) _ _ _ _ _ _ (by rfl) valid_pv clone_pv (st':=1) (e':=e) (l:=[]) hp hl (exec_of hT callee_oexec rfl) (fun m H1 B w0 hm hB o1 g x => by
    have hcb1:=(o1.cells b lb (by simp)).trans hcb
    have hQ1:=qk.keep _ _ _ _ _ hQ o1 (fun b hb => by cases hb)
    refine (out_fails hq he hQ1 g hcb1 (by omega)).mono ?_
    rintro o H2 ⟨v,rfl,rfl,g2,o2⟩
    have xB:=(o2.cells B (cells_lt x) (by simp; omega)).trans x
    exact ⟨_,rfl,rfl,B,_,_,g2,.inl ⟨rfl,xB⟩,o2.mono (fun b hb => by simp at hb ⊢; exact .inl hb),.inl ⟨rfl,rfl⟩⟩)
  refine key.mono ?_
  rintro o H' ⟨v,rfl,rfl⟩
  exact ⟨_,rfl,if_neg he⟩
end
end Go.Hem
namespace Go.Hem
theorem cat_ok {a b : ByteArray} (h : a.size + b.size ≤ 1000) : bstrOf .add (.sc (.str a)) (.sc (.str b)) = some (.sc (.str (a ++ b))):=by
  unfold bstrOf
  simp only
  rw [if_neg]
  show ¬ (((a.size + b.size : Nat) : Int) > 9223372036854775807)
  omega
theorem cat_ba {l m : List UInt8} (h : l.length + m.length ≤ 1000) : bstrOf .add (.sc (.str ⟨l.toArray⟩)) (.sc (.str ⟨m.toArray⟩)) = some (.sc (.str ⟨(l ++ m).toArray⟩)):=by
  rw [cat_ok (by rw [ba_size,ba_size]; simpa using h)]
  congr 3
theorem e_remI {a b : Int} (hb : ¬ b = 0) : bintOf .rem (.sc (.int .i64 a)) (.sc (.int .i64 b)) = some (.sc (.int .i64 (a.tmod b))):=by
  unfold bintOf; simp [hb]
theorem ins_dec : insB prog 12 = true:=by kernel_rfl
theorem eff_dec (args : List AV) (H : AHeap) : polW.eff 12 args H = decEff args H:=rfl
theorem dec_call {n : Int} (h1 : -9223372036854775807 ≤ n) (h2 : n ≤ 9223372036854775807) (H : AHeap) : polW.eff 12 [.sc (.int .i64 n)] H = some (.sc (.str ⟨(itoaL n).toArray⟩),H):=by
  rw [eff_dec]
  simp only [decEff,h1,h2,and_self,if_true]
theorem dec_ev {n : Int} (h1 : -9223372036854775807 ≤ n) (h2 : n ≤ 9223372036854775807) (H : AHeap) : Ev prog polW (.call 12 [.sc (.int .i64 n)]) H fun o H' => ∃ v,o = .val v∧v = .sc (.str ⟨(itoaL n).toArray⟩)∧H' = H :=
  ev_eff ins_dec (dec_call h1 h2 H) ⟨_,rfl,rfl,rfl⟩
def operL (n : Int) : List UInt8:=if n < 0 then 40 :: 45 :: (decF 20 n.natAbs ++ [41]) else decF 20 n.natAbs
theorem operL_len {n : Int} (h1 : -2199023255552 ≤ n) (h2 : n ≤ 2199023255552) : (operL n).length ≤ 20:=by
  have hl:=decF_len 14 20 n.natAbs (by omega) (by decide)
  unfold operL
  split <;> simp <;> omega
theorem operand_ev {n : Int} (h1 : -2199023255552 ≤ n) (h2 : n ≤ 2199023255552) (H : AHeap) : Ev prog polW (.call 5 [.sc (.int .i64 n)]) H fun o H' => ∃ v,o = .val v∧v = .sc (.str ⟨(operL n).toArray⟩)∧H' = H:=by
  have hl:=decF_len 14 20 n.natAbs (by omega) (by decide)
  refine wpF_ok ok5 ?_
  by_cases c : n < 0
  · have wn : IntKind.i64.wrap (0 - n) = -n:=by rw [w64 (by omega) (by omega)]; omega
    have hd : itoaL (-n) = decF 20 n.natAbs:=by unfold itoaL; rw [if_neg (by omega)]; congr 1; omega
    have p1:=cat_ba (l:=[40,45]) (m:=decF 20 n.natAbs) (by simp; omega)
    have p2:=cat_ba (l:=40 :: 45 :: decF 20 n.natAbs) (m:=[41]) (by simp; omega)
    have e : operL n = 40 :: 45 :: (decF 20 n.natAbs ++ [41]):=by unfold operL; rw [if_pos c]
    simp -implicitDefEqProofs (maxDischargeDepth:=12) only [wpF,cf5,WZ,seval,c,s_prim]
    rw [e_neg (n:=n) rfl rfl,wn]
    simp -implicitDefEqProofs (maxDischargeDepth:=12) only [WZ,seval]
    refine wA_call rfl ((dec_ev (by omega) (by omega) _).mono ?_)
    rintro o H1 ⟨v,rfl,rfl,rfl⟩
    refine ⟨_,rfl,fun c hc => rfl,?_⟩
    simp -implicitDefEqProofs (maxDischargeDepth:=12) only [WZ,seval,hd,e,p1,p2]
  · have hd : itoaL n = decF 20 n.natAbs:=by unfold itoaL; rw [if_neg c]; congr 1; omega
    have e : operL n = decF 20 n.natAbs:=by unfold operL; rw [if_neg c]
    simp -implicitDefEqProofs (maxDischargeDepth:=12) only [wpF,cf5,WZ,seval,c]
    refine wA_call rfl ((dec_ev (by omega) (by omega) _).mono ?_)
    rintro o H1 ⟨v,rfl,rfl,rfl⟩
    refine ⟨_,rfl,fun c hc => rfl,?_⟩
    simp -implicitDefEqProofs (maxDischargeDepth:=12) only [WZ,seval,hd,e]
theorem abs_ev {n : Int} (h1 : -9223372036854775807 ≤ n) (h2 : n ≤ 9223372036854775807) (H : AHeap) : Ev prog polW (.call 8 [.sc (.int .i64 n)]) H fun o H' => ∃ v,o = .val v∧v = .sc (.int .i64 (n.natAbs : Int))∧H' = H:=by
  refine wpF_ok ok8 ?_
  by_cases c : n < 0
  · have wn : IntKind.i64.wrap (0 - n) = (n.natAbs : Int):=by rw [w64 (by omega) (by omega)]; omega
    simp -implicitDefEqProofs (maxDischargeDepth:=12) only [wpF,cf8,WZ,seval,c,s_prim]
    rw [e_neg (n:=n) rfl rfl,wn]
    simp -implicitDefEqProofs (maxDischargeDepth:=12) only [WZ,seval]
  · have wn : (n.natAbs : Int) = n:=by omega
    rw [wn]
    simp -implicitDefEqProofs (maxDischargeDepth:=12) only [wpF,cf8,WZ,seval,c]
theorem tru_ev (b : Bool) (H : AHeap) : Ev prog polW (.call 11 [.sc (.bool b)]) H fun o H' => ∃ v,o = .val v∧v = .sc (.int .i64 (if b = true then 1 else 0))∧H' = H:=by
  refine wpF_ok ok11 ?_
  cases b with
  | true => simp -implicitDefEqProofs (maxDischargeDepth:=12) only [wpF,cf11,WZ,seval]
  | false => simp -implicitDefEqProofs (maxDischargeDepth:=12) only [wpF,cf11,WZ,seval]
end Go.Hem
namespace Go.Hem
def opL (k : Nat) : List UInt8:=[[43],[45],[42],[47],[92],[60],[61,61],[97,110,100]].getD k []
theorem opd_text (a : Int) : textOf (opPcs a) = 32 :: operL a:=by
  unfold opPcs operL
  split <;> simp [textOf,Pc.bytes]
theorem opr_text {k : Nat} (h : k < 8) : textOf (oprPcs k) = 32 :: opL k:=by
  obtain rfl | rfl | rfl | rfl | rfl | rfl | rfl | rfl : k = 0 ∨ k = 1 ∨ k = 2 ∨ k = 3 ∨ k = 4 ∨ k = 5 ∨ k = 6 ∨ k = 7:=by omega
  all_goals rfl
theorem textOf_app (l m : List Pc) : textOf (l ++ m) = textOf l ++ textOf m:=by simp [textOf]
theorem ex_text {k : Nat} (h : k < 8) (a b : Int) : [112,114,105,110,116,32] ++ operL a ++ [32] ++ opL k ++ [32] ++ operL b ++ [59] = textOf (exPcs k a b):=by
  unfold exPcs
  rw [show ∀ (p : Pc) l,textOf (p :: l) = p.bytes ++ textOf l from fun _ _ => rfl,textOf_app,textOf_app,textOf_app,opd_text,opd_text,opr_text h]
  simp [Pc.bytes,textOf]
theorem opL_len (k : Nat) : (opL k).length ≤ 3:=by
  unfold opL
  rcases k with _ | _ | _ | _ | _ | _ | _ | _ | k <;> simp
section
variable {k : Nat} {A B W e : Int}
theorem ok_of (a1 : -1099511627776 ≤ A) (a2 : A ≤ 1099511627776) (b1 : -1099511627776 ≤ B) (b2 : B ≤ 1099511627776) (hE : exErr k A B = 0) (hV : exVal k A B = W) : Evals (ExC k A B) W∧-1099511627776 ≤ W∧W ≤ 1099511627776:=by
  have h:=(ex_eval k a1 a2 b1 b2).1 hE
  rw [hV] at h; exact h
end
theorem e_mulI {a b c : Int} (h : IntKind.i64.wrap (a * b) = c) : bintOf .mul (.sc (.int .i64 a)) (.sc (.int .i64 b)) = some (.sc (.int .i64 c)):=by
  rw [e_mul64,h]
theorem e_quoI {a b c : Int} (hb : ¬ b = 0) (h : IntKind.i64.wrap (a.tdiv b) = c) : bintOf .quo (.sc (.int .i64 a)) (.sc (.int .i64 b)) = some (.sc (.int .i64 c)):=by
  rw [e_quo64 hb,h]
theorem bn0 : bnilOf false .ptr (.sc .nilp) (.sc .nilp) = some (.sc (.bool true)):=rfl
theorem rep8 (x : AV) : rep 8 [x] = [x,x,x,x,x,x,x,x]:=rfl
abbrev RK (op K : Int) : Prop:=bintOf .rem (.sc (.int .i64 op)) (.sc (.int .i64 8)) = some (.sc (.int .i64 K))
theorem rk_of {op K : Int} {k : Nat} (hm : op.tmod 8 = (k : Int)) (h : (k : Int) = K) : RK op K:=by
  unfold RK
  rw [e_remI (by decide),hm,h]
theorem k_cases {k : Nat} {op : Int} (hk8 : k < 8) (hm : op.tmod 8 = (k : Int)) :
    (k = 0∧opL k = [43]∧RK op 0) ∨ (k = 1∧opL k = [45]∧RK op 1) ∨ (k = 2∧opL k = [42]∧RK op 2) ∨ (k = 3∧opL k = [47]∧RK op 3) ∨ (k = 4∧opL k = [92]∧RK op 4) ∨ (k = 5∧opL k = [60]∧RK op 5) ∨ (k = 6∧opL k = [61,61]∧RK op 6) ∨ (k = 7∧opL k = [97,110,100]∧RK op 7):=by
  obtain h | h | h | h | h | h | h | h : k = 0 ∨ k = 1 ∨ k = 2 ∨ k = 3 ∨ k = 4 ∨ k = 5 ∨ k = 6 ∨ k = 7:=by omega
  · exact .inl ⟨h,by rw [h]; rfl,rk_of hm (by omega)⟩
  · exact .inr (.inl ⟨h,by rw [h]; rfl,rk_of hm (by omega)⟩)
  · exact .inr (.inr (.inl ⟨h,by rw [h]; rfl,rk_of hm (by omega)⟩))
  · exact .inr (.inr (.inr (.inl ⟨h,by rw [h]; rfl,rk_of hm (by omega)⟩)))
  · exact .inr (.inr (.inr (.inr (.inl ⟨h,by rw [h]; rfl,rk_of hm (by omega)⟩))))
  · exact .inr (.inr (.inr (.inr (.inr (.inl ⟨h,by rw [h]; rfl,rk_of hm (by omega)⟩)))))
  · exact .inr (.inr (.inr (.inr (.inr (.inr (.inl ⟨h,by rw [h]; rfl,rk_of hm (by omega)⟩))))))
  · exact .inr (.inr (.inr (.inr (.inr (.inr (.inr ⟨h,by rw [h]; rfl,rk_of hm (by omega)⟩))))))
section
variable {a b op A B : Int} {k : Nat} (hk8 : k < 8) (hm : op.tmod 8 = (k : Int)) (hwn : IntKind.i64.wrap op = op) (rA : bintOf .rem (.sc (.int .i64 a)) (.sc (.int .i64 2199023255552)) = some (.sc (.int .i64 A))) (rB : bintOf .rem (.sc (.int .i64 b)) (.sc (.int .i64 2199023255552)) = some (.sc (.int .i64 B)))
include hk8 hm hwn rA rB
theorem law1_bad (bA : -2199023255552 < A∧A < 2199023255552) (bB : -2199023255552 < B∧B < 2199023255552) (hab : (A < -1099511627776 ∨ 1099511627776 < A) ∨ (B < -1099511627776 ∨ 1099511627776 < B)) :
    Pv prog polW 3 [.sc (.int .i64 a),.sc (.int .i64 b),.sc (.int .u8 op)] (.sc (.bool true)):=by
  have main : (1099511627776 : Int) < (A.natAbs : Int) ∨ (¬ (1099511627776 : Int) < (A.natAbs : Int)∧(1099511627776 : Int) < (B.natAbs : Int)):=by omega
  rcases main with nA | ⟨nA,nB⟩
  · rcases k_cases hk8 hm with ⟨hk,hop,rK⟩ | ⟨hk,hop,rK⟩ | ⟨hk,hop,rK⟩ | ⟨hk,hop,rK⟩ | ⟨hk,hop,rK⟩ | ⟨hk,hop,rK⟩ | ⟨hk,hop,rK⟩ | ⟨hk,hop,rK⟩
    all_goals
      have lA:=operL_len (n:=A) (by omega) (by omega)
      have lB:=operL_len (n:=B) (by omega) (by omega)
      have lK:=opL_len k
      have htx:=ex_text hk8 A B
      have p1:=cat_ba (l:=[112,114,105,110,116,32]) (m:=operL A) (by simp; omega)
      have p2:=cat_ba (l:=[112,114,105,110,116,32] ++ operL A) (m:=[32]) (by simp; omega)
      have p3:=cat_ba (l:=[112,114,105,110,116,32] ++ operL A ++ [32]) (m:=opL k) (by simp; omega)
      have p4:=cat_ba (l:=[112,114,105,110,116,32] ++ operL A ++ [32] ++ opL k) (m:=[32]) (by simp; omega)
      have p5:=cat_ba (l:=[112,114,105,110,116,32] ++ operL A ++ [32] ++ opL k ++ [32]) (m:=operL B) (by simp; omega)
      have p6:=cat_ba (l:=[112,114,105,110,116,32] ++ operL A ++ [32] ++ opL k ++ [32] ++ operL B) (m:=[59]) (by simp; omega)
      rw [hop] at p3 p4 p5 p6 htx
      simp only [List.cons_append,List.nil_append] at p1 p2 p3 p4 p5 p6 htx
      refine Pv_of' ok3 rfl ?_
      simp -implicitDefEqProofs (maxDischargeDepth:=12) only [wpF,cf3,WZ,seval,hwn,rK,rA,rB,rep8]
      refine wA_call rfl ((operand_ev (by omega) (by omega) _).mono ?_)
      rintro o H1 ⟨v,rfl,rfl,rfl⟩
      refine ⟨_,rfl,fun c hc => rfl,?_⟩
      simp -implicitDefEqProofs (maxDischargeDepth:=12) only [WZ,seval,p1,p2,p3,p4]
      refine wA_call rfl ((operand_ev (by omega) (by omega) _).mono ?_)
      rintro o H2 ⟨v,rfl,rfl,rfl⟩
      refine ⟨_,rfl,fun c hc => rfl,?_⟩
      simp -implicitDefEqProofs (maxDischargeDepth:=12) only [WZ,seval,p1,p2,p3,p4,p5,p6]
      refine wA_call rfl ((ex_bad (by omega) (by omega) hab _ htx _).mono ?_)
      rintro o H3 ⟨v,rfl,col,rfl⟩
      refine ⟨_,rfl,fun c hc => by simp at hc,?_⟩
      simp -implicitDefEqProofs (maxDischargeDepth:=12) only [WZ,seval]
      refine wA_pure rfl known_pv ?_
      simp -implicitDefEqProofs (maxDischargeDepth:=12) only [WZ,seval]
      refine wA_call rfl ((abs_ev (by omega) (by omega) _).mono ?_)
      rintro o H6 ⟨v,rfl,rfl,rfl⟩
      refine ⟨_,rfl,fun c hc => rfl,?_⟩
      simp -implicitDefEqProofs (maxDischargeDepth:=12) only [WZ,seval,gt_iff_lt,nA,bn0]
      exact frz_sc
  · rcases k_cases hk8 hm with ⟨hk,hop,rK⟩ | ⟨hk,hop,rK⟩ | ⟨hk,hop,rK⟩ | ⟨hk,hop,rK⟩ | ⟨hk,hop,rK⟩ | ⟨hk,hop,rK⟩ | ⟨hk,hop,rK⟩ | ⟨hk,hop,rK⟩
    all_goals
      have lA:=operL_len (n:=A) (by omega) (by omega)
      have lB:=operL_len (n:=B) (by omega) (by omega)
      have lK:=opL_len k
      have htx:=ex_text hk8 A B
      have p1:=cat_ba (l:=[112,114,105,110,116,32]) (m:=operL A) (by simp; omega)
      have p2:=cat_ba (l:=[112,114,105,110,116,32] ++ operL A) (m:=[32]) (by simp; omega)
      have p3:=cat_ba (l:=[112,114,105,110,116,32] ++ operL A ++ [32]) (m:=opL k) (by simp; omega)
      have p4:=cat_ba (l:=[112,114,105,110,116,32] ++ operL A ++ [32] ++ opL k) (m:=[32]) (by simp; omega)
      have p5:=cat_ba (l:=[112,114,105,110,116,32] ++ operL A ++ [32] ++ opL k ++ [32]) (m:=operL B) (by simp; omega)
      have p6:=cat_ba (l:=[112,114,105,110,116,32] ++ operL A ++ [32] ++ opL k ++ [32] ++ operL B) (m:=[59]) (by simp; omega)
      rw [hop] at p3 p4 p5 p6 htx
      simp only [List.cons_append,List.nil_append] at p1 p2 p3 p4 p5 p6 htx
      refine Pv_of' ok3 rfl ?_
      simp -implicitDefEqProofs (maxDischargeDepth:=12) only [wpF,cf3,WZ,seval,hwn,rK,rA,rB,rep8]
      refine wA_call rfl ((operand_ev (by omega) (by omega) _).mono ?_)
      rintro o H1 ⟨v,rfl,rfl,rfl⟩
      refine ⟨_,rfl,fun c hc => rfl,?_⟩
      simp -implicitDefEqProofs (maxDischargeDepth:=12) only [WZ,seval,p1,p2,p3,p4]
      refine wA_call rfl ((operand_ev (by omega) (by omega) _).mono ?_)
      rintro o H2 ⟨v,rfl,rfl,rfl⟩
      refine ⟨_,rfl,fun c hc => rfl,?_⟩
      simp -implicitDefEqProofs (maxDischargeDepth:=12) only [WZ,seval,p1,p2,p3,p4,p5,p6]
      refine wA_call rfl ((ex_bad (by omega) (by omega) hab _ htx _).mono ?_)
      rintro o H3 ⟨v,rfl,col,rfl⟩
      refine ⟨_,rfl,fun c hc => by simp at hc,?_⟩
      simp -implicitDefEqProofs (maxDischargeDepth:=12) only [WZ,seval]
      refine wA_pure rfl known_pv ?_
      simp -implicitDefEqProofs (maxDischargeDepth:=12) only [WZ,seval]
      refine wA_call rfl ((abs_ev (by omega) (by omega) _).mono ?_)
      rintro o H6 ⟨v,rfl,rfl,rfl⟩
      refine ⟨_,rfl,fun c hc => rfl,?_⟩
      simp -implicitDefEqProofs (maxDischargeDepth:=12) only [WZ,seval,gt_iff_lt,nA]
      refine wA_call rfl ((abs_ev (by omega) (by omega) _).mono ?_)
      rintro o H6 ⟨v,rfl,rfl,rfl⟩
      refine ⟨_,rfl,fun c hc => rfl,?_⟩
      simp -implicitDefEqProofs (maxDischargeDepth:=12) only [WZ,seval,gt_iff_lt,nB,bn0]
      exact frz_sc
variable (a1 : -1099511627776 ≤ A) (a2 : A ≤ 1099511627776) (b1 : -1099511627776 ≤ B) (b2 : B ≤ 1099511627776)
include a1 a2 b1 b2
theorem law1_err (hE : exErr k A B ≠ 0) : Pv prog polW 3 [.sc (.int .i64 a),.sc (.int .i64 b),.sc (.int .u8 op)] (.sc (.bool true)):=by
  have nA : ¬ (1099511627776 : Int) < (A.natAbs : Int):=by omega
  have nB : ¬ (1099511627776 : Int) < (B.natAbs : Int):=by omega
  have hev:=(ex_eval k a1 a2 b1 b2).2 hE
  have leaves : (opL k = [43]∧RK op 0∧exErr k A B = 14∧(1099511627776 : Int) < ((A + B).natAbs : Int)) ∨ (opL k = [45]∧RK op 1∧exErr k A B = 14∧(1099511627776 : Int) < ((A - B).natAbs : Int)) ∨ (opL k = [42]∧RK op 2∧exErr k A B = 14∧¬ A = 0∧(1099511627776 : Int).tdiv (A.natAbs : Int) < (B.natAbs : Int)) ∨ (opL k = [47]∧RK op 3∧exErr k A B = 15∧B = 0) ∨ (opL k = [92]∧RK op 4∧exErr k A B = 15∧B = 0):=by
    rcases k_cases hk8 hm with ⟨hk,hop,rK⟩ | ⟨hk,hop,rK⟩ | ⟨hk,hop,rK⟩ | ⟨hk,hop,rK⟩ | ⟨hk,hop,rK⟩ | ⟨hk,hop,rK⟩ | ⟨hk,hop,rK⟩ | ⟨hk,hop,rK⟩
    · by_cases c : A + B < -1099511627776 ∨ 1099511627776 < A + B
      · exact .inl ⟨hop,rK,by rw [hk]; exact if_pos c,by omega⟩
      · exact absurd (show exErr k A B = 0 by rw [hk]; exact if_neg c) hE
    · by_cases c : A - B < -1099511627776 ∨ 1099511627776 < A - B
      · exact .inr (.inl ⟨hop,rK,by rw [hk]; exact if_pos c,by omega⟩)
      · exact absurd (show exErr k A B = 0 by rw [hk]; exact if_neg c) hE
    · by_cases c : A ≠ 0∧(1099511627776 : Int).tdiv (A.natAbs : Int) < (B.natAbs : Int)
      · exact .inr (.inr (.inl ⟨hop,rK,by rw [hk]; exact if_pos c,c.1,c.2⟩))
      · exact absurd (show exErr k A B = 0 by rw [hk]; exact if_neg c) hE
    · by_cases c : B = 0
      · exact .inr (.inr (.inr (.inl ⟨hop,rK,by rw [hk]; exact if_pos c,c⟩)))
      · exact absurd (show exErr k A B = 0 by rw [hk]; exact if_neg c) hE
    · by_cases c : B = 0
      · exact .inr (.inr (.inr (.inr ⟨hop,rK,by rw [hk]; exact if_pos c,c⟩)))
      · exact absurd (show exErr k A B = 0 by rw [hk]; exact if_neg c) hE
    · exact absurd (show exErr k A B = 0 by rw [hk]; rfl) hE
    · exact absurd (show exErr k A B = 0 by rw [hk]; rfl) hE
    · exact absurd (show exErr k A B = 0 by rw [hk]; rfl) hE
  rcases leaves with ⟨hop,rK,he,f1⟩ | ⟨hop,rK,he,f1⟩ | ⟨hop,rK,he,f1,f2⟩ | ⟨hop,rK,he,f1⟩ | ⟨hop,rK,he,f1⟩
  all_goals
    rw [he] at hev
    have lA:=operL_len (n:=A) (by omega) (by omega)
    have lB:=operL_len (n:=B) (by omega) (by omega)
    have lK:=opL_len k
    have htx:=ex_text hk8 A B
    have p1:=cat_ba (l:=[112,114,105,110,116,32]) (m:=operL A) (by simp; omega)
    have p2:=cat_ba (l:=[112,114,105,110,116,32] ++ operL A) (m:=[32]) (by simp; omega)
    have p3:=cat_ba (l:=[112,114,105,110,116,32] ++ operL A ++ [32]) (m:=opL k) (by simp; omega)
    have p4:=cat_ba (l:=[112,114,105,110,116,32] ++ operL A ++ [32] ++ opL k) (m:=[32]) (by simp; omega)
    have p5:=cat_ba (l:=[112,114,105,110,116,32] ++ operL A ++ [32] ++ opL k ++ [32]) (m:=operL B) (by simp; omega)
    have p6:=cat_ba (l:=[112,114,105,110,116,32] ++ operL A ++ [32] ++ opL k ++ [32] ++ operL B) (m:=[59]) (by simp; omega)
    rw [hop] at p3 p4 p5 p6 htx
    simp only [List.cons_append,List.nil_append] at p1 p2 p3 p4 p5 p6 htx
    refine Pv_of' ok3 rfl ?_
    simp -implicitDefEqProofs (maxDischargeDepth:=12) only [wpF,cf3,WZ,seval,hwn,rK,rA,rB,rep8]
    refine wA_call rfl ((operand_ev (by omega) (by omega) _).mono ?_)
    rintro o H1 ⟨v,rfl,rfl,rfl⟩
    refine ⟨_,rfl,fun c hc => rfl,?_⟩
    simp -implicitDefEqProofs (maxDischargeDepth:=12) only [WZ,seval,p1,p2,p3,p4]
    refine wA_call rfl ((operand_ev (by omega) (by omega) _).mono ?_)
    rintro o H2 ⟨v,rfl,rfl,rfl⟩
    refine ⟨_,rfl,fun c hc => rfl,?_⟩
    simp -implicitDefEqProofs (maxDischargeDepth:=12) only [WZ,seval,p1,p2,p3,p4,p5,p6]
    refine wA_call rfl ((ex_parse a1 a2 b1 b2 _ htx _).mono ?_)
    rintro o H3 ⟨v,rfl,bo,TK,bl,w,rfl,hb,hl,hR⟩
    refine ⟨_,rfl,fun c hc => by simp at hc,?_⟩
    simp -implicitDefEqProofs (maxDischargeDepth:=12) only [WZ,seval]
    refine wA_pure rfl known_pv ?_
    simp -implicitDefEqProofs (maxDischargeDepth:=12) only [WZ,seval]
    refine wA_call rfl ((abs_ev (by omega) (by omega) _).mono ?_)
    rintro o H6 ⟨v,rfl,rfl,rfl⟩
    refine ⟨_,rfl,fun c hc => rfl,?_⟩
    simp -implicitDefEqProofs (maxDischargeDepth:=12) only [WZ,seval,gt_iff_lt,nA]
    refine wA_call rfl ((abs_ev (by omega) (by omega) _).mono ?_)
    rintro o H6 ⟨v,rfl,rfl,rfl⟩
    refine ⟨_,rfl,fun c hc => rfl,?_⟩
    simp -implicitDefEqProofs (maxDischargeDepth:=12) only [WZ,seval,gt_iff_lt,nB]
    refine wA_pure rfl one_pv ?_
    simp -implicitDefEqProofs (maxDischargeDepth:=12) only [WZ,seval]
    refine wA_call rfl ((run_fails hev (by decide) ExC.ok hb hl hR).mono ?_)
    rintro o H5 ⟨v,rfl,rfl⟩
    refine ⟨_,rfl,fun c hc => by simp at hc,?_⟩
    have c5 : ¬ (H5.next + 1 = H5.next):=by omega
    have c6 : ¬ (H5.next = H5.next + 1):=by omega
  · have q : IntKind.i64.wrap (A + B) = A + B:=by rw [w64 (by omega) (by omega)]
    simp -implicitDefEqProofs (maxDischargeDepth:=12) only [WZ,seval,s0V,r0V,q,c5,c6]
    refine wA_call rfl ((abs_ev (by omega) (by omega) _).mono ?_)
    rintro o H6 ⟨v,rfl,rfl,rfl⟩
    refine ⟨_,rfl,fun c hc => rfl,?_⟩
    simp -implicitDefEqProofs (maxDischargeDepth:=12) only [WZ,seval,gt_iff_lt,f1,c5,c6]
    exact frz_sc
  · have q : IntKind.i64.wrap (A - B) = A - B:=by rw [w64 (by omega) (by omega)]
    simp -implicitDefEqProofs (maxDischargeDepth:=12) only [WZ,seval,s0V,r0V,q,c5,c6]
    refine wA_call rfl ((abs_ev (by omega) (by omega) _).mono ?_)
    rintro o H6 ⟨v,rfl,rfl,rfl⟩
    refine ⟨_,rfl,fun c hc => rfl,?_⟩
    simp -implicitDefEqProofs (maxDischargeDepth:=12) only [WZ,seval,gt_iff_lt,f1,c5,c6]
    exact frz_sc
  · have na : ¬ (A.natAbs : Int) = 0:=by omega
    have q1 : -9223372036854775808 ≤ (1099511627776 : Int).tdiv (A.natAbs : Int):=by
      have:=Int.tdiv_nonneg (a:=1099511627776) (b:=(A.natAbs : Int)) (by decide) (by omega); omega
    have q2 : (1099511627776 : Int).tdiv (A.natAbs : Int) ≤ 9223372036854775807:=by
      have:=Int.tdiv_le_self (a:=1099511627776) (A.natAbs : Int) (by decide); omega
    have qq:=e_quoI na (w64 q1 q2)
    simp -implicitDefEqProofs (maxDischargeDepth:=12) only [WZ,seval,s0V,r0V,f1,c5,c6]
    refine wA_call rfl ((abs_ev (by omega) (by omega) _).mono ?_)
    rintro o H6 ⟨v,rfl,rfl,rfl⟩
    refine ⟨_,rfl,fun c hc => rfl,?_⟩
    simp -implicitDefEqProofs (maxDischargeDepth:=12) only [WZ,seval,f1,c5,c6]
    refine wA_call rfl ((abs_ev (by omega) (by omega) _).mono ?_)
    rintro o H6 ⟨v,rfl,rfl,rfl⟩
    refine ⟨_,rfl,fun c hc => rfl,?_⟩
    simp -implicitDefEqProofs (maxDischargeDepth:=12) only [WZ,seval,qq,gt_iff_lt,f2,c5,c6]
    exact frz_sc
  · simp -implicitDefEqProofs (maxDischargeDepth:=12) only [WZ,seval,s0V,r0V,f1,c5,c6]
    exact frz_sc
  · simp -implicitDefEqProofs (maxDischargeDepth:=12) only [WZ,seval,s0V,r0V,f1,c5,c6]
    exact frz_sc
theorem law1_ok (hE : exErr k A B = 0) : Pv prog polW 3 [.sc (.int .i64 a),.sc (.int .i64 b),.sc (.int .u8 op)] (.sc (.bool true)):=by
  have nA : ¬ (1099511627776 : Int) < (A.natAbs : Int):=by omega
  have nB : ¬ (1099511627776 : Int) < (B.natAbs : Int):=by omega
  obtain ⟨ql,hq1,hq2,hq3⟩ : ∃ q : List AV,oneV = .agg q∧q.length = 6∧AV.ones q = true:=⟨_,rfl,rfl,rfl⟩
  have leaves : (∃ W,opL k = [43]∧RK op 0∧exVal k A B = W∧A + B = W) ∨ (∃ W,opL k = [45]∧RK op 1∧exVal k A B = W∧A - B = W) ∨
      (∃ W,opL k = [42]∧RK op 2∧exVal k A B = W∧A * B = W∧A = 0) ∨ (∃ W,opL k = [42]∧RK op 2∧exVal k A B = W∧A * B = W∧¬ A = 0∧¬ (1099511627776 : Int).tdiv (A.natAbs : Int) < (B.natAbs : Int)) ∨
      (∃ W,opL k = [47]∧RK op 3∧exVal k A B = W∧A.tdiv B = W∧¬ B = 0) ∨ (∃ W,opL k = [92]∧RK op 4∧exVal k A B = W∧A.tmod B = W∧¬ B = 0) ∨
      (∃ W,opL k = [60]∧RK op 5∧exVal k A B = W∧W = 1∧A < B) ∨ (∃ W,opL k = [60]∧RK op 5∧exVal k A B = W∧W = 0∧¬ A < B) ∨
      (∃ W,opL k = [61,61]∧RK op 6∧exVal k A B = W∧W = 1∧A = B) ∨ (∃ W,opL k = [61,61]∧RK op 6∧exVal k A B = W∧W = 0∧¬ A = B) ∨
      (∃ W,opL k = [97,110,100]∧RK op 7∧exVal k A B = W∧W = 0∧A = 0) ∨ (∃ W,opL k = [97,110,100]∧RK op 7∧exVal k A B = W∧W = 0∧¬ A = 0∧B = 0) ∨ (∃ W,opL k = [97,110,100]∧RK op 7∧exVal k A B = W∧W = 1∧¬ A = 0∧¬ B = 0):=by
    rcases k_cases hk8 hm with ⟨hk,hop,rK⟩ | ⟨hk,hop,rK⟩ | ⟨hk,hop,rK⟩ | ⟨hk,hop,rK⟩ | ⟨hk,hop,rK⟩ | ⟨hk,hop,rK⟩ | ⟨hk,hop,rK⟩ | ⟨hk,hop,rK⟩
    · exact .inl (⟨_,hop,rK,rfl,by rw [hk]; rfl⟩)
    · exact .inr (.inl (⟨_,hop,rK,rfl,by rw [hk]; rfl⟩))
    · by_cases c : A = 0
      · exact .inr (.inr (.inl (⟨_,hop,rK,rfl,by rw [hk]; rfl,c⟩)))
      · exact .inr (.inr (.inr (.inl (⟨_,hop,rK,rfl,by rw [hk]; rfl,c,fun h => by rw [hk] at hE; exact absurd (hE.symm.trans (if_pos ⟨c,h⟩)) (by decide)⟩))))
    · by_cases c : B = 0
      · rw [hk] at hE; exact absurd (hE.symm.trans (if_pos c)) (by decide)
      · exact .inr (.inr (.inr (.inr (.inl (⟨_,hop,rK,rfl,by rw [hk]; rfl,c⟩)))))
    · by_cases c : B = 0
      · rw [hk] at hE; exact absurd (hE.symm.trans (if_pos c)) (by decide)
      · exact .inr (.inr (.inr (.inr (.inr (.inl (⟨_,hop,rK,rfl,by rw [hk]; rfl,c⟩))))))
    · by_cases c : A < B
      · exact .inr (.inr (.inr (.inr (.inr (.inr (.inl (⟨_,hop,rK,rfl,by rw [hk]; exact if_pos c,c⟩)))))))
      · exact .inr (.inr (.inr (.inr (.inr (.inr (.inr (.inl (⟨_,hop,rK,rfl,by rw [hk]; exact if_neg c,c⟩))))))))
    · by_cases c : A = B
      · exact .inr (.inr (.inr (.inr (.inr (.inr (.inr (.inr (.inl (⟨_,hop,rK,rfl,by rw [hk]; exact if_pos c,c⟩)))))))))
      · exact .inr (.inr (.inr (.inr (.inr (.inr (.inr (.inr (.inr (.inl (⟨_,hop,rK,rfl,by rw [hk]; exact if_neg c,c⟩))))))))))
    · by_cases c : A = 0
      · exact .inr (.inr (.inr (.inr (.inr (.inr (.inr (.inr (.inr (.inr (.inl (⟨_,hop,rK,rfl,by rw [hk]; exact if_neg (fun h => h.1 c),c⟩)))))))))))
      · by_cases d : B = 0
        · exact .inr (.inr (.inr (.inr (.inr (.inr (.inr (.inr (.inr (.inr (.inr (.inl (⟨_,hop,rK,rfl,by rw [hk]; exact if_neg (fun h => h.2 d),c,d⟩))))))))))))
        · exact .inr (.inr (.inr (.inr (.inr (.inr (.inr (.inr (.inr (.inr (.inr (.inr (⟨_,hop,rK,rfl,by rw [hk]; exact if_pos ⟨c,d⟩,c,d⟩))))))))))))
  rcases leaves with ⟨W,hop,rK,hV,f1⟩ | ⟨W,hop,rK,hV,f1⟩ | ⟨W,hop,rK,hV,f1,f2⟩ | ⟨W,hop,rK,hV,f1,f2,f3⟩ | ⟨W,hop,rK,hV,f1,f2⟩ | ⟨W,hop,rK,hV,f1,f2⟩ | ⟨W,hop,rK,hV,f1,f2⟩ | ⟨W,hop,rK,hV,f1,f2⟩ | ⟨W,hop,rK,hV,f1,f2⟩ | ⟨W,hop,rK,hV,f1,f2⟩ | ⟨W,hop,rK,hV,f1,f2⟩ | ⟨W,hop,rK,hV,f1,f2,f3⟩ | ⟨W,hop,rK,hV,f1,f2,f3⟩
  all_goals
    obtain ⟨hev,w1,w2⟩:=ok_of a1 a2 b1 b2 hE hV
    have nW : ¬ (1099511627776 : Int) < (W.natAbs : Int):=by omega
    have p7:=cat_ba (l:=itoaL W) (m:=[10]) (by have:=(itoaL_len (n:=W)).1; simp; omega)
    have lA:=operL_len (n:=A) (by omega) (by omega)
    have lB:=operL_len (n:=B) (by omega) (by omega)
    have lK:=opL_len k
    have htx:=ex_text hk8 A B
    have p1:=cat_ba (l:=[112,114,105,110,116,32]) (m:=operL A) (by simp; omega)
    have p2:=cat_ba (l:=[112,114,105,110,116,32] ++ operL A) (m:=[32]) (by simp; omega)
    have p3:=cat_ba (l:=[112,114,105,110,116,32] ++ operL A ++ [32]) (m:=opL k) (by simp; omega)
    have p4:=cat_ba (l:=[112,114,105,110,116,32] ++ operL A ++ [32] ++ opL k) (m:=[32]) (by simp; omega)
    have p5:=cat_ba (l:=[112,114,105,110,116,32] ++ operL A ++ [32] ++ opL k ++ [32]) (m:=operL B) (by simp; omega)
    have p6:=cat_ba (l:=[112,114,105,110,116,32] ++ operL A ++ [32] ++ opL k ++ [32] ++ operL B) (m:=[59]) (by simp; omega)
    rw [hop] at p3 p4 p5 p6 htx
    simp only [List.cons_append,List.nil_append] at p1 p2 p3 p4 p5 p6 htx
    refine Pv_of' ok3 rfl ?_
    simp -implicitDefEqProofs (maxDischargeDepth:=12) only [wpF,cf3,WZ,seval,hwn,rK,rA,rB,rep8]
    refine wA_call rfl ((operand_ev (by omega) (by omega) _).mono ?_)
    rintro o H1 ⟨v,rfl,rfl,rfl⟩
    refine ⟨_,rfl,fun c hc => rfl,?_⟩
    simp -implicitDefEqProofs (maxDischargeDepth:=12) only [WZ,seval,p1,p2,p3,p4]
    refine wA_call rfl ((operand_ev (by omega) (by omega) _).mono ?_)
    rintro o H2 ⟨v,rfl,rfl,rfl⟩
    refine ⟨_,rfl,fun c hc => rfl,?_⟩
    simp -implicitDefEqProofs (maxDischargeDepth:=12) only [WZ,seval,p1,p2,p3,p4,p5,p6]
    refine wA_call rfl ((ex_parse a1 a2 b1 b2 _ htx _).mono ?_)
    rintro o H3 ⟨v,rfl,bo,TK,bl,w,rfl,hb,hl,hR⟩
    refine ⟨_,rfl,fun c hc => by simp at hc,?_⟩
    simp -implicitDefEqProofs (maxDischargeDepth:=12) only [WZ,seval]
    refine wA_pure rfl known_pv ?_
    simp -implicitDefEqProofs (maxDischargeDepth:=12) only [WZ,seval]
    refine wA_call rfl ((abs_ev (by omega) (by omega) _).mono ?_)
    rintro o H6 ⟨v,rfl,rfl,rfl⟩
    refine ⟨_,rfl,fun c hc => rfl,?_⟩
    simp -implicitDefEqProofs (maxDischargeDepth:=12) only [WZ,seval,gt_iff_lt,nA]
    refine wA_call rfl ((abs_ev (by omega) (by omega) _).mono ?_)
    rintro o H6 ⟨v,rfl,rfl,rfl⟩
    refine ⟨_,rfl,fun c hc => rfl,?_⟩
    simp -implicitDefEqProofs (maxDischargeDepth:=12) only [WZ,seval,gt_iff_lt,nB]
    refine wA_pure rfl one_pv ?_
    simp -implicitDefEqProofs (maxDischargeDepth:=12) only [WZ,seval]
    refine wA_call rfl ((run_print hev ExC.ok (by omega) (by omega) hb hl hR).mono ?_)
    rintro o H5 ⟨v,rfl,rfl⟩
    refine ⟨_,rfl,fun c hc => by simp at hc,?_⟩
    have c5 : ¬ (H5.next + 1 = H5.next):=by omega
    have c6 : ¬ (H5.next = H5.next + 1):=by omega
  · have q : IntKind.i64.wrap (A + B) = W:=by rw [f1,w64 (by omega) (by omega)]
    simp -implicitDefEqProofs (maxDischargeDepth:=12) only [WZ,seval,q,hq1,hq2,hq3,c5,c6]
    refine wA_call rfl ((abs_ev (by omega) (by omega) _).mono ?_)
    rintro o H6 ⟨v,rfl,rfl,rfl⟩
    refine ⟨_,rfl,fun c hc => rfl,?_⟩
    simp -implicitDefEqProofs (maxDischargeDepth:=12) only [WZ,seval,gt_iff_lt,nW,c5,c6]
    refine wA_call rfl ((dec_ev (by omega) (by omega) _).mono ?_)
    rintro o H7 ⟨v,rfl,rfl,rfl⟩
    refine ⟨_,rfl,fun c hc => rfl,?_⟩
    simp -implicitDefEqProofs (maxDischargeDepth:=12) only [WZ,seval,c5,c6,p7]
    exact frz_sc
  · have q : IntKind.i64.wrap (A - B) = W:=by rw [f1,w64 (by omega) (by omega)]
    simp -implicitDefEqProofs (maxDischargeDepth:=12) only [WZ,seval,q,hq1,hq2,hq3,c5,c6]
    refine wA_call rfl ((abs_ev (by omega) (by omega) _).mono ?_)
    rintro o H6 ⟨v,rfl,rfl,rfl⟩
    refine ⟨_,rfl,fun c hc => rfl,?_⟩
    simp -implicitDefEqProofs (maxDischargeDepth:=12) only [WZ,seval,gt_iff_lt,nW,c5,c6]
    refine wA_call rfl ((dec_ev (by omega) (by omega) _).mono ?_)
    rintro o H7 ⟨v,rfl,rfl,rfl⟩
    refine ⟨_,rfl,fun c hc => rfl,?_⟩
    simp -implicitDefEqProofs (maxDischargeDepth:=12) only [WZ,seval,c5,c6,p7]
    exact frz_sc
  · obtain rfl : W = 0:=by rw [← f1,f2,Int.zero_mul]
    have w0 : IntKind.i64.wrap 0 = 0:=by decide
    simp -implicitDefEqProofs (maxDischargeDepth:=12) only [WZ,seval,e_mul64,Int.zero_mul,w0,f2,hq1,hq2,hq3,c5,c6]
    refine wA_call rfl ((abs_ev (by omega) (by omega) _).mono ?_)
    rintro o H6 ⟨v,rfl,rfl,rfl⟩
    refine ⟨_,rfl,fun c hc => rfl,?_⟩
    simp -implicitDefEqProofs (maxDischargeDepth:=12) only [WZ,seval,gt_iff_lt,nW,c5,c6]
    refine wA_call rfl ((dec_ev (by omega) (by omega) _).mono ?_)
    rintro o H7 ⟨v,rfl,rfl,rfl⟩
    refine ⟨_,rfl,fun c hc => rfl,?_⟩
    simp -implicitDefEqProofs (maxDischargeDepth:=12) only [WZ,seval,c5,c6,p7]
    exact frz_sc
  · have na : ¬ (A.natAbs : Int) = 0:=by omega
    have q1 : -9223372036854775808 ≤ (1099511627776 : Int).tdiv (A.natAbs : Int):=by
      have:=Int.tdiv_nonneg (a:=1099511627776) (b:=(A.natAbs : Int)) (by decide) (by omega); omega
    have q2 : (1099511627776 : Int).tdiv (A.natAbs : Int) ≤ 9223372036854775807:=by
      have:=Int.tdiv_le_self (a:=1099511627776) (A.natAbs : Int) (by decide); omega
    have qq:=e_quoI na (w64 q1 q2)
    have q:=e_mulI (show IntKind.i64.wrap (A * B) = W by rw [f1,w64 (by omega) (by omega)])
    simp -implicitDefEqProofs (maxDischargeDepth:=12) only [WZ,seval,q,f2,hq1,hq2,hq3,c5,c6]
    refine wA_call rfl ((abs_ev (by omega) (by omega) _).mono ?_)
    rintro o H6 ⟨v,rfl,rfl,rfl⟩
    refine ⟨_,rfl,fun c hc => rfl,?_⟩
    simp -implicitDefEqProofs (maxDischargeDepth:=12) only [WZ,seval,f2,hq1,hq2,hq3,c5,c6]
    refine wA_call rfl ((abs_ev (by omega) (by omega) _).mono ?_)
    rintro o H6 ⟨v,rfl,rfl,rfl⟩
    refine ⟨_,rfl,fun c hc => rfl,?_⟩
    simp -implicitDefEqProofs (maxDischargeDepth:=12) only [WZ,seval,q,qq,gt_iff_lt,f3,hq1,hq2,hq3,c5,c6]
    refine wA_call rfl ((abs_ev (by omega) (by omega) _).mono ?_)
    rintro o H6 ⟨v,rfl,rfl,rfl⟩
    refine ⟨_,rfl,fun c hc => rfl,?_⟩
    simp -implicitDefEqProofs (maxDischargeDepth:=12) only [WZ,seval,gt_iff_lt,nW,c5,c6]
    refine wA_call rfl ((dec_ev (by omega) (by omega) _).mono ?_)
    rintro o H7 ⟨v,rfl,rfl,rfl⟩
    refine ⟨_,rfl,fun c hc => rfl,?_⟩
    simp -implicitDefEqProofs (maxDischargeDepth:=12) only [WZ,seval,c5,c6,p7]
    exact frz_sc
  · have q:=e_quoI f2 (show IntKind.i64.wrap (A.tdiv B) = W by rw [f1,w64 (by omega) (by omega)])
    simp -implicitDefEqProofs (maxDischargeDepth:=12) only [WZ,seval,q,f2,hq1,hq2,hq3,c5,c6]
    refine wA_call rfl ((abs_ev (by omega) (by omega) _).mono ?_)
    rintro o H6 ⟨v,rfl,rfl,rfl⟩
    refine ⟨_,rfl,fun c hc => rfl,?_⟩
    simp -implicitDefEqProofs (maxDischargeDepth:=12) only [WZ,seval,gt_iff_lt,nW,c5,c6]
    refine wA_call rfl ((dec_ev (by omega) (by omega) _).mono ?_)
    rintro o H7 ⟨v,rfl,rfl,rfl⟩
    refine ⟨_,rfl,fun c hc => rfl,?_⟩
    simp -implicitDefEqProofs (maxDischargeDepth:=12) only [WZ,seval,c5,c6,p7]
    exact frz_sc
  · have q : bintOf .rem (.sc (.int .i64 A)) (.sc (.int .i64 B)) = some (.sc (.int .i64 W)):=by rw [e_rem64 f2,f1]
    have qq:=e_quo64 (a:=A) f2
    simp -implicitDefEqProofs (maxDischargeDepth:=12) only [WZ,seval,q,qq,f2,hq1,hq2,hq3,c5,c6]
    refine wA_call rfl ((abs_ev (by omega) (by omega) _).mono ?_)
    rintro o H6 ⟨v,rfl,rfl,rfl⟩
    refine ⟨_,rfl,fun c hc => rfl,?_⟩
    simp -implicitDefEqProofs (maxDischargeDepth:=12) only [WZ,seval,gt_iff_lt,nW,c5,c6]
    refine wA_call rfl ((dec_ev (by omega) (by omega) _).mono ?_)
    rintro o H7 ⟨v,rfl,rfl,rfl⟩
    refine ⟨_,rfl,fun c hc => rfl,?_⟩
    simp -implicitDefEqProofs (maxDischargeDepth:=12) only [WZ,seval,c5,c6,p7]
    exact frz_sc
  iterate 5
    · subst f1
      simp -implicitDefEqProofs (maxDischargeDepth:=12) only [WZ,seval,f2,hq1,hq2,hq3,c5,c6]
      refine wA_call rfl ((tru_ev _ _).mono ?_)
      rintro o H8 ⟨v,rfl,rfl,rfl⟩
      refine ⟨_,rfl,fun c hc => rfl,?_⟩
      simp -implicitDefEqProofs (maxDischargeDepth:=12) only [WZ,seval,c5,c6]
      refine wA_call rfl ((abs_ev (by omega) (by omega) _).mono ?_)
      rintro o H6 ⟨v,rfl,rfl,rfl⟩
      refine ⟨_,rfl,fun c hc => rfl,?_⟩
      simp -implicitDefEqProofs (maxDischargeDepth:=12) only [WZ,seval,gt_iff_lt,nW,c5,c6]
      refine wA_call rfl ((dec_ev (by omega) (by omega) _).mono ?_)
      rintro o H7 ⟨v,rfl,rfl,rfl⟩
      refine ⟨_,rfl,fun c hc => rfl,?_⟩
      simp -implicitDefEqProofs (maxDischargeDepth:=12) only [WZ,seval,c5,c6,p7]
      exact frz_sc
  all_goals
    subst f1
    simp -implicitDefEqProofs (maxDischargeDepth:=12) only [WZ,seval,f2,f3,hq1,hq2,hq3,c5,c6]
    refine wA_call rfl ((tru_ev _ _).mono ?_)
    rintro o H8 ⟨v,rfl,rfl,rfl⟩
    refine ⟨_,rfl,fun c hc => rfl,?_⟩
    simp -implicitDefEqProofs (maxDischargeDepth:=12) only [WZ,seval,c5,c6]
    refine wA_call rfl ((abs_ev (by omega) (by omega) _).mono ?_)
    rintro o H6 ⟨v,rfl,rfl,rfl⟩
    refine ⟨_,rfl,fun c hc => rfl,?_⟩
    simp -implicitDefEqProofs (maxDischargeDepth:=12) only [WZ,seval,gt_iff_lt,nW,c5,c6]
    refine wA_call rfl ((dec_ev (by omega) (by omega) _).mono ?_)
    rintro o H7 ⟨v,rfl,rfl,rfl⟩
    refine ⟨_,rfl,fun c hc => rfl,?_⟩
    simp -implicitDefEqProofs (maxDischargeDepth:=12) only [WZ,seval,c5,c6,p7]
    exact frz_sc
end
theorem law1_pv (a b op : Int) (a1 : -9223372036854775808 ≤ a) (a2 : a ≤ 9223372036854775807) (b1 : -9223372036854775808 ≤ b) (b2 : b ≤ 9223372036854775807) (o1 : 0 ≤ op) (o2 : op ≤ 255) : Pv prog polW 3 [.sc (.int .i64 a),.sc (.int .i64 b),.sc (.int .u8 op)] (.sc (.bool true)):=by
  have hwn : IntKind.i64.wrap op = op:=by rw [w64 (by omega) (by omega)]
  have rA:=e_remI (a:=a) (b:=2199023255552) (by decide)
  have rB:=e_remI (a:=b) (b:=2199023255552) (by decide)
  have tb : ∀ x : Int,-2199023255552 < x.tmod 2199023255552∧x.tmod 2199023255552 < 2199023255552:=fun x => by
    have h1:=Int.tmod_lt_of_pos x (show (0 : Int) < 2199023255552 by decide)
    have h2:=Int.lt_tmod_of_pos x (show (0 : Int) < 2199023255552 by decide)
    omega
  have bA:=tb a
  have bB:=tb b
  generalize a.tmod 2199023255552 = A at *
  generalize b.tmod 2199023255552 = B at *
  obtain ⟨k,hk8,hm⟩ : ∃ k : Nat,k < 8∧op.tmod 8 = (k : Int):=⟨op.toNat % 8,Nat.mod_lt _ (by decide),by rw [Int.tmod_eq_emod_of_nonneg o1]; omega⟩
  by_cases hab : (A < -1099511627776 ∨ 1099511627776 < A) ∨ (B < -1099511627776 ∨ 1099511627776 < B)
  · exact law1_bad hk8 hm hwn rA rB bA bB hab
  · by_cases hE : exErr k A B = 0
    · exact law1_ok hk8 hm hwn rA rB (by omega) (by omega) (by omega) (by omega) hE
    · exact law1_err hk8 hm hwn rA rB (by omega) (by omega) (by omega) (by omega) hE
end Go.Hem
