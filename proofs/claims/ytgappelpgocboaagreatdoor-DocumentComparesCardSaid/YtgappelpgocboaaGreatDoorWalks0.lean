/- Walks. -/
import Derived.Test.YtgappelpgocboaaGreatDoorHemTab
import Derived.Test.YtgappelpgocboaaGreatDoorPol53K
import Derived.Test.YtgappelpgocboaaGreatDoorHemSh53
import Derived.Test.YtgappelpgocboaaGreatDoorHemBun
import Derived.Test.YtgappelpgocboaaGreatDoorKSm
set_option maxRecDepth 10000
set_option maxHeartbeats 4000000
set_option linter.unusedSimpArgs false
set_option linter.unusedVariables false
namespace Go.Hem
def thenI (body : List AV→AHeap→Post→Prop) (n : Nat) (Q : Post) : Post:=fun e t' H' =>
  match e with
  | .normal => wpIter body n t' H' Q
  | .exit id => Q (.exit id) t' H'
  | .ret => Q .ret t' H'
section
variable {P : Program} {pol : Pol} {b : CC} {body : List AV→AHeap→Post→Prop} {n : Nat} {Q : Post} {t : List AV} {H : AHeap}
theorem wp_unroll (n : Nat) (h : wpC P pol b t H (thenI (wpC P pol b) n Q)) : wpC P pol (.loop b) t H Q:=⟨n + 1,h⟩
theorem wpI_succ (h : body t H (thenI body n Q)) : wpIter body (n + 1) t H Q:=h
theorem tI_normal : thenI body n Q .normal t H = wpIter body n t H Q:=rfl
theorem tI_exit {id : Nat} : thenI body n Q (.exit id) t H = Q (.exit id) t H:=rfl
theorem tI_ret : thenI body n Q .ret t H = Q .ret t H:=rfl
end
theorem WI : type_of% (And.intro @tI_normal <| And.intro @tI_exit <| And.intro @tI_ret WZ):=(And.intro @tI_normal <| And.intro @tI_exit <| And.intro @tI_ret WZ)
def cmpI (a b : Int) : Int:=if a < b then -1 else if b < a then 1 else 0
theorem cmpI_lt {a b : Int} (h : a < b) : cmpI a b = -1:=if_pos h
theorem cmpI_gt {a b : Int} (h : b < a) : cmpI a b = 1:=by unfold cmpI; rw [if_neg (by omega),if_pos h]
theorem cmpI_eq {a b : Int} (h1 : ¬ a < b) (h2 : ¬ b < a) : cmpI a b = 0:=by unfold cmpI; rw [if_neg h1,if_neg h2]
def cmpE (a b : Entry) : Int :=
  if cmpI a.clock b.clock ≠ 0 then cmpI a.clock b.clock else if cmpI a.site b.site ≠ 0 then cmpI a.site b.site else cmpI a.seq b.seq
theorem cmpE_cases (a b : Entry) : cmpE a b = -1 ∨ cmpE a b = 0 ∨ cmpE a b = 1:=by
  unfold cmpE cmpI
  repeat' split
  all_goals omega
theorem cmpE_neg (a b : Entry) : cmpE b a = - cmpE a b:=by
  unfold cmpE cmpI
  repeat' split
  all_goals omega
theorem cmpE_le (a b : Entry) : cmpE a b ≤ 0 ↔ (a.clock < b.clock ∨ a.clock = b.clock∧(a.site < b.site ∨ a.site = b.site∧a.seq ≤ b.seq)):=by
  unfold cmpE cmpI
  repeat' split
  all_goals omega
theorem cmpE_trans (a b c : Entry) (h1 : cmpE a b ≤ 0) (h2 : cmpE b c ≤ 0) : cmpE a c ≤ 0:=by
  rw [cmpE_le] at *
  omega
theorem e_neg {P : Program} {t : List AV} {o : Oper} {T : TypeId} {x : Operand} {n : Int} (ho : o.op = .unOp .neg T x) (hx : aev t x = .sc (.int .i64 n)) : aclosed P t o = some (.val (.sc (.int .i64 (IntKind.i64.wrap (0 - n))))):=by
  refine aclosed_of (v:=.int .i64 (IntKind.i64.wrap (0 - n))) ?_ ?_ rfl
  · simp [allClosed,ho,Op.operands,(closed_sc hx).2]
  · unfold execOp; simp only [ho,(closed_sc hx).1]; rfl
theorem nan_pv (x : Int) : Pv prog polK 17 [.sc (.int .i64 x)] (.sc (.bool false)):=by
  refine Pv_of' ok17 rfl ?_
  simp -implicitDefEqProofs (maxDischargeDepth:=12) only [wpF,cf17,WZ,seval]
  exact frz_sc
theorem cmp_pv (x y : Int) : Pv prog polK 8 [.sc (.int .i64 x),.sc (.int .i64 y)] (.sc (.int .i64 (cmpI x y))):=by
  refine Pv_of' ok8 rfl ?_
  simp -implicitDefEqProofs (maxDischargeDepth:=12) only [wpF,cf8,WZ,seval]
  refine wA_pure rfl (nan_pv x) ?_
  simp -implicitDefEqProofs (maxDischargeDepth:=12) only [WZ,seval]
  refine wA_pure rfl (nan_pv y) ?_
  by_cases h1 : x < y
  · rw [cmpI_lt h1]
    simp -implicitDefEqProofs (maxDischargeDepth:=12) only [WZ,seval,h1]
    exact frz_sc
  by_cases h2 : y < x
  · rw [cmpI_gt h2]
    simp -implicitDefEqProofs (maxDischargeDepth:=12) only [WZ,seval,h1,h2]
    exact frz_sc
  rw [cmpI_eq h1 h2]
  simp -implicitDefEqProofs (maxDischargeDepth:=12) only [WZ,seval,h1,h2]
  exact frz_sc
end Go.Hem
namespace Go.Hem
def or3 (x y z : Int) : Int:=if x = 0 then (if y = 0 then z else y) else x
theorem or_ev (x y z : Int) (B : Nat) (H : AHeap) (hb : H.cells B = some [.sc (.int .i64 x),.sc (.int .i64 y),.sc (.int .i64 z)]) :
    Ev prog polK (.call 7 [.slice B 0 3 3 1]) H fun o H' => ∃ v,o = .val v∧v = .sc (.int .i64 (or3 x y z))∧H' = H:=by
  have w1 : IntKind.i64.wrap 1 = 1:=by decide
  have w2 : IntKind.i64.wrap 2 = 2:=by decide
  have w3 : IntKind.i64.wrap 3 = 3:=by decide
  refine wpF_ok ok7 ?_
  simp -implicitDefEqProofs (maxDischargeDepth:=12) only [wpF,cf7,WZ,seval]
  refine wp_unroll 3 ?_
  by_cases hx : x = 0
  · rw [show or3 x y z = if y = 0 then z else y by unfold or3; rw [if_pos hx]]
    simp -implicitDefEqProofs (maxDischargeDepth:=12) only [WI,seval,hb,hx,w1]
    refine wpI_succ ?_
    by_cases hy : y = 0
    · rw [if_pos hy]
      simp -implicitDefEqProofs (maxDischargeDepth:=12) only [WI,seval,hb,hy,w2]
      refine wpI_succ ?_
      by_cases hz : z = 0
      · rw [hz] at hb ⊢
        simp -implicitDefEqProofs (maxDischargeDepth:=12) only [WI,seval,hb,w3]
        refine wpI_succ ?_
        simp -implicitDefEqProofs (maxDischargeDepth:=12) only [WI,seval,hb]
      · simp -implicitDefEqProofs (maxDischargeDepth:=12) only [WI,seval,hb,hz,w3]
    · rw [if_neg hy]
      simp -implicitDefEqProofs (maxDischargeDepth:=12) only [WI,seval,hb,hy,w2]
  · rw [show or3 x y z = x by unfold or3; rw [if_neg hx]]
    simp -implicitDefEqProofs (maxDischargeDepth:=12) only [WI,seval,hb,hx,w1]
theorem e_closed (a b : Entry) : AV.closedBs [a.enc,b.enc] = true:=by simp only [AV.closedBs,Entry.enc_closed,Bool.and_self]
theorem Compare_pv (a b : Entry) : Pv prog polK 4 [a.enc,b.enc] (.sc (.int .i64 (cmpE a b))):=by
  refine Pv_of' ok4 (e_closed a b) ?_
  simp -implicitDefEqProofs (maxDischargeDepth:=12) only [wpF,cf4,WZ,seval,a.enc_eq,b.enc_eq]
  refine wA_pure rfl (cmp_pv a.clock b.clock) ?_
  simp -implicitDefEqProofs (maxDischargeDepth:=12) only [WZ,seval]
  refine wA_pure rfl (cmp_pv a.site b.site) ?_
  simp -implicitDefEqProofs (maxDischargeDepth:=12) only [WZ,seval]
  refine wA_pure rfl (cmp_pv a.seq b.seq) ?_
  have hr : rep 3 [AV.sc (.int .i64 0)] = [.sc (.int .i64 0),.sc (.int .i64 0),.sc (.int .i64 0)]:=rfl
  simp -implicitDefEqProofs (maxDischargeDepth:=12) only [WZ,seval,hr]
  refine wA_call rfl ((or_ev (cmpI a.clock b.clock) (cmpI a.site b.site) (cmpI a.seq b.seq) 2 _ (by simp -implicitDefEqProofs (maxDischargeDepth:=12) only [WZ,seval])).mono ?_)
  rintro o H1 ⟨v,rfl,rfl,rfl⟩
  refine ⟨_,rfl,fun c hc => by simp at hc,?_⟩
  rw [show cmpE a b = or3 (cmpI a.clock b.clock) (cmpI a.site b.site) (cmpI a.seq b.seq) by unfold cmpE or3; by_cases h1 : cmpI a.clock b.clock = 0 <;> by_cases h2 : cmpI a.site b.site = 0 <;> simp [h1,h2]]
  simp -implicitDefEqProofs (maxDischargeDepth:=12) only [WZ,seval]
  exact frz_sc
end Go.Hem
namespace Go.Hem
theorem compare_pv (a b : Entry) : Pv prog polK 6 [a.enc,b.enc] (.sc (.int .i64 (cmpE a b))):=by
  refine Pv_of' ok6 (e_closed a b) ?_
  rw [show cmpE a b = or3 (cmpI a.clock b.clock) (cmpI a.site b.site) (cmpI a.seq b.seq) by unfold cmpE or3; by_cases h1 : cmpI a.clock b.clock = 0 <;> by_cases h2 : cmpI a.site b.site = 0 <;> simp [h1,h2]]
  have hr : rep 3 [AV.sc (.int .i64 0)] = [.sc (.int .i64 0),.sc (.int .i64 0),.sc (.int .i64 0)]:=rfl
  have w1 : IntKind.i64.wrap 1 = 1:=by decide
  have w2 : IntKind.i64.wrap 2 = 2:=by decide
  have w3 : IntKind.i64.wrap 3 = 3:=by decide
  simp -implicitDefEqProofs (maxDischargeDepth:=12) only [wpF,cf6,WZ,seval,hr,a.enc_eq,b.enc_eq]
  generalize hH : AHeap.alloc _ (Blk.cells [AV.sc (.int .i64 b.clock),AV.sc (.int .i64 b.site),AV.sc (.int .i64 b.seq)]) = H
  have h2 : H.cells 2 = some [.sc (.int .i64 a.clock),.sc (.int .i64 a.site),.sc (.int .i64 a.seq)]:=by rw [← hH]; rfl
  have h3 : H.cells 3 = some [.sc (.int .i64 b.clock),.sc (.int .i64 b.site),.sc (.int .i64 b.seq)]:=by rw [← hH]; rfl
  clear hH
  generalize AV.agg _ = A
  generalize AV.agg _ = B
  generalize a.clock = a1 at *
  generalize a.site = a2 at *
  generalize a.seq = a3 at *
  generalize b.clock = b1 at *
  generalize b.site = b2 at *
  generalize b.seq = b3 at *
  refine wp_unroll 3 ?_
  by_cases c1 : a1 < b1
  · rw [show or3 (cmpI a1 b1) (cmpI a2 b2) (cmpI a3 b3) = -1 by rw [cmpI_lt c1]; rfl]
    simp -implicitDefEqProofs (maxDischargeDepth:=12) only [WI,seval,h2,h3,c1]
    exact frz_sc
  by_cases d1 : b1 < a1
  · rw [show or3 (cmpI a1 b1) (cmpI a2 b2) (cmpI a3 b3) = 1 by rw [cmpI_gt d1]; rfl]
    simp -implicitDefEqProofs (maxDischargeDepth:=12) only [WI,seval,h2,h3,c1,d1]
    exact frz_sc
  rw [show or3 (cmpI a1 b1) (cmpI a2 b2) (cmpI a3 b3) = or3 0 (cmpI a2 b2) (cmpI a3 b3) by rw [cmpI_eq c1 d1]]
  simp -implicitDefEqProofs (maxDischargeDepth:=12) only [WI,seval,h2,h3,c1,d1,w1]
  refine wpI_succ ?_
  by_cases c2 : a2 < b2
  · rw [show or3 0 (cmpI a2 b2) (cmpI a3 b3) = -1 by rw [cmpI_lt c2]; rfl]
    simp -implicitDefEqProofs (maxDischargeDepth:=12) only [WI,seval,h2,h3,c2]
    exact frz_sc
  by_cases d2 : b2 < a2
  · rw [show or3 0 (cmpI a2 b2) (cmpI a3 b3) = 1 by rw [cmpI_gt d2]; rfl]
    simp -implicitDefEqProofs (maxDischargeDepth:=12) only [WI,seval,h2,h3,c2,d2]
    exact frz_sc
  rw [show or3 0 (cmpI a2 b2) (cmpI a3 b3) = cmpI a3 b3 by rw [cmpI_eq c2 d2]; rfl]
  simp -implicitDefEqProofs (maxDischargeDepth:=12) only [WI,seval,h2,h3,c2,d2,w2]
  refine wpI_succ ?_
  by_cases c3 : a3 < b3
  · rw [cmpI_lt c3]
    simp -implicitDefEqProofs (maxDischargeDepth:=12) only [WI,seval,h2,h3,c3]
    exact frz_sc
  by_cases d3 : b3 < a3
  · rw [cmpI_gt d3]
    simp -implicitDefEqProofs (maxDischargeDepth:=12) only [WI,seval,h2,h3,c3,d3]
    exact frz_sc
  rw [cmpI_eq c3 d3]
  simp -implicitDefEqProofs (maxDischargeDepth:=12) only [WI,seval,h2,h3,c3,d3,w3]
  refine wpI_succ ?_
  simp -implicitDefEqProofs (maxDischargeDepth:=12) only [WI,seval,h2,h3]
  exact frz_sc
end Go.Hem
namespace Go.Hem
theorem e_closed3 (a b c : Entry) : AV.closedBs [a.enc,b.enc,c.enc] = true:=by simp only [AV.closedBs,Entry.enc_closed,Bool.and_self]
theorem law3_pv (a b c : Entry) : Pv prog polK 3 [a.enc,b.enc,c.enc] (.sc (.bool true)):=by
  refine Pv_of' ok3 (e_closed3 a b c) ?_
  have hx:=cmpE_cases a b
  have hn:=cmpE_neg a b
  have ht:=cmpE_trans a b c
  simp -implicitDefEqProofs (maxDischargeDepth:=12) only [wpF,cf3,WZ,seval,a.enc_eq,b.enc_eq,c.enc_eq]
  simp only [← Entry.enc_eq]
  generalize hH : AHeap.alloc (AHeap.alloc (AHeap.alloc _ _) _) _ = H
  have h0 : H.cells 0 = some [.sc (.int .i64 a.clock),.sc (.int .i64 a.site),.sc (.int .i64 a.seq),.sc (.int .i64 a.cmd.kind),.sc (.int .i64 a.cmd.site),.sc (.int .i64 a.cmd.base),.sc (.int .i64 a.cmd.obj.site),.sc (.int .i64 a.cmd.obj.number),.sc (.int .i64 a.cmd.other.site),.sc (.int .i64 a.cmd.other.number),.sc (.int .i64 a.cmd.staff),.sc (.int .i64 a.cmd.voice),.sc (.int .i64 a.cmd.at_),.sc (.int .i64 a.cmd.index),.sc (.int .i64 a.cmd.number),.sc (.int .i64 a.cmd.value.log),.sc (.int .i64 a.cmd.value.dots),.sc (.int .i64 a.cmd.pitch.step),.sc (.int .i64 a.cmd.pitch.alter),.sc (.int .i64 a.cmd.pitch.octave),.sc (.int .i64 a.cmd.metre.count),.sc (.int .i64 a.cmd.metre.unit),.sc (.int .i64 a.cmd.metre.g0),.sc (.int .i64 a.cmd.metre.g1),.sc (.int .i64 a.cmd.metre.g2),.sc (.int .i64 a.cmd.metre.g3),.sc (.int .i64 a.cmd.metre.g4),.sc (.int .i64 a.cmd.metre.g5),.sc (.int .i64 a.cmd.interval.steps),.sc (.int .i64 a.cmd.interval.semitones),.sc (.str a.cmd.text)]:=by rw [← hH]; rfl
  have h1 : H.cells 1 = some [.sc (.int .i64 b.clock),.sc (.int .i64 b.site),.sc (.int .i64 b.seq),.sc (.int .i64 b.cmd.kind),.sc (.int .i64 b.cmd.site),.sc (.int .i64 b.cmd.base),.sc (.int .i64 b.cmd.obj.site),.sc (.int .i64 b.cmd.obj.number),.sc (.int .i64 b.cmd.other.site),.sc (.int .i64 b.cmd.other.number),.sc (.int .i64 b.cmd.staff),.sc (.int .i64 b.cmd.voice),.sc (.int .i64 b.cmd.at_),.sc (.int .i64 b.cmd.index),.sc (.int .i64 b.cmd.number),.sc (.int .i64 b.cmd.value.log),.sc (.int .i64 b.cmd.value.dots),.sc (.int .i64 b.cmd.pitch.step),.sc (.int .i64 b.cmd.pitch.alter),.sc (.int .i64 b.cmd.pitch.octave),.sc (.int .i64 b.cmd.metre.count),.sc (.int .i64 b.cmd.metre.unit),.sc (.int .i64 b.cmd.metre.g0),.sc (.int .i64 b.cmd.metre.g1),.sc (.int .i64 b.cmd.metre.g2),.sc (.int .i64 b.cmd.metre.g3),.sc (.int .i64 b.cmd.metre.g4),.sc (.int .i64 b.cmd.metre.g5),.sc (.int .i64 b.cmd.interval.steps),.sc (.int .i64 b.cmd.interval.semitones),.sc (.str b.cmd.text)]:=by rw [← hH]; rfl
  have h2 : H.cells 2 = some [.sc (.int .i64 c.clock),.sc (.int .i64 c.site),.sc (.int .i64 c.seq),.sc (.int .i64 c.cmd.kind),.sc (.int .i64 c.cmd.site),.sc (.int .i64 c.cmd.base),.sc (.int .i64 c.cmd.obj.site),.sc (.int .i64 c.cmd.obj.number),.sc (.int .i64 c.cmd.other.site),.sc (.int .i64 c.cmd.other.number),.sc (.int .i64 c.cmd.staff),.sc (.int .i64 c.cmd.voice),.sc (.int .i64 c.cmd.at_),.sc (.int .i64 c.cmd.index),.sc (.int .i64 c.cmd.number),.sc (.int .i64 c.cmd.value.log),.sc (.int .i64 c.cmd.value.dots),.sc (.int .i64 c.cmd.pitch.step),.sc (.int .i64 c.cmd.pitch.alter),.sc (.int .i64 c.cmd.pitch.octave),.sc (.int .i64 c.cmd.metre.count),.sc (.int .i64 c.cmd.metre.unit),.sc (.int .i64 c.cmd.metre.g0),.sc (.int .i64 c.cmd.metre.g1),.sc (.int .i64 c.cmd.metre.g2),.sc (.int .i64 c.cmd.metre.g3),.sc (.int .i64 c.cmd.metre.g4),.sc (.int .i64 c.cmd.metre.g5),.sc (.int .i64 c.cmd.interval.steps),.sc (.int .i64 c.cmd.interval.semitones),.sc (.str c.cmd.text)]:=by rw [← hH]; rfl
  clear hH
  refine wA_pure rfl (Compare_pv a b) ?_
  simp -implicitDefEqProofs (maxDischargeDepth:=12) only [WZ,seval]
  refine wA_pure rfl (Compare_pv b c) ?_
  simp -implicitDefEqProofs (maxDischargeDepth:=12) only [WZ,seval]
  refine wA_pure rfl (Compare_pv a c) ?_
  simp -implicitDefEqProofs (maxDischargeDepth:=12) only [WZ,seval]
  refine wA_pure rfl known_pv ?_
  simp -implicitDefEqProofs (maxDischargeDepth:=12) only [WZ,seval,h0,h1]
  simp only [← Entry.enc_eq]
  refine wA_pure rfl (compare_pv a b) ?_
  simp -implicitDefEqProofs (maxDischargeDepth:=12) only [WZ,seval,h0,h1]
  simp only [← Entry.enc_eq]
  refine wA_pure rfl (Compare_pv b a) ?_
  rw [hn]
  generalize cmpE a b = x at *
  generalize cmpE b c = y at *
  generalize cmpE a c = z at *
  have wn : IntKind.i64.wrap (0 - x) = -x:=by rcases hx with rfl | rfl | rfl <;> decide
  simp -implicitDefEqProofs (maxDischargeDepth:=12) only [WZ,seval,s_prim]
  rw [e_neg (n:=x) rfl rfl,wn]
  by_cases x1 : 0 < x
  · simp -implicitDefEqProofs (maxDischargeDepth:=12) only [WZ,seval,x1]
    exact frz_sc
  by_cases y1 : 0 < y
  · simp -implicitDefEqProofs (maxDischargeDepth:=12) only [WZ,seval,x1,y1]
    exact frz_sc
  have z1 : z ≤ 0:=ht (by omega) (by omega)
  simp -implicitDefEqProofs (maxDischargeDepth:=12) only [WZ,seval,x1,y1,z1]
  exact frz_sc
end Go.Hem
