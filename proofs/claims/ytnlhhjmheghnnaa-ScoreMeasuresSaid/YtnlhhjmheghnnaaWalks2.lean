/- Walks. -/
import Derived.Test.YtnlhhjmheghnnaaWalks1
import Derived.Test.YtnlhhjmheghnnaaWalks0
set_option maxRecDepth 10000
set_option maxHeartbeats 4000000
set_option linter.unusedSimpArgs false
set_option linter.unusedVariables false
namespace Go.Hem
variable {pol : Pol}
theorem ins103 : insB prog 103 = true := by decide +kernel
def Score.insM (s : Score) (i : Nat) (el : List Measure) : Score := { s.cl with measures := s.cl.measures.ins i (el.map Measure.cl) }
theorem insm_er (h23 : pol.pure 23 = true) (s : Score) (hT : Tame s) (i : Int) (l : Sl Measure) (h : i < 0 ∨ (s.measures.l.length : Int) < i) : Pv prog pol 56 [s.enc, .sc (.int .i64 i), slm Measure.enc l] (erAV 2) := by
  refine Pv_of' ok56 (by simp only [AV.closedBs, Score.enc_closed, AV.closedB, closedB_slm Measure.enc_closed, Bool.and_self]) ?_
  by_cases h0 : i < 0
  · simp -implicitDefEqProofs (maxDischargeDepth := 12) only [wpF, cf56, WW,List.replicate,e_splice,if_true,if_false,ite_true,ite_false,true_or,ne_eq,seval,h_putc,beq_self_eq_true,eq_self,exists_eq_left,exists_eq_left', s.enc_eq]
    rw [← s.enc_eq]
    refine wA_pure h23 (staves_pv s hT.staves hT.parts) ?_
    simp -implicitDefEqProofs (maxDischargeDepth := 12) only [WW,List.replicate,e_splice,if_true,if_false,ite_true,ite_false,true_or,ne_eq,seval,h_putc,beq_self_eq_true,eq_self,exists_eq_left,exists_eq_left', s.enc_eq, h0]
    exact frz_plain rfl (plain_er 2)
  · have h1 : (s.measures.l.length : Int) < i := by omega
    simp -implicitDefEqProofs (maxDischargeDepth := 12) only [wpF, cf56, WW,List.replicate,e_splice,if_true,if_false,ite_true,ite_false,true_or,ne_eq,seval,h_putc,beq_self_eq_true,eq_self,exists_eq_left,exists_eq_left', s.enc_eq]
    rw [← s.enc_eq]
    refine wA_pure h23 (staves_pv s hT.staves hT.parts) ?_
    simp -implicitDefEqProofs (maxDischargeDepth := 12) only [WW,List.replicate,e_splice,if_true,if_false,ite_true,ite_false,true_or,ne_eq,seval,h_putc,beq_self_eq_true,eq_self,exists_eq_left,exists_eq_left', s.enc_eq, h0, h1]
    exact frz_plain rfl (plain_er 2)
def ImPol (pol : Pol) : Prop := ClPol pol ∧ pol.pure 23 = true ∧ pol.pure 101 = false ∧ pol.pure 102 = false ∧ pol.pure 132 = false ∧ pol.pure 103 = false ∧ pol.eff = insPol
theorem insm_le (hp : ImPol pol) (s : Score) (hT : Tame s) (i : Nat) (hi : i ≤ s.measures.l.length) (l : Sl Measure) (hl : s.measures.l.length + l.l.length ≤ 1024) (hw : l.l.any (badM (stavesOf s.parts.l)) = true) : Pv prog pol 56 [s.enc, .sc (.int .i64 i), slm Measure.enc l] (erAV 20) := by
  obtain ⟨hc, h23, h101, h102, h132, h103, heff⟩ := hp
  refine Pv_of' ok56 (by simp only [AV.closedBs, Score.enc_closed, AV.closedB, closedB_slm Measure.enc_closed, Bool.and_self]) ?_
  have h0 : ¬ (i : Int) < 0 := by omega
  have h1 : ¬ (s.measures.l.length : Int) < (i : Int) := by omega
  have e2 : IntKind.i64.wrap ((s.measures.l.length : Int) + (l.l.length : Int)) = (s.measures.l.length : Int) + (l.l.length : Int) := by rw [w64 (by omega) (by omega)]
  have h2 : ¬ 1024 < (s.measures.l.length : Int) + (l.l.length : Int) := by omega
  simp -implicitDefEqProofs (maxDischargeDepth := 12) only [wpF, cf56, WW,List.replicate,e_splice,if_true,if_false,ite_true,ite_false,true_or,ne_eq,seval,h_putc,beq_self_eq_true,eq_self,exists_eq_left,exists_eq_left', s.enc_eq]
  rw [← s.enc_eq]
  refine wA_pure h23 (staves_pv s hT.staves hT.parts) ?_
  simp -implicitDefEqProofs (maxDischargeDepth := 12) only [WW,List.replicate,e_splice,if_true,if_false,ite_true,ite_false,true_or,ne_eq,seval,h_putc,beq_self_eq_true,eq_self,exists_eq_left,exists_eq_left', s.enc_eq, h0, h1, e2, h2]
  refine wA_call h101 ((cont_meas (badM (stavesOf s.parts.l)) h132 h102 (fun H x h => cne102 h x) (fun x => rfl) ?_ (by omega)).mono fun o H1 h => ?_)
  · simp -implicitDefEqProofs (maxDischargeDepth := 12) only [WW,List.replicate,e_splice,if_true,if_false,ite_true,ite_false,true_or,ne_eq,seval,h_putc,beq_self_eq_true,eq_self,exists_eq_left,exists_eq_left']
  obtain ⟨rfl, hK, hn⟩ := h
  refine ⟨_, rfl, by simp only [k_nil], ?_⟩
  have g0 : H1.cells 0 = some [.sc (.str s.title), .sc (.bool s.written), slm Part.enc s.parts, slm Measure.enc s.measures, slm Spanner.enc s.spanners, slm ID.enc s.last] := (hK 0 (by simp -implicitDefEqProofs (maxDischargeDepth := 12) only [WW,List.replicate,e_splice,if_true,if_false,ite_true,ite_false,true_or,ne_eq,seval,h_putc,beq_self_eq_true,eq_self,exists_eq_left,exists_eq_left'])).trans (by simp -implicitDefEqProofs (maxDischargeDepth := 12) only [WW,List.replicate,e_splice,if_true,if_false,ite_true,ite_false,true_or,ne_eq,seval,h_putc,beq_self_eq_true,eq_self,exists_eq_left,exists_eq_left'])
  have g1 : H1.cells 1 = some [.sc (.str ⟨#[]⟩), .sc (.bool false), .sc .nils, .sc .nils, .sc .nils, .sc .nils] := (hK 1 (by simp -implicitDefEqProofs (maxDischargeDepth := 12) only [WW,List.replicate,e_splice,if_true,if_false,ite_true,ite_false,true_or,ne_eq,seval,h_putc,beq_self_eq_true,eq_self,exists_eq_left,exists_eq_left'])).trans (by simp -implicitDefEqProofs (maxDischargeDepth := 12) only [WW,List.replicate,e_splice,if_true,if_false,ite_true,ite_false,true_or,ne_eq,seval,h_putc,beq_self_eq_true,eq_self,exists_eq_left,exists_eq_left'])
  simp -implicitDefEqProofs (maxDischargeDepth := 12) only [WW,List.replicate,e_splice,if_true,if_false,ite_true,ite_false,true_or,ne_eq,seval,h_putc,beq_self_eq_true,eq_self,exists_eq_left,exists_eq_left'] at hn
  rw [hw]
  simp -implicitDefEqProofs (maxDischargeDepth := 12) only [WW,List.replicate,e_splice,if_true,if_false,ite_true,ite_false,true_or,ne_eq,seval,h_putc,beq_self_eq_true,eq_self,exists_eq_left,exists_eq_left', g0, g1]
  exact frz_plain rfl (plain_er 20)
theorem insm_ok (hp : ImPol pol) (s : Score) (hs : s.tame) (hT : Tame s) (i : Nat) (hi : i ≤ s.measures.l.length) (l : Sl Measure) (hlt : ∀ m ∈ l.l, m.tame) (hl : s.measures.l.length + l.l.length ≤ 1024) (hw : l.l.any (badM (stavesOf s.parts.l)) = false) : Pv prog pol 56 [s.enc, .sc (.int .i64 i), slm Measure.enc l] (okAV (s.insM i l.l)) := by
  obtain ⟨hc, h23, h101, h102, h132, h103, heff⟩ := hp
  refine Pv_of' ok56 (by simp only [AV.closedBs, Score.enc_closed, AV.closedB, closedB_slm Measure.enc_closed, Bool.and_self]) ?_
  have h0 : ¬ (i : Int) < 0 := by omega
  have h1 : ¬ (s.measures.l.length : Int) < (i : Int) := by omega
  have e2 : IntKind.i64.wrap ((s.measures.l.length : Int) + (l.l.length : Int)) = (s.measures.l.length : Int) + (l.l.length : Int) := by rw [w64 (by omega) (by omega)]
  have h2 : ¬ 1024 < (s.measures.l.length : Int) + (l.l.length : Int) := by omega
  simp -implicitDefEqProofs (maxDischargeDepth := 12) only [wpF, cf56, WW,List.replicate,e_splice,if_true,if_false,ite_true,ite_false,true_or,ne_eq,seval,h_putc,beq_self_eq_true,eq_self,exists_eq_left,exists_eq_left', s.enc_eq]
  rw [← s.enc_eq]
  refine wA_pure h23 (staves_pv s hT.staves hT.parts) ?_
  simp -implicitDefEqProofs (maxDischargeDepth := 12) only [WW,List.replicate,e_splice,if_true,if_false,ite_true,ite_false,true_or,ne_eq,seval,h_putc,beq_self_eq_true,eq_self,exists_eq_left,exists_eq_left', s.enc_eq, h0, h1, e2, h2]
  refine wA_call h101 ((cont_meas (badM (stavesOf s.parts.l)) h132 h102 (fun H x h => cne102 h x) (fun x => rfl) ?_ (by omega)).mono fun o H1 h => ?_)
  · simp -implicitDefEqProofs (maxDischargeDepth := 12) only [WW,List.replicate,e_splice,if_true,if_false,ite_true,ite_false,true_or,ne_eq,seval,h_putc,beq_self_eq_true,eq_self,exists_eq_left,exists_eq_left']
  obtain ⟨rfl, hK, hn⟩ := h
  refine ⟨_, rfl, by simp only [k_nil], ?_⟩
  have g0 : H1.cells 0 = some [.sc (.str s.title), .sc (.bool s.written), slm Part.enc s.parts, slm Measure.enc s.measures, slm Spanner.enc s.spanners, slm ID.enc s.last] := (hK 0 (by simp -implicitDefEqProofs (maxDischargeDepth := 12) only [WW,List.replicate,e_splice,if_true,if_false,ite_true,ite_false,true_or,ne_eq,seval,h_putc,beq_self_eq_true,eq_self,exists_eq_left,exists_eq_left'])).trans (by simp -implicitDefEqProofs (maxDischargeDepth := 12) only [WW,List.replicate,e_splice,if_true,if_false,ite_true,ite_false,true_or,ne_eq,seval,h_putc,beq_self_eq_true,eq_self,exists_eq_left,exists_eq_left'])
  have g1 : H1.cells 1 = some [.sc (.str ⟨#[]⟩), .sc (.bool false), .sc .nils, .sc .nils, .sc .nils, .sc .nils] := (hK 1 (by simp -implicitDefEqProofs (maxDischargeDepth := 12) only [WW,List.replicate,e_splice,if_true,if_false,ite_true,ite_false,true_or,ne_eq,seval,h_putc,beq_self_eq_true,eq_self,exists_eq_left,exists_eq_left'])).trans (by simp -implicitDefEqProofs (maxDischargeDepth := 12) only [WW,List.replicate,e_splice,if_true,if_false,ite_true,ite_false,true_or,ne_eq,seval,h_putc,beq_self_eq_true,eq_self,exists_eq_left,exists_eq_left'])
  simp -implicitDefEqProofs (maxDischargeDepth := 12) only [WW,List.replicate,e_splice,if_true,if_false,ite_true,ite_false,true_or,ne_eq,seval,h_putc,beq_self_eq_true,eq_self,exists_eq_left,exists_eq_left'] at hn
  rw [hw]
  simp -implicitDefEqProofs (maxDischargeDepth := 12) only [WW,List.replicate,e_splice,if_true,if_false,ite_true,ite_false,true_or,ne_eq,seval,h_putc,beq_self_eq_true,eq_self,exists_eq_left,exists_eq_left', g0, g1]
  rw [← s.enc_eq]
  refine wA_call (hc _ (by decide)) ((sClone_ok2 hc s hs _).mono ?_)
  rintro o H2 ⟨cs, fp, rfl, ho, hlc, hones, ⟨-, hrn⟩, hF, hN, hK2⟩
  refine ⟨_, rfl, by simp only [k_nil], ?_⟩
  have x1 := hK2.cells g1 (by omega)
  generalize hq : H2.next = q
  have hlt2 := ho.lts
  have hsp : splice [.sc (.str ⟨#[]⟩), .sc (.bool false), .sc .nils, .sc .nils, .sc .nils, .sc .nils] 0 cs = cs := splice_full hlc.symm
  have m1 : (216 : Int) * ((l.l.length : Nat) : Int) ≤ 140737488355328 := by omega
  have m2 : l.l.length < 2 ^ 40 := by omega
  simp -implicitDefEqProofs (maxDischargeDepth := 12) only [WW,List.replicate,if_true,if_false,ite_true,ite_false,true_or,ne_eq,seval,beq_self_eq_true,eq_self,exists_eq_left,exists_eq_left', hones, hlc, hq, hsp, mksOf, m1, m2]
  generalize hHA : AHeap.put _ q _ = HA
  have nA : HA.next = q + 1 := by subst hHA; simp only [AHeap.next_put, AHeap.next_alloc, hq]
  have a0 : ∀ b, b < q → HA.cells b = H2.cells b := fun b hb => by
    subst hHA
    rw [c_put_ne (by omega), c_alloc_ne (by omega)]
  have aq : HA.cells q = some cs := by
    subst hHA
    refine h_put_self (y := [.sc (.str ⟨#[]⟩), .sc (.bool false), .sc .nils, .sc .nils, .sc .nils, .sc .nils]) ?_
    rw [h_alloc, if_pos hq.symm]
  clear hHA
  have hR : ∀ b ∈ fp, 3 ≤ b ∧ b < q := fun b hb => ⟨by have := hF b hb; omega, by have := hlt2 b hb; omega⟩
  have hN : 3 ≤ q := by omega
  have hoA : OwnL (OwnX false 7) HA cs s.cl.enc.cells fp := ho.fr fun b hb => a0 b (hR b hb).2
  have xA := (a0 1 (by omega)).trans x1
  refine wp_loop (Inv := fun k t H => ∃ (j : Nat) (fp2 : List Nat) (a : AV), j + k = l.l.length ∧ (∀ b, b < q + 1 → H.cells b = HA.cells b) ∧ AccX false 5 22 Measure.enc H a (some ((l.l.take j).map Measure.cl)) fp2 ∧ (∀ b ∈ fp2, q + 1 ≤ b) ∧ q + 1 ≤ H.next ∧
    ∃ y : Nat → AV, t = [s.enc, .sc (.int .i64 i), slm Measure.enc l, .ptr 0 0, y 4, y 5, .ptr 1 0, .sc (.int .i64 0), .ptr 2 0, .ptr q 0, a, y 11, y 12, y 13, y 14, y 15, y 16, y 17, y 18, y 19, y 20, y 21, y 22, y 23, y 24, y 25, y 26, y 27, y 28, y 29, y 30, y 31, y 32, y 33, y 34, y 35, y 36, y 37, y 38, y 39, y 40, y 41, y 42, y 43, y 44, slm Measure.enc l, .sc (.int .i64 l.l.length), .sc (.int .i64 j), y 48, y 49, y 50, y 51, y 52, y 53, y 54, y 55, y 56, y 57, y 58, y 59, y 60, y 61, y 62, y 63]) (k := l.l.length) ?_
    ⟨0, [q + 1], _, by omega, ?_, ?_, ?_, ?_, ex_x rfl⟩
  rotate_left
  · intro b hb; rw [c_alloc_ne (by omega)]
  · refine acc_room (z := [.sc (.int .i64 0), .sc (.int .i64 0), .sc (.int .i64 0), .sc (.int .i64 0), .sc (.int .i64 0), .sc (.int .i64 0), .sc (.int .i64 0), .sc (.int .i64 0), .sc (.int .i64 0), .sc (.int .i64 0), .sc (.int .i64 0), .sc (.int .i64 0), .sc (.bool false), .sc (.int .i64 0), .sc (.int .i64 0), .sc (.int .i64 0), .sc (.int .i64 0), .sc (.int .i64 0), .sc (.int .i64 0), .sc (.str ⟨#[]⟩), .sc .nils, .sc .nils]) rfl ?_
    rw [h_alloc, if_pos nA.symm]
  · intro b hb; simp only [List.mem_singleton] at hb; omega
  · simp only [AHeap.next_alloc]; omega
  rintro k t H ⟨j, fp2, a, hk, hKp, hE, hfp, hNx, y, rfl⟩
  have hA := (hKp q (by omega)).trans aq
  have hB := (hKp 1 (by omega)).trans xA
  by_cases c1 : (j : Int) < (l.l.length : Int)
  · obtain ⟨e, he⟩ : ∃ y, l.l[j]? = some y := ⟨_, List.getElem?_eq_getElem (by omega)⟩
    have e3 : IntKind.i64.wrap ((j : Int) + 1) = ((j + 1 : Nat) : Int) := by rw [w64 (by omega) (by omega)]; omega
    simp -implicitDefEqProofs (maxDischargeDepth := 12) only [WW,List.replicate,e_splice,if_true,if_false,ite_true,ite_false,true_or,ne_eq,seval,h_putc,beq_self_eq_true,eq_self,exists_eq_left,exists_eq_left', c1, he, e.enc_eq]
    rw [← e.enc_eq]
    refine wA_call (hc _ (by decide)) ((mClone_ok hc e (hlt e (List.mem_of_getElem? he)) _).mono ?_)
    rintro o H3 ⟨cm, fp3, rfl, hom, hlm, honm, hF3, hN3, hK3⟩
    refine ⟨_, rfl, by simp only [k_nil], ?_⟩
    simp only [AHeap.next_alloc, AHeap.next_put] at hF3 hN3
    have hold : ∀ b, b < H.next → H3.cells b = H.cells b := fun b hb => by
      rw [hK3 b (by simp only [AHeap.next_alloc, AHeap.next_put]; omega), c_put_ne (by omega), c_alloc_ne (by omega)]
    have hE1 : AccX false 5 22 Measure.enc H3 a (some ((l.l.take j).map Measure.cl)) fp2 := hE.fr fun b hb => hold b (hE.lts b hb)
    simp -implicitDefEqProofs (maxDischargeDepth := 12) only [WW,List.replicate,e_splice,if_true,if_false,ite_true,ite_false,true_or,ne_eq,seval,h_putc,beq_self_eq_true,eq_self,exists_eq_left,exists_eq_left', hlm, honm, ones_take hlm]
    have apf : Apart fp2 fp3 := fun b hb hb2 => by
      have := hE.lts b hb
      have := hF3 b hb2; omega
    refine wA_app2 row_Measure hE1 (by repeat (first | exact Keep.refl | refine Keep.put (by (try simp only [AHeap.next_alloc, AHeap.next_put]); omega) ?_ | refine Keep.alloc (by (try simp only [AHeap.next_alloc, AHeap.next_put]); omega) ?_)) (by simp) (ys := [e.cl]) (by simp) rfl (asrc_new rfl (by simpa using hlm)) (fp1 := fp3) (by
      have : ([e.cl].flatMap fun y => (Measure.enc y).cells) = (e.cl).enc.cells := by simp
      rw [this]
      exact hom.fr fun b hb => c_alloc_ne (by have := hom.lts b hb; omega)) apf ?_ ?_
    · simp only [Sl.l, Option.getD_some, List.length_map, List.length_take, List.length_cons, List.length_nil]; omega
    intro v' H4 fp' hE' hn4 hk4 hfp4 ho4 hc4
    rw [some_map_succ he] at hE'
    have hfp5 : ∀ b ∈ fp', q + 1 ≤ b := fun b hb => by
      rcases hfp4 b hb with h | h | h
      · exact hfp b h
      · have := hF3 b h; omega
      · omega
    simp -implicitDefEqProofs (maxDischargeDepth := 12) only [WW,List.replicate,e_splice,if_true,if_false,ite_true,ite_false,true_or,ne_eq,seval,h_putc,beq_self_eq_true,eq_self,exists_eq_left,exists_eq_left', e3]
    refine ⟨k - 1, by omega, j + 1, fp', v', by omega, fun b hb => ?_, hE', hfp5, by omega, ex_x rfl⟩
    rw [hk4 b (fun h => by have := hfp b h; omega) (by omega), hold b (by omega), hKp b hb]
  have hj : j = l.l.length := by omega
  subst hj
  rw [List.take_length] at hE
  have hoH : OwnL (OwnX false 7) H cs s.cl.enc.cells fp := hoA.fr fun b hb => hKp b (by have := hR b hb; omega)
  obtain ⟨v2, v3, v4, v5, f2, f3, f4, f5, rfl, d2, d3, d4, d5, s2, s3, s4, s5⟩ := own6 hoH
  obtain ⟨v, f3, e3, w1, w2, w3⟩ := hoH.fit (j := 3) (u := slm Measure.enc s.cl.measures) rfl
  cases e3
  simp only [List.getD_cons_zero, List.getD_cons_succ] at hrn
  have hml : s.cl.measures.l.length = s.measures.l.length := by show (s.measures.l.map Measure.cl).length = _; rw [List.length_map]
  rcases hE with ⟨_, h, _⟩ | ⟨b, cap, cb, rest, fb, l', h5, rfl, h6, h7, h8, h9, h10, h11, rfl⟩
  · cases h
  cases h5
  have hbq : q + 1 ≤ b := hfp b (by simp)
  have hblt := h_lt h7
  have hfb := h10.lts
  simp -implicitDefEqProofs (maxDischargeDepth := 12) only [WW,List.replicate,e_splice,if_true,if_false,ite_true,ite_false,true_or,ne_eq,seval,h_putc,beq_self_eq_true,eq_self,exists_eq_left,exists_eq_left', hA, c1]
  obtain ⟨v', H6, f6, t1, t2, t3, t4, t5⟩ := ins_own (d := 6) (by' := 216) (i := i) (bv := b) (m := (l.l.map Measure.cl).length) (cp := cap) (nv := 22) (H := H) (el := l.l.map Measure.cl) (ys := cb) (fx := fb) row_Measure (by decide) w1 hrn (by rw [hml]; exact hi) h7 rfl (by rw [List.length_append]; omega) (by rw [List.take_left' h8]) (OwnL.mono h10 (by decide))
    (fun c hc hc2 => by have := hR c (w2 c hc); have := hfp c (by simp [hc2]); omega) (fun h => by have := hR _ (w2 _ h); omega) (by rw [hml, List.length_map]; omega) (by rw [hml, List.length_map]; omega)
  have hei : pol.eff 103 [v3, .sc (.int .i64 i), .slice b 0 (l.l.map Measure.cl).length cap 22] H = some (v', H6) := by rw [heff]; exact t1
  refine wA_call h103 (ev_eff ins103 hei ⟨_, rfl, by simp only [k_nil], ?_⟩)
  have u : ∀ c, c < q + 1 → c ∉ f3 → H6.cells c = H.cells c := fun c hc hc2 => t4 c hc2 (by omega)
  have nq : ¬ 1 = q := by omega
  have nq' : ¬ q = 1 := by omega
  have u1 := (u 1 (by omega) (fun h => by have := hR _ (w2 _ h); omega)).trans hB
  have uq := (u q (by omega) (fun h => by have := hR _ (w2 _ h); omega)).trans hA
  simp -implicitDefEqProofs (maxDischargeDepth := 12) only [WW,List.replicate,e_splice,if_true,if_false,ite_true,ite_false,true_or,ne_eq,seval,h_putc,beq_self_eq_true,eq_self,exists_eq_left,exists_eq_left', u1, uq, nq, nq', (own_len d2).2.1, (own_len d4).2.1, (own_len d5).2.1, (own_len t2).2.1, (own_len t2).2.2]
  have hf6 : ∀ c ∈ f6, (3 ≤ c ∧ c < q ∧ c ∈ f3) ∨ q + 1 ≤ c := fun c hc => by
    rcases t3 c hc with h | h | h
    · have := hR c (w2 c h); exact .inl ⟨by omega, by omega, h⟩
    · have := hfp c (by simp [h]); omega
    · omega
  have hPP : ∀ x y : Option Blk, ∀ c, c ≠ 1 → c ≠ q → ((H6.put q x).put 1 y).cells c = H6.cells c := fun x y c h1 h2 => by rw [c_put_ne h1, c_put_ne h2]
  obtain ⟨fq, r1, r2⟩ := w3 v' (slm Measure.enc (s.cl.measures.ins i (l.l.map Measure.cl))) H6 f6 t2 (fun c hc hc2 => by have := hR c hc; exact u c (by omega) hc2) (fun c hc => by
    rcases hf6 c hc with h | h
    · exact .inl h.2.2
    · exact .inr fun h2 => by have := hR c h2; omega)
  refine frz_tup (I := false) (d := 8) (fp := fq) (u := (s.insM i l.l).enc) ?_ (by decide)
  refine ⟨(s.insM i l.l).enc.cells, rfl, ?_⟩
  refine (show OwnL (OwnX false 7) H6 _ (s.insM i l.l).enc.cells fq from r1).fr fun c hc => ?_
  have hcc : c ≠ 1 ∧ c ≠ q := by
    rcases r2 c hc with h | ⟨h, _⟩
    · rcases hf6 c h with h | h <;> omega
    · have := hR c h; omega
  exact hPP _ _ c hcc.1 hcc.2
end Go.Hem
namespace Go.Hem
variable {pol : Pol}
def delCode (n bytes : Nat) (z : List AV) : CF := ⟨.seq (.ops [⟨some 6, none, .mv (.const (.slice none 0 0)), []⟩]) (.seq (.ops [⟨some 8, none, .mv (.tmp 0), []⟩, ⟨some 9, none, .mv (.tmp 1), []⟩, ⟨some 10, none, .mv (.tmp 2), []⟩, ⟨some 11, none, .mv (.tmp 0), []⟩, ⟨some 12, none, .len (.tmp 11), []⟩, ⟨some 13, none, .slc3 n (.tmp 8) (some (.tmp 9)) (some (.tmp 10)) (some (.tmp 12)), []⟩]) (.seq (.seq (.ops [⟨some 14, none, .mv (.tmp 1), []⟩, ⟨some 15, none, .mv (.tmp 2), []⟩, ⟨some 16, none, .bint .eql (.tmp 14) (.tmp 15), []⟩]) (.cond (.tmp 16) (.seq (.ops [⟨some 17, none, .mv (.tmp 0), []⟩, ⟨some 6, none, .mv (.tmp 17), []⟩]) .ret) .skip)) (.seq (.ops [⟨some 18, none, .mv (.tmp 0), []⟩, ⟨some 19, none, .len (.tmp 18), []⟩, ⟨some 7, none, .mv (.tmp 19), []⟩]) (.seq (.ops [⟨some 20, none, .mv (.tmp 0), []⟩, ⟨some 21, none, .mv (.tmp 1), []⟩, ⟨some 22, none, .slc n (.tmp 20) none (some (.tmp 21)), []⟩, ⟨some 23, none, .mv (.tmp 0), []⟩, ⟨some 24, none, .mv (.tmp 2), []⟩, ⟨some 25, none, .slc n (.tmp 23) (some (.tmp 24)) none, []⟩, ⟨some 26, none, .app n bytes (.tmp 22) (.tmp 25), []⟩, ⟨some 0, none, .mv (.tmp 26), []⟩]) (.seq (.ops [⟨some 27, none, .mv (.tmp 0), []⟩, ⟨some 28, none, .mv (.tmp 0), []⟩, ⟨some 29, none, .len (.tmp 28), []⟩, ⟨some 30, none, .mv (.tmp 7), []⟩, ⟨some 31, none, .slc n (.tmp 27) (some (.tmp 29)) (some (.tmp 30)), []⟩, ⟨none, none, .clr n z (.tmp 31), []⟩]) (.seq (.ops [⟨some 32, none, .mv (.tmp 0), []⟩, ⟨some 6, none, .mv (.tmp 32), []⟩]) .ret)))))), 33, [.tmp 6]⟩
theorem ok105d : compF prog 105 = some (delCode 22 216 [.sc (.int .i64 0), .sc (.int .i64 0), .sc (.int .i64 0), .sc (.int .i64 0), .sc (.int .i64 0), .sc (.int .i64 0), .sc (.int .i64 0), .sc (.int .i64 0), .sc (.int .i64 0), .sc (.int .i64 0), .sc (.int .i64 0), .sc (.int .i64 0), .sc (.bool false), .sc (.int .i64 0), .sc (.int .i64 0), .sc (.int .i64 0), .sc (.int .i64 0), .sc (.int .i64 0), .sc (.int .i64 0), .sc (.str ⟨#[]⟩), .sc .nils, .sc .nils]) := ok105
def Sl.del {α : Type} (s : Sl α) (i j : Nat) : Sl α := s.map fun l => l.take i ++ l.drop j
theorem del_own {α : Type} {f : α → AV} {d n bytes fn i j : Nat} {z : List AV} {H0 : AHeap} {v : AV} {s : Sl α} {fp : List Nat} (row : RowOf n f) (hn1 : n ≠ 1) (hf : compF prog fn = some (delCode n bytes z)) (hz : z.length = n) (hzo : AV.ones z = true) (h : OwnX false (d + 1) H0 v (slm f s) fp) (hij : i ≤ j) (hj : j ≤ s.l.length) (hbig : s.l.length < 1000000) :
    Ev prog pol (.call fn [v, .sc (.int .i64 i), .sc (.int .i64 j)]) H0 fun o H' => ∃ v' fp', o = .val v' ∧ OwnX false (d + 1) H' v' (slm f (s.del i j)) fp' ∧ (∀ b ∈ fp', b ∈ fp) ∧ (∀ b, b ∉ fp → H'.cells b = H0.cells b) ∧ H0.next ≤ H'.next := by
  refine (wpF_ok hf (Q := fun v' H' => ∃ fp', OwnX false (d + 1) H' v' (slm f (s.del i j)) fp' ∧ (∀ b ∈ fp', b ∈ fp) ∧ (∀ b, b ∉ fp → H'.cells b = H0.cells b) ∧ H0.next ≤ H'.next) ?_).mono ?_
  rotate_left
  · rintro o H' ⟨v', rfl, fp', h⟩; exact ⟨v', fp', rfl, h⟩
  have hlen := (own_len h).1
  have h' := h
  cases v with
  | sc x =>
    simp only [OwnX] at h
    obtain ⟨h1, rfl⟩ := h
    cases s with
    | some l => simp [slm] at h1
    | none =>
      simp only [slm, AV.sc.injEq] at h1
      subst h1
      have hj0 : j = 0 := by simpa [Sl.l] using hj
      have hi0 : i = 0 := by omega
      subst hj0 hi0
      simp -implicitDefEqProofs (maxDischargeDepth := 12) only [wpF, delCode, WW,List.replicate,e_splice,if_true,if_false,ite_true,ite_false,true_or,ne_eq,seval,h_putc,beq_self_eq_true,eq_self,exists_eq_left,exists_eq_left', s_slc3, e_cut3n, e_bns]
      exact ⟨[], h', by simp⟩
  | slice b off len cap n' =>
    simp only [lenOf, Option.some.injEq, AV.sc.injEq, Sc.int.injEq, true_and] at hlen
    have hlen : len = s.l.length := by omega
    subst hlen
    simp only [OwnX] at h
    rcases h with ⟨h0, _⟩ | ⟨cs, us, fp', h1, ⟨h2, h2'⟩, h3, h4, h5, h6, hq, h7, rfl⟩
    · cases h0
    have h3 := h3 trivial
    obtain ⟨rfl, h3⟩ := h3
    obtain ⟨l, rfl⟩ : ∃ l, s = some l := by
      cases s with
      | none => simp [slm] at h7
      | some l => exact ⟨l, rfl⟩
    simp only [l_some] at *
    simp only [slm, AV.imm.injEq] at h7
    simp only [Nat.zero_add, List.drop_zero] at h4 h5
    have hul : us.length = l.length * n' := by
      have := h5.len
      simp only [List.length_take] at this
      omega
    by_cases hl0 : l.length = 0
    · have hj0 : j = 0 := by omega
      have hi0 : i = 0 := by omega
      subst hj0 hi0
      have hl : l = [] := List.length_eq_zero_iff.1 hl0
      subst hl
      simp -implicitDefEqProofs (maxDischargeDepth := 12) only [wpF, delCode, WW,List.replicate,e_splice,if_true,if_false,ite_true,ite_false,true_or,ne_eq,seval,h_putc,beq_self_eq_true,eq_self,exists_eq_left,exists_eq_left', s_slc3, e_cut3, e_bns]
      refine ⟨_, h', fun _ h => h, ?_⟩
      simp
    have hnq : n' = n := by
      cases hl : l with
      | nil => rw [hl] at hl0; simp at hl0
      | cons y r =>
        rw [hl] at h7
        simp only [List.map_cons, List.length_cons, rows, List.cons.injEq] at h7
        have ry := row.2 y
        rw [if_neg hn1] at ry
        have e3 := h7.1
        rw [if_neg (by omega : ¬ n' = 1), ry.2] at e3
        simp only [AV.agg.injEq] at e3
        have e4 := congrArg List.length e3
        rw [ry.1, List.length_take, hul, hl, List.length_cons, Nat.succ_mul] at e4
        omega
    subst hnq
    have hus := own_rows row hn1 l us hul h7
    subst hus
    have c1 : i ≤ l.length := by omega
    have hcap0 : ¬ 0 = cap := by omega
    by_cases hijq : i = j
    · subst hijq
      have hpost : ∃ fp'_1, OwnX false (d + 1) H0 (.slice b 0 l.length cap n') (slm f (Sl.del (some l) i i)) fp'_1 ∧ (∀ c ∈ fp'_1, c ∈ b :: fp') ∧ (∀ c, c ∉ b :: fp' → H0.cells c = H0.cells c) ∧ H0.next ≤ H0.next :=
        ⟨_, by rw [Sl.del, Option.map_some, List.take_append_drop]; exact h', fun _ h => h, fun _ _ => rfl, Nat.le_refl _⟩
      by_cases c2 : i = l.length
      · subst c2
        simp -implicitDefEqProofs (maxDischargeDepth := 12) only [wpF, delCode, WW,List.replicate,e_splice,if_true,if_false,ite_true,ite_false,true_or,ne_eq,seval,h_putc,beq_self_eq_true,eq_self,exists_eq_left,exists_eq_left', s_slc3, e_cut3, e_bns, h2']
        simpa using hpost
      · simp -implicitDefEqProofs (maxDischargeDepth := 12) only [wpF, delCode, WW,List.replicate,e_splice,if_true,if_false,ite_true,ite_false,true_or,ne_eq,seval,h_putc,beq_self_eq_true,eq_self,exists_eq_left,exists_eq_left', s_slc3, e_cut3, e_bns, c1, h2', c2]
        simpa using hpost
    have c2 : ¬ i = l.length := by omega
    have c3 : ¬ (i : Int) = (j : Int) := by omega
    have c4 : i ≤ cap := by omega
    have c5 : j ≤ cap := by omega
    have hbl := h_lt h1
    have m1 : i * n' + (j - i) * n' = j * n' := by rw [← Nat.add_mul]; congr 1; omega
    have m2 : j * n' + (l.length - j) * n' = l.length * n' := by rw [← Nat.add_mul]; congr 1; omega
    have m3 : (i + (l.length - j)) * n' = i * n' + (l.length - j) * n' := Nat.add_mul _ _ _
    have m4 : (l.length - (i + (l.length - j))) = j - i := by omega
    have hnp : 0 < n' := by omega
    generalize hX : (cs.drop (j * n')).take ((l.length - j) * n') = X
    have hXl : X.length = (l.length - j) * n' := by rw [← hX]; simp; omega
    have hsp : (splice cs (i * n') X).length = cs.length := splice_len2 (by omega)
    have hfin : ∀ Z : List AV, Z.length = (j - i) * n' → ∃ fq, OwnX false (d + 1) ((H0.put b (some (.cells (splice cs (i * n') X)))).put b (some (.cells (splice (splice cs (i * n') X) ((i + (l.length - j)) * n') Z)))) (.slice b 0 (i + (l.length - j)) cap n') (slm f (Sl.del (some l) i j)) fq ∧ (∀ c ∈ fq, c ∈ b :: fp') ∧
        (∀ c, c ∉ b :: fp' → ((H0.put b (some (.cells (splice cs (i * n') X)))).put b (some (.cells (splice (splice cs (i * n') X) ((i + (l.length - j)) * n') Z)))).cells c = H0.cells c) ∧ H0.next ≤ ((H0.put b (some (.cells (splice cs (i * n') X)))).put b (some (.cells (splice (splice cs (i * n') X) ((i + (l.length - j)) * n') Z)))).next := by
      intro Z hZ
      obtain ⟨f1, g1, p1, p2, p3, p4⟩ := h5.split (i * n')
      obtain ⟨f2, g2, q1, q2, q3, q4⟩ := p2.split ((j - i) * n')
      rw [List.drop_drop, List.drop_drop, m1] at q2
      rw [flat_take row c1] at p1
      rw [flat_drop row hj, List.drop_take, show l.length * n' - j * n' = (l.length - j) * n' by omega, hX] at q2
      rw [List.take_take, Nat.min_eq_left (by omega)] at p1
      have s1 : ∀ c ∈ f1, c ∈ fp' := fun c hc => by rw [p4]; exact List.mem_append.2 (.inl hc)
      have s2 : ∀ c ∈ g2, c ∈ fp' := fun c hc => by rw [p4, q4]; exact List.mem_append.2 (.inr (List.mem_append.2 (.inr hc)))
      have hap : Apart f1 g2 := fun c hc hc2 => p3 c hc (by rw [q4]; exact List.mem_append.2 (.inr hc2))
      have hin : ∀ c ∈ f1 ++ g2, c ∈ fp' := fun c hc => (List.mem_append.1 hc).elim (s1 c) (s2 c)
      refine ⟨b :: (f1 ++ g2), .inr ⟨_, (l.take i ++ l.drop j).flatMap fun x => (f x).cells, f1 ++ g2, h_put_self (h_put_self h1), ⟨row.1, by omega⟩, fun _ => ⟨rfl, by omega⟩, ?_, ?_, fun hc => h6 (hin _ hc), fun e => absurd e hn1, ?_, rfl⟩, ?_, ?_, by simp⟩
      · rw [splice_len2 (by omega), hsp]; omega
      · rw [List.drop_zero, splice_take0 (by omega) (by omega), m3, ← hXl, splice_take (by omega), List.flatMap_append]
        refine (p1.append q2 hap).fr fun c hc => ?_
        have hcb : c ≠ b := fun e => h6 (e ▸ hin c hc)
        rw [c_put_ne hcb, c_put_ne hcb]
      · have : i + (l.length - j) = (l.take i ++ l.drop j).length := by simp; omega
        rw [this, rows_map row]; rfl
      · intro c hc
        rcases List.mem_cons.1 hc with rfl | hc
        · simp
        · simp [hin c hc]
      · intro c hc; exact (c_put_ne fun e => hc (by simp [e])).trans (c_put_ne fun e => hc (by simp [e]))
    have c6 : i + (l.length - j) ≤ cap := by omega
    have c7 : i + (l.length - j) ≤ l.length := by omega
    have c8 : ¬ i + (l.length - j) = cap := by omega
    have c9 : (i + (l.length - j)) * n' ≤ cs.length := by omega
    have happ : ∀ x, alen x = some (l.length - j) → asrc n' H0 x (l.length - j) = some X → appTo n' bytes H0 (.slice b 0 i cap n') x = some (.mem (.slice b 0 (i + (l.length - j)) cap n') b (splice cs (i * n') X)) := fun x e1 e2 => by
      simp only [appTo, e1, e2, Option.bind_some, h1, ne_eq, not_true, if_false, if_pos c6, Nat.zero_add, if_pos c9]
    have hp1 : (H0.put b (some (.cells (splice cs (i * n') X)))).cells b = some (splice cs (i * n') X) := h_put_self h1
    have hclr : clrTo n' z (H0.put b (some (.cells (splice cs (i * n') X)))) (.slice b ((i + (l.length - j)) * n') (j - i) (cap - (i + (l.length - j))) n') = some (.mem (.sc .undef) b (splice (splice cs (i * n') X) ((i + (l.length - j)) * n') (rep (j - i) z))) := by
      simp only [clrTo, if_neg (show ¬ j - i = 0 by omega), hp1, Option.bind_some]
      rw [if_pos ⟨by trivial, by rw [hsp, ← Nat.add_mul]; exact Nat.le_trans (Nat.mul_le_mul_right _ (by omega)) h4, hz, hzo⟩]
    have hZ := hfin (rep (j - i) z) (by rw [rep_len, hz])
    by_cases hjc : j = cap
    · have e1 : alen (.imm []) = some (l.length - j) := by simp only [alen, List.length_nil, Option.some.injEq]; omega
      have e2 : asrc n' H0 (.imm []) (l.length - j) = some X := by
        have h0 : l.length - j = 0 := by omega
        have hX0 : X = [] := List.length_eq_zero_iff.1 (by rw [hXl, h0, Nat.zero_mul])
        rw [h0, hX0]; simp [asrc, uniform]
      subst hjc
      simp -implicitDefEqProofs (maxDischargeDepth := 12) only [wpF, delCode, WW,List.replicate,if_true,if_false,ite_true,ite_false,true_or,ne_eq,seval,beq_self_eq_true,eq_self,exists_eq_left,exists_eq_left', s_slc3, e_cut3, e_bns, c1, c2, c3, c4, h2', hcap0, hj, Nat.zero_mul, Nat.sub_zero]
      rw [happ _ e1 e2]
      simp -implicitDefEqProofs (maxDischargeDepth := 12) only [WW,List.replicate,if_true,if_false,ite_true,ite_false,true_or,ne_eq,seval,beq_self_eq_true,eq_self,exists_eq_left,exists_eq_left', s_clr, c6, c7, c8, m4, h2', Nat.zero_mul, Nat.sub_zero, Nat.zero_add]
      rw [hclr]
      simp -implicitDefEqProofs (maxDischargeDepth := 12) only [WW,List.replicate,if_true,if_false,ite_true,ite_false,true_or,ne_eq,seval,beq_self_eq_true,eq_self,exists_eq_left,exists_eq_left']
      obtain ⟨fq, z1, z2, z3, _⟩ := hZ
      exact ⟨fq, z1, z2, z3⟩
    · have e1 : alen (.slice b (j * n') (l.length - j) (cap - j) n') = some (l.length - j) := rfl
      have e2 : asrc n' H0 (.slice b (j * n') (l.length - j) (cap - j) n') (l.length - j) = some X := by
        simp only [asrc, AHeap.rd, h1, Option.some_or, Option.bind_some]
        rw [if_pos ⟨Nat.le_refl _, by omega⟩, hX]
      simp -implicitDefEqProofs (maxDischargeDepth := 12) only [wpF, delCode, WW,List.replicate,if_true,if_false,ite_true,ite_false,true_or,ne_eq,seval,beq_self_eq_true,eq_self,exists_eq_left,exists_eq_left', s_slc3, e_cut3, e_bns, hij, c1, c2, c3, c4, c5, h2', hcap0, hj, hjc, Nat.zero_mul, Nat.sub_zero]
      rw [happ _ e1 e2]
      simp -implicitDefEqProofs (maxDischargeDepth := 12) only [WW,List.replicate,if_true,if_false,ite_true,ite_false,true_or,ne_eq,seval,beq_self_eq_true,eq_self,exists_eq_left,exists_eq_left', s_clr, c6, c7, c8, m4, h2', Nat.zero_mul, Nat.sub_zero, Nat.zero_add]
      rw [hclr]
      simp -implicitDefEqProofs (maxDischargeDepth := 12) only [WW,List.replicate,if_true,if_false,ite_true,ite_false,true_or,ne_eq,seval,beq_self_eq_true,eq_self,exists_eq_left,exists_eq_left']
      obtain ⟨fq, z1, z2, z3, _⟩ := hZ
      exact ⟨fq, z1, z2, z3⟩
  | _ => simp [OwnX] at h; try (obtain ⟨_, e, _⟩ := h; cases s <;> simp [slm] at e)
end Go.Hem
namespace Go.Hem
variable {pol : Pol}
def Chg2 (pol : Pol) (g : FuncId) (cap : List AV) (H0 : AHeap) (s a : Score) : Prop := ∀ (H : AHeap) (q : Nat) (R : List Nat), Keep H0.next H0 H → H0.next ≤ q → q < H.next → q ∉ R → (∀ b ∈ R, H0.next ≤ b ∧ b < H.next) → OwnScore H q R s.cl →
  Ev prog pol (.call g ([.ptr q 0] ++ cap)) H fun o H' => ∃ v R', o = .val v ∧ OwnScore H' q R' a ∧ (∀ b ∈ R', b ∈ R ∨ H.next ≤ b) ∧ (∀ b, b < H.next → b ≠ q → b ∉ R → H'.cells b = H.cells b) ∧ H.next ≤ H'.next
theorem with_ok2 (hp : PrPol pol) (h29 : pol.pure 29 = true) (s : Score) (hx : s.tame) (a : Score) (ha : a.tame) (hT : Tame a) (l : List Part) (hl : a.parts = some l) (H0 : AHeap) (g : FuncId) (cap : List AV) (hg : pol.pure g = false) (hcal : ∀ args, acallee prog g args = some (.call g args)) (hchg : Chg2 pol g cap H0 s a) :
    Ev prog pol (.call 93 [s.enc, .func (.func g) [] cap]) H0 fun o H' => o = .val a.pr.enc ∧ Keep H0.next H0 H' := by
  refine (wpF_ok ok93 (Q := fun v H' => v = a.pr.enc ∧ Keep H0.next H0 H') ?_).mono ?_
  rotate_left
  · rintro o H' ⟨v, rfl, rfl, h⟩
    exact ⟨rfl, h⟩
  generalize hn0 : H0.next = n
  simp -implicitDefEqProofs (maxDischargeDepth := 12) only [wpF, cf93, WW,List.replicate,e_splice,if_true,if_false,ite_true,ite_false,true_or,ne_eq,seval,h_putc,beq_self_eq_true,eq_self,exists_eq_left,exists_eq_left', s.enc_eq, hn0, nq1, mq1, addq, nq2, mq2, mq12, mq21]
  rw [← s.enc_eq]
  refine wA_call (hp.1 _ (by decide)) ((sClone_ok hp.1 s hx _).mono ?_)
  rintro o H1 ⟨cs, fp, rfl, ho, hlen, hones, hF, hN, hK⟩
  refine ⟨_, rfl, by simp only [k_nil], ?_⟩
  simp only [AHeap.next_alloc, hn0] at hF hN hK
  have g1 : H1.cells (n + 1) = some [.sc (.str ⟨#[]⟩), .sc (.bool false), .sc .nils, .sc .nils, .sc .nils, .sc .nils] := (hK (n + 1) (by omega)).trans (by simp -implicitDefEqProofs (maxDischargeDepth := 12) only [WW,List.replicate,e_splice,if_true,if_false,ite_true,ite_false,true_or,ne_eq,seval,h_putc,beq_self_eq_true,eq_self,exists_eq_left,exists_eq_left', hn0])
  have hK1 : Keep n H0 H1 := fun b hb => by rw [hK b (by omega), c_alloc_ne (by simp only [AHeap.next_alloc, hn0]; omega), c_alloc_ne (by omega)]
  generalize hq : H1.next = q
  have hlt := ho.lts
  have hsp : splice [.sc (.str ⟨#[]⟩), .sc (.bool false), .sc .nils, .sc .nils, .sc .nils, .sc .nils] 0 cs = cs := splice_full hlen.symm
  simp -implicitDefEqProofs (maxDischargeDepth := 12) only [WW,List.replicate,if_true,if_false,ite_true,ite_false,true_or,ne_eq,seval,beq_self_eq_true,eq_self,exists_eq_left,exists_eq_left', hones, hlen, hq, hsp]
  rw [e_callf, hcal]
  generalize hH2 : AHeap.put _ q _ = H2
  have n2 : H2.next = q + 1 := by subst hH2; simp only [AHeap.next_put, AHeap.next_alloc, hq]
  have a0 : ∀ b, b < q → H2.cells b = H1.cells b := fun b hb => by
    subst hH2
    rw [c_put_ne (by omega), c_alloc_ne (by omega)]
  have aq : H2.cells q = some cs := by
    subst hH2
    refine h_put_self (y := [.sc (.str ⟨#[]⟩), .sc (.bool false), .sc .nils, .sc .nils, .sc .nils, .sc .nils]) ?_
    rw [h_alloc, if_pos hq.symm]
  clear hH2
  have hfl : ∀ b ∈ fp, n + 2 ≤ b ∧ b < q := fun b hb => ⟨hF b hb, by have := hlt b hb; omega⟩
  refine wA_call hg ((hchg H2 q fp (fun b hb => by rw [a0 b (by omega), hK1 b (by omega)]) (by omega) (by omega) (fun h => by have := hfl _ h; omega) (fun b hb => by have := hfl b hb; omega) ⟨cs, fp, aq, ho.fr fun b hb => a0 b (hfl b hb).2, fun _ h => h⟩).mono ?_)
  rintro o H3 ⟨v, R', rfl, ⟨cs3, fp3, hS3, ho3, hR3⟩, x2, x3, x4⟩
  refine ⟨_, rfl, by simp only [k_nil], ?_⟩
  have hfp3 : ∀ b ∈ fp3, n + 2 ≤ b ∧ b ≠ q := fun b hb => by
    rcases x2 b (hR3 b hb) with h | h
    · have := hfl b h; omega
    · omega
  have z1 : H3.cells (n + 1) = _ := ((x3 (n + 1) (by omega) (by omega) (fun h => by have := hfl _ h; omega)).trans (a0 _ (by omega))).trans g1
  have hl3 := ho3.len
  have hl3 : cs3.length = 6 := hl3
  have hcs3 : List.take 6 cs3 = cs3 := List.take_of_length_le (by omega)
  have hle3 : 6 ≤ cs3.length := by omega
  simp -implicitDefEqProofs (maxDischargeDepth := 12) only [WW,List.replicate,e_splice,if_true,if_false,ite_true,ite_false,true_or,ne_eq,seval,h_putc,beq_self_eq_true,eq_self,exists_eq_left,exists_eq_left', hS3, hcs3, hle3]
  have o1 : Own 20 H3 (.agg cs3) a.enc fp3 := ⟨_, rfl, ho3.le fun _ _ _ a => (a.up).mono (by decide)⟩
  have hcl : AV.closedBs cs3 = false := by
    obtain ⟨v2, v3, v4, v5, f2, f3, f4, f5, rfl, c2, c3, c4, c5, s2, s3, s4, s5⟩ := own6 ho3
    rw [hl] at c2
    simp only [AV.closedBs, AV.closedB, own_some c2, Bool.false_and, Bool.and_false]
  refine wA_pvf h29 (pvf_ownA (fp := fp3 ++ []) (by simp only [AV.closedBs, AV.closedB, hcl, Bool.false_and]) (.cons o1 .nil Apart.nil_right) (prune_pv hp a ha hT) fun H4 hless => ?_)
  rw [List.append_nil] at hless
  refine ⟨by simp only [k_nil], ?_⟩
  have z4 := (cells_of_get (hless (n + 1) (fun h => by have := hfp3 _ h; omega))).trans z1
  have k4 : Keep n H0 H4 := fun b hb => by rw [cells_of_get (hless b (fun h => by have := hfp3 _ h; omega)), x3 b (by omega) (by omega) (fun h => by have := hfl _ h; omega), a0 b (by omega), hK1 b hb]
  simp -implicitDefEqProofs (maxDischargeDepth := 12) only [WW,List.replicate,e_splice,if_true,if_false,ite_true,ite_false,true_or,ne_eq,seval,h_putc,beq_self_eq_true,eq_self,exists_eq_left,exists_eq_left', z4, a.pr.enc_eq]
  exact k4.put (by omega)
def Score.delM (a : Score) (i j : Nat) : Score := { a with measures := a.measures.del i j }
def DmPol (pol : Pol) : Prop := PrPol pol ∧ pol.pure 29 = true ∧ pol.pure 93 = false ∧ pol.pure 104 = false ∧ pol.pure 105 = false
theorem own_put {H : AHeap} {q : Nat} {R : List Nat} {a a' : Score} {cs : List AV} {fp : List Nat} {j : Nat} {u u' : AV} (hS : H.cells q = some cs) (ho : OwnL (OwnX false 7) H cs a.enc.cells fp) (hR : ∀ b ∈ fp, b ∈ R) (hq : q ∉ R) (hj : a.enc.cells[j]? = some u) (ha : a'.enc.cells = a.enc.cells.set j u') :
    ∃ v f, cs[j]? = some v ∧ OwnX false 7 H v u f ∧ (∀ b ∈ f, b ∈ R) ∧ ∀ (H' : AHeap) v' f', OwnX false 7 H' v' u' f' → (∀ b ∈ R, b ∉ f → H'.cells b = H.cells b) → (∀ b ∈ f', b ∈ f ∨ b ∉ R) → q ∉ f' → H'.cells q = some cs → v'.cells = [v'] → OwnScore (H'.put q (some (.cells (cs.set j v')))) q (R ++ f') a' := by
  obtain ⟨v, f, e1, h1, h2, h3⟩ := ho.fit hj
  refine ⟨v, f, e1, h1, fun b hb => hR b (h2 b hb), fun H' v' f' k1 k2 k3 k4 k5 _ => ?_⟩
  obtain ⟨fq, r1, r2⟩ := h3 v' u' H' f' k1 (fun b hb hb2 => k2 b (hR b hb) hb2) (fun b hb => (k3 b hb).imp id fun h h' => h (hR b h'))
  have hfq : ∀ b ∈ fq, b ∈ R ++ f' := fun b hb => by
    rcases r2 b hb with h | h
    · exact List.mem_append.2 (.inr h)
    · exact List.mem_append.2 (.inl (hR b h.1))
  rw [← ha] at r1
  refine ⟨cs.set j v', fq, h_put_self k5, r1.fr fun b hb => c_put_ne fun e => ?_, hfq⟩
  subst e
  rcases List.mem_append.1 (hfq _ hb) with h | h
  · exact hq h
  · exact k4 h
theorem chg_delm (hp : DmPol pol) {H0 : AHeap} {s : Score} {ba bc i c : Nat} (ha : H0.cells ba = some [.sc (.int .i64 i)]) (hc : H0.cells bc = some [.sc (.int .i64 c)]) (hl : i + c ≤ s.measures.l.length) (hb : s.measures.l.length < 1000000) : Chg2 pol 104 [.ptr ba 0, .ptr bc 0] H0 s (s.cl.delM i (i + c)) := by
  obtain ⟨_, _, _, _, h105⟩ := hp
  intro H q R hK hq1 hq2 hqR hR hO
  refine wpF_ok ok104 (Q := fun v H' => ∃ R', OwnScore H' q R' (s.cl.delM i (i + c)) ∧ (∀ b ∈ R', b ∈ R ∨ H.next ≤ b) ∧ (∀ b, b < H.next → b ≠ q → b ∉ R → H'.cells b = H.cells b) ∧ H.next ≤ H'.next) ?_ |>.mono ?_
  rotate_left
  · rintro o H' ⟨v, rfl, R', h⟩; exact ⟨v, R', rfl, h⟩
  have c1 := hK.cells ha (h_lt ha)
  have c2 := hK.cells hc (h_lt hc)
  obtain ⟨cs, fp, hS, ho, hfR⟩ := hO
  obtain ⟨v, f3, e3, w1, w2, w3⟩ := own_put (a' := s.cl.delM i (i + c)) (j := 3) (u := slm Measure.enc s.cl.measures) (u' := slm Measure.enc (s.cl.measures.del i (i + c))) hS ho hfR hqR rfl rfl
  obtain ⟨v2, v3, v4, v5, g2, g3, g4, g5, rfl, d2, d3, d4, d5, s2, s3, s4, s5⟩ := own6 ho
  cases e3
  have e2 : IntKind.i64.wrap ((i : Int) + (c : Int)) = ((i + c : Nat) : Int) := by rw [w64 (by omega) (by omega)]; omega
  simp -implicitDefEqProofs (maxDischargeDepth := 12) only [wpF, cf104, WW,List.replicate,e_splice,if_true,if_false,ite_true,ite_false,true_or,ne_eq,seval,h_putc,beq_self_eq_true,eq_self,exists_eq_left,exists_eq_left', hS, c1, c2, e2]
  have hml : s.cl.measures.l.length = s.measures.l.length := by show (s.measures.l.map Measure.cl).length = _; rw [List.length_map]
  refine wA_call h105 ((del_own (d := 6) row_Measure (by decide) ok105d rfl rfl w1 (Nat.le_add_right i c) (by rw [hml]; omega) (by rw [hml]; exact hb)).mono ?_)
  rintro o H1 ⟨v', f', rfl, k1, k2, k3, k4⟩
  refine ⟨_, rfl, by simp only [k_nil], ?_⟩
  have z := (k3 q (fun h => hqR (w2 q h))).trans hS
  simp -implicitDefEqProofs (maxDischargeDepth := 12) only [WW,List.replicate,if_true,if_false,ite_true,ite_false,true_or,ne_eq,seval,beq_self_eq_true,eq_self,exists_eq_left,exists_eq_left', z, (own_len k1).2.1, (own_len k1).2.2, cr_nil]
  have hfin := w3 H1 v' f' k1 (fun b _ hb2 => k3 b hb2) (fun b hb => .inl (k2 b hb)) (fun h => hqR (w2 q (k2 q h))) z (own_len k1).2.2
  refine ⟨R ++ f', hfin, fun b hb => ?_, fun b hb hbq hbR => ?_, k4⟩
  · rcases List.mem_append.1 hb with h | h
    · exact .inl h
    · exact .inl (w2 b (k2 b h))
  · rw [c_put_ne hbq, k3 b (fun h => hbR (w2 b h))]
theorem callee104 (args : List AV) : acallee prog 104 args = some (.call 104 args) := by kernel_rfl
theorem delm_er (s : Score) (i c : Int) (h : i < 0 ∨ c < 0 ∨ (s.measures.l.length : Int) < i ∨ (s.measures.l.length : Int) - i < c) (hb : s.measures.l.length < 1000000) : Pv prog pol 57 [s.enc, .sc (.int .i64 i), .sc (.int .i64 c)] (erAV 2) := by
  refine Pv_of' ok57 (by simp only [AV.closedBs, Score.enc_closed, AV.closedB, Bool.and_self]) ?_
  by_cases h0 : i < 0
  · simp -implicitDefEqProofs (maxDischargeDepth := 12) only [wpF, cf57, WW,List.replicate,e_splice,if_true,if_false,ite_true,ite_false,true_or,ne_eq,seval,h_putc,beq_self_eq_true,eq_self,exists_eq_left,exists_eq_left', s.enc_eq, h0]
    exact frz_plain rfl (plain_er 2)
  by_cases h1 : c < 0
  · simp -implicitDefEqProofs (maxDischargeDepth := 12) only [wpF, cf57, WW,List.replicate,e_splice,if_true,if_false,ite_true,ite_false,true_or,ne_eq,seval,h_putc,beq_self_eq_true,eq_self,exists_eq_left,exists_eq_left', s.enc_eq, h0, h1]
    exact frz_plain rfl (plain_er 2)
  by_cases h2 : (s.measures.l.length : Int) < i
  · simp -implicitDefEqProofs (maxDischargeDepth := 12) only [wpF, cf57, WW,List.replicate,e_splice,if_true,if_false,ite_true,ite_false,true_or,ne_eq,seval,h_putc,beq_self_eq_true,eq_self,exists_eq_left,exists_eq_left', s.enc_eq, h0, h1, h2]
    exact frz_plain rfl (plain_er 2)
  have e2 : IntKind.i64.wrap ((s.measures.l.length : Int) - i) = (s.measures.l.length : Int) - i := by rw [w64 (by omega) (by omega)]
  have h3 : (s.measures.l.length : Int) - i < c := by omega
  simp -implicitDefEqProofs (maxDischargeDepth := 12) only [wpF, cf57, WW,List.replicate,e_splice,if_true,if_false,ite_true,ite_false,true_or,ne_eq,seval,h_putc,beq_self_eq_true,eq_self,exists_eq_left,exists_eq_left', s.enc_eq, h0, h1, h2, e2, h3]
  exact frz_plain rfl (plain_er 2)
theorem delm_ok (hp : DmPol pol) (s : Score) (hs : s.tame) (hT : Tame s) (i c : Nat) (hi : i + c ≤ s.measures.l.length) (ha : (s.cl.delM i (i + c)).tame) (hTa : Tame (s.cl.delM i (i + c))) :
    Pv prog pol 57 [s.enc, .sc (.int .i64 i), .sc (.int .i64 c)] (okAV (s.cl.delM i (i + c)).pr) := by
  have hp' := hp
  obtain ⟨hpr, h29, h93, h104, h105⟩ := hp
  refine Pv_of' ok57 (by simp only [AV.closedBs, Score.enc_closed, AV.closedB, Bool.and_self]) ?_
  have hb := hT.measures
  have h0 : ¬ (i : Int) < 0 := by omega
  have h1 : ¬ (c : Int) < 0 := by omega
  have h2 : ¬ (s.measures.l.length : Int) < (i : Int) := by omega
  have e2 : IntKind.i64.wrap ((s.measures.l.length : Int) - (i : Int)) = (s.measures.l.length : Int) - (i : Int) := by rw [w64 (by omega) (by omega)]
  have h3 : ¬ (s.measures.l.length : Int) - (i : Int) < (c : Int) := by omega
  simp -implicitDefEqProofs (maxDischargeDepth := 12) only [wpF, cf57, WW,List.replicate,e_splice,if_true,if_false,ite_true,ite_false,true_or,ne_eq,seval,h_putc,beq_self_eq_true,eq_self,exists_eq_left,exists_eq_left', s.enc_eq, h0, h1, h2, e2, h3]
  rw [← s.enc_eq]
  refine wA_call h93 ((with_ok2 hpr h29 s hs (s.cl.delM i (i + c)) ha hTa s.parts.l rfl _ 104 _ h104 callee104 (chg_delm (ba := 1) (bc := 2) hp' ?_ ?_ hi hb)).mono ?_)
  · simp -implicitDefEqProofs (maxDischargeDepth := 12) only [WW,List.replicate,e_splice,if_true,if_false,ite_true,ite_false,true_or,ne_eq,seval,h_putc,beq_self_eq_true,eq_self,exists_eq_left,exists_eq_left']
  · simp -implicitDefEqProofs (maxDischargeDepth := 12) only [WW,List.replicate,e_splice,if_true,if_false,ite_true,ite_false,true_or,ne_eq,seval,h_putc,beq_self_eq_true,eq_self,exists_eq_left,exists_eq_left']
  rintro o H1 ⟨rfl, hK⟩
  refine ⟨_, rfl, by simp only [k_nil], ?_⟩
  have g3 : H1.cells 3 = some (Score.enc Score.none).cells := (hK 3 (by simp -implicitDefEqProofs (maxDischargeDepth := 12) only [WW,List.replicate,e_splice,if_true,if_false,ite_true,ite_false,true_or,ne_eq,seval,h_putc,beq_self_eq_true,eq_self,exists_eq_left,exists_eq_left'])).trans (by simp -implicitDefEqProofs (maxDischargeDepth := 12) only [WW,List.replicate,e_splice,if_true,if_false,ite_true,ite_false,true_or,ne_eq,seval,h_putc,beq_self_eq_true,eq_self,exists_eq_left,exists_eq_left']; rfl)
  simp only [Score.none, Score.enc_eq, c_agg] at g3
  simp -implicitDefEqProofs (maxDischargeDepth := 12) only [WW,List.replicate,e_splice,if_true,if_false,ite_true,ite_false,true_or,ne_eq,seval,h_putc,beq_self_eq_true,eq_self,exists_eq_left,exists_eq_left', g3, (Score.pr _).enc_eq]
  exact frz_plain rfl (plain_ok _)
end Go.Hem
namespace Go.Hem
variable {pol : Pol}
theorem own_lenT {α : Type} {f : α → AV} {I : Bool} {d : Nat} {H : AHeap} {v : AV} {s : Sl α} {fp : List Nat} (h : OwnX I (d + 1) H v (slm f s) fp) : lenOf v = some (.sc (.int .i64 s.l.length)) := by
  cases v <;> simp only [OwnX] at h
  case sc x =>
    obtain ⟨h1, _⟩ := h
    cases s with
    | none => simp only [slm, AV.sc.injEq] at h1; subst h1; rfl
    | some l => simp [slm] at h1
  case imm l =>
    obtain ⟨h0, h1, _⟩ := h
    cases s with
    | none => simp [slm] at h1
    | some m => simp only [slm, AV.imm.injEq] at h1; subst h1; simp [lenOf, Sl.l]
  case agg cs =>
    obtain ⟨us, h1, _⟩ := h
    cases s <;> simp [slm] at h1
  case slice b off len cap n =>
    rcases h with ⟨_, h0, h1, _⟩ | ⟨cs, us, fp', _, _, _, _, ho, _, _, h1, _⟩
    · cases s with
      | none => simp [slm] at h1
      | some m => simp only [slm, AV.imm.injEq] at h1; subst h0; have : m = [] := by simpa using h1
                  subst this; rfl
    · cases s with
      | none => simp [slm] at h1
      | some m =>
        simp only [slm, AV.imm.injEq] at h1
        have := congrArg List.length h1
        rw [rows_len, List.length_map] at this
        subst this; rfl
theorem acc_at {α : Type} {f : α → AV} {I : Bool} {d n i j : Nat} {H : AHeap} {v u : AV} {l : List α} {fp : List Nat} {x : α} (row : RowOf n f) (h : AccX I d n f H v (some l) fp) (hi : l[i]? = some x) (hj : (f x).cells[j]? = some u) :
    ∃ b cap cs w fw, v = .slice b 0 l.length cap n ∧ H.cells b = some cs ∧ i * n + j + 1 ≤ cs.length ∧ cs[i * n + j]? = some w ∧ OwnX I d H w u fw := by
  rcases h with ⟨_, h, _⟩ | ⟨b, cap, cs, rest, fp', l', h1, rfl, h3, h4, h5, h6, h7, h8, rfl⟩
  · cases h
  cases h1
  have hil := (List.getElem?_eq_some_iff.1 hi).1
  have hjn : j < n := by
    have := (List.getElem?_eq_some_iff.1 hj).1
    rw [(row.2 x).1] at this; exact this
  have hmul : i * n + n ≤ l.length * n := by
    have : (i + 1) * n ≤ l.length * n := Nat.mul_le_mul_right _ hil
    rw [Nat.succ_mul] at this; exact this
  have hu : (l.flatMap fun x => (f x).cells)[i * n + j]? = some u := by
    have := (flat_at row hi).1
    rw [← hj, ← this, List.getElem?_take_of_lt hjn, List.getElem?_drop]
  obtain ⟨w, fw, e1, e2, _⟩ := h7.cell hu
  refine ⟨b, cap, cs ++ rest, w, fw, rfl, h4, by simp; omega, ?_, e2⟩
  have := (List.getElem?_eq_some_iff.1 e1).1
  rw [List.getElem?_append_left this]; exact e1
theorem pvf_list2 {P : Program} {K : AHeap → Prop} {H : AHeap} {Q : AV → AHeap → Prop} {f : FuncId} {α : Type} {g : α → AV} {d n : Nat} {pre us : List AV} {v r : AV} {l : List α} {fpre fp : List Nat} (row : RowOf n g) (hp : OwnL (Own 20) H pre us fpre) (hv : AccX true d n g H v (some l) fp) (hd : d ≤ 19) (ha : Apart fpre fp) (hl : l ≠ []) (hpv : Pv P pol f (us ++ [slm g (some l)]) r)
    (k : ∀ H1, Less H H1 (fpre ++ fp) → H1.next = H.next → (r.flatB = false → ∃ b cap, v = .slice b 0 l.length cap n ∧ b ∈ fp ∧ Fzn H1 b (l.flatMap fun x => (g x).cells)) → K H1 ∧ Q r H1) : PvF P pol K H Q f (pre ++ [v]) := by
  cases hr : r.flatB with
  | false => exact pvf_list row hp hv hd ha hl hpv hr fun H1 h1 h2 h3 => k H1 h1 h2.1 fun _ => h3
  | true =>
    obtain ⟨H1, a1, a2, a3⟩ := freezeL_own (O := Own 20) (fun H v u f => freezeV_own) (fun H H' v u f a b => OwnX.frame a b) hp
    have hv1 : AccX true d n g H1 v (some l) fp := hv.fr fun b hb => cells_of_get (a3 b fun h => ha b h hb)
    obtain ⟨fq, ho, hq⟩ := hv1.own row (.inl rfl)
    obtain ⟨H2, b1, b2, b3⟩ := freezeV_own (ho.mono (show d + 1 ≤ 20 by omega))
    obtain ⟨b, cap, rfl, _⟩ := acc_fr row hv1 hd hl b1
    exact ⟨_, H2, r, closedBs_snoc, freezeL_app a1 b1, hpv, .inl ⟨hr, (k H (fun _ _ => rfl) rfl (fun h => by rw [hr] at h; cases h)).2⟩⟩
theorem ins_del {α : Type} {l el : List α} {i : Nat} (hi : i ≤ l.length) : (l.take i ++ el ++ l.drop i).take i ++ (l.take i ++ el ++ l.drop i).drop (i + el.length) = l := by
  have hl : (l.take i).length = i := by simp; omega
  have e1 : (l.take i ++ el ++ l.drop i).take i = l.take i := by
    rw [List.append_assoc, List.take_left' hl]
  have e2 : (l.take i ++ el ++ l.drop i).drop (i + el.length) = l.drop i := List.drop_left' (by simp; omega)
  rw [e1, e2, List.take_append_drop]
end Go.Hem
namespace Go.Hem
variable {pol : Pol}
end Go.Hem
namespace Go.Hem
theorem tame_short (s : Score) : Tame s.short := by
  have e1 : s.short.parts.l = (s.parts.l.take 4).map Part.short := l_of
  have e2 : s.short.measures.l = (s.measures.l.take 5).map Measure.short := l_of
  have len_map : ∀ {α : Type} {x : Sl α} {n : Nat}, Sl.l (x.map (·.take n)) = x.l.take n := by intro α x n; cases x <;> simp [Sl.l]
  have e3 : s.short.spanners.l = s.spanners.l.take 6 := len_map
  have mm : ∀ (m : Nat) y, s.short.measures.l[m]? = some y → ∃ x : Measure, y = x.short := by
    intro m y h
    rw [e2, List.getElem?_map] at h
    cases hx : (s.measures.l.take 5)[m]? with
    | none => rw [hx] at h; cases h
    | some x => rw [hx] at h; cases h; exact ⟨x, rfl⟩
  have cc : ∀ (x : Measure) (c : Nat) q, x.short.cells.l[c]? = some q → ∃ y : Cell, q = y.short := by
    intro x c q h
    rw [show x.short.cells.l = (x.cells.l.take 6).map Cell.short from l_of, List.getElem?_map] at h
    cases hx : (x.cells.l.take 6)[c]? with
    | none => rw [hx] at h; cases h
    | some x => rw [hx] at h; cases h; exact ⟨x, rfl⟩
  have vv : ∀ (x : Cell) (c : Nat) q, x.short.voices.l[c]? = some q → ∃ y : Voice, q = y.short := by
    intro x c q h
    rw [show x.short.voices.l = (x.voices.l.take 3).map Voice.short from l_of, List.getElem?_map] at h
    cases hx : (x.voices.l.take 3)[c]? with
    | none => rw [hx] at h; cases h
    | some x => rw [hx] at h; cases h; exact ⟨x, rfl⟩
  have b1 : ∀ x : Measure, x.short.cells.l.length ≤ 6 := fun x => by rw [show x.short.cells.l = (x.cells.l.take 6).map Cell.short from l_of]; simp; omega
  have b2 : ∀ x : Cell, x.short.voices.l.length ≤ 3 := fun x => by rw [show x.short.voices.l = (x.voices.l.take 3).map Voice.short from l_of]; simp; omega
  have b3 : ∀ x : Voice, x.short.events.l.length ≤ 5 := fun x => by rw [show x.short.events.l = (x.events.l.take 5).map Event.short from l_of]; simp; omega
  have b4 : ∀ x : Part, x.short.staves.l.length ≤ 3 := fun x => by rw [show x.short.staves.l = x.staves.l.take 3 from len_map]; simp; omega
  have l1 : ∀ (l : List Staff) st, (objStaves st l).length = l.length := by intro l; induction l with
    | nil => intro _; rfl
    | cons x l ih => intro st; simp [objStaves, ih]
  have l2 : ∀ (l : List Part) i st, (objParts i st (l.map Part.short)).length ≤ 4 * l.length := by intro l; induction l with
    | nil => intro _ _; simp [objParts]
    | cons x l ih => intro i st; have := ih (i + 1) (st + x.short.staves.l.length); have := b4 x; simp [objParts, l1]; omega
  have l3 : ∀ (l : List Event) m c v e, (objEvents m c v e l).length = l.length := by intro l; induction l with
    | nil => intro _ _ _ _; rfl
    | cons x l ih => intro m c v e; simp [objEvents, ih]
  have l4 : ∀ (l : List Voice) m c v, (objVoices m c v (l.map Voice.short)).length ≤ 5 * l.length := by intro l; induction l with
    | nil => intro _ _ _; simp [objVoices]
    | cons x l ih => intro m c v; have := ih m c (v + 1); have := b3 x; simp [objVoices, l3]; omega
  have l5 : ∀ (l : List Cell) m c, (objCells m c (l.map Cell.short)).length ≤ 15 * l.length := by intro l; induction l with
    | nil => intro _ _; simp [objCells]
    | cons x l ih =>
      intro m c; have h1 := ih m (c + 1); have h2 := l4 (x.voices.l.take 3) m c 0
      rw [← show x.short.voices.l = (x.voices.l.take 3).map Voice.short from l_of] at h2
      simp only [List.length_take] at h2
      simp only [List.map_cons, objCells, List.length_append, List.length_cons]; omega
  have l6 : ∀ (l : List Measure) m, (objMeasures m (l.map Measure.short)).length ≤ 91 * l.length := by intro l; induction l with
    | nil => intro _; simp [objMeasures]
    | cons x l ih =>
      intro m; have h1 := ih (m + 1); have h2 := l5 (x.cells.l.take 6) m 0
      rw [← show x.short.cells.l = (x.cells.l.take 6).map Cell.short from l_of] at h2
      simp only [List.length_take] at h2
      simp only [List.map_cons, objMeasures, List.length_append, List.length_cons]; omega
  have l7 : ∀ (l : List Spanner) i, (objSpanners i l).length = l.length := by intro l; induction l with
    | nil => intro _; rfl
    | cons x l ih => intro i; simp [objSpanners, ih]
  have b5 : stavesOf s.short.parts.l ≤ 12 := by
    have : ∀ l : List Part, stavesOf (l.map Part.short) ≤ 3 * l.length := by
      intro l; induction l with
      | nil => simp [stavesOf]
      | cons p l ih =>
        have e : stavesOf ((p :: l).map Part.short) = p.short.staves.l.length + stavesOf (l.map Part.short) := by simp [stavesOf]
        have := b4 p; simp only [List.length_cons]; omega
    rw [e1]; have := this (s.parts.l.take 4); simp only [List.length_take] at this; omega
  refine ⟨?_, by omega, by rw [e1]; simp; omega, by rw [e2]; simp; omega, by rw [e3]; simp; omega, ?_, ?_, ?_⟩
  · unfold objs
    have h2 := l2 (s.parts.l.take 4) 0 0
    have h6 := l6 (s.measures.l.take 5) 0
    rw [← e1] at h2
    rw [← e2] at h6
    simp only [List.length_take] at h2 h6
    simp only [List.length_append, l7, e3, List.length_take]; omega
  · intro m y h; obtain ⟨x, rfl⟩ := mm m y h; have := b1 x; omega
  · intro m y c q h h'; obtain ⟨x, rfl⟩ := mm m y h; obtain ⟨z, rfl⟩ := cc _ _ _ h'; have := b2 z; omega
  · intro m y c q v z h h' h''; obtain ⟨x, rfl⟩ := mm m y h; obtain ⟨u, rfl⟩ := cc _ _ _ h'; obtain ⟨w, rfl⟩ := vv _ _ _ h''; have := b3 w; omega
end Go.Hem
namespace Go.Hem
def Voice.small (v : Voice) : Prop := v.events.l.length ≤ 5 ∧ v.tuplets.l.length ≤ 10 ∧ ∀ e ∈ v.events.l, e.tame
def Cell.small (c : Cell) : Prop := c.clefs.l.length ≤ 10 ∧ c.voices.l.length ≤ 3 ∧ ∀ v ∈ c.voices.l, v.small
def Measure.small (m : Measure) : Prop := m.tempi.l.length ≤ 10 ∧ m.cells.l.length ≤ 50 ∧ ∀ c ∈ m.cells.l, c.small
structure Score.small (s : Score) : Prop where
  parts : s.parts.l.length ≤ 40
  staves : ∀ p ∈ s.parts.l, p.staves.l.length ≤ 10
  measures : s.measures.l.length ≤ 20
  meas : ∀ m ∈ s.measures.l, m.small
  spanners : s.spanners.l.length ≤ 10
  last : s.last.l.length ≤ 10
theorem Voice.small.tame {v : Voice} (h : v.small) : v.tame := ⟨by have := h.1; omega, by have := h.2.1; omega, h.2.2⟩
theorem Cell.small.tame {v : Cell} (h : v.small) : v.tame := ⟨by have := h.1; omega, by have := h.2.1; omega, fun v hv => (h.2.2 v hv).tame⟩
theorem Measure.small.tame {v : Measure} (h : v.small) : v.tame := ⟨by have := h.1; omega, by have := h.2.1; omega, fun v hv => (h.2.2 v hv).tame⟩
theorem Score.small.tame {s : Score} (h : s.small) : s.tame := by
  obtain ⟨h1, h2, h3, h4, h5, h6⟩ := h
  exact ⟨by omega, fun p hp => by have := h2 p hp; unfold Part.tame; omega, by omega, fun m hm => (h4 m hm).tame, by omega, by omega⟩
theorem len_staves : ∀ (l : List Staff) st, (objStaves st l).length = l.length
  | [], _ => rfl
  | x :: l, st => by simp [objStaves, len_staves l]
theorem len_parts : ∀ (l : List Part) i st, (∀ p ∈ l, p.staves.l.length ≤ 10) → (objParts i st l).length ≤ 11 * l.length
  | [], _, _, _ => by simp [objParts]
  | x :: l, i, st, h => by
    have := len_parts l (i + 1) (st + x.staves.l.length) fun p hp => h p (by simp [hp])
    have := h x (by simp)
    simp only [objParts, List.length_cons, List.length_append, len_staves]; omega
theorem len_events : ∀ (l : List Event) m c v e, (objEvents m c v e l).length = l.length
  | [], _, _, _, _ => rfl
  | x :: l, m, c, v, e => by simp [objEvents, len_events l]
theorem len_voices : ∀ (l : List Voice) m c v, (∀ p ∈ l, p.small) → (objVoices m c v l).length ≤ 5 * l.length
  | [], _, _, _, _ => by simp [objVoices]
  | x :: l, m, c, v, h => by
    have := len_voices l m c (v + 1) fun p hp => h p (by simp [hp])
    have := (h x (by simp)).1
    simp only [objVoices, List.length_append, List.length_cons, len_events]; omega
theorem len_cells : ∀ (l : List Cell) m c, (∀ p ∈ l, p.small) → (objCells m c l).length ≤ 15 * l.length
  | [], _, _, _ => by simp [objCells]
  | x :: l, m, c, h => by
    have := len_cells l m (c + 1) fun p hp => h p (by simp [hp])
    obtain ⟨_, h1, h2⟩ := h x (by simp)
    have := len_voices x.voices.l m c 0 h2
    simp only [objCells, List.length_append, List.length_cons]; omega
theorem len_measures : ∀ (l : List Measure) m, (∀ p ∈ l, p.small) → (objMeasures m l).length ≤ 751 * l.length
  | [], _, _ => by simp [objMeasures]
  | x :: l, m, h => by
    have := len_measures l (m + 1) fun p hp => h p (by simp [hp])
    obtain ⟨_, h1, h2⟩ := h x (by simp)
    have := len_cells x.cells.l m 0 h2
    simp only [objMeasures, List.length_append, List.length_cons]; omega
theorem len_spanners : ∀ (l : List Spanner) i, (objSpanners i l).length = l.length
  | [], _ => rfl
  | x :: l, i => by simp [objSpanners, len_spanners l]
theorem staves_le : ∀ l : List Part, (∀ p ∈ l, p.staves.l.length ≤ 10) → stavesOf l ≤ 10 * l.length
  | [], _ => by simp [stavesOf]
  | p :: l, h => by
    have := staves_le l fun q hq => h q (by simp [hq])
    have := h p (by simp)
    have e : stavesOf (p :: l) = p.staves.l.length + stavesOf l := by simp [stavesOf]
    simp only [List.length_cons]; omega
theorem Score.small.Tame {s : Score} (h : s.small) : Tame s := by
  obtain ⟨h1, h2, h3, h4, h5, h6⟩ := h
  refine ⟨?_, by have := staves_le _ h2; omega, by omega, by omega, by omega, fun m y hy => ?_, fun m y c q hy hq => ?_, fun m y c q v z hy hq hz => ?_⟩
  · have := len_parts _ 0 0 h2
    have := len_measures _ 0 h4
    have := len_spanners s.spanners.l 0
    simp only [objs, List.length_append]; omega
  · have := (h4 y (List.mem_of_getElem? hy)).2.1; omega
  · have := ((h4 y (List.mem_of_getElem? hy)).2.2 q (List.mem_of_getElem? hq)).2.1; omega
  · have := (((h4 y (List.mem_of_getElem? hy)).2.2 q (List.mem_of_getElem? hq)).2.2 z (List.mem_of_getElem? hz)).1; omega
theorem Voice.small_short (v : Voice) : v.short.small := by
  have e : v.short.events.l = (v.events.l.take 5).map Event.short := l_of
  have e2 : v.short.tuplets.l = v.tuplets.l.take 3 := sl_take_len
  refine ⟨by rw [e]; simp; omega, by rw [e2]; simp; omega, fun x hx => ?_⟩
  rw [e] at hx
  obtain ⟨w, _, rfl⟩ := List.mem_map.1 hx
  exact w.tame_short
theorem Cell.small_short (v : Cell) : v.short.small := by
  have e : v.short.voices.l = (v.voices.l.take 3).map Voice.short := l_of
  have e2 : v.short.clefs.l = v.clefs.l.take 3 := sl_take_len
  refine ⟨by rw [e2]; simp; omega, by rw [e]; simp; omega, fun x hx => ?_⟩
  rw [e] at hx
  obtain ⟨w, _, rfl⟩ := List.mem_map.1 hx
  exact w.small_short
theorem Measure.small_short (v : Measure) : v.short.small := by
  have e : v.short.cells.l = (v.cells.l.take 6).map Cell.short := l_of
  have e2 : v.short.tempi.l = v.tempi.l.take 3 := sl_take_len
  refine ⟨by rw [e2]; simp; omega, by rw [e]; simp; omega, fun x hx => ?_⟩
  rw [e] at hx
  obtain ⟨w, _, rfl⟩ := List.mem_map.1 hx
  exact w.small_short
theorem Score.small_short (s : Score) : s.short.small := by
  have e1 : s.short.parts.l = (s.parts.l.take 4).map Part.short := l_of
  have e2 : s.short.measures.l = (s.measures.l.take 5).map Measure.short := l_of
  have e3 : s.short.spanners.l = s.spanners.l.take 6 := sl_take_len
  have e4 : s.short.last.l = s.last.l.take 4 := sl_take_len
  refine ⟨by rw [e1]; simp; omega, fun p hp => ?_, by rw [e2]; simp; omega, fun m hm => ?_, by rw [e3, List.length_take]; omega, by rw [e4, List.length_take]; omega⟩
  · rw [e1] at hp
    obtain ⟨w, _, rfl⟩ := List.mem_map.1 hp
    have : w.short.staves.l = w.staves.l.take 3 := sl_take_len
    rw [this, List.length_take]; omega
  · rw [e2] at hm
    obtain ⟨w, _, rfl⟩ := List.mem_map.1 hm
    exact w.small_short
theorem Voice.small_cl {v : Voice} (h : v.small) : v.cl.small := by
  obtain ⟨h1, h2, h3⟩ := h
  have e1 : v.cl.events.l = v.events.l := l_of
  have e2 : v.cl.tuplets.l = v.tuplets.l := l_of
  exact ⟨by rw [e1]; exact h1, by rw [e2]; exact h2, by rw [e1]; exact h3⟩
theorem Cell.small_cl {v : Cell} (h : v.small) : v.cl.small := by
  obtain ⟨h1, h2, h3⟩ := h
  have e1 : v.cl.voices.l = v.voices.l.map Voice.cl := l_of
  refine ⟨h1, by rw [e1, List.length_map]; exact h2, fun x hx => ?_⟩
  rw [e1] at hx
  obtain ⟨w, hw, rfl⟩ := List.mem_map.1 hx
  exact Voice.small_cl (h3 w hw)
theorem Measure.small_cl {v : Measure} (h : v.small) : v.cl.small := by
  obtain ⟨h1, h2, h3⟩ := h
  have e1 : v.cl.cells.l = v.cells.l.map Cell.cl := l_of
  refine ⟨h1, by rw [e1, List.length_map]; exact h2, fun x hx => ?_⟩
  rw [e1] at hx
  obtain ⟨w, hw, rfl⟩ := List.mem_map.1 hx
  exact Cell.small_cl (h3 w hw)
theorem Score.small_cl {v : Score} (h : v.small) : v.cl.small := by
  obtain ⟨h1, h2, h3, h4, h5, h6⟩ := h
  have e1 : v.cl.measures.l = v.measures.l.map Measure.cl := rfl
  refine ⟨h1, h2, by rw [e1, List.length_map]; exact h3, fun x hx => ?_, h5, h6⟩
  rw [e1] at hx
  obtain ⟨w, hw, rfl⟩ := List.mem_map.1 hx
  exact Measure.small_cl (h4 w hw)
theorem Score.small_pr {v : Score} (h : v.small) : v.pr.small := by
  obtain ⟨h1, h2, h3, h4, h5, h6⟩ := Score.small_cl h
  refine ⟨h1, h2, h3, h4, ?_, h6⟩
  have e1 : v.pr.spanners.l = v.spanners.l.filter fun x => isEv (objs v) x.from_ && isEv (objs v) x.to := by
    show Sl.l (v.spanners.map _) = _
    cases v.spanners <;> rfl
  rw [e1]
  exact Nat.le_trans (List.length_filter_le _ _) h5
theorem Score.small_none : Score.none.small := by
  refine ⟨by decide, fun p hp => ?_, by decide, fun p hp => ?_, by decide, by decide⟩
  · simp [Score.none, Sl.l] at hp
  · simp [Score.none, Sl.l] at hp
theorem objVoices_cn (m c : Nat) : ∀ (l : List Voice) (v : Nat), objVoices m c v (l.map Voice.cn) = objVoices m c v l
  | [], _ => rfl
  | x :: l, v => by
    have e : x.cn.events.l = x.events.l.map Event.cn := l_of
    have e2 : ∀ (l : List Event) i, objEvents m c v i (l.map Event.cn) = objEvents m c v i l := by
      intro l
      induction l with
      | nil => intro i; rfl
      | cons y l ih => intro i; simp only [List.map_cons, objEvents, ih]; rfl
    simp only [List.map_cons, objVoices, objVoices_cn m c l, e, e2]
theorem objCells_cn (m : Nat) : ∀ (l : List Cell) (c : Nat), objCells m c (l.map Cell.cn) = objCells m c l
  | [], _ => rfl
  | x :: l, c => by
    have e : x.cn.voices.l = x.voices.l.map Voice.cn := l_of
    simp only [List.map_cons, objCells, objCells_cn m l, e, objVoices_cn]
theorem objMeasures_cn : ∀ (l : List Measure) (m : Nat), objMeasures m (l.map Measure.cn) = objMeasures m l
  | [], _ => rfl
  | x :: l, m => by
    have e : x.cn.cells.l = x.cells.l.map Cell.cn := l_of
    have e2 : oMeasure m x.cn = oMeasure m x := rfl
    simp only [List.map_cons, objMeasures, objMeasures_cn l, e, e2, objCells_cn]
theorem objParts_cn : ∀ (l : List Part) (i st : Nat), objParts i st (l.map Part.cn) = objParts i st l
  | [], _, _ => rfl
  | x :: l, i, st => by
    have e : x.cn.staves.l = x.staves.l := l_of
    have e2 : oPart i x.cn = oPart i x := rfl
    simp only [List.map_cons, objParts, objParts_cn l, e, e2]
theorem objs_cn (s : Score) : objs s.cn = objs s := by
  have e : s.cn.measures.l = s.measures.l.map Measure.cn := l_of
  have e2 : s.cn.parts.l = s.parts.l.map Part.cn := l_of
  have e3 : s.cn.spanners.l = s.spanners.l := l_of
  unfold objs
  rw [e, e2, e3, objMeasures_cn, objParts_cn]
theorem pruned_cn (a : Score) : a.pruned.cn = { a.cn with spanners := Sl.of (a.cn.spanners.l.filter fun p => isEv (objs a.cn) p.from_ && isEv (objs a.cn) p.to) } := by
  have e3 : a.cn.spanners.l = a.spanners.l := l_of
  have e4 : a.pruned.spanners.l = a.spanners.l.filter fun p => isEv (objs a) p.from_ && isEv (objs a) p.to := l_of
  rw [objs_cn, e3]
  unfold Score.cn
  rw [e4]; rfl
theorem pruned_congr {a b : Score} (h : a.cn = b.cn) : a.pruned.cn = b.pruned.cn := by rw [pruned_cn, pruned_cn, h]
theorem map_cl_cn (l : List Measure) : (l.map Measure.cl).map Measure.cn = l.map Measure.cn := by
  rw [List.map_map]; congr 1; funext v; exact v.cl_cn
end Go.Hem
namespace Go.Hem
variable {pol : Pol}
theorem zero_pv (h28 : pol.pure 28 = true) (hp : pol.pure 99 = true) (hp2 : pol.pure 50 = true) (hp3 : pol.pure 113 = true) (hp4 : pol.pure 68 = true) (a : Score) (ha : a.tame) : Pv prog pol 31 [a.enc] (.sc (.bool (decide (a.cn = Score.none.cn)))) := by
  refine Pv_of' ok31 (by simp only [AV.closedBs, Score.enc_closed, Bool.and_self]) ?_
  simp -implicitDefEqProofs (maxDischargeDepth := 12) only [wpF, cf31, WW,List.replicate,e_splice,if_true,if_false,ite_true,ite_false,true_or,ne_eq,seval,h_putc,beq_self_eq_true,eq_self,exists_eq_left,exists_eq_left', a.enc_eq]
  rw [← a.enc_eq]
  refine wA_pure h28 (same_pv hp hp2 hp3 hp4 a Score.none ha) ?_
  simp -implicitDefEqProofs (maxDischargeDepth := 12) only [WW,List.replicate,e_splice,if_true,if_false,ite_true,ite_false,true_or,ne_eq,seval,h_putc,beq_self_eq_true,eq_self,exists_eq_left,exists_eq_left']
  exact frz_sc
def pures9 : List Nat := [29, 30, 32, 42, 43, 44, 45, 52] ++ pures8
def Cell.none : Cell := ⟨Option.none, Option.none⟩
def Measure.first (m : Measure) : Cell := (m.cells.l[0]?).getD Cell.none
end Go.Hem
namespace Go.Hem
def pures12 : List Nat := [56, 57] ++ pures9
def polM : Pol := { pure := fun f => pures12.contains f, eff := insPol }
theorem polM_pr : PrPol polM := by unfold PrPol ClPol; decide
theorem polM_dm : DmPol polM := ⟨polM_pr, rfl, rfl, rfl, rfl⟩
theorem polM_im : ImPol polM := ⟨polM_pr.1, rfl, rfl, rfl, rfl, rfl, rfl⟩
theorem known_run12 : okTrue (xPure (X prog polM memo0 1000) 19 []) = true := by decide +kernel
theorem known12_pv : Pv prog polM 19 [] (.sc (.bool true)) := pv_of_x memo0_ok rfl (okTrue_spec known_run12)
def Score.withM (s : Score) (l : List Measure) : Score := { s with measures := some l }
theorem withM_cn {s t : Score} {l m : List Measure} (h : s.cn = t.cn) (k : l.map Measure.cn = m.map Measure.cn) : (s.withM l).cn = (t.withM m).cn := by
  unfold Score.cn at h ⊢
  simp only [Score.withM, Score.mk.injEq] at h ⊢
  obtain ⟨a, b, c, _, e, f⟩ := h
  exact ⟨a, b, c, by show Sl.of (l.map Measure.cn) = Sl.of (m.map Measure.cn); rw [k], e, f⟩
theorem delM_eq (s : Score) (i j : Nat) : s.cl.delM i j = s.cl.withM ((s.measures.l.map Measure.cl).take i ++ (s.measures.l.map Measure.cl).drop j) := rfl
theorem delM_cn (s : Score) (i j : Nat) : (s.cl.delM i j).cn = (s.withM (s.measures.l.take i ++ s.measures.l.drop j)).cn := by
  rw [delM_eq]
  refine withM_cn s.cl_cn ?_
  rw [← List.map_take, ← List.map_drop, ← List.map_append, map_cl_cn]
theorem insM_l (s : Score) (i : Nat) (el : List Measure) (hi : i ≤ s.measures.l.length) : (s.insM i el).measures = some ((s.measures.l.map Measure.cl).take i ++ el.map Measure.cl ++ (s.measures.l.map Measure.cl).drop i) := by
  show Sl.ins (some (s.measures.l.map Measure.cl)) i (el.map Measure.cl) = _
  unfold Sl.ins
  split
  · rename_i h
    rw [h, List.append_nil, List.take_append_drop]
  · rfl
theorem insM_eq (s : Score) (i : Nat) (el : List Measure) (hi : i ≤ s.measures.l.length) : s.insM i el = s.cl.withM ((s.measures.l.map Measure.cl).take i ++ el.map Measure.cl ++ (s.measures.l.map Measure.cl).drop i) := by
  have := insM_l s i el hi
  unfold Score.insM at this ⊢
  simp only at this
  unfold Score.withM
  rw [this]
theorem insM_cn (s : Score) (i : Nat) (el : List Measure) (hi : i ≤ s.measures.l.length) : (s.insM i el).cn = (s.withM (s.measures.l.take i ++ el ++ s.measures.l.drop i)).cn := by
  rw [insM_eq s i el hi]
  refine withM_cn s.cl_cn ?_
  rw [← List.map_take, ← List.map_drop, ← List.map_append, ← List.map_append, map_cl_cn]
theorem small_withM {s : Score} (h : s.small) {l : List Measure} (hl : l.length ≤ 20) (hm : ∀ m ∈ l, m.small) : (s.withM l).small := by
  obtain ⟨h1, h2, h3, h4, h5, h6⟩ := h
  exact ⟨h1, h2, hl, hm, h5, h6⟩
theorem mem_cl {s : Score} (h : s.small) {m : Measure} (hm : m ∈ s.measures.l.map Measure.cl) : m.small := by
  obtain ⟨w, hw, rfl⟩ := List.mem_map.1 hm
  exact Measure.small_cl (h.meas w hw)
theorem small_delM {s : Score} (h : s.small) (i j : Nat) (hij : i ≤ j) : (s.cl.delM i j).small := by
  rw [delM_eq]
  refine small_withM (Score.small_cl h) ?_ (fun m hm => ?_)
  · have := h.measures
    simp only [List.length_append, List.length_take, List.length_drop, List.length_map]
    omega
  · rcases List.mem_append.1 hm with hm | hm
    · exact mem_cl h (List.mem_of_mem_take hm)
    · exact mem_cl h (List.mem_of_mem_drop hm)
theorem small_insM {s : Score} (h : s.small) {i : Nat} {el : List Measure} (hi : i ≤ s.measures.l.length) (hl : s.measures.l.length + el.length ≤ 20) (he : ∀ m ∈ el, m.small) : (s.insM i el).small := by
  rw [insM_eq s i el hi]
  refine small_withM (Score.small_cl h) ?_ (fun m hm => ?_)
  · simp only [List.length_append, List.length_take, List.length_drop, List.length_map]; omega
  · rcases List.mem_append.1 hm with hm | hm
    · rcases List.mem_append.1 hm with hm | hm
      · exact mem_cl h (List.mem_of_mem_take hm)
      · obtain ⟨w, hw, rfl⟩ := List.mem_map.1 hm
        exact Measure.small_cl (he w hw)
    · exact mem_cl h (List.mem_of_mem_drop hm)
def badD (n : Nat) (i c : Int) : Prop := i < 0 ∨ c < 0 ∨ (n : Int) < i ∨ (n : Int) - i < c
theorem case57 (s : Score) (hs : s.small) (i c : Int) : ∃ D F, D.small ∧ Pv prog polM 57 [s.enc, .sc (.int .i64 i), .sc (.int .i64 c)] (.tup [D.enc, .sc (.int .i64 F)]) ∧
    ((badD s.measures.l.length i c ∧ F = 2 ∧ D = Score.none) ∨ (∃ n m : Nat, i = n ∧ c = m ∧ n + m ≤ s.measures.l.length ∧ F = 0 ∧ D.cn = (s.withM (s.measures.l.take n ++ s.measures.l.drop (n + m))).pruned.cn)) := by
  have hb := hs.Tame.measures
  by_cases h : badD s.measures.l.length i c
  · exact ⟨Score.none, 2, Score.small_none, delm_er s i c h hb, .inl ⟨h, rfl, rfl⟩⟩
  · unfold badD at h
    obtain ⟨n, rfl⟩ : ∃ n : Nat, i = n := ⟨i.toNat, by omega⟩
    obtain ⟨m, rfl⟩ : ∃ m : Nat, c = m := ⟨c.toNat, by omega⟩
    have hnm : n + m ≤ s.measures.l.length := by omega
    have hsd : (s.cl.delM n (n + m)).small := small_delM hs n (n + m) (Nat.le_add_right _ _)
    refine ⟨(s.cl.delM n (n + m)).pr, 0, Score.small_pr hsd, delm_ok polM_dm s hs.tame hs.Tame n m hnm hsd.tame hsd.Tame, .inr ⟨n, m, rfl, rfl, hnm, rfl, ?_⟩⟩
    rw [Score.pr_cn]
    exact pruned_congr (delM_cn s n (n + m))
def fitsB (s : Score) (l : List Measure) : Bool := l.all fun m => decide (m.cells.l.length = stavesOf s.parts.l)
theorem fitsB_any (s : Score) (l : List Measure) : l.any (badM (stavesOf s.parts.l)) = !fitsB s l := by
  unfold fitsB
  induction l with
  | nil => rfl
  | cons y l ih =>
    simp only [List.all_cons, List.any_cons, ih, Bool.not_and]
    congr 1
    by_cases h : y.cells.l.length = stavesOf s.parts.l
    · simp [badM, h]
    · have : ¬ ((y.cells.l.length : Int) = (stavesOf s.parts.l : Int)) := by omega
      simp [badM, h, this]
theorem case56 (s : Score) (hs : s.small) (i : Int) (l : Sl Measure) (hl : s.measures.l.length + l.l.length ≤ 20) (hm : ∀ m ∈ l.l, m.small) : ∃ T E, T.small ∧ Pv prog polM 56 [s.enc, .sc (.int .i64 i), slm Measure.enc l] (.tup [T.enc, .sc (.int .i64 E)]) ∧
    (((i < 0 ∨ (s.measures.l.length : Int) < i) ∧ E = 2 ∧ T = Score.none) ∨ (∃ n : Nat, i = n ∧ n ≤ s.measures.l.length ∧ fitsB s l.l = false ∧ E = 20 ∧ T = Score.none) ∨ (∃ n : Nat, i = n ∧ n ≤ s.measures.l.length ∧ fitsB s l.l = true ∧ E = 0 ∧ T = s.insM n l.l)) := by
  by_cases h : i < 0 ∨ (s.measures.l.length : Int) < i
  · exact ⟨Score.none, 2, Score.small_none, insm_er rfl s hs.Tame i l h, .inl ⟨h, rfl, rfl⟩⟩
  · obtain ⟨n, rfl⟩ : ∃ n : Nat, i = n := ⟨i.toNat, by omega⟩
    have hn : n ≤ s.measures.l.length := by omega
    cases hf : fitsB s l.l with
    | false => exact ⟨Score.none, 20, Score.small_none, insm_le polM_im s hs.Tame n hn l (by omega) (by rw [fitsB_any, hf]; rfl), .inr (.inl ⟨n, rfl, hn, rfl, rfl, rfl⟩)⟩
    | true => exact ⟨s.insM n l.l, 0, small_insM hs hn hl hm, insm_ok polM_im s hs.tame hs.Tame n hn l (fun m h => (hm m h).tame) (by omega) (by rw [fitsB_any, hf]; rfl), .inr (.inr ⟨n, rfl, hn, rfl, rfl, rfl⟩)⟩
theorem back_cn (s : Score) (n : Nat) (el : List Measure) (hn : n ≤ s.measures.l.length) : ((s.insM n el).withM ((s.insM n el).measures.l.take n ++ (s.insM n el).measures.l.drop (n + el.length))).pruned.cn = s.pruned.cn := by
  refine pruned_congr ?_
  have e : (s.insM n el).measures.l.take n ++ (s.insM n el).measures.l.drop (n + el.length) = s.measures.l.map Measure.cl := by
    rw [insM_l s n el hn]
    show ((s.measures.l.map Measure.cl).take n ++ el.map Measure.cl ++ (s.measures.l.map Measure.cl).drop n).take n ++ ((s.measures.l.map Measure.cl).take n ++ el.map Measure.cl ++ (s.measures.l.map Measure.cl).drop n).drop (n + el.length) = _
    rw [show el.length = (el.map Measure.cl).length by rw [List.length_map]]
    exact ins_del (by rw [List.length_map]; exact hn)
  rw [e, insM_eq s n el hn]
  have : (s.cl.withM ((s.measures.l.map Measure.cl).take n ++ el.map Measure.cl ++ (s.measures.l.map Measure.cl).drop n)).withM (s.measures.l.map Measure.cl) = s.cl := rfl
  rw [this]
  exact s.cl_cn
theorem flat_insM (s : Score) (n : Nat) (el : List Measure) (x : AV) : AV.flatB (.tup [(s.insM n el).enc, x]) = false := by
  show ([(s.insM n el).enc, x].all AV.flat2) = false
  simp only [List.all_cons, Score.enc_eq]
  rfl
theorem own_withM {s : Score} {H : AHeap} {a : AV} {l : List Measure} {fp : List Nat} (h : Acc 1 22 Measure.enc H a (some l) fp) :
    ∃ fq, Own 20 H (.agg [.sc (.str s.title), .sc (.bool s.written), slm Part.enc s.parts, a, slm Spanner.enc s.spanners, slm ID.enc s.last]) (s.withM l).enc fq ∧ ∀ b ∈ fq, b ∈ fp := by
  obtain ⟨fq, hO, hq⟩ := h.own row_Measure
  refine ⟨[] ++ ([] ++ ([] ++ (fq ++ ([] ++ ([] ++ []))))), (show Own 3 H _ _ _ from ?_).mono (by decide), fun b hb => hq b (by simpa using hb)⟩
  exact ⟨_, rfl, .cons .scal (.cons .scal (.cons (own_imm Part.enc_closed) (.cons hO (.cons (own_imm Spanner.enc_closed) (.cons (own_imm ID.enc_closed) .nil Apart.nil_left) Apart.nil_left) Apart.nil_right) Apart.nil_left) Apart.nil_left) Apart.nil_left⟩
end Go.Hem
namespace Go.Hem
variable {pol : Pol}
theorem app_fr {P : Program} {K : AHeap → Prop} {H : AHeap} {Q : AV → AHeap → Prop} {n bytes : Nat} {v x : AV} (h : wpOpt P pol (fun H' => H'.fr = H.fr → K H') H (fun v H' => H'.fr = H.fr → Q v H') (appTo n bytes H v x)) : wpOpt P pol K H Q (appTo n bytes H v x) := by
  unfold appTo at h ⊢
  cases hm : alen x with
  | none => rw [hm] at h; exact h.elim
  | some m =>
    rw [hm, Option.bind_some] at h
    rw [Option.bind_some]
    cases hx : asrc n H x m with
    | none => rw [hx] at h; exact h.elim
    | some xs =>
      rw [hx, Option.bind_some] at h
      rw [Option.bind_some]
      cases v <;> try exact h.elim
      case sc s =>
        cases s <;> try exact h.elim
        simp only at h ⊢
        split at h
        · rename_i h0; rw [if_pos h0]; exact h rfl
        · rename_i h0; rw [if_neg h0]
          split at h
          · rename_i h1; rw [if_pos h1]; exact h rfl
          · exact h.elim
      case slice b off len cap n' =>
        simp only at h ⊢
        cases hc : H.cells b with
        | none => rw [hc] at h; exact h.elim
        | some cs =>
          rw [hc, Option.bind_some] at h
          rw [Option.bind_some]
          split at h
          · exact h.elim
          rename_i h0; rw [if_neg h0]
          split at h
          · rename_i h1; rw [if_pos h1]
            split at h
            · rename_i h2; rw [if_pos h2]
              exact ⟨h.1 (AHeap.fr_put _ _ _), h.2 (AHeap.fr_put _ _ _)⟩
            · exact h.elim
          · rename_i h1; rw [if_neg h1]
            split at h
            · rename_i h2; rw [if_pos h2]
              have e : ∀ z, ((H.put b none).alloc (.cells z)).fr = H.fr := fun z => by rw [AHeap.fr_alloc, AHeap.fr_put]
              exact ⟨h.1 (e _), h.2 (e _)⟩
            · exact h.elim
theorem wA_app3F {α : Type} {f : α → AV} {I : Bool} {d n bytes : Nat} {P : Program} {pol : Pol} {is : List CI} {dst : Option Tmp} {rd : List COp} {R : List AV → AHeap → Prop} {y : AV} {t : List AV} {H : AHeap} {v x : AV} {l : List α} {fp fp1 : List Nat} {ys : List α} {cs1 : List AV}
    (hf : RowOf n f) (h : AccX I d n f H v (some l) fp) (hm : alen x = some ys.length) (hx : asrc n H x ys.length = some cs1)
    (ho : OwnL (OwnX I d) H cs1 (ys.flatMap fun y => (f y).cells) fp1) (ha : Apart fp fp1) (hb : (2 * (l.length + ys.length) + 1000) * bytes ≤ 2 ^ 47)
    (k : ∀ v' H' fp', AccX I d n f H' v' (some (l ++ ys)) fp' → H.next ≤ H'.next → (∀ b, b ∉ fp → b < H.next → H'.cells b = H.cells b) → (∀ b ∈ fp', b ∈ fp ∨ b ∈ fp1 ∨ H.next ≤ b) → v'.one = true → v'.cells = [v'] → H'.fr = H.fr →
      reK P (y :: t) H rd H' ∧ wpIns P pol is (putT (y :: t) dst v') H' R) :
    wA P pol rd is dst (y :: t) H R (some true) (appTo n bytes H v x) := by
  by_cases hy : ys = []
  · subst hy
    have hl1 : cs1 = [] := List.length_eq_zero_iff.1 (by rw [ho.len]; rfl)
    subst hl1
    have hx' : asrc n H x 0 = some [] := hx
    have hm' : alen x = some 0 := hm
    have hA := h
    have h2 := hA
    rcases h2 with ⟨_, h1, _⟩ | ⟨b, cap, cs, rest, fp', l', h1, rfl, h3, h4, h5, h6, h7, h8, rfl⟩
    · cases h1
    cases h1
    have e : appTo n bytes H (.slice b 0 l.length cap n) x = some (.mem (.slice b 0 l.length cap n) b (cs ++ rest)) := by
      simp only [appTo, hm', hx', Option.bind_some, h4, ne_eq, not_true, if_false, Nat.add_zero, if_pos h3]
      rw [if_pos (by
        have e1 : (cap - l.length) * n = cap * n - l.length * n := Nat.sub_mul _ _ _
        simp only [List.length_append]; omega)]
      simp [splice]
    have hs : ∀ c, (H.put b (some (.cells (cs ++ rest)))).cells c = H.cells c := fun c => by
      by_cases hc : c = b
      · subst hc; rw [h_put_self h4, h4]
      · rw [h_put_ne hc]
    have := k _ (H.put b (some (.cells (cs ++ rest)))) (b :: fp') (by rw [List.append_nil]; exact hA.fr fun c _ => hs c) (by simp) (fun c _ hc => hs c) (fun c hc => .inl hc) hA.one hA.cells (AHeap.fr_put _ _ _)
    rw [e, wA_mem]
    exact this
  · show wpOpt P pol _ H _ (appTo n bytes H v x)
    refine app_fr (AccX.app hf h hy hm hx ho ha hb fun v' H' fp' a1 a2 a3 a4 => ?_)
    have := fun hfr => k v' H' fp' a1 a2 (fun b h1 h2 => cells_of_get (a3 b h1 h2)) a4 a1.one a1.cells hfr
    exact ⟨fun hfr => (this hfr).1, fun hfr => (this hfr).2⟩
def OwnR {α : Type} (f : α → AV) (n : Nat) (H : AHeap) (v : AV) (l : List α) : Prop := (l = [] ∧ v = .sc .nils) ∨ ∃ b cap, v = .slice b 0 l.length cap n ∧ Fzn H b (l.flatMap fun x => (f x).cells)
theorem OwnR.len {α : Type} {f : α → AV} {n : Nat} {H : AHeap} {v : AV} {l : List α} (h : OwnR f n H v l) : lenOf v = some (.sc (.int .i64 l.length)) ∧ alen v = some l.length := by
  rcases h with ⟨rfl, rfl⟩ | ⟨b, cap, rfl, _⟩ <;> exact ⟨rfl, rfl⟩
theorem OwnR.src {α : Type} {f : α → AV} {n : Nat} {H : AHeap} {v : AV} {l : List α} (row : RowOf n f) (h : OwnR f n H v l) : asrc n H v l.length = some (l.flatMap fun x => (f x).cells) := by
  rcases h with ⟨rfl, rfl⟩ | ⟨b, cap, rfl, hz⟩
  · rfl
  · simp only [asrc, hz.rd, Option.bind_some, Nat.zero_add, List.drop_zero]
    have := flat_len row l
    rw [if_pos ⟨Nat.le_refl _, by omega⟩, List.take_of_length_le (by omega)]
theorem OwnR.alloc {α : Type} {f : α → AV} {n : Nat} {H : AHeap} {v : AV} {l : List α} {x : Blk} (h : OwnR f n H v l) : OwnR f n (H.alloc x) v l := by
  rcases h with h | ⟨b, cap, h1, h2⟩
  · exact .inl h
  · exact .inr ⟨b, cap, h1, h2.alloc⟩
theorem OwnR.put {α : Type} {f : α → AV} {n c : Nat} {H : AHeap} {v : AV} {l : List α} {x : Option Blk} (h : OwnR f n H v l) (hc : (H.cells c).isSome = true) : OwnR f n (H.put c x) v l := by
  rcases h with h | ⟨b, cap, h1, h2⟩
  · exact .inl h
  · exact .inr ⟨b, cap, h1, h2.put fun e => by subst e; rw [h2.2.1] at hc; cases hc⟩
theorem OwnR.lf {α : Type} {f : α → AV} {n : Nat} {H H1 : AHeap} {v : AV} {l : List α} (h : OwnR f n H v l) (k : LF H H1) : OwnR f n H1 v l := by
  rcases h with h | ⟨b, cap, h1, h2⟩
  · exact .inl h
  · exact .inr ⟨b, cap, h1, h2.lf k⟩
theorem OwnR.to {α : Type} {f : α → AV} {n : Nat} {H H1 : AHeap} {v : AV} {l : List α} {fp : List Nat} (h : OwnR f n H v l) (hfr : H1.fr = H.fr) (hn : H.next ≤ H1.next) (hk : ∀ b, b ∉ fp → b < H.next → H1.cells b = H.cells b) (hfp : ∀ b ∈ fp, (H.cells b).isSome = true) : OwnR f n H1 v l := by
  rcases h with h | ⟨b, cap, h1, h2⟩
  · exact .inl h
  · have hb : b ∉ fp := fun hb => by have := hfp b hb; rw [h2.2.1] at this; cases this
    exact .inr ⟨b, cap, h1, by have := h2.1; omega, by rw [hk b hb h2.1]; exact h2.2.1, by rw [hfr]; exact h2.2.2⟩
theorem wA_list {P : Program} {f : FuncId} {α : Type} {g : α → AV} {d n : Nat} {pre : List AV} {is : List CI} {dst : Option Tmp} {rd : List COp} {R : List AV → AHeap → Prop} {y : AV} {t : List AV} {H : AHeap} {v r : AV} {l : List α} {fp : List Nat} (hp : pol.pure f = true) (row : RowOf n g) (hpre : ∀ H, OwnL (Own 20) H pre pre []) (hA : AccX true d n g H v (Sl.of l) fp) (hd : d ≤ 19)
    (hpv : Pv P pol f (pre ++ [slm g (Sl.of l)]) r)
    (k : ∀ H1, Less H H1 fp → H1.next = H.next → (r.flatB = false → OwnR g n H1 v l) → reK P (y :: t) H rd H1 ∧ wpIns P pol is (putT (y :: t) dst r) H1 R) :
    wA P pol rd is dst (y :: t) H R (some true) (some (.call f (pre ++ [v]))) := by
  by_cases hl : l = []
  · subst hl
    rcases hA with ⟨rfl, _, rfl⟩ | ⟨b, cap, cs, rest, fp', l', h1, _⟩
    · exact wA_pure hp hpv (k H (fun _ _ => rfl) rfl (fun _ => .inl ⟨rfl, rfl⟩)).2
    · cases h1
  · have e : Sl.of l = some l := by
      unfold Sl.of
      rw [if_neg (by rw [List.isEmpty_iff]; exact hl)]
    rw [e] at hA hpv
    refine wA_pvf hp (pvf_list2 row (hpre H) hA hd Apart.nil_left hl hpv fun H1 h1 h2 h3 => k H1 h1 h2 fun hr => ?_)
    obtain ⟨b, cap, e1, _, e2⟩ := h3 hr
    exact .inr ⟨b, cap, e1, e2⟩
end Go.Hem
set_option maxHeartbeats 8000000
namespace Go.Hem
theorem fitsB_snoc (s : Score) (l : List Measure) (m : Measure) : fitsB s (l ++ [m]) = (fitsB s l && decide (m.cells.l.length = stavesOf s.parts.l)) := by simp [fitsB]
def ownM (l : Sl Measure) (j : Nat) : List Measure := (l.l.take j).map Measure.short
theorem ownM_succ {l : Sl Measure} {j : Nat} {y : Measure} (h : l.l[j]? = some y) : ownM l (j + 1) = ownM l j ++ [y.short] := by
  unfold ownM
  rw [List.take_add_one, h, List.map_append]; rfl
theorem ownM_len {l : Sl Measure} {j : Nat} (h : j ≤ l.l.length) : (ownM l j).length = j := by
  unfold ownM
  rw [List.length_map, List.length_take]; omega
theorem e_elemA {m n b off i : Nat} : elemAtA m n (.ptr b off) i = if i < m then some (.ptr b (off + i * n)) else none := rfl
theorem ownM_end {l : Sl Measure} {j : Nat} (hj : j ≤ 4) (h : j = 4 ∨ l.l.length ≤ j) : ownM l j = ownM l 4 := by
  rcases h with rfl | h
  · rfl
  · unfold ownM
    rw [List.take_of_length_le h, List.take_of_length_le (by omega)]
theorem ownM_small {l : Sl Measure} {j : Nat} : ∀ m ∈ ownM l j, m.small := by
  intro m hm
  obtain ⟨w, _, rfl⟩ := List.mem_map.1 hm
  exact w.small_short
theorem ownM_le {l : Sl Measure} : (ownM l 4).length ≤ 4 := by
  unfold ownM
  rw [List.length_map, List.length_take]; omega
theorem wp_loopX {P : Program} {pol : Pol} {b : CC} {Q : Post} (Inv : Nat → List AV → AHeap → Prop) (Ex : List AV → AHeap → Prop)
    (step : ∀ k t H, Inv k t H → wpC P pol b t H (thenC (fun e t' H' => e = .exit 0 ∧ Ex t' H') fun t' H' => ∃ k', k' < k ∧ Inv k' t' H')) (hex : ∀ t H, Ex t H → Q (.exit 0) t H) {k : Nat} {t : List AV} {H : AHeap} (h : Inv k t H) : wpC P pol (.loop b) t H Q := by
  refine wp_loop Inv (fun k t H hi => wpC_mono (fun e t' H' q => ?_) (step k t H hi)) h
  cases e with
  | normal => exact q
  | exit id => obtain ⟨e1, e2⟩ := q; cases e1; exact hex _ _ e2
  | ret => obtain ⟨e1, e2⟩ := q; cases e1
theorem law12_pv (s : Score) (l : Sl Measure) (i c : Int) : Pv prog polM 12 [s.enc, slm Measure.enc l, .agg [.sc (.int .i64 i), .sc (.int .i64 c)]] (.sc (.bool true)) := by
  refine Pv_of' ok12 (by simp only [AV.closedBs, Score.enc_closed, closedB_slm Measure.enc_closed, AV.closedB, Bool.and_self]) ?_
  have hs := s.small_short
  have hTs := hs.Tame
  have hmN : s.short.measures.l.length ≤ 5 := by
    have e2 : s.short.measures.l = (s.measures.l.take 5).map Measure.short := l_of
    rw [e2, List.length_map, List.length_take]; omega
  simp -implicitDefEqProofs (maxDischargeDepth := 12) only [wpF, cf12, WW,List.replicate,e_splice,if_true,if_false,ite_true,ite_false,true_or,ne_eq,seval,h_putc,beq_self_eq_true,eq_self,exists_eq_left,exists_eq_left', s.enc_eq]
  rw [← s.enc_eq]
  refine wA_pure rfl (short_pv rfl rfl rfl rfl rfl s) ?_
  generalize hS : s.short = S at *
  have hSe := S.enc_eq
  simp -implicitDefEqProofs (maxDischargeDepth := 12) only [WW,List.replicate,e_splice,if_true,if_false,ite_true,ite_false,true_or,ne_eq,seval,h_putc,beq_self_eq_true,eq_self,exists_eq_left,exists_eq_left', hSe]
  refine wp_loopX (Inv := fun k t H => ∃ (j : Nat) (fp : List Nat) (a : AV), j + k = min 4 l.l.length ∧ H.cells 0 = some S.enc.cells ∧ H.cells 1 = some [.sc (.int .i64 i), .sc (.int .i64 c)] ∧ Acc 1 22 Measure.enc H a (Sl.of (ownM l j)) fp ∧ (∀ b ∈ fp, 2 ≤ b) ∧
    ∃ y : Nat → AV, t = [s.enc, slm Measure.enc l, .agg [.sc (.int .i64 i), .sc (.int .i64 c)], .ptr 0 0, y 4, .ptr 1 0, .sc (.bool false), a, .sc (.bool (fitsB S (ownM l j))), .sc (.int .i64 j), y 10, y 11, y 12, y 13, y 14, y 15, y 16, y 17, y 18, y 19, y 20, y 21, y 22, y 23, y 24, y 25, y 26, y 27, y 28, y 29, y 30, y 31, y 32, y 33, y 34, y 35, y 36, y 37, y 38, y 39, y 40, y 41, y 42, y 43, y 44, y 45, y 46, y 47, y 48, y 49, y 50, y 51, y 52, y 53, y 54, y 55, y 56, y 57, y 58, y 59, y 60, y 61, y 62, y 63, y 64, y 65, y 66, y 67, y 68, y 69, y 70, y 71, y 72, y 73, y 74, y 75, y 76, y 77, y 78, y 79, y 80, y 81, y 82, y 83, y 84, y 85, y 86, y 87, y 88, y 89, y 90, y 91, y 92, y 93, y 94, y 95, y 96, y 97, y 98, y 99, y 100, y 101, y 102, y 103, y 104, y 105, y 106, y 107, y 108, y 109, y 110, y 111, y 112, y 113, y 114, y 115, y 116, y 117, y 118, y 119, y 120, y 121, y 122, y 123, y 124, y 125, y 126, y 127, y 128, y 129, y 130, y 131, y 132, y 133, y 134, y 135, y 136, y 137, y 138, y 139, y 140, y 141, y 142, y 143, y 144, y 145, y 146, y 147, y 148, y 149, y 150, y 151, y 152, y 153, y 154, y 155, y 156, y 157, y 158, y 159, y 160, y 161, y 162, y 163, y 164, y 165, y 166, y 167, y 168, y 169, y 170, y 171, y 172, y 173, y 174, y 175, y 176, y 177, y 178, y 179, y 180, y 181, y 182, y 183, y 184, y 185]) (Ex := fun t H => ∃ (j : Nat) (fp : List Nat) (a : AV), H.cells 0 = some S.enc.cells ∧ H.cells 1 = some [.sc (.int .i64 i), .sc (.int .i64 c)] ∧ Acc 1 22 Measure.enc H a (Sl.of (ownM l 4)) fp ∧ (∀ b ∈ fp, 2 ≤ b) ∧
    ∃ y : Nat → AV, t = [s.enc, slm Measure.enc l, .agg [.sc (.int .i64 i), .sc (.int .i64 c)], .ptr 0 0, y 4, .ptr 1 0, .sc (.bool false), a, .sc (.bool (fitsB S (ownM l 4))), .sc (.int .i64 j), y 10, y 11, y 12, y 13, y 14, y 15, y 16, y 17, y 18, y 19, y 20, y 21, y 22, y 23, y 24, y 25, y 26, y 27, y 28, y 29, y 30, y 31, y 32, y 33, y 34, y 35, y 36, y 37, y 38, y 39, y 40, y 41, y 42, y 43, y 44, y 45, y 46, y 47, y 48, y 49, y 50, y 51, y 52, y 53, y 54, y 55, y 56, y 57, y 58, y 59, y 60, y 61, y 62, y 63, y 64, y 65, y 66, y 67, y 68, y 69, y 70, y 71, y 72, y 73, y 74, y 75, y 76, y 77, y 78, y 79, y 80, y 81, y 82, y 83, y 84, y 85, y 86, y 87, y 88, y 89, y 90, y 91, y 92, y 93, y 94, y 95, y 96, y 97, y 98, y 99, y 100, y 101, y 102, y 103, y 104, y 105, y 106, y 107, y 108, y 109, y 110, y 111, y 112, y 113, y 114, y 115, y 116, y 117, y 118, y 119, y 120, y 121, y 122, y 123, y 124, y 125, y 126, y 127, y 128, y 129, y 130, y 131, y 132, y 133, y 134, y 135, y 136, y 137, y 138, y 139, y 140, y 141, y 142, y 143, y 144, y 145, y 146, y 147, y 148, y 149, y 150, y 151, y 152, y 153, y 154, y 155, y 156, y 157, y 158, y 159, y 160, y 161, y 162, y 163, y 164, y 165, y 166, y 167, y 168, y 169, y 170, y 171, y 172, y 173, y 174, y 175, y 176, y 177, y 178, y 179, y 180, y 181, y 182, y 183, y 184, y 185]) (k := min 4 l.l.length) ?_ ?_
    ⟨0, [], _, by omega, ?_, ?_, acc_none, by simp, ex_x rfl⟩
  rotate_left
  · rintro t H ⟨j, fp, a, hH0, hH1, hA, hfp, y, rfl⟩
    simp only [S.enc_eq, c_agg] at hH0
    simp -implicitDefEqProofs (maxDischargeDepth := 12) only [WW,List.replicate,e_splice,if_true,if_false,ite_true,ite_false,true_or,ne_eq,seval,h_putc,beq_self_eq_true,eq_self,exists_eq_left,exists_eq_left', e_elemA, hH0, hH1]
    have hol4 := ownM_le (l := l)
    have hosm := ownM_small (l := l) (j := 4)
    generalize ownM l 4 = ol at hA hol4 hosm ⊢
    obtain ⟨T, E, hTsm, hT56, hTc⟩ := case56 S hs i (Sl.of ol) (by rw [l_of]; omega) (by rw [l_of]; exact hosm)
    rw [l_of] at hTc
    obtain ⟨D, F, hDs, hD57, hDc⟩ := case57 S hs i c
    have hTe := T.enc_eq
    have hDe := D.enc_eq
    try rw [← S.enc_eq]
    refine wA_list (pre := [S.enc, .sc (.int .i64 i)]) rfl row_Measure (fun H => .cons (own_score (d := 18) S) (.cons OwnX.scal .nil Apart.nil_right) Apart.nil_left) hA (by decide) hT56 fun H1 hless hnx hown => ?_
    have k0 := (cells_of_get (hless 0 (fun h => by have := hfp 0 h; omega))).trans hH0
    have k1 := (cells_of_get (hless 1 (fun h => by have := hfp 1 h; omega))).trans hH1
    have hn2 : 2 ≤ H1.next := by rw [hnx]; have := h_lt hH1; omega
    refine ⟨by simp only [k_nil], ?_⟩
    generalize hnq : H1.next = nx at hn2
    have n0 : ¬ 0 = nx := by omega
    have n0' : ¬ nx = 0 := by omega
    have n1 : ¬ 1 = nx := by omega
    have n1' : ¬ nx = 1 := by omega
    have n2 : ¬ 0 = nx + 1 := by omega
    have n3 : ¬ 1 = nx + 1 := by omega
    have n4 : ¬ nx = nx + 1 := by omega
    have n5 : ¬ nx + 1 = nx := by omega
    simp -implicitDefEqProofs (maxDischargeDepth := 12) only [WW,List.replicate,e_splice,if_true,if_false,ite_true,ite_false,true_or,ne_eq,seval,h_putc,beq_self_eq_true,eq_self,exists_eq_left,exists_eq_left', hTe, k0, k1, n0, n0', n1, n1', hnq]
    try rw [← S.enc_eq]
    refine wA_pure rfl hD57 ?_
    simp -implicitDefEqProofs (maxDischargeDepth := 12) only [WW,List.replicate,e_splice,if_true,if_false,ite_true,ite_false,true_or,ne_eq,seval,h_putc,beq_self_eq_true,eq_self,exists_eq_left,exists_eq_left', hDe, n0, n0', n1, n1', n2, n3, n4, n5, hnq]
    generalize hH4 : AHeap.put _ (nx + 1) _ = H4
    have kT : H4.cells nx = some [.sc (.str T.title), .sc (.bool T.written), slm Part.enc T.parts, slm Measure.enc T.measures, slm Spanner.enc T.spanners, slm ID.enc T.last] := by subst hH4; simp -implicitDefEqProofs (maxDischargeDepth := 12) only [WW,List.replicate,e_splice,if_true,if_false,ite_true,ite_false,true_or,ne_eq,seval,h_putc,beq_self_eq_true,eq_self,exists_eq_left,exists_eq_left', n0, n0', n1, n1', n2, n3, n4, n5, hnq]
    have kD : H4.cells (nx + 1) = some [.sc (.str D.title), .sc (.bool D.written), slm Part.enc D.parts, slm Measure.enc D.measures, slm Spanner.enc D.spanners, slm ID.enc D.last] := by subst hH4; simp -implicitDefEqProofs (maxDischargeDepth := 12) only [WW,List.replicate,e_splice,if_true,if_false,ite_true,ite_false,true_or,ne_eq,seval,h_putc,beq_self_eq_true,eq_self,exists_eq_left,exists_eq_left', n0, n0', n1, n1', n2, n3, n4, n5, hnq]
    have k0' : H4.cells 0 = some [.sc (.str S.title), .sc (.bool S.written), slm Part.enc S.parts, slm Measure.enc S.measures, slm Spanner.enc S.spanners, slm ID.enc S.last] := by subst hH4; simp -implicitDefEqProofs (maxDischargeDepth := 12) only [WW,List.replicate,e_splice,if_true,if_false,ite_true,ite_false,true_or,ne_eq,seval,h_putc,beq_self_eq_true,eq_self,exists_eq_left,exists_eq_left', n0, n0', n1, n1', n2, n3, n4, n5, hnq, k0]
    have hN4 : H4.next = nx + 2 := by subst hH4; simp only [AHeap.next_put, AHeap.next_alloc, hnq]
    have hown4 : AV.flatB (.tup [T.enc, .sc (.int .i64 E)]) = false → OwnR Measure.enc 22 H4 a ol := fun h => by
      subst hH4
      refine (((hown h).alloc.put ?_).alloc).put ?_
      · rw [h_alloc, if_pos hnq.symm]; rfl
      · rw [h_alloc, if_pos (by simp only [AHeap.next_put, AHeap.next_alloc, hnq])]; rfl
    clear hH4 hown hless k1
    replace k0 := k0'
    clear k0'
    refine wA_pure rfl known12_pv ?_
    have zT : ∀ X : Score, X.small → X = Score.none → Pv prog polM 31 [X.enc] (.sc (.bool true)) := fun X h1 h2 => by
      have := zero_pv (pol := polM) rfl rfl rfl rfl rfl X h1.tame
      rwa [decide_eq_true (by rw [h2])] at this
    have e5 : 0 ≤ i → i ≤ (S.measures.l.length : Int) → IntKind.i64.wrap ((S.measures.l.length : Int) - i) = (S.measures.l.length : Int) - i := fun _ _ => by rw [w64 (by omega) (by omega)]
    rcases hTc with ⟨hbi, rfl, hTn⟩ | ⟨n, rfl, hn, hB, rfl, hTn⟩ | ⟨n, rfl, hn, hB, rfl, hTn⟩
    · obtain ⟨rfl, hDn⟩ : F = 2 ∧ D = Score.none := by
        rcases hDc with ⟨_, h1, h2⟩ | ⟨n, m, rfl, rfl, hnm, _⟩
        · exact ⟨h1, h2⟩
        · omega
      by_cases i0 : i < 0
      · simp -implicitDefEqProofs (maxDischargeDepth := 12) only [WW,List.replicate,e_splice,if_true,if_false,ite_true,ite_false,true_or,ne_eq,seval,h_putc,beq_self_eq_true,eq_self,exists_eq_left,exists_eq_left', i0, k0, kT, kD]
        try rw [← D.enc_eq]
        refine wA_pure rfl (zT D hDs hDn) ?_
        simp -implicitDefEqProofs (maxDischargeDepth := 12) only [WW,List.replicate,e_splice,if_true,if_false,ite_true,ite_false,true_or,ne_eq,seval,h_putc,beq_self_eq_true,eq_self,exists_eq_left,exists_eq_left', i0, k0, kT, kD]
        try rw [← T.enc_eq]
        refine wA_pure rfl (zT T hTsm hTn) ?_
        simp -implicitDefEqProofs (maxDischargeDepth := 12) only [WW,List.replicate,e_splice,if_true,if_false,ite_true,ite_false,true_or,ne_eq,seval,h_putc,beq_self_eq_true,eq_self,exists_eq_left,exists_eq_left']
        exact frz_sc
      have i1 : (S.measures.l.length : Int) < i := by omega
      by_cases c0 : c < 0
      · simp -implicitDefEqProofs (maxDischargeDepth := 12) only [WW,List.replicate,e_splice,if_true,if_false,ite_true,ite_false,true_or,ne_eq,seval,h_putc,beq_self_eq_true,eq_self,exists_eq_left,exists_eq_left', i0, c0, k0, kT, kD]
        try rw [← D.enc_eq]
        refine wA_pure rfl (zT D hDs hDn) ?_
        simp -implicitDefEqProofs (maxDischargeDepth := 12) only [WW,List.replicate,e_splice,if_true,if_false,ite_true,ite_false,true_or,ne_eq,seval,h_putc,beq_self_eq_true,eq_self,exists_eq_left,exists_eq_left', i0, i1, k0, kT, kD]
        try rw [← T.enc_eq]
        refine wA_pure rfl (zT T hTsm hTn) ?_
        simp -implicitDefEqProofs (maxDischargeDepth := 12) only [WW,List.replicate,e_splice,if_true,if_false,ite_true,ite_false,true_or,ne_eq,seval,h_putc,beq_self_eq_true,eq_self,exists_eq_left,exists_eq_left']
        exact frz_sc
      · simp -implicitDefEqProofs (maxDischargeDepth := 12) only [WW,List.replicate,e_splice,if_true,if_false,ite_true,ite_false,true_or,ne_eq,seval,h_putc,beq_self_eq_true,eq_self,exists_eq_left,exists_eq_left', i0, i1, c0, k0, kT, kD]
        try rw [← D.enc_eq]
        refine wA_pure rfl (zT D hDs hDn) ?_
        simp -implicitDefEqProofs (maxDischargeDepth := 12) only [WW,List.replicate,e_splice,if_true,if_false,ite_true,ite_false,true_or,ne_eq,seval,h_putc,beq_self_eq_true,eq_self,exists_eq_left,exists_eq_left', i0, i1, k0, kT, kD]
        try rw [← T.enc_eq]
        refine wA_pure rfl (zT T hTsm hTn) ?_
        simp -implicitDefEqProofs (maxDischargeDepth := 12) only [WW,List.replicate,e_splice,if_true,if_false,ite_true,ite_false,true_or,ne_eq,seval,h_putc,beq_self_eq_true,eq_self,exists_eq_left,exists_eq_left']
        exact frz_sc
    · have i0 : ¬ (n : Int) < 0 := by omega
      have i1 : ¬ (S.measures.l.length : Int) < (n : Int) := by omega
      have e6 := e5 (by omega) (by omega)
      rcases hDc with ⟨hbd, rfl, hDn⟩ | ⟨n', m, hnn, rfl, hnm, rfl, hDcn⟩
      · by_cases c0 : c < 0
        · simp -implicitDefEqProofs (maxDischargeDepth := 12) only [WW,List.replicate,e_splice,if_true,if_false,ite_true,ite_false,true_or,ne_eq,seval,h_putc,beq_self_eq_true,eq_self,exists_eq_left,exists_eq_left', i0, i1, c0, k0, kT, kD]
          try rw [← D.enc_eq]
          refine wA_pure rfl (zT D hDs hDn) ?_
          simp -implicitDefEqProofs (maxDischargeDepth := 12) only [WW,List.replicate,e_splice,if_true,if_false,ite_true,ite_false,true_or,ne_eq,seval,h_putc,beq_self_eq_true,eq_self,exists_eq_left,exists_eq_left', i0, i1, hB, k0, kT, kD]
          try rw [← T.enc_eq]
          refine wA_pure rfl (zT T hTsm hTn) ?_
          simp -implicitDefEqProofs (maxDischargeDepth := 12) only [WW,List.replicate,e_splice,if_true,if_false,ite_true,ite_false,true_or,ne_eq,seval,h_putc,beq_self_eq_true,eq_self,exists_eq_left,exists_eq_left']
          exact frz_sc
        · have c1' : (S.measures.l.length : Int) - (n : Int) < c := by unfold badD at hbd; omega
          simp -implicitDefEqProofs (maxDischargeDepth := 12) only [WW,List.replicate,e_splice,if_true,if_false,ite_true,ite_false,true_or,ne_eq,seval,h_putc,beq_self_eq_true,eq_self,exists_eq_left,exists_eq_left', i0, i1, c0, e6, c1', k0, kT, kD]
          try rw [← D.enc_eq]
          refine wA_pure rfl (zT D hDs hDn) ?_
          simp -implicitDefEqProofs (maxDischargeDepth := 12) only [WW,List.replicate,e_splice,if_true,if_false,ite_true,ite_false,true_or,ne_eq,seval,h_putc,beq_self_eq_true,eq_self,exists_eq_left,exists_eq_left', i0, i1, hB, k0, kT, kD]
          try rw [← T.enc_eq]
          refine wA_pure rfl (zT T hTsm hTn) ?_
          simp -implicitDefEqProofs (maxDischargeDepth := 12) only [WW,List.replicate,e_splice,if_true,if_false,ite_true,ite_false,true_or,ne_eq,seval,h_putc,beq_self_eq_true,eq_self,exists_eq_left,exists_eq_left']
          exact frz_sc
      · obtain rfl : n = n' := by omega
        have p0 : ¬ (m : Int) < 0 := by omega
        have p1 : ¬ (S.measures.l.length : Int) - (n : Int) < (m : Int) := by omega
        have e7 : IntKind.i64.wrap ((n : Int) + (m : Int)) = ((n + m : Nat) : Int) := by rw [w64 (by omega) (by omega)]; omega
        have q1 : n ≤ S.measures.l.length := by omega
        have q2 : n + m ≤ S.measures.l.length := by omega
        have fM : ∀ v, (Measure.enc v).cells.length = 22 := Measure.enc_len
        have m0 : ¬ 0 = nx + 2 := by omega
        have m1 : ¬ nx = nx + 2 := by omega
        have m2 : ¬ nx + 1 = nx + 2 := by omega
        have m3 : ¬ 0 = nx + 2 + 1 := by omega
        have m4 : ¬ nx = nx + 2 + 1 := by omega
        have m5 : ¬ nx + 1 = nx + 2 + 1 := by omega
        have m6 : ¬ nx + 2 = nx + 2 + 1 := by omega
        have m7 : ¬ nx + 2 + 1 = nx + 2 := by omega
        simp -implicitDefEqProofs (maxDischargeDepth := 12) only [WW,List.replicate,e_splice,if_true,if_false,ite_true,ite_false,true_or,ne_eq,seval,h_putc,beq_self_eq_true,eq_self,exists_eq_left,exists_eq_left', i0, i1, p0, p1, e6, e7, k0, kT, kD, e_cutm fM, q1, q2, hN4, m0, m1, m2, m3, m4, m5, m6, m7]
        generalize hH5 : AHeap.alloc _ (Blk.cells []) = H5
        have g0 : H5.cells 0 = some [.sc (.str S.title), .sc (.bool S.written), slm Part.enc S.parts, slm Measure.enc S.measures, slm Spanner.enc S.spanners, slm ID.enc S.last] := by subst hH5; simp -implicitDefEqProofs (maxDischargeDepth := 12) only [WW,List.replicate,e_splice,if_true,if_false,ite_true,ite_false,true_or,ne_eq,seval,h_putc,beq_self_eq_true,eq_self,exists_eq_left,exists_eq_left', hN4, m0, m1, m2, m3, m4, m5, m6, m7, k0]
        have gT : H5.cells nx = some [.sc (.str T.title), .sc (.bool T.written), slm Part.enc T.parts, slm Measure.enc T.measures, slm Spanner.enc T.spanners, slm ID.enc T.last] := by subst hH5; simp -implicitDefEqProofs (maxDischargeDepth := 12) only [WW,List.replicate,e_splice,if_true,if_false,ite_true,ite_false,true_or,ne_eq,seval,h_putc,beq_self_eq_true,eq_self,exists_eq_left,exists_eq_left', hN4, m0, m1, m2, m3, m4, m5, m6, m7, kT]
        have gD : H5.cells (nx + 1) = some [.sc (.str D.title), .sc (.bool D.written), slm Part.enc D.parts, slm Measure.enc D.measures, slm Spanner.enc D.spanners, slm ID.enc D.last] := by subst hH5; simp -implicitDefEqProofs (maxDischargeDepth := 12) only [WW,List.replicate,e_splice,if_true,if_false,ite_true,ite_false,true_or,ne_eq,seval,h_putc,beq_self_eq_true,eq_self,exists_eq_left,exists_eq_left', hN4, m0, m1, m2, m3, m4, m5, m6, m7, kD]
        have gW : H5.cells (nx + 2) = some [.sc (.str S.title), .sc (.bool S.written), slm Part.enc S.parts, slm Measure.enc S.measures, slm Spanner.enc S.spanners, slm ID.enc S.last] := by subst hH5; simp -implicitDefEqProofs (maxDischargeDepth := 12) only [WW,List.replicate,e_splice,if_true,if_false,ite_true,ite_false,true_or,ne_eq,seval,h_putc,beq_self_eq_true,eq_self,exists_eq_left,exists_eq_left', hN4, m0, m1, m2, m3, m4, m5, m6, m7]
        have gE : H5.cells (nx + 2 + 1) = some [] := by subst hH5; simp -implicitDefEqProofs (maxDischargeDepth := 12) only [WW,List.replicate,e_splice,if_true,if_false,ite_true,ite_false,true_or,ne_eq,seval,h_putc,beq_self_eq_true,eq_self,exists_eq_left,exists_eq_left', hN4, m0, m1, m2, m3, m4, m5, m6, m7]
        have hN5 : H5.next = nx + 4 := by subst hH5; simp only [AHeap.next_put, AHeap.next_alloc, hN4]
        have hown5 := fun h => by
          have := ((hown4 h).alloc (x := Blk.cells [.sc (.str ⟨#[]⟩), .sc (.bool false), .sc .nils, .sc .nils, .sc .nils, .sc .nils])).put (c := nx + 2) (x := some (.cells [.sc (.str S.title), .sc (.bool S.written), slm Part.enc S.parts, slm Measure.enc S.measures, slm Spanner.enc S.spanners, slm ID.enc S.last])) (by rw [h_alloc, if_pos hN4.symm]; rfl)
          have := this.alloc (x := Blk.cells [])
          rwa [hH5] at this
        clear hH5 kT kD hown4
        have k0' := k0
        clear k0
        refine wA_app3F row_Measure (I := true) (d := 1) (l := []) (fp := [nx + 2 + 1]) (ys := S.measures.l.take n) (.inr ⟨nx + 2 + 1, 0, [], [], [], [], rfl, rfl, Nat.le_refl _, gE, rfl, by simp, .nil, by simp, rfl⟩) (by rw [e_alenm, sl_take]) (by rw [e_srcm fM (by rw [sl_take]; omega), sl_take, List.take_length]) (own_flat Measure.enc_plain (fun v => ⟨_, rfl⟩) _) Apart.nil_right ?_ ?_
        · simp only [List.length_take, List.length_nil]; omega
        intro v6 H6 fp6 hA6 hn6 hk6 hfp6 ho6 hc6 hfr6
        have f6 : ∀ b ∈ fp6, nx + 3 ≤ b := fun b hb => by rcases hfp6 b hb with h | h | h <;> first | omega | (simp at h; done) | (simp at h; omega)
        have g0' := g0
        replace g0 := (hk6 0 (by simp) (by omega)).trans g0
        replace gT := (hk6 nx (by rw [List.mem_singleton]; omega) (by omega)).trans gT
        replace gD := (hk6 (nx + 1) (by simp) (by omega)).trans gD
        replace gW := (hk6 (nx + 2) (by simp) (by omega)).trans gW
        simp -implicitDefEqProofs (maxDischargeDepth := 12) only [WW,List.replicate,e_splice,if_true,if_false,ite_true,ite_false,true_or,ne_eq,seval,h_putc,beq_self_eq_true,eq_self,exists_eq_left,exists_eq_left', i0, i1, p0, p1, e6, e7, g0, g0', e_cutm fM, q1, q2, hN4, m0, m1, m2, m3, m4, m5, m6, m7]
        have a2 : alen (slm Measure.enc (Option.map (fun x => (x.take S.measures.l.length).drop (n + m)) S.measures)) = some (S.measures.l.drop (n + m)).length := by rw [e_alenm, sl_drop]
        have a3 : ∀ H, asrc 22 H (slm Measure.enc (Option.map (fun x => (x.take S.measures.l.length).drop (n + m)) S.measures)) (S.measures.l.drop (n + m)).length = some ((S.measures.l.drop (n + m)).flatMap fun v => (Measure.enc v).cells) := fun H => by rw [e_srcm fM (by rw [sl_drop]; omega), sl_drop, List.take_length]
        refine wA_app3F (f := Measure.enc) (bytes := 216) row_Measure hA6 (ys := S.measures.l.drop (n + m)) a2 (a3 _) (own_flat Measure.enc_plain (fun v => ⟨_, rfl⟩) _) Apart.nil_right (by simp only [List.nil_append, List.length_take, List.length_drop]; omega) ?_
        intro v7 H7 fp7 hA7 hn7 hk7 hfp7 ho7 hc7 hfr7
        have hk57 : ∀ b, b ∉ [nx + 2 + 1] → b < H5.next → H7.cells b = H5.cells b := fun b h1 h2 => (hk7 b (fun h => by rcases hfp6 b h with h | h | h <;> first | exact h1 h | omega | simp at h) (by omega)).trans (hk6 b h1 h2)
        have hown7 := fun h => (hown5 h).to (hfr7.trans hfr6) (by omega) hk57 (fun b hb => by rw [List.mem_singleton.1 hb, gE]; rfl)
        have f7 : ∀ b ∈ fp7, nx + 3 ≤ b := fun b hb => by rcases hfp7 b hb with h | h | h <;> first | exact f6 b h | omega | (simp at h; done)
        have w0 : 0 ∉ fp7 := fun h => by have := f7 0 h; omega
        replace g0 := (hk7 0 (fun h => by have := f6 0 h; omega) (by omega)).trans g0
        replace gT := (hk7 nx (fun h => by have := f6 _ h; omega) (by omega)).trans gT
        replace gD := (hk7 (nx + 1) (fun h => by have := f6 _ h; omega) (by omega)).trans gD
        replace gW := (hk7 (nx + 2) (fun h => by have := f6 _ h; omega) (by omega)).trans gW
        clear gE hown5 hk6 hk7 hfr6 hfr7 hk57 hA6 g0' f6 hfp6 hfp7
        have hl7 : nx + 2 < H7.next := by omega
        have nl : ([.sc (.str S.title), .sc (.bool S.written), slm Part.enc S.parts, slm Measure.enc S.measures, slm Spanner.enc S.spanners, slm ID.enc S.last] : List AV).length = 6 := rfl
        simp -implicitDefEqProofs (maxDischargeDepth := 12) only [WW,List.replicate,e_splice,if_true,if_false,ite_true,ite_false,true_or,ne_eq,seval,h_putc,beq_self_eq_true,eq_self,exists_eq_left,exists_eq_left', gW, gD, ho7, hc7, nl, m0, m1, m2, m3, m4, m5, m6, m7]
        have hSw : (S.withM (S.measures.l.take n ++ S.measures.l.drop (n + m))).small := small_withM hs (by simp only [List.length_append, List.length_take, List.length_drop]; omega) (fun x hx => by rcases List.mem_append.1 hx with hx | hx; exact hs.meas x (List.mem_of_mem_take hx); exact hs.meas x (List.mem_of_mem_drop hx))
        generalize hH8 : AHeap.put H7 (nx + 2) _ = H8
        have hA8 : Acc 1 22 Measure.enc H8 v7 (some ([] ++ S.measures.l.take n ++ S.measures.l.drop (n + m))) fp7 := by
          subst hH8
          exact hA7.fr fun b hb => by have := f7 b hb; rw [c_put_ne (by omega)]
        replace g0 := (show H8.cells 0 = H7.cells 0 by subst hH8; rw [c_put_ne (by omega)]).trans g0
        replace gT := (show H8.cells nx = H7.cells nx by subst hH8; rw [c_put_ne (by omega)]).trans gT
        replace gD := (show H8.cells (nx + 1) = H7.cells (nx + 1) by subst hH8; rw [c_put_ne (by omega)]).trans gD
        have hown8 := fun h => by
          have := (hown7 h).put (c := nx + 2) (x := some (.cells [.sc (.str S.title), .sc (.bool S.written), slm Part.enc S.parts, v7, slm Spanner.enc S.spanners, slm ID.enc S.last])) (by rw [gW]; rfl)
          rwa [hH8] at this
        have hN8 : nx + 2 ≤ H8.next := by subst hH8; rw [AHeap.next_put]; omega
        clear hH8 hown7 hA7
        obtain ⟨fq, hO8, hq8⟩ := own_withM (s := S) hA8
        refine wA_pvf rfl (pvf_ownB (by simp only [AV.closedBs, AV.closedB, hA8.open, Bool.and_false, Bool.false_and]) (.cons hO8 .nil Apart.nil_right) (rprune_pv rfl rfl (S.withM ([] ++ S.measures.l.take n ++ S.measures.l.drop (n + m))) (by simpa using hSw.Tame)) fun H9 hless hlf => ?_)
        have hq9 : ∀ b, b < nx + 2 → b ∉ fq ++ [] := fun b hb h => by have := f7 b (hq8 b (by simpa using h)); omega
        replace g0 := (cells_of_get (hless 0 (hq9 _ (by omega)))).trans g0
        replace gT := (cells_of_get (hless nx (hq9 _ (by omega)))).trans gT
        replace gD' := (cells_of_get (hless (nx + 1) (hq9 _ (by omega)))).trans gD
        have hown4 := fun h => (hown8 h).lf hlf
        have hN9 : nx + 2 ≤ H9.next := by rw [hlf.1]; exact hN8
        refine ⟨by simp -implicitDefEqProofs (maxDischargeDepth := 12) only [WW,List.replicate,e_splice,if_true,if_false,ite_true,ite_false,true_or,ne_eq,seval,h_putc,beq_self_eq_true,eq_self,exists_eq_left,exists_eq_left', gD, gD'], ?_⟩
        clear hown8 gW hless hlf gD hO8 hA8
        simp -implicitDefEqProofs (maxDischargeDepth := 12) only [WW,List.replicate,e_splice,if_true,if_false,ite_true,ite_false,true_or,ne_eq,seval,h_putc,beq_self_eq_true,eq_self,exists_eq_left,exists_eq_left']
        try rw [← D.enc_eq]
        have hsm := same_pv (pol := polM) rfl rfl rfl rfl D ((S.withM ([] ++ S.measures.l.take n ++ S.measures.l.drop (n + m))).pruned) hDs.tame
        rw [decide_eq_true (by simpa using hDcn)] at hsm
        refine wA_pure rfl hsm ?_
        clear hsm hSw hq8 hq9
        have k0 := g0
        have kT := gT
        clear g0 gT gD'
        simp -implicitDefEqProofs (maxDischargeDepth := 12) only [WW,List.replicate,e_splice,if_true,if_false,ite_true,ite_false,true_or,ne_eq,seval,h_putc,beq_self_eq_true,eq_self,exists_eq_left,exists_eq_left', i0, i1, hB, k0, kT]
        try rw [← T.enc_eq]
        refine wA_pure rfl (zT T hTsm hTn) ?_
        simp -implicitDefEqProofs (maxDischargeDepth := 12) only [WW,List.replicate,e_splice,if_true,if_false,ite_true,ite_false,true_or,ne_eq,seval,h_putc,beq_self_eq_true,eq_self,exists_eq_left,exists_eq_left']
        exact frz_sc
    · have i0 : ¬ (n : Int) < 0 := by omega
      have i1 : ¬ (S.measures.l.length : Int) < (n : Int) := by omega
      have e6 := e5 (by omega) (by omega)
      have hflat : AV.flatB (.tup [T.enc, .sc (.int .i64 0)]) = false := by rw [hTn]; exact flat_insM S n ol _
      have hownc := hown4 hflat
      rcases hDc with ⟨hbd, rfl, hDn⟩ | ⟨n', m, hnn, rfl, hnm, rfl, hDcn⟩
      · by_cases c0 : c < 0
        · simp -implicitDefEqProofs (maxDischargeDepth := 12) only [WW,List.replicate,e_splice,if_true,if_false,ite_true,ite_false,true_or,ne_eq,seval,h_putc,beq_self_eq_true,eq_self,exists_eq_left,exists_eq_left', i0, i1, c0, k0, kT, kD]
          try rw [← D.enc_eq]
          refine wA_pure rfl (zT D hDs hDn) ?_
          have fM : ∀ v, (Measure.enc v).cells.length = 22 := Measure.enc_len
          have q1 : n ≤ S.measures.l.length := by omega
          generalize hNN : AHeap.next H4 = N at hN4
          have hown5 := hown4 hflat
          have m0 : ¬ 0 = N := by omega
          have m1 : ¬ nx = N := by omega
          have m3 : ¬ 0 = N + 1 := by omega
          have m4 : ¬ nx = N + 1 := by omega
          have m5 : ¬ N = N + 1 := by omega
          have m6 : ¬ N + 1 = N := by omega
          have m7 : ¬ N = 0 := by omega
          have m8 : ¬ N = nx := by omega
          simp -implicitDefEqProofs (maxDischargeDepth := 12) only [WW,List.replicate,e_splice,if_true,if_false,ite_true,ite_false,true_or,ne_eq,seval,h_putc,beq_self_eq_true,eq_self,exists_eq_left,exists_eq_left', i0, i1, hB, e6, k0, kT, e_cutm fM, q1, hNN, m0, m1, m3, m4, m5, m6, m7, m8]
          generalize hHa : AHeap.alloc _ (Blk.cells []) = Ha
          have g0 : Ha.cells 0 = some [.sc (.str S.title), .sc (.bool S.written), slm Part.enc S.parts, slm Measure.enc S.measures, slm Spanner.enc S.spanners, slm ID.enc S.last] := by subst hHa; simp -implicitDefEqProofs (maxDischargeDepth := 12) only [WW,List.replicate,e_splice,if_true,if_false,ite_true,ite_false,true_or,ne_eq,seval,h_putc,beq_self_eq_true,eq_self,exists_eq_left,exists_eq_left', hNN, m0, m1, m3, m4, m5, m6, m7, m8, k0]
          have gT : Ha.cells nx = some [.sc (.str T.title), .sc (.bool T.written), slm Part.enc T.parts, slm Measure.enc T.measures, slm Spanner.enc T.spanners, slm ID.enc T.last] := by subst hHa; simp -implicitDefEqProofs (maxDischargeDepth := 12) only [WW,List.replicate,e_splice,if_true,if_false,ite_true,ite_false,true_or,ne_eq,seval,h_putc,beq_self_eq_true,eq_self,exists_eq_left,exists_eq_left', hNN, m0, m1, m3, m4, m5, m6, m7, m8, kT]
          have gW : Ha.cells N = some [.sc (.str S.title), .sc (.bool S.written), slm Part.enc S.parts, slm Measure.enc S.measures, slm Spanner.enc S.spanners, slm ID.enc S.last] := by subst hHa; simp -implicitDefEqProofs (maxDischargeDepth := 12) only [WW,List.replicate,e_splice,if_true,if_false,ite_true,ite_false,true_or,ne_eq,seval,h_putc,beq_self_eq_true,eq_self,exists_eq_left,exists_eq_left', hNN, m0, m1, m3, m4, m5, m6, m7, m8]
          have gE : Ha.cells (N + 1) = some [] := by subst hHa; simp -implicitDefEqProofs (maxDischargeDepth := 12) only [WW,List.replicate,e_splice,if_true,if_false,ite_true,ite_false,true_or,ne_eq,seval,h_putc,beq_self_eq_true,eq_self,exists_eq_left,exists_eq_left', hNN, m0, m1, m3, m4, m5, m6, m7, m8]
          have hNa : Ha.next = N + 2 := by subst hHa; simp only [AHeap.next_put, AHeap.next_alloc, hNN]
          have hown6 : OwnR Measure.enc 22 Ha a ol := by
            have := (hown5.alloc (x := Blk.cells [.sc (.str ⟨#[]⟩), .sc (.bool false), .sc .nils, .sc .nils, .sc .nils, .sc .nils])).put (c := N) (x := some (.cells [.sc (.str S.title), .sc (.bool S.written), slm Part.enc S.parts, slm Measure.enc S.measures, slm Spanner.enc S.spanners, slm ID.enc S.last])) (by rw [h_alloc, if_pos hNN.symm]; rfl)
            have := this.alloc (x := Blk.cells [])
            rwa [hHa] at this
          clear hHa hown5
          obtain ⟨ol1, ol2⟩ := hown6.len
          refine wA_app3F row_Measure (I := true) (d := 1) (l := []) (fp := [N + 1]) (ys := S.measures.l.take n) (.inr ⟨N + 1, 0, [], [], [], [], rfl, rfl, Nat.le_refl _, gE, rfl, by simp, .nil, by simp, rfl⟩) (by rw [e_alenm, sl_take]) (by rw [e_srcm fM (by rw [sl_take]; omega), sl_take, List.take_length]) (own_flat Measure.enc_plain (fun v => ⟨_, rfl⟩) _) Apart.nil_right ?_ ?_
          · simp only [List.length_take, List.length_nil]; omega
          intro va Hb fpa hAa hna hka hfpa hoa hca hfra
          have hown7 := hown6.to hfra hna hka (fun b hb => by rw [List.mem_singleton.1 hb, gE]; rfl)
          have fa : ∀ b ∈ fpa, N + 1 ≤ b := fun b hb => by rcases hfpa b hb with h | h | h <;> first | omega | (simp at h; done) | (simp at h; omega)
          have g0' := g0
          replace g0 := (hka 0 (by simp) (by omega)).trans g0
          replace gT := (hka nx (by rw [List.mem_singleton]; omega) (by omega)).trans gT
          replace gW := (hka N (by rw [List.mem_singleton]; omega) (by omega)).trans gW
          clear hown6 hka hfra hfpa gE
          simp -implicitDefEqProofs (maxDischargeDepth := 12) only [WW,List.replicate,e_splice,if_true,if_false,ite_true,ite_false,true_or,ne_eq,seval,h_putc,beq_self_eq_true,eq_self,exists_eq_left,exists_eq_left', hNN, m0, m1, m3, m4, m5, m6, m7, m8, i0, i1, e6, g0, g0', e_cutm fM, q1]
          have hsrc := hown7.src row_Measure
          refine wA_app3F (f := Measure.enc) (bytes := 216) row_Measure hAa (ys := ol) ol2 hsrc (own_flat Measure.enc_plain (fun v => ⟨_, rfl⟩) _) Apart.nil_right (by simp only [List.nil_append, List.length_take]; omega) ?_
          intro vb Hc fpb hAb hnb hkb hfpb hob hcb hfrb
          have fb : ∀ b ∈ fpb, N + 1 ≤ b := fun b hb => by rcases hfpb b hb with h | h | h <;> first | exact fa b h | omega | (simp at h; done)
          replace g0' := g0
          replace g0 := (hkb 0 (fun h => by have := fa _ h; omega) (by omega)).trans g0
          replace gT := (hkb nx (fun h => by have := fa _ h; omega) (by omega)).trans gT
          replace gW := (hkb N (fun h => by have := fa _ h; omega) (by omega)).trans gW
          clear hkb hfpb hfrb hsrc hown7 hAa
          simp -implicitDefEqProofs (maxDischargeDepth := 12) only [WW,List.replicate,e_splice,if_true,if_false,ite_true,ite_false,true_or,ne_eq,seval,h_putc,beq_self_eq_true,eq_self,exists_eq_left,exists_eq_left', hNN, m0, m1, m3, m4, m5, m6, m7, m8, i0, i1, e6, g0, g0', e_cutm fM, q1]
          have a2 : alen (slm Measure.enc (Option.map (fun x => (x.take S.measures.l.length).drop n) S.measures)) = some (S.measures.l.drop n).length := by rw [e_alenm, sl_drop]
          have a3 : ∀ H, asrc 22 H (slm Measure.enc (Option.map (fun x => (x.take S.measures.l.length).drop n) S.measures)) (S.measures.l.drop n).length = some ((S.measures.l.drop n).flatMap fun v => (Measure.enc v).cells) := fun H => by rw [e_srcm fM (by rw [sl_drop]; omega), sl_drop, List.take_length]
          refine wA_app3F (f := Measure.enc) (bytes := 216) row_Measure hAb (ys := S.measures.l.drop n) a2 (a3 _) (own_flat Measure.enc_plain (fun v => ⟨_, rfl⟩) _) Apart.nil_right (by simp only [List.nil_append, List.length_append, List.length_take, List.length_drop]; omega) ?_
          intro vc Hd fpc hAc hnc hkc hfpc hoc hcc hfrc
          have fc : ∀ b ∈ fpc, N + 1 ≤ b := fun b hb => by rcases hfpc b hb with h | h | h <;> first | exact fb b h | omega | (simp at h; done)
          replace g0 := (hkc 0 (fun h => by have := fb _ h; omega) (by omega)).trans g0
          replace gT := (hkc nx (fun h => by have := fb _ h; omega) (by omega)).trans gT
          replace gW := (hkc N (fun h => by have := fb _ h; omega) (by omega)).trans gW
          have hld : N < Hd.next := by omega
          have nl : ([.sc (.str S.title), .sc (.bool S.written), slm Part.enc S.parts, slm Measure.enc S.measures, slm Spanner.enc S.spanners, slm ID.enc S.last] : List AV).length = 6 := rfl
          clear hkc hfpc hfrc hAb g0'
          simp -implicitDefEqProofs (maxDischargeDepth := 12) only [WW,List.replicate,e_splice,if_true,if_false,ite_true,ite_false,true_or,ne_eq,seval,h_putc,beq_self_eq_true,eq_self,exists_eq_left,exists_eq_left', hNN, m0, m1, m3, m4, m5, m6, m7, m8, gW, gT, hoc, hcc, nl, ol1]
          obtain ⟨D2, F2, hD2s, hD257, hD2c⟩ := case57 T hTsm n ol.length
          have hTl : T.measures.l.length = S.measures.l.length + ol.length := by
            rw [hTn, insM_l S n ol hn]
            show ((S.measures.l.map Measure.cl).take n ++ ol.map Measure.cl ++ (S.measures.l.map Measure.cl).drop n).length = _
            simp only [List.length_append, List.length_take, List.length_drop, List.length_map]; omega
          obtain ⟨rfl, hD2⟩ : F2 = 0 ∧ D2.cn = S.pruned.cn := by
            rcases hD2c with ⟨hb, _, _⟩ | ⟨n2, m2, h1, h2, _, h4, h5⟩
            · unfold badD at hb; omega
            · obtain rfl : n = n2 := by omega
              obtain rfl : ol.length = m2 := by omega
              exact ⟨h4, h5.trans (by rw [hTn]; exact back_cn S n ol hn)⟩
          have hTcn : T.cn = (S.withM ([] ++ S.measures.l.take n ++ ol ++ S.measures.l.drop n)).cn := by rw [hTn]; simpa using insM_cn S n ol hn
          have hTe := T.enc_eq
          have hD2e := D2.enc_eq
          generalize hHe : AHeap.put Hd N _ = He
          have hAe : Acc 1 22 Measure.enc He vc (some ([] ++ S.measures.l.take n ++ ol ++ S.measures.l.drop n)) fpc := by
            subst hHe
            exact hAc.fr fun b hb => by have := fc b hb; rw [c_put_ne (by omega)]
          replace g0 := (show He.cells 0 = Hd.cells 0 by subst hHe; rw [c_put_ne (by omega)]).trans g0
          replace gT := (show He.cells nx = Hd.cells nx by subst hHe; rw [c_put_ne (by omega)]).trans gT
          replace gW : He.cells N = some [.sc (.str S.title), .sc (.bool S.written), slm Part.enc S.parts, vc, slm Spanner.enc S.spanners, slm ID.enc S.last] := by subst hHe; simp -implicitDefEqProofs (maxDischargeDepth := 12) only [WW,List.replicate,e_splice,if_true,if_false,ite_true,ite_false,true_or,ne_eq,seval,h_putc,beq_self_eq_true,eq_self,exists_eq_left,exists_eq_left', gW]
          have hlt := hAe.lts
          clear hAc hHe hld
          try rw [← T.enc_eq]
          refine wA_pure rfl hD257 ?_
          have m9 : ¬ 0 = He.next := by have := h_lt g0; omega
          have m10 : ¬ nx = He.next := by have := h_lt gT; omega
          have m11 : ¬ N = He.next := by have := h_lt gW; omega
          simp -implicitDefEqProofs (maxDischargeDepth := 12) only [WW,List.replicate,e_splice,if_true,if_false,ite_true,ite_false,true_or,ne_eq,seval,h_putc,beq_self_eq_true,eq_self,exists_eq_left,exists_eq_left', hNN, m0, m1, m3, m4, m5, m6, m7, m8, hD2e, hTe, g0, gT, gW, m9, m10, m11]
          generalize hHf : AHeap.put (AHeap.alloc He _) He.next _ = Hf
          have hAf : Acc 1 22 Measure.enc Hf vc (some ([] ++ S.measures.l.take n ++ ol ++ S.measures.l.drop n)) fpc := hAe.fr fun b hb => by
            subst hHf
            have := hlt b hb
            rw [c_put_ne (by omega), c_alloc_ne (by omega)]
          have gD : Hf.cells He.next = some [.sc (.str D2.title), .sc (.bool D2.written), slm Part.enc D2.parts, slm Measure.enc D2.measures, slm Spanner.enc D2.spanners, slm ID.enc D2.last] := by subst hHf; simp -implicitDefEqProofs (maxDischargeDepth := 12) only [WW,List.replicate,e_splice,if_true,if_false,ite_true,ite_false,true_or,ne_eq,seval,h_putc,beq_self_eq_true,eq_self,exists_eq_left,exists_eq_left']
          replace g0 := (show Hf.cells 0 = He.cells 0 by subst hHf; rw [c_put_ne (by omega), c_alloc_ne (by omega)]).trans g0
          clear hHf hAe
          obtain ⟨fq, hOf, hqf⟩ := own_withM (s := S) hAf
          have hsm := same_pv (pol := polM) rfl rfl rfl rfl T (S.withM ([] ++ S.measures.l.take n ++ ol ++ S.measures.l.drop n)) hTsm.tame
          rw [decide_eq_true hTcn] at hsm
          try rw [← T.enc_eq]
          refine wA_pvf rfl (pvf_own (by simp only [AV.closedBs, AV.closedB, hAf.open, Bool.and_false, Bool.false_and]) (.cons (own_score (d := 18) T) (.cons hOf .nil Apart.nil_right) Apart.nil_left) hsm ?_)
          simp -implicitDefEqProofs (maxDischargeDepth := 12) only [WW,List.replicate,e_splice,if_true,if_false,ite_true,ite_false,true_or,ne_eq,seval,h_putc,beq_self_eq_true,eq_self,exists_eq_left,exists_eq_left', g0, gD]
          try rw [← S.enc_eq]
          refine wA_pure rfl (rprune_pv rfl rfl S hs.Tame) ?_
          simp -implicitDefEqProofs (maxDischargeDepth := 12) only [WW,List.replicate,e_splice,if_true,if_false,ite_true,ite_false,true_or,ne_eq,seval,h_putc,beq_self_eq_true,eq_self,exists_eq_left,exists_eq_left', g0, gD]
          try rw [← D2.enc_eq]
          have hsm2 := same_pv (pol := polM) rfl rfl rfl rfl D2 S.pruned hD2s.tame
          rw [decide_eq_true hD2] at hsm2
          refine wA_pure rfl hsm2 ?_
          simp -implicitDefEqProofs (maxDischargeDepth := 12) only [WW,List.replicate,e_splice,if_true,if_false,ite_true,ite_false,true_or,ne_eq,seval,h_putc,beq_self_eq_true,eq_self,exists_eq_left,exists_eq_left']
          exact frz_sc
        · have c1' : (S.measures.l.length : Int) - (n : Int) < c := by unfold badD at hbd; omega
          simp -implicitDefEqProofs (maxDischargeDepth := 12) only [WW,List.replicate,e_splice,if_true,if_false,ite_true,ite_false,true_or,ne_eq,seval,h_putc,beq_self_eq_true,eq_self,exists_eq_left,exists_eq_left', i0, i1, c0, e6, c1', k0, kT, kD]
          try rw [← D.enc_eq]
          refine wA_pure rfl (zT D hDs hDn) ?_
          have fM : ∀ v, (Measure.enc v).cells.length = 22 := Measure.enc_len
          have q1 : n ≤ S.measures.l.length := by omega
          generalize hNN : AHeap.next H4 = N at hN4
          have hown5 := hown4 hflat
          have m0 : ¬ 0 = N := by omega
          have m1 : ¬ nx = N := by omega
          have m3 : ¬ 0 = N + 1 := by omega
          have m4 : ¬ nx = N + 1 := by omega
          have m5 : ¬ N = N + 1 := by omega
          have m6 : ¬ N + 1 = N := by omega
          have m7 : ¬ N = 0 := by omega
          have m8 : ¬ N = nx := by omega
          simp -implicitDefEqProofs (maxDischargeDepth := 12) only [WW,List.replicate,e_splice,if_true,if_false,ite_true,ite_false,true_or,ne_eq,seval,h_putc,beq_self_eq_true,eq_self,exists_eq_left,exists_eq_left', i0, i1, hB, e6, k0, kT, e_cutm fM, q1, hNN, m0, m1, m3, m4, m5, m6, m7, m8]
          generalize hHa : AHeap.alloc _ (Blk.cells []) = Ha
          have g0 : Ha.cells 0 = some [.sc (.str S.title), .sc (.bool S.written), slm Part.enc S.parts, slm Measure.enc S.measures, slm Spanner.enc S.spanners, slm ID.enc S.last] := by subst hHa; simp -implicitDefEqProofs (maxDischargeDepth := 12) only [WW,List.replicate,e_splice,if_true,if_false,ite_true,ite_false,true_or,ne_eq,seval,h_putc,beq_self_eq_true,eq_self,exists_eq_left,exists_eq_left', hNN, m0, m1, m3, m4, m5, m6, m7, m8, k0]
          have gT : Ha.cells nx = some [.sc (.str T.title), .sc (.bool T.written), slm Part.enc T.parts, slm Measure.enc T.measures, slm Spanner.enc T.spanners, slm ID.enc T.last] := by subst hHa; simp -implicitDefEqProofs (maxDischargeDepth := 12) only [WW,List.replicate,e_splice,if_true,if_false,ite_true,ite_false,true_or,ne_eq,seval,h_putc,beq_self_eq_true,eq_self,exists_eq_left,exists_eq_left', hNN, m0, m1, m3, m4, m5, m6, m7, m8, kT]
          have gW : Ha.cells N = some [.sc (.str S.title), .sc (.bool S.written), slm Part.enc S.parts, slm Measure.enc S.measures, slm Spanner.enc S.spanners, slm ID.enc S.last] := by subst hHa; simp -implicitDefEqProofs (maxDischargeDepth := 12) only [WW,List.replicate,e_splice,if_true,if_false,ite_true,ite_false,true_or,ne_eq,seval,h_putc,beq_self_eq_true,eq_self,exists_eq_left,exists_eq_left', hNN, m0, m1, m3, m4, m5, m6, m7, m8]
          have gE : Ha.cells (N + 1) = some [] := by subst hHa; simp -implicitDefEqProofs (maxDischargeDepth := 12) only [WW,List.replicate,e_splice,if_true,if_false,ite_true,ite_false,true_or,ne_eq,seval,h_putc,beq_self_eq_true,eq_self,exists_eq_left,exists_eq_left', hNN, m0, m1, m3, m4, m5, m6, m7, m8]
          have hNa : Ha.next = N + 2 := by subst hHa; simp only [AHeap.next_put, AHeap.next_alloc, hNN]
          have hown6 : OwnR Measure.enc 22 Ha a ol := by
            have := (hown5.alloc (x := Blk.cells [.sc (.str ⟨#[]⟩), .sc (.bool false), .sc .nils, .sc .nils, .sc .nils, .sc .nils])).put (c := N) (x := some (.cells [.sc (.str S.title), .sc (.bool S.written), slm Part.enc S.parts, slm Measure.enc S.measures, slm Spanner.enc S.spanners, slm ID.enc S.last])) (by rw [h_alloc, if_pos hNN.symm]; rfl)
            have := this.alloc (x := Blk.cells [])
            rwa [hHa] at this
          clear hHa hown5
          obtain ⟨ol1, ol2⟩ := hown6.len
          refine wA_app3F row_Measure (I := true) (d := 1) (l := []) (fp := [N + 1]) (ys := S.measures.l.take n) (.inr ⟨N + 1, 0, [], [], [], [], rfl, rfl, Nat.le_refl _, gE, rfl, by simp, .nil, by simp, rfl⟩) (by rw [e_alenm, sl_take]) (by rw [e_srcm fM (by rw [sl_take]; omega), sl_take, List.take_length]) (own_flat Measure.enc_plain (fun v => ⟨_, rfl⟩) _) Apart.nil_right ?_ ?_
          · simp only [List.length_take, List.length_nil]; omega
          intro va Hb fpa hAa hna hka hfpa hoa hca hfra
          have hown7 := hown6.to hfra hna hka (fun b hb => by rw [List.mem_singleton.1 hb, gE]; rfl)
          have fa : ∀ b ∈ fpa, N + 1 ≤ b := fun b hb => by rcases hfpa b hb with h | h | h <;> first | omega | (simp at h; done) | (simp at h; omega)
          have g0' := g0
          replace g0 := (hka 0 (by simp) (by omega)).trans g0
          replace gT := (hka nx (by rw [List.mem_singleton]; omega) (by omega)).trans gT
          replace gW := (hka N (by rw [List.mem_singleton]; omega) (by omega)).trans gW
          clear hown6 hka hfra hfpa gE
          simp -implicitDefEqProofs (maxDischargeDepth := 12) only [WW,List.replicate,e_splice,if_true,if_false,ite_true,ite_false,true_or,ne_eq,seval,h_putc,beq_self_eq_true,eq_self,exists_eq_left,exists_eq_left', hNN, m0, m1, m3, m4, m5, m6, m7, m8, i0, i1, e6, g0, g0', e_cutm fM, q1]
          have hsrc := hown7.src row_Measure
          refine wA_app3F (f := Measure.enc) (bytes := 216) row_Measure hAa (ys := ol) ol2 hsrc (own_flat Measure.enc_plain (fun v => ⟨_, rfl⟩) _) Apart.nil_right (by simp only [List.nil_append, List.length_take]; omega) ?_
          intro vb Hc fpb hAb hnb hkb hfpb hob hcb hfrb
          have fb : ∀ b ∈ fpb, N + 1 ≤ b := fun b hb => by rcases hfpb b hb with h | h | h <;> first | exact fa b h | omega | (simp at h; done)
          replace g0' := g0
          replace g0 := (hkb 0 (fun h => by have := fa _ h; omega) (by omega)).trans g0
          replace gT := (hkb nx (fun h => by have := fa _ h; omega) (by omega)).trans gT
          replace gW := (hkb N (fun h => by have := fa _ h; omega) (by omega)).trans gW
          clear hkb hfpb hfrb hsrc hown7 hAa
          simp -implicitDefEqProofs (maxDischargeDepth := 12) only [WW,List.replicate,e_splice,if_true,if_false,ite_true,ite_false,true_or,ne_eq,seval,h_putc,beq_self_eq_true,eq_self,exists_eq_left,exists_eq_left', hNN, m0, m1, m3, m4, m5, m6, m7, m8, i0, i1, e6, g0, g0', e_cutm fM, q1]
          have a2 : alen (slm Measure.enc (Option.map (fun x => (x.take S.measures.l.length).drop n) S.measures)) = some (S.measures.l.drop n).length := by rw [e_alenm, sl_drop]
          have a3 : ∀ H, asrc 22 H (slm Measure.enc (Option.map (fun x => (x.take S.measures.l.length).drop n) S.measures)) (S.measures.l.drop n).length = some ((S.measures.l.drop n).flatMap fun v => (Measure.enc v).cells) := fun H => by rw [e_srcm fM (by rw [sl_drop]; omega), sl_drop, List.take_length]
          refine wA_app3F (f := Measure.enc) (bytes := 216) row_Measure hAb (ys := S.measures.l.drop n) a2 (a3 _) (own_flat Measure.enc_plain (fun v => ⟨_, rfl⟩) _) Apart.nil_right (by simp only [List.nil_append, List.length_append, List.length_take, List.length_drop]; omega) ?_
          intro vc Hd fpc hAc hnc hkc hfpc hoc hcc hfrc
          have fc : ∀ b ∈ fpc, N + 1 ≤ b := fun b hb => by rcases hfpc b hb with h | h | h <;> first | exact fb b h | omega | (simp at h; done)
          replace g0 := (hkc 0 (fun h => by have := fb _ h; omega) (by omega)).trans g0
          replace gT := (hkc nx (fun h => by have := fb _ h; omega) (by omega)).trans gT
          replace gW := (hkc N (fun h => by have := fb _ h; omega) (by omega)).trans gW
          have hld : N < Hd.next := by omega
          have nl : ([.sc (.str S.title), .sc (.bool S.written), slm Part.enc S.parts, slm Measure.enc S.measures, slm Spanner.enc S.spanners, slm ID.enc S.last] : List AV).length = 6 := rfl
          clear hkc hfpc hfrc hAb g0'
          simp -implicitDefEqProofs (maxDischargeDepth := 12) only [WW,List.replicate,e_splice,if_true,if_false,ite_true,ite_false,true_or,ne_eq,seval,h_putc,beq_self_eq_true,eq_self,exists_eq_left,exists_eq_left', hNN, m0, m1, m3, m4, m5, m6, m7, m8, gW, gT, hoc, hcc, nl, ol1]
          obtain ⟨D2, F2, hD2s, hD257, hD2c⟩ := case57 T hTsm n ol.length
          have hTl : T.measures.l.length = S.measures.l.length + ol.length := by
            rw [hTn, insM_l S n ol hn]
            show ((S.measures.l.map Measure.cl).take n ++ ol.map Measure.cl ++ (S.measures.l.map Measure.cl).drop n).length = _
            simp only [List.length_append, List.length_take, List.length_drop, List.length_map]; omega
          obtain ⟨rfl, hD2⟩ : F2 = 0 ∧ D2.cn = S.pruned.cn := by
            rcases hD2c with ⟨hb, _, _⟩ | ⟨n2, m2, h1, h2, _, h4, h5⟩
            · unfold badD at hb; omega
            · obtain rfl : n = n2 := by omega
              obtain rfl : ol.length = m2 := by omega
              exact ⟨h4, h5.trans (by rw [hTn]; exact back_cn S n ol hn)⟩
          have hTcn : T.cn = (S.withM ([] ++ S.measures.l.take n ++ ol ++ S.measures.l.drop n)).cn := by rw [hTn]; simpa using insM_cn S n ol hn
          have hTe := T.enc_eq
          have hD2e := D2.enc_eq
          generalize hHe : AHeap.put Hd N _ = He
          have hAe : Acc 1 22 Measure.enc He vc (some ([] ++ S.measures.l.take n ++ ol ++ S.measures.l.drop n)) fpc := by
            subst hHe
            exact hAc.fr fun b hb => by have := fc b hb; rw [c_put_ne (by omega)]
          replace g0 := (show He.cells 0 = Hd.cells 0 by subst hHe; rw [c_put_ne (by omega)]).trans g0
          replace gT := (show He.cells nx = Hd.cells nx by subst hHe; rw [c_put_ne (by omega)]).trans gT
          replace gW : He.cells N = some [.sc (.str S.title), .sc (.bool S.written), slm Part.enc S.parts, vc, slm Spanner.enc S.spanners, slm ID.enc S.last] := by subst hHe; simp -implicitDefEqProofs (maxDischargeDepth := 12) only [WW,List.replicate,e_splice,if_true,if_false,ite_true,ite_false,true_or,ne_eq,seval,h_putc,beq_self_eq_true,eq_self,exists_eq_left,exists_eq_left', gW]
          have hlt := hAe.lts
          clear hAc hHe hld
          try rw [← T.enc_eq]
          refine wA_pure rfl hD257 ?_
          have m9 : ¬ 0 = He.next := by have := h_lt g0; omega
          have m10 : ¬ nx = He.next := by have := h_lt gT; omega
          have m11 : ¬ N = He.next := by have := h_lt gW; omega
          simp -implicitDefEqProofs (maxDischargeDepth := 12) only [WW,List.replicate,e_splice,if_true,if_false,ite_true,ite_false,true_or,ne_eq,seval,h_putc,beq_self_eq_true,eq_self,exists_eq_left,exists_eq_left', hNN, m0, m1, m3, m4, m5, m6, m7, m8, hD2e, hTe, g0, gT, gW, m9, m10, m11]
          generalize hHf : AHeap.put (AHeap.alloc He _) He.next _ = Hf
          have hAf : Acc 1 22 Measure.enc Hf vc (some ([] ++ S.measures.l.take n ++ ol ++ S.measures.l.drop n)) fpc := hAe.fr fun b hb => by
            subst hHf
            have := hlt b hb
            rw [c_put_ne (by omega), c_alloc_ne (by omega)]
          have gD : Hf.cells He.next = some [.sc (.str D2.title), .sc (.bool D2.written), slm Part.enc D2.parts, slm Measure.enc D2.measures, slm Spanner.enc D2.spanners, slm ID.enc D2.last] := by subst hHf; simp -implicitDefEqProofs (maxDischargeDepth := 12) only [WW,List.replicate,e_splice,if_true,if_false,ite_true,ite_false,true_or,ne_eq,seval,h_putc,beq_self_eq_true,eq_self,exists_eq_left,exists_eq_left']
          replace g0 := (show Hf.cells 0 = He.cells 0 by subst hHf; rw [c_put_ne (by omega), c_alloc_ne (by omega)]).trans g0
          clear hHf hAe
          obtain ⟨fq, hOf, hqf⟩ := own_withM (s := S) hAf
          have hsm := same_pv (pol := polM) rfl rfl rfl rfl T (S.withM ([] ++ S.measures.l.take n ++ ol ++ S.measures.l.drop n)) hTsm.tame
          rw [decide_eq_true hTcn] at hsm
          try rw [← T.enc_eq]
          refine wA_pvf rfl (pvf_own (by simp only [AV.closedBs, AV.closedB, hAf.open, Bool.and_false, Bool.false_and]) (.cons (own_score (d := 18) T) (.cons hOf .nil Apart.nil_right) Apart.nil_left) hsm ?_)
          simp -implicitDefEqProofs (maxDischargeDepth := 12) only [WW,List.replicate,e_splice,if_true,if_false,ite_true,ite_false,true_or,ne_eq,seval,h_putc,beq_self_eq_true,eq_self,exists_eq_left,exists_eq_left', g0, gD]
          try rw [← S.enc_eq]
          refine wA_pure rfl (rprune_pv rfl rfl S hs.Tame) ?_
          simp -implicitDefEqProofs (maxDischargeDepth := 12) only [WW,List.replicate,e_splice,if_true,if_false,ite_true,ite_false,true_or,ne_eq,seval,h_putc,beq_self_eq_true,eq_self,exists_eq_left,exists_eq_left', g0, gD]
          try rw [← D2.enc_eq]
          have hsm2 := same_pv (pol := polM) rfl rfl rfl rfl D2 S.pruned hD2s.tame
          rw [decide_eq_true hD2] at hsm2
          refine wA_pure rfl hsm2 ?_
          simp -implicitDefEqProofs (maxDischargeDepth := 12) only [WW,List.replicate,e_splice,if_true,if_false,ite_true,ite_false,true_or,ne_eq,seval,h_putc,beq_self_eq_true,eq_self,exists_eq_left,exists_eq_left']
          exact frz_sc
      · obtain rfl : n = n' := by omega
        have p0 : ¬ (m : Int) < 0 := by omega
        have p1 : ¬ (S.measures.l.length : Int) - (n : Int) < (m : Int) := by omega
        have e7 : IntKind.i64.wrap ((n : Int) + (m : Int)) = ((n + m : Nat) : Int) := by rw [w64 (by omega) (by omega)]; omega
        have q1 : n ≤ S.measures.l.length := by omega
        have q2 : n + m ≤ S.measures.l.length := by omega
        have fM : ∀ v, (Measure.enc v).cells.length = 22 := Measure.enc_len
        have m0 : ¬ 0 = nx + 2 := by omega
        have m1 : ¬ nx = nx + 2 := by omega
        have m2 : ¬ nx + 1 = nx + 2 := by omega
        have m3 : ¬ 0 = nx + 2 + 1 := by omega
        have m4 : ¬ nx = nx + 2 + 1 := by omega
        have m5 : ¬ nx + 1 = nx + 2 + 1 := by omega
        have m6 : ¬ nx + 2 = nx + 2 + 1 := by omega
        have m7 : ¬ nx + 2 + 1 = nx + 2 := by omega
        simp -implicitDefEqProofs (maxDischargeDepth := 12) only [WW,List.replicate,e_splice,if_true,if_false,ite_true,ite_false,true_or,ne_eq,seval,h_putc,beq_self_eq_true,eq_self,exists_eq_left,exists_eq_left', i0, i1, p0, p1, e6, e7, k0, kT, kD, e_cutm fM, q1, q2, hN4, m0, m1, m2, m3, m4, m5, m6, m7]
        generalize hH5 : AHeap.alloc _ (Blk.cells []) = H5
        have g0 : H5.cells 0 = some [.sc (.str S.title), .sc (.bool S.written), slm Part.enc S.parts, slm Measure.enc S.measures, slm Spanner.enc S.spanners, slm ID.enc S.last] := by subst hH5; simp -implicitDefEqProofs (maxDischargeDepth := 12) only [WW,List.replicate,e_splice,if_true,if_false,ite_true,ite_false,true_or,ne_eq,seval,h_putc,beq_self_eq_true,eq_self,exists_eq_left,exists_eq_left', hN4, m0, m1, m2, m3, m4, m5, m6, m7, k0]
        have gT : H5.cells nx = some [.sc (.str T.title), .sc (.bool T.written), slm Part.enc T.parts, slm Measure.enc T.measures, slm Spanner.enc T.spanners, slm ID.enc T.last] := by subst hH5; simp -implicitDefEqProofs (maxDischargeDepth := 12) only [WW,List.replicate,e_splice,if_true,if_false,ite_true,ite_false,true_or,ne_eq,seval,h_putc,beq_self_eq_true,eq_self,exists_eq_left,exists_eq_left', hN4, m0, m1, m2, m3, m4, m5, m6, m7, kT]
        have gD : H5.cells (nx + 1) = some [.sc (.str D.title), .sc (.bool D.written), slm Part.enc D.parts, slm Measure.enc D.measures, slm Spanner.enc D.spanners, slm ID.enc D.last] := by subst hH5; simp -implicitDefEqProofs (maxDischargeDepth := 12) only [WW,List.replicate,e_splice,if_true,if_false,ite_true,ite_false,true_or,ne_eq,seval,h_putc,beq_self_eq_true,eq_self,exists_eq_left,exists_eq_left', hN4, m0, m1, m2, m3, m4, m5, m6, m7, kD]
        have gW : H5.cells (nx + 2) = some [.sc (.str S.title), .sc (.bool S.written), slm Part.enc S.parts, slm Measure.enc S.measures, slm Spanner.enc S.spanners, slm ID.enc S.last] := by subst hH5; simp -implicitDefEqProofs (maxDischargeDepth := 12) only [WW,List.replicate,e_splice,if_true,if_false,ite_true,ite_false,true_or,ne_eq,seval,h_putc,beq_self_eq_true,eq_self,exists_eq_left,exists_eq_left', hN4, m0, m1, m2, m3, m4, m5, m6, m7]
        have gE : H5.cells (nx + 2 + 1) = some [] := by subst hH5; simp -implicitDefEqProofs (maxDischargeDepth := 12) only [WW,List.replicate,e_splice,if_true,if_false,ite_true,ite_false,true_or,ne_eq,seval,h_putc,beq_self_eq_true,eq_self,exists_eq_left,exists_eq_left', hN4, m0, m1, m2, m3, m4, m5, m6, m7]
        have hN5 : H5.next = nx + 4 := by subst hH5; simp only [AHeap.next_put, AHeap.next_alloc, hN4]
        have hown5 := fun h => by
          have := ((hown4 h).alloc (x := Blk.cells [.sc (.str ⟨#[]⟩), .sc (.bool false), .sc .nils, .sc .nils, .sc .nils, .sc .nils])).put (c := nx + 2) (x := some (.cells [.sc (.str S.title), .sc (.bool S.written), slm Part.enc S.parts, slm Measure.enc S.measures, slm Spanner.enc S.spanners, slm ID.enc S.last])) (by rw [h_alloc, if_pos hN4.symm]; rfl)
          have := this.alloc (x := Blk.cells [])
          rwa [hH5] at this
        clear hH5 kT kD hown4
        have k0' := k0
        clear k0
        refine wA_app3F row_Measure (I := true) (d := 1) (l := []) (fp := [nx + 2 + 1]) (ys := S.measures.l.take n) (.inr ⟨nx + 2 + 1, 0, [], [], [], [], rfl, rfl, Nat.le_refl _, gE, rfl, by simp, .nil, by simp, rfl⟩) (by rw [e_alenm, sl_take]) (by rw [e_srcm fM (by rw [sl_take]; omega), sl_take, List.take_length]) (own_flat Measure.enc_plain (fun v => ⟨_, rfl⟩) _) Apart.nil_right ?_ ?_
        · simp only [List.length_take, List.length_nil]; omega
        intro v6 H6 fp6 hA6 hn6 hk6 hfp6 ho6 hc6 hfr6
        have f6 : ∀ b ∈ fp6, nx + 3 ≤ b := fun b hb => by rcases hfp6 b hb with h | h | h <;> first | omega | (simp at h; done) | (simp at h; omega)
        have g0' := g0
        replace g0 := (hk6 0 (by simp) (by omega)).trans g0
        replace gT := (hk6 nx (by rw [List.mem_singleton]; omega) (by omega)).trans gT
        replace gD := (hk6 (nx + 1) (by simp) (by omega)).trans gD
        replace gW := (hk6 (nx + 2) (by simp) (by omega)).trans gW
        simp -implicitDefEqProofs (maxDischargeDepth := 12) only [WW,List.replicate,e_splice,if_true,if_false,ite_true,ite_false,true_or,ne_eq,seval,h_putc,beq_self_eq_true,eq_self,exists_eq_left,exists_eq_left', i0, i1, p0, p1, e6, e7, g0, g0', e_cutm fM, q1, q2, hN4, m0, m1, m2, m3, m4, m5, m6, m7]
        have a2 : alen (slm Measure.enc (Option.map (fun x => (x.take S.measures.l.length).drop (n + m)) S.measures)) = some (S.measures.l.drop (n + m)).length := by rw [e_alenm, sl_drop]
        have a3 : ∀ H, asrc 22 H (slm Measure.enc (Option.map (fun x => (x.take S.measures.l.length).drop (n + m)) S.measures)) (S.measures.l.drop (n + m)).length = some ((S.measures.l.drop (n + m)).flatMap fun v => (Measure.enc v).cells) := fun H => by rw [e_srcm fM (by rw [sl_drop]; omega), sl_drop, List.take_length]
        refine wA_app3F (f := Measure.enc) (bytes := 216) row_Measure hA6 (ys := S.measures.l.drop (n + m)) a2 (a3 _) (own_flat Measure.enc_plain (fun v => ⟨_, rfl⟩) _) Apart.nil_right (by simp only [List.nil_append, List.length_take, List.length_drop]; omega) ?_
        intro v7 H7 fp7 hA7 hn7 hk7 hfp7 ho7 hc7 hfr7
        have hk57 : ∀ b, b ∉ [nx + 2 + 1] → b < H5.next → H7.cells b = H5.cells b := fun b h1 h2 => (hk7 b (fun h => by rcases hfp6 b h with h | h | h <;> first | exact h1 h | omega | simp at h) (by omega)).trans (hk6 b h1 h2)
        have hown7 := fun h => (hown5 h).to (hfr7.trans hfr6) (by omega) hk57 (fun b hb => by rw [List.mem_singleton.1 hb, gE]; rfl)
        have f7 : ∀ b ∈ fp7, nx + 3 ≤ b := fun b hb => by rcases hfp7 b hb with h | h | h <;> first | exact f6 b h | omega | (simp at h; done)
        have w0 : 0 ∉ fp7 := fun h => by have := f7 0 h; omega
        replace g0 := (hk7 0 (fun h => by have := f6 0 h; omega) (by omega)).trans g0
        replace gT := (hk7 nx (fun h => by have := f6 _ h; omega) (by omega)).trans gT
        replace gD := (hk7 (nx + 1) (fun h => by have := f6 _ h; omega) (by omega)).trans gD
        replace gW := (hk7 (nx + 2) (fun h => by have := f6 _ h; omega) (by omega)).trans gW
        clear gE hown5 hk6 hk7 hfr6 hfr7 hk57 hA6 g0' f6 hfp6 hfp7
        have hl7 : nx + 2 < H7.next := by omega
        have nl : ([.sc (.str S.title), .sc (.bool S.written), slm Part.enc S.parts, slm Measure.enc S.measures, slm Spanner.enc S.spanners, slm ID.enc S.last] : List AV).length = 6 := rfl
        simp -implicitDefEqProofs (maxDischargeDepth := 12) only [WW,List.replicate,e_splice,if_true,if_false,ite_true,ite_false,true_or,ne_eq,seval,h_putc,beq_self_eq_true,eq_self,exists_eq_left,exists_eq_left', gW, gD, ho7, hc7, nl, m0, m1, m2, m3, m4, m5, m6, m7]
        have hSw : (S.withM (S.measures.l.take n ++ S.measures.l.drop (n + m))).small := small_withM hs (by simp only [List.length_append, List.length_take, List.length_drop]; omega) (fun x hx => by rcases List.mem_append.1 hx with hx | hx; exact hs.meas x (List.mem_of_mem_take hx); exact hs.meas x (List.mem_of_mem_drop hx))
        generalize hH8 : AHeap.put H7 (nx + 2) _ = H8
        have hA8 : Acc 1 22 Measure.enc H8 v7 (some ([] ++ S.measures.l.take n ++ S.measures.l.drop (n + m))) fp7 := by
          subst hH8
          exact hA7.fr fun b hb => by have := f7 b hb; rw [c_put_ne (by omega)]
        replace g0 := (show H8.cells 0 = H7.cells 0 by subst hH8; rw [c_put_ne (by omega)]).trans g0
        replace gT := (show H8.cells nx = H7.cells nx by subst hH8; rw [c_put_ne (by omega)]).trans gT
        replace gD := (show H8.cells (nx + 1) = H7.cells (nx + 1) by subst hH8; rw [c_put_ne (by omega)]).trans gD
        have hown8 := fun h => by
          have := (hown7 h).put (c := nx + 2) (x := some (.cells [.sc (.str S.title), .sc (.bool S.written), slm Part.enc S.parts, v7, slm Spanner.enc S.spanners, slm ID.enc S.last])) (by rw [gW]; rfl)
          rwa [hH8] at this
        have hN8 : nx + 2 ≤ H8.next := by subst hH8; rw [AHeap.next_put]; omega
        clear hH8 hown7 hA7
        obtain ⟨fq, hO8, hq8⟩ := own_withM (s := S) hA8
        refine wA_pvf rfl (pvf_ownB (by simp only [AV.closedBs, AV.closedB, hA8.open, Bool.and_false, Bool.false_and]) (.cons hO8 .nil Apart.nil_right) (rprune_pv rfl rfl (S.withM ([] ++ S.measures.l.take n ++ S.measures.l.drop (n + m))) (by simpa using hSw.Tame)) fun H9 hless hlf => ?_)
        have hq9 : ∀ b, b < nx + 2 → b ∉ fq ++ [] := fun b hb h => by have := f7 b (hq8 b (by simpa using h)); omega
        replace g0 := (cells_of_get (hless 0 (hq9 _ (by omega)))).trans g0
        replace gT := (cells_of_get (hless nx (hq9 _ (by omega)))).trans gT
        replace gD' := (cells_of_get (hless (nx + 1) (hq9 _ (by omega)))).trans gD
        have hown4 := fun h => (hown8 h).lf hlf
        have hN9 : nx + 2 ≤ H9.next := by rw [hlf.1]; exact hN8
        refine ⟨by simp -implicitDefEqProofs (maxDischargeDepth := 12) only [WW,List.replicate,e_splice,if_true,if_false,ite_true,ite_false,true_or,ne_eq,seval,h_putc,beq_self_eq_true,eq_self,exists_eq_left,exists_eq_left', gD, gD'], ?_⟩
        clear hown8 gW hless hlf gD hO8 hA8
        simp -implicitDefEqProofs (maxDischargeDepth := 12) only [WW,List.replicate,e_splice,if_true,if_false,ite_true,ite_false,true_or,ne_eq,seval,h_putc,beq_self_eq_true,eq_self,exists_eq_left,exists_eq_left']
        try rw [← D.enc_eq]
        have hsm := same_pv (pol := polM) rfl rfl rfl rfl D ((S.withM ([] ++ S.measures.l.take n ++ S.measures.l.drop (n + m))).pruned) hDs.tame
        rw [decide_eq_true (by simpa using hDcn)] at hsm
        refine wA_pure rfl hsm ?_
        clear hsm hSw hq8 hq9
        have k0 := g0
        have kT := gT
        clear g0 gT gD'
        have fM : ∀ v, (Measure.enc v).cells.length = 22 := Measure.enc_len
        have q1 : n ≤ S.measures.l.length := by omega
        generalize hNN : AHeap.next H9 = N at hN9
        have hown5 := hown4 hflat
        have m0 : ¬ 0 = N := by omega
        have m1 : ¬ nx = N := by omega
        have m3 : ¬ 0 = N + 1 := by omega
        have m4 : ¬ nx = N + 1 := by omega
        have m5 : ¬ N = N + 1 := by omega
        have m6 : ¬ N + 1 = N := by omega
        have m7 : ¬ N = 0 := by omega
        have m8 : ¬ N = nx := by omega
        simp -implicitDefEqProofs (maxDischargeDepth := 12) only [WW,List.replicate,e_splice,if_true,if_false,ite_true,ite_false,true_or,ne_eq,seval,h_putc,beq_self_eq_true,eq_self,exists_eq_left,exists_eq_left', i0, i1, hB, e6, k0, kT, e_cutm fM, q1, hNN, m0, m1, m3, m4, m5, m6, m7, m8]
        generalize hHa : AHeap.alloc _ (Blk.cells []) = Ha
        have g0 : Ha.cells 0 = some [.sc (.str S.title), .sc (.bool S.written), slm Part.enc S.parts, slm Measure.enc S.measures, slm Spanner.enc S.spanners, slm ID.enc S.last] := by subst hHa; simp -implicitDefEqProofs (maxDischargeDepth := 12) only [WW,List.replicate,e_splice,if_true,if_false,ite_true,ite_false,true_or,ne_eq,seval,h_putc,beq_self_eq_true,eq_self,exists_eq_left,exists_eq_left', hNN, m0, m1, m3, m4, m5, m6, m7, m8, k0]
        have gT : Ha.cells nx = some [.sc (.str T.title), .sc (.bool T.written), slm Part.enc T.parts, slm Measure.enc T.measures, slm Spanner.enc T.spanners, slm ID.enc T.last] := by subst hHa; simp -implicitDefEqProofs (maxDischargeDepth := 12) only [WW,List.replicate,e_splice,if_true,if_false,ite_true,ite_false,true_or,ne_eq,seval,h_putc,beq_self_eq_true,eq_self,exists_eq_left,exists_eq_left', hNN, m0, m1, m3, m4, m5, m6, m7, m8, kT]
        have gW : Ha.cells N = some [.sc (.str S.title), .sc (.bool S.written), slm Part.enc S.parts, slm Measure.enc S.measures, slm Spanner.enc S.spanners, slm ID.enc S.last] := by subst hHa; simp -implicitDefEqProofs (maxDischargeDepth := 12) only [WW,List.replicate,e_splice,if_true,if_false,ite_true,ite_false,true_or,ne_eq,seval,h_putc,beq_self_eq_true,eq_self,exists_eq_left,exists_eq_left', hNN, m0, m1, m3, m4, m5, m6, m7, m8]
        have gE : Ha.cells (N + 1) = some [] := by subst hHa; simp -implicitDefEqProofs (maxDischargeDepth := 12) only [WW,List.replicate,e_splice,if_true,if_false,ite_true,ite_false,true_or,ne_eq,seval,h_putc,beq_self_eq_true,eq_self,exists_eq_left,exists_eq_left', hNN, m0, m1, m3, m4, m5, m6, m7, m8]
        have hNa : Ha.next = N + 2 := by subst hHa; simp only [AHeap.next_put, AHeap.next_alloc, hNN]
        have hown6 : OwnR Measure.enc 22 Ha a ol := by
          have := (hown5.alloc (x := Blk.cells [.sc (.str ⟨#[]⟩), .sc (.bool false), .sc .nils, .sc .nils, .sc .nils, .sc .nils])).put (c := N) (x := some (.cells [.sc (.str S.title), .sc (.bool S.written), slm Part.enc S.parts, slm Measure.enc S.measures, slm Spanner.enc S.spanners, slm ID.enc S.last])) (by rw [h_alloc, if_pos hNN.symm]; rfl)
          have := this.alloc (x := Blk.cells [])
          rwa [hHa] at this
        clear hHa hown5
        obtain ⟨ol1, ol2⟩ := hown6.len
        refine wA_app3F row_Measure (I := true) (d := 1) (l := []) (fp := [N + 1]) (ys := S.measures.l.take n) (.inr ⟨N + 1, 0, [], [], [], [], rfl, rfl, Nat.le_refl _, gE, rfl, by simp, .nil, by simp, rfl⟩) (by rw [e_alenm, sl_take]) (by rw [e_srcm fM (by rw [sl_take]; omega), sl_take, List.take_length]) (own_flat Measure.enc_plain (fun v => ⟨_, rfl⟩) _) Apart.nil_right ?_ ?_
        · simp only [List.length_take, List.length_nil]; omega
        intro va Hb fpa hAa hna hka hfpa hoa hca hfra
        have hown7 := hown6.to hfra hna hka (fun b hb => by rw [List.mem_singleton.1 hb, gE]; rfl)
        have fa : ∀ b ∈ fpa, N + 1 ≤ b := fun b hb => by rcases hfpa b hb with h | h | h <;> first | omega | (simp at h; done) | (simp at h; omega)
        have g0' := g0
        replace g0 := (hka 0 (by simp) (by omega)).trans g0
        replace gT := (hka nx (by rw [List.mem_singleton]; omega) (by omega)).trans gT
        replace gW := (hka N (by rw [List.mem_singleton]; omega) (by omega)).trans gW
        clear hown6 hka hfra hfpa gE
        simp -implicitDefEqProofs (maxDischargeDepth := 12) only [WW,List.replicate,e_splice,if_true,if_false,ite_true,ite_false,true_or,ne_eq,seval,h_putc,beq_self_eq_true,eq_self,exists_eq_left,exists_eq_left', hNN, m0, m1, m3, m4, m5, m6, m7, m8, i0, i1, e6, g0, g0', e_cutm fM, q1]
        have hsrc := hown7.src row_Measure
        refine wA_app3F (f := Measure.enc) (bytes := 216) row_Measure hAa (ys := ol) ol2 hsrc (own_flat Measure.enc_plain (fun v => ⟨_, rfl⟩) _) Apart.nil_right (by simp only [List.nil_append, List.length_take]; omega) ?_
        intro vb Hc fpb hAb hnb hkb hfpb hob hcb hfrb
        have fb : ∀ b ∈ fpb, N + 1 ≤ b := fun b hb => by rcases hfpb b hb with h | h | h <;> first | exact fa b h | omega | (simp at h; done)
        replace g0' := g0
        replace g0 := (hkb 0 (fun h => by have := fa _ h; omega) (by omega)).trans g0
        replace gT := (hkb nx (fun h => by have := fa _ h; omega) (by omega)).trans gT
        replace gW := (hkb N (fun h => by have := fa _ h; omega) (by omega)).trans gW
        clear hkb hfpb hfrb hsrc hown7 hAa
        simp -implicitDefEqProofs (maxDischargeDepth := 12) only [WW,List.replicate,e_splice,if_true,if_false,ite_true,ite_false,true_or,ne_eq,seval,h_putc,beq_self_eq_true,eq_self,exists_eq_left,exists_eq_left', hNN, m0, m1, m3, m4, m5, m6, m7, m8, i0, i1, e6, g0, g0', e_cutm fM, q1]
        have a2 : alen (slm Measure.enc (Option.map (fun x => (x.take S.measures.l.length).drop n) S.measures)) = some (S.measures.l.drop n).length := by rw [e_alenm, sl_drop]
        have a3 : ∀ H, asrc 22 H (slm Measure.enc (Option.map (fun x => (x.take S.measures.l.length).drop n) S.measures)) (S.measures.l.drop n).length = some ((S.measures.l.drop n).flatMap fun v => (Measure.enc v).cells) := fun H => by rw [e_srcm fM (by rw [sl_drop]; omega), sl_drop, List.take_length]
        refine wA_app3F (f := Measure.enc) (bytes := 216) row_Measure hAb (ys := S.measures.l.drop n) a2 (a3 _) (own_flat Measure.enc_plain (fun v => ⟨_, rfl⟩) _) Apart.nil_right (by simp only [List.nil_append, List.length_append, List.length_take, List.length_drop]; omega) ?_
        intro vc Hd fpc hAc hnc hkc hfpc hoc hcc hfrc
        have fc : ∀ b ∈ fpc, N + 1 ≤ b := fun b hb => by rcases hfpc b hb with h | h | h <;> first | exact fb b h | omega | (simp at h; done)
        replace g0 := (hkc 0 (fun h => by have := fb _ h; omega) (by omega)).trans g0
        replace gT := (hkc nx (fun h => by have := fb _ h; omega) (by omega)).trans gT
        replace gW := (hkc N (fun h => by have := fb _ h; omega) (by omega)).trans gW
        have hld : N < Hd.next := by omega
        have nl : ([.sc (.str S.title), .sc (.bool S.written), slm Part.enc S.parts, slm Measure.enc S.measures, slm Spanner.enc S.spanners, slm ID.enc S.last] : List AV).length = 6 := rfl
        clear hkc hfpc hfrc hAb g0'
        simp -implicitDefEqProofs (maxDischargeDepth := 12) only [WW,List.replicate,e_splice,if_true,if_false,ite_true,ite_false,true_or,ne_eq,seval,h_putc,beq_self_eq_true,eq_self,exists_eq_left,exists_eq_left', hNN, m0, m1, m3, m4, m5, m6, m7, m8, gW, gT, hoc, hcc, nl, ol1]
        obtain ⟨D2, F2, hD2s, hD257, hD2c⟩ := case57 T hTsm n ol.length
        have hTl : T.measures.l.length = S.measures.l.length + ol.length := by
          rw [hTn, insM_l S n ol hn]
          show ((S.measures.l.map Measure.cl).take n ++ ol.map Measure.cl ++ (S.measures.l.map Measure.cl).drop n).length = _
          simp only [List.length_append, List.length_take, List.length_drop, List.length_map]; omega
        obtain ⟨rfl, hD2⟩ : F2 = 0 ∧ D2.cn = S.pruned.cn := by
          rcases hD2c with ⟨hb, _, _⟩ | ⟨n2, m2, h1, h2, _, h4, h5⟩
          · unfold badD at hb; omega
          · obtain rfl : n = n2 := by omega
            obtain rfl : ol.length = m2 := by omega
            exact ⟨h4, h5.trans (by rw [hTn]; exact back_cn S n ol hn)⟩
        have hTcn : T.cn = (S.withM ([] ++ S.measures.l.take n ++ ol ++ S.measures.l.drop n)).cn := by rw [hTn]; simpa using insM_cn S n ol hn
        have hTe := T.enc_eq
        have hD2e := D2.enc_eq
        generalize hHe : AHeap.put Hd N _ = He
        have hAe : Acc 1 22 Measure.enc He vc (some ([] ++ S.measures.l.take n ++ ol ++ S.measures.l.drop n)) fpc := by
          subst hHe
          exact hAc.fr fun b hb => by have := fc b hb; rw [c_put_ne (by omega)]
        replace g0 := (show He.cells 0 = Hd.cells 0 by subst hHe; rw [c_put_ne (by omega)]).trans g0
        replace gT := (show He.cells nx = Hd.cells nx by subst hHe; rw [c_put_ne (by omega)]).trans gT
        replace gW : He.cells N = some [.sc (.str S.title), .sc (.bool S.written), slm Part.enc S.parts, vc, slm Spanner.enc S.spanners, slm ID.enc S.last] := by subst hHe; simp -implicitDefEqProofs (maxDischargeDepth := 12) only [WW,List.replicate,e_splice,if_true,if_false,ite_true,ite_false,true_or,ne_eq,seval,h_putc,beq_self_eq_true,eq_self,exists_eq_left,exists_eq_left', gW]
        have hlt := hAe.lts
        clear hAc hHe hld
        try rw [← T.enc_eq]
        refine wA_pure rfl hD257 ?_
        have m9 : ¬ 0 = He.next := by have := h_lt g0; omega
        have m10 : ¬ nx = He.next := by have := h_lt gT; omega
        have m11 : ¬ N = He.next := by have := h_lt gW; omega
        simp -implicitDefEqProofs (maxDischargeDepth := 12) only [WW,List.replicate,e_splice,if_true,if_false,ite_true,ite_false,true_or,ne_eq,seval,h_putc,beq_self_eq_true,eq_self,exists_eq_left,exists_eq_left', hNN, m0, m1, m3, m4, m5, m6, m7, m8, hD2e, hTe, g0, gT, gW, m9, m10, m11]
        generalize hHf : AHeap.put (AHeap.alloc He _) He.next _ = Hf
        have hAf : Acc 1 22 Measure.enc Hf vc (some ([] ++ S.measures.l.take n ++ ol ++ S.measures.l.drop n)) fpc := hAe.fr fun b hb => by
          subst hHf
          have := hlt b hb
          rw [c_put_ne (by omega), c_alloc_ne (by omega)]
        have gD : Hf.cells He.next = some [.sc (.str D2.title), .sc (.bool D2.written), slm Part.enc D2.parts, slm Measure.enc D2.measures, slm Spanner.enc D2.spanners, slm ID.enc D2.last] := by subst hHf; simp -implicitDefEqProofs (maxDischargeDepth := 12) only [WW,List.replicate,e_splice,if_true,if_false,ite_true,ite_false,true_or,ne_eq,seval,h_putc,beq_self_eq_true,eq_self,exists_eq_left,exists_eq_left']
        replace g0 := (show Hf.cells 0 = He.cells 0 by subst hHf; rw [c_put_ne (by omega), c_alloc_ne (by omega)]).trans g0
        clear hHf hAe
        obtain ⟨fq, hOf, hqf⟩ := own_withM (s := S) hAf
        have hsm := same_pv (pol := polM) rfl rfl rfl rfl T (S.withM ([] ++ S.measures.l.take n ++ ol ++ S.measures.l.drop n)) hTsm.tame
        rw [decide_eq_true hTcn] at hsm
        try rw [← T.enc_eq]
        refine wA_pvf rfl (pvf_own (by simp only [AV.closedBs, AV.closedB, hAf.open, Bool.and_false, Bool.false_and]) (.cons (own_score (d := 18) T) (.cons hOf .nil Apart.nil_right) Apart.nil_left) hsm ?_)
        simp -implicitDefEqProofs (maxDischargeDepth := 12) only [WW,List.replicate,e_splice,if_true,if_false,ite_true,ite_false,true_or,ne_eq,seval,h_putc,beq_self_eq_true,eq_self,exists_eq_left,exists_eq_left', g0, gD]
        try rw [← S.enc_eq]
        refine wA_pure rfl (rprune_pv rfl rfl S hs.Tame) ?_
        simp -implicitDefEqProofs (maxDischargeDepth := 12) only [WW,List.replicate,e_splice,if_true,if_false,ite_true,ite_false,true_or,ne_eq,seval,h_putc,beq_self_eq_true,eq_self,exists_eq_left,exists_eq_left', g0, gD]
        try rw [← D2.enc_eq]
        have hsm2 := same_pv (pol := polM) rfl rfl rfl rfl D2 S.pruned hD2s.tame
        rw [decide_eq_true hD2] at hsm2
        refine wA_pure rfl hsm2 ?_
        simp -implicitDefEqProofs (maxDischargeDepth := 12) only [WW,List.replicate,e_splice,if_true,if_false,ite_true,ite_false,true_or,ne_eq,seval,h_putc,beq_self_eq_true,eq_self,exists_eq_left,exists_eq_left']
        exact frz_sc
  · simp -implicitDefEqProofs (maxDischargeDepth := 12) only [WW,List.replicate,e_splice,if_true,if_false,ite_true,ite_false,true_or,ne_eq,seval,h_putc,beq_self_eq_true,eq_self,exists_eq_left,exists_eq_left', hSe]
  · simp -implicitDefEqProofs (maxDischargeDepth := 12) only [WW,List.replicate,e_splice,if_true,if_false,ite_true,ite_false,true_or,ne_eq,seval,h_putc,beq_self_eq_true,eq_self,exists_eq_left,exists_eq_left']
  rintro k t H ⟨j, fp, a, hk, hH0, hH1, hA, hfp, y, rfl⟩
  simp only [S.enc_eq, c_agg] at hH0
  have hj4 : j ≤ 4 := by omega
  have hjl : j ≤ l.l.length := by omega
  by_cases c1 : (j : Int) < (l.l.length : Int)
  · by_cases c2 : (j : Int) < 4
    · obtain ⟨x, hx⟩ : ∃ y, l.l[j]? = some y := ⟨_, List.getElem?_eq_getElem (by omega)⟩
      have e2 : IntKind.i64.wrap ((j : Int) + 1) = ((j + 1 : Nat) : Int) := by rw [w64 (by omega) (by omega)]; omega
      simp -implicitDefEqProofs (maxDischargeDepth := 12) only [WW,List.replicate,e_splice,if_true,if_false,ite_true,ite_false,true_or,ne_eq,seval,h_putc,beq_self_eq_true,eq_self,exists_eq_left,exists_eq_left', c1, c2, hx, x.enc_eq]
      rw [← x.enc_eq]
      refine wA_pure rfl (shortMeasure_pv rfl rfl rfl x) ?_
      generalize hxs : x.short = xs
      have hxe := xs.enc_eq
      simp -implicitDefEqProofs (maxDischargeDepth := 12) only [WW,List.replicate,e_splice,if_true,if_false,ite_true,ite_false,true_or,ne_eq,seval,h_putc,beq_self_eq_true,eq_self,exists_eq_left,exists_eq_left', hxe]
      refine wA_app2 row_Measure hA (by repeat (first | exact Keep.refl | refine Keep.put (by (try simp only [AHeap.next_alloc, AHeap.next_put]); omega) ?_ | refine Keep.alloc (by (try simp only [AHeap.next_alloc, AHeap.next_put]); omega) ?_)) (by simp) (ys := [xs]) (by simp) rfl (asrc_new (by simp) rfl) (own_one (Measure.enc_plain _) xs.enc_eq) Apart.nil_right ?_ ?_
      · rw [l_of, ownM_len hjl]; simp only [List.length_cons, List.length_nil]; omega
      intro v' H2 fp' hA' hn2 hk2 hfp2 ho2 hc2
      have g0 := (hk2 0 (fun h => by have := hfp 0 h; omega) (h_lt hH0)).trans hH0
      have g1 := (hk2 1 (fun h => by have := hfp 1 h; omega) (h_lt hH1)).trans hH1
      have hfp3 : ∀ b ∈ fp', 2 ≤ b := fun b hb => by
        rcases hfp2 b hb with h | h | h
        · exact hfp b h
        · simp at h
        · have := h_lt hH1; omega
      have hown : ownM l (j + 1) = ownM l j ++ [xs] := by rw [ownM_succ hx, hxs]
      have hAs := hA'
      rw [of_snoc', ← hown] at hAs
      rw [l_of] at hA'
      have hjx : (ownM l j ++ [xs])[j]? = some xs := by
        rw [List.getElem?_append_right (by rw [ownM_len hjl]; omega), ownM_len hjl]; simp
      obtain ⟨b, cap, cs, w, fw, rfl, q1, q2, q3, q4⟩ := acc_at (j := 21) (u := slm Cell.enc xs.cells) row_Measure hA' hjx rfl
      have hlw := own_lenT (d := 0) (q4.mono (Nat.le_refl _))
      have hlen : (ownM l j ++ [xs]).length = j + 1 := by rw [List.length_append, ownM_len hjl]; rfl
      have hfit : fitsB S (ownM l (j + 1)) = (fitsB S (ownM l j) && decide (xs.cells.l.length = stavesOf S.parts.l)) := by rw [hown, fitsB_snoc]
      have hjlt : j < j + 1 := by omega
      rw [hlen] at hAs ⊢
      cases hB : fitsB S (ownM l j) with
      | false =>
        rw [hB, Bool.false_and] at hfit
        simp -implicitDefEqProofs (maxDischargeDepth := 12) only [WW,List.replicate,e_splice,if_true,if_false,ite_true,ite_false,true_or,ne_eq,seval,h_putc,beq_self_eq_true,eq_self,exists_eq_left,exists_eq_left', e2]
        exact ⟨k - 1, by omega, j + 1, fp', _, by omega, g0, g1, hAs, hfp3, by rw [hfit]; exact ex_x rfl⟩
      | true =>
        rw [hB, Bool.true_and] at hfit
        simp -implicitDefEqProofs (maxDischargeDepth := 12) only [WW,List.replicate,e_splice,if_true,if_false,ite_true,ite_false,true_or,ne_eq,seval,h_putc,beq_self_eq_true,eq_self,exists_eq_left,exists_eq_left', e2, hjlt, q1, q3, hlw, g0]
        try rw [← S.enc_eq]
        refine wA_pure rfl (rstaves_pv S hTs.staves hTs.parts) ?_
        by_cases h4 : xs.cells.l.length = stavesOf S.parts.l
        · have h5 : (xs.cells.l.length : Int) = (stavesOf S.parts.l : Int) := by omega
          rw [decide_eq_true h4] at hfit
          simp -implicitDefEqProofs (maxDischargeDepth := 12) only [WW,List.replicate,e_splice,if_true,if_false,ite_true,ite_false,true_or,ne_eq,seval,h_putc,beq_self_eq_true,eq_self,exists_eq_left,exists_eq_left', e2, h5]
          exact ⟨k - 1, by omega, j + 1, fp', _, by omega, g0, g1, hAs, hfp3, by rw [hfit]; exact ex_x rfl⟩
        · have h5 : ¬ (xs.cells.l.length : Int) = (stavesOf S.parts.l : Int) := by omega
          rw [decide_eq_false h4] at hfit
          simp -implicitDefEqProofs (maxDischargeDepth := 12) only [WW,List.replicate,e_splice,if_true,if_false,ite_true,ite_false,true_or,ne_eq,seval,h_putc,beq_self_eq_true,eq_self,exists_eq_left,exists_eq_left', e2, h5]
          exact ⟨k - 1, by omega, j + 1, fp', _, by omega, g0, g1, hAs, hfp3, by rw [hfit]; exact ex_x rfl⟩
    · have hje : ownM l j = ownM l 4 := ownM_end hj4 (by omega)
      rw [hje] at hA ⊢
      simp -implicitDefEqProofs (maxDischargeDepth := 12) only [WW,List.replicate,e_splice,if_true,if_false,ite_true,ite_false,true_or,ne_eq,seval,h_putc,beq_self_eq_true,eq_self,exists_eq_left,exists_eq_left', c1, c2]
      exact ⟨j, fp, a, by rw [hH0, S.enc_eq]; rfl, hH1, hA, hfp, ex_x rfl⟩
  · have hje : ownM l j = ownM l 4 := ownM_end hj4 (by omega)
    rw [hje] at hA ⊢
    simp -implicitDefEqProofs (maxDischargeDepth := 12) only [WW,List.replicate,e_splice,if_true,if_false,ite_true,ite_false,true_or,ne_eq,seval,h_putc,beq_self_eq_true,eq_self,exists_eq_left,exists_eq_left', c1]
    exact ⟨j, fp, a, by rw [hH0, S.enc_eq]; rfl, hH1, hA, hfp, ex_x rfl⟩
end Go.Hem
